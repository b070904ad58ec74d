/-
  Texts of one kind, one behind the other.
-/
import Derived.Test.YtmioichjhiengaaGreatBaseCall
import Derived.Test.YtmioichjhiengaaGreatBaseA
set_option linter.unusedSimpArgs false
set_option linter.unusedVariables false
/-
  The reference's number of a key.
-/
--auto
namespace Go.Proofs.YtmioichjhiengaaGreat
open Go.RowKit

theorem xor_two (a b : Nat) : (a ^^^ b) % 2 = (a + b) % 2 := by
  have h := @Nat.xor_mod_two_pow a b 1
  rw [Nat.pow_one] at h
  rw [h]
  rcases Nat.mod_two_eq_zero_or_one a with h1 | h1 <;> rcases Nat.mod_two_eq_zero_or_one b with h2 | h2 <;> rw [h1, h2] <;> simp <;> omega
theorem xor_bit (x y j : Nat) : (x ^^^ y) % 2 ^ (j + 1) = (x ^^^ y) % 2 ^ j + 2 ^ j * ((x / 2 ^ j + y / 2 ^ j) % 2) := by
  rw [Nat.mod_pow_succ, Nat.xor_div_two_pow, xor_two]
theorem xor_low (n c : Nat) (hc : c < 256) : n ^^^ c = n - n % 256 + ((n % 256) ^^^ c) := by
  have h1 : (n ^^^ c) / 2 ^ 8 = n / 2 ^ 8 := by rw [Nat.xor_div_two_pow, Nat.div_eq_of_lt (show c < 2 ^ 8 by omega), Nat.xor_zero]
  have h2 : (n ^^^ c) % 2 ^ 8 = (n % 2 ^ 8) ^^^ c := by rw [Nat.xor_mod_two_pow, Nat.mod_eq_of_lt (show c < 2 ^ 8 by omega)]
  have h3 : (2 : Nat) ^ 8 = 256 := rfl
  rw [h3] at h1 h2
  omega

theorem int_eq {k : IntKind} {a b : Int} (h : a = b) : Value.int k a = Value.int k b := by rw [h]
def pw : Nat → Int | 0 => 1 | 1 => 2 | 2 => 4 | 3 => 8 | 4 => 16 | 5 => 32 | 6 => 64 | 7 => 128 | _ => 256

end Go.Proofs.YtmioichjhiengaaGreat

/-
  The reference's May, Keyed, Group of a call.
-/
--auto
namespace Go.Proofs.YtmioichjhiengaaGreat
open Go.RowKit

theorem ref12_keyed (w : World) (x : Call) : Calls Tryz.prog 33 #[.agg x.cells.toArray] w fun e w' => e = .returned (.bool x.keyedB) ∧ Keep none_ w w' := by
  obtain ⟨op, key, time, value, fin, group, shard⟩ := x
  unfold Call.keyedB
  by_cases h1 : op = 1
  · subst h1
    go_enter Tryz.func33, Tryz.ntmps33
    go_wp2
    go_ret
    exact ⟨by simp, (by repeat' (first | exact Keep.refl _ _ | refine Keep.set1 ?_ _ | refine Keep.alloc ?_ _ | refine Keep.drew ?_ | refine Keep.setNew ?_ (by simp) _))⟩
  have b1 : (op == 1) = false := by simp [h1]
  by_cases h2 : op = 2
  · subst h2
    go_enter Tryz.func33, Tryz.ntmps33
    go_wp2
    go_ret
    exact ⟨by simp, (by repeat' (first | exact Keep.refl _ _ | refine Keep.set1 ?_ _ | refine Keep.alloc ?_ _ | refine Keep.drew ?_ | refine Keep.setNew ?_ (by simp) _))⟩
  have b2 : (op == 2) = false := by simp [h2]
  by_cases h4 : op = 4
  · subst h4
    go_enter Tryz.func33, Tryz.ntmps33
    go_wp2
    go_ret
    exact ⟨by simp, (by repeat' (first | exact Keep.refl _ _ | refine Keep.set1 ?_ _ | refine Keep.alloc ?_ _ | refine Keep.drew ?_ | refine Keep.setNew ?_ (by simp) _))⟩
  have b4 : (op == 4) = false := by simp [h4]
  go_enter Tryz.func33, Tryz.ntmps33
  go_wp2
  go_ret
  exact ⟨by simp [b1, b2, b4], (by repeat' (first | exact Keep.refl _ _ | refine Keep.set1 ?_ _ | refine Keep.alloc ?_ _ | refine Keep.drew ?_ | refine Keep.setNew ?_ (by simp) _))⟩


set_option maxHeartbeats 1000000 in
theorem ref12_may (w : World) (c : Config) (x : Call) (hc : c.ok) (hx : x.ok) : Calls Tryz.prog 32 #[.agg c.cells.toArray, .agg x.cells.toArray] w fun e w' => e = .returned (.bool (x.mayB c)) ∧ Keep none_ w w' := by
  have c0 := Lib.hid (fun w => ref_may w c hc)
  have c1 := Lib.hid (fun w => ref12_keyed w x)
  have ax := At.newAt (w := w.alloc (.cells c.cells.toArray 23)) (n := w.heap.size + 1) (by simp) x.cells.toArray 60
  have ac := At.alloc (At.new w c.cells.toArray 23) (.cells x.cells.toArray 60)
  have kk : Keep none_ w ((w.alloc (.cells c.cells.toArray 23)).alloc (.cells x.cells.toArray 60)) := (by repeat' (first | exact Keep.refl _ _ | refine Keep.set1 ?_ _ | refine Keep.alloc ?_ _ | refine Keep.drew ?_ | refine Keep.setNew ?_ (by simp) _))
  simp only [Config.cells, Call.cells] at ax ac kk
  obtain ⟨r, hr⟩ : ∃ r, r = x.mayB c := ⟨_, rfl⟩
  rw [← hr]
  unfold Call.mayB Call.restB mayK in0 at hr
  replace hr := Lib.hid hr
  have hks := hx.2.1
  unfold maxLen at hks
  clear hx hc
  generalize x.keyedB = b at *
  generalize c.mayB = bm at *
  go_enter Tryz.func32, Tryz.ntmps32
  go_wp2_with fail
  refine (c0.out _).mono ?_
  rintro e w1 ⟨rfl, k⟩
  replace ax := Keep.at k ax (fun e => e)
  replace ac := Keep.at k ac (fun e => e)
  replace kk := kk.trans k
  have cx := At.cell ax
  have cc := At.cell ac
  clear k
  cases bm
  · go_wp2_with fail
    go_ret
    have e9 : r = false := by rw [hr.out]; simp
    subst e9
    exact ⟨rfl, kk⟩
  by_cases o1 : x.op < 1
  · go_wp2_with fail
    go_ret
    have e9 : r = false := by rw [hr.out]; simp; omega
    subst e9
    exact ⟨rfl, kk⟩
  by_cases o7 : 7 < x.op
  · go_wp2_with fail
    go_ret
    have e9 : r = false := by rw [hr.out]; simp; omega
    subst e9
    exact ⟨rfl, kk⟩
  have o1' : 1 ≤ x.op := by omega
  have o7' : x.op ≤ 7 := by omega
  have hr2 : r = (if b && !(decide (1 ≤ x.key.size) && decide (x.key.size ≤ 20)) then false else if x.op = 4 then decide (x.time < x.fin) else if x.op = 6 then (decide (0 ≤ x.group) && decide (x.group < c.groups)) && (decide (0 ≤ x.shard) && decide (x.shard < c.shards)) else true) := by
    rw [hr.out]; simp [o1', o7']
  clear hr
  go_wp2_with fail
  refine (c1.out _).mono ?_
  rintro e w2 ⟨rfl, k⟩
  replace ax := Keep.at k ax (fun e => e)
  replace ac := Keep.at k ac (fun e => e)
  replace kk := kk.trans k
  have cx := At.cell ax
  have cc := At.cell ac
  clear k
  have tail : (x.op = 4 ∧ x.time < x.fin ∧ (b = true → 1 ≤ x.key.size ∧ x.key.size ≤ 20) ∧ r = true) ∨ True := .inr trivial
  clear tail
  cases b
  · rw [Bool.false_and, if_neg (by decide)] at hr2
    by_cases h4 : x.op = 4
    · rw [if_pos h4] at hr2
      have b4 : (x.op == 4) = true := by simp [h4]
      have b6 : (x.op != 6) = true := by simp [h4]
      clear h4 o1 o7 o1' o7'
      by_cases ht : x.fin ≤ x.time
      · have e9 : r = false := by rw [hr2]; simp; omega
        subst e9
        clear hr2
        go_wp2_with fail
        go_ret
        exact ⟨rfl, kk⟩
      · have e9 : r = true := by rw [hr2]; simp; omega
        subst e9
        clear hr2
        go_wp2_with fail
        go_ret
        exact ⟨rfl, kk⟩
    · rw [if_neg h4] at hr2
      have b4 : (x.op == 4) = false := by simp [h4]
      by_cases h6 : x.op = 6
      · rw [if_pos h6] at hr2
        have b6 : (x.op != 6) = false := by simp [h6]
        clear h4 h6 o1 o7 o1' o7'
        by_cases g1 : 0 ≤ x.group
        · by_cases g2 : x.group < c.groups
          · by_cases g3 : 0 ≤ x.shard
            · have e9 : r = decide (x.shard < c.shards) := by rw [hr2]; simp [g1, g2, g3]
              subst e9
              clear hr2
              go_wp2_with fail
              go_ret
              exact ⟨rfl, kk⟩
            · have d3 : decide (0 ≤ x.shard) = false := by simpa using g3
              have e9 : r = false := by rw [hr2]; simp [d3]
              subst e9
              clear hr2
              go_wp2_with fail
              go_ret
              exact ⟨rfl, kk⟩
          · have d2 : decide (x.group < c.groups) = false := by simpa using g2
            have e9 : r = false := by rw [hr2]; simp [d2]
            subst e9
            clear hr2
            go_wp2_with fail
            go_ret
            exact ⟨rfl, kk⟩
        · have d1 : decide (0 ≤ x.group) = false := by simpa using g1
          have e9 : r = false := by rw [hr2]; simp [d1]
          subst e9
          clear hr2
          go_wp2_with fail
          go_ret
          exact ⟨rfl, kk⟩
      · rw [if_neg h6] at hr2
        have b6 : (x.op != 6) = true := by simp [h6]
        clear h4 h6 o1 o7 o1' o7'
        subst hr2
        go_wp2_with fail
        go_ret
        exact ⟨rfl, kk⟩
  · by_cases k1 : x.key.size < 1
    · have e9 : r = false := by rw [hr2, decide_eq_false (show ¬ 1 ≤ x.key.size by omega)]; rfl
      subst e9
      clear hr2
      go_wp2_with fail
      go_ret
      exact ⟨rfl, kk⟩
    · by_cases k2 : 20 < x.key.size
      · have e9 : r = false := by rw [hr2, decide_eq_false (show ¬ x.key.size ≤ 20 by omega), Bool.and_false]; rfl
        subst e9
        clear hr2
        go_wp2_with fail
        go_ret
        exact ⟨rfl, kk⟩
      · rw [decide_eq_true (show 1 ≤ x.key.size by omega), decide_eq_true (show x.key.size ≤ 20 by omega)] at hr2
        rw [if_neg (by decide)] at hr2
        by_cases h4 : x.op = 4
        · rw [if_pos h4] at hr2
          have b4 : (x.op == 4) = true := by simp [h4]
          have b6 : (x.op != 6) = true := by simp [h4]
          clear h4 o1 o7 o1' o7'
          by_cases ht : x.fin ≤ x.time
          · have e9 : r = false := by rw [hr2]; simp; omega
            subst e9
            clear hr2
            go_wp2_with fail
            go_ret
            exact ⟨rfl, kk⟩
          · have e9 : r = true := by rw [hr2]; simp; omega
            subst e9
            clear hr2
            go_wp2_with fail
            go_ret
            exact ⟨rfl, kk⟩
        · rw [if_neg h4] at hr2
          have b4 : (x.op == 4) = false := by simp [h4]
          by_cases h6 : x.op = 6
          · rw [if_pos h6] at hr2
            have b6 : (x.op != 6) = false := by simp [h6]
            clear h4 h6 o1 o7 o1' o7'
            by_cases g1 : 0 ≤ x.group
            · by_cases g2 : x.group < c.groups
              · by_cases g3 : 0 ≤ x.shard
                · have e9 : r = decide (x.shard < c.shards) := by rw [hr2]; simp [g1, g2, g3]
                  subst e9
                  clear hr2
                  go_wp2_with fail
                  go_ret
                  exact ⟨rfl, kk⟩
                · have d3 : decide (0 ≤ x.shard) = false := by simpa using g3
                  have e9 : r = false := by rw [hr2]; simp [d3]
                  subst e9
                  clear hr2
                  go_wp2_with fail
                  go_ret
                  exact ⟨rfl, kk⟩
              · have d2 : decide (x.group < c.groups) = false := by simpa using g2
                have e9 : r = false := by rw [hr2]; simp [d2]
                subst e9
                clear hr2
                go_wp2_with fail
                go_ret
                exact ⟨rfl, kk⟩
            · have d1 : decide (0 ≤ x.group) = false := by simpa using g1
              have e9 : r = false := by rw [hr2]; simp [d1]
              subst e9
              clear hr2
              go_wp2_with fail
              go_ret
              exact ⟨rfl, kk⟩
          · rw [if_neg h6] at hr2
            have b6 : (x.op != 6) = true := by simp [h6]
            clear h4 h6 o1 o7 o1' o7'
            subst hr2
            go_wp2_with fail
            go_ret
            exact ⟨rfl, kk⟩
end Go.Proofs.YtmioichjhiengaaGreat

/-
  Replies: how an argument reads as one; call.Same, the reference's Same.
-/
--auto
namespace Go.Proofs.YtmioichjhiengaaGreat
open Go.RowKit

structure Reply where
  code : Int
  panes : List Pane
def rReply : Rdr Reply := fun w r cs => ∃ A n c, cs = [.int .i64 r.code, .slice A n c] ∧ I64 r.code ∧ Sl Pane.cells 7 w A n c r.panes ∧ ∀ p ∈ r.panes, p.ok
theorem rPane_of (w : World) (x : Pane) (cs : List Value) (h : rPane w x cs) : cs = x.cells ∧ x.ok := h
theorem cellsOf_Reply : Tryz.prog.cellsOf 57 = 2 := by kernel_rfl
theorem opens_Reply : Opens Tryz.prog 57 rReply := by
  intro H enc w fuel cs x h
  have hl := opens_len Tryz.underlying57 cellsOf_Reply h
  obtain ⟨a0, h0⟩ := opens_field (i := 0) (o := 0) (m := 1) Tryz.underlying57 rfl rfl (by kernel_rfl) (opens_int (by kernel_rfl)) H enc w fuel cs x h
  obtain ⟨a1, h1⟩ := opens_field (i := 1) (o := 1) (m := 1) Tryz.underlying57 rfl rfl (by kernel_rfl) (opens_slice (size := 7) Tryz.underlying34 (by kernel_rfl) (by decide) opens_Pane) H enc w fuel cs x h
  match cs, hl with
  | [u, v], _ =>
    simp only [List.drop, List.take, rInt] at h0 h1
    obtain ⟨h0, h0'⟩ := h0
    obtain rfl : u = .int .i64 a0 := by simpa using h0
    obtain ⟨A, n, c, rfl, hs, hok⟩ := sl_of Pane.cells Pane.ok rPane_of h1
    exact ⟨⟨a0, a1⟩, A, n, c, rfl, h0', hs, hok⟩

theorem call_same (w : World) (x y : Int) {A B : Option Addr} {n c m d : Nat} {a b : List Pane} (h1 : Sl Pane.cells 7 w A n c a) (h2 : Sl Pane.cells 7 w B m d b) :
    Calls Tryz.prog 36 #[.agg #[.int .i64 x, .slice A n c], .agg #[.int .i64 y, .slice B m d]] w fun e w' => e = .returned (.bool (x == y && panesB a b)) ∧ Keep none_ w w' := by
  have kk : Keep none_ w ((w.alloc (.cells #[.int .i64 x, .slice A n c] 57)).alloc (.cells #[.int .i64 y, .slice B m d] 57)) := (by repeat' (first | assumption | with_reducible exact Keep.refl _ _ | with_reducible refine Keep.alloc ?_ _ | with_reducible refine Keep.drew ?_))
  have c1 := Lib.hid (slices_equal _ (h1.keep kk Off.none_) (h2.keep kk Off.none_))
  clear h1 h2
  generalize panesB a b = q at *
  cases hxy : x == y
  · go_enter Tryz.func36, Tryz.ntmps36
    go_wp2_with fail
    go_ret
    exact ⟨by simp, kk⟩
  · go_enter Tryz.func36, Tryz.ntmps36
    go_wp2_with fail
    refine c1.out.mono ?_
    rintro e w2 ⟨rfl, k2⟩
    go_wp2_with fail
    go_ret
    exact ⟨by simp, kk.trans k2⟩
theorem ref12_same (w : World) (x y : Int) {A B : Option Addr} {n c m d : Nat} {a b : List Pane} (h1 : Sl Pane.cells 7 w A n c a) (h2 : Sl Pane.cells 7 w B m d b) :
    Calls Tryz.prog 26 #[.agg #[.int .i64 x, .slice A n c], .agg #[.int .i64 y, .slice B m d]] w fun e w' => e = .returned (.bool (x == y && panesB a b)) ∧ Keep none_ w w' := by
  have kk : Keep none_ w ((w.alloc (.cells #[.int .i64 x, .slice A n c] 57)).alloc (.cells #[.int .i64 y, .slice B m d] 57)) := (by repeat' (first | assumption | with_reducible exact Keep.refl _ _ | with_reducible refine Keep.alloc ?_ _ | with_reducible refine Keep.drew ?_))
  have c1 := Lib.hid (ref_same _ (h1.keep kk Off.none_) (h2.keep kk Off.none_))
  have hy := At.newAt (w := w.alloc (.cells #[.int .i64 x, .slice A n c] 57)) (n := w.heap.size + 1) (by simp) #[.int .i64 y, .slice B m d] 57
  have hx := At.alloc (At.new w #[.int .i64 x, .slice A n c] 57) (.cells #[.int .i64 y, .slice B m d] 57)
  clear h1 h2
  generalize panesB a b = q at *
  go_enter Tryz.func26, Tryz.ntmps26
  go_wp2_with fail
  refine c1.out.mono ?_
  rintro e w2 ⟨rfl, k2⟩
  have cx := At.cell (Keep.at k2 hx (fun e => e))
  have cy := At.cell (Keep.at k2 hy (fun e => e))
  cases q
  · go_wp2_with fail
    go_ret
    exact ⟨by simp, kk.trans k2⟩
  · go_wp2_with fail
    go_ret
    exact ⟨by simp, kk.trans k2⟩
end Go.Proofs.YtmioichjhiengaaGreat
