/-
  assign.down: the windows that have a time, the last one first.
-/
import Derived.Test.YtkbaijdamddipaaWin
namespace Go.Proofs.Ytkbaijdamddipaa
open Go.RowKit

/-- The windows from a place on, falling, so many at most; none: one can't be told. -/
def downL (t size slide late : Int) : Nat → Int → Option (List Span)
  | 0, _ => none
  | k + 1, s => if winOk s size late then
      (if size - slide ≤ t - s then some [winS s size] else if fitB (s - slide) then (downL t size slide late k (s - slide)).map (winS s size :: ·) else none)
    else none
def downAll (t size slide late : Int) : Option (List Span) := if fitB (t - t % slide) then downL t size slide late 16 (t - t % slide) else none
def flatS (l : List Span) : List Value := l.flatMap Span.cells
theorem flatS_snoc (l : List Span) (s : Span) : flatS (l ++ [s]) = flatS l ++ [.int .i64 s.s, .int .i64 s.e] := by simp [flatS]
theorem flatS_length (l : List Span) : (flatS l).length = l.length * 2 := by
  induction l with
  | nil => rfl
  | cons a l ih => simp only [flatS, List.flatMap_cons, List.length_append, List.length_cons] at *; rw [ih]; simp only [List.length_nil]; omega
theorem spanInfo : (Try.prog.info? 62).map (fun i => (i.zero, i.size, i.bytes)) = some (some (.agg #[.int .i64 0, .int .i64 0]), 2, 16) := by kernel_rfl
theorem winOk_yes {s l t : Int} (h : winOk s l t = true) : winE s l t = .nilIface ∧ winS s l = ⟨s, s + l⟩ := by
  simp only [winOk, fitB, Bool.and_eq_true, decide_eq_true_eq] at h
  exact ⟨by unfold winE fitE; rw [if_pos h.1, if_pos h.2], by unfold winS; rw [if_pos h.1]⟩
theorem winOk_no {s l t : Int} (h : winOk s l t = false) : winE s l t = errV 3 := by
  simp only [winOk, fitB, Bool.and_eq_false_iff, decide_eq_false_iff_not] at h
  unfold winE fitE
  rcases h with h | h
  · rw [if_neg h]
  · split <;> first | rfl | rw [if_neg h]

theorem one2 {w : World} {n : Nat} (hn : n = w.heap.size) (x y : Value) (T : TypeId) : ∀ j u, [x, y][j]? = some u → (w.alloc (.cells #[x, y] T)).cell? ((⟨n, 0, none⟩ : Addr).add j) = some u := by
  subst hn
  intro j u hj
  have h := At.cell (At.new w #[x, y] T) j
  rw [Addr.add_lit, Nat.zero_add, h]
  match j, hj with
  | 0, hj => simpa using hj
  | 1, hj => simpa using hj
theorem one2c {n m : Int} : ∀ u ∈ [Value.int .i64 n, Value.int .i64 m], u.oneCell' = true := by
  intro u hu
  simp only [List.mem_cons, List.not_mem_nil, or_false] at hu
  rcases hu with rfl | rfl <;> rfl

set_option maxHeartbeats 2000000 in
set_option maxRecDepth 100000 in
theorem assign_down (w : World) (t size slide late : Int) (ht : I64 t) (hs : I64 size) (hl : I64 slide) (ha : I64 late) (h1 : 1 ≤ slide) (h2 : slide ≤ size) (h16 : size ≤ 16 * slide) :
    Calls Try.prog 74 #[.int .i64 t, .int .i64 size, .int .i64 slide, .int .i64 late] w fun e w' =>
      ∃ v er, e = .returned (.tuple #[v, er]) ∧ Keep none_ w w' ∧
        ((∃ l, downAll t size slide late = some l ∧ er = .nilIface ∧ w'.ownsRow w.heap.size 62 2 v l.length (flatS l)) ∨ (downAll t size slide late = none ∧ v = .slice none 0 0 ∧ er = errV 3)) := by
  obtain ⟨D, hD⟩ : ∃ D, D = downAll t size slide late := ⟨_, rfl⟩
  rw [← hD]
  have c1 := fun w => num_down w t slide ht hl h1
  have hr0 := Int.emod_nonneg t (show slide ≠ 0 by omega)
  have hr1 := Int.emod_lt_of_pos t (show 0 < slide by omega)
  unfold downAll at hD
  generalize t % slide = r at *
  obtain ⟨i0, hi, hz0, hz1, hz2⟩ := info_parts spanInfo
  have H : (fitE (t - r) = .nilIface ∧ I64 (t - r) ∧ fitN (t - r) = t - r ∧ D = downL t size slide late 16 (t - r)) ∨ (fitE (t - r) = errV 3 ∧ D = none) := by
    by_cases hf : I64 (t - r)
    · rw [(fit_yes hf).2.2, if_pos rfl] at hD
      exact .inl ⟨(fit_yes hf).2.1, hf, (fit_yes hf).1, hD⟩
    · rw [(fit_no hf).2.2, if_neg (by decide)] at hD
      exact .inr ⟨(fit_no hf).2.1, hD⟩
  clear hD
  generalize fitN (t - r) = st0 at *
  generalize fitE (t - r) = er0 at *
  replace c1 := Lib.hid c1
  replace H := Lib.hid H
  go_enter Try.func74, Try.ntmps74
  go_wp2_with fail
  refine (c1.out _).mono ?_
  rintro e w' ⟨rfl, rfl⟩
  go_wp2_with fail
  go_loopw [10, 11, 12] (fun st er out wr => Keep none_ w wr ∧ ((∃ (x : Int) (k : Nat) (acc : List Span), st = .int .i64 x ∧ er = .nilIface ∧ I64 x ∧ x ≤ t ∧ t - x < size ∧ acc.length * slide ≤ t - x ∧ acc.length + k = 16 ∧
        D = (downL t size slide late k x).map (acc ++ ·) ∧ wr.ownsRow w.heap.size 62 2 out acc.length (flatS acc)) ∨ (er = errV 3 ∧ D = none ∧ ∃ z, st = .int .i64 z)))
    (fun st er _ _ => match er with | .nilIface => (intOf st - (t - size)).toNat + 1 | _ => 0)
  case atStart =>
    refine ⟨Keep.refl _ _, ?_⟩
    rcases H.out with ⟨rfl, h1, rfl, hD⟩ | ⟨rfl, hD⟩
    · refine .inl ⟨t - r, 16, [], rfl, rfl, h1, by omega, by omega, by simp; omega, rfl, by rw [hD]; simp, World.ownsRow_nil _ _ _ _⟩
    · exact .inr ⟨rfl, hD, _, rfl⟩
  case round =>
    obtain ⟨kk, h | ⟨rfl, hD, z, rfl⟩⟩ := hrel
    · obtain ⟨x, k, acc, rfl, rfl, hx, hxt, htx, hacc, hk, hD, hown⟩ := h
      have hn : acc.length < 16 := by
        apply Classical.byContradiction
        intro h
        have : (16 : Int) * slide ≤ acc.length * slide := Int.mul_le_mul_of_nonneg_right (by omega) (by omega)
        omega
      obtain ⟨k, rfl⟩ : ∃ k', k = k' + 1 := ⟨k - 1, by omega⟩
      rw [downL] at hD
      have c2 := fun w => assign_window w x size late hx hs ha
      have ax := At.new wr #[.int .i64 0, .int .i64 0] 62
      have kx : Keep none_ w (wr.alloc (.cells #[.int .i64 0, .int .i64 0] 62)) := Keep.alloc kk _
      have hown1 := hown.alloc (.cells #[.int .i64 0, .int .i64 0] 62)
      have hwp : w.heap.size ≤ wr.heap.size := kk.size
      have hvb := hown.lt
      cases hw : winOk x size late
      · rw [hw, if_neg (by decide)] at hD
        rw [winOk_no hw] at c2
        replace hD := Lib.hid hD
        replace c2 := Lib.hid c2
        generalize winS x size = S at *
        go_wp2_with (first
          | (go_at_call 73; (with_reducible refine (c2.out _).mono ?_); rintro e w2 ⟨rfl, k2⟩; replace ax := Keep.at k2 ax (fun e => e); replace kx := Keep.trans kx k2; have cx := At.cell ax; have fx := At.frozen ax))
        go_ret2
        exact ⟨_, _, rfl, Keep.setNew (Keep.setNew kx hwp _) hwp _, .inr ⟨by rw [hD.out]; rfl, rfl, rfl⟩⟩
      · rw [hw, if_pos rfl] at hD
        rw [(winOk_yes hw).1] at c2
        replace c2 := Lib.hid c2
        obtain ⟨S, hS⟩ : ∃ S, S = winS x size := ⟨_, rfl⟩
        rw [← hS] at c2 hD
        clear hS hw
        have c3 := fun w => num_sub w x slide hx hl
        have hfl := flatS_length acc
        have hts : 0 ≤ t - x := by omega
        have hts2 : t - x ≤ 9223372036854775807 := by unfold I64 at hs; omega
        have hss : 0 ≤ size - slide := by omega
        have hss2 : size - slide ≤ 9223372036854775807 := by unfold I64 at hs hl; omega
        by_cases hlast : size - slide ≤ t - x
        · rw [if_pos hlast] at hD
          replace hD := Lib.hid hD
          go_wp2_with (first
            | (go_at_call 73; (with_reducible refine (c2.out _).mono ?_); rintro e w2 ⟨rfl, k2⟩; replace ax := Keep.at k2 ax (fun e => e); replace kx := Keep.trans kx k2; replace hown1 := ownsRow_keep hown1 k2 (fun _ _ e => e); replace hown1 := ownsRow_keep hown1 (Keep.set1 (p := wr.heap.size) (i := 1) (Keep.set1 (p := wr.heap.size) (i := 0) (Keep.refl _ _) (.int .i64 S.s)) (.int .i64 S.e)) (fun g hg e => by have := (hvb g hg).2; unfold one at e; omega); have hsz2 := k2.size; have cx := At.cell ax; have fx := At.frozen ax)
            | (at_builtin; go_loud (refine wpList_append_own _ rfl _ _ 73 rfl w.heap.size 62 i0 (.agg #[.int .i64 0, .int .i64 0]) 2 16 Try.underlying73 hi hz0 hz1 hz2 rfl (by decide) _ _ _ rfl (hown1.alloc _) ⟨_, 0, none⟩ 1 1 [.int .i64 S.s, .int .i64 S.e] rfl rfl (one2 (by simp) _ _ _) one2c (by unfold maxLen; omega) (by omega) (by simp; have := At.lt ax; omega) ?_)))
          intro v' w3 hown' hgrow hnil
          have kf := Keep.grown (Keep.alloc (Keep.setNew (i := 1) (Keep.setNew (i := 0) kx hwp (.int .i64 S.s)) hwp (.int .i64 S.e)) (.cells #[.int .i64 S.s, .int .i64 S.e] 62)) hgrow (fun g hg h => by have := (hvb g hg).1; omega)
          clear hgrow hnil hown hown1 kx kk ax cx fx
          go_wp2_with fail
          go_ret2
          exact ⟨_, _, rfl, kf, .inl ⟨acc ++ [S], by rw [hD.out]; rfl, rfl, by rw [flatS_snoc, List.length_append]; exact hown'⟩⟩
        · rw [if_neg hlast] at hD
          have hlast2 : decide (size - slide ≤ t - x) = false := by simp [hlast]
          go_wp2_with (first
            | (go_at_call 73; (with_reducible refine (c2.out _).mono ?_); rintro e w2 ⟨rfl, k2⟩; replace ax := Keep.at k2 ax (fun e => e); replace kx := Keep.trans kx k2; replace hown1 := ownsRow_keep hown1 k2 (fun _ _ e => e); replace hown1 := ownsRow_keep hown1 (Keep.set1 (p := wr.heap.size) (i := 1) (Keep.set1 (p := wr.heap.size) (i := 0) (Keep.refl _ _) (.int .i64 S.s)) (.int .i64 S.e)) (fun g hg e => by have := (hvb g hg).2; unfold one at e; omega); have hsz2 := k2.size; have cx := At.cell ax; have fx := At.frozen ax)
            | (at_builtin; go_loud (refine wpList_append_own _ rfl _ _ 73 rfl w.heap.size 62 i0 (.agg #[.int .i64 0, .int .i64 0]) 2 16 Try.underlying73 hi hz0 hz1 hz2 rfl (by decide) _ _ _ rfl (hown1.alloc _) ⟨_, 0, none⟩ 1 1 [.int .i64 S.s, .int .i64 S.e] rfl rfl (one2 (by simp) _ _ _) one2c (by unfold maxLen; omega) (by omega) (by simp; have := At.lt ax; omega) ?_)))
          intro v' w3 hown' hgrow hnil
          have kf := Keep.grown (Keep.alloc (Keep.setNew (i := 1) (Keep.setNew (i := 0) kx hwp (.int .i64 S.s)) hwp (.int .i64 S.e)) (.cells #[.int .i64 S.s, .int .i64 S.e] 62)) hgrow (fun g hg h => by have := (hvb g hg).1; omega)
          clear hgrow hnil hown hown1 kx kk ax cx fx
          by_cases hf : I64 (x - slide)
          · rw [(fit_yes hf).1, (fit_yes hf).2.1] at c3
            rw [(fit_yes hf).2.2, if_pos rfl] at hD
            replace c3 := Lib.hid c3
            replace hD := Lib.hid hD
            replace hf := Lib.hid hf
            go_wp2_with fail
            refine (c3.out _).mono ?_
            rintro e w4 ⟨rfl, rfl⟩
            go_wp2_with fail
            go_roundw
            case rel => exact ⟨kf, .inl ⟨x - slide, k, acc ++ [S], rfl, rfl, hf.out, by omega, by omega, by rw [List.length_append, List.length_singleton, Int.natCast_add, Int.add_mul]; omega, by rw [List.length_append, List.length_singleton]; omega, by rw [hD.out, Option.map_map]; congr 1; funext l; simp, by rw [flatS_snoc, List.length_append]; exact hown'⟩⟩
            case measure => simp [intOf]; omega
          · rw [(fit_no hf).1, (fit_no hf).2.1] at c3
            rw [(fit_no hf).2.2, if_neg (by decide)] at hD
            replace c3 := Lib.hid c3
            replace hD := Lib.hid hD
            go_wp2_with fail
            refine (c3.out _).mono ?_
            rintro e w4 ⟨rfl, rfl⟩
            go_wp2_with fail
            go_roundw
            case rel => exact ⟨kf, .inr ⟨rfl, by rw [hD.out]; rfl, _, rfl⟩⟩
            case measure => simp [errV, intOf]
    · replace hD := Lib.hid hD
      go_wp2_with fail
      go_ret2
      exact ⟨_, _, rfl, kk, .inr ⟨hD.out, rfl, rfl⟩⟩
end Go.Proofs.Ytkbaijdamddipaa
