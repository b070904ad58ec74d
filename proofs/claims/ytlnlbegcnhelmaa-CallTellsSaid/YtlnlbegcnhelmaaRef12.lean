/-
  The reference's May, Keyed, Group of a call.
-/
import Derived.Test.YtlnlbegcnhelmaaCall
import Derived.Test.YtlnlbegcnhelmaaFnvRef
namespace Go.Proofs.Ytlnlbegcnhelmaa
open Go.RowKit

theorem ref12_keyed (w : World) (x : Call) : Calls Try.prog 41 #[.agg x.cells.toArray] w fun e w' => e = .returned (.bool x.keyedB) ∧ Keep none_ w w' := by
  obtain ⟨op, key, time, value, fin, group, shard⟩ := x
  unfold Call.keyedB
  by_cases h1 : op = 1
  · subst h1
    go_enter Try.func41, Try.ntmps41
    go_wp2
    go_ret
    exact ⟨by simp, (by repeat' (first | exact Keep.refl _ _ | refine Keep.set1 ?_ _ | refine Keep.alloc ?_ _ | refine Keep.drew ?_ | refine Keep.setNew ?_ (by simp) _))⟩
  have b1 : (op == 1) = false := by simp [h1]
  by_cases h2 : op = 2
  · subst h2
    go_enter Try.func41, Try.ntmps41
    go_wp2
    go_ret
    exact ⟨by simp, (by repeat' (first | exact Keep.refl _ _ | refine Keep.set1 ?_ _ | refine Keep.alloc ?_ _ | refine Keep.drew ?_ | refine Keep.setNew ?_ (by simp) _))⟩
  have b2 : (op == 2) = false := by simp [h2]
  by_cases h4 : op = 4
  · subst h4
    go_enter Try.func41, Try.ntmps41
    go_wp2
    go_ret
    exact ⟨by simp, (by repeat' (first | exact Keep.refl _ _ | refine Keep.set1 ?_ _ | refine Keep.alloc ?_ _ | refine Keep.drew ?_ | refine Keep.setNew ?_ (by simp) _))⟩
  have b4 : (op == 4) = false := by simp [h4]
  go_enter Try.func41, Try.ntmps41
  go_wp2
  go_ret
  exact ⟨by simp [b1, b2, b4], (by repeat' (first | exact Keep.refl _ _ | refine Keep.set1 ?_ _ | refine Keep.alloc ?_ _ | refine Keep.drew ?_ | refine Keep.setNew ?_ (by simp) _))⟩

theorem ref12_group (w : World) (c : Config) (x : Call) (hc : c.ok) (hx : x.ok) : Calls Try.prog 42 #[.agg c.cells.toArray, .agg x.cells.toArray] w fun e w' => e = .returned (.int .i64 (x.groupI c)) ∧ Keep none_ w w' := by
  have c1 := Lib.hid (fun w => ref12_keyed w x)
  have c2 := Lib.hid (fun w => ref_group w x.key c.groups hx.2.1 hc.2.2.2.2.2.2.1)
  have ax := At.newAt (w := w.alloc (.cells c.cells.toArray 63)) (n := w.heap.size + 1) (by simp) x.cells.toArray 65
  have ac := At.alloc (At.new w c.cells.toArray 63) (.cells x.cells.toArray 65)
  have kk : Keep none_ w ((w.alloc (.cells c.cells.toArray 63)).alloc (.cells x.cells.toArray 65)) := (by repeat' (first | exact Keep.refl _ _ | refine Keep.set1 ?_ _ | refine Keep.alloc ?_ _ | refine Keep.drew ?_ | refine Keep.setNew ?_ (by simp) _))
  simp only [Config.cells, Call.cells] at ax ac kk
  unfold Call.groupI
  generalize groupOf x.key c.groups = z at *
  generalize x.keyedB = b at *
  go_enter Try.func42, Try.ntmps42
  go_wp2_with fail
  refine (c1.out _).mono ?_
  rintro e w1 ⟨rfl, k⟩
  replace ax := Keep.at k ax (fun e => e)
  replace ac := Keep.at k ac (fun e => e)
  replace kk := kk.trans k
  have cx := At.cell ax
  have cc := At.cell ac
  cases b
  · by_cases h : x.op = 6
    · have h6 : (x.op == 6) = true := by simp [h]
      go_wp2_with fail
      go_ret
      exact ⟨by simp, kk⟩
    · have h6 : (x.op == 6) = false := by simp [h]
      go_wp2_with fail
      go_ret
      exact ⟨by simp [h], kk⟩
  · go_wp2_with fail
    refine (c2.out _).mono ?_
    rintro e w3 ⟨rfl, m3, rfl⟩
    go_wp2_with fail
    go_ret
    exact ⟨rfl, kk.trans (keep_drewN _ _)⟩

set_option maxHeartbeats 1000000 in
theorem ref12_may (w : World) (c : Config) (x : Call) (hc : c.ok) (hx : x.ok) : Calls Try.prog 40 #[.agg c.cells.toArray, .agg x.cells.toArray] w fun e w' => e = .returned (.bool (x.mayB c)) ∧ Keep none_ w w' := by
  have c0 := Lib.hid (fun w => ref_may w c hc)
  have c1 := Lib.hid (fun w => ref12_keyed w x)
  have ax := At.newAt (w := w.alloc (.cells c.cells.toArray 63)) (n := w.heap.size + 1) (by simp) x.cells.toArray 65
  have ac := At.alloc (At.new w c.cells.toArray 63) (.cells x.cells.toArray 65)
  have kk : Keep none_ w ((w.alloc (.cells c.cells.toArray 63)).alloc (.cells x.cells.toArray 65)) := (by repeat' (first | exact Keep.refl _ _ | refine Keep.set1 ?_ _ | refine Keep.alloc ?_ _ | refine Keep.drew ?_ | refine Keep.setNew ?_ (by simp) _))
  simp only [Config.cells, Call.cells] at ax ac kk
  obtain ⟨r, hr⟩ : ∃ r, r = x.mayB c := ⟨_, rfl⟩
  rw [← hr]
  unfold Call.mayB Call.restB mayK in0 at hr
  replace hr := Lib.hid hr
  have hks := hx.2.1
  unfold maxLen at hks
  clear hx hc
  generalize x.keyedB = b at *
  generalize c.mayB = bm at *
  go_enter Try.func40, Try.ntmps40
  go_wp2_with fail
  refine (c0.out _).mono ?_
  rintro e w1 ⟨rfl, k⟩
  replace ax := Keep.at k ax (fun e => e)
  replace ac := Keep.at k ac (fun e => e)
  replace kk := kk.trans k
  have cx := At.cell ax
  have cc := At.cell ac
  clear k
  cases bm
  · go_wp2_with fail
    go_ret
    have e9 : r = false := by rw [hr.out]; simp
    subst e9
    exact ⟨rfl, kk⟩
  by_cases o1 : x.op < 1
  · go_wp2_with fail
    go_ret
    have e9 : r = false := by rw [hr.out]; simp; omega
    subst e9
    exact ⟨rfl, kk⟩
  by_cases o7 : 7 < x.op
  · go_wp2_with fail
    go_ret
    have e9 : r = false := by rw [hr.out]; simp; omega
    subst e9
    exact ⟨rfl, kk⟩
  have o1' : 1 ≤ x.op := by omega
  have o7' : x.op ≤ 7 := by omega
  have hr2 : r = (if b && !(decide (1 ≤ x.key.size) && decide (x.key.size ≤ 20)) then false else if x.op = 4 then decide (x.time < x.fin) else if x.op = 6 then (decide (0 ≤ x.group) && decide (x.group < c.groups)) && (decide (0 ≤ x.shard) && decide (x.shard < c.shards)) else true) := by
    rw [hr.out]; simp [o1', o7']
  clear hr
  go_wp2_with fail
  refine (c1.out _).mono ?_
  rintro e w2 ⟨rfl, k⟩
  replace ax := Keep.at k ax (fun e => e)
  replace ac := Keep.at k ac (fun e => e)
  replace kk := kk.trans k
  have cx := At.cell ax
  have cc := At.cell ac
  clear k
  have tail : (x.op = 4 ∧ x.time < x.fin ∧ (b = true → 1 ≤ x.key.size ∧ x.key.size ≤ 20) ∧ r = true) ∨ True := .inr trivial
  clear tail
  cases b
  · rw [Bool.false_and, if_neg (by decide)] at hr2
    by_cases h4 : x.op = 4
    · rw [if_pos h4] at hr2
      have b4 : (x.op == 4) = true := by simp [h4]
      have b6 : (x.op != 6) = true := by simp [h4]
      clear h4 o1 o7 o1' o7'
      by_cases ht : x.fin ≤ x.time
      · have e9 : r = false := by rw [hr2]; simp; omega
        subst e9
        clear hr2
        go_wp2_with fail
        go_ret
        exact ⟨rfl, kk⟩
      · have e9 : r = true := by rw [hr2]; simp; omega
        subst e9
        clear hr2
        go_wp2_with fail
        go_ret
        exact ⟨rfl, kk⟩
    · rw [if_neg h4] at hr2
      have b4 : (x.op == 4) = false := by simp [h4]
      by_cases h6 : x.op = 6
      · rw [if_pos h6] at hr2
        have b6 : (x.op != 6) = false := by simp [h6]
        clear h4 h6 o1 o7 o1' o7'
        by_cases g1 : 0 ≤ x.group
        · by_cases g2 : x.group < c.groups
          · by_cases g3 : 0 ≤ x.shard
            · have e9 : r = decide (x.shard < c.shards) := by rw [hr2]; simp [g1, g2, g3]
              subst e9
              clear hr2
              go_wp2_with fail
              go_ret
              exact ⟨rfl, kk⟩
            · have d3 : decide (0 ≤ x.shard) = false := by simpa using g3
              have e9 : r = false := by rw [hr2]; simp [d3]
              subst e9
              clear hr2
              go_wp2_with fail
              go_ret
              exact ⟨rfl, kk⟩
          · have d2 : decide (x.group < c.groups) = false := by simpa using g2
            have e9 : r = false := by rw [hr2]; simp [d2]
            subst e9
            clear hr2
            go_wp2_with fail
            go_ret
            exact ⟨rfl, kk⟩
        · have d1 : decide (0 ≤ x.group) = false := by simpa using g1
          have e9 : r = false := by rw [hr2]; simp [d1]
          subst e9
          clear hr2
          go_wp2_with fail
          go_ret
          exact ⟨rfl, kk⟩
      · rw [if_neg h6] at hr2
        have b6 : (x.op != 6) = true := by simp [h6]
        clear h4 h6 o1 o7 o1' o7'
        subst hr2
        go_wp2_with fail
        go_ret
        exact ⟨rfl, kk⟩
  · by_cases k1 : x.key.size < 1
    · have e9 : r = false := by rw [hr2, decide_eq_false (show ¬ 1 ≤ x.key.size by omega)]; rfl
      subst e9
      clear hr2
      go_wp2_with fail
      go_ret
      exact ⟨rfl, kk⟩
    · by_cases k2 : 20 < x.key.size
      · have e9 : r = false := by rw [hr2, decide_eq_false (show ¬ x.key.size ≤ 20 by omega), Bool.and_false]; rfl
        subst e9
        clear hr2
        go_wp2_with fail
        go_ret
        exact ⟨rfl, kk⟩
      · rw [decide_eq_true (show 1 ≤ x.key.size by omega), decide_eq_true (show x.key.size ≤ 20 by omega)] at hr2
        rw [if_neg (by decide)] at hr2
        by_cases h4 : x.op = 4
        · rw [if_pos h4] at hr2
          have b4 : (x.op == 4) = true := by simp [h4]
          have b6 : (x.op != 6) = true := by simp [h4]
          clear h4 o1 o7 o1' o7'
          by_cases ht : x.fin ≤ x.time
          · have e9 : r = false := by rw [hr2]; simp; omega
            subst e9
            clear hr2
            go_wp2_with fail
            go_ret
            exact ⟨rfl, kk⟩
          · have e9 : r = true := by rw [hr2]; simp; omega
            subst e9
            clear hr2
            go_wp2_with fail
            go_ret
            exact ⟨rfl, kk⟩
        · rw [if_neg h4] at hr2
          have b4 : (x.op == 4) = false := by simp [h4]
          by_cases h6 : x.op = 6
          · rw [if_pos h6] at hr2
            have b6 : (x.op != 6) = false := by simp [h6]
            clear h4 h6 o1 o7 o1' o7'
            by_cases g1 : 0 ≤ x.group
            · by_cases g2 : x.group < c.groups
              · by_cases g3 : 0 ≤ x.shard
                · have e9 : r = decide (x.shard < c.shards) := by rw [hr2]; simp [g1, g2, g3]
                  subst e9
                  clear hr2
                  go_wp2_with fail
                  go_ret
                  exact ⟨rfl, kk⟩
                · have d3 : decide (0 ≤ x.shard) = false := by simpa using g3
                  have e9 : r = false := by rw [hr2]; simp [d3]
                  subst e9
                  clear hr2
                  go_wp2_with fail
                  go_ret
                  exact ⟨rfl, kk⟩
              · have d2 : decide (x.group < c.groups) = false := by simpa using g2
                have e9 : r = false := by rw [hr2]; simp [d2]
                subst e9
                clear hr2
                go_wp2_with fail
                go_ret
                exact ⟨rfl, kk⟩
            · have d1 : decide (0 ≤ x.group) = false := by simpa using g1
              have e9 : r = false := by rw [hr2]; simp [d1]
              subst e9
              clear hr2
              go_wp2_with fail
              go_ret
              exact ⟨rfl, kk⟩
          · rw [if_neg h6] at hr2
            have b6 : (x.op != 6) = true := by simp [h6]
            clear h4 h6 o1 o7 o1' o7'
            subst hr2
            go_wp2_with fail
            go_ret
            exact ⟨rfl, kk⟩
end Go.Proofs.Ytlnlbegcnhelmaa
