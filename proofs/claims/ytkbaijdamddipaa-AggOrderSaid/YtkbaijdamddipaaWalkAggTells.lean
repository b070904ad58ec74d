/-
  The walk of the law AggTells.
-/
import Derived.Test.YtkbaijdamddipaaAggAdd
import Derived.Lib.Hide
namespace Go.Proofs.Ytkbaijdamddipaa
open Go.RowKit

theorem aggUp (w : World) : Calls Try.prog 15 #[] w fun e w' => e = .returned (.bool true) ∧ Keep none_ w w' := by
  have z5 : Agg.ok ⟨0, 0, 0, 0⟩ := by simp [Agg.ok, I64]
  have i5 : I64 5 := by simp [I64]
  have i2 : I64 (-2) := by simp [I64]
  have i7 : I64 7 := by simp [I64]
  have e1 : (Agg.one 5).merge (Agg.one (-2)) = ⟨2, 3, -2, 5⟩ := by simp [Agg.merge, Agg.one, wrap64]
  have e2 : Agg.merge ⟨0, 0, 0, 0⟩ (Agg.one 7) = ⟨1, 7, 7, 7⟩ := by simp [Agg.merge, Agg.one]
  have c1 := fun w => agg_add w (Agg.one 5) (-2) (one_ok i5) i2
  have c2 := fun w => agg_merge w ⟨0, 0, 0, 0⟩ (Agg.one 7) z5 (one_ok i7)
  have c3 := fun w => agg_of w 5
  have c4 := fun w => agg_of w 7
  rw [e1] at c1
  rw [e2] at c2
  simp only [Agg.one, Agg.cells] at c1 c2 c3 c4
  have h1 := Lib.hid c1
  have h2 := Lib.hid c2
  have h3 := Lib.hid c3
  have h4 := Lib.hid c4
  clear c1 c2 c3 c4 e1 e2
  have kk : Keep none_ w w := Keep.refl _ _
  go_enter Try.func15, Try.ntmps15
  go_wp2_with (first
    | (go_at_call 16; (with_reducible refine (h3.out _).mono ?_); rintro e w' ⟨rfl, k⟩; replace kk := Keep.trans kk k)
    | (go_at_call 16; (with_reducible refine (h4.out _).mono ?_); rintro e w' ⟨rfl, k⟩; replace kk := Keep.trans kk k)
    | (go_at_call 18; (with_reducible refine (h1.out _).mono ?_); rintro e w' ⟨rfl, k⟩; replace kk := Keep.trans kk k)
    | (go_at_call 20; (with_reducible refine (h2.out _).mono ?_); rintro e w' ⟨rfl, k⟩; replace kk := Keep.trans kk k))
  all_goals
    go_ret
    exact ⟨rfl, kk⟩

set_option maxHeartbeats 1000000 in
set_option maxRecDepth 100000 in
theorem law_AggTells (a b : Agg) (v : Int) (W : World) (ha : a.ok) (hb : b.ok) (hv : I64 v) :
    Calls Try.prog 3 #[.agg a.cells.toArray, .agg b.cells.toArray, .int .i64 v] W fun e W' => e = .returned (.bool true) ∧ Below W.heap.size W W' := by
  have ho := one_ok hv
  have hx := At.alloc (At.new W a.cells.toArray 23) (.cells b.cells.toArray 23)
  have hy : At ((W.alloc (.cells a.cells.toArray 23)).alloc (.cells b.cells.toArray 23)) (W.heap.size + 1) b.cells.toArray 23 := At.newAt (by simp) _ _
  have kk : Keep none_ W ((W.alloc (.cells a.cells.toArray 23)).alloc (.cells b.cells.toArray 23)) := (by repeat' (first | exact Keep.refl _ _ | refine Keep.set1 ?_ _ | refine Keep.alloc ?_ _ | refine Keep.drew ?_ | refine Keep.setNew ?_ (by simp) _))
  simp only [Agg.cells] at hx hy kk ⊢
  by_cases hg : 1000000000 < a.count ∨ 1000000000 < b.count
  · go_enter Try.func3, Try.ntmps3
    go_wp2_with fail
    refine (aggUp _).mono ?_
    rintro e w1 ⟨rfl, k1⟩
    have hx1 := At.cell (Keep.at k1 hx (fun e => e))
    have hy1 := At.cell (Keep.at k1 hy (fun e => e))
    have kk := kk.trans k1
    rcases hg with hg | hg
    · go_wp2_with fail
      go_ret
      exact ⟨rfl, kk.below (Nat.le_refl _) not_none⟩
    · by_cases hg2 : 1000000000 < a.count
      all_goals
        go_wp2_with fail
        go_ret
        exact ⟨rfl, kk.below (Nat.le_refl _) not_none⟩
  · have hga : a.count ≤ 1000000000 := by omega
    have hgb : b.count ≤ 1000000000 := by omega
    go_enter Try.func3, Try.ntmps3
    go_wp2_with fail
    refine (aggUp _).mono ?_
    rintro e w1 ⟨rfl, k1⟩
    replace hx := Keep.at k1 hx (fun e => e)
    replace hy := Keep.at k1 hy (fun e => e)
    replace kk := kk.trans k1
    have hx1 := At.cell hx
    have hy1 := At.cell hy
    go_wp2_with fail
    obtain ⟨ι, hne, f, hf0, hfk, hfa⟩ := class_of none_ (w1)
    have cx : ∀ n i, (f n).cell? ⟨W.heap.size, i, none⟩ = _ := fun n => At.cell (Keep.at (hfk n) hx (fun e => e))
    have cy : ∀ n i, (f n).cell? ⟨W.heap.size + 1, i, none⟩ = _ := fun n => At.cell (Keep.at (hfk n) hy (fun e => e))
    refine wp_region_class f (by kernel_rfl) (by kernel_rfl) hf0 ?_
    repeat (go_big_quiet_step (first
      | (go_at_call 16; with_reducible exact Calls.class_of hfa (agg_of _ _))
      | (go_at_call 17; with_reducible exact Calls.class_of hfa (ref_one _ _))
      | (go_at_call 18; with_reducible exact Calls.class_of hfa (agg_add _ a v ha hv))
      | (go_at_call 19; first | with_reducible exact Calls.class_of hfa (ref_merge _ a (Agg.one v) ha ho) | with_reducible exact Calls.class_of hfa (ref_merge _ a b ha hb))
      | (go_at_call 20; with_reducible exact Calls.class_of hfa (agg_merge _ a b ha hb))))
    refine wpQuiet_nil ?_
    rintro _ ⟨n, rfl⟩
    go_wp2
    go_ret
    exact ⟨rfl, (kk.trans (hfk n)).below (Nat.le_refl _) not_none⟩
end Go.Proofs.Ytkbaijdamddipaa
