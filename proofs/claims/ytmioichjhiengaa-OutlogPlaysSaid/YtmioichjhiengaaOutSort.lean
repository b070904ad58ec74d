/-
  outlog.compare, Sorted.
-/
import Derived.Test.YtmioichjhiengaaPSortNil
import Derived.Test.YtmioichjhiengaaSpan
import Derived.Test.YtmioichjhiengaaPaneSearch
namespace Go.Proofs.Ytmioichjhiengaa
open Go.RowKit

def Pane.cmp (a b : Pane) : Int := orI [cmpS a.key b.key, cmpI a.span.e b.span.e, a.span.cmp b.span]
def Pane.lt (a b : Pane) : Bool := ltB a.key b.key || (eqS a.key b.key && (decide (a.span.e < b.span.e) || (a.span.e == b.span.e && decide (a.span.s < b.span.s))))
theorem Pane.cmp_lt (a b : Pane) : decide (a.cmp b < 0) = a.lt b := by
  unfold Pane.cmp Pane.lt
  rw [Span.cmp_eq]
  unfold cmpS cmpI
  by_cases h1 : ltB a.key b.key = true
  · simp [orI, h1]
  · have h1' : ltB a.key b.key = false := by simpa using h1
    by_cases h2 : eqS a.key b.key = true
    · have e0 : (if ltB a.key b.key = true then (-1 : Int) else if eqS a.key b.key = true then 0 else 1) = 0 := by rw [if_neg h1, if_pos h2]
      rw [e0]
      simp only [orI, h1', h2, Bool.false_or, Bool.true_and]
      by_cases h3 : a.span.e < b.span.e
      · simp [h3]
      · by_cases h4 : b.span.e < a.span.e
        · have h5 : ¬ a.span.e = b.span.e := by omega
          simp [h3, h4, h5]
        · have h5 : a.span.e = b.span.e := by omega
          by_cases h6 : a.span.s < b.span.s
          · simp [h5, h6]
          · by_cases h7 : b.span.s < a.span.s
            · simp [h5, h6, h7]
            · simp [h5, h6, h7]
    · have h2' : eqS a.key b.key = false := by simpa using h2
      simp [orI, h1', h2']
theorem Pane.lt_weak : Weak (fun a b : Pane => a.lt b) where
  irr a := by simp [Pane.lt, ltB_irr]
  tra a b c h1 h2 := by
    simp only [Pane.lt, Bool.or_eq_true, Bool.and_eq_true, decide_eq_true_eq, beq_iff_eq, eqS_iff] at *
    rcases h1 with h1 | ⟨k1, h1⟩ <;> rcases h2 with h2 | ⟨k2, h2⟩
    · exact .inl (ltB_trans h1 h2)
    · exact .inl (by rw [← k2]; exact h1)
    · exact .inl (by rw [k1]; exact h2)
    · exact .inr ⟨k1.trans k2, by omega⟩
  neg a b c h1 h2 := by
    rw [← Bool.not_eq_true] at *
    simp only [Pane.lt, Bool.or_eq_true, Bool.and_eq_true, decide_eq_true_eq, beq_iff_eq, eqS_iff, not_or, not_and] at *
    obtain ⟨l1, r1⟩ := h1
    obtain ⟨l2, r2⟩ := h2
    have hl : ¬ ltB a.key c.key = true := fun h => by
      by_cases e : a.key = b.key
      · rw [e] at h; exact l2 h
      · have hba : ltB b.key a.key = true := by
          cases q : ltB b.key a.key
          · exact absurd (ltB_tri (by simpa using l1) q) e
          · rfl
        exact l2 (ltB_trans hba h)
    refine ⟨hl, fun e => ?_⟩
    have hab : a.key = b.key := by
      by_cases e2 : a.key = b.key
      · exact e2
      · have hba : ltB b.key a.key = true := by
          cases q : ltB b.key a.key
          · exact absurd (ltB_tri (by simpa using l1) q) e2
          · rfl
        rw [e] at hba
        exact absurd hba l2
    have := r1 hab
    have := r2 (hab.symm.trans e)
    constructor <;> omega
def cfO (x y : TP) : Int := x.1.cmp y.1
theorem weak_cfO : Weak (ltP cfO) where
  irr a := by unfold ltP cfO; rw [Pane.cmp_lt]; exact Pane.lt_weak.irr _
  tra a b c := by unfold ltP cfO; simp only [Pane.cmp_lt]; exact Pane.lt_weak.tra _ _ _
  neg a b c := by unfold ltP cfO; simp only [Pane.cmp_lt]; exact Pane.lt_weak.neg _ _ _

set_option maxHeartbeats 1000000 in
theorem out_compare (w : World) (a b : Pane) : Calls Try.prog 49 #[.agg a.cells.toArray, .agg b.cells.toArray] w fun e w' => e = .returned (.int .i64 (a.cmp b)) ∧ Keep none_ w w' := by
  have hx := At.alloc (At.new w a.cells.toArray 32) (.cells b.cells.toArray 32)
  have hy : At ((w.alloc (.cells a.cells.toArray 32)).alloc (.cells b.cells.toArray 32)) (w.heap.size + 1) b.cells.toArray 32 := At.newAt (by simp) _ _
  have kk : Keep none_ w ((w.alloc (.cells a.cells.toArray 32)).alloc (.cells b.cells.toArray 32)) := (by repeat' (first | exact Keep.refl _ _ | refine Keep.set1 ?_ _ | refine Keep.alloc ?_ _ | refine Keep.drew ?_ | refine Keep.setNew ?_ (by simp) _))
  have hcs := Lib.hid (fun w => span_compare w a.span b.span)
  simp only [Pane.cells, Span.cells] at hx hy kk hcs ⊢
  go_enter Try.func49, Try.ntmps49
  go_wp2_with fail
  generalize hw0 : (World.alloc (World.alloc w _) _) = w0 at hx hy kk ⊢
  obtain ⟨ι, hne, f, hf0, hfk, hfa⟩ := class_of none_ (w0)
  have cx : ∀ n i, (f n).cell? ⟨w.heap.size, i, none⟩ = _ := fun n => At.cell (Keep.at (hfk n) hx (fun e => e))
  have cy : ∀ n i, (f n).cell? ⟨w.heap.size + 1, i, none⟩ = _ := fun n => At.cell (Keep.at (hfk n) hy (fun e => e))
  clear hw0
  refine wp_region_class_tail f 17 (by kernel_rfl) (by kernel_rfl) hf0 ?_
  simp only [List.take_succ_cons, List.take_zero, List.drop_succ_cons, List.drop_zero]
  repeat (go_big_quiet_step (first | (go_at_call 80; exact Calls.class_of hfa ((cmp_int64 _ _ _).mono fun e w' h => ⟨h.1, h.2 ▸ Keep.refl _ _⟩)) | (go_at_call 79; exact Calls.class_of hfa ((cmp_str _ _ _).mono fun e w' h => ⟨h.1, h.2 ▸ Keep.refl _ _⟩)) | (go_at_call 81; exact Calls.class_of hfa (hcs.out _))))
  refine wpQuiet_nil ?_
  intro n
  go_wp2_with fail
  refine (cmp_or _ _ _ [cmpS a.key b.key, cmpI a.span.e b.span.e, a.span.cmp b.span] (by simp) (by
    intro j hj
    match j, hj with
    | 0, _ => simp
    | 1, _ => simp
    | 2, _ => simp)).mono ?_
  rintro e w1 ⟨rfl, rfl⟩
  go_wp2_with fail
  go_ret
  exact ⟨rfl, (kk.trans (hfk n)).alloc _⟩
end Go.Proofs.Ytmioichjhiengaa
