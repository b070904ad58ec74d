/-
  The order of timers: the code's compare, and the reference's order.
-/
import Derived.Test.YtlnlbegcnhelmaaCmp
import Derived.Test.YtlnlbegcnhelmaaHeap
import Derived.Test.YtlnlbegcnhelmaaHeapLaw
namespace Go.Proofs.Ytlnlbegcnhelmaa
open Go.RowKit

def Timer.cmp (a b : Timer) : Int := orI [cmpI a.span.e b.span.e, cmpI a.span.s b.span.s, cmpS a.key b.key]
def tlt (a b : Timer) : Bool := decide (a.cmp b < 0)
/-- The reference's order, in full. -/
theorem orI_pos {a : Int} {l : List Int} (h : a ≠ 0) : orI (a :: l) = a := by simp [orI, h]
theorem orI_zero {a : Int} {l : List Int} (h : a = 0) : orI (a :: l) = orI l := by simp [orI, h]
theorem tlt_eq (a b : Timer) : tlt a b = if a.span.e ≠ b.span.e then decide (a.span.e < b.span.e) else if a.span.s ≠ b.span.s then decide (a.span.s < b.span.s) else ltB a.key b.key := by
  unfold tlt Timer.cmp
  by_cases h1 : a.span.e = b.span.e
  · have e1 : cmpI a.span.e b.span.e = 0 := by unfold cmpI; split <;> (try split) <;> omega
    rw [orI_zero e1, if_neg (by omega)]
    by_cases h2 : a.span.s = b.span.s
    · have e2 : cmpI a.span.s b.span.s = 0 := by unfold cmpI; split <;> (try split) <;> omega
      rw [orI_zero e2, if_neg (by omega)]
      unfold cmpS
      cases h3 : ltB a.key b.key <;> cases h4 : eqS a.key b.key <;> simp [orI]
    · have e2 : cmpI a.span.s b.span.s ≠ 0 := by unfold cmpI; split <;> (try split) <;> omega
      rw [orI_pos e2, if_pos h2]
      rw [decide_eq_decide]
      unfold cmpI; split <;> (try split) <;> omega
  · have e1 : cmpI a.span.e b.span.e ≠ 0 := by unfold cmpI; split <;> (try split) <;> omega
    rw [orI_pos e1, if_pos h1]
    rw [decide_eq_decide]
    unfold cmpI; split <;> (try split) <;> omega
theorem tlt_strict : Strict tlt where
  irr a := by rw [tlt_eq]; simp [ltB_irr]
  tra a b c h1 h2 := by
    rw [tlt_eq] at h1 h2 ⊢
    by_cases e1 : a.span.e = b.span.e
    · rw [if_neg (by omega)] at h1
      rw [e1]
      by_cases e2 : b.span.e = c.span.e
      · rw [if_neg (by omega)] at h2 ⊢
        by_cases s1 : a.span.s = b.span.s
        · rw [if_neg (by omega)] at h1
          rw [s1]
          by_cases s2 : b.span.s = c.span.s
          · rw [if_neg (by omega)] at h2 ⊢
            exact ltB_trans h1 h2
          · rw [if_pos s2] at h2 ⊢; exact h2
        · rw [if_pos s1] at h1
          simp only [decide_eq_true_eq] at h1
          by_cases s2 : b.span.s = c.span.s
          · rw [if_pos (by omega)]; simp; omega
          · rw [if_pos s2] at h2
            simp only [decide_eq_true_eq] at h2
            rw [if_pos (by omega)]; simp; omega
      · rw [if_pos e2] at h2 ⊢; exact h2
    · rw [if_pos e1] at h1
      simp only [decide_eq_true_eq] at h1
      by_cases e2 : b.span.e = c.span.e
      · rw [if_pos (by omega)]; simp; omega
      · rw [if_pos e2] at h2
        simp only [decide_eq_true_eq] at h2
        rw [if_pos (by omega)]; simp; omega
  tot a b h1 h2 := by
    rw [tlt_eq] at h1 h2
    obtain ⟨ka, sa, ea⟩ := a
    obtain ⟨kb, sb, eb⟩ := b
    simp only at h1 h2
    by_cases e1 : ea = eb
    · subst e1
      by_cases s1 : sa = sb
      · subst s1
        simp only [ne_eq, not_true, if_false] at h1 h2
        rw [ltB_tri h1 h2]
      · rw [if_neg (by simp), if_pos s1] at h1
        rw [if_neg (by simp), if_pos (fun e => s1 e.symm)] at h2
        simp only [decide_eq_false_iff_not] at h1 h2
        omega
    · rw [if_pos e1] at h1
      rw [if_pos (fun e => e1 e.symm)] at h2
      simp only [decide_eq_false_iff_not] at h1 h2
      omega

theorem timer_compare (w : World) (a b : Timer) : Calls Try.prog 128 #[.agg a.cells.toArray, .agg b.cells.toArray] w fun e w' => e = .returned (.int .i64 (a.cmp b)) ∧ Keep none_ w w' := by
  have hx := At.alloc (At.new w a.cells.toArray 101) (.cells b.cells.toArray 101)
  have hy : At ((w.alloc (.cells a.cells.toArray 101)).alloc (.cells b.cells.toArray 101)) (w.heap.size + 1) b.cells.toArray 101 := At.newAt (by simp) _ _
  have kk : Keep none_ w ((w.alloc (.cells a.cells.toArray 101)).alloc (.cells b.cells.toArray 101)) := (by repeat' (first | exact Keep.refl _ _ | refine Keep.set1 ?_ _ | refine Keep.alloc ?_ _ | refine Keep.drew ?_ | refine Keep.setNew ?_ (by simp) _))
  simp only [Timer.cells] at hx hy kk ⊢
  go_enter Try.func128, Try.ntmps128
  go_wp2_with fail
  generalize hw0 : (World.alloc (World.alloc w _) _) = w0 at hx hy kk ⊢
  obtain ⟨ι, hne, f, hf0, hfk, hfa⟩ := class_of none_ (w0)
  have cx : ∀ n i, (f n).cell? ⟨w.heap.size, i, none⟩ = _ := fun n => At.cell (Keep.at (hfk n) hx (fun e => e))
  have cy : ∀ n i, (f n).cell? ⟨w.heap.size + 1, i, none⟩ = _ := fun n => At.cell (Keep.at (hfk n) hy (fun e => e))
  clear hw0
  refine wp_region_class_tail f 19 (by kernel_rfl) (by kernel_rfl) hf0 ?_
  simp only [List.take_succ_cons, List.take_zero, List.drop_succ_cons, List.drop_zero]
  repeat (go_big_quiet_step (first | (go_at_call 130; exact Calls.class_of hfa ((cmp_int64 _ _ _).mono fun e w' h => ⟨h.1, h.2 ▸ Keep.refl _ _⟩)) | (go_at_call 131; exact Calls.class_of hfa ((cmp_str _ _ _).mono fun e w' h => ⟨h.1, h.2 ▸ Keep.refl _ _⟩))))
  refine wpQuiet_nil ?_
  intro n
  go_wp2_with fail
  refine (cmp_or _ _ _ [cmpI a.span.e b.span.e, cmpI a.span.s b.span.s, cmpS a.key b.key] (by simp) (by
    intro j hj
    match j, hj with
    | 0, _ => simp
    | 1, _ => simp
    | 2, _ => simp)).mono ?_
  rintro e w1 ⟨rfl, rfl⟩
  go_wp2_with fail
  go_ret
  exact ⟨rfl, (kk.trans (hfk n)).alloc _⟩
end Go.Proofs.Ytlnlbegcnhelmaa
