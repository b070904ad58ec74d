/-
  The contracts of package span, of cmp's order, and of the reference's windows.
-/
import Derived.Test.YtmioichjhiengaaGreatNum
import Derived.Test.YtmioichjhiengaaGreatCmp
set_option linter.unusedSimpArgs false
set_option linter.unusedVariables false
namespace Go.Proofs.YtmioichjhiengaaGreat
open Go.RowKit
--auto

def Span.mayB (s : Span) : Bool := decide (s.s < s.e)
def Span.hasB (s : Span) (t : Int) : Bool := decide (s.s ≤ t) && decide (t < s.e)
def Span.meetB (a b : Span) : Bool := a.mayB && b.mayB && decide (a.s < b.e) && decide (b.s < a.e)
def Span.join (a b : Span) : Span := ⟨if b.s < a.s then b.s else a.s, if a.e < b.e then b.e else a.e⟩
def Span.overB (s : Span) (late mark : Int) : Bool := decide (s.e + late ≤ mark)
def Span.cmp (a b : Span) : Int := orI [cmpI a.s b.s, cmpI a.e b.e]

theorem span_may (w : World) (s : Span) : Calls Tryz.prog 99 #[.agg s.cells.toArray] w fun e w' => e = .returned (.bool s.mayB) ∧ Keep none_ w w' := by
  go_enter Tryz.func99, Tryz.ntmps99
  go_wp2
  go_ret
  exact ⟨rfl, (by repeat' (first | exact Keep.refl _ _ | refine Keep.set1 ?_ _ | refine Keep.alloc ?_ _ | refine Keep.drew ?_ | refine Keep.setNew ?_ (by simp) _))⟩
theorem span_meet (w : World) (a b : Span) : Calls Tryz.prog 117 #[.agg a.cells.toArray, .agg b.cells.toArray] w fun e w' => e = .returned (.bool (a.meetB b)) ∧ Keep none_ w w' := by
  have hx := At.alloc (At.new w a.cells.toArray 84) (.cells b.cells.toArray 84)
  have hy : At ((w.alloc (.cells a.cells.toArray 84)).alloc (.cells b.cells.toArray 84)) (w.heap.size + 1) b.cells.toArray 84 := At.newAt (by simp) _ _
  have kk : Keep none_ w ((w.alloc (.cells a.cells.toArray 84)).alloc (.cells b.cells.toArray 84)) := (by repeat' (first | exact Keep.refl _ _ | refine Keep.set1 ?_ _ | refine Keep.alloc ?_ _ | refine Keep.drew ?_ | refine Keep.setNew ?_ (by simp) _))
  simp only [Span.cells] at hx hy kk ⊢
  unfold Span.meetB
  go_enter Tryz.func117, Tryz.ntmps117
  go_wp2_with fail
  refine (span_may _ a).mono ?_
  rintro e w1 ⟨rfl, k1⟩
  replace hx := Keep.at k1 hx (fun e => e)
  replace hy := Keep.at k1 hy (fun e => e)
  replace kk := kk.trans k1
  have cx := At.cell hx
  have cy := At.cell hy
  cases ha : a.mayB
  · go_wp2_with fail
    go_ret
    exact ⟨by simp [ha], kk⟩
  · go_wp2_with fail
    refine (span_may _ b).mono ?_
    rintro e w2 ⟨rfl, k2⟩
    replace hx := Keep.at k2 hx (fun e => e)
    replace hy := Keep.at k2 hy (fun e => e)
    replace kk := kk.trans k2
    have cx := At.cell hx
    have cy := At.cell hy
    cases hb : b.mayB
    · go_wp2_with fail
      go_ret
      exact ⟨by simp [hb], kk⟩
    · by_cases h1 : a.s < b.e
      · go_wp2_with fail
        go_ret
        exact ⟨by simp [h1, ha, hb], kk⟩
      · go_wp2_with fail
        go_ret
        have h1 : ¬ a.s < b.e := by omega
        exact ⟨by simp [h1, ha, hb], kk⟩

theorem span_join (w : World) (a b : Span) : Calls Tryz.prog 118 #[.agg a.cells.toArray, .agg b.cells.toArray] w fun e w' => e = .returned (.agg (a.join b).cells.toArray) ∧ Keep none_ w w' := by
  simp only [Span.cells, Span.join]
  by_cases h1 : b.s < a.s <;> by_cases h2 : a.e < b.e
  all_goals
    simp only [h1, h2, if_true, if_false]
    go_enter Tryz.func118, Tryz.ntmps118
    go_wp2
    exact bodyPost_ret (v := .agg #[.int .i64 _, .int .i64 _]) (by simp [results, Tryz.results118, go_sem]) rfl ⟨rfl, (by repeat' (first | exact Keep.refl _ _ | refine Keep.set1 ?_ _ | refine Keep.alloc ?_ _ | refine Keep.drew ?_ | refine Keep.setNew ?_ (by simp) _))⟩

theorem span_over (w : World) (s : Span) (late mark : Int) (hs : s.ok) (hl : I64 late) (hm : I64 mark) :
    Calls Tryz.prog 51 #[.agg s.cells.toArray, .int .i64 late, .int .i64 mark] w fun e w' => e = .returned (.bool (s.overB late mark)) ∧ Keep none_ w w' := by
  unfold Span.overB
  by_cases h : I64 (s.e + late)
  · have c1 := Lib.hid (fun w => num_add_ok w s.e late hs.2 hl h)
    go_enter Tryz.func51, Tryz.ntmps51
    go_wp2_with fail
    refine (c1.out _).mono ?_
    rintro e w1 ⟨rfl, rfl⟩
    go_wp2_with fail
    go_ret
    exact ⟨rfl, (by repeat' (first | exact Keep.refl _ _ | refine Keep.set1 ?_ _ | refine Keep.alloc ?_ _ | refine Keep.drew ?_ | refine Keep.setNew ?_ (by simp) _))⟩
  · have c1 := Lib.hid (fun w => num_add_no w s.e late hs.2 hl h)
    have hd : decide (s.e + late ≤ mark) = decide (late < 0) := by
      obtain ⟨_, hs1, hs2⟩ := hs
      unfold I64 at *
      rw [decide_eq_decide]; omega
    rw [hd]
    clear hd
    go_enter Tryz.func51, Tryz.ntmps51
    go_wp2_with fail
    refine (c1.out _).mono ?_
    rintro e w1 ⟨rfl, rfl⟩
    go_wp2_with fail
    go_ret
    exact ⟨rfl, (by repeat' (first | exact Keep.refl _ _ | refine Keep.set1 ?_ _ | refine Keep.alloc ?_ _ | refine Keep.drew ?_ | refine Keep.setNew ?_ (by simp) _))⟩

theorem span_compare (w : World) (a b : Span) : Calls Tryz.prog 109 #[.agg a.cells.toArray, .agg b.cells.toArray] w fun e w' => e = .returned (.int .i64 (a.cmp b)) ∧ Keep none_ w w' := by
  have hx := At.alloc (At.new w a.cells.toArray 84) (.cells b.cells.toArray 84)
  have hy : At ((w.alloc (.cells a.cells.toArray 84)).alloc (.cells b.cells.toArray 84)) (w.heap.size + 1) b.cells.toArray 84 := At.newAt (by simp) _ _
  have kk : Keep none_ w ((w.alloc (.cells a.cells.toArray 84)).alloc (.cells b.cells.toArray 84)) := (by repeat' (first | exact Keep.refl _ _ | refine Keep.set1 ?_ _ | refine Keep.alloc ?_ _ | refine Keep.drew ?_ | refine Keep.setNew ?_ (by simp) _))
  simp only [Span.cells] at hx hy kk ⊢
  go_enter Tryz.func109, Tryz.ntmps109
  go_wp2_with fail
  generalize hw0 : (World.alloc (World.alloc w _) _) = w0 at hx hy kk ⊢
  obtain ⟨ι, hne, f, hf0, hfk, hfa⟩ := class_of none_ (w0)
  have cx : ∀ n i, (f n).cell? ⟨w.heap.size, i, none⟩ = _ := fun n => At.cell (Keep.at (hfk n) hx (fun e => e))
  have cy : ∀ n i, (f n).cell? ⟨w.heap.size + 1, i, none⟩ = _ := fun n => At.cell (Keep.at (hfk n) hy (fun e => e))
  clear hw0
  refine wp_region_class_tail f 10 (by kernel_rfl) (by kernel_rfl) hf0 ?_
  simp only [List.take_succ_cons, List.take_zero, List.drop_succ_cons, List.drop_zero]
  repeat (go_big_quiet_step ((go_at_call 132; exact Calls.class_of hfa ((cmp_int64 _ _ _).mono fun e w' h => ⟨h.1, h.2 ▸ Keep.refl _ _⟩))))
  refine wpQuiet_nil ?_
  intro n
  go_wp2_with fail
  refine (cmp_or _ _ _ [cmpI a.s b.s, cmpI a.e b.e] (by simp) (by
    intro j hj
    match j, hj with
    | 0, _ => simp
    | 1, _ => simp)).mono ?_
  rintro e w1 ⟨rfl, rfl⟩
  go_wp2_with fail
  go_ret
  exact ⟨rfl, (kk.trans (hfk n)).alloc _⟩
end Go.Proofs.YtmioichjhiengaaGreat
