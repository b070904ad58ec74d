/-
  The contracts of the reference's windows.
-/
import Derived.Test.YtmioichjhiengaaGreatSpan
set_option linter.unusedSimpArgs false
set_option linter.unusedVariables false
namespace Go.Proofs.YtmioichjhiengaaGreat
open Go.RowKit
--auto

def Span.meetR (a b : Span) : Bool := decide ((if a.s < b.s then b.s else a.s) < a.e) && decide ((if a.s < b.s then b.s else a.s) < b.e)

theorem ref_meet (w : World) (a b : Span) : Calls Tryz.prog 92 #[.agg a.cells.toArray, .agg b.cells.toArray] w fun e w' => e = .returned (.bool (a.meetR b)) ∧ Keep none_ w w' := by
  unfold Span.meetR
  by_cases h1 : a.s < b.s
  · by_cases h2 : b.s < a.e
    · go_enter Tryz.func92, Tryz.ntmps92
      go_wp2
      go_ret
      exact ⟨by simp [h1, h2], (by repeat' (first | exact Keep.refl _ _ | refine Keep.set1 ?_ _ | refine Keep.alloc ?_ _ | refine Keep.drew ?_ | refine Keep.setNew ?_ (by simp) _))⟩
    · go_enter Tryz.func92, Tryz.ntmps92
      go_wp2
      go_ret
      have h2 : ¬ b.s < a.e := by omega
      exact ⟨by simp [h1, h2], (by repeat' (first | exact Keep.refl _ _ | refine Keep.set1 ?_ _ | refine Keep.alloc ?_ _ | refine Keep.drew ?_ | refine Keep.setNew ?_ (by simp) _))⟩
  · by_cases h2 : a.s < a.e
    · go_enter Tryz.func92, Tryz.ntmps92
      go_wp2
      go_ret
      have h1 : ¬ a.s < b.s := by omega
      exact ⟨by simp [h1, h2], (by repeat' (first | exact Keep.refl _ _ | refine Keep.set1 ?_ _ | refine Keep.alloc ?_ _ | refine Keep.drew ?_ | refine Keep.setNew ?_ (by simp) _))⟩
    · go_enter Tryz.func92, Tryz.ntmps92
      go_wp2
      go_ret
      have h1 : ¬ a.s < b.s := by omega
      have h2 : ¬ a.s < a.e := by omega
      exact ⟨by simp [h1, h2], (by repeat' (first | exact Keep.refl _ _ | refine Keep.set1 ?_ _ | refine Keep.alloc ?_ _ | refine Keep.drew ?_ | refine Keep.setNew ?_ (by simp) _))⟩

theorem ref_join (w : World) (a b : Span) : Calls Tryz.prog 93 #[.agg a.cells.toArray, .agg b.cells.toArray] w fun e w' => e = .returned (.agg (a.join b).cells.toArray) ∧ Keep none_ w w' := by
  simp only [Span.cells, Span.join]
  by_cases h1 : b.s < a.s <;> by_cases h2 : a.e < b.e
  all_goals
    simp only [h1, h2, if_true, if_false]
    go_enter Tryz.func93, Tryz.ntmps93
    go_wp2
    exact bodyPost_ret (v := .agg #[.int .i64 _, .int .i64 _]) (by simp [results, Tryz.results93, go_sem]) rfl ⟨rfl, (by repeat' (first | exact Keep.refl _ _ | refine Keep.set1 ?_ _ | refine Keep.alloc ?_ _ | refine Keep.drew ?_ | refine Keep.setNew ?_ (by simp) _))⟩

theorem ref_over (w : World) (s : Span) (late mark : Int) (hs : s.ok) (hl : I64 late) (hm : I64 mark) :
    Calls Tryz.prog 47 #[.agg s.cells.toArray, .int .i64 late, .int .i64 mark] w fun e w' => e = .returned (.bool (s.overB late mark)) ∧ Keep none_ w w' := by
  have h1 : -73786976294838206464 ≤ s.e ∧ s.e ≤ 73786976294838206464 := by have := hs.2; unfold I64 at this; omega
  have h2 : -73786976294838206464 ≤ late ∧ late ≤ 73786976294838206464 := by unfold I64 at hl; omega
  have c1 := Lib.hid (fun w => ref_wide w s.e hs.2)
  have c2 := Lib.hid (fun w => ref_wide w late hl)
  have c3 := Lib.hid (fun w => ref_plus w s.e late h1 h2)
  have c4 := Lib.hid (fun w => ref_wide w mark hm)
  have c5 := Lib.hid (fun w => ref_above w (s.e + late) mark)
  have hr : s.overB late mark = !decide (mark < s.e + late) := by unfold Span.overB; rw [← decide_not, decide_eq_decide]; omega
  rw [hr]
  clear hr hs hl hm h1 h2
  have kk : Keep none_ w (w.alloc (.cells #[.int .i64 s.s, .int .i64 s.e] 84)) := (by repeat' (first | exact Keep.refl _ _ | refine Keep.set1 ?_ _ | refine Keep.alloc ?_ _ | refine Keep.drew ?_ | refine Keep.setNew ?_ (by simp) _))
  go_enter Tryz.func47, Tryz.ntmps47
  go_wp2_with (first
    | (go_at_call 79; (with_reducible refine (c1.out _).mono ?_); rintro e w' ⟨rfl, k⟩; replace kk := Keep.trans kk k)
    | (go_at_call 79; (with_reducible refine (c2.out _).mono ?_); rintro e w' ⟨rfl, k⟩; replace kk := Keep.trans kk k)
    | (go_at_call 79; (with_reducible refine (c4.out _).mono ?_); rintro e w' ⟨rfl, k⟩; replace kk := Keep.trans kk k)
    | (go_at_call 78; (with_reducible refine (c3.out _).mono ?_); rintro e w' ⟨rfl, k⟩; replace kk := Keep.trans kk k)
    | (go_at_call 77; (with_reducible refine (c5.out _).mono ?_); rintro e w' ⟨rfl, k⟩; replace kk := Keep.trans kk k))
  go_ret
  exact ⟨rfl, kk⟩

theorem ref_compare (w : World) (a b : Span) : Calls Tryz.prog 59 #[.agg a.cells.toArray, .agg b.cells.toArray] w fun e w' => e = .returned (.int .i64 (a.cmp b)) ∧ Keep none_ w w' := by
  unfold Span.cmp
  by_cases h1 : a.s < b.s
  · rw [show orI [cmpI a.s b.s, cmpI a.e b.e] = -1 by simp [orI, cmpI, h1]]
    go_enter Tryz.func59, Tryz.ntmps59
    go_wp2
    go_ret
    exact ⟨rfl, (by repeat' (first | exact Keep.refl _ _ | refine Keep.set1 ?_ _ | refine Keep.alloc ?_ _ | refine Keep.drew ?_ | refine Keep.setNew ?_ (by simp) _))⟩
  · by_cases h2 : a.s = b.s
    · have hb : (a.s == b.s) = true := by simp [h2]
      by_cases h3 : a.e < b.e
      · rw [show orI [cmpI a.s b.s, cmpI a.e b.e] = -1 by simp [orI, cmpI, h2, h3]]
        have h2 := Lib.hid h2
        go_enter Tryz.func59, Tryz.ntmps59
        go_wp2
        go_ret
        exact ⟨rfl, (by repeat' (first | exact Keep.refl _ _ | refine Keep.set1 ?_ _ | refine Keep.alloc ?_ _ | refine Keep.drew ?_ | refine Keep.setNew ?_ (by simp) _))⟩
      · by_cases h4 : a.e = b.e
        · rw [show orI [cmpI a.s b.s, cmpI a.e b.e] = 0 by simp [orI, cmpI, h2, h4]]
          have hb2 : (a.e == b.e) = true := by simp [h4]
          have h2 := Lib.hid h2
          have h4 := Lib.hid h4
          go_enter Tryz.func59, Tryz.ntmps59
          go_wp2
          go_ret
          exact ⟨rfl, (by repeat' (first | exact Keep.refl _ _ | refine Keep.set1 ?_ _ | refine Keep.alloc ?_ _ | refine Keep.drew ?_ | refine Keep.setNew ?_ (by simp) _))⟩
        · have h5 : b.e < a.e := by omega
          rw [show orI [cmpI a.s b.s, cmpI a.e b.e] = 1 by simp [orI, cmpI, h2, h3, h5]]
          have hb2 : (a.e == b.e) = false := by simp [h4]
          have h2 := Lib.hid h2
          have h4 := Lib.hid h4
          go_enter Tryz.func59, Tryz.ntmps59
          go_wp2
          go_ret
          exact ⟨rfl, (by repeat' (first | exact Keep.refl _ _ | refine Keep.set1 ?_ _ | refine Keep.alloc ?_ _ | refine Keep.drew ?_ | refine Keep.setNew ?_ (by simp) _))⟩
    · have hb : (a.s == b.s) = false := by simp [h2]
      have h5 : b.s < a.s := by omega
      rw [show orI [cmpI a.s b.s, cmpI a.e b.e] = 1 by simp [orI, cmpI, h1, h5]]
      go_enter Tryz.func59, Tryz.ntmps59
      go_wp2
      go_ret
      exact ⟨rfl, (by repeat' (first | exact Keep.refl _ _ | refine Keep.set1 ?_ _ | refine Keep.alloc ?_ _ | refine Keep.drew ?_ | refine Keep.setNew ?_ (by simp) _))⟩
end Go.Proofs.YtmioichjhiengaaGreat
