/-
  The contracts of the reference's windows.
-/
import Derived.Test.YtlnlbegcnhelmaaSpan
namespace Go.Proofs.Ytlnlbegcnhelmaa
open Go.RowKit
--auto

def Span.meetR (a b : Span) : Bool := decide ((if a.s < b.s then b.s else a.s) < a.e) && decide ((if a.s < b.s then b.s else a.s) < b.e)

theorem ref_over (w : World) (s : Span) (late mark : Int) (hs : s.ok) (hl : I64 late) (hm : I64 mark) :
    Calls Try.prog 57 #[.agg s.cells.toArray, .int .i64 late, .int .i64 mark] w fun e w' => e = .returned (.bool (s.overB late mark)) ∧ Keep none_ w w' := by
  have h1 : -73786976294838206464 ≤ s.e ∧ s.e ≤ 73786976294838206464 := by have := hs.2; unfold I64 at this; omega
  have h2 : -73786976294838206464 ≤ late ∧ late ≤ 73786976294838206464 := by unfold I64 at hl; omega
  have c1 := Lib.hid (fun w => ref_wide w s.e hs.2)
  have c2 := Lib.hid (fun w => ref_wide w late hl)
  have c3 := Lib.hid (fun w => ref_plus w s.e late h1 h2)
  have c4 := Lib.hid (fun w => ref_wide w mark hm)
  have c5 := Lib.hid (fun w => ref_above w (s.e + late) mark)
  have hr : s.overB late mark = !decide (mark < s.e + late) := by unfold Span.overB; rw [← decide_not, decide_eq_decide]; omega
  rw [hr]
  clear hr hs hl hm h1 h2
  have kk : Keep none_ w (w.alloc (.cells #[.int .i64 s.s, .int .i64 s.e] 99)) := (by repeat' (first | exact Keep.refl _ _ | refine Keep.set1 ?_ _ | refine Keep.alloc ?_ _ | refine Keep.drew ?_ | refine Keep.setNew ?_ (by simp) _))
  go_enter Try.func57, Try.ntmps57
  go_wp2_with (first
    | (go_at_call 82; (with_reducible refine (c1.out _).mono ?_); rintro e w' ⟨rfl, k⟩; replace kk := Keep.trans kk k)
    | (go_at_call 82; (with_reducible refine (c2.out _).mono ?_); rintro e w' ⟨rfl, k⟩; replace kk := Keep.trans kk k)
    | (go_at_call 82; (with_reducible refine (c4.out _).mono ?_); rintro e w' ⟨rfl, k⟩; replace kk := Keep.trans kk k)
    | (go_at_call 81; (with_reducible refine (c3.out _).mono ?_); rintro e w' ⟨rfl, k⟩; replace kk := Keep.trans kk k)
    | (go_at_call 80; (with_reducible refine (c5.out _).mono ?_); rintro e w' ⟨rfl, k⟩; replace kk := Keep.trans kk k))
  go_ret
  exact ⟨rfl, kk⟩

end Go.Proofs.Ytlnlbegcnhelmaa
