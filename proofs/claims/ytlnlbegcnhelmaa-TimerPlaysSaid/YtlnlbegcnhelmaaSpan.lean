/-
  The contracts of package span, of cmp's order, and of the reference's windows.
-/
import Derived.Test.YtlnlbegcnhelmaaNum
import Derived.Test.YtlnlbegcnhelmaaCmp
namespace Go.Proofs.Ytlnlbegcnhelmaa
open Go.RowKit
--auto

def Span.mayB (s : Span) : Bool := decide (s.s < s.e)
def Span.hasB (s : Span) (t : Int) : Bool := decide (s.s ≤ t) && decide (t < s.e)
def Span.meetB (a b : Span) : Bool := a.mayB && b.mayB && decide (a.s < b.e) && decide (b.s < a.e)
def Span.join (a b : Span) : Span := ⟨if b.s < a.s then b.s else a.s, if a.e < b.e then b.e else a.e⟩
def Span.overB (s : Span) (late mark : Int) : Bool := decide (s.e + late ≤ mark)
def Span.cmp (a b : Span) : Int := orI [cmpI a.s b.s, cmpI a.e b.e]

theorem span_may (w : World) (s : Span) : Calls Try.prog 71 #[.agg s.cells.toArray] w fun e w' => e = .returned (.bool s.mayB) ∧ Keep none_ w w' := by
  go_enter Try.func71, Try.ntmps71
  go_wp2
  go_ret
  exact ⟨rfl, (by repeat' (first | exact Keep.refl _ _ | refine Keep.set1 ?_ _ | refine Keep.alloc ?_ _ | refine Keep.drew ?_ | refine Keep.setNew ?_ (by simp) _))⟩
theorem span_over (w : World) (s : Span) (late mark : Int) (hs : s.ok) (hl : I64 late) (hm : I64 mark) :
    Calls Try.prog 78 #[.agg s.cells.toArray, .int .i64 late, .int .i64 mark] w fun e w' => e = .returned (.bool (s.overB late mark)) ∧ Keep none_ w w' := by
  unfold Span.overB
  by_cases h : I64 (s.e + late)
  · have c1 := Lib.hid (fun w => num_add_ok w s.e late hs.2 hl h)
    go_enter Try.func78, Try.ntmps78
    go_wp2_with fail
    refine (c1.out _).mono ?_
    rintro e w1 ⟨rfl, rfl⟩
    go_wp2_with fail
    go_ret
    exact ⟨rfl, (by repeat' (first | exact Keep.refl _ _ | refine Keep.set1 ?_ _ | refine Keep.alloc ?_ _ | refine Keep.drew ?_ | refine Keep.setNew ?_ (by simp) _))⟩
  · have c1 := Lib.hid (fun w => num_add_no w s.e late hs.2 hl h)
    have hd : decide (s.e + late ≤ mark) = decide (late < 0) := by
      obtain ⟨_, hs1, hs2⟩ := hs
      unfold I64 at *
      rw [decide_eq_decide]; omega
    rw [hd]
    clear hd
    go_enter Try.func78, Try.ntmps78
    go_wp2_with fail
    refine (c1.out _).mono ?_
    rintro e w1 ⟨rfl, rfl⟩
    go_wp2_with fail
    go_ret
    exact ⟨rfl, (by repeat' (first | exact Keep.refl _ _ | refine Keep.set1 ?_ _ | refine Keep.alloc ?_ _ | refine Keep.drew ?_ | refine Keep.setNew ?_ (by simp) _))⟩

end Go.Proofs.Ytlnlbegcnhelmaa
