/-
  The walks of the two laws on a control.
-/
import Derived.Test.YtkbaijdamddipaaCtl
import Derived.Test.YtkbaijdamddipaaData
import Derived.Deep.LoopGhost
import Derived.Outline
import Derived.Deep.RegionWith
namespace Go.Proofs.Ytkbaijdamddipaa
open Go.RowKit

def pick (c n : Int) : Int := (if c < 0 then -(c + 1) else c) % n
theorem pick_range (c n : Int) (hn : 0 < n) : 0 ≤ pick c n ∧ pick c n < n := by
  unfold pick; exact ⟨Int.emod_nonneg _ (by omega), Int.emod_lt_of_pos _ hn⟩
theorem pick_any (w : World) (c n : Int) (hc : -9223372036854775808 ≤ c) (hc' : c ≤ 9223372036854775807) (hn : 0 < n) (hn' : n ≤ 9223372036854775807) :
    Calls Try.prog 29 #[.int .i64 c, .int .i64 n] w fun e w' => e = .returned (.int .i64 (pick c n)) ∧ w = w' := by
  have hn0 : n ≠ 0 := by omega
  by_cases h : c < 0
  · go_enter Try.func29, Try.ntmps29
    go_wp2
    go_ret
    have e : -((c + 1).tmod n) = -(c + 1) % n := by rw [← Int.neg_tmod, Int.tmod_eq_emod_of_nonneg (by omega)]
    exact ⟨by simp [pick, h, e], rfl⟩
  · go_enter Try.func29, Try.ntmps29
    go_wp2
    go_ret
    have h' : ¬ c < 0 := by omega
    exact ⟨by simp [pick, h'], rfl⟩

theorem ctlUp (w : World) : Calls Try.prog 27 #[] w fun e w' => e = .returned (.bool true) ∧ Keep none_ w w' := by
  go_enter Try.func27, Try.ntmps27
  go_wp2_with fail
  refine (ctl_new _).mono ?_
  rintro e w1 ⟨rfl, h1, k1⟩
  go_wp2_with fail
  refine (ctl_hold _ _ _ _ (true, ⟨1, true, -9223372036854775808, false⟩) h1 rfl).mono ?_
  rintro e w2 ⟨rfl, h2, k2⟩
  go_wp2_with fail
  refine (ctl_hold _ _ _ _ (false, ⟨1, true, -9223372036854775808, false⟩) h2 rfl).mono ?_
  rintro e w3 ⟨rfl, h3, k3⟩
  go_wp2_with fail
  refine (ctl_drop _ _ _ _ (true, ⟨0, false, -9223372036854775808, false⟩) h3 rfl).mono ?_
  rintro e w4 ⟨rfl, h4, k4⟩
  go_wp2_with fail
  refine (ctl_hold _ _ _ _ (true, ⟨2, true, -9223372036854775808, false⟩) h4 rfl).mono ?_
  rintro e w5 ⟨rfl, h5, k5⟩
  go_wp2_with fail
  refine (ctl_mark _ _ _ h5).mono ?_
  rintro e w5 ⟨rfl, rfl⟩
  go_wp2_with fail
  refine (ctl_closed _ _ _ h5).mono ?_
  rintro e w5 ⟨rfl, rfl⟩
  go_wp2_with fail
  refine (ctl_raise _ _ _ _ (false, ⟨2, true, -9223372036854775808, false⟩) h5 rfl).mono ?_
  rintro e w6 ⟨rfl, h6, k6⟩
  go_wp2_with fail
  go_ret
  have hs := Nat.le_refl w.heap.size
  exact ⟨rfl, keep0 ((((((Below.refl _ w |> (bk · k1 not_none) |> (bk · k2 (not_one hs))) |> (bk · k3 (not_one hs))) |> (bk · k4 (not_one hs))) |> (bk · k5 (not_one hs))) |> (bk · k6 (not_one hs))))⟩

end Go.Proofs.Ytkbaijdamddipaa
