/-
  The walk of the law FnvTells.
-/
import Derived.Test.YtkbaijdamddipaaWalkFnvGrows
import Derived.Test.YtkbaijdamddipaaFnvRef
namespace Go.Proofs.Ytkbaijdamddipaa
open Go.RowKit

theorem below_drewN (W : World) (m : Nat) : Below W.heap.size W (W.drewN m) := ⟨rfl, rfl, rfl, Nat.le_refl _, fun _ _ => rfl⟩

set_option maxRecDepth 100000 in
theorem law_FnvTells (s : ByteArray) (g : Int) (W : World) (hs : s.size ≤ maxLen) (hg : I64 g) :
    Calls Try.prog 5 #[.string s, .int .i64 g] W fun e W' => e = .returned (.bool true) ∧ Below W.heap.size W W' := by
  have hs' := hs
  unfold maxLen at hs'
  have c1 := fun w => fnv_may w s hs
  have c2 := Lib.hid (fun w => fnv_sum w s hs)
  have c3 := Lib.hid (fun w => ref_sum w s hs)
  have c4 := Lib.hid (fun w => fnv_group w s g hs hg)
  have c5 := Lib.hid (fun w => ref_group w s g hs hg)
  by_cases hlen : s.size ≤ 1000
  · by_cases h1 : 1 ≤ s.size
    · have hm : mayK s = decide ((s.size : Int) ≤ 20) := by unfold mayK; simp [h1]; omega
      rw [hm] at c1
      have c1 := Lib.hid c1
      clear hm
      go_enter Try.func5, Try.ntmps5
      go_wp2_with fail
      refine (fnvUp _).mono ?_
      rintro e w' ⟨rfl, rfl⟩
      go_wp2_with fail
      refine (c1.out _).mono ?_
      rintro e w' ⟨rfl, rfl⟩
      go_wp2_with fail
      refine (c2.out _).mono ?_
      rintro e w' ⟨rfl, rfl⟩
      go_wp2_with fail
      refine (c3.out _).mono ?_
      rintro e w' ⟨rfl, m1, rfl⟩
      go_wp2_with fail
      refine (c4.out _).mono ?_
      rintro e w' ⟨rfl, rfl⟩
      go_wp2_with fail
      refine (c5.out _).mono ?_
      rintro e w' ⟨rfl, m2, rfl⟩
      go_wp2_with fail
      go_ret
      exact ⟨rfl, below_drewN _ _⟩
    · have hm : mayK s = false := by unfold mayK; simp [h1]
      rw [hm] at c1
      have c1 := Lib.hid c1
      have h2 : s.size < 1 := by omega
      clear hm
      go_enter Try.func5, Try.ntmps5
      go_wp2_with fail
      refine (fnvUp _).mono ?_
      rintro e w' ⟨rfl, rfl⟩
      go_wp2_with fail
      refine (c1.out _).mono ?_
      rintro e w' ⟨rfl, rfl⟩
      go_wp2_with fail
      refine (c2.out _).mono ?_
      rintro e w' ⟨rfl, rfl⟩
      go_wp2_with fail
      refine (c3.out _).mono ?_
      rintro e w' ⟨rfl, m1, rfl⟩
      go_wp2_with fail
      refine (c4.out _).mono ?_
      rintro e w' ⟨rfl, rfl⟩
      go_wp2_with fail
      refine (c5.out _).mono ?_
      rintro e w' ⟨rfl, m2, rfl⟩
      go_wp2_with fail
      go_ret
      exact ⟨rfl, below_drewN _ _⟩
  · have hlb : decide (1000 < (s.size : Int)) = true := by simp; omega
    have c1 := Lib.hid c1
    go_enter Try.func5, Try.ntmps5
    go_wp2_with fail
    refine (fnvUp _).mono ?_
    rintro e w' ⟨rfl, rfl⟩
    go_wp2_with fail
    go_ret
    exact ⟨rfl, Below.refl _ _⟩
end Go.Proofs.Ytkbaijdamddipaa
