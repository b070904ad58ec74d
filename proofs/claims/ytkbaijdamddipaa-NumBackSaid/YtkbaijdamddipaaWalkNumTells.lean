/-
  The walks of the laws NumTells and NumBack.
-/
import Derived.Test.YtkbaijdamddipaaNumRef
namespace Go.Proofs.Ytkbaijdamddipaa
open Go.RowKit

theorem is_no (w : World) (k p : Int) (h1 : 1 ≤ k) (h2 : k ≤ 10) : Calls Try.prog 44 #[.int .i64 0, errV k, .int .i64 p, .bool false, .int .i64 k] w fun e w' =>
    e = .returned (.bool true) ∧ w = w' := by
  go_enter Try.func44, Try.ntmps44
  go_wp2_with fail
  refine (code_err _ k h1 h2).mono ?_
  rintro e w' ⟨rfl, rfl⟩
  go_wp2_with fail
  go_ret
  exact ⟨rfl, rfl⟩
theorem is_yes (w : World) (n k : Int) : Calls Try.prog 44 #[.int .i64 n, .nilIface, .int .i64 n, .bool true, .int .i64 k] w fun e w' =>
    e = .returned (.bool true) ∧ w = w' := by
  go_enter Try.func44, Try.ntmps44
  go_wp2_with fail
  go_ret
  exact ⟨rfl, rfl⟩
theorem is_fit (w : World) (n : Int) : Calls Try.prog 44 #[.int .i64 (fitN n), fitE n, .int .i64 (fitN n), .bool (fitB n), .int .i64 3] w fun e w' =>
    e = .returned (.bool true) ∧ w = w' := by
  by_cases h : I64 n
  · obtain ⟨f1, f2, f3⟩ := fit_yes h
    rw [f1, f2, f3]; exact is_yes w n 3
  · obtain ⟨f1, f2, f3⟩ := fit_no h
    rw [f1, f2, f3]; exact is_no w 3 0 (by omega) (by omega)

theorem numUp (w : World) : Calls Try.prog 37 #[] w fun e w' => e = .returned (.bool true) ∧ w = w' := by
  have he := fun w a b => eq_err w a b
  have c1 : Hid (∀ w, Calls Try.prog 40 #[.int .i64 (-1), .int .i64 10] w fun e w' => e = .returned (.tuple #[.int .i64 (-1), .nilIface]) ∧ w = w') :=
    Lib.hid (fun w => num_floor w (-1) 10 (by simp [I64]) (by simp [I64]) (by omega))
  have c2 : Hid (∀ w, Calls Try.prog 41 #[.int .i64 (-1), .int .i64 10] w fun e w' => e = .returned (.tuple #[.int .i64 (-10), .nilIface]) ∧ w = w') :=
    Lib.hid (fun w => num_down w (-1) 10 (by simp [I64]) (by simp [I64]) (by omega))
  have c3 := Lib.hid (fun w => num_add_no w 9223372036854775807 1 (by simp [I64]) (by simp [I64]) (by simp [I64]))
  have c4 := Lib.hid (fun w => num_floor_no w 1 0 (by omega))
  go_enter Try.func37, Try.ntmps37
  go_wp2_with fail
  refine (c1.out _).mono ?_
  rintro e w' ⟨rfl, rfl⟩
  go_wp2_with fail
  refine (c2.out _).mono ?_
  rintro e w' ⟨rfl, rfl⟩
  go_wp2_with fail
  refine (c3.out _).mono ?_
  rintro e w' ⟨rfl, rfl⟩
  go_wp2_with fail
  refine (c4.out _).mono ?_
  rintro e w' ⟨rfl, rfl⟩
  go_wp2_with fail
  go_ret
  exact ⟨rfl, rfl⟩

set_option maxHeartbeats 1000000 in
set_option maxRecDepth 100000 in
theorem law_NumTells (a b : Int) (W : World) (ha : I64 a) (hb : I64 b) :
    Calls Try.prog 9 #[.int .i64 a, .int .i64 b] W fun e W' => e = .returned (.bool true) ∧ Below W.heap.size W W' := by
  have c1 := Lib.hid (fun w => num_add w a b ha hb)
  have c2 := Lib.hid (fun w => num_sub w a b ha hb)
  have c3 := Lib.hid (fun w => ref_add w a b ha hb)
  have c4 := Lib.hid (fun w => ref_sub w a b ha hb)
  have c5 := Lib.hid (fun w => is_fit w (a + b))
  have c6 := Lib.hid (fun w => is_fit w (a - b))
  by_cases h : b < 1
  · have c7 := Lib.hid (fun w => num_floor_no w a b h)
    have c8 := Lib.hid (fun w => num_down_no w a b h)
    have c9 := Lib.hid (fun w => is_no w 1 0 (by omega) (by omega))
    clear ha hb
    go_enter Try.func9, Try.ntmps9
    go_wp2_with fail
    refine (numUp _).mono ?_
    rintro e w' ⟨rfl, rfl⟩
    go_wp2_with fail
    refine (c1.out _).mono ?_
    rintro e w' ⟨rfl, rfl⟩
    go_wp2_with fail
    refine (c2.out _).mono ?_
    rintro e w' ⟨rfl, rfl⟩
    go_wp2_with fail
    refine (c7.out _).mono ?_
    rintro e w' ⟨rfl, rfl⟩
    go_wp2_with fail
    refine (c8.out _).mono ?_
    rintro e w' ⟨rfl, rfl⟩
    go_wp2_with fail
    refine (c3.out _).mono ?_
    rintro e w1 ⟨rfl, k1⟩
    go_wp2_with fail
    refine (c4.out _).mono ?_
    rintro e w2 ⟨rfl, k2⟩
    go_wp2_with fail
    refine (c5.out _).mono ?_
    rintro e w' ⟨rfl, rfl⟩
    go_wp2_with fail
    refine (c6.out _).mono ?_
    rintro e w' ⟨rfl, rfl⟩
    go_wp2_with fail
    refine (c9.out _).mono ?_
    rintro e w' ⟨rfl, rfl⟩
    go_wp2_with fail
    refine (c9.out _).mono ?_
    rintro e w' ⟨rfl, rfl⟩
    go_wp2_with fail
    go_ret
    exact ⟨rfl, (k1.trans k2).below (Nat.le_refl _) not_none⟩
  · have h1 : 1 ≤ b := by omega
    have c7 := Lib.hid (fun w => num_floor w a b ha hb h1)
    have c8 := Lib.hid (fun w => num_down w a b ha hb h1)
    have c9 := Lib.hid (fun w => ref_floor w a b ha hb h1)
    have c10 := Lib.hid (fun w => ref_down w a b ha hb h1)
    have c11 := Lib.hid (fun w => is_yes w (a / b) 0)
    have c12 := Lib.hid (fun w => is_fit w (a - a % b))
    clear ha hb
    go_enter Try.func9, Try.ntmps9
    go_wp2_with fail
    refine (numUp _).mono ?_
    rintro e w' ⟨rfl, rfl⟩
    go_wp2_with fail
    refine (c1.out _).mono ?_
    rintro e w' ⟨rfl, rfl⟩
    go_wp2_with fail
    refine (c2.out _).mono ?_
    rintro e w' ⟨rfl, rfl⟩
    go_wp2_with fail
    refine (c7.out _).mono ?_
    rintro e w' ⟨rfl, rfl⟩
    go_wp2_with fail
    refine (c8.out _).mono ?_
    rintro e w' ⟨rfl, rfl⟩
    go_wp2_with fail
    refine (c3.out _).mono ?_
    rintro e w1 ⟨rfl, k1⟩
    go_wp2_with fail
    refine (c4.out _).mono ?_
    rintro e w2 ⟨rfl, k2⟩
    go_wp2_with fail
    refine (c5.out _).mono ?_
    rintro e w' ⟨rfl, rfl⟩
    go_wp2_with fail
    refine (c6.out _).mono ?_
    rintro e w' ⟨rfl, rfl⟩
    go_wp2_with fail
    refine (c10.out _).mono ?_
    rintro e w3 ⟨rfl, k3⟩
    go_wp2_with fail
    refine (c9.out _).mono ?_
    rintro e w' ⟨rfl, rfl⟩
    go_wp2_with fail
    refine (c11.out _).mono ?_
    rintro e w' ⟨rfl, rfl⟩
    go_wp2_with fail
    refine (c12.out _).mono ?_
    rintro e w' ⟨rfl, rfl⟩
    go_wp2_with fail
    go_ret
    exact ⟨rfl, ((k1.trans k2).trans k3).below (Nat.le_refl _) not_none⟩
end Go.Proofs.Ytkbaijdamddipaa
