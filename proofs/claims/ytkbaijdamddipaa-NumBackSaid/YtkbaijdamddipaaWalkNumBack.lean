/-
  The walk of the law NumBack.
-/
import Derived.Test.YtkbaijdamddipaaWalkNumTells
namespace Go.Proofs.Ytkbaijdamddipaa
open Go.RowKit

theorem back_u (a b r : Int) (ha : I64 a) (hb : I64 b) (h0 : 0 ≤ r) (h1 : r < b) (hr : -9223372036854775808 ≤ a - r) :
    decide (IntKind.u64.wrap (IntKind.u64.wrap a - IntKind.u64.wrap (a - r)) < b) = true := by
  unfold I64 at *
  simp only [IntKind.wrap, IntKind.signed, IntKind.bits, decide_eq_true_eq]
  simp; omega
theorem back_q (a b : Int) (ha : I64 a) (hb : I64 b) (h : 1 ≤ b) (hr : -9223372036854775808 ≤ a - a % b) : (wrap64 (a / b * b) == a - a % b) = true := by
  have h1 := Int.mul_ediv_add_emod a b
  have h2 : a / b * b = a - a % b := by rw [Int.mul_comm]; omega
  have hm : 0 ≤ a % b := Int.emod_nonneg _ (by omega)
  unfold I64 at *
  rw [h2]
  unfold wrap64
  simp; omega

set_option maxHeartbeats 1000000 in
set_option maxRecDepth 100000 in
theorem law_NumBack (a b : Int) (W : World) (ha : I64 a) (hb : I64 b) :
    Calls Try.prog 10 #[.int .i64 a, .int .i64 b] W fun e W' => e = .returned (.bool true) ∧ Below W.heap.size W W' := by
  have he := fun w a b => eq_err w a b
  have ha' := ha
  have hb' := hb
  unfold I64 at ha' hb'
  obtain ⟨ha1, ha2⟩ := ha'
  obtain ⟨hb1, hb2⟩ := hb'
  by_cases hab : I64 (a + b)
  · have c1 := Lib.hid (fun w => num_add_ok w a b ha hb hab)
    have c2 : Hid (∀ w, Calls Try.prog 39 #[.int .i64 (a + b), .int .i64 b] w fun e w' => e = .returned (.tuple #[.int .i64 a, .nilIface]) ∧ w = w') :=
      Lib.hid (fun w => by have := num_sub_ok w (a + b) b hab hb (by rw [show a + b - b = a by omega]; exact ha); rwa [show a + b - b = a by omega] at this)
    have c3 : Hid (∀ w, Calls Try.prog 39 #[.int .i64 (a + b), .int .i64 a] w fun e w' => e = .returned (.tuple #[.int .i64 b, .nilIface]) ∧ w = w') :=
      Lib.hid (fun w => by have := num_sub_ok w (a + b) a hab ha (by rw [show a + b - a = b by omega]; exact hb); rwa [show a + b - a = b by omega] at this)
    clear hab
    by_cases h : b < 1
    · clear ha hb
      go_enter Try.func10, Try.ntmps10
      go_wp2_with fail
      refine (numUp _).mono ?_
      rintro e w' ⟨rfl, rfl⟩
      go_wp2_with fail
      refine (c1.out _).mono ?_
      rintro e w' ⟨rfl, rfl⟩
      go_wp2_with fail
      refine (c2.out _).mono ?_
      rintro e w' ⟨rfl, rfl⟩
      go_wp2_with fail
      refine (c3.out _).mono ?_
      rintro e w' ⟨rfl, rfl⟩
      go_wp2_with fail
      go_ret
      exact ⟨rfl, Below.refl _ _⟩
    · have h1 : 1 ≤ b := by omega
      have hm : 0 ≤ a % b := Int.emod_nonneg _ (by omega)
      have hm2 : a % b < b := Int.emod_lt_of_pos _ (by omega)
      have c4 := Lib.hid (fun w => num_floor w a b ha hb h1)
      have c5 := fun w => num_down w a b ha hb h1
      by_cases hr : I64 (a - a % b)
      · rw [(fit_yes hr).1, (fit_yes hr).2.1] at c5
        have c5 := Lib.hid c5
        unfold I64 at hr
        have hu := back_u a b (a % b) ha hb hm hm2 hr.1
        have hq := back_q a b ha hb h1 hr.1
        have hd : a - a % b ≤ a := by omega
        clear ha hb hr
        go_enter Try.func10, Try.ntmps10
        go_wp2_with (first
          | (go_at_call 37; (with_reducible refine (numUp _).mono ?_); rintro e w' ⟨rfl, rfl⟩)
          | (go_at_call 38; (with_reducible refine (c1.out _).mono ?_); rintro e w' ⟨rfl, rfl⟩)
          | (go_at_call 39; (with_reducible refine (c2.out _).mono ?_); rintro e w' ⟨rfl, rfl⟩)
          | (go_at_call 39; (with_reducible refine (c3.out _).mono ?_); rintro e w' ⟨rfl, rfl⟩)
          | (go_at_call 40; (with_reducible refine (c4.out _).mono ?_); rintro e w' ⟨rfl, rfl⟩)
          | (go_at_call 41; (with_reducible refine (c5.out _).mono ?_); rintro e w' ⟨rfl, rfl⟩))
        go_ret
        exact ⟨rfl, Below.refl _ _⟩
      · rw [(fit_no hr).1, (fit_no hr).2.1] at c5
        have c5 := Lib.hid c5
        unfold I64 at hr
        have hneg : a < 0 := by omega
        clear ha hb hr
        go_enter Try.func10, Try.ntmps10
        go_wp2_with (first
          | (go_at_call 37; (with_reducible refine (numUp _).mono ?_); rintro e w' ⟨rfl, rfl⟩)
          | (go_at_call 38; (with_reducible refine (c1.out _).mono ?_); rintro e w' ⟨rfl, rfl⟩)
          | (go_at_call 39; (with_reducible refine (c2.out _).mono ?_); rintro e w' ⟨rfl, rfl⟩)
          | (go_at_call 39; (with_reducible refine (c3.out _).mono ?_); rintro e w' ⟨rfl, rfl⟩)
          | (go_at_call 40; (with_reducible refine (c4.out _).mono ?_); rintro e w' ⟨rfl, rfl⟩)
          | (go_at_call 41; (with_reducible refine (c5.out _).mono ?_); rintro e w' ⟨rfl, rfl⟩))
        go_ret
        exact ⟨rfl, Below.refl _ _⟩
  · have c1 := Lib.hid (fun w => num_add_no w a b ha hb hab)
    clear hab
    by_cases h : b < 1
    · clear ha hb
      go_enter Try.func10, Try.ntmps10
      go_wp2_with fail
      refine (numUp _).mono ?_
      rintro e w' ⟨rfl, rfl⟩
      go_wp2_with fail
      refine (c1.out _).mono ?_
      rintro e w' ⟨rfl, rfl⟩
      go_wp2_with fail
      go_ret
      exact ⟨rfl, Below.refl _ _⟩
    · have h1 : 1 ≤ b := by omega
      have hm : 0 ≤ a % b := Int.emod_nonneg _ (by omega)
      have hm2 : a % b < b := Int.emod_lt_of_pos _ (by omega)
      have c2 := trivial
      have c3 := trivial
      have c4 := Lib.hid (fun w => num_floor w a b ha hb h1)
      have c5 := fun w => num_down w a b ha hb h1
      by_cases hr : I64 (a - a % b)
      · rw [(fit_yes hr).1, (fit_yes hr).2.1] at c5
        have c5 := Lib.hid c5
        unfold I64 at hr
        have hu := back_u a b (a % b) ha hb hm hm2 hr.1
        have hq := back_q a b ha hb h1 hr.1
        have hd : a - a % b ≤ a := by omega
        clear ha hb hr
        go_enter Try.func10, Try.ntmps10
        go_wp2_with (first
          | (go_at_call 37; (with_reducible refine (numUp _).mono ?_); rintro e w' ⟨rfl, rfl⟩)
          | (go_at_call 38; (with_reducible refine (c1.out _).mono ?_); rintro e w' ⟨rfl, rfl⟩)
          | (go_at_call 39; (with_reducible refine (c2.out _).mono ?_); rintro e w' ⟨rfl, rfl⟩)
          | (go_at_call 39; (with_reducible refine (c3.out _).mono ?_); rintro e w' ⟨rfl, rfl⟩)
          | (go_at_call 40; (with_reducible refine (c4.out _).mono ?_); rintro e w' ⟨rfl, rfl⟩)
          | (go_at_call 41; (with_reducible refine (c5.out _).mono ?_); rintro e w' ⟨rfl, rfl⟩))
        go_ret
        exact ⟨rfl, Below.refl _ _⟩
      · rw [(fit_no hr).1, (fit_no hr).2.1] at c5
        have c5 := Lib.hid c5
        unfold I64 at hr
        have hneg : a < 0 := by omega
        clear ha hb hr
        go_enter Try.func10, Try.ntmps10
        go_wp2_with (first
          | (go_at_call 37; (with_reducible refine (numUp _).mono ?_); rintro e w' ⟨rfl, rfl⟩)
          | (go_at_call 38; (with_reducible refine (c1.out _).mono ?_); rintro e w' ⟨rfl, rfl⟩)
          | (go_at_call 39; (with_reducible refine (c2.out _).mono ?_); rintro e w' ⟨rfl, rfl⟩)
          | (go_at_call 39; (with_reducible refine (c3.out _).mono ?_); rintro e w' ⟨rfl, rfl⟩)
          | (go_at_call 40; (with_reducible refine (c4.out _).mono ?_); rintro e w' ⟨rfl, rfl⟩)
          | (go_at_call 41; (with_reducible refine (c5.out _).mono ?_); rintro e w' ⟨rfl, rfl⟩))
        go_ret
        exact ⟨rfl, Below.refl _ _⟩
end Go.Proofs.Ytkbaijdamddipaa
