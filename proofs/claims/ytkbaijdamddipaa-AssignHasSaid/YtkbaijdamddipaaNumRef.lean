/-
  The contracts of the reference's sums, quotients and multiples.
-/
import Derived.Test.YtkbaijdamddipaaNum
namespace Go.Proofs.Ytkbaijdamddipaa
open Go.RowKit

theorem ref_add (w : World) (a b : Int) (ha : I64 a) (hb : I64 b) : Calls Try.prog 42 #[.int .i64 a, .int .i64 b] w fun e w' =>
    e = .returned (.tuple #[.int .i64 (fitN (a + b)), .bool (fitB (a + b))]) ∧ Keep none_ w w' := by
  have ha0 : -73786976294838206464 ≤ a ∧ a ≤ 73786976294838206464 := by unfold I64 at ha; omega
  have hb0 : -73786976294838206464 ≤ b ∧ b ≤ 73786976294838206464 := by unfold I64 at hb; omega
  have hab : -73786976294838206464 ≤ a + b ∧ a + b ≤ 73786976294838206464 := by unfold I64 at ha hb; omega
  have c4 := fun w => ref_fits w (a + b) hab
  have c4 := Lib.hid c4
  have c1 := Lib.hid (fun w => ref_wide w a ha)
  have c2 := Lib.hid (fun w => ref_wide w b hb)
  have c3 := Lib.hid (fun w => ref_plus w a b ha0 hb0)
  clear ha hb ha0 hb0 hab
  have kk : Keep none_ w w := Keep.refl _ _
  go_enter Try.func42, Try.ntmps42
  go_wp2_with (first
    | (go_at_call 68; (with_reducible refine (c1.out _).mono ?_); rintro e w' ⟨rfl, k⟩; replace kk := Keep.trans kk k)
    | (go_at_call 68; (with_reducible refine (c2.out _).mono ?_); rintro e w' ⟨rfl, k⟩; replace kk := Keep.trans kk k)
    | (go_at_call 67; (with_reducible refine (c3.out _).mono ?_); rintro e w' ⟨rfl, k⟩; replace kk := Keep.trans kk k)
    | (go_at_call 66; (with_reducible refine (c4.out _).mono ?_); rintro e w' ⟨rfl, k⟩; replace kk := Keep.trans kk k))
  go_ret2
  exact ⟨rfl, kk⟩
theorem ref_sub (w : World) (a b : Int) (ha : I64 a) (hb : I64 b) : Calls Try.prog 43 #[.int .i64 a, .int .i64 b] w fun e w' =>
    e = .returned (.tuple #[.int .i64 (fitN (a - b)), .bool (fitB (a - b))]) ∧ Keep none_ w w' := by
  have ha0 : -73786976294838206464 ≤ a ∧ a ≤ 73786976294838206464 := by unfold I64 at ha; omega
  have hb0 : -73786976294838206464 ≤ b ∧ b ≤ 73786976294838206464 := by unfold I64 at hb; omega
  have hab : -73786976294838206464 ≤ a - b ∧ a - b ≤ 73786976294838206464 := by unfold I64 at ha hb; omega
  have c4 := fun w => ref_fits w (a - b) hab
  have c4 := Lib.hid c4
  have c1 := Lib.hid (fun w => ref_wide w a ha)
  have c2 := Lib.hid (fun w => ref_wide w b hb)
  have c3 := Lib.hid (fun w => ref_minus w a b ha0 hb0)
  clear ha hb ha0 hb0 hab
  have kk : Keep none_ w w := Keep.refl _ _
  go_enter Try.func43, Try.ntmps43
  go_wp2_with (first
    | (go_at_call 68; (with_reducible refine (c1.out _).mono ?_); rintro e w' ⟨rfl, k⟩; replace kk := Keep.trans kk k)
    | (go_at_call 68; (with_reducible refine (c2.out _).mono ?_); rintro e w' ⟨rfl, k⟩; replace kk := Keep.trans kk k)
    | (go_at_call 69; (with_reducible refine (c3.out _).mono ?_); rintro e w' ⟨rfl, k⟩; replace kk := Keep.trans kk k)
    | (go_at_call 66; (with_reducible refine (c4.out _).mono ?_); rintro e w' ⟨rfl, k⟩; replace kk := Keep.trans kk k))
  go_ret2
  exact ⟨rfl, kk⟩

theorem ref_down (w : World) (a b : Int) (ha : I64 a) (hb : I64 b) (h : 1 ≤ b) : Calls Try.prog 45 #[.int .i64 a, .int .i64 b] w fun e w' =>
    e = .returned (.tuple #[.int .i64 (fitN (a - a % b)), .bool (fitB (a - a % b))]) ∧ Keep none_ w w' := by
  have hm : 0 ≤ a % b := Int.emod_nonneg _ (by omega)
  have hm2 : a % b < b := Int.emod_lt_of_pos _ (by omega)
  have hb' := hb
  unfold I64 at hb'
  obtain ⟨hb1, hb2⟩ := hb'
  have c1 := fun w => ref_sub w a (a % b) ha (by unfold I64; omega)
  have c1 := Lib.hid c1
  unfold I64 at ha hb
  obtain ⟨ha1, ha2⟩ := ha
  have kk : Keep none_ w w := Keep.refl _ _
  by_cases h0 : 0 ≤ a
  · go_enter Try.func45, Try.ntmps45
    go_wp2_with (go_at_call 43; (with_reducible refine (c1.out _).mono ?_); rintro e w' ⟨rfl, k⟩; replace kk := Keep.trans kk k)
    go_ret2
    exact ⟨rfl, kk⟩
  · rcases tfloor a b (by omega) h with ⟨h1, h2, h3⟩ | ⟨h1, h2, h3⟩
    · have h4 : a.tmod b + b ≤ 9223372036854775807 := by omega
      have h5 : -9223372036854775808 ≤ a.tmod b + b := by omega
      have H3 := Lib.hid h3
      clear h2 h3
      go_enter Try.func45, Try.ntmps45
      go_wp2_with fail
      rw [← H3.out]
      refine (c1.out _).mono ?_
      rintro e w' ⟨rfl, k⟩
      go_wp2_with fail
      go_ret2
      exact ⟨rfl, k⟩
    · have h4 : 0 ≤ a.tmod b := by omega
      have H3 := Lib.hid (h1.trans h3.symm)
      clear h1 h2 h3
      go_enter Try.func45, Try.ntmps45
      go_wp2_with fail
      rw [H3.out]
      refine (c1.out _).mono ?_
      rintro e w' ⟨rfl, k⟩
      go_wp2_with fail
      go_ret2
      exact ⟨rfl, k⟩
theorem ref_floor (w : World) (a b : Int) (ha : I64 a) (hb : I64 b) (h : 1 ≤ b) : Calls Try.prog 46 #[.int .i64 a, .int .i64 b] w fun e w' =>
    e = .returned (.int .i64 (a / b)) ∧ w = w' := by
  unfold I64 at *
  obtain ⟨ha1, ha2⟩ := ha
  obtain ⟨hb1, hb2⟩ := hb
  by_cases h0 : 0 ≤ a
  · have hm : 0 ≤ a % b := Int.emod_nonneg _ (by omega)
    go_enter Try.func46, Try.ntmps46
    go_wp2
    go_ret
    exact ⟨rfl, rfl⟩
  · have hle := le_floor a b (by omega) h
    rcases tfloor a b (by omega) h with ⟨h1, h2, h3⟩ | ⟨h1, h2, h3⟩
    · have h4 : -9223372036854775808 ≤ a.tdiv b - 1 := by omega
      have h5 : a.tdiv b - 1 ≤ 9223372036854775807 := by
        have : a / b ≤ 0 := Int.ediv_nonpos_of_nonpos_of_neg (by omega) (by omega)
        omega
      have H2 := Lib.hid h2
      clear h2 h3
      go_enter Try.func46, Try.ntmps46
      go_wp2
      go_ret
      exact ⟨by rw [H2.out]; rfl, rfl⟩
    · have h4 : 0 ≤ a.tmod b := by omega
      have H2 := Lib.hid h2
      clear h1 h2 h3
      go_enter Try.func46, Try.ntmps46
      go_wp2
      go_ret
      exact ⟨by rw [H2.out]; rfl, rfl⟩
end Go.Proofs.Ytkbaijdamddipaa
