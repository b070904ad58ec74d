/-
  The contracts of package num and of the reference's wide numbers.
-/
import Derived.Test.YtmioichjhiengaaGreatBaseA
import Derived.Lib.Hide
set_option linter.unusedSimpArgs false
set_option linter.unusedVariables false
namespace Go.Proofs.YtmioichjhiengaaGreat
open Go.RowKit
--auto


/-- A number that is an int64, or 0; the error if it is none; whether it is. -/
def fitN (n : Int) : Int := if -9223372036854775808 ≤ n ∧ n ≤ 9223372036854775807 then n else 0
def fitE (n : Int) : Value := if -9223372036854775808 ≤ n ∧ n ≤ 9223372036854775807 then .nilIface else errV 3
def fitB (n : Int) : Bool := decide (-9223372036854775808 ≤ n ∧ n ≤ 9223372036854775807)
theorem fit_yes {n : Int} (h : I64 n) : fitN n = n ∧ fitE n = .nilIface ∧ fitB n = true := by
  unfold I64 at h; unfold fitN fitE fitB; rw [if_pos h, if_pos h]; exact ⟨rfl, rfl, by simp [h]⟩
theorem fit_no {n : Int} (h : ¬ I64 n) : fitN n = 0 ∧ fitE n = errV 3 ∧ fitB n = false := by
  unfold I64 at h; unfold fitN fitE fitB; rw [if_neg h, if_neg h]; exact ⟨rfl, rfl, by simpa using h⟩

theorem num_add_ok (w : World) (a b : Int) (ha : I64 a) (hb : I64 b) (h : I64 (a + b)) : Calls Tryz.prog 83 #[.int .i64 a, .int .i64 b] w fun e w' =>
    e = .returned (.tuple #[.int .i64 (a + b), .nilIface]) ∧ w = w' := by
  unfold I64 at *
  obtain ⟨ha1, ha2⟩ := ha
  obtain ⟨hb1, hb2⟩ := hb
  obtain ⟨h1, h2⟩ := h
  by_cases h0 : 0 < b
  · have hq : decide (a < a + b) = true := by simp; omega
    go_enter Tryz.func83, Tryz.ntmps83
    go_wp2
    go_ret2
    exact ⟨rfl, rfl⟩
  · by_cases h3 : b = 0
    · subst h3
      go_enter Tryz.func83, Tryz.ntmps83
      go_wp2
      go_ret2
      exact ⟨by simp, rfl⟩
    · have hq : decide (a < a + b) = false := by simp; omega
      go_enter Tryz.func83, Tryz.ntmps83
      go_wp2
      go_ret2
      exact ⟨rfl, rfl⟩
theorem num_add_no (w : World) (a b : Int) (ha : I64 a) (hb : I64 b) (h : ¬ I64 (a + b)) : Calls Tryz.prog 83 #[.int .i64 a, .int .i64 b] w fun e w' =>
    e = .returned (.tuple #[.int .i64 0, errV 3]) ∧ w = w' := by
  unfold I64 at *
  obtain ⟨ha1, ha2⟩ := ha
  obtain ⟨hb1, hb2⟩ := hb
  by_cases h0 : 0 < b
  · have hq : decide (a < wrap64 (a + b)) = false := by simp; unfold wrap64; omega
    have hb0 : (b != 0) = true := by simp; omega
    have h := Lib.hid h
    go_enter Tryz.func83, Tryz.ntmps83
    go_wp2
    go_ret2
    exact ⟨rfl, rfl⟩
  · have hq : decide (a < wrap64 (a + b)) = true := by simp; unfold wrap64; omega
    have hb0 : (b != 0) = true := by simp; omega
    have h := Lib.hid h
    go_enter Tryz.func83, Tryz.ntmps83
    go_wp2
    go_ret2
    exact ⟨rfl, rfl⟩

theorem num_sub_ok (w : World) (a b : Int) (ha : I64 a) (hb : I64 b) (h : I64 (a - b)) : Calls Tryz.prog 111 #[.int .i64 a, .int .i64 b] w fun e w' =>
    e = .returned (.tuple #[.int .i64 (a - b), .nilIface]) ∧ w = w' := by
  unfold I64 at *
  obtain ⟨ha1, ha2⟩ := ha
  obtain ⟨hb1, hb2⟩ := hb
  obtain ⟨h1, h2⟩ := h
  by_cases h0 : 0 < b
  · have hq : decide (a - b < a) = true := by simp; omega
    go_enter Tryz.func111, Tryz.ntmps111
    go_wp2
    go_ret2
    exact ⟨rfl, rfl⟩
  · by_cases h3 : b = 0
    · subst h3
      go_enter Tryz.func111, Tryz.ntmps111
      go_wp2
      go_ret2
      exact ⟨by simp, rfl⟩
    · have hq : decide (a - b < a) = false := by simp; omega
      go_enter Tryz.func111, Tryz.ntmps111
      go_wp2
      go_ret2
      exact ⟨rfl, rfl⟩
theorem num_sub_no (w : World) (a b : Int) (ha : I64 a) (hb : I64 b) (h : ¬ I64 (a - b)) : Calls Tryz.prog 111 #[.int .i64 a, .int .i64 b] w fun e w' =>
    e = .returned (.tuple #[.int .i64 0, errV 3]) ∧ w = w' := by
  unfold I64 at *
  obtain ⟨ha1, ha2⟩ := ha
  obtain ⟨hb1, hb2⟩ := hb
  by_cases h0 : 0 < b
  · have hq : decide (wrap64 (a - b) < a) = false := by simp; unfold wrap64; omega
    have hb0 : (b != 0) = true := by simp; omega
    have h := Lib.hid h
    go_enter Tryz.func111, Tryz.ntmps111
    go_wp2
    go_ret2
    exact ⟨rfl, rfl⟩
  · have hq : decide (wrap64 (a - b) < a) = true := by simp; unfold wrap64; omega
    have hb0 : (b != 0) = true := by simp; omega
    have h := Lib.hid h
    go_enter Tryz.func111, Tryz.ntmps111
    go_wp2
    go_ret2
    exact ⟨rfl, rfl⟩


theorem num_add (w : World) (a b : Int) (ha : I64 a) (hb : I64 b) : Calls Tryz.prog 83 #[.int .i64 a, .int .i64 b] w fun e w' =>
    e = .returned (.tuple #[.int .i64 (fitN (a + b)), fitE (a + b)]) ∧ w = w' := by
  by_cases h : I64 (a + b)
  · rw [(fit_yes h).1, (fit_yes h).2.1]; exact num_add_ok w a b ha hb h
  · rw [(fit_no h).1, (fit_no h).2.1]; exact num_add_no w a b ha hb h
theorem num_sub (w : World) (a b : Int) (ha : I64 a) (hb : I64 b) : Calls Tryz.prog 111 #[.int .i64 a, .int .i64 b] w fun e w' =>
    e = .returned (.tuple #[.int .i64 (fitN (a - b)), fitE (a - b)]) ∧ w = w' := by
  by_cases h : I64 (a - b)
  · rw [(fit_yes h).1, (fit_yes h).2.1]; exact num_sub_ok w a b ha hb h
  · rw [(fit_no h).1, (fit_no h).2.1]; exact num_sub_no w a b ha hb h
theorem tfloor (a b : Int) (ha : a < 0) (hb : 1 ≤ b) :
    (a.tmod b < 0 ∧ a / b = a.tdiv b - 1 ∧ a % b = a.tmod b + b) ∨ (a.tmod b = 0 ∧ a / b = a.tdiv b ∧ a % b = 0) := by
  have h1 := Int.mul_tdiv_add_tmod a b
  have h5 : (-a).tmod b = -(a.tmod b) := Int.neg_tmod _ _
  have h4 : 0 ≤ (-a).tmod b := Int.tmod_nonneg b (by omega)
  have h6 : (-a).tmod b < b := Int.tmod_lt_of_pos _ (by omega)
  have h2 : -b < a.tmod b := by omega
  have h3 : a.tmod b ≤ 0 := by omega
  by_cases h0 : a.tmod b = 0
  · right
    have := (Int.ediv_emod_unique (a := a) (b := b) (r := 0) (q := a.tdiv b) (by omega)).2 ⟨by omega, by omega, by omega⟩
    exact ⟨h0, this.1, this.2⟩
  · left
    have := (Int.ediv_emod_unique (a := a) (b := b) (r := a.tmod b + b) (q := a.tdiv b - 1) (by omega)).2 ⟨by rw [Int.mul_sub]; omega, by omega, by omega⟩
    exact ⟨by omega, this.1, this.2⟩
theorem le_floor (a b : Int) (ha : a < 0) (hb : 1 ≤ b) : a ≤ a / b := by
  refine Int.le_ediv_of_mul_le (by omega) ?_
  have : a * b ≤ a * 1 := Int.mul_le_mul_of_nonpos_left (by omega) hb
  omega

theorem num_down_no (w : World) (a b : Int) (h : b < 1) : Calls Tryz.prog 110 #[.int .i64 a, .int .i64 b] w fun e w' =>
    e = .returned (.tuple #[.int .i64 0, errV 1]) ∧ w = w' := by
  go_enter Tryz.func110, Tryz.ntmps110
  go_wp2
  go_ret2
  exact ⟨rfl, rfl⟩
theorem num_down (w : World) (a b : Int) (ha : I64 a) (hb : I64 b) (h : 1 ≤ b) : Calls Tryz.prog 110 #[.int .i64 a, .int .i64 b] w fun e w' =>
    e = .returned (.tuple #[.int .i64 (fitN (a - a % b)), fitE (a - a % b)]) ∧ w = w' := by
  have ha' := ha
  unfold I64 at hb ha
  obtain ⟨ha1, ha2⟩ := ha
  obtain ⟨hb1, hb2⟩ := hb
  have hm : 0 ≤ a % b := Int.emod_nonneg _ (by omega)
  have hm2 : a % b < b := Int.emod_lt_of_pos _ (by omega)
  have him : I64 (a % b) := by unfold I64; omega
  have key := fun w => num_sub w a (a % b) ha' him
  have K := Lib.hid key
  clear key
  by_cases h0 : 0 ≤ a
  · go_enter Tryz.func110, Tryz.ntmps110
    go_wp2_with fail
    refine (K.out _).mono ?_
    rintro e w' ⟨rfl, rfl⟩
    go_wp2_with fail
    go_ret2
    exact ⟨rfl, rfl⟩
  · rcases tfloor a b (by omega) h with ⟨h1, h2, h3⟩ | ⟨h1, h2, h3⟩
    · have h4 : a.tmod b + b ≤ 9223372036854775807 := by omega
      have h5 : -9223372036854775808 ≤ a.tmod b + b := by omega
      have H3 := Lib.hid h3
      clear h2 h3
      go_enter Tryz.func110, Tryz.ntmps110
      go_wp2_with fail
      rw [← H3.out]
      refine (K.out _).mono ?_
      rintro e w' ⟨rfl, rfl⟩
      go_wp2_with fail
      go_ret2
      exact ⟨rfl, rfl⟩
    · have h4 : 0 ≤ a.tmod b := by omega
      have H3 := Lib.hid (h1.trans h3.symm)
      clear h1 h2 h3
      go_enter Tryz.func110, Tryz.ntmps110
      go_wp2_with fail
      rw [H3.out]
      refine (K.out _).mono ?_
      rintro e w' ⟨rfl, rfl⟩
      go_wp2_with fail
      go_ret2
      exact ⟨rfl, rfl⟩

abbrev big (n : Int) : Array Value := #[.int .i64 (n / 4294967296), .int .i64 (n % 4294967296)]
attribute [go_sem] big

theorem ref_wide (w : World) (n : Int) (hn : I64 n) : Calls Tryz.prog 79 #[.int .i64 n] w fun e w' =>
    e = .returned (.agg (big n)) ∧ Keep none_ w w' := by
  unfold I64 at *
  obtain ⟨ha1, ha2⟩ := hn
  unfold big
  by_cases h0 : 0 ≤ n
  · go_enter Tryz.func79, Tryz.ntmps79
    go_wp2
    exact bodyPost_ret (v := .agg #[.int .i64 (n / 4294967296), .int .i64 (n % 4294967296)]) (by simp [results, Tryz.results79, go_sem]) rfl ⟨rfl, (by repeat' (first | exact Keep.refl _ _ | refine Keep.set1 ?_ _ | refine Keep.alloc ?_ _ | refine Keep.drew ?_ | refine Keep.setNew ?_ (by simp) _))⟩
  · rcases tfloor n 4294967296 (by omega) (by omega) with ⟨h1, h2, h3⟩ | ⟨h1, h2, h3⟩
    · have h4 : n.tmod 4294967296 + 4294967296 ≤ 9223372036854775807 := by omega
      have h5 : -9223372036854775808 ≤ n.tmod 4294967296 + 4294967296 := by omega
      have h6 : -9223372036854775808 ≤ n.tdiv 4294967296 - 1 := by omega
      have h7 : n.tdiv 4294967296 - 1 ≤ 9223372036854775807 := by omega
      rw [h2, h3]
      clear h2 h3
      go_enter Tryz.func79, Tryz.ntmps79
      go_wp2
      exact bodyPost_ret (v := .agg #[.int .i64 (n.tdiv 4294967296 - 1), .int .i64 (n.tmod 4294967296 + 4294967296)]) (by simp [results, Tryz.results79, go_sem]) rfl ⟨rfl, (by repeat' (first | exact Keep.refl _ _ | refine Keep.set1 ?_ _ | refine Keep.alloc ?_ _ | refine Keep.drew ?_ | refine Keep.setNew ?_ (by simp) _))⟩
    · have h4 : 0 ≤ n.tmod 4294967296 := by omega
      rw [h2, h3, ← h1]
      clear h1 h2 h3
      go_enter Tryz.func79, Tryz.ntmps79
      go_wp2
      exact bodyPost_ret (v := .agg #[.int .i64 (n.tdiv 4294967296), .int .i64 (n.tmod 4294967296)]) (by simp [results, Tryz.results79, go_sem]) rfl ⟨rfl, (by repeat' (first | exact Keep.refl _ _ | refine Keep.set1 ?_ _ | refine Keep.alloc ?_ _ | refine Keep.drew ?_ | refine Keep.setNew ?_ (by simp) _))⟩

theorem ref_plus (w : World) (a b : Int) (ha : -73786976294838206464 ≤ a ∧ a ≤ 73786976294838206464) (hb : -73786976294838206464 ≤ b ∧ b ≤ 73786976294838206464) :
    Calls Tryz.prog 78 #[.agg (big a), .agg (big b)] w fun e w' => e = .returned (.agg (big (a + b))) ∧ Keep none_ w w' := by
  unfold big
  obtain ⟨x, hx⟩ : ∃ x, x = a / 4294967296 := ⟨_, rfl⟩
  obtain ⟨y, hy⟩ : ∃ y, y = a % 4294967296 := ⟨_, rfl⟩
  obtain ⟨z, hz⟩ : ∃ z, z = b / 4294967296 := ⟨_, rfl⟩
  obtain ⟨u, hu⟩ : ∃ u, u = b % 4294967296 := ⟨_, rfl⟩
  have hx1 : -17179869184 ≤ x := by omega
  have hx2 : x ≤ 17179869184 := by omega
  have hz1 : -17179869184 ≤ z := by omega
  have hz2 : z ≤ 17179869184 := by omega
  have hy1 : 0 ≤ y := by omega
  have hy2 : y < 4294967296 := by omega
  have hu1 : 0 ≤ u := by omega
  have hu2 : u < 4294967296 := by omega
  rw [← hx, ← hy, ← hz, ← hu]
  by_cases hc : 4294967296 ≤ y + u
  · rw [show (a + b) / 4294967296 = x + z + 1 by omega, show (a + b) % 4294967296 = y + u - 4294967296 by omega]
    clear hx hy hz hu ha hb
    go_enter Tryz.func78, Tryz.ntmps78
    go_wp2
    exact bodyPost_ret (v := .agg #[.int .i64 (x + z + 1), .int .i64 (y + u - 4294967296)]) (by simp [results, Tryz.results78, go_sem]) rfl ⟨rfl, (by repeat' (first | exact Keep.refl _ _ | refine Keep.set1 ?_ _ | refine Keep.alloc ?_ _ | refine Keep.drew ?_ | refine Keep.setNew ?_ (by simp) _))⟩
  · rw [show (a + b) / 4294967296 = x + z by omega, show (a + b) % 4294967296 = y + u by omega]
    clear hx hy hz hu ha hb
    go_enter Tryz.func78, Tryz.ntmps78
    go_wp2
    exact bodyPost_ret (v := .agg #[.int .i64 (x + z), .int .i64 (y + u)]) (by simp [results, Tryz.results78, go_sem]) rfl ⟨rfl, (by repeat' (first | exact Keep.refl _ _ | refine Keep.set1 ?_ _ | refine Keep.alloc ?_ _ | refine Keep.drew ?_ | refine Keep.setNew ?_ (by simp) _))⟩

theorem ref_minus (w : World) (a b : Int) (ha : -73786976294838206464 ≤ a ∧ a ≤ 73786976294838206464) (hb : -73786976294838206464 ≤ b ∧ b ≤ 73786976294838206464) :
    Calls Tryz.prog 125 #[.agg (big a), .agg (big b)] w fun e w' => e = .returned (.agg (big (a - b))) ∧ Keep none_ w w' := by
  unfold big
  obtain ⟨x, hx⟩ : ∃ x, x = a / 4294967296 := ⟨_, rfl⟩
  obtain ⟨y, hy⟩ : ∃ y, y = a % 4294967296 := ⟨_, rfl⟩
  obtain ⟨z, hz⟩ : ∃ z, z = b / 4294967296 := ⟨_, rfl⟩
  obtain ⟨u, hu⟩ : ∃ u, u = b % 4294967296 := ⟨_, rfl⟩
  have hx1 : -17179869184 ≤ x := by omega
  have hx2 : x ≤ 17179869184 := by omega
  have hz1 : -17179869184 ≤ z := by omega
  have hz2 : z ≤ 17179869184 := by omega
  have hy1 : 0 ≤ y := by omega
  have hy2 : y < 4294967296 := by omega
  have hu1 : 0 ≤ u := by omega
  have hu2 : u < 4294967296 := by omega
  rw [← hx, ← hy, ← hz, ← hu]
  by_cases hc : y - u < 0
  · rw [show (a - b) / 4294967296 = x - z - 1 by omega, show (a - b) % 4294967296 = y - u + 4294967296 by omega]
    clear hx hy hz hu ha hb
    go_enter Tryz.func125, Tryz.ntmps125
    go_wp2
    exact bodyPost_ret (v := .agg #[.int .i64 (x - z - 1), .int .i64 (y - u + 4294967296)]) (by simp [results, Tryz.results125, go_sem]) rfl ⟨rfl, (by repeat' (first | exact Keep.refl _ _ | refine Keep.set1 ?_ _ | refine Keep.alloc ?_ _ | refine Keep.drew ?_ | refine Keep.setNew ?_ (by simp) _))⟩
  · rw [show (a - b) / 4294967296 = x - z by omega, show (a - b) % 4294967296 = y - u by omega]
    clear hx hy hz hu ha hb
    go_enter Tryz.func125, Tryz.ntmps125
    go_wp2
    exact bodyPost_ret (v := .agg #[.int .i64 (x - z), .int .i64 (y - u)]) (by simp [results, Tryz.results125, go_sem]) rfl ⟨rfl, (by repeat' (first | exact Keep.refl _ _ | refine Keep.set1 ?_ _ | refine Keep.alloc ?_ _ | refine Keep.drew ?_ | refine Keep.setNew ?_ (by simp) _))⟩

theorem ref_fits (w : World) (a : Int) (ha : -73786976294838206464 ≤ a ∧ a ≤ 73786976294838206464) :
    Calls Tryz.prog 124 #[.agg (big a)] w fun e w' => e = .returned (.tuple #[.int .i64 (fitN a), .bool (fitB a)]) ∧ Keep none_ w w' := by
  unfold big
  obtain ⟨x, hx⟩ : ∃ x, x = a / 4294967296 := ⟨_, rfl⟩
  obtain ⟨y, hy⟩ : ∃ y, y = a % 4294967296 := ⟨_, rfl⟩
  have hy1 : 0 ≤ y := by omega
  have hy2 : y < 4294967296 := by omega
  have hax : a = x * 4294967296 + y := by omega
  rw [← hx, ← hy]
  by_cases h1 : x < -2147483648
  · obtain ⟨f1, _, f3⟩ := fit_no (n := a) (by unfold I64; omega)
    rw [f1, f3]
    clear hx hy ha hax f1 f3
    go_enter Tryz.func124, Tryz.ntmps124
    go_wp2
    go_ret2
    exact ⟨rfl, (by repeat' (first | exact Keep.refl _ _ | refine Keep.set1 ?_ _ | refine Keep.alloc ?_ _ | refine Keep.drew ?_ | refine Keep.setNew ?_ (by simp) _))⟩
  · by_cases h2 : 2147483647 < x
    · obtain ⟨f1, _, f3⟩ := fit_no (n := a) (by unfold I64; omega)
      rw [f1, f3]
      clear hx hy ha hax f1 f3
      go_enter Tryz.func124, Tryz.ntmps124
      go_wp2
      go_ret2
      exact ⟨rfl, (by repeat' (first | exact Keep.refl _ _ | refine Keep.set1 ?_ _ | refine Keep.alloc ?_ _ | refine Keep.drew ?_ | refine Keep.setNew ?_ (by simp) _))⟩
    · obtain ⟨f1, _, f3⟩ := fit_yes (n := a) (by unfold I64; omega)
      rw [f1, f3, hax]
      clear hx hy ha hax f1 f3
      go_enter Tryz.func124, Tryz.ntmps124
      go_wp2
      go_ret2
      exact ⟨rfl, (by repeat' (first | exact Keep.refl _ _ | refine Keep.set1 ?_ _ | refine Keep.alloc ?_ _ | refine Keep.drew ?_ | refine Keep.setNew ?_ (by simp) _))⟩
theorem ref_above (w : World) (a b : Int) :
    Calls Tryz.prog 77 #[.agg (big a), .agg (big b)] w fun e w' => e = .returned (.bool (decide (b < a))) ∧ Keep none_ w w' := by
  unfold big
  obtain ⟨x, hx⟩ : ∃ x, x = a / 4294967296 := ⟨_, rfl⟩
  obtain ⟨y, hy⟩ : ∃ y, y = a % 4294967296 := ⟨_, rfl⟩
  obtain ⟨z, hz⟩ : ∃ z, z = b / 4294967296 := ⟨_, rfl⟩
  obtain ⟨u, hu⟩ : ∃ u, u = b % 4294967296 := ⟨_, rfl⟩
  have hax : a = x * 4294967296 + y := by omega
  have hbx : b = z * 4294967296 + u := by omega
  have hy1 : 0 ≤ y := by omega
  have hy2 : y < 4294967296 := by omega
  have hu1 : 0 ≤ u := by omega
  have hu2 : u < 4294967296 := by omega
  rw [← hx, ← hy, ← hz, ← hu]
  by_cases h1 : z < x
  · rw [show decide (b < a) = true by simp; omega]
    clear hx hy hz hu hax hbx
    go_enter Tryz.func77, Tryz.ntmps77
    go_wp2
    go_ret
    exact ⟨rfl, (by repeat' (first | exact Keep.refl _ _ | refine Keep.set1 ?_ _ | refine Keep.alloc ?_ _ | refine Keep.drew ?_ | refine Keep.setNew ?_ (by simp) _))⟩
  · by_cases h2 : x = z
    · have he : (x == z) = true := by simp [h2]
      by_cases h3 : u < y
      · rw [show decide (b < a) = true by simp; omega]
        clear hx hy hz hu hax hbx
        have h2 := Lib.hid h2
        go_enter Tryz.func77, Tryz.ntmps77
        go_wp2
        go_ret
        exact ⟨rfl, (by repeat' (first | exact Keep.refl _ _ | refine Keep.set1 ?_ _ | refine Keep.alloc ?_ _ | refine Keep.drew ?_ | refine Keep.setNew ?_ (by simp) _))⟩
      · rw [show decide (b < a) = false by simp; omega]
        clear hx hy hz hu hax hbx
        have h2 := Lib.hid h2
        go_enter Tryz.func77, Tryz.ntmps77
        go_wp2
        go_ret
        exact ⟨rfl, (by repeat' (first | exact Keep.refl _ _ | refine Keep.set1 ?_ _ | refine Keep.alloc ?_ _ | refine Keep.drew ?_ | refine Keep.setNew ?_ (by simp) _))⟩
    · have he : (x == z) = false := by simp [h2]
      rw [show decide (b < a) = false by simp; omega]
      clear hx hy hz hu hax hbx
      go_enter Tryz.func77, Tryz.ntmps77
      go_wp2
      go_ret
      exact ⟨rfl, (by repeat' (first | exact Keep.refl _ _ | refine Keep.set1 ?_ _ | refine Keep.alloc ?_ _ | refine Keep.drew ?_ | refine Keep.setNew ?_ (by simp) _))⟩
end Go.Proofs.YtmioichjhiengaaGreat
