/-
  slices.rotateCmpFunc on a row of panes.
-/
import Derived.Test.YtmioichjhiengaaPSwap
namespace Go.Proofs.Ytmioichjhiengaa
open Go.RowKit

set_option maxHeartbeats 1000000 in
theorem rotate_p {w : World} {base g N cap : Nat} {A U V C : List TP} {f : Value} (h : PTRow w base g N cap (A ++ U ++ V ++ C)) (a m b : Nat) (ha : a = A.length) (hm : m = A.length + U.length) (hb : b = A.length + U.length + V.length) (hU : 0 < U.length) (hV : 0 < V.length) :
    Calls Try.prog 115 #[.slice (some ⟨g, 0, none⟩) N cap, .int .i64 a, .int .i64 m, .int .i64 b, f] w fun e w' => e = .returned (.tuple #[]) ∧ PTRow w' base g N cap (A ++ V ++ U ++ C) ∧ Keep (one g) w w' := by
  obtain ⟨hNc, hc, hgl, hbg⟩ := h.bounds
  have hNl := h.len
  simp only [List.length_append] at hNl
  have hmb : m ≤ 9223372036854775807 := by omega
  have hbb : b ≤ 9223372036854775807 := by omega
  obtain ⟨i0, hi0⟩ : ∃ i0, i0 = U.length := ⟨_, rfl⟩
  obtain ⟨j0, hj0⟩ : ∃ j0, j0 = V.length := ⟨_, rfl⟩
  have ei : (m : Int) - (a : Int) = (i0 : Int) := by omega
  have ej : (b : Int) - (m : Int) = (j0 : Int) := by omega
  have hij0 := Lib.hid (And.intro hi0 hj0)
  have hbN : m + j0 ≤ N := by omega
  have hmA := Lib.hid (And.intro hm (And.intro hU hV))
  clear ha hm hb hU hV hi0 hj0 hNl
  go_enter Try.func115, Try.ntmps115
  go_wp2_with fail
  go_loopw [10, 11] (fun iv jv wr => ∃ (i j : Nat) (A' U' V' C' : List TP), iv = .int .i64 i ∧ jv = .int .i64 j ∧ Hid (i = U'.length ∧ j = V'.length ∧ m = A'.length + U'.length ∧ 0 < i ∧ 0 < j) ∧ m + j ≤ N ∧ i ≤ m ∧ PTRow wr base g N cap (A' ++ U' ++ V' ++ C') ∧ Hid (A' ++ V' ++ U' ++ C' = A ++ V ++ U ++ C) ∧ Keep (one g) w wr)
    (fun iv jv _ => (intOf iv).toNat + (intOf jv).toNat)
  case atStart => exact ⟨i0, j0, A, U, V, C, rfl, rfl, Lib.hid ⟨hij0.out.1, hij0.out.2, hmA.out.1, by rw [hij0.out.1]; exact hmA.out.2.1, by rw [hij0.out.2]; exact hmA.out.2.2⟩, hbN, by rw [hij0.out.1, hmA.out.1]; omega, h, Lib.hid rfl, Keep.refl _ _⟩
  case round =>
    clear h hij0 hmA ei ej hbN
    obtain ⟨i, j, A', U', V', C', rfl, rfl, hl, hmj, him, h, ht, kk⟩ := hrel
    obtain ⟨hi, hj, hm, hip, hjp⟩ := hl.out
    obtain ⟨a1, ha1⟩ : ∃ a1, a1 = A'.length := ⟨_, rfl⟩
    have e1 : (m : Int) - (i : Int) = (a1 : Int) := by omega
    by_cases hij : i = j
    · have hb : ((i : Int) != (j : Int)) = false := by simp [hij]
      have c1 := swap_range_p (f := f) (A := A') (X := U') (B := []) (Y := V') (C := C') (by simpa using h) (by omega) a1 m i ha1 (by simp; omega) hi
      replace c1 := Lib.hid c1
      clear hij hi hj hm hip hjp ha1
      go_wp2_with fail
      refine c1.out.mono ?_
      rintro e w1 ⟨rfl, h1, k1⟩
      go_wp2_with fail
      refine bodyPost_end (v := .tuple #[]) ?_ ?_ ?_
      · exact results_none Try.results115 _ _ _
      · rfl
      · refine ⟨rfl, ?_, kk.trans k1⟩
        rw [← ht.out]
        simpa using h1
    · have hb : ((i : Int) != (j : Int)) = true := by simp; omega
      by_cases hlt : j < i
      · have hsplit : U' = U'.take j ++ U'.drop j := (List.take_append_drop _ _).symm
        have hl1 : (U'.take j).length = j := by rw [List.length_take]; omega
        have hl2 : (U'.drop j).length = i - j := by rw [List.length_drop]; omega
        generalize U'.take j = U1 at *
        generalize U'.drop j = U2 at *
        subst hsplit
        have c1 := swap_range_p (f := f) (A := A') (X := U1) (B := U2) (Y := V') (C := C') (by simpa using h) (by omega) a1 m j ha1 (by omega) hl1.symm
        replace c1 := Lib.hid c1
        have e2 : (i : Int) - (j : Int) = ((i - j : Nat) : Int) := by omega
        have hfin : Hid (i - j = U2.length ∧ j = U1.length ∧ m = (A' ++ V').length + U2.length ∧ 0 < i - j ∧ 0 < j) := Lib.hid ⟨hl2.symm, hl1.symm, by simp only [List.length_append]; omega, by omega, hjp⟩
        clear hij hi hj hm hip hjp ha1 hl1 hl2 hl
        go_wp2_with fail
        refine c1.out.mono ?_
        rintro e w1 ⟨rfl, h1, k1⟩
        go_wp2_with fail
        go_roundw
        case rel => exact ⟨i - j, j, A' ++ V', U2, U1, C', by go_num, rfl, hfin, hmj, by omega, by simpa using h1, Lib.hid (by rw [← ht.out]; simp), kk.trans k1⟩
        case measure => simp [intOf]; have := hfin.out; omega
      · have hsplit : V' = V'.take (j - i) ++ V'.drop (j - i) := (List.take_append_drop _ _).symm
        have hl1 : (V'.take (j - i)).length = j - i := by rw [List.length_take]; omega
        have hl2 : (V'.drop (j - i)).length = i := by rw [List.length_drop]; omega
        generalize V'.take (j - i) = V1 at *
        generalize V'.drop (j - i) = V2 at *
        subst hsplit
        obtain ⟨b1, hb1⟩ : ∃ b1, b1 = m + j - i := ⟨_, rfl⟩
        have e3 : (m : Int) + (j : Int) - (i : Int) = (b1 : Int) := by omega
        have hmji : (m : Int) + (j : Int) ≤ 9223372036854775807 := by omega
        have c1 := swap_range_p (f := f) (A := A') (X := U') (B := V1) (Y := V2) (C := C') (by simpa using h) (by omega) a1 b1 i ha1 (by omega) hi
        replace c1 := Lib.hid c1
        have e2 : (j : Int) - (i : Int) = ((j - i : Nat) : Int) := by omega
        have hfin : Hid (i = V2.length ∧ j - i = V1.length ∧ m = A'.length + V2.length ∧ 0 < i ∧ 0 < j - i) := Lib.hid ⟨hl2.symm, hl1.symm, by omega, hip, by omega⟩
        replace hb1 := Lib.hid hb1
        clear hij hi hj hm hip hjp ha1 hl1 hl2 hl
        go_wp2_with fail
        refine c1.out.mono ?_
        rintro e w1 ⟨rfl, h1, k1⟩
        go_wp2_with fail
        go_roundw
        case rel => exact ⟨i, j - i, A', V2, V1, U' ++ C', rfl, by go_num, hfin, by omega, him, by simpa using h1, Lib.hid (by rw [← ht.out]; simp), kk.trans k1⟩
        case measure => simp [intOf]; have := hfin.out; omega
end Go.Proofs.Ytmioichjhiengaa
