/-
  easellaw13.Few.
-/
import Derived.Test.YtmioichjhiengaaGreatData
import Derived.Test.YtmioichjhiengaaGreatArg
import Derived.Test.YtmioichjhiengaaGreatRegion
import Derived.Lib.Hide
import Derived.Outline
namespace Go.Proofs.YtmioichjhiengaaGreat
open Go.RowKit

def encCall (x : Call) : List Value := x.cells
theorem call_of (w : World) (x : Call) (cs : List Value) (h : rCall w x cs) : cs = encCall x ∧ x.ok := h
set_option maxHeartbeats 1000000 in
theorem law_few {w : World} {A : Option Addr} {n c : Nat} {xs : List Call} (h : Sl encCall 7 w A n c xs) (most : Int) (hm : 0 ≤ most ∧ most ≤ 1000) :
    Calls Tryz.prog 24 #[.slice A n c, .int .i64 most] w fun e w' => (e = .returned (.int .i64 0) ∨ (e = .returned (.int .i64 1) ∧ (n : Int) ≤ most ∧ ∀ x ∈ xs, x.key.size ≤ 100)) ∧ w = w' := by
  have hlen := Lib.hid h.len
  have hlc := h.2.1
  have hnc := h.2.2.1
  unfold maxLen at hnc
  go_enter Tryz.func24, Tryz.ntmps24
  go_wp2_with fail
  go_loopw [5] (fun iv wr => ∃ i : Nat, iv = .int .i64 i ∧ i ≤ n ∧ (i : Int) ≤ most ∧ Hid (∀ j, (hj : j < xs.length) → j < i → xs[j].key.size ≤ 100) ∧ w = wr)
    (fun iv _ => n - (intOf iv).toNat)
  case atStart => exact ⟨0, rfl, Nat.zero_le _, by omega, Lib.hid (fun j _ h => absurd h (Nat.not_lt_zero _)), rfl⟩
  case round =>
    obtain ⟨i, rfl, hin, him, hd, rfl⟩ := hrel
    have hi0 := Int.natCast_nonneg i
    have hcase : (decide ((i : Int) < (n : Int)) = true ∧ decide ((i : Int) < most) = true) ∨ decide ((i : Int) < (n : Int)) = false ∨ (decide ((i : Int) < (n : Int)) = true ∧ decide ((i : Int) < most) = false) := by
      by_cases h1 : (i : Int) < (n : Int)
      · by_cases h2 : (i : Int) < most
        · exact .inl ⟨decide_eq_true h1, decide_eq_true h2⟩
        · exact .inr (.inr ⟨decide_eq_true h1, decide_eq_false h2⟩)
      · exact .inr (.inl (decide_eq_false h1))
    rcases hcase with ⟨h1, h2⟩ | h1 | ⟨h1, h2⟩
    · have hlt : i < n := by have := of_decide_eq_true h1; omega
      have hlt1 : (i : Int) < (n : Int) := by omega
      have hlt2 : (i : Int) < most := of_decide_eq_true h2
      have hix : i < xs.length := by have := hlen.out; omega
      obtain ⟨b, off, rfl, hbl, -⟩ := h.at_ (by omega)
      have c1 := h.cellk hix 1 (by omega)
      simp only [encCall, Call.cells, List.getElem?_cons_zero, List.getElem?_cons_succ] at c1
      have hdn : Hid (xs[i].key.size ≤ 100 → ∀ j, (hj : j < xs.length) → j < i + 1 → xs[j].key.size ≤ 100) := Lib.hid (fun hb j hj h2 => by
        by_cases e : j = i
        · subst e; exact hb
        · exact hd.out j hj (by omega))
      generalize xs[i] = y at *
      have hks : y.key.size ≤ 100 ∨ 100 < y.key.size := by omega
      clear hd
      rcases hks with hk | hk
      · have hkb : decide ((100 : Int) < (y.key.size : Int)) = false := by simp; omega
        have hdn2 := hdn.out hk
        replace hdn2 := Lib.hid hdn2
        clear hdn
        go_wp2_with fail
        go_roundw
        case rel => exact ⟨i + 1, by go_num, by omega, by omega, hdn2, by first | rfl | trivial⟩
        case measure => simp [intOf]; omega
      · have hkb : decide ((100 : Int) < (y.key.size : Int)) = true := by simp; omega
        clear hdn
        go_wp2_with fail
        go_ret
        exact ⟨.inl rfl, rfl⟩
    · have hnl : ¬ ((i : Int) < (n : Int)) := of_decide_eq_false h1
      have hin2 : i = n := by omega
      have hfin : ∀ x ∈ xs, x.key.size ≤ 100 := fun x hx => by
        obtain ⟨j, hj, rfl⟩ := List.getElem_of_mem hx
        exact hd.out j hj (by have := hlen.out; omega)
      have hg : decide (most < (n : Int)) = false := by simp; omega
      replace hfin := Lib.hid hfin
      clear hd
      have hnm : (n : Int) ≤ most := by omega
      replace hnm := Lib.hid hnm
      have hnm2 : ¬ (most < (n : Int)) := by omega
      clear hin2 hlen h
      go_wp2_with fail
      go_ret
      first
        | exact ⟨.inr ⟨rfl, hfin.out⟩, rfl⟩
        | exact .inr ⟨rfl, hfin.out⟩
    · have hnl : ¬ ((i : Int) < most) := of_decide_eq_false h2
      have hlt := of_decide_eq_true h1
      have hg : decide (most < (n : Int)) = true := by simp; omega
      have hgm : most < (n : Int) := by omega
      clear hd hlen h
      go_wp2_with fail
      go_ret
      exact ⟨.inl rfl, rfl⟩
end Go.Proofs.YtmioichjhiengaaGreat
