/-
  Arguments that are slices: they read as lists ('Sl').
-/
import Derived.Test.YtmioichjhiengaaGreatRead
import Derived.Test.YtmioichjhiengaaGreatBaseSl
namespace Go.Proofs.YtmioichjhiengaaGreat
open Go.RowKit

theorem sl_of {α : Type} {k : Nat} {R : Rdr α} (enc : α → List Value) (ok : α → Prop) (hR : ∀ w x cs, R w x cs → cs = enc x ∧ ok x) {w : World} {xs : List α} {v : Value} (h : rSlice k R w xs [v]) :
    ∃ A n c, v = .slice A n c ∧ Sl enc k w A n c xs ∧ ∀ x ∈ xs, ok x := by
  obtain ⟨ao, len, cap, e1, rfl, hcap, hcap2, hcells⟩ := h
  obtain rfl : v = .slice ao xs.length cap := by simpa using e1
  refine ⟨ao, xs.length, cap, rfl, ⟨rfl, hcap, hcap2, fun hn => ?_⟩, fun x hx => ?_⟩
  · obtain ⟨b, off, rfl, hb, hc⟩ := hcells hn
    refine ⟨b, off, rfl, hb, fun i hi j hj => ?_⟩
    obtain ⟨es, hes, hlen, h⟩ := hc i hi
    obtain ⟨rfl, -⟩ := hR _ _ _ hes
    exact h j hj
  · obtain ⟨i, hi, rfl⟩ := List.mem_iff_getElem.1 hx
    obtain ⟨b, off, rfl, hb, hc⟩ := hcells (by omega)
    obtain ⟨es, hes, hlen, h⟩ := hc i hi
    exact (hR _ _ _ hes).2
/-- Where nothing that was there has turned, an argument reads as it did. -/
theorem Sl.below {α : Type} {enc : α → List Value} {k : Nat} {w w' : World} {A : Option Addr} {n c : Nat} {xs : List α} (h : Sl enc k w A n c xs) (hb : Below w.heap.size w w') : Sl enc k w' A n c xs :=
  h.keep (keep0 hb) Off.none_
def encI (n : Int) : List Value := [.int .i64 n]
def encS (s : ByteArray) : List Value := [.string s]
theorem encI_len (x : Int) : (encI x).length = 1 := rfl
theorem encS_len (x : ByteArray) : (encS x).length = 1 := rfl
theorem encI_one (x : Int) : ∀ u ∈ encI x, u.oneCell' = true := by intro u hu; simp [encI] at hu; subst hu; rfl
theorem encS_one (x : ByteArray) : ∀ u ∈ encS x, u.oneCell' = true := by intro u hu; simp [encS] at hu; subst hu; rfl
theorem rInt_of (w : World) (x : Int) (cs : List Value) (h : rInt w x cs) : cs = encI x ∧ I64 x := h
theorem rStr_of (w : World) (x : ByteArray) (cs : List Value) (h : rStr w x cs) : cs = encS x ∧ x.size ≤ maxLen := h
/-- The cells of element i. -/
theorem Sl.cell1 {α : Type} {enc : α → List Value} {w : World} {b off n c : Nat} {xs : List α} (h : Sl enc 1 w (some ⟨b, off, none⟩) n c xs) {i : Nat} (hi : i < xs.length) : w.cell? ⟨b, off + i, none⟩ = (enc xs[i])[0]? := by
  obtain ⟨b', off', e, hb, hc⟩ := h.at_ (by have := h.1; omega)
  obtain ⟨rfl, rfl⟩ : b = b' ∧ off = off' := by simpa using e
  have := hc i hi 0 (by omega)
  simpa using this
theorem Sl.cellk {α : Type} {enc : α → List Value} {k : Nat} {w : World} {b off n c : Nat} {xs : List α} (h : Sl enc k w (some ⟨b, off, none⟩) n c xs) {i : Nat} (hi : i < xs.length) : ∀ j, j < k → w.cell? ⟨b, off + i * k + j, none⟩ = (enc xs[i])[j]? := by
  obtain ⟨b', off', e, hb, hc⟩ := h.at_ (by have := h.1; omega)
  obtain ⟨rfl, rfl⟩ : b = b' ∧ off = off' := by simpa using e
  exact hc i hi
end Go.Proofs.YtmioichjhiengaaGreat
