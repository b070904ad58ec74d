/-
  An argument that is a slice of slices: it reads as a list of lists.
-/
import Derived.Test.YtmioichjhiengaaArg
namespace Go.Proofs.Ytmioichjhiengaa
open Go.RowKit

def encV (v : Value) : List Value := [v]
theorem nest_of {α : Type} {k : Nat} {R : Rdr α} (enc : α → List Value) (ok : α → Prop) (hR : ∀ w x cs, R w x cs → cs = enc x ∧ ok x) {w : World} {xs : List (List α)} {v : Value} (h : rSlice 1 (rSlice k R) w xs [v]) :
    ∃ A n c, ∃ hs : List Value, v = .slice A n c ∧ n = xs.length ∧ Sl encV 1 w A n c hs ∧
      ∀ i (h1 : i < hs.length) (h2 : i < xs.length), ∃ B m d, hs[i] = .slice B m d ∧ Sl enc k w B m d xs[i] ∧ ∀ x ∈ xs[i], ok x := by
  obtain ⟨ao, len, cap, e1, rfl, hcap, hcap2, hcells⟩ := h
  obtain rfl : v = .slice ao xs.length cap := by simpa using e1
  rcases Nat.eq_zero_or_pos xs.length with h0 | h0
  · exact ⟨ao, xs.length, cap, [], rfl, rfl, ⟨h0, hcap, hcap2, fun hn => absurd h0 (by omega)⟩, fun i h1 => absurd h1 (Nat.not_lt_zero _)⟩
  · obtain ⟨b, off, rfl, hb, hc⟩ := hcells h0
    have hv : ∀ i : Fin xs.length, ∃ u, rSlice k R w xs[i] [u] ∧ w.cell? ⟨b, off + i, none⟩ = some u := fun i => by
      obtain ⟨es, hes, hlen, h⟩ := hc i i.2
      match es, hlen with
      | [u], _ =>
        refine ⟨u, hes, ?_⟩
        have := h 0 (by omega)
        simpa using this
    refine ⟨some ⟨b, off, none⟩, xs.length, cap, List.ofFn fun i => Classical.choose (hv i), rfl, rfl, ⟨by simp, hcap, hcap2, fun _ => ⟨b, off, rfl, hb, fun i hi j hj => ?_⟩⟩, fun i h1 h2 => ?_⟩
    · obtain rfl : j = 0 := by omega
      have hi' : i < xs.length := by simpa using hi
      have := (Classical.choose_spec (hv ⟨i, hi'⟩)).2
      simp only [List.getElem_ofFn, encV, Nat.mul_one, Nat.add_zero]
      simpa using this
    · have := (Classical.choose_spec (hv ⟨i, h2⟩)).1
      obtain ⟨B, m, d, e, hs, hok⟩ := sl_of enc ok hR this
      exact ⟨B, m, d, by simp only [List.getElem_ofFn]; exact e, hs, hok⟩
end Go.Proofs.Ytmioichjhiengaa
