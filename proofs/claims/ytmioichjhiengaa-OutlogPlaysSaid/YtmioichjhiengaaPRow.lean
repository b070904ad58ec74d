/-
  A row of panes with tags: what the stable sort's proof speaks of; a swap of two.
-/
import Derived.Test.YtmioichjhiengaaPaneRow
import Derived.Test.YtmioichjhiengaaStable
import Derived.Test.YtmioichjhiengaaCmp
import Derived.BigRegion
namespace Go.Proofs.Ytmioichjhiengaa
open Go.RowKit

abbrev TP := Pane × Nat
def encT (x : TP) : List Value := x.1.cells
theorem encT_l (x : TP) : (encT x).length = 7 := rfl
def tgP (x : TP) : Nat := x.2
/-- Block g is a row of panes. -/
abbrev PTRow (w : World) (base g N cap : Nat) (l : List TP) : Prop := w.ownsRow base 32 7 (.slice (some ⟨g, 0, none⟩) N cap) N (flat encT l)
section
variable {w w' : World} {base g N cap : Nat} {l : List TP}
theorem PTRow.len (h : PTRow w base g N cap l) : N = l.length := own_len encT_l (by decide) h
theorem PTRow.cell (h : PTRow w base g N cap l) {i : Nat} {x : TP} (hx : l[i]? = some x) : PaneIn w g (i * 7) x.1 := by
  obtain ⟨hi, e⟩ := List.getElem?_eq_some_iff.1 hx
  have hs := (Sl.of_own encT_l (by decide) h).cellk hi
  rw [e] at hs
  simp only [Nat.zero_add] at hs
  exact ⟨hs 0 (by omega), hs 1 (by omega), hs 2 (by omega), hs 3 (by omega), hs 4 (by omega), hs 5 (by omega), hs 6 (by omega)⟩
theorem PTRow.at_ (h : PTRow w base g N cap l) : ∃ cur, At w g cur 32 := by
  rcases h.2 with ⟨h0, -⟩ | ⟨g', cap', cur, he, hb, hg, -⟩
  · cases h0
  · obtain ⟨rfl, rfl⟩ : g = g' ∧ cap = cap' := by simpa using he
    exact ⟨cur, hg⟩
theorem PTRow.bounds (h : PTRow w base g N cap l) : N ≤ cap ∧ cap ≤ 9223372036854775807 ∧ g < w.heap.size ∧ base ≤ g := by
  have hs := Sl.of_own encT_l (by decide) h
  have h3 := hs.2.2.1
  unfold maxLen at h3
  have := h.lt g (by rfl)
  exact ⟨hs.2.1, by omega, this.2, this.1⟩
theorem PTRow.keep {S : Nat → Prop} (h : PTRow w base g N cap l) (k : Keep S w w') (hs : ¬ S g) : PTRow w' base g N cap l := own_keep h k (fun z hz => by
  have : g = z := by simpa [Value.ownBlock] using hz
  rwa [← this])
theorem PTRow.set (h : PTRow w base g N cap l) {i : Nat} (hi : i < l.length) (x : TP) : PTRow (stores w g (i * 7) x.1.cells) base g N cap (l.set i x) := own_stores encT_l (by decide) h i hi x
/-- Two change places. -/
theorem swap_facts (h : PTRow w base g N cap l) {i j : Nat} {x y : TP} (hx : l[i]? = some x) (hy : l[j]? = some y) (hij : i ≠ j) :
    PaneIn w g (i * 7) x.1 ∧ PaneIn w g (j * 7) y.1 ∧ (∀ o, w.frozen? ⟨g, o, none⟩ = false) ∧ (∀ o, (stores w g (i * 7) y.1.cells).frozen? ⟨g, o, none⟩ = false) ∧ PaneIn (stores w g (i * 7) y.1.cells) g (j * 7) y.1 ∧
      PTRow (stores (stores w g (i * 7) y.1.cells) g (j * 7) x.1.cells) base g N cap ((l.set i y).set j x) ∧ ∀ a, Keep (one g) a w → Keep (one g) a (stores (stores w g (i * 7) y.1.cells) g (j * 7) x.1.cells) := by
  obtain ⟨hi, -⟩ := List.getElem?_eq_some_iff.1 hx
  obtain ⟨hj, -⟩ := List.getElem?_eq_some_iff.1 hy
  obtain ⟨cur, hat⟩ := h.at_
  have h1 := h.set hi y
  refine ⟨h.cell hx, h.cell hy, hat.frozen, (At.setL (w := w) y.1.cells (o := i * 7) hat).frozen, h1.cell (by rw [List.getElem?_set_ne hij]; exact hy), h1.set (by rw [List.length_set]; exact hj) x, fun a k => ?_⟩
  exact Keep.setL (S := one g) (fun _ => rfl) x.1.cells (Keep.setL (S := one g) (fun _ => rfl) y.1.cells k)
end
end Go.Proofs.Ytmioichjhiengaa
