/-
  A block that holds a list of structs, cell by cell; a store to a cell of it.
-/
import Derived.Test.YtmioichjhiengaaSl
import Derived.Laws.MakeOwn
namespace Go.Proofs.Ytmioichjhiengaa
open Go.RowKit

section
variable {α : Type} {enc : α → List Value} {k : Nat}
theorem flat_lset (hl : ∀ x, (enc x).length = k) (y : α) (j : Nat) (v : Value) (hj : j < k) : ∀ (t : List α) (i : Nat) (hi : i < t.length), enc y = (enc t[i]).set j v → (flat enc t).set (i * k + j) v = flat enc (t.set i y) := by
  intro t
  induction t with
  | nil => intro i hi; simp at hi
  | cons x t ih =>
    intro i hi hy
    rw [flat_cons]
    match i, hi with
    | 0, hi =>
      rw [List.set_cons_zero, flat_cons, Nat.zero_mul, Nat.zero_add, List.set_append_left _ _ (by rw [hl]; exact hj)]
      rw [hy]; rfl
    | i + 1, hi =>
      rw [List.set_cons_succ, flat_cons, List.set_append_right _ _ (by rw [hl, Nat.add_mul]; omega), hl, show (i + 1) * k + j - k = i * k + j by rw [Nat.add_mul]; omega]
      rw [ih i (by simpa using hi) hy]
/-- Block g holds the list t. -/
def Flat (enc : α → List Value) (w : World) (g : Nat) (t : List α) (T : TypeId) : Prop := At w g (flat enc t).toArray T
section
variable {w w' : World} {g : Nat} {t : List α} {T : TypeId}
theorem Flat.lt (h : Flat enc w g t T) : g < w.heap.size := At.lt h
theorem Flat.keep {S : Nat → Prop} (h : Flat enc w g t T) (kk : Keep S w w') (hs : ¬ S g) : Flat enc w' g t T := kk.at h hs
theorem Flat.frozen (h : Flat enc w g t T) : ∀ i, w.frozen? ⟨g, i, none⟩ = false := At.frozen h
theorem Flat.cell (h : Flat enc w g t T) (hl : ∀ x, (enc x).length = k) {i : Nat} (hi : i < t.length) (j : Nat) (hj : j < k) : w.cell? ⟨g, i * k + j, none⟩ = (enc t[i])[j]? := by
  rw [At.cell h, ← flat_get hl t i hi j hj, List.getElem?_toArray]
theorem Flat.set (h : Flat enc w g t T) (hl : ∀ x, (enc x).length = k) {i : Nat} (hi : i < t.length) (y : α) (j : Nat) (v : Value) (hj : j < k) (hy : enc y = (enc t[i]).set j v) : Flat enc (w.setCell ⟨g, i * k + j, none⟩ v) g (t.set i y) T := by
  have := At.set h (i * k + j) v
  rw [List.setIfInBounds_toArray, flat_lset hl y j v hj t i hi hy] at this
  exact this
theorem Flat.other (h : Flat enc w g t T) {a : Addr} (ha : a.block ≠ g) (v : Value) : Flat enc (w.setCell a v) g t T := At.set_other h ha v
theorem Flat.alloc (h : Flat enc w g t T) (o : Obj) : Flat enc (w.alloc o) g t T := At.alloc h o
theorem Flat.drew (h : Flat enc w g t T) : Flat enc w.drew g t T := h
theorem Flat.new (w : World) (c : Array Value) (T : TypeId) (t : List α) (hc : c.toList = flat enc t) : Flat enc (w.alloc (.cells c T)) w.heap.size t T := by
  have : c = (flat enc t).toArray := by rw [← hc]
  subst this
  exact At.new _ _ _
theorem Flat.sl (h : Flat enc w g t T) (hl : ∀ x, (enc x).length = k) (hk : 0 < k) (h63 : t.length ≤ maxLen) : Sl enc k w (some ⟨g, 0, none⟩) t.length t.length t :=
  Sl.of_at h hl hk rfl (by simp) h63
end
theorem made_flat (hl : ∀ x, (enc x).length = k) (hk : 0 < k) (zc : Array Value) (z : α) (hz : zc.toList = enc z) (n : Nat) : (madeCells zc (n * k)).toList = flat enc (List.replicate n z) := by
  have hs : zc.size = k := by rw [← Array.length_toList, hz, hl]
  apply List.ext_getElem?
  intro j
  by_cases hj : j < n * k
  · have hq : j / k < n := Nat.div_lt_of_lt_mul (by rw [Nat.mul_comm]; exact hj)
    have hr : j % k < k := Nat.mod_lt _ hk
    have e1 : j / k * k + j % k = j := by rw [Nat.mul_comm]; exact Nat.div_add_mod j k
    have := flat_get hl (List.replicate n z) (j / k) (by simpa using hq) (j % k) hr
    rw [e1, List.getElem_replicate] at this
    rw [this, ← hz]
    simp only [madeCells, Array.toList_map, Array.toList_range, List.getElem?_map, hs]
    rw [List.getElem?_range hj, Option.map_some, Array.getElem?_toList, getElem!_pos zc _ (by omega), Array.getElem?_eq_getElem]
  · rw [List.getElem?_eq_none (by rw [Array.length_toList, size_madeCells]; omega), List.getElem?_eq_none (by rw [flat_length hl]; simp; omega)]
end
end Go.Proofs.Ytmioichjhiengaa
