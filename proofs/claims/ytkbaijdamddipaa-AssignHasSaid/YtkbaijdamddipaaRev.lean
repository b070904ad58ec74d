/-
  slices.Reverse of a slice of windows that the call owns: it owns them in the other order.
-/
import Derived.Shelf.SlicesQ.Reverse
import Derived.Shelf.SlGeneric
import Derived.Test.YtkbaijdamddipaaDown
namespace Go.Proofs.Ytkbaijdamddipaa
open Go.RowKit Go.Shelf

def reverse_ren : Go.Shelf.Ren := ⟨fun | 35 => 75 | n => n, fun | 22 => 73 | 23 => 62 | 3 => 3 | 4 => 4 | 0 => 0 | n => n, fun | n => n⟩
theorem reverse_laid : Go.Proofs.SlLaysE0.n35 Try.prog reverse_ren := {
  mixed := by kernel_rfl
  f35 := ⟨Try.f75.name, by decide, Try.func75.trans (congrArg some (by kernel_rfl))⟩
  t0 := Try.underlying0
  a0 := Try.isAgg0
  z0 := Try.sizeOf0
  v0 := Try.zeroValue0
  t3 := Try.underlying3
  a3 := Try.isAgg3
  z3 := Try.sizeOf3
  v3 := Try.zeroValue3
  t4 := Try.underlying4
  a4 := Try.isAgg4
  z4 := Try.sizeOf4
  v4 := Try.zeroValue4
  t22 := Try.underlying73
  a22 := Try.isAgg73
  z22 := Try.sizeOf73
  v22 := Try.zeroValue73 }

theorem flatS_get (l : List Span) : ∀ j, j < l.length * 2 → (flatS l)[j]? = some ((l[j / 2]!).cells[j % 2]!) := by
  induction l with
  | nil => intro j h; simp at h
  | cons a l ih =>
    intro j h
    rw [List.length_cons] at h
    match j with
    | 0 => rfl
    | 1 => rfl
    | j + 2 =>
      have := ih j (by omega)
      have e1 : (j + 2) / 2 = j / 2 + 1 := by omega
      have e2 : (j + 2) % 2 = j % 2 := by omega
      rw [e1, e2]
      simpa [flatS] using this
theorem flatK_get (l : List Span) : (Sort.flatK Span.cells 2 l.toArray).toList = flatS l := by
  apply List.ext_getElem?
  intro j
  by_cases h : j < l.length * 2
  · rw [flatS_get l j h]
    simp [Sort.flatK, h]
  · rw [List.getElem?_eq_none (by simp; omega), List.getElem?_eq_none (by rw [flatS_length]; omega)]
theorem putCells_take (F cur : Array Value) (h : F.size ≤ cur.size) : (Sort.putCells id 0 F cur).toList.take F.size = F.toList := by
  apply List.ext_getElem?
  intro j
  by_cases hj : j < F.size
  · rw [List.getElem?_take_of_lt hj]
    have hc : j < cur.size := by omega
    simp [Sort.putCells, hj, hc]
  · rw [List.getElem?_eq_none (by simp; omega), List.getElem?_eq_none (by simp; omega)]
theorem reverse_own (w : World) (base n : Nat) (v : Value) (l : List Span) (hown : w.ownsRow base 62 2 v n (flatS l)) (hn : n ≤ 9223372036854775807) :
    Calls Try.prog 75 #[v] w fun e w' => e = .returned (.tuple #[]) ∧ Keep (fun g => v.ownBlock = some g) w w' ∧ w'.ownsRow base 62 2 v n (flatS l.reverse) := by
  have hln : l.length = n := by have := hown.1; rw [flatS_length] at this; omega
  subst hln
  rcases hown.2 with ⟨rfl, h0⟩ | ⟨g, cap, cur, rfl, hb, hg, hnc, hcm, hcs, htake⟩
  · have hl : l = [] := List.length_eq_zero_iff.1 h0
    subst hl
    refine (AnyQ.slices_Reverse_empty reverse_laid none 0 w).mono ?_
    rintro e w' ⟨rfl, rfl⟩
    exact ⟨rfl, Keep.refl _ _, hown⟩
  · have hat : At w g cur 62 := hg
    have hH : Sort.HoldsK Span.cells 2 w g 0 l.toArray := by
      intro j hj
      have hj2 : j < l.length * 2 := by simpa using hj
      refine ⟨?_, by rw [Nat.zero_add]; exact At.frozen hat j⟩
      rw [Nat.zero_add, At.cell hat j]
      have e1 : (flatS l)[j]? = cur[j]? := by
        rw [← htake, List.getElem?_take_of_lt hj2, Array.getElem?_toList]
      rw [← e1, ← flatK_get l, Array.getElem?_toList, id, getElem!_pos _ j (by simpa using hj2), Array.getElem?_eq_getElem]
    have := AnyQ.slices_Reverse reverse_laid 2 Try.isAgg62 Try.sizeOf62 Span.cells (fun _ => rfl) (fun x u hu => by simp [Span.cells] at hu; rcases hu with rfl | rfl <;> rfl) g 0 cap l.toArray w hH (by simpa using hn)
    refine this.mono ?_
    rintro e w' ⟨rfl, n, rfl⟩
    have hgl : g < w.heap.size := At.lt hat
    have hsz : (Sort.flatK Span.cells 2 l.toArray.reverse).size ≤ cur.size := by rw [Sort.size_flatK, hcs]; simp; omega
    have hblk : (Sort.putRowK Span.cells 2 (Sort.ahead w n) g 0 l.toArray.reverse).heap[g]? = some (.cells (Sort.putCells id 0 (Sort.flatK Span.cells 2 l.toArray.reverse) cur) 62 (0, 0)) := by
      show (w.heap.modify g _)[g]? = _
      rw [Array.getElem?_modify, if_pos rfl, hg]
      rfl
    refine ⟨rfl, ⟨rfl, rfl, rfl, ?_, ?_⟩, ?_⟩
    · show w.heap.size ≤ (w.heap.modify g _).size
      simp
    · intro k hk hs
      show (w.heap.modify g _)[k]? = _
      rw [Array.getElem?_modify, if_neg (fun e => hs (by rw [← e]; rfl))]
    · refine ⟨by rw [flatS_length, List.length_reverse], .inr ⟨g, cap, _, rfl, hb, hblk, hnc, hcm, by simp [Sort.putCells, hcs], ?_⟩⟩
      have e2 : (Sort.flatK Span.cells 2 l.toArray.reverse).toList = flatS l.reverse := by
        rw [show l.toArray.reverse = l.reverse.toArray by simp, flatK_get]
      have e3 := putCells_take (Sort.flatK Span.cells 2 l.toArray.reverse) cur hsz
      rw [Sort.size_flatK, e2] at e3
      simpa using e3
end Go.Proofs.Ytkbaijdamddipaa
