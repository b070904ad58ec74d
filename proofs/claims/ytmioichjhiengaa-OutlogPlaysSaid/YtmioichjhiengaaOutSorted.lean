/-
  outlog.Sorted: stably sorted; the reference's Sorted.
-/
import Derived.Test.YtmioichjhiengaaOutSort
namespace Go.Proofs.Ytmioichjhiengaa
open Go.RowKit

def tagL (xs : List Pane) : List TP := xs.zipIdx
theorem tagL_fst (xs : List Pane) : (tagL xs).map Prod.fst = xs := by simp [tagL, List.zipIdx_map_fst]
theorem tagL_len (xs : List Pane) : (tagL xs).length = xs.length := by simp [tagL]
theorem tagL_lt (xs : List Pane) : (tagL xs).Pairwise (fun x y => tgP x < tgP y) := by
  rw [List.pairwise_iff_getElem]
  intro i j hi hj hij
  simp only [tagL, tgP, List.getElem_zipIdx]
  omega
theorem flat_tag (l : List TP) : flat encT l = flat Pane.cells (l.map Prod.fst) := by
  unfold flat encT
  rw [List.flatMap_map]
/-- S is what xs is, stably sorted. -/
def StableP (xs S : List Pane) : Prop := ∃ T : List TP, T.Perm (tagL xs) ∧ SortedT cfO T ∧ S = T.map Prod.fst
theorem StableP.unique {xs S S' : List Pane} (h : StableP xs S) (h' : StableP xs S') : S = S' := by
  obtain ⟨T, p, s, rfl⟩ := h
  obtain ⟨T', p', s', rfl⟩ := h'
  rw [sorted_unique weak_cfO s s' (p.trans p'.symm)]
theorem StableP.perm {xs S : List Pane} (h : StableP xs S) : S.Perm xs := by
  obtain ⟨T, p, -, rfl⟩ := h
  have := p.map Prod.fst
  rwa [tagL_fst] at this
theorem StableP.sorted {xs S : List Pane} (h : StableP xs S) : S.Pairwise (fun a b => b.lt a = false) := by
  obtain ⟨T, -, s, rfl⟩ := h
  rw [List.pairwise_map]
  refine s.imp fun {a b} hab => ?_
  have := lL_le weak_cfO hab
  unfold ltP cfO at this
  rwa [Pane.cmp_lt] at this
theorem StableP.nil : StableP [] [] := ⟨[], List.Perm.refl _, List.Pairwise.nil, rfl⟩
def SortedDone (w : World) (xs : List Pane) (e : Ending) (w' : World) : Prop := ∃ v S, e = .returned v ∧ StableP xs S ∧ PRow w' w.heap.size v S ∧ Keep none_ w w'

theorem out_sorted {w : World} {A : Option Addr} {n c : Nat} {xs : List Pane} (h : Sl Pane.cells 7 w A n c xs) (hn : n ≤ 1000) :
    Calls Try.prog 19 #[.slice A n c] w (SortedDone w xs) := by
  have hlen := h.len
  have c1 := Lib.hid (pane_clone h (by omega))
  replace hlen := Lib.hid hlen
  clear h
  go_enter Try.func19, Try.ntmps19
  go_wp2_with fail
  refine c1.out.mono ?_
  rintro e w1 ⟨v1, rfl, o1, k1⟩
  rcases o1.2 with ⟨rfl, h0⟩ | ⟨g, cap, cur, rfl, hbg, hcur, -⟩
  · have hx0 : xs = [] := List.length_eq_zero_iff.1 h0
    clear c1 hlen
    go_wp2_with fail
    refine (sort_nil_p _ _).mono ?_
    rintro e w2 ⟨rfl, rfl⟩
    go_wp2_with fail
    go_ret
    refine ⟨_, [], rfl, ?_, ⟨rfl, .inl ⟨rfl, rfl⟩⟩, k1⟩
    rw [hx0]
    exact StableP.nil
  · have hrow : PTRow w1 w.heap.size g xs.length cap (tagL xs) := by
      show World.ownsRow _ _ _ _ _ _ _
      rw [flat_tag, tagL_fst]
      exact o1
    have hcmp : CmpP cfO (fun _ => True) g w1 := fun w' _ x y _ _ => out_compare w' x.1 y.1
    have c2 := sort_p weak_cfO hrow hcmp ⟨tagL_lt xs, fun _ _ => trivial⟩ (by have := hlen.out; omega)
    replace c2 := Lib.hid c2
    clear c1 hrow hcmp o1 hcur
    go_wp2_with fail
    refine c2.out.mono ?_
    rintro e w2 ⟨rfl, T, pT, sT, rT, kT⟩
    go_wp2_with fail
    go_ret
    refine ⟨.slice (some ⟨g, 0, none⟩) xs.length cap, T.map Prod.fst, rfl, ⟨T, pT, sT, rfl⟩, ?_, Keep.fresh k1 kT (fun q hq e => by unfold one at e; omega)⟩
    show World.ownsRow _ _ _ _ _ _ _
    rw [← flat_tag, List.length_map, pT.length_eq, tagL_len]
    exact rT
end Go.Proofs.Ytmioichjhiengaa
