/-
  pane.Find, Put, Cut.
-/
import Derived.Test.YtmioichjhiengaaGreatBasePan
import Derived.Test.YtmioichjhiengaaGreatPaneSearch
import Derived.Test.YtmioichjhiengaaGreatBaseAgg
import Derived.Deep.RegionHeld3
set_option linter.unusedSimpArgs false
set_option linter.unusedVariables false
namespace Go.Proofs.YtmioichjhiengaaGreat
open Go.RowKit

/-- A value is put into a window. -/
def putP (xs : List Pane) (key : ByteArray) (s : Span) (v : Int) : List Pane :=
  match isP xs s, xs[lbP xs s]? with
  | true, some p => xs.set (lbP xs s) { p with agg := p.agg.merge (Agg.one v) }
  | _, _ => insL xs (lbP xs s) ⟨key, s, Agg.one v⟩
/-- The pane of a window. -/
def findP (xs : List Pane) (s : Span) : Pane × Bool :=
  match isP xs s, xs[lbP xs s]? with
  | true, some p => (p, true)
  | _, _ => (Pane.zero, false)
def cutP (xs : List Pane) (s : Span) : List Pane := if isP xs s then delL xs (lbP xs s) else xs
theorem isP_at {xs : List Pane} {s : Span} (h : isP xs s = true) : ∃ hl : lbP xs s < xs.length, xs[lbP xs s].span = s := by
  unfold isP at h
  cases hx : xs[lbP xs s]? with
  | none => rw [hx] at h; cases h
  | some p =>
    rw [hx] at h
    obtain ⟨hl, e⟩ := List.getElem?_eq_some_iff.1 hx
    exact ⟨hl, by rw [e]; exact Span.cmp_zero.1 (by simpa using h)⟩
theorem pane_toL (x : Pane) : x.cells.toArray = #[.string x.key, .int .i64 x.span.s, .int .i64 x.span.e, .int .i64 x.agg.count, .int .i64 x.agg.sum, .int .i64 x.agg.lo, .int .i64 x.agg.hi] := rfl

set_option maxHeartbeats 1000000 in
set_option maxRecDepth 100000 in
theorem pane_find {w : World} {A : Option Addr} {n c : Nat} {xs : List Pane} (h : Sl Pane.cells 7 w A n c xs) (hs : SortedP xs) (hn : n ≤ 1000000) (s : Span) :
    Calls Tryz.prog 65 #[.slice A n c, .agg s.cells.toArray] w fun e w' => e = .returned (.tuple #[.agg (findP xs s).1.cells.toArray, .bool (findP xs s).2]) ∧ Keep none_ w w' := by
  have hlen := h.len
  have hlc := h.2.1
  have hnc := h.2.2.1
  unfold maxLen at hnc
  have kk : Keep none_ w ((w.alloc (.cells s.cells.toArray 84)).alloc (.cells Pane.zero.cells.toArray 88)) := (by repeat' (first | assumption | with_reducible exact Keep.refl _ _ | with_reducible refine Keep.alloc ?_ _ | with_reducible refine Keep.drew ?_))
  have hr := At.newAt (w := w.alloc (.cells s.cells.toArray 84)) (n := w.heap.size + 1) (by simp) Pane.zero.cells.toArray 88
  have c1 := Lib.hid (pane_at (h.keep kk Off.none_) hs hn s)
  simp only [Span.cells, Pane.zero, Pane.cells] at kk hr c1 ⊢
  cases hb : isP xs s
  · have hf : findP xs s = (Pane.zero, false) := by unfold findP; rw [hb]
    rw [hf]
    rw [hb] at c1
    clear h hs hb hf hlen
    go_enter Tryz.func65, Tryz.ntmps65
    go_wp2_with fail
    refine c1.out.mono ?_
    rintro e w1 ⟨rfl, k1⟩
    have hr1 := Keep.at k1 hr (fun e => e)
    have cr := At.cell hr1
    have fr := At.frozen hr1
    go_wp2_with fail
    exact bodyPost_ret (v := .tuple #[.agg #[.string ⟨#[]⟩, .int .i64 0, .int .i64 0, .int .i64 0, .int .i64 0, .int .i64 0, .int .i64 0], .bool false]) (by simp [results, Tryz.results65, go_sem, cr, fr]) rfl ⟨rfl, by
      have hkk := kk.trans k1
      have hle := kk.size
      clear kk k1
      repeat' (first | with_reducible exact hkk | with_reducible refine Keep.setNew ?_ ?_ _)
      all_goals exact Nat.le_succ _⟩
  · obtain ⟨hl, -⟩ := isP_at hb
    have hf : findP xs s = (xs[lbP xs s], true) := by unfold findP; rw [hb, List.getElem?_eq_getElem hl]
    rw [hf]
    rw [hb] at c1
    obtain ⟨b, off, rfl, hbl, -⟩ := h.at_ (by omega)
    have hP := fun w' (k : Keep none_ w w') => (h.keep k Off.none_).pane hl
    have hln : lbP xs s < n := by omega
    generalize lbP xs s = i at *
    generalize xs[i] = x at *
    clear h hs hb hf hlen
    go_enter Tryz.func65, Tryz.ntmps65
    go_wp2_with fail
    refine c1.out.mono ?_
    rintro e w1 ⟨rfl, k1⟩
    have hr1 := Keep.at k1 hr (fun e => e)
    have cr := At.cell hr1
    have fr := At.frozen hr1
    obtain ⟨p0, p1, p2, p3, p4, p5, p6⟩ := hP _ (kk.trans k1)
    clear hP c1 hr
    go_wp2_with fail
    exact bodyPost_ret (v := .tuple #[.agg #[.string x.key, .int .i64 x.span.s, .int .i64 x.span.e, .int .i64 x.agg.count, .int .i64 x.agg.sum, .int .i64 x.agg.lo, .int .i64 x.agg.hi], .bool true]) (by simp [results, Tryz.results65, go_sem, cr, fr]) rfl ⟨rfl, by
      have hkk := kk.trans k1
      have hle := kk.size
      clear kk k1
      repeat' (first | with_reducible exact hkk | with_reducible refine Keep.setNew ?_ ?_ _)
      all_goals exact Nat.le_succ _⟩
end Go.Proofs.YtmioichjhiengaaGreat
