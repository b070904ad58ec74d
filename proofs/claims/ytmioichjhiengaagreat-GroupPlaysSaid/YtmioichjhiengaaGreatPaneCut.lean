/-
  pane.Cut.
-/
import Derived.Test.YtmioichjhiengaaGreatPanePut
set_option linter.unusedSimpArgs false
set_option linter.unusedVariables false
namespace Go.Proofs.YtmioichjhiengaaGreat
open Go.RowKit

def CutDone (w : World) (xs : List Pane) (s : Span) (e : Ending) (w' : World) : Prop :=
  ∃ v, e = .returned (.tuple #[v, .agg (findP xs s).1.cells.toArray, .bool (findP xs s).2]) ∧ PRow w' w.heap.size v (cutP xs s) ∧ Keep none_ w w'
set_option maxHeartbeats 4000000 in
set_option maxRecDepth 100000 in
theorem pane_cut {w : World} {A : Option Addr} {n c : Nat} {xs : List Pane} (h : Sl Pane.cells 7 w A n c xs) (hs : SortedP xs) (hn : n ≤ 800000) (s : Span) :
    Calls Tryz.prog 45 #[.slice A n c, .agg s.cells.toArray] w (CutDone w xs s) := by
  have hlen := h.len
  have hlc := h.2.1
  have hnc := h.2.2.1
  unfold maxLen at hnc
  have kk : Keep none_ w ((w.alloc (.cells s.cells.toArray 84)).alloc (.cells Pane.zero.cells.toArray 88)) := (by repeat' (first | assumption | with_reducible exact Keep.refl _ _ | with_reducible refine Keep.alloc ?_ _ | with_reducible refine Keep.drew ?_))
  have hr := At.newAt (w := w.alloc (.cells s.cells.toArray 84)) (n := w.heap.size + 1) (by simp) Pane.zero.cells.toArray 88
  have hsz : ((w.alloc (.cells s.cells.toArray 84)).alloc (.cells Pane.zero.cells.toArray 88)).heap.size = w.heap.size + 2 := by simp
  have c1 := Lib.hid (pane_at (h.keep kk Off.none_) hs (by omega) s)
  have c2 := Lib.hid (fun w' (k : Keep none_ w w') => pane_clone (h.keep k Off.none_) (by omega))
  have hP := Lib.hid (fun w' (k : Keep none_ w w') => h.keep k Off.none_)
  have hbl : ∀ b off, A = some ⟨b, off, none⟩ → 0 < n → b < w.heap.size := fun b off e h0 => by
    obtain ⟨b', off', e', hb, -⟩ := h.at_ h0
    rw [e] at e'
    obtain ⟨rfl, -⟩ : b = b' ∧ off = off' := by simpa using e'
    exact hb
  simp only [Span.cells, Pane.zero, Pane.cells] at kk hr c1 hsz ⊢
  replace hlen := Lib.hid hlen
  go_enter Tryz.func45, Tryz.ntmps45
  go_wp2_with fail
  generalize (w.alloc _).alloc _ = w0 at *
  generalize hrb : w.heap.size + 1 = rb at *
  refine c1.out.mono ?_
  rintro e w1 ⟨rfl, k1⟩
  have hr1 := Keep.at k1 hr (fun e => e)
  have kw1 := kk.trans k1
  have hs1 := k1.size
  clear c1 k1 hr
  go_wp2_with fail
  refine (c2.out _ kw1).mono ?_
  rintro e w2 ⟨v2, rfl, own2, k2⟩
  have hr2 := Keep.at k2 hr1 (fun e => e)
  have kw2 := kw1.trans k2
  obtain ⟨A2, d2, rfl⟩ := own_form own2
  clear c2 hr1
  have hge : ∀ q, own_of (.slice A2 xs.length d2) q → rb < q := fun q hq => by
    have := own_of_ge own2 q hq
    omega
  cases hb : isP xs s
  · have hf : findP xs s = (Pane.zero, false) := by unfold findP; rw [hb]
    have hc : cutP xs s = xs := by unfold cutP; rw [hb]; rfl
    have cr := At.cell hr2
    have fr := At.frozen hr2
    have own9 := own_lower own2 (b' := w.heap.size) (by omega)
    replace hf := Lib.hid hf
    replace hc := Lib.hid hc
    have hs2 := k2.size
    clear own2 h hs hb hr2 k2 hP
    go_wp2_with fail
    refine bodyPost_ret (v := .tuple #[.slice A2 xs.length d2, .agg #[.string ⟨#[]⟩, .int .i64 0, .int .i64 0, .int .i64 0, .int .i64 0, .int .i64 0, .int .i64 0], .bool false]) (by simp [results, Tryz.results45, go_sem, cr, fr]) rfl ⟨.slice A2 xs.length d2, by rw [hf.out]; rfl, ?_, ?_⟩
    · rw [hc.out]
      have kz : ∀ W, Keep (one rb) w2 W → PRow W w.heap.size (.slice A2 xs.length d2) xs := fun W k => own_keep own9 k (fun g hg e => by
        have := hge g hg
        unfold one at e
        omega)
      refine kz _ ?_
      repeat' (first | with_reducible exact Keep.refl _ _ | with_reducible refine Keep.set1 ?_ _)
    · repeat' (first | with_reducible exact kw2 | with_reducible refine Keep.setNew ?_ ?_ _)
      all_goals omega
  · obtain ⟨hl, -⟩ := isP_at hb
    have hf : findP xs s = (xs[lbP xs s], true) := by unfold findP; rw [hb, List.getElem?_eq_getElem hl]
    have hc : cutP xs s = delL xs (lbP xs s) := by unfold cutP; rw [hb]; rfl
    obtain ⟨g, cap, hv9, -, hgw, hnc2, hmc⟩ := own_some own2 (by omega)
    obtain ⟨rfl, rfl⟩ : A2 = some ⟨g, 0, none⟩ ∧ d2 = cap := by simpa using hv9
    have hrbg := hge g rfl
    have hlN : lbP xs s < n := by have := hlen.out; omega
    obtain ⟨b, off, rfl, hbb, -⟩ := h.at_ (by omega)
    have hbw : b < w.heap.size := hbb
    have hbg : b ≠ g := by omega
    have hbr : b ≠ rb := by omega
    have c3 := fun W j (hj : j = lbP xs s + 1) (k : Keep none_ w2 W) => pane_delete (own_keep own2 k (fun _ _ e => e)) (lbP xs s) j (by omega) hj
    have hcell := fun W (k : Keep (one g) w2 W) => (h.keep (S := fun _ => False) (Keep.fresh kw2 k (fun q hq e => by unfold one at e; omega)) (fun _ _ e => e)).pane hl
    generalize lbP xs s = i at *
    generalize xs[i] = x at *
    obtain ⟨j, hj⟩ : ∃ j, j = i + 1 := ⟨_, rfl⟩
    replace c3 := fun W k => c3 W j hj k
    have ej : (i : Int) + 1 = (j : Int) := by omega
    have hlI : (i : Int) < (n : Int) := by omega
    have hi0 := Int.natCast_nonneg i
    obtain ⟨p0, p1, p2, p3, p4, p5, p6⟩ := hcell w2 (Keep.refl _ _)
    have cr2 := At.cell hr2
    have fr2 := At.frozen hr2
    have hres := fun W (k : Keep (one g) w2 W) => Keep.at k hr2 (fun e => by unfold one at e; omega)
    replace hf := Lib.hid hf
    replace hc := Lib.hid hc
    replace hres := Lib.hid hres
    replace hcell := Lib.hid hcell
    replace c3 := Lib.hid c3
    replace hj := Lib.hid hj
    have hjw := wrap_le (n := j) (by have := hj.out; omega)
    clear own2 h hs hb hl hP hv9 hge k2 hr2 hbl
    go_wp2_with fail
    go_region_with (first
      | (go_at_call 76; refine (c3.out _ (by repeat' (first | assumption | with_reducible exact Keep.refl _ _ | with_reducible refine Keep.alloc ?_ _ | with_reducible refine Keep.drew ?_))).mono ?_; rintro e w4 ⟨v4, rfl, o4, k4⟩; have k4' : Keep (one g) w2 w4 := Keep.trans (Keep.of_none (by repeat' (first | assumption | with_reducible exact Keep.refl _ _ | with_reducible refine Keep.alloc ?_ _ | with_reducible refine Keep.drew ?_))) k4; obtain ⟨q0, q1, q2, q3, q4, q5, q6⟩ := hcell.out w4 k4'; have cr4 := At.cell (hres.out w4 k4'); have fr4 := At.frozen (hres.out w4 k4')))
    all_goals
      have hge4 := own_of_ge o4
      have o9 := own_lower o4 (b' := w.heap.size) (by omega)
      have k9 : Keep none_ w w4 := Keep.fresh kw2 k4' (fun q hq e => by unfold one at e; omega)
      clear hcell hres c3 k4 k4' o4 q0 q1 q2 q3 q4 q5 q6 p0 p1 p2 p3 p4 p5 p6 cr2 fr2
      go_wp2_with fail
      refine bodyPost_ret (v := .tuple #[v4, .agg #[.string x.key, .int .i64 x.span.s, .int .i64 x.span.e, .int .i64 x.agg.count, .int .i64 x.agg.sum, .int .i64 x.agg.lo, .int .i64 x.agg.hi], .bool true]) (by simp [results, Tryz.results45, go_sem, cr4, fr4]) rfl ⟨v4, by rw [hf.out], ?_, ?_⟩
      · rw [hc.out]
        have kz : ∀ W, Keep (one rb) w4 W → PRow W w.heap.size v4 (delL xs i) := fun W k => own_keep o9 k (fun g hg e => by
          have := hge4 g hg
          unfold one at e
          omega)
        refine kz _ ?_
        repeat' (first | with_reducible exact Keep.refl _ _ | with_reducible refine Keep.set1 ?_ _)
      · repeat' (first | with_reducible exact k9 | with_reducible refine Keep.setNew ?_ ?_ _)
        all_goals omega
end Go.Proofs.YtmioichjhiengaaGreat
