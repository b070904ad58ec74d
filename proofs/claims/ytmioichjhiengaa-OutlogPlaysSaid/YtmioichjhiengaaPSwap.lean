/-
  Blocks of a row of panes change places: slices.swapRangeCmpFunc, rotateCmpFunc.
-/
import Derived.Test.YtmioichjhiengaaPRow
import Derived.Deep.LoopGhost
namespace Go.Proofs.Ytmioichjhiengaa
open Go.RowKit

theorem swap_pieces_p (P : List TP) (x : TP) (Q : List TP) (y : TP) (R : List TP) : ((P ++ x :: (Q ++ y :: R)).set P.length y).set (P.length + 1 + Q.length) x = P ++ y :: (Q ++ x :: R) := by
  rw [set_piece]
  have : P ++ y :: (Q ++ y :: R) = (P ++ y :: Q) ++ y :: R := by simp
  rw [this, show P.length + 1 + Q.length = (P ++ y :: Q).length by simp; omega, set_piece]
  simp

set_option maxHeartbeats 1000000 in
theorem swap_range_p {w : World} {base g N cap : Nat} {A X B Y C : List TP} {f : Value} (h : PTRow w base g N cap (A ++ X ++ B ++ Y ++ C)) (hXY : X.length = Y.length) (a b n : Nat) (ha : a = A.length) (hb : b = A.length + X.length + B.length) (hn : n = X.length) :
    Calls Try.prog 120 #[.slice (some ⟨g, 0, none⟩) N cap, .int .i64 a, .int .i64 b, .int .i64 n, f] w fun e w' => e = .returned (.tuple #[]) ∧ PTRow w' base g N cap (A ++ Y ++ B ++ X ++ C) ∧ Keep (one g) w w' := by
  obtain ⟨hNc, hc, hgl, hbg⟩ := h.bounds
  have hNl := h.len
  simp only [List.length_append] at hNl
  go_enter Try.func120, Try.ntmps120
  go_wp2_with fail
  go_loopw [10] (fun iv wr => ∃ (i : Nat) (X1 X2 Y1 Y2 : List TP), iv = .int .i64 i ∧ Hid (X = X1 ++ X2) ∧ Hid (Y = Y1 ++ Y2) ∧ Hid (X1.length = i) ∧ Hid (Y1.length = i) ∧ PTRow wr base g N cap ((A ++ Y1) ++ (X2 ++ (B ++ X1 ++ (Y2 ++ C)))) ∧ Keep (one g) w wr)
    (fun iv _ => n - (intOf iv).toNat)
  case atStart => exact ⟨0, [], X, [], Y, rfl, Lib.hid rfl, Lib.hid rfl, Lib.hid rfl, Lib.hid rfl, by simpa using h, Keep.refl _ _⟩
  case round =>
    clear h
    obtain ⟨i, X1, X2, Y1, Y2, rfl, hX, hY, hX1, hY1, h, kk⟩ := hrel
    have eX := congrArg List.length hX.out
    have eY := congrArg List.length hY.out
    have eX1 := hX1.out
    have eY1 := hY1.out
    simp only [List.length_append] at eX eY
    cases X2 with
    | nil =>
      have hin : i = n := by simp at eX; omega
      have hY2 : Y2 = [] := List.length_eq_zero_iff.1 (by simp at eX; omega)
      have hd : ¬ i < n := by omega
      have fin : PTRow wr base g N cap (A ++ Y ++ B ++ X ++ C) := by
        subst hY2
        rw [hX.out, hY.out]
        simpa using h
      clear eX eY eX1 eY1 hin hY2 h hNl ha hb hn hXY
      go_wp2_with fail
      refine bodyPost_end (v := .tuple #[]) ?_ ?_ ?_
      · exact results_none Try.results120 _ _ _
      · rfl
      · exact ⟨rfl, fin, kk⟩
    | cons x X2 =>
      cases Y2 with
      | nil => simp at eX eY; omega
      | cons y Y2 =>
        simp only [List.length_cons] at eX eY
        obtain ⟨ia, hia⟩ : ∃ ia, ia = a + i := ⟨_, rfl⟩
        obtain ⟨ib, hib⟩ : ∃ ib, ib = b + i := ⟨_, rfl⟩
        have ea : (a : Int) + (i : Int) = (ia : Int) := by omega
        have eb : (b : Int) + (i : Int) = (ib : Int) := by omega
        have hPl : (A ++ Y1).length = ia := by rw [List.length_append]; omega
        have hQl : ia + 1 + (X2 ++ (B ++ X1)).length = ib := by simp only [List.length_append]; omega
        have e1 : (A ++ Y1) ++ ((x :: X2) ++ (B ++ X1 ++ ((y :: Y2) ++ C))) = (A ++ Y1) ++ x :: ((X2 ++ (B ++ X1)) ++ y :: (Y2 ++ C)) := by simp
        rw [e1] at h
        have hgx : ((A ++ Y1) ++ x :: ((X2 ++ (B ++ X1)) ++ y :: (Y2 ++ C)))[ia]? = some x := by rw [← hPl]; exact at_piece _ _ _
        have hgy : ((A ++ Y1) ++ x :: ((X2 ++ (B ++ X1)) ++ y :: (Y2 ++ C)))[ib]? = some y := by
          rw [← hQl]
          have : (A ++ Y1) ++ x :: ((X2 ++ (B ++ X1)) ++ y :: (Y2 ++ C)) = ((A ++ Y1) ++ x :: (X2 ++ (B ++ X1))) ++ y :: (Y2 ++ C) := by simp
          rw [this, ← hPl, show (A ++ Y1).length + 1 + (X2 ++ (B ++ X1)).length = ((A ++ Y1) ++ x :: (X2 ++ (B ++ X1))).length by simp; omega]
          exact at_piece _ _ _
        have hll := h.len
        have hiaN : ia < N := by omega
        have hibN : ib < N := by omega
        obtain ⟨cx, cy, fz, fz2, ck, h2, hk2⟩ := swap_facts h hgx hgy (by omega)
        have e2 := swap_pieces_p (A ++ Y1) x (X2 ++ (B ++ X1)) y (Y2 ++ C)
        rw [hPl, hQl] at e2
        rw [e2] at h2
        have k2 := hk2 _ kk
        have cx0 := cx.c0
        have cx1 := cx.c1
        have cx2 := cx.c2
        have cx3 := cx.c3
        have cx4 := cx.c4
        have cx5 := cx.c5
        have cx6 := cx.c6
        have cy0 := cy.c0
        have cy1 := cy.c1
        have cy2 := cy.c2
        have cy3 := cy.c3
        have cy4 := cy.c4
        have cy5 := cy.c5
        have cy6 := cy.c6
        have ck0 := ck.c0
        have ck1 := ck.c1
        have ck2 := ck.c2
        have ck3 := ck.c3
        have ck4 := ck.c4
        have ck5 := ck.c5
        have ck6 := ck.c6
        simp only [Pane.cells, stores, Nat.add_assoc, Nat.reduceAdd] at fz2 h2 k2
        simp only [Pane.cells, stores, Nat.add_assoc, Nat.reduceAdd] at ck0 ck1 ck2 ck3 ck4 ck5 ck6
        have hin : i < n := by omega
        have hne : ia ≠ ib := by omega
        have bia : (ia : Int) ≤ 9223372036854775807 := by omega
        have bib : (ib : Int) ≤ 9223372036854775807 := by omega
        have bia0 := Int.natCast_nonneg ia
        have bib0 := Int.natCast_nonneg ib
        have hwa : IntKind.i64.wrap ((a : Int) + (i : Int)) = (ia : Int) := by rw [ea, IntKind.wrap_i64]; omega
        have hwb : IntKind.i64.wrap ((b : Int) + (i : Int)) = (ib : Int) := by rw [eb, IntKind.wrap_i64]; omega
        have hia' : (ia : Int) < (N : Int) := by omega
        have hib' : (ib : Int) < (N : Int) := by omega
        have hnl : Hid (n ≤ 9223372036854775807) := Lib.hid (by omega)
        have hinext : i + 1 ≤ 9223372036854775807 := by omega
        have hXh := Lib.hid eX
        have hYh := Lib.hid eY
        replace hia := Lib.hid hia
        replace hib := Lib.hid hib
        clear hgx hgy cx cy ck hk2 hPl hQl e1 e2 eX eY eX1 eY1 hll h hNl ha hb hn hXY
        go_wp2_with fail
        go_region
        go_wp2_with fail
        go_roundw
        case rel => exact ⟨i + 1, X1 ++ [x], X2, Y1 ++ [y], Y2, by go_num, Lib.hid (by rw [hX.out]; simp), Lib.hid (by rw [hY.out]; simp), Lib.hid (by rw [List.length_append, hX1.out]; rfl), Lib.hid (by rw [List.length_append, hY1.out]; rfl), by simpa using own_drew h2, Keep.drew k2⟩
        case measure => simp [intOf]; omega
end Go.Proofs.Ytmioichjhiengaa
