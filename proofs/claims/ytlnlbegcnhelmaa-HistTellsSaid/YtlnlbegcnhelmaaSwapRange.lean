/-
  Blocks of a row of numbers change places: slices.swapRangeCmpFunc, rotateCmpFunc.
-/
import Derived.Test.YtlnlbegcnhelmaaOwnSet
import Derived.Test.YtlnlbegcnhelmaaArg
import Derived.Test.YtlnlbegcnhelmaaStable
import Derived.Test.YtlnlbegcnhelmaaData
import Derived.BigRegion
namespace Go.Proofs.Ytlnlbegcnhelmaa
open Go.RowKit

theorem encI_l (x : Int) : (encI x).length = 1 := rfl
/-- Block g is a row of numbers. -/
abbrev IRow (w : World) (base g N cap : Nat) (l : List Int) : Prop := w.ownsRow base 3 1 (.slice (some ⟨g, 0, none⟩) N cap) N (flat encI l)
section
variable {w w' : World} {base g N cap : Nat} {l : List Int}
theorem IRow.len (h : IRow w base g N cap l) : N = l.length := own_len encI_l (by decide) h
theorem IRow.cell (h : IRow w base g N cap l) {i : Nat} {x : Int} (hx : l[i]? = some x) : w.cell? ⟨g, i, none⟩ = some (.int .i64 x) := by
  obtain ⟨hi, e⟩ := List.getElem?_eq_some_iff.1 hx
  have hN := h.len
  subst hN
  have := (Sl.of_own encI_l (by decide) h).cellk hi 0 (by omega)
  rw [e] at this
  simpa [encI] using this
theorem IRow.at_ (h : IRow w base g N cap l) : ∃ cur, At w g cur 3 := by
  rcases h.2 with ⟨h0, -⟩ | ⟨g', cap', cur, he, hb, hg, -⟩
  · cases h0
  · obtain ⟨rfl, rfl⟩ : g = g' ∧ cap = cap' := by simpa using he
    exact ⟨cur, hg⟩
theorem IRow.bounds (h : IRow w base g N cap l) : N ≤ cap ∧ cap ≤ 9223372036854775807 ∧ g < w.heap.size ∧ base ≤ g := by
  have hs := Sl.of_own encI_l (by decide) h
  have h3 := hs.2.2.1
  unfold maxLen at h3
  have := h.lt g (by rfl)
  exact ⟨hs.2.1, by omega, this.2, this.1⟩
theorem IRow.keep {S : Nat → Prop} (h : IRow w base g N cap l) (k : Keep S w w') (hs : ¬ S g) : IRow w' base g N cap l := own_keep h k (fun z hz => by
  have : g = z := by simpa [Value.ownBlock] using hz
  rwa [← this])
theorem IRow.set (h : IRow w base g N cap l) {i : Nat} (hi : i < l.length) (x : Int) : IRow (w.setCell ⟨g, i, none⟩ (.int .i64 x)) base g N cap (l.set i x) := by
  have := own_stores encI_l (by decide) h i hi x
  simpa [encI, stores] using this
end
theorem swap_pieces (P : List Int) (x : Int) (Q : List Int) (y : Int) (R : List Int) : ((P ++ x :: (Q ++ y :: R)).set P.length y).set (P.length + 1 + Q.length) x = P ++ y :: (Q ++ x :: R) := by
  rw [set_piece]
  have : P ++ y :: (Q ++ y :: R) = (P ++ y :: Q) ++ y :: R := by simp
  rw [this, show P.length + 1 + Q.length = (P ++ y :: Q).length by simp; omega, set_piece]
  simp

set_option maxHeartbeats 1000000 in
theorem swap_range {w : World} {base g N cap : Nat} {A X B Y C : List Int} {f : Value} (h : IRow w base g N cap (A ++ X ++ B ++ Y ++ C)) (hXY : X.length = Y.length) (a b n : Nat) (ha : a = A.length) (hb : b = A.length + X.length + B.length) (hn : n = X.length) :
    Calls Try.prog 103 #[.slice (some ⟨g, 0, none⟩) N cap, .int .i64 a, .int .i64 b, .int .i64 n, f] w fun e w' => e = .returned (.tuple #[]) ∧ IRow w' base g N cap (A ++ Y ++ B ++ X ++ C) ∧ Keep (one g) w w' := by
  obtain ⟨hNc, hc, hgl, hbg⟩ := h.bounds
  have hNl := h.len
  simp only [List.length_append] at hNl
  go_enter Try.func103, Try.ntmps103
  go_wp2_with fail
  go_loopw [10] (fun iv wr => ∃ (i : Nat) (X1 X2 Y1 Y2 : List Int), iv = .int .i64 i ∧ Hid (X = X1 ++ X2) ∧ Hid (Y = Y1 ++ Y2) ∧ Hid (X1.length = i) ∧ Hid (Y1.length = i) ∧ IRow wr base g N cap ((A ++ Y1) ++ (X2 ++ (B ++ X1 ++ (Y2 ++ C)))) ∧ Keep (one g) w wr)
    (fun iv _ => n - (intOf iv).toNat)
  case atStart => exact ⟨0, [], X, [], Y, rfl, Lib.hid rfl, Lib.hid rfl, Lib.hid rfl, Lib.hid rfl, by simpa using h, Keep.refl _ _⟩
  case round =>
    clear h
    obtain ⟨i, X1, X2, Y1, Y2, rfl, hX, hY, hX1, hY1, h, kk⟩ := hrel
    have eX := congrArg List.length hX.out
    have eY := congrArg List.length hY.out
    have eX1 := hX1.out
    have eY1 := hY1.out
    simp only [List.length_append] at eX eY
    cases X2 with
    | nil =>
      have hin : i = n := by simp at eX; omega
      have hY2 : Y2 = [] := List.length_eq_zero_iff.1 (by simp at eX; omega)
      have hd : ¬ i < n := by omega
      have fin : IRow wr base g N cap (A ++ Y ++ B ++ X ++ C) := by
        subst hY2
        rw [hX.out, hY.out]
        simpa using h
      clear eX eY eX1 eY1 hin hY2 h hNl ha hb hn hXY
      go_wp2_with fail
      refine bodyPost_end (v := .tuple #[]) ?_ ?_ ?_
      · exact results_none Try.results103 _ _ _
      · rfl
      · exact ⟨rfl, fin, kk⟩
    | cons x X2 =>
      cases Y2 with
      | nil => simp at eX eY; omega
      | cons y Y2 =>
        simp only [List.length_cons] at eX eY
        obtain ⟨ia, hia⟩ : ∃ ia, ia = a + i := ⟨_, rfl⟩
        obtain ⟨ib, hib⟩ : ∃ ib, ib = b + i := ⟨_, rfl⟩
        have ea : (a : Int) + (i : Int) = (ia : Int) := by omega
        have eb : (b : Int) + (i : Int) = (ib : Int) := by omega
        have hPl : (A ++ Y1).length = ia := by rw [List.length_append]; omega
        have hQl : ia + 1 + (X2 ++ (B ++ X1)).length = ib := by simp only [List.length_append]; omega
        have e1 : (A ++ Y1) ++ ((x :: X2) ++ (B ++ X1 ++ ((y :: Y2) ++ C))) = (A ++ Y1) ++ x :: ((X2 ++ (B ++ X1)) ++ y :: (Y2 ++ C)) := by simp
        rw [e1] at h
        have cx := h.cell (i := ia) (x := x) (by rw [← hPl]; exact at_piece _ _ _)
        have cy := h.cell (i := ib) (x := y) (by
          rw [← hQl]
          have : (A ++ Y1) ++ x :: ((X2 ++ (B ++ X1)) ++ y :: (Y2 ++ C)) = ((A ++ Y1) ++ x :: (X2 ++ (B ++ X1))) ++ y :: (Y2 ++ C) := by simp
          rw [this, ← hPl, show (A ++ Y1).length + 1 + (X2 ++ (B ++ X1)).length = ((A ++ Y1) ++ x :: (X2 ++ (B ++ X1))).length by simp; omega]
          exact at_piece _ _ _)
        have hll := h.len
        have hiaN : ia < N := by omega
        have hibN : ib < N := by omega
        have h2 := (h.set (i := ia) (by omega) y).set (i := ib) (by rw [List.length_set]; omega) x
        have e2 := swap_pieces (A ++ Y1) x (X2 ++ (B ++ X1)) y (Y2 ++ C)
        rw [hPl, hQl] at e2
        rw [e2] at h2
        obtain ⟨cur, hat⟩ := h.at_
        have fz := hat.frozen
        have fz2 := (At.set hat ia (.int .i64 y)).frozen
        have k2 := Keep.setCell (p := ⟨g, ib, none⟩) (Keep.setCell (p := ⟨g, ia, none⟩) kk (fun _ => rfl) (.int .i64 y)) (fun _ => rfl) (.int .i64 x)
        have hin : i < n := by omega
        have hne : ia ≠ ib := by omega
        have bia : (ia : Int) ≤ 9223372036854775807 := by omega
        have bib : (ib : Int) ≤ 9223372036854775807 := by omega
        have bia0 := Int.natCast_nonneg ia
        have bib0 := Int.natCast_nonneg ib
        have hwa : IntKind.i64.wrap ((a : Int) + (i : Int)) = (ia : Int) := by rw [ea, IntKind.wrap_i64]; omega
        have hwb : IntKind.i64.wrap ((b : Int) + (i : Int)) = (ib : Int) := by rw [eb, IntKind.wrap_i64]; omega
        have hia' : (ia : Int) < (N : Int) := by omega
        have hib' : (ib : Int) < (N : Int) := by omega
        have hnl : Hid (n ≤ 9223372036854775807) := Lib.hid (by omega)
        have hinext : i + 1 ≤ 9223372036854775807 := by omega
        have hXh := Lib.hid eX
        have hYh := Lib.hid eY
        replace hia := Lib.hid hia
        replace hib := Lib.hid hib
        clear hat cur hPl hQl e1 e2 eX eY eX1 eY1 hll h hNl ha hb hn hXY
        go_wp2_with fail
        go_region
        go_wp2_with fail
        go_roundw
        case rel => exact ⟨i + 1, X1 ++ [x], X2, Y1 ++ [y], Y2, by go_num, Lib.hid (by rw [hX.out]; simp), Lib.hid (by rw [hY.out]; simp), Lib.hid (by rw [List.length_append, hX1.out]; rfl), Lib.hid (by rw [List.length_append, hY1.out]; rfl), by simpa using own_drew h2, Keep.drew k2⟩
        case measure => simp [intOf]; omega
end Go.Proofs.Ytlnlbegcnhelmaa
