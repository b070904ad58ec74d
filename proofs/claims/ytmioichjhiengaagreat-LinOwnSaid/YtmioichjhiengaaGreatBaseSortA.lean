/-
  Texts of one kind, one behind the other.
-/
import Derived.Test.YtmioichjhiengaaGreatBaseA
import Derived.Lib.Hide
import Derived.BigRegion
set_option linter.unusedSimpArgs false
set_option linter.unusedVariables false
/-
  Stable sorting, plain: the order with tags; what an insertion and a merge come to; blocks that change places.
-/
namespace Go.Proofs.YtmioichjhiengaaGreat

section
variable {τ : Type} (lt : τ → τ → Bool) (tg : τ → Nat)
/-- By lt, and, where neither is ahead, by tags. -/
def lL (x y : τ) : Prop := lt x y = true ∨ (lt y x = false ∧ tg x < tg y)
/-- A strict weak order. -/
structure Weak : Prop where
  irr : ∀ a, lt a a = false
  tra : ∀ a b c, lt a b = true → lt b c = true → lt a c = true
  neg : ∀ a b c, lt a b = false → lt b c = false → lt a c = false
variable {lt} {tg}
theorem Weak.asy (W : Weak lt) {a b : τ} (h : lt a b = true) : lt b a = false := by
  cases e : lt b a
  · rfl
  · have := W.tra _ _ _ h e; rw [W.irr] at this; cases this
theorem Weak.lt_of (W : Weak lt) {a b c : τ} (h1 : lt a b = true) (h2 : lt c b = false) : lt a c = true := by
  cases e : lt a c
  · rw [W.neg _ _ _ e h2] at h1; cases h1
  · rfl
theorem Weak.of_lt (W : Weak lt) {a b c : τ} (h1 : lt b a = false) (h2 : lt b c = true) : lt a c = true := by
  cases e : lt a c
  · rw [W.neg _ _ _ h1 e] at h2; cases h2
  · rfl
theorem lL_le (W : Weak lt) {x y : τ} (h : lL lt tg x y) : lt y x = false := by
  rcases h with h | h
  · exact W.asy h
  · exact h.1
theorem lL_trans (W : Weak lt) {x y z : τ} (h1 : lL lt tg x y) (h2 : lL lt tg y z) : lL lt tg x z := by
  rcases h1 with h1 | ⟨h1, t1⟩
  · rcases h2 with h2 | ⟨h2, t2⟩
    · exact .inl (W.tra _ _ _ h1 h2)
    · exact .inl (W.lt_of h1 h2)
  · rcases h2 with h2 | ⟨h2, t2⟩
    · exact .inl (W.of_lt h1 h2)
    · exact .inr ⟨W.neg _ _ _ h2 h1, by omega⟩
theorem lL_asy (W : Weak lt) {x y : τ} (h1 : lL lt tg x y) (h2 : lL lt tg y x) : False := by
  have a := lL_le W h1
  have b := lL_le W h2
  rcases h1 with h1 | ⟨-, t1⟩
  · rw [h1] at b; cases b
  · rcases h2 with h2 | ⟨-, t2⟩
    · rw [h2] at a; cases a
    · omega
abbrev Sorted (lt : τ → τ → Bool) (tg : τ → Nat) (l : List τ) : Prop := l.Pairwise (lL lt tg)
/-- All of the one are ahead of all of the other one. -/
def Before (lt : τ → τ → Bool) (tg : τ → Nat) (a b : List τ) : Prop := ∀ x ∈ a, ∀ y ∈ b, lL lt tg x y
theorem Before.of_mem {a b a' b' : List τ} (h : Before lt tg a b) (ha : ∀ x ∈ a', x ∈ a) (hb : ∀ x ∈ b', x ∈ b) : Before lt tg a' b' := fun x hx y hy => h x (ha x hx) y (hb y hy)
theorem Before.append {a b c : List τ} (h1 : Before lt tg a c) (h2 : Before lt tg b c) : Before lt tg (a ++ b) c := fun x hx y hy => by
  rcases List.mem_append.1 hx with hx | hx
  · exact h1 x hx y hy
  · exact h2 x hx y hy
theorem Before.appendR {a b c : List τ} (h1 : Before lt tg a b) (h2 : Before lt tg a c) : Before lt tg a (b ++ c) := fun x hx y hy => by
  rcases List.mem_append.1 hy with hy | hy
  · exact h1 x hx y hy
  · exact h2 x hx y hy
theorem sorted_append {a b : List τ} : Sorted lt tg (a ++ b) ↔ Sorted lt tg a ∧ Sorted lt tg b ∧ Before lt tg a b := List.pairwise_append
/-- The last one of a sorted list is ahead of the first one of another: all are. -/
theorem before_of_ends (W : Weak lt) {a b : List τ} (ha : Sorted lt tg a) (hb : Sorted lt tg b) {x y : τ} (hx : a.getLast? = some x) (hy : b.head? = some y) (h : lL lt tg x y) : Before lt tg a b := by
  obtain ⟨a', rfl⟩ := List.getLast?_eq_some_iff.1 hx
  cases b with
  | nil => simp at hy
  | cons y' b =>
    obtain rfl : y' = y := by simpa using hy
    intro u hu z hz
    have h1 : u = x ∨ lL lt tg u x := by
      rcases List.mem_append.1 hu with hu | hu
      · exact .inr ((sorted_append.1 ha).2.2 u hu x (by simp))
      · exact .inl (by simpa using hu)
    have h2 : lL lt tg u y' := by
      rcases h1 with rfl | h1
      · exact h
      · exact lL_trans W h1 h
    rcases List.mem_cons.1 hz with rfl | hz
    · exact h2
    · exact lL_trans W h2 (List.rel_of_pairwise_cons hb hz)
theorem before_nil_left {b : List τ} : Before lt tg [] b := fun x hx => by cases hx
theorem before_nil_right {a : List τ} : Before lt tg a [] := fun x _ y hy => by cases hy
/-- An insertion: what is behind is what it is ahead of. -/
theorem insert_ok (W : Weak lt) {p1 p2 : List τ} {e : τ} (hp : Sorted lt tg (p1 ++ p2)) (ht : ∀ x ∈ p1, tg x < tg e) (h2 : ∀ x ∈ p2, lt e x = true) (h1 : ∀ y, p1.getLast? = some y → lt e y = false) : Sorted lt tg (p1 ++ e :: p2) := by
  obtain ⟨s1, s2, s12⟩ := sorted_append.1 hp
  refine sorted_append.2 ⟨s1, List.pairwise_cons.2 ⟨fun x hx => .inl (h2 x hx), s2⟩, ?_⟩
  have hb : Before lt tg p1 [e] := by
    cases hl : p1.getLast? with
    | none =>
      rw [List.getLast?_eq_none_iff] at hl
      rw [hl]; exact before_nil_left
    | some y => exact before_of_ends W s1 (List.pairwise_singleton _ _) hl (by rfl) (.inr ⟨h1 y hl, ht y (List.mem_of_getLast? hl)⟩)
  intro x hx z hz
  rcases List.mem_cons.1 hz with rfl | hz
  · exact hb x hx z (by simp)
  · exact s12 x hx z hz
/-- Of two sorted rows of different tags the first parts, merged, and the last parts, merged. -/
theorem halves_ok {u1 u2 v1 v2 s1 s2 : List τ} (h1 : Sorted lt tg s1) (h2 : Sorted lt tg s2) (p1 : s1.Perm (u1 ++ v1)) (p2 : s2.Perm (u2 ++ v2))
    (huu : Before lt tg u1 u2) (huv : Before lt tg u1 v2) (hvu : Before lt tg v1 u2) (hvv : Before lt tg v1 v2) : Sorted lt tg (s1 ++ s2) :=
  sorted_append.2 ⟨h1, h2, fun x hx y hy => (Before.append (huu.appendR huv) (hvu.appendR hvv)) x (p1.mem_iff.1 hx) y (p2.mem_iff.1 hy)⟩
/-- Two sorted rows of the same elements are the same. -/
theorem sorted_unique (W : Weak lt) : ∀ {a b : List τ}, Sorted lt tg a → Sorted lt tg b → a.Perm b → a = b
  | [], b, _, _, p => by rw [List.nil_perm.1 p]
  | x :: a, [], _, _, p => by have := p.length_eq; simp at this
  | x :: a, y :: b, ha, hb, p => by
    have hxy : x = y := by
      have hx : x ∈ y :: b := p.mem_iff.1 (by simp)
      have hy : y ∈ x :: a := p.mem_iff.2 (by simp)
      rcases List.mem_cons.1 hx with h | h
      · exact h
      · rcases List.mem_cons.1 hy with h' | h'
        · exact h'.symm
        · exact (lL_asy W (List.rel_of_pairwise_cons hb h) (List.rel_of_pairwise_cons ha h')).elim
    subst hxy
    rw [sorted_unique W (List.pairwise_cons.1 ha).2 (List.pairwise_cons.1 hb).2 (List.Perm.cons_inv p)]

/-! Lists in pieces: what stands where, and what a store there makes of it. -/
theorem at_piece (a : List τ) (x : τ) (b : List τ) : (a ++ x :: b)[a.length]? = some x := by simp
theorem set_piece (a : List τ) (x y : τ) (b : List τ) : (a ++ x :: b).set a.length y = a ++ y :: b := by simp
end
end Go.Proofs.YtmioichjhiengaaGreat

/-
  Blocks of a row of numbers change places: slices.swapRangeCmpFunc, rotateCmpFunc.
-/
namespace Go.Proofs.YtmioichjhiengaaGreat
open Go.RowKit

theorem encI_l (x : Int) : (encI x).length = 1 := rfl
/-- Block g is a row of numbers. -/
abbrev IRow (w : World) (base g N cap : Nat) (l : List Int) : Prop := w.ownsRow base 3 1 (.slice (some ⟨g, 0, none⟩) N cap) N (flat encI l)
section
variable {w w' : World} {base g N cap : Nat} {l : List Int}
theorem IRow.len (h : IRow w base g N cap l) : N = l.length := own_len encI_l (by decide) h
theorem IRow.cell (h : IRow w base g N cap l) {i : Nat} {x : Int} (hx : l[i]? = some x) : w.cell? ⟨g, i, none⟩ = some (.int .i64 x) := by
  obtain ⟨hi, e⟩ := List.getElem?_eq_some_iff.1 hx
  have hN := h.len
  subst hN
  have := (Sl.of_own encI_l (by decide) h).cellk hi 0 (by omega)
  rw [e] at this
  simpa [encI] using this
theorem IRow.at_ (h : IRow w base g N cap l) : ∃ cur, At w g cur 3 := by
  rcases h.2 with ⟨h0, -⟩ | ⟨g', cap', cur, he, hb, hg, -⟩
  · cases h0
  · obtain ⟨rfl, rfl⟩ : g = g' ∧ cap = cap' := by simpa using he
    exact ⟨cur, hg⟩
theorem IRow.bounds (h : IRow w base g N cap l) : N ≤ cap ∧ cap ≤ 9223372036854775807 ∧ g < w.heap.size ∧ base ≤ g := by
  have hs := Sl.of_own encI_l (by decide) h
  have h3 := hs.2.2.1
  unfold maxLen at h3
  have := h.lt g (by rfl)
  exact ⟨hs.2.1, by omega, this.2, this.1⟩
theorem IRow.keep {S : Nat → Prop} (h : IRow w base g N cap l) (k : Keep S w w') (hs : ¬ S g) : IRow w' base g N cap l := own_keep h k (fun z hz => by
  have : g = z := by simpa [Value.ownBlock] using hz
  rwa [← this])
theorem IRow.set (h : IRow w base g N cap l) {i : Nat} (hi : i < l.length) (x : Int) : IRow (w.setCell ⟨g, i, none⟩ (.int .i64 x)) base g N cap (l.set i x) := by
  have := own_stores encI_l (by decide) h i hi x
  simpa [encI, stores] using this
end
theorem swap_pieces (P : List Int) (x : Int) (Q : List Int) (y : Int) (R : List Int) : ((P ++ x :: (Q ++ y :: R)).set P.length y).set (P.length + 1 + Q.length) x = P ++ y :: (Q ++ x :: R) := by
  rw [set_piece]
  have : P ++ y :: (Q ++ y :: R) = (P ++ y :: Q) ++ y :: R := by simp
  rw [this, show P.length + 1 + Q.length = (P ++ y :: Q).length by simp; omega, set_piece]
  simp

set_option maxHeartbeats 1000000 in
theorem swap_range {w : World} {base g N cap : Nat} {A X B Y C : List Int} {f : Value} (h : IRow w base g N cap (A ++ X ++ B ++ Y ++ C)) (hXY : X.length = Y.length) (a b n : Nat) (ha : a = A.length) (hb : b = A.length + X.length + B.length) (hn : n = X.length) :
    Calls Tryz.prog 162 #[.slice (some ⟨g, 0, none⟩) N cap, .int .i64 a, .int .i64 b, .int .i64 n, f] w fun e w' => e = .returned (.tuple #[]) ∧ IRow w' base g N cap (A ++ Y ++ B ++ X ++ C) ∧ Keep (one g) w w' := by
  obtain ⟨hNc, hc, hgl, hbg⟩ := h.bounds
  have hNl := h.len
  simp only [List.length_append] at hNl
  go_enter Tryz.func162, Tryz.ntmps162
  go_wp2_with fail
  go_loopw [10] (fun iv wr => ∃ (i : Nat) (X1 X2 Y1 Y2 : List Int), iv = .int .i64 i ∧ Hid (X = X1 ++ X2) ∧ Hid (Y = Y1 ++ Y2) ∧ Hid (X1.length = i) ∧ Hid (Y1.length = i) ∧ IRow wr base g N cap ((A ++ Y1) ++ (X2 ++ (B ++ X1 ++ (Y2 ++ C)))) ∧ Keep (one g) w wr)
    (fun iv _ => n - (intOf iv).toNat)
  case atStart => exact ⟨0, [], X, [], Y, rfl, Lib.hid rfl, Lib.hid rfl, Lib.hid rfl, Lib.hid rfl, by simpa using h, Keep.refl _ _⟩
  case round =>
    clear h
    obtain ⟨i, X1, X2, Y1, Y2, rfl, hX, hY, hX1, hY1, h, kk⟩ := hrel
    have eX := congrArg List.length hX.out
    have eY := congrArg List.length hY.out
    have eX1 := hX1.out
    have eY1 := hY1.out
    simp only [List.length_append] at eX eY
    cases X2 with
    | nil =>
      have hin : i = n := by simp at eX; omega
      have hY2 : Y2 = [] := List.length_eq_zero_iff.1 (by simp at eX; omega)
      have hd : ¬ i < n := by omega
      have fin : IRow wr base g N cap (A ++ Y ++ B ++ X ++ C) := by
        subst hY2
        rw [hX.out, hY.out]
        simpa using h
      clear eX eY eX1 eY1 hin hY2 h hNl ha hb hn hXY
      go_wp2_with fail
      refine bodyPost_end (v := .tuple #[]) ?_ ?_ ?_
      · exact results_none Tryz.results162 _ _ _
      · rfl
      · exact ⟨rfl, fin, kk⟩
    | cons x X2 =>
      cases Y2 with
      | nil => simp at eX eY; omega
      | cons y Y2 =>
        simp only [List.length_cons] at eX eY
        obtain ⟨ia, hia⟩ : ∃ ia, ia = a + i := ⟨_, rfl⟩
        obtain ⟨ib, hib⟩ : ∃ ib, ib = b + i := ⟨_, rfl⟩
        have ea : (a : Int) + (i : Int) = (ia : Int) := by omega
        have eb : (b : Int) + (i : Int) = (ib : Int) := by omega
        have hPl : (A ++ Y1).length = ia := by rw [List.length_append]; omega
        have hQl : ia + 1 + (X2 ++ (B ++ X1)).length = ib := by simp only [List.length_append]; omega
        have e1 : (A ++ Y1) ++ ((x :: X2) ++ (B ++ X1 ++ ((y :: Y2) ++ C))) = (A ++ Y1) ++ x :: ((X2 ++ (B ++ X1)) ++ y :: (Y2 ++ C)) := by simp
        rw [e1] at h
        have cx := h.cell (i := ia) (x := x) (by rw [← hPl]; exact at_piece _ _ _)
        have cy := h.cell (i := ib) (x := y) (by
          rw [← hQl]
          have : (A ++ Y1) ++ x :: ((X2 ++ (B ++ X1)) ++ y :: (Y2 ++ C)) = ((A ++ Y1) ++ x :: (X2 ++ (B ++ X1))) ++ y :: (Y2 ++ C) := by simp
          rw [this, ← hPl, show (A ++ Y1).length + 1 + (X2 ++ (B ++ X1)).length = ((A ++ Y1) ++ x :: (X2 ++ (B ++ X1))).length by simp; omega]
          exact at_piece _ _ _)
        have hll := h.len
        have hiaN : ia < N := by omega
        have hibN : ib < N := by omega
        have h2 := (h.set (i := ia) (by omega) y).set (i := ib) (by rw [List.length_set]; omega) x
        have e2 := swap_pieces (A ++ Y1) x (X2 ++ (B ++ X1)) y (Y2 ++ C)
        rw [hPl, hQl] at e2
        rw [e2] at h2
        obtain ⟨cur, hat⟩ := h.at_
        have fz := hat.frozen
        have fz2 := (At.set hat ia (.int .i64 y)).frozen
        have k2 := Keep.setCell (p := ⟨g, ib, none⟩) (Keep.setCell (p := ⟨g, ia, none⟩) kk (fun _ => rfl) (.int .i64 y)) (fun _ => rfl) (.int .i64 x)
        have hin : i < n := by omega
        have hne : ia ≠ ib := by omega
        have bia : (ia : Int) ≤ 9223372036854775807 := by omega
        have bib : (ib : Int) ≤ 9223372036854775807 := by omega
        have bia0 := Int.natCast_nonneg ia
        have bib0 := Int.natCast_nonneg ib
        have hwa : IntKind.i64.wrap ((a : Int) + (i : Int)) = (ia : Int) := by rw [ea, IntKind.wrap_i64]; omega
        have hwb : IntKind.i64.wrap ((b : Int) + (i : Int)) = (ib : Int) := by rw [eb, IntKind.wrap_i64]; omega
        have hia' : (ia : Int) < (N : Int) := by omega
        have hib' : (ib : Int) < (N : Int) := by omega
        have hnl : Hid (n ≤ 9223372036854775807) := Lib.hid (by omega)
        have hinext : i + 1 ≤ 9223372036854775807 := by omega
        have hXh := Lib.hid eX
        have hYh := Lib.hid eY
        replace hia := Lib.hid hia
        replace hib := Lib.hid hib
        clear hat cur hPl hQl e1 e2 eX eY eX1 eY1 hll h hNl ha hb hn hXY
        go_wp2_with fail
        go_region
        go_wp2_with fail
        go_roundw
        case rel => exact ⟨i + 1, X1 ++ [x], X2, Y1 ++ [y], Y2, by go_num, Lib.hid (by rw [hX.out]; simp), Lib.hid (by rw [hY.out]; simp), Lib.hid (by rw [List.length_append, hX1.out]; rfl), Lib.hid (by rw [List.length_append, hY1.out]; rfl), by simpa using own_drew h2, Keep.drew k2⟩
        case measure => simp [intOf]; omega
end Go.Proofs.YtmioichjhiengaaGreat

/-
  slices.rotateCmpFunc on a row of numbers.
-/
namespace Go.Proofs.YtmioichjhiengaaGreat
open Go.RowKit

set_option maxHeartbeats 1000000 in
theorem rotate_int {w : World} {base g N cap : Nat} {A U V C : List Int} {f : Value} (h : IRow w base g N cap (A ++ U ++ V ++ C)) (a m b : Nat) (ha : a = A.length) (hm : m = A.length + U.length) (hb : b = A.length + U.length + V.length) (hU : 0 < U.length) (hV : 0 < V.length) :
    Calls Tryz.prog 159 #[.slice (some ⟨g, 0, none⟩) N cap, .int .i64 a, .int .i64 m, .int .i64 b, f] w fun e w' => e = .returned (.tuple #[]) ∧ IRow w' base g N cap (A ++ V ++ U ++ C) ∧ Keep (one g) w w' := by
  obtain ⟨hNc, hc, hgl, hbg⟩ := h.bounds
  have hNl := h.len
  simp only [List.length_append] at hNl
  have hmb : m ≤ 9223372036854775807 := by omega
  have hbb : b ≤ 9223372036854775807 := by omega
  obtain ⟨i0, hi0⟩ : ∃ i0, i0 = U.length := ⟨_, rfl⟩
  obtain ⟨j0, hj0⟩ : ∃ j0, j0 = V.length := ⟨_, rfl⟩
  have ei : (m : Int) - (a : Int) = (i0 : Int) := by omega
  have ej : (b : Int) - (m : Int) = (j0 : Int) := by omega
  have hij0 := Lib.hid (And.intro hi0 hj0)
  have hbN : m + j0 ≤ N := by omega
  have hmA := Lib.hid (And.intro hm (And.intro hU hV))
  clear ha hm hb hU hV hi0 hj0 hNl
  go_enter Tryz.func159, Tryz.ntmps159
  go_wp2_with fail
  go_loopw [10, 11] (fun iv jv wr => ∃ (i j : Nat) (A' U' V' C' : List Int), iv = .int .i64 i ∧ jv = .int .i64 j ∧ Hid (i = U'.length ∧ j = V'.length ∧ m = A'.length + U'.length ∧ 0 < i ∧ 0 < j) ∧ m + j ≤ N ∧ i ≤ m ∧ IRow wr base g N cap (A' ++ U' ++ V' ++ C') ∧ Hid (A' ++ V' ++ U' ++ C' = A ++ V ++ U ++ C) ∧ Keep (one g) w wr)
    (fun iv jv _ => (intOf iv).toNat + (intOf jv).toNat)
  case atStart => exact ⟨i0, j0, A, U, V, C, rfl, rfl, Lib.hid ⟨hij0.out.1, hij0.out.2, hmA.out.1, by rw [hij0.out.1]; exact hmA.out.2.1, by rw [hij0.out.2]; exact hmA.out.2.2⟩, hbN, by rw [hij0.out.1, hmA.out.1]; omega, h, Lib.hid rfl, Keep.refl _ _⟩
  case round =>
    clear h hij0 hmA ei ej hbN
    obtain ⟨i, j, A', U', V', C', rfl, rfl, hl, hmj, him, h, ht, kk⟩ := hrel
    obtain ⟨hi, hj, hm, hip, hjp⟩ := hl.out
    obtain ⟨a1, ha1⟩ : ∃ a1, a1 = A'.length := ⟨_, rfl⟩
    have e1 : (m : Int) - (i : Int) = (a1 : Int) := by omega
    by_cases hij : i = j
    · have hb : ((i : Int) != (j : Int)) = false := by simp [hij]
      have c1 := swap_range (f := f) (A := A') (X := U') (B := []) (Y := V') (C := C') (by simpa using h) (by omega) a1 m i ha1 (by simp; omega) hi
      replace c1 := Lib.hid c1
      clear hij hi hj hm hip hjp ha1
      go_wp2_with fail
      refine c1.out.mono ?_
      rintro e w1 ⟨rfl, h1, k1⟩
      go_wp2_with fail
      refine bodyPost_end (v := .tuple #[]) ?_ ?_ ?_
      · exact results_none Tryz.results159 _ _ _
      · rfl
      · refine ⟨rfl, ?_, kk.trans k1⟩
        rw [← ht.out]
        simpa using h1
    · have hb : ((i : Int) != (j : Int)) = true := by simp; omega
      by_cases hlt : j < i
      · have hsplit : U' = U'.take j ++ U'.drop j := (List.take_append_drop _ _).symm
        have hl1 : (U'.take j).length = j := by rw [List.length_take]; omega
        have hl2 : (U'.drop j).length = i - j := by rw [List.length_drop]; omega
        generalize U'.take j = U1 at *
        generalize U'.drop j = U2 at *
        subst hsplit
        have c1 := swap_range (f := f) (A := A') (X := U1) (B := U2) (Y := V') (C := C') (by simpa using h) (by omega) a1 m j ha1 (by omega) hl1.symm
        replace c1 := Lib.hid c1
        have e2 : (i : Int) - (j : Int) = ((i - j : Nat) : Int) := by omega
        have hfin : Hid (i - j = U2.length ∧ j = U1.length ∧ m = (A' ++ V').length + U2.length ∧ 0 < i - j ∧ 0 < j) := Lib.hid ⟨hl2.symm, hl1.symm, by simp only [List.length_append]; omega, by omega, hjp⟩
        clear hij hi hj hm hip hjp ha1 hl1 hl2 hl
        go_wp2_with fail
        refine c1.out.mono ?_
        rintro e w1 ⟨rfl, h1, k1⟩
        go_wp2_with fail
        go_roundw
        case rel => exact ⟨i - j, j, A' ++ V', U2, U1, C', by go_num, rfl, hfin, hmj, by omega, by simpa using h1, Lib.hid (by rw [← ht.out]; simp), kk.trans k1⟩
        case measure => simp [intOf]; have := hfin.out; omega
      · have hsplit : V' = V'.take (j - i) ++ V'.drop (j - i) := (List.take_append_drop _ _).symm
        have hl1 : (V'.take (j - i)).length = j - i := by rw [List.length_take]; omega
        have hl2 : (V'.drop (j - i)).length = i := by rw [List.length_drop]; omega
        generalize V'.take (j - i) = V1 at *
        generalize V'.drop (j - i) = V2 at *
        subst hsplit
        obtain ⟨b1, hb1⟩ : ∃ b1, b1 = m + j - i := ⟨_, rfl⟩
        have e3 : (m : Int) + (j : Int) - (i : Int) = (b1 : Int) := by omega
        have hmji : (m : Int) + (j : Int) ≤ 9223372036854775807 := by omega
        have c1 := swap_range (f := f) (A := A') (X := U') (B := V1) (Y := V2) (C := C') (by simpa using h) (by omega) a1 b1 i ha1 (by omega) hi
        replace c1 := Lib.hid c1
        have e2 : (j : Int) - (i : Int) = ((j - i : Nat) : Int) := by omega
        have hfin : Hid (i = V2.length ∧ j - i = V1.length ∧ m = A'.length + V2.length ∧ 0 < i ∧ 0 < j - i) := Lib.hid ⟨hl2.symm, hl1.symm, by omega, hip, by omega⟩
        replace hb1 := Lib.hid hb1
        clear hij hi hj hm hip hjp ha1 hl1 hl2 hl
        go_wp2_with fail
        refine c1.out.mono ?_
        rintro e w1 ⟨rfl, h1, k1⟩
        go_wp2_with fail
        go_roundw
        case rel => exact ⟨i, j - i, A', V2, V1, U' ++ C', rfl, by go_num, hfin, by omega, him, by simpa using h1, Lib.hid (by rw [← ht.out]; simp), kk.trans k1⟩
        case measure => simp [intOf]; have := hfin.out; omega
end Go.Proofs.YtmioichjhiengaaGreat

/-
  slices.insertionSortCmpFunc on a row of numbers, with a comparer that reads.
-/
namespace Go.Proofs.YtmioichjhiengaaGreat
open Go.RowKit

/-- The comparer, wherever all but row g is as in w. -/
def CmpI (cb : Value) (cf : Int → Int → Int) (ok : Int → Prop) (g : Nat) (w : World) : Prop := ∀ w', Keep (one g) w w' → ∀ x y, ok x → ok y →
  Calls Tryz.prog 104 #[.int .i64 x, .int .i64 y, cb] w' fun e w'' => e = .returned (.int .i64 (cf x y)) ∧ Keep none_ w' w''
theorem CmpI.keep {cb : Value} {cf : Int → Int → Int} {ok : Int → Prop} {g : Nat} {w w' : World} (h : CmpI cb cf ok g w) (k : Keep (one g) w w') : CmpI cb cf ok g w' := fun w2 k2 => h w2 (k.trans k2)
def ltC (cf : Int → Int → Int) (x y : Int) : Bool := decide (cf x y < 0)
abbrev SortedC (cf : Int → Int → Int) (l : List Int) : Prop := Sorted (ltC cf) Int.toNat l
theorem getLast_append_singleton {α : Type} (l : List α) (x : α) : (l ++ [x]).getLast? = some x := by simp
theorem swap_adj (P : List Int) (x y : Int) (R : List Int) : ((P ++ x :: y :: R).set (P.length + 1) x).set P.length y = P ++ y :: x :: R := by
  have : P ++ x :: y :: R = (P ++ [x]) ++ y :: R := by simp
  rw [this, show P.length + 1 = (P ++ [x]).length by simp, set_piece]
  have : (P ++ [x]) ++ x :: R = P ++ x :: x :: R := by simp
  rw [this, set_piece]

set_option maxHeartbeats 4000000 in
theorem insert_int {w : World} {base g N cap : Nat} {A S C : List Int} {cb : Value} {cf : Int → Int → Int} {ok : Int → Prop} (W : Weak (ltC cf)) (h : IRow w base g N cap (A ++ S ++ C)) (hcmp : CmpI cb cf ok g w)
    (hS : S.Pairwise (fun x y => x.toNat < y.toNat)) (hok : ∀ x ∈ S, ok x) (a b : Nat) (ha : a = A.length) (hb : b = A.length + S.length) (hN : N ≤ 1000) :
    Calls Tryz.prog 149 #[.slice (some ⟨g, 0, none⟩) N cap, .int .i64 a, .int .i64 b, .func (.func 104) #[] #[cb]] w fun e w' => e = .returned (.tuple #[]) ∧
      ∃ S', S'.Perm S ∧ SortedC cf S' ∧ IRow w' base g N cap (A ++ S' ++ C) ∧ Keep (one g) w w' := by
  obtain ⟨hNc, hc, hgl, hbg⟩ := h.bounds
  have hNl := h.len
  simp only [List.length_append] at hNl
  have haN : a ≤ N := by omega
  have hbN : b ≤ N := by omega
  cases S with
  | nil =>
    have hnot : ¬ a + 1 < b := by simp at hb; omega
    clear hNl ha hb hS hok
    go_enter Tryz.func149, Tryz.ntmps149
    go_wp2_with fail
    go_loopw [8, 9] (fun iv _ wr => iv = .int .i64 (a + 1 : Nat) ∧ wr = w) (fun _ _ _ => 0)
    case atStart => exact ⟨by go_num, rfl⟩
    case round =>
      obtain ⟨rfl, rfl⟩ := hrel
      go_wp2_with fail
      refine bodyPost_end (v := .tuple #[]) ?_ ?_ ?_
      · exact results_none Tryz.results149 _ _ _
      · rfl
      · exact ⟨rfl, [], List.Perm.refl _, List.Pairwise.nil, h, Keep.refl _ _⟩
  | cons x0 S0 =>
    simp only [List.length_cons] at hNl hb
    replace hok := Lib.hid hok
    replace hS := Lib.hid hS
    go_enter Tryz.func149, Tryz.ntmps149
    go_wp2_with fail
    go_loopw [8, 9] (fun iv _ wr => ∃ (i : Nat) (S1 S2 S1' : List Int), iv = .int .i64 i ∧ i ≤ b ∧ Hid (i = A.length + S1.length) ∧ Hid (x0 :: S0 = S1 ++ S2) ∧ Hid (S1'.Perm S1) ∧ Hid (SortedC cf S1') ∧ IRow wr base g N cap (A ++ S1' ++ (S2 ++ C)) ∧ Keep (one g) w wr)
      (fun iv _ _ => b - (intOf iv).toNat)
    case atStart => exact ⟨a + 1, [x0], S0, [x0], by go_num, by omega, Lib.hid (by simp [ha]), Lib.hid rfl, Lib.hid (List.Perm.refl _), Lib.hid (List.pairwise_singleton _ _), by simpa using h, Keep.refl _ _⟩
    case round =>
      clear h
      obtain ⟨i, S1, S2, S1', rfl, hib, hi, hsp, hpe, hso, h, kk⟩ := hrel
      have hl1 := congrArg List.length hsp.out
      simp only [List.length_cons, List.length_append] at hl1
      have hi1 := hi.out
      have hpl := hpe.out.length_eq
      cases S2 with
      | nil =>
        have hnot : ¬ i < b := by simp at hl1; omega
        have hfin : S1 = x0 :: S0 := by rw [hsp.out]; simp
        clear hl1 hi1 hpl hNl ha hb
        go_wp2_with fail
        refine bodyPost_end (v := .tuple #[]) ?_ ?_ ?_
        · exact results_none Tryz.results149 _ _ _
        · rfl
        · exact ⟨rfl, S1', by rw [← hfin]; exact hpe.out, hso.out, by simpa using h, kk⟩
      | cons e S2 =>
        simp only [List.length_cons] at hl1
        have hlt : i < b := by omega
        -- e's tag is above those ahead of it
        have htag : ∀ x ∈ S1', x.toNat < e.toNat := fun x hx => by
          have h9 := hS.out
          rw [hsp.out] at h9
          exact (List.pairwise_append.1 h9).2.2 x (hpe.out.mem_iff.1 hx) e (by simp)
        have hoke : ok e := hok.out e (by rw [hsp.out]; simp)
        have hok1 : ∀ x ∈ S1', ok x := fun x hx => hok.out x (by rw [hsp.out]; exact List.mem_append_left _ (hpe.out.mem_iff.1 hx))
        replace htag := Lib.hid htag
        replace hok1 := Lib.hid hok1
        have hlen1 : Hid (a + S1'.length = i) := Lib.hid (by omega)
        have ha' := Lib.hid ha
        have hNl' : Hid (N = A.length + S1'.length + (1 + S2.length + C.length)) := Lib.hid (by omega)
        clear hl1 hi1 hpl hNl hb ha
        go_wp2_with fail
        go_loopw [9] (fun jv wr => ∃ (j : Nat) (p1 p2 : List Int), jv = .int .i64 j ∧ j ≤ i ∧ Hid (j = a + p1.length) ∧ Hid (p1 ++ p2 = S1') ∧ Hid (∀ x ∈ p2, ltC cf e x = true) ∧ IRow wr base g N cap (A ++ p1 ++ (e :: (p2 ++ (S2 ++ C)))) ∧ Keep (one g) w wr)
          (fun jv _ => (intOf jv).toNat)
        case atStart => exact ⟨i, S1', [], rfl, Nat.le_refl _, Lib.hid (by have := hlen1.out; omega), Lib.hid (by simp), Lib.hid (fun x hx => by cases hx), by simpa using h, kk⟩
        case round =>
          clear h kk
          obtain ⟨j, p1, p2, rfl, hji, hj, hp, hlte, h, kk⟩ := hrel
          have hj1 := hj.out
          have fin : (∀ y, p1.getLast? = some y → ltC cf e y = false) → SortedC cf (p1 ++ e :: p2) := fun h1 => insert_ok W (by rw [hp.out]; exact hso.out) (fun x hx => htag.out x (by rw [← hp.out]; exact List.mem_append_left _ hx)) hlte.out h1
          have fpe : (p1 ++ e :: p2).Perm (S1 ++ [e]) := (List.perm_middle).trans ((List.Perm.cons e (by rw [hp.out]; exact hpe.out)).trans (List.perm_append_comm (l₁ := [e])))
          replace fin := Lib.hid fin
          replace fpe := Lib.hid fpe
          have hce := h.cell (i := j) (x := e) (by
            have := ha'.out
            rw [show j = (A ++ p1).length by rw [List.length_append]; omega]
            exact at_piece _ _ _)
          have hjN : j < N := by have := h.len; simp only [List.length_append, List.length_cons] at this; have := ha'.out; omega
          obtain ⟨ι, hnn, f, hf0, hfk, hfa⟩ := class_of none_ wr
          have qe : ∀ n, (f n).cell? ⟨g, j, none⟩ = _ := fun n => ((h.keep (hfk n) (fun e => e))).cell (i := j) (x := e) (by
            have := ha'.out
            rw [show j = (A ++ p1).length by rw [List.length_append]; omega]
            exact at_piece _ _ _)
          rcases List.eq_nil_or_concat p1 with rfl | ⟨q, y, rfl⟩
          · have hja : j = a := by simpa using hj1
            have fin' := Lib.hid (fin.out (fun y hy => by simp at hy))
            clear hj1 fin hce
            subst hja
            go_wp2_with fail
            refine wp_region_class f (by kernel_rfl) (by kernel_rfl) hf0 ?_
            repeat (go_big_quiet_step (fail))
            refine wpQuiet_nil ?_
            rintro _ ⟨nn, rfl⟩
            replace kk := kk.trans ((hfk nn).mono (fun _ _ e => e.elim))
            replace h := h.keep (hfk nn) (fun e => e)
            clear qe hf0 hfk hfa
            go_wp2_with fail
            go_roundw
            case rel => exact ⟨i + 1, S1 ++ [e], S2, [] ++ e :: p2, by go_num, by omega, Lib.hid (by have := hi.out; rw [List.length_append]; simp; omega), Lib.hid (by rw [hsp.out]; simp), fpe, fin', by simpa using h, kk⟩
            case measure => simp [intOf]; omega

          · rw [List.concat_eq_append] at h hj1 hp fin fpe
            obtain ⟨j', hj'⟩ : ∃ j', j' = a + q.length := ⟨_, rfl⟩
            have hjj : j = j' + 1 := by rw [List.length_append] at hj1; simp at hj1; omega
            have ej : (j : Int) - 1 = (j' : Int) := by omega
            have haj : a < j := by omega
            have hoky : ok y := hok1.out y (by rw [← hp.out]; simp)
            have hy := (h.cell (i := j') (x := y) (by
              have := ha'.out
              rw [show A ++ (q ++ [y]) ++ (e :: (p2 ++ (S2 ++ C))) = (A ++ q) ++ y :: (e :: (p2 ++ (S2 ++ C))) by simp, show j' = (A ++ q).length by rw [List.length_append]; omega]
              exact at_piece _ _ _))
            have qy : ∀ n, (f n).cell? ⟨g, j', none⟩ = some (.int .i64 y) := fun n => by
              have := (h.keep (hfk n) (fun e => e)).cell (i := j') (x := y) (by
                have := ha'.out
                rw [show A ++ (q ++ [y]) ++ (e :: (p2 ++ (S2 ++ C))) = (A ++ q) ++ y :: (e :: (p2 ++ (S2 ++ C))) by simp, show j' = (A ++ q).length by rw [List.length_append]; omega]
                exact at_piece _ _ _)
              exact this
            have hc1 := fun n => hcmp (f n) (kk.trans ((hfk n).mono (fun _ _ e => e.elim))) e y hoke hoky
            replace hc1 := Lib.hid hc1
            have hj'N : j' < N := by omega
            have haj' : (a : Int) < (j : Int) := by omega
            have hjN' : (j : Int) < (N : Int) := by omega
            have hj'N' : (j' : Int) < (N : Int) := by omega
            have hj0 := Int.natCast_nonneg j
            have hj'0 := Int.natCast_nonneg j'
            obtain ⟨b9, hb9⟩ : ∃ b9, b9 = ltC cf e y := ⟨_, rfl⟩
            have hd9 : decide (cf e y < 0) = b9 := hb9.symm
            replace hjj := Lib.hid hjj
            replace hj' := Lib.hid hj'
            clear hj1
            replace hb9 := Lib.hid hb9
            have hj9 : Hid (1 ≤ j) := Lib.hid (by omega)
            go_wp2_with fail
            refine wp_region_class f (by kernel_rfl) (by kernel_rfl) hf0 ?_
            repeat (go_big_quiet_step ((go_at_call 104; exact Calls.class_of hfa (hc1.out _))))
            refine wpQuiet_nil ?_
            rintro _ ⟨nn, rfl⟩
            replace kk := kk.trans ((hfk nn).mono (fun _ _ e => e.elim))
            replace h := h.keep (hfk nn) (fun e => e)
            clear qe qy hf0 hfk hc1 hce hy
            generalize f nn = wx at *
            clear hfa
            cases b9
            · have fin' := Lib.hid (fin.out (fun z hz => by
                rw [List.getLast?_append] at hz
                have : z = y := by simpa using hz.symm
                rw [this]; exact hb9.out.symm))
              go_wp2_with fail
              go_roundw
              case rel => exact ⟨i + 1, S1 ++ [e], S2, (q ++ [y]) ++ e :: p2, by go_num, by omega, Lib.hid (by have := hi.out; rw [List.length_append]; simp; omega), Lib.hid (by rw [hsp.out]; simp), fpe, fin', by simpa using h, kk⟩
              case measure => simp [intOf]; omega

            · have e1 : A ++ (q ++ [y]) ++ (e :: (p2 ++ (S2 ++ C))) = (A ++ q) ++ y :: e :: (p2 ++ (S2 ++ C)) := by simp
              rw [e1] at h
              have hPl : (A ++ q).length = j' := by have := ha'.out; have := hj'.out; rw [List.length_append]; omega
              have cx := h.cell (i := j') (x := y) (by rw [← hPl]; exact at_piece _ _ _)
              have cy := h.cell (i := j) (x := e) (by
                rw [show (A ++ q) ++ y :: e :: (p2 ++ (S2 ++ C)) = ((A ++ q) ++ [y]) ++ e :: (p2 ++ (S2 ++ C)) by simp, show j = ((A ++ q) ++ [y]).length by rw [List.length_append, hPl]; have := hjj.out; simp; omega]
                exact at_piece _ _ _)
              have hll := h.len
              have h2 := (h.set (i := j) (by omega) y).set (i := j') (by rw [List.length_set]; omega) e
              have e2 := swap_adj (A ++ q) y e (p2 ++ (S2 ++ C))
              rw [hPl, show j' + 1 = j from hjj.out.symm] at e2
              rw [e2] at h2
              obtain ⟨cur, hat⟩ := h.at_
              have fz := hat.frozen
              have fz2 := (At.set hat j (.int .i64 y)).frozen
              have k2 := Keep.setCell (p := ⟨g, j', none⟩) (Keep.setCell (p := ⟨g, j, none⟩) kk (fun _ => rfl) (.int .i64 y)) (fun _ => rfl) (.int .i64 e)
              have hne : j ≠ j' := by have := hjj.out; omega
              clear hat cur hPl e1 e2 hll h fin fpe kk
              go_wp2_with fail
              go_region
              go_wp2_with fail
              go_roundw
              case rel => exact ⟨j', q, y :: p2, by go_num, by have := hjj.out; omega, hj', Lib.hid (by rw [← hp.out]; simp), Lib.hid (fun x hx => by
                rcases List.mem_cons.1 hx with rfl | hx
                · exact hb9.out.symm
                · exact hlte.out x hx), by simpa using own_drew h2, Keep.drew k2⟩
              case measure => have := hjj.out; simp [intOf]; omega
end Go.Proofs.YtmioichjhiengaaGreat

/-
  slices.symMergeCmpFunc on a row of numbers: one element on the left, or on the right.
-/
namespace Go.Proofs.YtmioichjhiengaaGreat
open Go.RowKit

/-- What a merge of two rows that lie beside each other does. -/
def MergeDone (w : World) (base g N cap : Nat) (A U V C : List Int) (cf : Int → Int → Int) (e : Ending) (w' : World) : Prop :=
  e = .returned (.tuple #[]) ∧ ∃ S, S.Perm (U ++ V) ∧ SortedC cf S ∧ IRow w' base g N cap (A ++ S ++ C) ∧ Keep (one g) w w'
/-- Two sorted rows, the tags of the left one below those of the right one. -/
structure MergeIn (cf : Int → Int → Int) (ok : Int → Prop) (U V : List Int) : Prop where
  left : SortedC cf U
  right : SortedC cf V
  tags : ∀ x ∈ U, ∀ y ∈ V, x.toNat < y.toNat
  okl : ∀ x ∈ U, ok x
  okr : ∀ x ∈ V, ok x
theorem lL_lt {cf : Int → Int → Int} {x y : Int} (h : ltC cf x y = true) : lL (ltC cf) Int.toNat x y := .inl h
theorem lL_tag {cf : Int → Int → Int} {x y : Int} (h : ltC cf y x = false) (t : x.toNat < y.toNat) : lL (ltC cf) Int.toNat x y := .inr ⟨h, t⟩
theorem getLast_take {α : Type} {l : List α} {k : Nat} (hk : k ≤ l.length) {y : α} (h : (l.take k).getLast? = some y) : 0 < k ∧ l[k - 1]? = some y := by
  rw [List.getLast?_eq_getElem?, List.length_take, Nat.min_eq_left hk] at h
  rcases Nat.eq_zero_or_pos k with h0 | h0
  · subst h0; simp at h
  · refine ⟨h0, ?_⟩
    rw [List.getElem?_take_of_lt (by omega)] at h
    exact h
theorem head_drop {α : Type} {l : List α} {k : Nat} {y : α} (h : (l.drop k).head? = some y) : l[k]? = some y := by
  rw [List.head?_eq_getElem?, List.getElem?_drop] at h
  simpa using h
theorem swap_next (P : List Int) (x y : Int) (R : List Int) : ((P ++ x :: y :: R).set P.length y).set (P.length + 1) x = P ++ y :: x :: R := by
  rw [set_piece]
  have : P ++ y :: y :: R = (P ++ [y]) ++ y :: R := by simp
  rw [this, show P.length + 1 = (P ++ [y]).length by simp, set_piece]
  simp
theorem left_one_ok {cf : Int → Int → Int} {ok : Int → Prop} (W : Weak (ltC cf)) {e : Int} {V : List Int} (H : MergeIn cf ok [e] V) {k : Nat} (hk : k ≤ V.length)
    (h1 : ∀ y, 0 < k → V[k - 1]? = some y → ltC cf y e = true) (h2 : ∀ y, V[k]? = some y → ltC cf y e = false) : SortedC cf (V.take k ++ e :: V.drop k) := by
  have hV : SortedC cf (V.take k ++ V.drop k) := by rw [List.take_append_drop]; exact H.right
  obtain ⟨s1, s2, s12⟩ := sorted_append.1 hV
  have b2 : Before (ltC cf) Int.toNat [e] (V.drop k) := by
    cases hd : (V.drop k).head? with
    | none => rw [List.head?_eq_none_iff] at hd; rw [hd]; exact before_nil_right
    | some y =>
      have hy := head_drop hd
      exact before_of_ends W (List.pairwise_singleton _ _) s2 (by rfl) hd (lL_tag (h2 y hy) (H.tags e (by simp) y (List.mem_of_getElem? hy)))
  have b1 : Before (ltC cf) Int.toNat (V.take k) [e] := by
    cases hd : (V.take k).getLast? with
    | none => rw [List.getLast?_eq_none_iff] at hd; rw [hd]; exact before_nil_left
    | some y =>
      obtain ⟨hk0, hy⟩ := getLast_take hk hd
      exact before_of_ends W s1 (List.pairwise_singleton _ _) hd (by rfl) (lL_lt (h1 y hk0 hy))
  exact sorted_append.2 ⟨s1, List.pairwise_cons.2 ⟨fun y hy => b2 e (by simp) y hy, s2⟩, fun x hx y hy => by
    rcases List.mem_cons.1 hy with rfl | hy
    · exact b1 x hx y (by simp)
    · exact s12 x hx y hy⟩
theorem right_one_ok {cf : Int → Int → Int} {ok : Int → Prop} (W : Weak (ltC cf)) {e : Int} {U : List Int} (H : MergeIn cf ok U [e]) {k : Nat} (hk : k ≤ U.length)
    (h1 : ∀ y, 0 < k → U[k - 1]? = some y → ltC cf e y = false) (h2 : ∀ y, U[k]? = some y → ltC cf e y = true) : SortedC cf (U.take k ++ e :: U.drop k) := by
  have hU : SortedC cf (U.take k ++ U.drop k) := by rw [List.take_append_drop]; exact H.left
  obtain ⟨s1, s2, s12⟩ := sorted_append.1 hU
  have b2 : Before (ltC cf) Int.toNat [e] (U.drop k) := by
    cases hd : (U.drop k).head? with
    | none => rw [List.head?_eq_none_iff] at hd; rw [hd]; exact before_nil_right
    | some y =>
      have hy := head_drop hd
      exact before_of_ends W (List.pairwise_singleton _ _) s2 (by rfl) hd (lL_lt (h2 y hy))
  have b1 : Before (ltC cf) Int.toNat (U.take k) [e] := by
    cases hd : (U.take k).getLast? with
    | none => rw [List.getLast?_eq_none_iff] at hd; rw [hd]; exact before_nil_left
    | some y =>
      obtain ⟨hk0, hy⟩ := getLast_take hk hd
      exact before_of_ends W s1 (List.pairwise_singleton _ _) hd (by rfl) (lL_tag (h1 y hk0 hy) (H.tags y (List.mem_of_getElem? hy) e (by simp)))
  exact sorted_append.2 ⟨s1, List.pairwise_cons.2 ⟨fun y hy => b2 e (by simp) y hy, s2⟩, fun x hx y hy => by
    rcases List.mem_cons.1 hy with rfl | hy
    · exact b1 x hx y (by simp)
    · exact s12 x hx y hy⟩

set_option maxHeartbeats 4000000 in
set_option maxRecDepth 100000 in
theorem merge_left_one {w : World} {base g N cap : Nat} {A V C : List Int} {e : Int} {cb : Value} {cf : Int → Int → Int} {ok : Int → Prop} (W : Weak (ltC cf)) (h : IRow w base g N cap (A ++ [e] ++ V ++ C)) (hcmp : CmpI cb cf ok g w) (H : MergeIn cf ok [e] V)
    (a m b : Nat) (ha : a = A.length) (hm : m = a + 1) (hb : b = m + V.length) (hN : N ≤ 1000) (hV : 0 < V.length) :
    Calls Tryz.prog 150 #[.slice (some ⟨g, 0, none⟩) N cap, .int .i64 a, .int .i64 m, .int .i64 b, .func (.func 104) #[] #[cb]] w (MergeDone w base g N cap A [e] V C cf) := by
  obtain ⟨hNc, hc, hgl, hbg⟩ := h.bounds
  have hNl := h.len
  simp only [List.length_append, List.length_cons, List.length_nil] at hNl
  have e1 : (m : Int) - (a : Int) = 1 := by omega
  have hbN : b ≤ N := by omega
  have hmb : m ≤ b := by omega
  have hmN : m ≤ N := by omega
  have haN : a < N := by omega
  have haN' : (a : Int) < (N : Int) := by omega
  have ha0 := Int.natCast_nonneg a
  have hoke := H.okl e (by simp)
  have hokV := Lib.hid H.okr
  replace H := Lib.hid H
  replace ha := Lib.hid ha
  replace hm := Lib.hid hm
  replace hb := Lib.hid hb
  have hNl' : Hid (N = A.length + 1 + V.length + C.length) := Lib.hid (by omega)
  clear hNl
  go_enter Tryz.func150, Tryz.ntmps150
  go_wp2_with fail
  go_loopw [10, 11, 12] (fun iv jv _ wr => ∃ (i j : Nat), iv = .int .i64 i ∧ jv = .int .i64 j ∧ m ≤ i ∧ i ≤ j ∧ j ≤ b ∧ Hid (∀ y, m < i → V[i - m - 1]? = some y → ltC cf y e = true) ∧ Hid (∀ y, V[j - m]? = some y → ltC cf y e = false) ∧ Keep none_ w wr)
    (fun iv jv _ _ => (intOf jv).toNat - (intOf iv).toNat)
  case atStart => exact ⟨m, b, rfl, rfl, Nat.le_refl _, hmb, Nat.le_refl _, Lib.hid (fun y h => absurd h (Nat.lt_irrefl _)), Lib.hid (fun y hy => by
    have := hb.out
    rw [List.getElem?_eq_none (by omega)] at hy; cases hy), Keep.refl _ _⟩
  case round =>
    obtain ⟨i, j, rfl, rfl, hmi, hij, hjb, h1, h2, kk⟩ := hrel
    by_cases hlt : i < j
    · obtain ⟨s, hs⟩ : ∃ s, s = i + j := ⟨_, rfl⟩
      have es : (i : Int) + (j : Int) = (s : Int) := by omega
      obtain ⟨hh, hhh⟩ : ∃ hh, hh = s / 2 := ⟨_, rfl⟩
      have eh : (s : Int) / 2 = (hh : Int) := by omega
      have hs0 := Int.natCast_nonneg s
      have hs1 : (s : Int) ≤ 2000 := by omega
      have hs2 : (i : Int) + (j : Int) ≤ 9223372036854775807 := by omega
      have hsw : IntKind.i64.wrap (s : Int) = (s : Int) := by rw [IntKind.wrap_i64]; omega
      have hsu : IntKind.u64.wrap (s : Int) = (s : Int) := by rw [IntKind.wrap_u64]; omega
      have hhw : IntKind.i64.wrap (hh : Int) = (hh : Int) := by rw [IntKind.wrap_i64]; omega
      have hhu : IntKind.u64.wrap (hh : Int) = (hh : Int) := by rw [IntKind.wrap_u64]; omega
      replace hs := Lib.hid hs
      replace hhh := Lib.hid hhh
      have hih : i ≤ hh := by have := hs.out; have := hhh.out; omega
      have hhj : hh < j := by have := hs.out; have := hhh.out; omega
      have hhN : hh < N := by omega
      have hhN' : (hh : Int) < (N : Int) := by omega
      have hh0 := Int.natCast_nonneg hh
      have hkV : hh - m < V.length := by have := hb.out; omega
      obtain ⟨y, hy⟩ : ∃ y, V[hh - m]? = some y := ⟨_, List.getElem?_eq_getElem hkV⟩
      have hoky : ok y := hokV.out y (List.mem_of_getElem? hy)
      have hlst : (A ++ [e] ++ V ++ C)[hh]? = some y := by
        have h9 := ha.out
        have h10 := hm.out
        rw [List.append_assoc, List.getElem?_append_right (by simp; omega), List.getElem?_append_left (by simp; omega), ← hy]
        congr 1
        simp
        omega
      have hlsa : (A ++ [e] ++ V ++ C)[a]? = some e := by
        have h9 := ha.out
        rw [show A ++ [e] ++ V ++ C = A ++ e :: (V ++ C) by simp, h9]
        exact at_piece _ _ _
      obtain ⟨ι, hnn, f, hf0, hfk, hfa⟩ := class_of none_ wr
      have q1 : ∀ n, (f n).cell? ⟨g, hh, none⟩ = some (.int .i64 y) := fun n => (h.keep (kk.trans (hfk n)) (fun e => e)).cell hlst
      have q2 : ∀ n, (f n).cell? ⟨g, a, none⟩ = some (.int .i64 e) := fun n => (h.keep (kk.trans (hfk n)) (fun e => e)).cell hlsa
      have hc1 := Lib.hid (fun n => hcmp (f n) ((kk.trans (hfk n)).mono (fun _ _ e => e.elim)) y e hoky hoke)
      obtain ⟨b9, hb9⟩ : ∃ b9, b9 = ltC cf y e := ⟨_, rfl⟩
      have hd9 : decide (cf y e < 0) = b9 := hb9.symm
      replace hb9 := Lib.hid hb9
      replace hy := Lib.hid hy
      clear hlst hlsa hkV
      go_wp2_with fail
      refine wp_region_class f (by kernel_rfl) (by kernel_rfl) hf0 ?_
      repeat (go_big_quiet_step ((go_at_call 104; exact Calls.class_of hfa (hc1.out _))))
      refine wpQuiet_nil ?_
      rintro _ ⟨nn, rfl⟩
      replace kk := kk.trans (hfk nn)
      clear q1 q2 hf0 hfk hfa hc1
      cases b9
      · go_wp2_with fail
        go_roundw
        case rel => exact ⟨i, hh, rfl, rfl, hmi, hih, by omega, h1, Lib.hid (fun z hz => by
          rw [hy.out] at hz
          rw [← Option.some.inj hz]; exact hb9.out.symm), kk⟩
        case measure => simp [intOf]; omega
      · go_wp2_with fail
        go_roundw
        case rel => exact ⟨hh + 1, j, by go_num, rfl, by omega, by omega, hjb, Lib.hid (fun z _ hz => by
          rw [show hh + 1 - m - 1 = hh - m by omega, hy.out] at hz
          rw [← Option.some.inj hz]; exact hb9.out.symm), h2, kk⟩
        case measure => simp [intOf]; omega
    · obtain rfl : i = j := by omega
      have hso := left_one_ok W H.out (k := i - m) (by have := hb.out; omega) (fun y hy => by
        rw [show i - m - 1 = i - m - 1 from rfl]
        exact h1.out y (by omega)) (fun y hy => h2.out y hy)
      have hV1 : (V.take (i - m)).length = i - m := by rw [List.length_take]; have := hb.out; omega
      have hpe : (V.take (i - m) ++ e :: V.drop (i - m)).Perm ([e] ++ V) := by
        refine List.perm_middle.trans ?_
        rw [List.take_append_drop]; rfl
      have h3 : IRow wr base g N cap (A ++ [e] ++ (V.take (i - m) ++ V.drop (i - m)) ++ C) := by
        rw [List.take_append_drop]; exact h.keep kk (fun e => e)
      generalize V.take (i - m) = V1 at *
      generalize V.drop (i - m) = V2 at *
      replace hso := Lib.hid hso
      replace hpe := Lib.hid hpe
      replace kk := kk.mono (S' := one g) (fun _ _ e => e.elim)
      obtain ⟨i1, hi1⟩ : ∃ i1, i1 = i - 1 := ⟨_, rfl⟩
      have ei1 : (i : Int) - 1 = (i1 : Int) := by have := hm.out; omega
      have hi1l : Hid (i1 = a + V1.length) := Lib.hid (by have := hm.out; omega)
      replace hi1 := Lib.hid hi1
      replace hV1 := Lib.hid hV1
      clear h h1 h2 hlt
      go_wp2_with fail
      go_loopw [13] (fun kv wr => ∃ (k : Nat) (Q1 Q2 : List Int), kv = .int .i64 k ∧ k ≤ i1 ∧ Hid (k = a + Q1.length) ∧ Hid (V1 = Q1 ++ Q2) ∧ IRow wr base g N cap ((A ++ Q1) ++ e :: (Q2 ++ (V2 ++ C))) ∧ Keep (one g) w wr)
        (fun kv _ => i1 - (intOf kv).toNat)
      case atStart => exact ⟨a, [], V1, rfl, by have := hi1l.out; omega, Lib.hid (by simp), Lib.hid rfl, by simpa using h3, kk⟩
      case round =>
        clear h3 kk
        obtain ⟨k, Q1, Q2, rfl, hki, hk, hQ, h3, kk⟩ := hrel
        have hql := congrArg List.length hQ.out
        simp only [List.length_append] at hql
        have hk1 := hk.out
        have hi2 := hi1l.out
        cases Q2 with
        | nil =>
          have hnot : ¬ k < i1 := by simp at hql; omega
          have fin : IRow wr base g N cap (A ++ (V1 ++ e :: V2) ++ C) := by rw [hQ.out]; simpa using h3
          clear hql hk1 hi2 h3
          go_wp2_with fail
          refine bodyPost_end (v := .tuple #[]) ?_ ?_ ?_
          · exact results_none Tryz.results150 _ _ _
          · rfl
          · exact ⟨rfl, _, hpe.out, hso.out, fin, kk⟩
        | cons y Q2 =>
          simp only [List.length_cons] at hql
          have hlt : k < i1 := by omega
          obtain ⟨k1, hk1e⟩ : ∃ k1, k1 = k + 1 := ⟨_, rfl⟩
          have ek1 : (k : Int) + 1 = (k1 : Int) := by omega
          have hPl : (A ++ Q1).length = k := by rw [List.length_append]; have := ha.out; omega
          have cx := h3.cell (i := k) (x := e) (by rw [← hPl]; exact at_piece _ _ _)
          have cy := h3.cell (i := k1) (x := y) (by
            rw [show (A ++ Q1) ++ e :: (y :: Q2 ++ (V2 ++ C)) = ((A ++ Q1) ++ [e]) ++ y :: (Q2 ++ (V2 ++ C)) by simp, show k1 = ((A ++ Q1) ++ [e]).length by rw [List.length_append, hPl, hk1e]; rfl]
            exact at_piece _ _ _)
          have hll := h3.len
          have h4 := (h3.set (i := k) (by simp only [List.length_append, List.length_cons] at hll ⊢; omega) y).set (i := k1) (by rw [List.length_set]; simp only [List.length_append, List.length_cons] at hll ⊢; simp only [List.length_append] at hPl; omega) e
          have e2 := swap_next (A ++ Q1) e y (Q2 ++ (V2 ++ C))
          rw [hPl, ← hk1e] at e2
          rw [List.cons_append, e2] at h4
          obtain ⟨cur, hat⟩ := h3.at_
          have fz := hat.frozen
          have fz2 := (At.set hat k (.int .i64 y)).frozen
          have k2 := Keep.setCell (p := ⟨g, k1, none⟩) (Keep.setCell (p := ⟨g, k, none⟩) kk (fun _ => rfl) (.int .i64 y)) (fun _ => rfl) (.int .i64 e)
          have hne : k ≠ k1 := by omega
          have hkN : k < N := by simp only [List.length_append, List.length_cons] at hll hPl; omega
          have hk1N : k1 < N := by simp only [List.length_append, List.length_cons] at hll hPl; omega
          have hkN' : (k : Int) < (N : Int) := by omega
          have hk1N' : (k1 : Int) < (N : Int) := by omega
          have hk0 := Int.natCast_nonneg k
          have hk10 := Int.natCast_nonneg k1
          have hkw : IntKind.i64.wrap (k1 : Int) = (k1 : Int) := by rw [IntKind.wrap_i64]; omega
          have hkb : (k1 : Int) ≤ 9223372036854775807 := by omega
          replace hk1e := Lib.hid hk1e
          clear hat cur hPl e2 hll h3 kk hql hk1 hi2
          go_wp2_with fail
          go_region
          go_wp2_with fail
          go_roundw
          case rel => exact ⟨k1, Q1 ++ [y], Q2, by go_num, by have := hk1e.out; omega, Lib.hid (by have := hk1e.out; have := hk.out; rw [List.length_append]; simp; omega), Lib.hid (by rw [hQ.out]; simp), by simpa using own_drew h4, Keep.drew k2⟩
          case measure => have := hk1e.out; simp [intOf]; omega
end Go.Proofs.YtmioichjhiengaaGreat

/-
  slices.symMergeCmpFunc on a row of numbers: one element on the right.
-/
namespace Go.Proofs.YtmioichjhiengaaGreat
open Go.RowKit

set_option maxHeartbeats 4000000 in
set_option maxRecDepth 100000 in
theorem merge_right_one {w : World} {base g N cap : Nat} {A U C : List Int} {e : Int} {cb : Value} {cf : Int → Int → Int} {ok : Int → Prop} (W : Weak (ltC cf)) (h : IRow w base g N cap (A ++ U ++ [e] ++ C)) (hcmp : CmpI cb cf ok g w) (H : MergeIn cf ok U [e])
    (a m b : Nat) (ha : a = A.length) (hm : m = a + U.length) (hb : b = m + 1) (hN : N ≤ 1000) (hU : 1 < U.length) :
    Calls Tryz.prog 150 #[.slice (some ⟨g, 0, none⟩) N cap, .int .i64 a, .int .i64 m, .int .i64 b, .func (.func 104) #[] #[cb]] w (MergeDone w base g N cap A U [e] C cf) := by
  obtain ⟨hNc, hc, hgl, hbg⟩ := h.bounds
  have hNl := h.len
  simp only [List.length_append, List.length_cons, List.length_nil] at hNl
  have e1 : (b : Int) - (m : Int) = 1 := by omega
  obtain ⟨u, hu⟩ : ∃ u, u = U.length := ⟨_, rfl⟩
  have e0 : (m : Int) - (a : Int) = (u : Int) := by omega
  have hub : ((u : Int) == 1) = false := by simp; omega
  have hbN : b ≤ N := by omega
  have ham : a ≤ m := by omega
  have hmN : m < N := by omega
  have hmN' : (m : Int) < (N : Int) := by omega
  have hm0 := Int.natCast_nonneg m
  have hoke := H.okr e (by simp)
  have hokU := Lib.hid H.okl
  replace H := Lib.hid H
  replace ha := Lib.hid ha
  replace hm := Lib.hid hm
  replace hb := Lib.hid hb
  replace hu := Lib.hid hu
  have hNl' : Hid (N = A.length + U.length + 1 + C.length) := Lib.hid (by omega)
  clear hNl
  go_enter Tryz.func150, Tryz.ntmps150
  go_wp2_with fail
  go_loopw [14, 15, 16] (fun iv jv _ wr => ∃ (i j : Nat), iv = .int .i64 i ∧ jv = .int .i64 j ∧ a ≤ i ∧ i ≤ j ∧ j ≤ m ∧ Hid (∀ y, a < i → U[i - a - 1]? = some y → ltC cf e y = false) ∧ Hid (∀ y, U[j - a]? = some y → ltC cf e y = true) ∧ Keep none_ w wr)
    (fun iv jv _ _ => (intOf jv).toNat - (intOf iv).toNat)
  case atStart => exact ⟨a, m, rfl, rfl, Nat.le_refl _, ham, Nat.le_refl _, Lib.hid (fun y h => absurd h (Nat.lt_irrefl _)), Lib.hid (fun y hy => by
    have := hm.out
    rw [List.getElem?_eq_none (by omega)] at hy; cases hy), Keep.refl _ _⟩
  case round =>
    obtain ⟨i, j, rfl, rfl, hmi, hij, hjb, h1, h2, kk⟩ := hrel
    by_cases hlt : i < j
    · obtain ⟨s, hs⟩ : ∃ s, s = i + j := ⟨_, rfl⟩
      have es : (i : Int) + (j : Int) = (s : Int) := by omega
      obtain ⟨hh, hhh⟩ : ∃ hh, hh = s / 2 := ⟨_, rfl⟩
      have eh : (s : Int) / 2 = (hh : Int) := by omega
      have hs0 := Int.natCast_nonneg s
      have hs1 : (s : Int) ≤ 2000 := by omega
      have hs2 : (i : Int) + (j : Int) ≤ 9223372036854775807 := by omega
      have hsw : IntKind.i64.wrap (s : Int) = (s : Int) := by rw [IntKind.wrap_i64]; omega
      have hsu : IntKind.u64.wrap (s : Int) = (s : Int) := by rw [IntKind.wrap_u64]; omega
      have hhw : IntKind.i64.wrap (hh : Int) = (hh : Int) := by rw [IntKind.wrap_i64]; omega
      have hhu : IntKind.u64.wrap (hh : Int) = (hh : Int) := by rw [IntKind.wrap_u64]; omega
      replace hs := Lib.hid hs
      replace hhh := Lib.hid hhh
      have hih : i ≤ hh := by have := hs.out; have := hhh.out; omega
      have hhj : hh < j := by have := hs.out; have := hhh.out; omega
      have hhN : hh < N := by omega
      have hhN' : (hh : Int) < (N : Int) := by omega
      have hh0 := Int.natCast_nonneg hh
      have hkU : hh - a < U.length := by have := hm.out; omega
      obtain ⟨y, hy⟩ : ∃ y, U[hh - a]? = some y := ⟨_, List.getElem?_eq_getElem hkU⟩
      have hoky : ok y := hokU.out y (List.mem_of_getElem? hy)
      have hlst : (A ++ U ++ [e] ++ C)[hh]? = some y := by
        have h9 := ha.out
        rw [List.append_assoc, List.append_assoc, List.getElem?_append_right (by omega), List.getElem?_append_left (by omega), ← hy]
        congr 1
        omega
      have hlsa : (A ++ U ++ [e] ++ C)[m]? = some e := by
        have h9 := ha.out
        have h10 := hm.out
        rw [show A ++ U ++ [e] ++ C = (A ++ U) ++ e :: C by simp, show m = (A ++ U).length by rw [List.length_append]; omega]
        exact at_piece _ _ _
      obtain ⟨ι, hnn, f, hf0, hfk, hfa⟩ := class_of none_ wr
      have q1 : ∀ n, (f n).cell? ⟨g, hh, none⟩ = some (.int .i64 y) := fun n => (h.keep (kk.trans (hfk n)) (fun e => e)).cell hlst
      have q2 : ∀ n, (f n).cell? ⟨g, m, none⟩ = some (.int .i64 e) := fun n => (h.keep (kk.trans (hfk n)) (fun e => e)).cell hlsa
      have hc1 := Lib.hid (fun n => hcmp (f n) ((kk.trans (hfk n)).mono (fun _ _ e => e.elim)) e y hoke hoky)
      obtain ⟨b9, hb9⟩ : ∃ b9, b9 = ltC cf e y := ⟨_, rfl⟩
      have hd9 : decide (cf e y < 0) = b9 := hb9.symm
      replace hb9 := Lib.hid hb9
      replace hy := Lib.hid hy
      clear hlst hlsa hkU
      go_wp2_with fail
      refine wp_region_class f (by kernel_rfl) (by kernel_rfl) hf0 ?_
      repeat (go_big_quiet_step ((go_at_call 104; exact Calls.class_of hfa (hc1.out _))))
      refine wpQuiet_nil ?_
      rintro _ ⟨nn, rfl⟩
      replace kk := kk.trans (hfk nn)
      clear q1 q2 hf0 hfk hfa hc1
      cases b9
      · go_wp2_with fail
        go_roundw
        case rel => exact ⟨hh + 1, j, by go_num, rfl, by omega, by omega, hjb, Lib.hid (fun z _ hz => by
          rw [show hh + 1 - a - 1 = hh - a by omega, hy.out] at hz
          rw [← Option.some.inj hz]; exact hb9.out.symm), h2, kk⟩
        case measure => simp [intOf]; omega
      · go_wp2_with fail
        go_roundw
        case rel => exact ⟨i, hh, rfl, rfl, hmi, hih, by omega, h1, Lib.hid (fun z hz => by
          rw [hy.out] at hz
          rw [← Option.some.inj hz]; exact hb9.out.symm), kk⟩
        case measure => simp [intOf]; omega
    · obtain rfl : i = j := by omega
      have hso := right_one_ok W H.out (k := i - a) (by have := hm.out; omega) (fun y h0 hy => h1.out y (by omega) hy) (fun y hy => h2.out y hy)
      have hU1 : (U.take (i - a)).length = i - a := by rw [List.length_take]; have := hm.out; omega
      have hUU : U = U.take (i - a) ++ U.drop (i - a) := (List.take_append_drop _ _).symm
      have hpe : (U.take (i - a) ++ e :: U.drop (i - a)).Perm (U ++ [e]) := by
        refine List.perm_middle.trans ?_
        rw [List.take_append_drop]
        exact List.perm_append_comm (l₁ := [e])
      have h3 : IRow wr base g N cap (A ++ (U.take (i - a) ++ U.drop (i - a)) ++ [e] ++ C) := by
        rw [List.take_append_drop]; exact h.keep kk (fun e => e)
      have hUl : U.length = (U.take (i - a)).length + (U.drop (i - a)).length := by rw [← List.length_append, List.take_append_drop]
      generalize U.take (i - a) = U1 at *
      generalize U.drop (i - a) = U2 at *
      replace hso := Lib.hid hso
      replace hpe := Lib.hid hpe
      replace kk := kk.mono (S' := one g) (fun _ _ e => e.elim)
      replace hU1 := Lib.hid hU1
      replace hUl := Lib.hid hUl
      replace hUU := Lib.hid hUU
      clear h h1 h2 hlt
      go_wp2_with fail
      go_loopw [17] (fun kv wr => ∃ (k : Nat) (Q1 Q2 : List Int), kv = .int .i64 k ∧ i ≤ k ∧ k ≤ m ∧ Hid (k = i + Q1.length) ∧ Hid (U2 = Q1 ++ Q2) ∧ IRow wr base g N cap ((A ++ U1 ++ Q1) ++ e :: (Q2 ++ C)) ∧ Keep (one g) w wr)
        (fun kv _ => (intOf kv).toNat)
      case atStart => exact ⟨m, U2, [], rfl, by omega, Nat.le_refl _, Lib.hid (by have := hm.out; have := hU1.out; have := hUl.out; omega), Lib.hid (by simp), by simpa using h3, kk⟩
      case round =>
        clear h3 kk
        obtain ⟨k, Q1, Q2, rfl, hik, hkm, hk, hQ, h3, kk⟩ := hrel
        have hk1 := hk.out
        rcases List.eq_nil_or_concat Q1 with rfl | ⟨q, y, rfl⟩
        · have hnot : ¬ i < k := by simp at hk1; omega
          have fin : IRow wr base g N cap (A ++ (U1 ++ e :: U2) ++ C) := by rw [hQ.out]; simpa using h3
          clear hk1 h3
          go_wp2_with fail
          refine bodyPost_end (v := .tuple #[]) ?_ ?_ ?_
          · exact results_none Tryz.results150 _ _ _
          · rfl
          · exact ⟨rfl, _, hpe.out, hso.out, fin, kk⟩
        · rw [List.concat_eq_append] at h3 hk1 hQ
          obtain ⟨k1, hk1e⟩ : ∃ k1, k1 = i + q.length := ⟨_, rfl⟩
          have hkk : k = k1 + 1 := by rw [List.length_append] at hk1; simp at hk1; omega
          have hlt : i < k := by omega
          have ek1 : (k : Int) - 1 = (k1 : Int) := by omega
          have hPl : (A ++ U1 ++ q).length = k1 := by simp only [List.length_append]; have := ha.out; have := hU1.out; omega
          have e9 : (A ++ U1 ++ (q ++ [y])) ++ e :: (Q2 ++ C) = (A ++ U1 ++ q) ++ y :: e :: (Q2 ++ C) := by simp
          rw [e9] at h3
          have cx := h3.cell (i := k1) (x := y) (by rw [← hPl]; exact at_piece _ _ _)
          have cy := h3.cell (i := k) (x := e) (by
            rw [show (A ++ U1 ++ q) ++ y :: e :: (Q2 ++ C) = ((A ++ U1 ++ q) ++ [y]) ++ e :: (Q2 ++ C) by simp, show k = ((A ++ U1 ++ q) ++ [y]).length by rw [List.length_append, hPl, hkk]; rfl]
            exact at_piece _ _ _)
          have hll := h3.len
          have hkl : k < ((A ++ U1 ++ q) ++ y :: e :: (Q2 ++ C)).length := by rw [List.length_append, hPl]; simp; omega
          have h4 := (h3.set (i := k) hkl y).set (i := k1) (by rw [List.length_set]; omega) e
          have e2 := swap_adj (A ++ U1 ++ q) y e (Q2 ++ C)
          rw [hPl, ← hkk] at e2
          rw [e2] at h4
          obtain ⟨cur, hat⟩ := h3.at_
          have fz := hat.frozen
          have fz2 := (At.set hat k (.int .i64 y)).frozen
          have k2 := Keep.setCell (p := ⟨g, k1, none⟩) (Keep.setCell (p := ⟨g, k, none⟩) kk (fun _ => rfl) (.int .i64 y)) (fun _ => rfl) (.int .i64 e)
          have hne : k ≠ k1 := by omega
          have hkN : k < N := by omega
          have hk1N : k1 < N := by omega
          have hkN' : (k : Int) < (N : Int) := by omega
          have hk1N' : (k1 : Int) < (N : Int) := by omega
          have hk0 := Int.natCast_nonneg k
          have hk10 := Int.natCast_nonneg k1
          have hik' : (i : Int) < (k : Int) := by omega
          have hkw : IntKind.i64.wrap (k1 : Int) = (k1 : Int) := by rw [IntKind.wrap_i64]; omega
          replace hk1e := Lib.hid hk1e
          replace hkk := Lib.hid hkk
          clear hat cur hPl e2 e9 hll hkl h3 kk hk1
          go_wp2_with fail
          go_region
          go_wp2_with fail
          go_roundw
          case rel => exact ⟨k1, q, y :: Q2, by go_num, by have := hk1e.out; omega, by have := hkk.out; omega, hk1e, Lib.hid (by rw [hQ.out]; simp), by simpa using own_drew h4, Keep.drew k2⟩
          case measure => have := hkk.out; simp [intOf]; omega
end Go.Proofs.YtmioichjhiengaaGreat

/-
  A list in sorted chunks of one size (plain).
-/
namespace Go.Proofs.YtmioichjhiengaaGreat

section
variable {τ : Type} {lt : τ → τ → Bool} {tg : τ → Nat}
/-- The first list is the second one, chunk by chunk sorted. -/
inductive Chunks (lt : τ → τ → Bool) (tg : τ → Nat) (bs : Nat) : List τ → List τ → Prop
  | nil : Chunks lt tg bs [] []
  | last (x x0 : List τ) : x.Perm x0 → Sorted lt tg x → 0 < x.length → x.length ≤ bs → Chunks lt tg bs x x0
  | cons (x x0 y y0 : List τ) : x.length = bs → x.Perm x0 → Sorted lt tg x → Chunks lt tg bs y y0 → Chunks lt tg bs (x ++ y) (x0 ++ y0)
/-- Full chunks. -/
inductive Fulls (lt : τ → τ → Bool) (tg : τ → Nat) (bs : Nat) : List τ → List τ → Prop
  | nil : Fulls lt tg bs [] []
  | snoc (d d0 x x0 : List τ) : Fulls lt tg bs d d0 → x.length = bs → x.Perm x0 → Sorted lt tg x → Fulls lt tg bs (d ++ x) (d0 ++ x0)
variable {bs : Nat} {l l0 d d0 m m0 : List τ}
theorem Chunks.perm (h : Chunks lt tg bs l l0) : l.Perm l0 := by
  induction h with
  | nil => exact List.Perm.refl _
  | last x x0 hp => exact hp
  | cons x x0 y y0 _ hp _ _ ih => exact hp.append ih
theorem Fulls.perm (h : Fulls lt tg bs d d0) : d.Perm d0 := by
  induction h with
  | nil => exact List.Perm.refl _
  | snoc d d0 x x0 _ _ hp _ ih => exact ih.append hp
theorem Fulls.chunks (h : Fulls lt tg bs d d0) : ∀ {m m0 : List τ}, Chunks lt tg bs m m0 → Chunks lt tg bs (d ++ m) (d0 ++ m0) := by
  induction h with
  | nil => intro m m0 hm; exact hm
  | snoc d d0 x x0 _ hl hp hs ih =>
    intro m m0 hm
    rw [List.append_assoc, List.append_assoc]
    exact ih (.cons x x0 m m0 hl hp hs hm)
/-- No more than one chunk. -/
theorem Chunks.one (hb : 0 < bs) (h : Chunks lt tg bs l l0) (hl : l.length ≤ bs) : Sorted lt tg l := by
  cases h with
  | nil => exact List.Pairwise.nil
  | last x x0 _ hs => exact hs
  | cons x x0 y y0 hx hp hs hy =>
    rw [List.length_append] at hl
    have : y = [] := List.length_eq_zero_iff.1 (by omega)
    subst this
    rw [List.append_nil]; exact hs
theorem Chunks.single (hs : Sorted lt tg l) (hp : l.Perm l0) (hl : l.length ≤ bs) : Chunks lt tg bs l l0 := by
  cases l with
  | nil => rw [List.nil_perm.1 hp]; exact .nil
  | cons x l => exact .last _ _ hp hs (by simp) hl
/-- More than one chunk: a full one ahead. -/
theorem Chunks.more (h : Chunks lt tg bs l l0) (hl : bs < l.length) : ∃ x x0 y y0, l = x ++ y ∧ l0 = x0 ++ y0 ∧ x.length = bs ∧ x.Perm x0 ∧ Sorted lt tg x ∧ Chunks lt tg bs y y0 := by
  cases h with
  | nil => simp at hl
  | last x x0 _ _ _ hx => omega
  | cons x x0 y y0 hx hp hs hy => exact ⟨x, x0, y, y0, rfl, rfl, hx, hp, hs, hy⟩
/-- At least one chunk, if it is full. -/
theorem Chunks.full (hb : 0 < bs) (h : Chunks lt tg bs l l0) (hl : bs ≤ l.length) : ∃ x x0 y y0, l = x ++ y ∧ l0 = x0 ++ y0 ∧ x.length = bs ∧ x.Perm x0 ∧ Sorted lt tg x ∧ Chunks lt tg bs y y0 := by
  rcases Nat.lt_or_ge bs l.length with h1 | h1
  · exact h.more h1
  · exact ⟨l, l0, [], [], by simp, by simp, by omega, h.perm, h.one hb h1, .nil⟩
end
end Go.Proofs.YtmioichjhiengaaGreat
