/-
  slices.symMergeCmpFunc on a row of panes: one element on the left, or on the right.
-/
import Derived.Test.YtmioichjhiengaaPInsert
namespace Go.Proofs.Ytmioichjhiengaa
open Go.RowKit

/-- What a merge of two rows that lie beside each other does. -/
def MergeDoneP (w : World) (base g N cap : Nat) (A U V C : List TP) (cf : TP → TP → Int) (e : Ending) (w' : World) : Prop :=
  e = .returned (.tuple #[]) ∧ ∃ S, S.Perm (U ++ V) ∧ SortedT cf S ∧ PTRow w' base g N cap (A ++ S ++ C) ∧ Keep (one g) w w'
/-- Two sorted rows, the tags of the left one below those of the right one. -/
structure MergeInP (cf : TP → TP → Int) (ok : TP → Prop) (U V : List TP) : Prop where
  left : SortedT cf U
  right : SortedT cf V
  tags : ∀ x ∈ U, ∀ y ∈ V, tgP x < tgP y
  okl : ∀ x ∈ U, ok x
  okr : ∀ x ∈ V, ok x
theorem lL_ltP {cf : TP → TP → Int} {x y : TP} (h : ltP cf x y = true) : lL (ltP cf) tgP x y := .inl h
theorem lL_tagP {cf : TP → TP → Int} {x y : TP} (h : ltP cf y x = false) (t : tgP x < tgP y) : lL (ltP cf) tgP x y := .inr ⟨h, t⟩
theorem getLast_take_p {α : Type} {l : List α} {k : Nat} (hk : k ≤ l.length) {y : α} (h : (l.take k).getLast? = some y) : 0 < k ∧ l[k - 1]? = some y := by
  rw [List.getLast?_eq_getElem?, List.length_take, Nat.min_eq_left hk] at h
  rcases Nat.eq_zero_or_pos k with h0 | h0
  · subst h0; simp at h
  · refine ⟨h0, ?_⟩
    rw [List.getElem?_take_of_lt (by omega)] at h
    exact h
theorem head_drop_p {α : Type} {l : List α} {k : Nat} {y : α} (h : (l.drop k).head? = some y) : l[k]? = some y := by
  rw [List.head?_eq_getElem?, List.getElem?_drop] at h
  simpa using h
theorem swap_next_p (P : List TP) (x y : TP) (R : List TP) : ((P ++ x :: y :: R).set P.length y).set (P.length + 1) x = P ++ y :: x :: R := by
  rw [set_piece]
  have : P ++ y :: y :: R = (P ++ [y]) ++ y :: R := by simp
  rw [this, show P.length + 1 = (P ++ [y]).length by simp, set_piece]
  simp
theorem left_one_ok_p {cf : TP → TP → Int} {ok : TP → Prop} (W : Weak (ltP cf)) {e : TP} {V : List TP} (H : MergeInP cf ok [e] V) {k : Nat} (hk : k ≤ V.length)
    (h1 : ∀ y, 0 < k → V[k - 1]? = some y → ltP cf y e = true) (h2 : ∀ y, V[k]? = some y → ltP cf y e = false) : SortedT cf (V.take k ++ e :: V.drop k) := by
  have hV : SortedT cf (V.take k ++ V.drop k) := by rw [List.take_append_drop]; exact H.right
  obtain ⟨s1, s2, s12⟩ := sorted_append.1 hV
  have b2 : Before (ltP cf) tgP [e] (V.drop k) := by
    cases hd : (V.drop k).head? with
    | none => rw [List.head?_eq_none_iff] at hd; rw [hd]; exact before_nil_right
    | some y =>
      have hy := head_drop_p hd
      exact before_of_ends W (List.pairwise_singleton _ _) s2 (by rfl) hd (lL_tagP (h2 y hy) (H.tags e (by simp) y (List.mem_of_getElem? hy)))
  have b1 : Before (ltP cf) tgP (V.take k) [e] := by
    cases hd : (V.take k).getLast? with
    | none => rw [List.getLast?_eq_none_iff] at hd; rw [hd]; exact before_nil_left
    | some y =>
      obtain ⟨hk0, hy⟩ := getLast_take_p hk hd
      exact before_of_ends W s1 (List.pairwise_singleton _ _) hd (by rfl) (lL_ltP (h1 y hk0 hy))
  exact sorted_append.2 ⟨s1, List.pairwise_cons.2 ⟨fun y hy => b2 e (by simp) y hy, s2⟩, fun x hx y hy => by
    rcases List.mem_cons.1 hy with rfl | hy
    · exact b1 x hx y (by simp)
    · exact s12 x hx y hy⟩
theorem right_one_ok_p {cf : TP → TP → Int} {ok : TP → Prop} (W : Weak (ltP cf)) {e : TP} {U : List TP} (H : MergeInP cf ok U [e]) {k : Nat} (hk : k ≤ U.length)
    (h1 : ∀ y, 0 < k → U[k - 1]? = some y → ltP cf e y = false) (h2 : ∀ y, U[k]? = some y → ltP cf e y = true) : SortedT cf (U.take k ++ e :: U.drop k) := by
  have hU : SortedT cf (U.take k ++ U.drop k) := by rw [List.take_append_drop]; exact H.left
  obtain ⟨s1, s2, s12⟩ := sorted_append.1 hU
  have b2 : Before (ltP cf) tgP [e] (U.drop k) := by
    cases hd : (U.drop k).head? with
    | none => rw [List.head?_eq_none_iff] at hd; rw [hd]; exact before_nil_right
    | some y =>
      have hy := head_drop_p hd
      exact before_of_ends W (List.pairwise_singleton _ _) s2 (by rfl) hd (lL_ltP (h2 y hy))
  have b1 : Before (ltP cf) tgP (U.take k) [e] := by
    cases hd : (U.take k).getLast? with
    | none => rw [List.getLast?_eq_none_iff] at hd; rw [hd]; exact before_nil_left
    | some y =>
      obtain ⟨hk0, hy⟩ := getLast_take_p hk hd
      exact before_of_ends W s1 (List.pairwise_singleton _ _) hd (by rfl) (lL_tagP (h1 y hk0 hy) (H.tags y (List.mem_of_getElem? hy) e (by simp)))
  exact sorted_append.2 ⟨s1, List.pairwise_cons.2 ⟨fun y hy => b2 e (by simp) y hy, s2⟩, fun x hx y hy => by
    rcases List.mem_cons.1 hy with rfl | hy
    · exact b1 x hx y (by simp)
    · exact s12 x hx y hy⟩

set_option maxHeartbeats 4000000 in
set_option maxRecDepth 100000 in
theorem merge_left_one_p {w : World} {base g N cap : Nat} {A V C : List TP} {e : TP} {cf : TP → TP → Int} {ok : TP → Prop} (W : Weak (ltP cf)) (h : PTRow w base g N cap (A ++ [e] ++ V ++ C)) (hcmp : CmpP cf ok g w) (H : MergeInP cf ok [e] V)
    (a m b : Nat) (ha : a = A.length) (hm : m = a + 1) (hb : b = m + V.length) (hN : N ≤ 1000) (hV : 0 < V.length) :
    Calls Try.prog 104 #[.slice (some ⟨g, 0, none⟩) N cap, .int .i64 a, .int .i64 m, .int .i64 b, .func (.func 49) #[] #[]] w (MergeDoneP w base g N cap A [e] V C cf) := by
  obtain ⟨hNc, hc, hgl, hbg⟩ := h.bounds
  have hNl := h.len
  simp only [List.length_append, List.length_cons, List.length_nil] at hNl
  have e1 : (m : Int) - (a : Int) = 1 := by omega
  have hbN : b ≤ N := by omega
  have hmb : m ≤ b := by omega
  have hmN : m ≤ N := by omega
  have haN : a < N := by omega
  have haN' : (a : Int) < (N : Int) := by omega
  have ha0 := Int.natCast_nonneg a
  have hoke := H.okl e (by simp)
  have hokV := Lib.hid H.okr
  replace H := Lib.hid H
  replace ha := Lib.hid ha
  replace hm := Lib.hid hm
  replace hb := Lib.hid hb
  have hNl' : Hid (N = A.length + 1 + V.length + C.length) := Lib.hid (by omega)
  clear hNl
  go_enter Try.func104, Try.ntmps104
  go_wp2_with fail
  go_loopw [10, 11, 12] (fun iv jv _ wr => ∃ (i j : Nat), iv = .int .i64 i ∧ jv = .int .i64 j ∧ m ≤ i ∧ i ≤ j ∧ j ≤ b ∧ Hid (∀ y, m < i → V[i - m - 1]? = some y → ltP cf y e = true) ∧ Hid (∀ y, V[j - m]? = some y → ltP cf y e = false) ∧ Keep none_ w wr)
    (fun iv jv _ _ => (intOf jv).toNat - (intOf iv).toNat)
  case atStart => exact ⟨m, b, rfl, rfl, Nat.le_refl _, hmb, Nat.le_refl _, Lib.hid (fun y h => absurd h (Nat.lt_irrefl _)), Lib.hid (fun y hy => by
    have := hb.out
    rw [List.getElem?_eq_none (by omega)] at hy; cases hy), Keep.refl _ _⟩
  case round =>
    obtain ⟨i, j, rfl, rfl, hmi, hij, hjb, h1, h2, kk⟩ := hrel
    by_cases hlt : i < j
    · obtain ⟨s, hs⟩ : ∃ s, s = i + j := ⟨_, rfl⟩
      have es : (i : Int) + (j : Int) = (s : Int) := by omega
      obtain ⟨hh, hhh⟩ : ∃ hh, hh = s / 2 := ⟨_, rfl⟩
      have eh : (s : Int) / 2 = (hh : Int) := by omega
      have hs0 := Int.natCast_nonneg s
      have hs1 : (s : Int) ≤ 2000 := by omega
      have hs2 : (i : Int) + (j : Int) ≤ 9223372036854775807 := by omega
      have hsw : IntKind.i64.wrap (s : Int) = (s : Int) := by rw [IntKind.wrap_i64]; omega
      have hsu : IntKind.u64.wrap (s : Int) = (s : Int) := by rw [IntKind.wrap_u64]; omega
      have hhw : IntKind.i64.wrap (hh : Int) = (hh : Int) := by rw [IntKind.wrap_i64]; omega
      have hhu : IntKind.u64.wrap (hh : Int) = (hh : Int) := by rw [IntKind.wrap_u64]; omega
      replace hs := Lib.hid hs
      replace hhh := Lib.hid hhh
      have hih : i ≤ hh := by have := hs.out; have := hhh.out; omega
      have hhj : hh < j := by have := hs.out; have := hhh.out; omega
      have hhN : hh < N := by omega
      have hhN' : (hh : Int) < (N : Int) := by omega
      have hh0 := Int.natCast_nonneg hh
      have hkV : hh - m < V.length := by have := hb.out; omega
      obtain ⟨y, hy⟩ : ∃ y, V[hh - m]? = some y := ⟨_, List.getElem?_eq_getElem hkV⟩
      have hoky : ok y := hokV.out y (List.mem_of_getElem? hy)
      have hlst : (A ++ [e] ++ V ++ C)[hh]? = some y := by
        have h9 := ha.out
        have h10 := hm.out
        rw [List.append_assoc, List.getElem?_append_right (by simp; omega), List.getElem?_append_left (by simp; omega), ← hy]
        congr 1
        simp
        omega
      have hlsa : (A ++ [e] ++ V ++ C)[a]? = some e := by
        have h9 := ha.out
        rw [show A ++ [e] ++ V ++ C = A ++ e :: (V ++ C) by simp, h9]
        exact at_piece _ _ _
      obtain ⟨ι, hnn, f, hf0, hfk, hfa⟩ := class_of none_ wr
      have q1 := fun n => (h.keep (kk.trans (hfk n)) (fun e => e)).cell hlst
      have q10 := fun n => (q1 n).c0
      have q11 := fun n => (q1 n).c1
      have q12 := fun n => (q1 n).c2
      have q13 := fun n => (q1 n).c3
      have q14 := fun n => (q1 n).c4
      have q15 := fun n => (q1 n).c5
      have q16 := fun n => (q1 n).c6
      have q2 := fun n => (h.keep (kk.trans (hfk n)) (fun e => e)).cell hlsa
      have q20 := fun n => (q2 n).c0
      have q21 := fun n => (q2 n).c1
      have q22 := fun n => (q2 n).c2
      have q23 := fun n => (q2 n).c3
      have q24 := fun n => (q2 n).c4
      have q25 := fun n => (q2 n).c5
      have q26 := fun n => (q2 n).c6
      have hc1 := Lib.hid (fun n => hcmp (f n) ((kk.trans (hfk n)).mono (fun _ _ e => e.elim)) y e hoky hoke)
      obtain ⟨b9, hb9⟩ : ∃ b9, b9 = ltP cf y e := ⟨_, rfl⟩
      have hd9 : decide (cf y e < 0) = b9 := hb9.symm
      replace hb9 := Lib.hid hb9
      replace hy := Lib.hid hy
      clear hlst hlsa hkV
      go_wp2_with fail
      refine wp_region_class f (by kernel_rfl) (by kernel_rfl) hf0 ?_
      repeat (go_big_quiet_step ((go_at_call 49; exact Calls.class_of hfa (hc1.out _))))
      refine wpQuiet_nil ?_
      rintro _ ⟨nn, rfl⟩
      replace kk := kk.trans (hfk nn)
      clear q1 q10 q11 q12 q13 q14 q15 q16 q2 q20 q21 q22 q23 q24 q25 q26 hf0 hfk hfa hc1
      cases b9
      · go_wp2_with fail
        go_roundw
        case rel => exact ⟨i, hh, rfl, rfl, hmi, hih, by omega, h1, Lib.hid (fun z hz => by
          rw [hy.out] at hz
          rw [← Option.some.inj hz]; exact hb9.out.symm), kk⟩
        case measure => simp [intOf]; omega
      · go_wp2_with fail
        go_roundw
        case rel => exact ⟨hh + 1, j, by go_num, rfl, by omega, by omega, hjb, Lib.hid (fun z _ hz => by
          rw [show hh + 1 - m - 1 = hh - m by omega, hy.out] at hz
          rw [← Option.some.inj hz]; exact hb9.out.symm), h2, kk⟩
        case measure => simp [intOf]; omega
    · obtain rfl : i = j := by omega
      have hso := left_one_ok_p W H.out (k := i - m) (by have := hb.out; omega) (fun y hy => by
        rw [show i - m - 1 = i - m - 1 from rfl]
        exact h1.out y (by omega)) (fun y hy => h2.out y hy)
      have hV1 : (V.take (i - m)).length = i - m := by rw [List.length_take]; have := hb.out; omega
      have hpe : (V.take (i - m) ++ e :: V.drop (i - m)).Perm ([e] ++ V) := by
        refine List.perm_middle.trans ?_
        rw [List.take_append_drop]; rfl
      have h3 : PTRow wr base g N cap (A ++ [e] ++ (V.take (i - m) ++ V.drop (i - m)) ++ C) := by
        rw [List.take_append_drop]; exact h.keep kk (fun e => e)
      generalize V.take (i - m) = V1 at *
      generalize V.drop (i - m) = V2 at *
      replace hso := Lib.hid hso
      replace hpe := Lib.hid hpe
      replace kk := kk.mono (S' := one g) (fun _ _ e => e.elim)
      obtain ⟨i1, hi1⟩ : ∃ i1, i1 = i - 1 := ⟨_, rfl⟩
      have ei1 : (i : Int) - 1 = (i1 : Int) := by have := hm.out; omega
      have hi1l : Hid (i1 = a + V1.length) := Lib.hid (by have := hm.out; omega)
      replace hi1 := Lib.hid hi1
      replace hV1 := Lib.hid hV1
      clear h h1 h2 hlt
      go_wp2_with fail
      go_loopw [13] (fun kv wr => ∃ (k : Nat) (Q1 Q2 : List TP), kv = .int .i64 k ∧ k ≤ i1 ∧ Hid (k = a + Q1.length) ∧ Hid (V1 = Q1 ++ Q2) ∧ PTRow wr base g N cap ((A ++ Q1) ++ e :: (Q2 ++ (V2 ++ C))) ∧ Keep (one g) w wr)
        (fun kv _ => i1 - (intOf kv).toNat)
      case atStart => exact ⟨a, [], V1, rfl, by have := hi1l.out; omega, Lib.hid (by simp), Lib.hid rfl, by simpa using h3, kk⟩
      case round =>
        clear h3 kk
        obtain ⟨k, Q1, Q2, rfl, hki, hk, hQ, h3, kk⟩ := hrel
        have hql := congrArg List.length hQ.out
        simp only [List.length_append] at hql
        have hk1 := hk.out
        have hi2 := hi1l.out
        cases Q2 with
        | nil =>
          have hnot : ¬ k < i1 := by simp at hql; omega
          have fin : PTRow wr base g N cap (A ++ (V1 ++ e :: V2) ++ C) := by rw [hQ.out]; simpa using h3
          clear hql hk1 hi2 h3
          go_wp2_with fail
          refine bodyPost_end (v := .tuple #[]) ?_ ?_ ?_
          · exact results_none Try.results104 _ _ _
          · rfl
          · exact ⟨rfl, _, hpe.out, hso.out, fin, kk⟩
        | cons y Q2 =>
          simp only [List.length_cons] at hql
          have hlt : k < i1 := by omega
          obtain ⟨k1, hk1e⟩ : ∃ k1, k1 = k + 1 := ⟨_, rfl⟩
          have ek1 : (k : Int) + 1 = (k1 : Int) := by omega
          have hPl : (A ++ Q1).length = k := by rw [List.length_append]; have := ha.out; omega
          have hge : ((A ++ Q1) ++ e :: (y :: Q2 ++ (V2 ++ C)))[k]? = some e := by rw [← hPl]; exact at_piece _ _ _
          have hgy : ((A ++ Q1) ++ e :: (y :: Q2 ++ (V2 ++ C)))[k1]? = some y := by
            rw [show (A ++ Q1) ++ e :: (y :: Q2 ++ (V2 ++ C)) = ((A ++ Q1) ++ [e]) ++ y :: (Q2 ++ (V2 ++ C)) by simp, show k1 = ((A ++ Q1) ++ [e]).length by rw [List.length_append, hPl, hk1e]; rfl]
            exact at_piece _ _ _
          have hll := h3.len
          obtain ⟨cx, cy, fz, fz2, ck, h2, hk2⟩ := swap_facts h3 hge hgy (by omega)
          have e2 := swap_next_p (A ++ Q1) e y (Q2 ++ (V2 ++ C))
          rw [hPl, ← hk1e] at e2
          rw [List.cons_append, e2] at h2
          have k2 := hk2 _ kk
          have cx0 := cx.c0
          have cx1 := cx.c1
          have cx2 := cx.c2
          have cx3 := cx.c3
          have cx4 := cx.c4
          have cx5 := cx.c5
          have cx6 := cx.c6
          have cy0 := cy.c0
          have cy1 := cy.c1
          have cy2 := cy.c2
          have cy3 := cy.c3
          have cy4 := cy.c4
          have cy5 := cy.c5
          have cy6 := cy.c6
          have ck0 := ck.c0
          have ck1 := ck.c1
          have ck2 := ck.c2
          have ck3 := ck.c3
          have ck4 := ck.c4
          have ck5 := ck.c5
          have ck6 := ck.c6
          simp only [Pane.cells, stores, Nat.add_assoc, Nat.reduceAdd] at fz2 h2 k2
          simp only [Pane.cells, stores, Nat.add_assoc, Nat.reduceAdd] at ck0 ck1 ck2 ck3 ck4 ck5 ck6
          have h4 := h2
          clear h2
          have hne : k ≠ k1 := by omega
          have hkN : k < N := by simp only [List.length_append, List.length_cons] at hll hPl; omega
          have hk1N : k1 < N := by simp only [List.length_append, List.length_cons] at hll hPl; omega
          have hkN' : (k : Int) < (N : Int) := by omega
          have hk1N' : (k1 : Int) < (N : Int) := by omega
          have hk0 := Int.natCast_nonneg k
          have hk10 := Int.natCast_nonneg k1
          have hkw : IntKind.i64.wrap (k1 : Int) = (k1 : Int) := by rw [IntKind.wrap_i64]; omega
          have hkb : (k1 : Int) ≤ 9223372036854775807 := by omega
          replace hk1e := Lib.hid hk1e
          clear hge hgy cx cy ck hk2 hPl e2 hll h3 kk hql hk1 hi2
          go_wp2_with fail
          go_region
          go_wp2_with fail
          go_roundw
          case rel => exact ⟨k1, Q1 ++ [y], Q2, by go_num, by have := hk1e.out; omega, Lib.hid (by have := hk1e.out; have := hk.out; rw [List.length_append]; simp; omega), Lib.hid (by rw [hQ.out]; simp), by simpa using own_drew h4, Keep.drew k2⟩
          case measure => have := hk1e.out; simp [intOf]; omega
end Go.Proofs.Ytmioichjhiengaa
