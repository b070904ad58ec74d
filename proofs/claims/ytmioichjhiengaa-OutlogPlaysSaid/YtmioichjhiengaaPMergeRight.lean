/-
  slices.symMergeCmpFunc on a row of panes: one element on the right.
-/
import Derived.Test.YtmioichjhiengaaPMergeOne
namespace Go.Proofs.Ytmioichjhiengaa
open Go.RowKit

set_option maxHeartbeats 4000000 in
set_option maxRecDepth 100000 in
theorem merge_right_one_p {w : World} {base g N cap : Nat} {A U C : List TP} {e : TP} {cf : TP → TP → Int} {ok : TP → Prop} (W : Weak (ltP cf)) (h : PTRow w base g N cap (A ++ U ++ [e] ++ C)) (hcmp : CmpP cf ok g w) (H : MergeInP cf ok U [e])
    (a m b : Nat) (ha : a = A.length) (hm : m = a + U.length) (hb : b = m + 1) (hN : N ≤ 1000) (hU : 1 < U.length) :
    Calls Try.prog 104 #[.slice (some ⟨g, 0, none⟩) N cap, .int .i64 a, .int .i64 m, .int .i64 b, .func (.func 49) #[] #[]] w (MergeDoneP w base g N cap A U [e] C cf) := by
  obtain ⟨hNc, hc, hgl, hbg⟩ := h.bounds
  have hNl := h.len
  simp only [List.length_append, List.length_cons, List.length_nil] at hNl
  have e1 : (b : Int) - (m : Int) = 1 := by omega
  obtain ⟨u, hu⟩ : ∃ u, u = U.length := ⟨_, rfl⟩
  have e0 : (m : Int) - (a : Int) = (u : Int) := by omega
  have hub : ((u : Int) == 1) = false := by simp; omega
  have hbN : b ≤ N := by omega
  have ham : a ≤ m := by omega
  have hmN : m < N := by omega
  have hmN' : (m : Int) < (N : Int) := by omega
  have hm0 := Int.natCast_nonneg m
  have hoke := H.okr e (by simp)
  have hokU := Lib.hid H.okl
  replace H := Lib.hid H
  replace ha := Lib.hid ha
  replace hm := Lib.hid hm
  replace hb := Lib.hid hb
  replace hu := Lib.hid hu
  have hNl' : Hid (N = A.length + U.length + 1 + C.length) := Lib.hid (by omega)
  clear hNl
  go_enter Try.func104, Try.ntmps104
  go_wp2_with fail
  go_loopw [14, 15, 16] (fun iv jv _ wr => ∃ (i j : Nat), iv = .int .i64 i ∧ jv = .int .i64 j ∧ a ≤ i ∧ i ≤ j ∧ j ≤ m ∧ Hid (∀ y, a < i → U[i - a - 1]? = some y → ltP cf e y = false) ∧ Hid (∀ y, U[j - a]? = some y → ltP cf e y = true) ∧ Keep none_ w wr)
    (fun iv jv _ _ => (intOf jv).toNat - (intOf iv).toNat)
  case atStart => exact ⟨a, m, rfl, rfl, Nat.le_refl _, ham, Nat.le_refl _, Lib.hid (fun y h => absurd h (Nat.lt_irrefl _)), Lib.hid (fun y hy => by
    have := hm.out
    rw [List.getElem?_eq_none (by omega)] at hy; cases hy), Keep.refl _ _⟩
  case round =>
    obtain ⟨i, j, rfl, rfl, hmi, hij, hjb, h1, h2, kk⟩ := hrel
    by_cases hlt : i < j
    · obtain ⟨s, hs⟩ : ∃ s, s = i + j := ⟨_, rfl⟩
      have es : (i : Int) + (j : Int) = (s : Int) := by omega
      obtain ⟨hh, hhh⟩ : ∃ hh, hh = s / 2 := ⟨_, rfl⟩
      have eh : (s : Int) / 2 = (hh : Int) := by omega
      have hs0 := Int.natCast_nonneg s
      have hs1 : (s : Int) ≤ 2000 := by omega
      have hs2 : (i : Int) + (j : Int) ≤ 9223372036854775807 := by omega
      have hsw : IntKind.i64.wrap (s : Int) = (s : Int) := by rw [IntKind.wrap_i64]; omega
      have hsu : IntKind.u64.wrap (s : Int) = (s : Int) := by rw [IntKind.wrap_u64]; omega
      have hhw : IntKind.i64.wrap (hh : Int) = (hh : Int) := by rw [IntKind.wrap_i64]; omega
      have hhu : IntKind.u64.wrap (hh : Int) = (hh : Int) := by rw [IntKind.wrap_u64]; omega
      replace hs := Lib.hid hs
      replace hhh := Lib.hid hhh
      have hih : i ≤ hh := by have := hs.out; have := hhh.out; omega
      have hhj : hh < j := by have := hs.out; have := hhh.out; omega
      have hhN : hh < N := by omega
      have hhN' : (hh : Int) < (N : Int) := by omega
      have hh0 := Int.natCast_nonneg hh
      have hkU : hh - a < U.length := by have := hm.out; omega
      obtain ⟨y, hy⟩ : ∃ y, U[hh - a]? = some y := ⟨_, List.getElem?_eq_getElem hkU⟩
      have hoky : ok y := hokU.out y (List.mem_of_getElem? hy)
      have hlst : (A ++ U ++ [e] ++ C)[hh]? = some y := by
        have h9 := ha.out
        rw [List.append_assoc, List.append_assoc, List.getElem?_append_right (by omega), List.getElem?_append_left (by omega), ← hy]
        congr 1
        omega
      have hlsa : (A ++ U ++ [e] ++ C)[m]? = some e := by
        have h9 := ha.out
        have h10 := hm.out
        rw [show A ++ U ++ [e] ++ C = (A ++ U) ++ e :: C by simp, show m = (A ++ U).length by rw [List.length_append]; omega]
        exact at_piece _ _ _
      obtain ⟨ι, hnn, f, hf0, hfk, hfa⟩ := class_of none_ wr
      have q1 := fun n => (h.keep (kk.trans (hfk n)) (fun e => e)).cell hlst
      have q10 := fun n => (q1 n).c0
      have q11 := fun n => (q1 n).c1
      have q12 := fun n => (q1 n).c2
      have q13 := fun n => (q1 n).c3
      have q14 := fun n => (q1 n).c4
      have q15 := fun n => (q1 n).c5
      have q16 := fun n => (q1 n).c6
      have q2 := fun n => (h.keep (kk.trans (hfk n)) (fun e => e)).cell hlsa
      have q20 := fun n => (q2 n).c0
      have q21 := fun n => (q2 n).c1
      have q22 := fun n => (q2 n).c2
      have q23 := fun n => (q2 n).c3
      have q24 := fun n => (q2 n).c4
      have q25 := fun n => (q2 n).c5
      have q26 := fun n => (q2 n).c6
      have hc1 := Lib.hid (fun n => hcmp (f n) ((kk.trans (hfk n)).mono (fun _ _ e => e.elim)) e y hoke hoky)
      obtain ⟨b9, hb9⟩ : ∃ b9, b9 = ltP cf e y := ⟨_, rfl⟩
      have hd9 : decide (cf e y < 0) = b9 := hb9.symm
      replace hb9 := Lib.hid hb9
      replace hy := Lib.hid hy
      clear hlst hlsa hkU
      go_wp2_with fail
      refine wp_region_class f (by kernel_rfl) (by kernel_rfl) hf0 ?_
      repeat (go_big_quiet_step ((go_at_call 49; exact Calls.class_of hfa (hc1.out _))))
      refine wpQuiet_nil ?_
      rintro _ ⟨nn, rfl⟩
      replace kk := kk.trans (hfk nn)
      clear q1 q10 q11 q12 q13 q14 q15 q16 q2 q20 q21 q22 q23 q24 q25 q26 hf0 hfk hfa hc1
      cases b9
      · go_wp2_with fail
        go_roundw
        case rel => exact ⟨hh + 1, j, by go_num, rfl, by omega, by omega, hjb, Lib.hid (fun z _ hz => by
          rw [show hh + 1 - a - 1 = hh - a by omega, hy.out] at hz
          rw [← Option.some.inj hz]; exact hb9.out.symm), h2, kk⟩
        case measure => simp [intOf]; omega
      · go_wp2_with fail
        go_roundw
        case rel => exact ⟨i, hh, rfl, rfl, hmi, hih, by omega, h1, Lib.hid (fun z hz => by
          rw [hy.out] at hz
          rw [← Option.some.inj hz]; exact hb9.out.symm), kk⟩
        case measure => simp [intOf]; omega
    · obtain rfl : i = j := by omega
      have hso := right_one_ok_p W H.out (k := i - a) (by have := hm.out; omega) (fun y h0 hy => h1.out y (by omega) hy) (fun y hy => h2.out y hy)
      have hU1 : (U.take (i - a)).length = i - a := by rw [List.length_take]; have := hm.out; omega
      have hUU : U = U.take (i - a) ++ U.drop (i - a) := (List.take_append_drop _ _).symm
      have hpe : (U.take (i - a) ++ e :: U.drop (i - a)).Perm (U ++ [e]) := by
        refine List.perm_middle.trans ?_
        rw [List.take_append_drop]
        exact List.perm_append_comm (l₁ := [e])
      have h3 : PTRow wr base g N cap (A ++ (U.take (i - a) ++ U.drop (i - a)) ++ [e] ++ C) := by
        rw [List.take_append_drop]; exact h.keep kk (fun e => e)
      have hUl : U.length = (U.take (i - a)).length + (U.drop (i - a)).length := by rw [← List.length_append, List.take_append_drop]
      generalize U.take (i - a) = U1 at *
      generalize U.drop (i - a) = U2 at *
      replace hso := Lib.hid hso
      replace hpe := Lib.hid hpe
      replace kk := kk.mono (S' := one g) (fun _ _ e => e.elim)
      replace hU1 := Lib.hid hU1
      replace hUl := Lib.hid hUl
      replace hUU := Lib.hid hUU
      clear h h1 h2 hlt
      go_wp2_with fail
      go_loopw [17] (fun kv wr => ∃ (k : Nat) (Q1 Q2 : List TP), kv = .int .i64 k ∧ i ≤ k ∧ k ≤ m ∧ Hid (k = i + Q1.length) ∧ Hid (U2 = Q1 ++ Q2) ∧ PTRow wr base g N cap ((A ++ U1 ++ Q1) ++ e :: (Q2 ++ C)) ∧ Keep (one g) w wr)
        (fun kv _ => (intOf kv).toNat)
      case atStart => exact ⟨m, U2, [], rfl, by omega, Nat.le_refl _, Lib.hid (by have := hm.out; have := hU1.out; have := hUl.out; omega), Lib.hid (by simp), by simpa using h3, kk⟩
      case round =>
        clear h3 kk
        obtain ⟨k, Q1, Q2, rfl, hik, hkm, hk, hQ, h3, kk⟩ := hrel
        have hk1 := hk.out
        rcases List.eq_nil_or_concat Q1 with rfl | ⟨q, y, rfl⟩
        · have hnot : ¬ i < k := by simp at hk1; omega
          have fin : PTRow wr base g N cap (A ++ (U1 ++ e :: U2) ++ C) := by rw [hQ.out]; simpa using h3
          clear hk1 h3
          go_wp2_with fail
          refine bodyPost_end (v := .tuple #[]) ?_ ?_ ?_
          · exact results_none Try.results104 _ _ _
          · rfl
          · exact ⟨rfl, _, hpe.out, hso.out, fin, kk⟩
        · rw [List.concat_eq_append] at h3 hk1 hQ
          obtain ⟨k1, hk1e⟩ : ∃ k1, k1 = i + q.length := ⟨_, rfl⟩
          have hkk : k = k1 + 1 := by rw [List.length_append] at hk1; simp at hk1; omega
          have hlt : i < k := by omega
          have ek1 : (k : Int) - 1 = (k1 : Int) := by omega
          have hPl : (A ++ U1 ++ q).length = k1 := by simp only [List.length_append]; have := ha.out; have := hU1.out; omega
          have e9 : (A ++ U1 ++ (q ++ [y])) ++ e :: (Q2 ++ C) = (A ++ U1 ++ q) ++ y :: e :: (Q2 ++ C) := by simp
          rw [e9] at h3
          have hgy : ((A ++ U1 ++ q) ++ y :: e :: (Q2 ++ C))[k1]? = some y := by rw [← hPl]; exact at_piece _ _ _
          have hge : ((A ++ U1 ++ q) ++ y :: e :: (Q2 ++ C))[k]? = some e := by
            rw [show (A ++ U1 ++ q) ++ y :: e :: (Q2 ++ C) = ((A ++ U1 ++ q) ++ [y]) ++ e :: (Q2 ++ C) by simp, show k = ((A ++ U1 ++ q) ++ [y]).length by rw [List.length_append, hPl, hkk]; rfl]
            exact at_piece _ _ _
          have hll := h3.len
          have hkl : k < ((A ++ U1 ++ q) ++ y :: e :: (Q2 ++ C)).length := by rw [List.length_append, hPl]; simp; omega
          obtain ⟨cx, cy, fz, fz2, ck, h2, hk2⟩ := swap_facts h3 hge hgy (by omega)
          have e2 := swap_adj_p (A ++ U1 ++ q) y e (Q2 ++ C)
          rw [hPl, ← hkk] at e2
          rw [e2] at h2
          have k2 := hk2 _ kk
          have cx0 := cx.c0
          have cx1 := cx.c1
          have cx2 := cx.c2
          have cx3 := cx.c3
          have cx4 := cx.c4
          have cx5 := cx.c5
          have cx6 := cx.c6
          have cy0 := cy.c0
          have cy1 := cy.c1
          have cy2 := cy.c2
          have cy3 := cy.c3
          have cy4 := cy.c4
          have cy5 := cy.c5
          have cy6 := cy.c6
          have ck0 := ck.c0
          have ck1 := ck.c1
          have ck2 := ck.c2
          have ck3 := ck.c3
          have ck4 := ck.c4
          have ck5 := ck.c5
          have ck6 := ck.c6
          simp only [Pane.cells, stores, Nat.add_assoc, Nat.reduceAdd] at fz2 h2 k2
          simp only [Pane.cells, stores, Nat.add_assoc, Nat.reduceAdd] at ck0 ck1 ck2 ck3 ck4 ck5 ck6
          have h4 := h2
          clear h2
          have hne : k ≠ k1 := by omega
          have hkN : k < N := by omega
          have hk1N : k1 < N := by omega
          have hkN' : (k : Int) < (N : Int) := by omega
          have hk1N' : (k1 : Int) < (N : Int) := by omega
          have hk0 := Int.natCast_nonneg k
          have hk10 := Int.natCast_nonneg k1
          have hik' : (i : Int) < (k : Int) := by omega
          have hkw : IntKind.i64.wrap (k1 : Int) = (k1 : Int) := by rw [IntKind.wrap_i64]; omega
          replace hk1e := Lib.hid hk1e
          replace hkk := Lib.hid hkk
          clear hgy hge cx cy ck hk2 hPl e2 e9 hll hkl h3 kk hk1
          go_wp2_with fail
          go_region
          go_wp2_with fail
          go_roundw
          case rel => exact ⟨k1, q, y :: Q2, by go_num, by have := hk1e.out; omega, by have := hkk.out; omega, hk1e, Lib.hid (by rw [hQ.out]; simp), by simpa using own_drew h4, Keep.drew k2⟩
          case measure => have := hkk.out; simp [intOf]; omega
end Go.Proofs.Ytmioichjhiengaa
