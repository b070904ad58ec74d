/-
  slices.insertionSortCmpFunc on a row of panes, with a comparer that reads.
-/
import Derived.Test.YtmioichjhiengaaPRotate
namespace Go.Proofs.Ytmioichjhiengaa
open Go.RowKit

/-- The comparer, wherever all but row g is as in w. -/
def CmpP (cf : TP → TP → Int) (ok : TP → Prop) (g : Nat) (w : World) : Prop := ∀ w', Keep (one g) w w' → ∀ x y : TP, ok x → ok y →
  Calls Try.prog 49 #[.agg #[.string x.1.key, .int .i64 x.1.span.s, .int .i64 x.1.span.e, .int .i64 x.1.agg.count, .int .i64 x.1.agg.sum, .int .i64 x.1.agg.lo, .int .i64 x.1.agg.hi], .agg #[.string y.1.key, .int .i64 y.1.span.s, .int .i64 y.1.span.e, .int .i64 y.1.agg.count, .int .i64 y.1.agg.sum, .int .i64 y.1.agg.lo, .int .i64 y.1.agg.hi]] w' fun e w'' =>
    e = .returned (.int .i64 (cf x y)) ∧ Keep none_ w' w''
theorem CmpP.keep {cf : TP → TP → Int} {ok : TP → Prop} {g : Nat} {w w' : World} (h : CmpP cf ok g w) (k : Keep (one g) w w') : CmpP cf ok g w' := fun w2 k2 => h w2 (k.trans k2)
def ltP (cf : TP → TP → Int) (x y : TP) : Bool := decide (cf x y < 0)
abbrev SortedT (cf : TP → TP → Int) (l : List TP) : Prop := Sorted (ltP cf) tgP l
theorem getLast_append_singleton_p {α : Type} (l : List α) (x : α) : (l ++ [x]).getLast? = some x := by simp
theorem swap_adj_p (P : List TP) (x y : TP) (R : List TP) : ((P ++ x :: y :: R).set (P.length + 1) x).set P.length y = P ++ y :: x :: R := by
  have : P ++ x :: y :: R = (P ++ [x]) ++ y :: R := by simp
  rw [this, show P.length + 1 = (P ++ [x]).length by simp, set_piece]
  have : (P ++ [x]) ++ x :: R = P ++ x :: x :: R := by simp
  rw [this, set_piece]

set_option maxHeartbeats 4000000 in
theorem insert_p {w : World} {base g N cap : Nat} {A S C : List TP} {cf : TP → TP → Int} {ok : TP → Prop} (W : Weak (ltP cf)) (h : PTRow w base g N cap (A ++ S ++ C)) (hcmp : CmpP cf ok g w)
    (hS : S.Pairwise (fun x y => tgP x < tgP y)) (hok : ∀ x ∈ S, ok x) (a b : Nat) (ha : a = A.length) (hb : b = A.length + S.length) (hN : N ≤ 1000) :
    Calls Try.prog 103 #[.slice (some ⟨g, 0, none⟩) N cap, .int .i64 a, .int .i64 b, .func (.func 49) #[] #[]] w fun e w' => e = .returned (.tuple #[]) ∧
      ∃ S', S'.Perm S ∧ SortedT cf S' ∧ PTRow w' base g N cap (A ++ S' ++ C) ∧ Keep (one g) w w' := by
  obtain ⟨hNc, hc, hgl, hbg⟩ := h.bounds
  have hNl := h.len
  simp only [List.length_append] at hNl
  have haN : a ≤ N := by omega
  have hbN : b ≤ N := by omega
  cases S with
  | nil =>
    have hnot : ¬ a + 1 < b := by simp at hb; omega
    clear hNl ha hb hS hok
    go_enter Try.func103, Try.ntmps103
    go_wp2_with fail
    go_loopw [8, 9] (fun iv _ wr => iv = .int .i64 (a + 1 : Nat) ∧ wr = w) (fun _ _ _ => 0)
    case atStart => exact ⟨by go_num, rfl⟩
    case round =>
      obtain ⟨rfl, rfl⟩ := hrel
      go_wp2_with fail
      refine bodyPost_end (v := .tuple #[]) ?_ ?_ ?_
      · exact results_none Try.results103 _ _ _
      · rfl
      · exact ⟨rfl, [], List.Perm.refl _, List.Pairwise.nil, h, Keep.refl _ _⟩
  | cons x0 S0 =>
    simp only [List.length_cons] at hNl hb
    replace hok := Lib.hid hok
    replace hS := Lib.hid hS
    go_enter Try.func103, Try.ntmps103
    go_wp2_with fail
    go_loopw [8, 9] (fun iv _ wr => ∃ (i : Nat) (S1 S2 S1' : List TP), iv = .int .i64 i ∧ i ≤ b ∧ Hid (i = A.length + S1.length) ∧ Hid (x0 :: S0 = S1 ++ S2) ∧ Hid (S1'.Perm S1) ∧ Hid (SortedT cf S1') ∧ PTRow wr base g N cap (A ++ S1' ++ (S2 ++ C)) ∧ Keep (one g) w wr)
      (fun iv _ _ => b - (intOf iv).toNat)
    case atStart => exact ⟨a + 1, [x0], S0, [x0], by go_num, by omega, Lib.hid (by simp [ha]), Lib.hid rfl, Lib.hid (List.Perm.refl _), Lib.hid (List.pairwise_singleton _ _), by simpa using h, Keep.refl _ _⟩
    case round =>
      clear h
      obtain ⟨i, S1, S2, S1', rfl, hib, hi, hsp, hpe, hso, h, kk⟩ := hrel
      have hl1 := congrArg List.length hsp.out
      simp only [List.length_cons, List.length_append] at hl1
      have hi1 := hi.out
      have hpl := hpe.out.length_eq
      cases S2 with
      | nil =>
        have hnot : ¬ i < b := by simp at hl1; omega
        have hfin : S1 = x0 :: S0 := by rw [hsp.out]; simp
        clear hl1 hi1 hpl hNl ha hb
        go_wp2_with fail
        refine bodyPost_end (v := .tuple #[]) ?_ ?_ ?_
        · exact results_none Try.results103 _ _ _
        · rfl
        · exact ⟨rfl, S1', by rw [← hfin]; exact hpe.out, hso.out, by simpa using h, kk⟩
      | cons e S2 =>
        simp only [List.length_cons] at hl1
        have hlt : i < b := by omega
        -- e's tag is above those ahead of it
        have htag : ∀ x ∈ S1', tgP x < tgP e := fun x hx => by
          have h9 := hS.out
          rw [hsp.out] at h9
          exact (List.pairwise_append.1 h9).2.2 x (hpe.out.mem_iff.1 hx) e (by simp)
        have hoke : ok e := hok.out e (by rw [hsp.out]; simp)
        have hok1 : ∀ x ∈ S1', ok x := fun x hx => hok.out x (by rw [hsp.out]; exact List.mem_append_left _ (hpe.out.mem_iff.1 hx))
        replace htag := Lib.hid htag
        replace hok1 := Lib.hid hok1
        have hlen1 : Hid (a + S1'.length = i) := Lib.hid (by omega)
        have ha' := Lib.hid ha
        have hNl' : Hid (N = A.length + S1'.length + (1 + S2.length + C.length)) := Lib.hid (by omega)
        clear hl1 hi1 hpl hNl hb ha
        go_wp2_with fail
        go_loopw [9] (fun jv wr => ∃ (j : Nat) (p1 p2 : List TP), jv = .int .i64 j ∧ j ≤ i ∧ Hid (j = a + p1.length) ∧ Hid (p1 ++ p2 = S1') ∧ Hid (∀ x ∈ p2, ltP cf e x = true) ∧ PTRow wr base g N cap (A ++ p1 ++ (e :: (p2 ++ (S2 ++ C)))) ∧ Keep (one g) w wr)
          (fun jv _ => (intOf jv).toNat)
        case atStart => exact ⟨i, S1', [], rfl, Nat.le_refl _, Lib.hid (by have := hlen1.out; omega), Lib.hid (by simp), Lib.hid (fun x hx => by cases hx), by simpa using h, kk⟩
        case round =>
          clear h kk
          obtain ⟨j, p1, p2, rfl, hji, hj, hp, hlte, h, kk⟩ := hrel
          have hj1 := hj.out
          have fin : (∀ y, p1.getLast? = some y → ltP cf e y = false) → SortedT cf (p1 ++ e :: p2) := fun h1 => insert_ok W (by rw [hp.out]; exact hso.out) (fun x hx => htag.out x (by rw [← hp.out]; exact List.mem_append_left _ hx)) hlte.out h1
          have fpe : (p1 ++ e :: p2).Perm (S1 ++ [e]) := (List.perm_middle).trans ((List.Perm.cons e (by rw [hp.out]; exact hpe.out)).trans (List.perm_append_comm (l₁ := [e])))
          replace fin := Lib.hid fin
          replace fpe := Lib.hid fpe
          have hce := h.cell (i := j) (x := e) (by
            have := ha'.out
            rw [show j = (A ++ p1).length by rw [List.length_append]; omega]
            exact at_piece _ _ _)
          have hjN : j < N := by have := h.len; simp only [List.length_append, List.length_cons] at this; have := ha'.out; omega
          obtain ⟨ι, hnn, f, hf0, hfk, hfa⟩ := class_of none_ wr
          have qe := fun n => ((h.keep (hfk n) (fun e => e))).cell (i := j) (x := e) (by
            have := ha'.out
            rw [show j = (A ++ p1).length by rw [List.length_append]; omega]
            exact at_piece _ _ _)
          have qe0 := fun n => (qe n).c0
          have qe1 := fun n => (qe n).c1
          have qe2 := fun n => (qe n).c2
          have qe3 := fun n => (qe n).c3
          have qe4 := fun n => (qe n).c4
          have qe5 := fun n => (qe n).c5
          have qe6 := fun n => (qe n).c6
          rcases List.eq_nil_or_concat p1 with rfl | ⟨q, y, rfl⟩
          · have hja : j = a := by simpa using hj1
            have fin' := Lib.hid (fin.out (fun y hy => by simp at hy))
            clear hj1 fin hce
            subst hja
            go_wp2_with fail
            refine wp_region_class f (by kernel_rfl) (by kernel_rfl) hf0 ?_
            repeat (go_big_quiet_step (fail))
            refine wpQuiet_nil ?_
            rintro _ ⟨nn, rfl⟩
            replace kk := kk.trans ((hfk nn).mono (fun _ _ e => e.elim))
            replace h := h.keep (hfk nn) (fun e => e)
            clear qe qe0 qe1 qe2 qe3 qe4 qe5 qe6 hf0 hfk hfa
            go_wp2_with fail
            go_roundw
            case rel => exact ⟨i + 1, S1 ++ [e], S2, [] ++ e :: p2, by go_num, by omega, Lib.hid (by have := hi.out; rw [List.length_append]; simp; omega), Lib.hid (by rw [hsp.out]; simp), fpe, fin', by simpa using h, kk⟩
            case measure => simp [intOf]; omega

          · rw [List.concat_eq_append] at h hj1 hp fin fpe
            obtain ⟨j', hj'⟩ : ∃ j', j' = a + q.length := ⟨_, rfl⟩
            have hjj : j = j' + 1 := by rw [List.length_append] at hj1; simp at hj1; omega
            have ej : (j : Int) - 1 = (j' : Int) := by omega
            have haj : a < j := by omega
            have hoky : ok y := hok1.out y (by rw [← hp.out]; simp)
            have hy := (h.cell (i := j') (x := y) (by
              have := ha'.out
              rw [show A ++ (q ++ [y]) ++ (e :: (p2 ++ (S2 ++ C))) = (A ++ q) ++ y :: (e :: (p2 ++ (S2 ++ C))) by simp, show j' = (A ++ q).length by rw [List.length_append]; omega]
              exact at_piece _ _ _))
            have qy := fun n => (h.keep (hfk n) (fun e => e)).cell (i := j') (x := y) (by
                have := ha'.out
                rw [show A ++ (q ++ [y]) ++ (e :: (p2 ++ (S2 ++ C))) = (A ++ q) ++ y :: (e :: (p2 ++ (S2 ++ C))) by simp, show j' = (A ++ q).length by rw [List.length_append]; omega]
                exact at_piece _ _ _)
            have qy0 := fun n => (qy n).c0
            have qy1 := fun n => (qy n).c1
            have qy2 := fun n => (qy n).c2
            have qy3 := fun n => (qy n).c3
            have qy4 := fun n => (qy n).c4
            have qy5 := fun n => (qy n).c5
            have qy6 := fun n => (qy n).c6
            have hc1 := fun n => hcmp (f n) (kk.trans ((hfk n).mono (fun _ _ e => e.elim))) e y hoke hoky
            replace hc1 := Lib.hid hc1
            have hj'N : j' < N := by omega
            have haj' : (a : Int) < (j : Int) := by omega
            have hjN' : (j : Int) < (N : Int) := by omega
            have hj'N' : (j' : Int) < (N : Int) := by omega
            have hj0 := Int.natCast_nonneg j
            have hj'0 := Int.natCast_nonneg j'
            obtain ⟨b9, hb9⟩ : ∃ b9, b9 = ltP cf e y := ⟨_, rfl⟩
            have hd9 : decide (cf e y < 0) = b9 := hb9.symm
            replace hjj := Lib.hid hjj
            replace hj' := Lib.hid hj'
            clear hj1
            replace hb9 := Lib.hid hb9
            have hj9 : Hid (1 ≤ j) := Lib.hid (by omega)
            go_wp2_with fail
            refine wp_region_class f (by kernel_rfl) (by kernel_rfl) hf0 ?_
            repeat (go_big_quiet_step ((go_at_call 49; exact Calls.class_of hfa (hc1.out _))))
            refine wpQuiet_nil ?_
            rintro _ ⟨nn, rfl⟩
            replace kk := kk.trans ((hfk nn).mono (fun _ _ e => e.elim))
            replace h := h.keep (hfk nn) (fun e => e)
            clear qe qe0 qe1 qe2 qe3 qe4 qe5 qe6 qy qy0 qy1 qy2 qy3 qy4 qy5 qy6 hf0 hfk hc1 hce hy
            generalize f nn = wx at *
            clear hfa
            cases b9
            · have fin' := Lib.hid (fin.out (fun z hz => by
                rw [List.getLast?_append] at hz
                have : z = y := by simpa using hz.symm
                rw [this]; exact hb9.out.symm))
              go_wp2_with fail
              go_roundw
              case rel => exact ⟨i + 1, S1 ++ [e], S2, (q ++ [y]) ++ e :: p2, by go_num, by omega, Lib.hid (by have := hi.out; rw [List.length_append]; simp; omega), Lib.hid (by rw [hsp.out]; simp), fpe, fin', by simpa using h, kk⟩
              case measure => simp [intOf]; omega

            · have e1 : A ++ (q ++ [y]) ++ (e :: (p2 ++ (S2 ++ C))) = (A ++ q) ++ y :: e :: (p2 ++ (S2 ++ C)) := by simp
              rw [e1] at h
              have hPl : (A ++ q).length = j' := by have := ha'.out; have := hj'.out; rw [List.length_append]; omega
              have hgy : ((A ++ q) ++ y :: e :: (p2 ++ (S2 ++ C)))[j']? = some y := by rw [← hPl]; exact at_piece _ _ _
              have hge : ((A ++ q) ++ y :: e :: (p2 ++ (S2 ++ C)))[j]? = some e := by
                rw [show (A ++ q) ++ y :: e :: (p2 ++ (S2 ++ C)) = ((A ++ q) ++ [y]) ++ e :: (p2 ++ (S2 ++ C)) by simp, show j = ((A ++ q) ++ [y]).length by rw [List.length_append, hPl]; have := hjj.out; simp; omega]
                exact at_piece _ _ _
              have hll := h.len
              obtain ⟨cx, cy, fz, fz2, ck, h2, hk2⟩ := swap_facts h hge hgy (by have := hjj.out; omega)
              have e2 := swap_adj_p (A ++ q) y e (p2 ++ (S2 ++ C))
              rw [hPl, show j' + 1 = j from hjj.out.symm] at e2
              rw [e2] at h2
              have k2 := hk2 _ kk
              have cx0 := cx.c0
              have cx1 := cx.c1
              have cx2 := cx.c2
              have cx3 := cx.c3
              have cx4 := cx.c4
              have cx5 := cx.c5
              have cx6 := cx.c6
              have cy0 := cy.c0
              have cy1 := cy.c1
              have cy2 := cy.c2
              have cy3 := cy.c3
              have cy4 := cy.c4
              have cy5 := cy.c5
              have cy6 := cy.c6
              have ck0 := ck.c0
              have ck1 := ck.c1
              have ck2 := ck.c2
              have ck3 := ck.c3
              have ck4 := ck.c4
              have ck5 := ck.c5
              have ck6 := ck.c6
              simp only [Pane.cells, stores, Nat.add_assoc, Nat.reduceAdd] at fz2 h2 k2
              simp only [Pane.cells, stores, Nat.add_assoc, Nat.reduceAdd] at ck0 ck1 ck2 ck3 ck4 ck5 ck6
              have hne : j ≠ j' := by have := hjj.out; omega
              clear hgy hge cx cy ck hk2 hPl e1 e2 hll h fin fpe kk
              go_wp2_with fail
              go_region
              go_wp2_with fail
              go_roundw
              case rel => exact ⟨j', q, y :: p2, by go_num, by have := hjj.out; omega, hj', Lib.hid (by rw [← hp.out]; simp), Lib.hid (fun x hx => by
                rcases List.mem_cons.1 hx with rfl | hx
                · exact hb9.out.symm
                · exact hlte.out x hx), by simpa using own_drew h2, Keep.drew k2⟩
              case measure => have := hjj.out; simp [intOf]; omega
end Go.Proofs.Ytmioichjhiengaa
