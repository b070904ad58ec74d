/-
  slices.insertionSortCmpFunc on a row of numbers, with a comparer that reads.
-/
import Derived.Test.YtlnlbegcnhelmaaRotate
namespace Go.Proofs.Ytlnlbegcnhelmaa
open Go.RowKit

/-- The comparer, wherever all but row g is as in w. -/
def CmpI (cb : Value) (cf : Int → Int → Int) (ok : Int → Prop) (g : Nat) (w : World) : Prop := ∀ w', Keep (one g) w w' → ∀ x y, ok x → ok y →
  Calls Try.prog 87 #[.int .i64 x, .int .i64 y, cb] w' fun e w'' => e = .returned (.int .i64 (cf x y)) ∧ Keep none_ w' w''
theorem CmpI.keep {cb : Value} {cf : Int → Int → Int} {ok : Int → Prop} {g : Nat} {w w' : World} (h : CmpI cb cf ok g w) (k : Keep (one g) w w') : CmpI cb cf ok g w' := fun w2 k2 => h w2 (k.trans k2)
def ltC (cf : Int → Int → Int) (x y : Int) : Bool := decide (cf x y < 0)
abbrev SortedC (cf : Int → Int → Int) (l : List Int) : Prop := Sorted (ltC cf) Int.toNat l
theorem getLast_append_singleton {α : Type} (l : List α) (x : α) : (l ++ [x]).getLast? = some x := by simp
theorem swap_adj (P : List Int) (x y : Int) (R : List Int) : ((P ++ x :: y :: R).set (P.length + 1) x).set P.length y = P ++ y :: x :: R := by
  have : P ++ x :: y :: R = (P ++ [x]) ++ y :: R := by simp
  rw [this, show P.length + 1 = (P ++ [x]).length by simp, set_piece]
  have : (P ++ [x]) ++ x :: R = P ++ x :: x :: R := by simp
  rw [this, set_piece]

set_option maxHeartbeats 4000000 in
theorem insert_int {w : World} {base g N cap : Nat} {A S C : List Int} {cb : Value} {cf : Int → Int → Int} {ok : Int → Prop} (W : Weak (ltC cf)) (h : IRow w base g N cap (A ++ S ++ C)) (hcmp : CmpI cb cf ok g w)
    (hS : S.Pairwise (fun x y => x.toNat < y.toNat)) (hok : ∀ x ∈ S, ok x) (a b : Nat) (ha : a = A.length) (hb : b = A.length + S.length) (hN : N ≤ 1000) :
    Calls Try.prog 100 #[.slice (some ⟨g, 0, none⟩) N cap, .int .i64 a, .int .i64 b, .func (.func 87) #[] #[cb]] w fun e w' => e = .returned (.tuple #[]) ∧
      ∃ S', S'.Perm S ∧ SortedC cf S' ∧ IRow w' base g N cap (A ++ S' ++ C) ∧ Keep (one g) w w' := by
  obtain ⟨hNc, hc, hgl, hbg⟩ := h.bounds
  have hNl := h.len
  simp only [List.length_append] at hNl
  have haN : a ≤ N := by omega
  have hbN : b ≤ N := by omega
  cases S with
  | nil =>
    have hnot : ¬ a + 1 < b := by simp at hb; omega
    clear hNl ha hb hS hok
    go_enter Try.func100, Try.ntmps100
    go_wp2_with fail
    go_loopw [8, 9] (fun iv _ wr => iv = .int .i64 (a + 1 : Nat) ∧ wr = w) (fun _ _ _ => 0)
    case atStart => exact ⟨by go_num, rfl⟩
    case round =>
      obtain ⟨rfl, rfl⟩ := hrel
      go_wp2_with fail
      refine bodyPost_end (v := .tuple #[]) ?_ ?_ ?_
      · exact results_none Try.results100 _ _ _
      · rfl
      · exact ⟨rfl, [], List.Perm.refl _, List.Pairwise.nil, h, Keep.refl _ _⟩
  | cons x0 S0 =>
    simp only [List.length_cons] at hNl hb
    replace hok := Lib.hid hok
    replace hS := Lib.hid hS
    go_enter Try.func100, Try.ntmps100
    go_wp2_with fail
    go_loopw [8, 9] (fun iv _ wr => ∃ (i : Nat) (S1 S2 S1' : List Int), iv = .int .i64 i ∧ i ≤ b ∧ Hid (i = A.length + S1.length) ∧ Hid (x0 :: S0 = S1 ++ S2) ∧ Hid (S1'.Perm S1) ∧ Hid (SortedC cf S1') ∧ IRow wr base g N cap (A ++ S1' ++ (S2 ++ C)) ∧ Keep (one g) w wr)
      (fun iv _ _ => b - (intOf iv).toNat)
    case atStart => exact ⟨a + 1, [x0], S0, [x0], by go_num, by omega, Lib.hid (by simp [ha]), Lib.hid rfl, Lib.hid (List.Perm.refl _), Lib.hid (List.pairwise_singleton _ _), by simpa using h, Keep.refl _ _⟩
    case round =>
      clear h
      obtain ⟨i, S1, S2, S1', rfl, hib, hi, hsp, hpe, hso, h, kk⟩ := hrel
      have hl1 := congrArg List.length hsp.out
      simp only [List.length_cons, List.length_append] at hl1
      have hi1 := hi.out
      have hpl := hpe.out.length_eq
      cases S2 with
      | nil =>
        have hnot : ¬ i < b := by simp at hl1; omega
        have hfin : S1 = x0 :: S0 := by rw [hsp.out]; simp
        clear hl1 hi1 hpl hNl ha hb
        go_wp2_with fail
        refine bodyPost_end (v := .tuple #[]) ?_ ?_ ?_
        · exact results_none Try.results100 _ _ _
        · rfl
        · exact ⟨rfl, S1', by rw [← hfin]; exact hpe.out, hso.out, by simpa using h, kk⟩
      | cons e S2 =>
        simp only [List.length_cons] at hl1
        have hlt : i < b := by omega
        -- e's tag is above those ahead of it
        have htag : ∀ x ∈ S1', x.toNat < e.toNat := fun x hx => by
          have h9 := hS.out
          rw [hsp.out] at h9
          exact (List.pairwise_append.1 h9).2.2 x (hpe.out.mem_iff.1 hx) e (by simp)
        have hoke : ok e := hok.out e (by rw [hsp.out]; simp)
        have hok1 : ∀ x ∈ S1', ok x := fun x hx => hok.out x (by rw [hsp.out]; exact List.mem_append_left _ (hpe.out.mem_iff.1 hx))
        replace htag := Lib.hid htag
        replace hok1 := Lib.hid hok1
        have hlen1 : Hid (a + S1'.length = i) := Lib.hid (by omega)
        have ha' := Lib.hid ha
        have hNl' : Hid (N = A.length + S1'.length + (1 + S2.length + C.length)) := Lib.hid (by omega)
        clear hl1 hi1 hpl hNl hb ha
        go_wp2_with fail
        go_loopw [9] (fun jv wr => ∃ (j : Nat) (p1 p2 : List Int), jv = .int .i64 j ∧ j ≤ i ∧ Hid (j = a + p1.length) ∧ Hid (p1 ++ p2 = S1') ∧ Hid (∀ x ∈ p2, ltC cf e x = true) ∧ IRow wr base g N cap (A ++ p1 ++ (e :: (p2 ++ (S2 ++ C)))) ∧ Keep (one g) w wr)
          (fun jv _ => (intOf jv).toNat)
        case atStart => exact ⟨i, S1', [], rfl, Nat.le_refl _, Lib.hid (by have := hlen1.out; omega), Lib.hid (by simp), Lib.hid (fun x hx => by cases hx), by simpa using h, kk⟩
        case round =>
          clear h kk
          obtain ⟨j, p1, p2, rfl, hji, hj, hp, hlte, h, kk⟩ := hrel
          have hj1 := hj.out
          have fin : (∀ y, p1.getLast? = some y → ltC cf e y = false) → SortedC cf (p1 ++ e :: p2) := fun h1 => insert_ok W (by rw [hp.out]; exact hso.out) (fun x hx => htag.out x (by rw [← hp.out]; exact List.mem_append_left _ hx)) hlte.out h1
          have fpe : (p1 ++ e :: p2).Perm (S1 ++ [e]) := (List.perm_middle).trans ((List.Perm.cons e (by rw [hp.out]; exact hpe.out)).trans (List.perm_append_comm (l₁ := [e])))
          replace fin := Lib.hid fin
          replace fpe := Lib.hid fpe
          have hce := h.cell (i := j) (x := e) (by
            have := ha'.out
            rw [show j = (A ++ p1).length by rw [List.length_append]; omega]
            exact at_piece _ _ _)
          have hjN : j < N := by have := h.len; simp only [List.length_append, List.length_cons] at this; have := ha'.out; omega
          obtain ⟨ι, hnn, f, hf0, hfk, hfa⟩ := class_of none_ wr
          have qe : ∀ n, (f n).cell? ⟨g, j, none⟩ = _ := fun n => ((h.keep (hfk n) (fun e => e))).cell (i := j) (x := e) (by
            have := ha'.out
            rw [show j = (A ++ p1).length by rw [List.length_append]; omega]
            exact at_piece _ _ _)
          rcases List.eq_nil_or_concat p1 with rfl | ⟨q, y, rfl⟩
          · have hja : j = a := by simpa using hj1
            have fin' := Lib.hid (fin.out (fun y hy => by simp at hy))
            clear hj1 fin hce
            subst hja
            go_wp2_with fail
            refine wp_region_class f (by kernel_rfl) (by kernel_rfl) hf0 ?_
            repeat (go_big_quiet_step (fail))
            refine wpQuiet_nil ?_
            rintro _ ⟨nn, rfl⟩
            replace kk := kk.trans ((hfk nn).mono (fun _ _ e => e.elim))
            replace h := h.keep (hfk nn) (fun e => e)
            clear qe hf0 hfk hfa
            go_wp2_with fail
            go_roundw
            case rel => exact ⟨i + 1, S1 ++ [e], S2, [] ++ e :: p2, by go_num, by omega, Lib.hid (by have := hi.out; rw [List.length_append]; simp; omega), Lib.hid (by rw [hsp.out]; simp), fpe, fin', by simpa using h, kk⟩
            case measure => simp [intOf]; omega

          · rw [List.concat_eq_append] at h hj1 hp fin fpe
            obtain ⟨j', hj'⟩ : ∃ j', j' = a + q.length := ⟨_, rfl⟩
            have hjj : j = j' + 1 := by rw [List.length_append] at hj1; simp at hj1; omega
            have ej : (j : Int) - 1 = (j' : Int) := by omega
            have haj : a < j := by omega
            have hoky : ok y := hok1.out y (by rw [← hp.out]; simp)
            have hy := (h.cell (i := j') (x := y) (by
              have := ha'.out
              rw [show A ++ (q ++ [y]) ++ (e :: (p2 ++ (S2 ++ C))) = (A ++ q) ++ y :: (e :: (p2 ++ (S2 ++ C))) by simp, show j' = (A ++ q).length by rw [List.length_append]; omega]
              exact at_piece _ _ _))
            have qy : ∀ n, (f n).cell? ⟨g, j', none⟩ = some (.int .i64 y) := fun n => by
              have := (h.keep (hfk n) (fun e => e)).cell (i := j') (x := y) (by
                have := ha'.out
                rw [show A ++ (q ++ [y]) ++ (e :: (p2 ++ (S2 ++ C))) = (A ++ q) ++ y :: (e :: (p2 ++ (S2 ++ C))) by simp, show j' = (A ++ q).length by rw [List.length_append]; omega]
                exact at_piece _ _ _)
              exact this
            have hc1 := fun n => hcmp (f n) (kk.trans ((hfk n).mono (fun _ _ e => e.elim))) e y hoke hoky
            replace hc1 := Lib.hid hc1
            have hj'N : j' < N := by omega
            have haj' : (a : Int) < (j : Int) := by omega
            have hjN' : (j : Int) < (N : Int) := by omega
            have hj'N' : (j' : Int) < (N : Int) := by omega
            have hj0 := Int.natCast_nonneg j
            have hj'0 := Int.natCast_nonneg j'
            obtain ⟨b9, hb9⟩ : ∃ b9, b9 = ltC cf e y := ⟨_, rfl⟩
            have hd9 : decide (cf e y < 0) = b9 := hb9.symm
            replace hjj := Lib.hid hjj
            replace hj' := Lib.hid hj'
            clear hj1
            replace hb9 := Lib.hid hb9
            have hj9 : Hid (1 ≤ j) := Lib.hid (by omega)
            go_wp2_with fail
            refine wp_region_class f (by kernel_rfl) (by kernel_rfl) hf0 ?_
            repeat (go_big_quiet_step ((go_at_call 87; exact Calls.class_of hfa (hc1.out _))))
            refine wpQuiet_nil ?_
            rintro _ ⟨nn, rfl⟩
            replace kk := kk.trans ((hfk nn).mono (fun _ _ e => e.elim))
            replace h := h.keep (hfk nn) (fun e => e)
            clear qe qy hf0 hfk hc1 hce hy
            generalize f nn = wx at *
            clear hfa
            cases b9
            · have fin' := Lib.hid (fin.out (fun z hz => by
                rw [List.getLast?_append] at hz
                have : z = y := by simpa using hz.symm
                rw [this]; exact hb9.out.symm))
              go_wp2_with fail
              go_roundw
              case rel => exact ⟨i + 1, S1 ++ [e], S2, (q ++ [y]) ++ e :: p2, by go_num, by omega, Lib.hid (by have := hi.out; rw [List.length_append]; simp; omega), Lib.hid (by rw [hsp.out]; simp), fpe, fin', by simpa using h, kk⟩
              case measure => simp [intOf]; omega

            · have e1 : A ++ (q ++ [y]) ++ (e :: (p2 ++ (S2 ++ C))) = (A ++ q) ++ y :: e :: (p2 ++ (S2 ++ C)) := by simp
              rw [e1] at h
              have hPl : (A ++ q).length = j' := by have := ha'.out; have := hj'.out; rw [List.length_append]; omega
              have cx := h.cell (i := j') (x := y) (by rw [← hPl]; exact at_piece _ _ _)
              have cy := h.cell (i := j) (x := e) (by
                rw [show (A ++ q) ++ y :: e :: (p2 ++ (S2 ++ C)) = ((A ++ q) ++ [y]) ++ e :: (p2 ++ (S2 ++ C)) by simp, show j = ((A ++ q) ++ [y]).length by rw [List.length_append, hPl]; have := hjj.out; simp; omega]
                exact at_piece _ _ _)
              have hll := h.len
              have h2 := (h.set (i := j) (by omega) y).set (i := j') (by rw [List.length_set]; omega) e
              have e2 := swap_adj (A ++ q) y e (p2 ++ (S2 ++ C))
              rw [hPl, show j' + 1 = j from hjj.out.symm] at e2
              rw [e2] at h2
              obtain ⟨cur, hat⟩ := h.at_
              have fz := hat.frozen
              have fz2 := (At.set hat j (.int .i64 y)).frozen
              have k2 := Keep.setCell (p := ⟨g, j', none⟩) (Keep.setCell (p := ⟨g, j, none⟩) kk (fun _ => rfl) (.int .i64 y)) (fun _ => rfl) (.int .i64 e)
              have hne : j ≠ j' := by have := hjj.out; omega
              clear hat cur hPl e1 e2 hll h fin fpe kk
              go_wp2_with fail
              go_region
              go_wp2_with fail
              go_roundw
              case rel => exact ⟨j', q, y :: p2, by go_num, by have := hjj.out; omega, hj', Lib.hid (by rw [← hp.out]; simp), Lib.hid (fun x hx => by
                rcases List.mem_cons.1 hx with rfl | hx
                · exact hb9.out.symm
                · exact hlte.out x hx), by simpa using own_drew h2, Keep.drew k2⟩
              case measure => have := hjj.out; simp [intOf]; omega
end Go.Proofs.Ytlnlbegcnhelmaa
