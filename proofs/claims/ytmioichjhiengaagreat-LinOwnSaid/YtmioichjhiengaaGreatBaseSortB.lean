/-
  Texts of one kind, one behind the other.
-/
import Derived.Test.YtmioichjhiengaaGreatMergeHi
import Derived.Test.YtmioichjhiengaaGreatBaseSortA
set_option linter.unusedSimpArgs false
set_option linter.unusedVariables false
/-
  slices.symMergeCmpFunc on a row of numbers.
-/
namespace Go.Proofs.YtmioichjhiengaaGreat
open Go.RowKit

set_option maxHeartbeats 40000000 in
set_option maxRecDepth 100000 in
theorem merge_lo {base g N cap : Nat} {cb : Value} {cf : Int → Int → Int} {ok : Int → Prop} (W : Weak (ltC cf)) (hN : N ≤ 1000) (d : Nat) (ih : (∀ {w : World} {A U V C : List Int}, U.length + V.length ≤ d → 0 < U.length → 0 < V.length →
      IRow w base g N cap (A ++ U ++ V ++ C) → CmpI cb cf ok g w → MergeIn cf ok U V → ∀ (a m b : Nat), a = A.length → m = a + U.length → b = m + V.length →
      Calls Tryz.prog 150 #[.slice (some ⟨g, 0, none⟩) N cap, .int .i64 a, .int .i64 m, .int .i64 b, .func (.func 104) #[] #[cb]] w (MergeDone w base g N cap A U V C cf)))
    {w : World} {A U V C : List Int} (hd : U.length + V.length ≤ d + 1) (h : IRow w base g N cap (A ++ U ++ V ++ C)) (hcmp : CmpI cb cf ok g w) (H : MergeIn cf ok U V) (a m b : Nat) (ha : a = A.length) (hm : m = a + U.length) (hb : b = m + V.length)
    (hu2 : 2 ≤ U.length) (hv2 : 2 ≤ V.length) (hmm : ¬ (a + b) / 2 < m) :
    Calls Tryz.prog 150 #[.slice (some ⟨g, 0, none⟩) N cap, .int .i64 a, .int .i64 m, .int .i64 b, .func (.func 104) #[] #[cb]] w (MergeDone w base g N cap A U V C cf) := by
  obtain ⟨hNc, hc, hgl, hbg⟩ := h.bounds
  have hNl := h.len
  simp only [List.length_append] at hNl
  obtain ⟨u, hu⟩ : ∃ u, u = U.length := ⟨_, rfl⟩
  obtain ⟨v, hv⟩ : ∃ v, v = V.length := ⟨_, rfl⟩
  have e0 : (m : Int) - (a : Int) = (u : Int) := by omega
  have hub : ((u : Int) == 1) = false := by simp; omega
  have e1 : (b : Int) - (m : Int) = (v : Int) := by omega
  have hvb : ((v : Int) == 1) = false := by simp; omega
  obtain ⟨s0, hs0e⟩ : ∃ s0, s0 = a + b := ⟨_, rfl⟩
  have es0 : (a : Int) + (b : Int) = (s0 : Int) := by omega
  obtain ⟨mid, hmide⟩ : ∃ mid, mid = s0 / 2 := ⟨_, rfl⟩
  have emid : (s0 : Int) / 2 = (mid : Int) := by omega
  obtain ⟨n, hn⟩ : ∃ n, n = mid + m := ⟨_, rfl⟩
  have en0 : (mid : Int) + (m : Int) = (n : Int) := by omega
  obtain ⟨p, hp⟩ : ∃ p, p = n - 1 := ⟨_, rfl⟩
  have ep : (n : Int) - 1 = (p : Int) := by omega
  have z1 := Int.natCast_nonneg s0
  have z2 : (s0 : Int) ≤ 2000 := by omega
  have z3 : (a : Int) + (b : Int) ≤ 9223372036854775807 := by omega
  have z4 : IntKind.i64.wrap (s0 : Int) = (s0 : Int) := by rw [IntKind.wrap_i64]; omega
  have z5 : IntKind.u64.wrap (s0 : Int) = (s0 : Int) := by rw [IntKind.wrap_u64]; omega
  have z6 : IntKind.i64.wrap (mid : Int) = (mid : Int) := by rw [IntKind.wrap_i64]; omega
  have z7 : IntKind.u64.wrap (mid : Int) = (mid : Int) := by rw [IntKind.wrap_u64]; omega
  have z8 : IntKind.i64.wrap (n : Int) = (n : Int) := by rw [IntKind.wrap_i64]; omega
  have z9 : (mid : Int) + (m : Int) ≤ 9223372036854775807 := by omega
  have hmid : Hid (a = A.length ∧ m = a + U.length ∧ b = m + V.length ∧ s0 = a + b ∧ mid = s0 / 2 ∧ n = mid + m ∧ p = n - 1 ∧ 2 ≤ U.length ∧ 2 ≤ V.length ∧ b ≤ N ∧ N ≤ 1000) := Lib.hid (by omega)
  have hokl := Lib.hid H.okl
  have hokr := Lib.hid H.okr
  replace H := Lib.hid H
  replace hd := Lib.hid hd
  replace hmm : ¬ mid < m := by omega
  have hfac : a ≤ a ∧ a ≤ m ∧ m ≤ m ∧ m ≤ mid ∧ n ≤ a + b ∧ (a = a ∨ a + b = n) ∧ (m = mid ∨ m = m) := by omega
  have hfac1 := hfac.1
  have hfac2 := hfac.2.1
  replace hfac := Lib.hid hfac
  clear hNl ha hm hb hu hv hs0e hmide hn hp hu2 hv2
  go_enter Tryz.func150, Tryz.ntmps150
  go_wp2_with fail
  go_loopw [20, 21, 23] (fun iv jv _ wr => ∃ (i j : Nat), iv = .int .i64 i ∧ jv = .int .i64 j ∧ a ≤ i ∧ i ≤ j ∧ j ≤ m ∧ Hid (a < i → ∀ x y, U[i - 1 - a]? = some x → V[mid - i]? = some y → ltC cf y x = false) ∧ Hid (j < m → ∀ x y, U[j - a]? = some x → V[mid - 1 - j]? = some y → ltC cf y x = true) ∧ Keep none_ w wr)
    (fun iv jv _ _ => (intOf jv).toNat - (intOf iv).toNat)
  case atStart => exact ⟨a, m, rfl, rfl, Nat.le_refl _, hfac2, Nat.le_refl _, Lib.hid (fun h => absurd h (Nat.lt_irrefl _)), Lib.hid (fun h => absurd h (Nat.lt_irrefl _)), Keep.refl _ _⟩
  case round =>
    obtain ⟨i, j, rfl, rfl, hmi, hij, hjb, h1, h2, kk⟩ := hrel
    have hF := hfac.out
    have hM := hmid.out
    by_cases hlt : i < j
    · obtain ⟨s, hs⟩ : ∃ s, s = i + j := ⟨_, rfl⟩
      have es : (i : Int) + (j : Int) = (s : Int) := by omega
      obtain ⟨c, hc⟩ : ∃ c, c = s / 2 := ⟨_, rfl⟩
      have eh : (s : Int) / 2 = (c : Int) := by omega
      have hs0 := Int.natCast_nonneg s
      have hs1 : (s : Int) ≤ 2000 := by omega
      have hs2 : (i : Int) + (j : Int) ≤ 9223372036854775807 := by omega
      have hsw : IntKind.i64.wrap (s : Int) = (s : Int) := by rw [IntKind.wrap_i64]; omega
      have hsu : IntKind.u64.wrap (s : Int) = (s : Int) := by rw [IntKind.wrap_u64]; omega
      have hhw : IntKind.i64.wrap (c : Int) = (c : Int) := by rw [IntKind.wrap_i64]; omega
      have hhu : IntKind.u64.wrap (c : Int) = (c : Int) := by rw [IntKind.wrap_u64]; omega
      have hih : i ≤ c := by omega
      have hhj : c < j := by omega
      obtain ⟨q, hq⟩ : ∃ q, q = p - c := ⟨_, rfl⟩
      have eq1 : (p : Int) - (c : Int) = (q : Int) := by omega
      have hqw : IntKind.i64.wrap (q : Int) = (q : Int) := by rw [IntKind.wrap_i64]; omega
      have hqN : q < N := by omega
      have hcN : c < N := by omega
      have hqN' : (q : Int) < (N : Int) := by omega
      have hcN' : (c : Int) < (N : Int) := by omega
      have hq0 := Int.natCast_nonneg q
      have hc0 := Int.natCast_nonneg c
      have hcU : c - a < U.length := by omega
      have hqV : q - m < V.length := by omega
      obtain ⟨x, hx⟩ : ∃ x, U[c - a]? = some x := ⟨_, List.getElem?_eq_getElem hcU⟩
      obtain ⟨y, hy⟩ : ∃ y, V[q - m]? = some y := ⟨_, List.getElem?_eq_getElem hqV⟩
      have hokx : ok x := hokl.out x (List.mem_of_getElem? hx)
      have hoky : ok y := hokr.out y (List.mem_of_getElem? hy)
      have hlsx : (A ++ U ++ V ++ C)[c]? = some x := by
        rw [List.append_assoc, List.append_assoc, List.getElem?_append_right (by omega), List.getElem?_append_left (by omega), ← hx]
        congr 1
        omega
      have hlsy : (A ++ U ++ V ++ C)[q]? = some y := by
        rw [List.append_assoc (A ++ U), List.getElem?_append_right (by rw [List.length_append]; omega), List.getElem?_append_left (by rw [List.length_append]; omega), ← hy]
        congr 1
        rw [List.length_append]
        omega
      obtain ⟨ι, hnn, f, hf0, hfk, hfa⟩ := class_of none_ wr
      have q1 : ∀ n, (f n).cell? ⟨g, q, none⟩ = some (.int .i64 y) := fun n => (h.keep (kk.trans (hfk n)) (fun e => e)).cell hlsy
      have q2 : ∀ n, (f n).cell? ⟨g, c, none⟩ = some (.int .i64 x) := fun n => (h.keep (kk.trans (hfk n)) (fun e => e)).cell hlsx
      have hc1 := Lib.hid (fun n => hcmp (f n) ((kk.trans (hfk n)).mono (fun _ _ e => e.elim)) y x hoky hokx)
      obtain ⟨b9, hb9⟩ : ∃ b9, b9 = ltC cf y x := ⟨_, rfl⟩
      have hd9 : decide (cf y x < 0) = b9 := hb9.symm
      have eqV : mid - 1 - c = q - m := by omega
      replace hb9 := Lib.hid hb9
      replace hy := Lib.hid hy
      replace hx := Lib.hid hx
      replace hs := Lib.hid hs
      replace hc := Lib.hid hc
      replace hq := Lib.hid hq
      replace eqV := Lib.hid eqV
      clear hlsx hlsy hcU hqV hF hM
      go_wp2_with fail
      refine wp_region_class f (by kernel_rfl) (by kernel_rfl) hf0 ?_
      repeat (go_big_quiet_step ((go_at_call 104; exact Calls.class_of hfa (hc1.out _))))
      refine wpQuiet_nil ?_
      rintro _ ⟨nn, rfl⟩
      replace kk := kk.trans (hfk nn)
      clear q1 q2 hf0 hfk hfa hc1
      cases b9
      · go_wp2_with fail
        go_roundw
        case rel => exact ⟨c + 1, j, by go_num, rfl, by omega, by omega, hjb, Lib.hid (fun _ u v hu hv => by
          rw [show c + 1 - 1 - a = c - a by omega, hx.out] at hu
          rw [show mid - (c + 1) = mid - 1 - c by omega, eqV.out, hy.out] at hv
          rw [← Option.some.inj hu, ← Option.some.inj hv]; exact hb9.out.symm), h2, kk⟩
        case measure => simp [intOf]; omega
      · go_wp2_with fail
        go_roundw
        case rel => exact ⟨i, c, rfl, rfl, hmi, hih, by omega, h1, Lib.hid (fun _ u v hu hv => by
          rw [hx.out] at hu
          rw [eqV.out, hy.out] at hv
          rw [← Option.some.inj hu, ← Option.some.inj hv]; exact hb9.out.symm), kk⟩
        case measure => simp [intOf]; omega
    · obtain rfl : i = j := by omega
      obtain ⟨en, hen⟩ : ∃ en, en = n - i := ⟨_, rfl⟩
      have een : (n : Int) - (i : Int) = (en : Int) := by omega
      have henw : IntKind.i64.wrap (en : Int) = (en : Int) := by rw [IntKind.wrap_i64]; omega
      obtain ⟨b12, b21⟩ := split_ok W H.out (i - a) (mid - i) (by omega) (by omega)
        (fun h0 h9 x y hx hy => h1.out (by omega) x y (by rw [← hx]; congr 1; omega) hy)
        (fun h0 h9 x y hx hy => h2.out (by omega) x y hx (by rw [← hy]; congr 1; omega))
      have hU1 : (U.take (i - a)).length = i - a := by rw [List.length_take]; omega
      have hU2 : (U.drop (i - a)).length = m - i := by rw [List.length_drop]; omega
      have hV1 : (V.take (mid - i)).length = mid - i := by rw [List.length_take]; omega
      have hV2 : (V.drop (mid - i)).length = b - en := by rw [List.length_drop]; omega
      have hUU : U = U.take (i - a) ++ U.drop (i - a) := (List.take_append_drop _ _).symm
      have hVV : V = V.take (mid - i) ++ V.drop (mid - i) := (List.take_append_drop _ _).symm
      generalize U.take (i - a) = U1 at *
      generalize U.drop (i - a) = U2 at *
      generalize V.take (mid - i) = V1 at *
      generalize V.drop (mid - i) = V2 at *
      have I1 : MergeIn cf ok U1 V1 := by
        have := H.out
        rw [hUU, hVV] at this
        exact ⟨(sorted_append.1 this.left).1, (sorted_append.1 this.right).1, fun x hx y hy => this.tags x (List.mem_append_left _ hx) y (List.mem_append_left _ hy), fun x hx => this.okl x (List.mem_append_left _ hx), fun x hx => this.okr x (List.mem_append_left _ hx)⟩
      have I2 : MergeIn cf ok U2 V2 := by
        have := H.out
        rw [hUU, hVV] at this
        exact ⟨(sorted_append.1 this.left).2.1, (sorted_append.1 this.right).2.1, fun x hx y hy => this.tags x (List.mem_append_right _ hx) y (List.mem_append_right _ hy), fun x hx => this.okl x (List.mem_append_right _ hx), fun x hx => this.okr x (List.mem_append_right _ hx)⟩
      have buu : Before (ltC cf) Int.toNat U1 U2 := by
        have := H.out.left
        rw [hUU] at this
        exact (sorted_append.1 this).2.2
      have bvv : Before (ltC cf) Int.toNat V1 V2 := by
        have := H.out.right
        rw [hVV] at this
        exact (sorted_append.1 this).2.2
      have h3 : IRow wr base g N cap ((A ++ U1) ++ U2 ++ V1 ++ (V2 ++ C)) := by
        have := h.keep kk (fun e => e)
        rw [hUU, hVV] at this
        simpa using this
      have hall := Lib.hid (fun s1 s2 (S1 : SortedC cf s1) (S2 : SortedC cf s2) (p1 : s1.Perm (U1 ++ V1)) (p2 : s2.Perm (U2 ++ V2)) => halves_ok S1 S2 p1 p2 buu b12 b21 bvv)
      have hper := Lib.hid (fun (s1 s2 : List Int) (p1 : s1.Perm (U1 ++ V1)) (p2 : s2.Perm (U2 ++ V2)) => (show (s1 ++ s2).Perm (U ++ V) by
        rw [hUU, hVV]
        refine (p1.append p2).trans ?_
        rw [List.append_assoc, List.append_assoc]
        refine List.Perm.append_left U1 ?_
        rw [← List.append_assoc, ← List.append_assoc]
        exact List.Perm.append_right V2 List.perm_append_comm))
      replace I1 := Lib.hid I1
      replace I2 := Lib.hid I2
      replace kk := kk.mono (S' := one g) (fun _ _ e => e.elim)
      have hnum : Hid (A.length = a ∧ U1.length = i - a ∧ U2.length = m - i ∧ V1.length = mid - i ∧ V2.length = b - en ∧ a ≤ i ∧ i ≤ m ∧ i ≤ mid ∧ m ≤ en ∧ en ≤ b ∧ en + i = mid + m ∧ U.length + V.length = b - a ∧ a < mid ∧ mid < b) := Lib.hid (by omega)
      clear h1 h2 b12 b21 buu bvv hUU hVV h hU1 hU2 hV1 hV2 hF hM hlt
      replace hen := Lib.hid hen
      by_cases hR1 : i < m
      · by_cases hR2 : m < en
        · have c1 := rotate_int (f := .func (.func 104) #[] #[cb]) h3 i m en (by rw [List.length_append]; have := hnum.out; omega) (by rw [List.length_append]; have := hnum.out; omega) (by rw [List.length_append]; have := hnum.out; omega) (by have := hnum.out; omega) (by have := hnum.out; omega)
          replace c1 := Lib.hid c1
          have hA2 : i < mid := by have := hnum.out; omega
          have hB1 : mid < en := by have := hnum.out; omega
          clear h3
          go_wp2_with fail
          refine c1.out.mono ?_
          rintro e w1 ⟨rfl, h4, k1⟩
          replace kk := kk.trans k1
          replace h4 : IRow w1 base g N cap (A ++ U1 ++ V1 ++ (U2 ++ V2 ++ C)) := by simpa using h4
          clear c1 k1
          by_cases hA1 : a < i
          · have c3 := ih (A := A) (U := U1) (V := V1) (C := U2 ++ V2 ++ C) (by have := hnum.out; have := hd.out; omega) (by have := hnum.out; omega) (by have := hnum.out; omega) h4 (hcmp.keep kk) I1.out a i mid (by have := hnum.out; omega) (by have := hnum.out; omega) (by have := hnum.out; omega)
            replace c3 := Lib.hid c3
            go_wp2_with fail
            refine c3.out.mono ?_
            rintro e w2 ⟨rfl, s1, p1, S1, h5, k5⟩
            replace kk := kk.trans k5
            replace p1 := Lib.hid p1
            replace S1 := Lib.hid S1
            clear c3 k5 h4
            by_cases hB2 : en < b
            · as_aux_lemma =>
                have hl1 : Hid (s1.length = mid - a) := Lib.hid (by have := p1.out.length_eq; have := hnum.out; rw [List.length_append] at *; omega)
                have c2 := ih (A := A ++ s1) (U := U2) (V := V2) (C := C) (by have := hnum.out; have := hd.out; omega) (by have := hnum.out; omega) (by have := hnum.out; omega) (by simpa using h5) (hcmp.keep kk) I2.out mid en b (by have := hnum.out; have := hl1.out; rw [List.length_append]; omega) (by have := hnum.out; omega) (by have := hnum.out; omega)
                replace c2 := Lib.hid c2
                clear h5
                go_wp2_with fail
                refine c2.out.mono ?_
                rintro e w3 ⟨rfl, s2, p2, S2, h6, k6⟩
                go_wp2_with fail
                refine bodyPost_end (v := .tuple #[]) ?_ ?_ ?_
                · exact results_none Tryz.results150 _ _ _
                · rfl
                · exact ⟨rfl, s1 ++ s2, hper.out _ _ p1.out p2, hall.out _ _ S1.out S2 p1.out p2, by simpa using h6, kk.trans k6⟩
            · as_aux_lemma =>
                have S2 : SortedC cf (U2 ++ V2) := by
                  have hz : U2 = [] ∨ V2 = [] := by
                    by_cases h9 : mid < en
                    · right; exact List.length_eq_zero_iff.1 (by have := hnum.out; omega)
                    · left; exact List.length_eq_zero_iff.1 (by have := hnum.out; omega)
                  rcases hz with rfl | rfl
                  · exact I2.out.right
                  · rw [List.append_nil]; exact I2.out.left
                replace S2 := Lib.hid S2
                go_wp2_with fail
                refine bodyPost_end (v := .tuple #[]) ?_ ?_ ?_
                · exact results_none Tryz.results150 _ _ _
                · rfl
                · exact ⟨rfl, s1 ++ (U2 ++ V2), hper.out _ _ p1.out (List.Perm.refl _), hall.out _ _ S1.out S2.out p1.out (List.Perm.refl _), by simpa using h5, kk⟩
          · obtain ⟨s1, p1, S1, hs1⟩ : ∃ s1, Hid (s1.Perm (U1 ++ V1)) ∧ Hid (SortedC cf s1) ∧ s1 = U1 ++ V1 := ⟨U1 ++ V1, Lib.hid (List.Perm.refl _), Lib.hid (by
              have hz : U1 = [] ∨ V1 = [] := by
                by_cases h9 : a < i
                · right; exact List.length_eq_zero_iff.1 (by have := hnum.out; omega)
                · left; exact List.length_eq_zero_iff.1 (by have := hnum.out; omega)
              rcases hz with rfl | rfl
              · exact I1.out.right
              · rw [List.append_nil]; exact I1.out.left), rfl⟩
            have h5 := h4
            rw [show A ++ U1 ++ V1 ++ (U2 ++ V2 ++ C) = A ++ s1 ++ (U2 ++ V2 ++ C) by rw [hs1]; simp] at h5
            clear h4 hs1
            by_cases hB2 : en < b
            · as_aux_lemma =>
                have hl1 : Hid (s1.length = mid - a) := Lib.hid (by have := p1.out.length_eq; have := hnum.out; rw [List.length_append] at *; omega)
                have c2 := ih (A := A ++ s1) (U := U2) (V := V2) (C := C) (by have := hnum.out; have := hd.out; omega) (by have := hnum.out; omega) (by have := hnum.out; omega) (by simpa using h5) (hcmp.keep kk) I2.out mid en b (by have := hnum.out; have := hl1.out; rw [List.length_append]; omega) (by have := hnum.out; omega) (by have := hnum.out; omega)
                replace c2 := Lib.hid c2
                clear h5
                go_wp2_with fail
                refine c2.out.mono ?_
                rintro e w3 ⟨rfl, s2, p2, S2, h6, k6⟩
                go_wp2_with fail
                refine bodyPost_end (v := .tuple #[]) ?_ ?_ ?_
                · exact results_none Tryz.results150 _ _ _
                · rfl
                · exact ⟨rfl, s1 ++ s2, hper.out _ _ p1.out p2, hall.out _ _ S1.out S2 p1.out p2, by simpa using h6, kk.trans k6⟩
            · as_aux_lemma =>
                have S2 : SortedC cf (U2 ++ V2) := by
                  have hz : U2 = [] ∨ V2 = [] := by
                    by_cases h9 : mid < en
                    · right; exact List.length_eq_zero_iff.1 (by have := hnum.out; omega)
                    · left; exact List.length_eq_zero_iff.1 (by have := hnum.out; omega)
                  rcases hz with rfl | rfl
                  · exact I2.out.right
                  · rw [List.append_nil]; exact I2.out.left
                replace S2 := Lib.hid S2
                go_wp2_with fail
                refine bodyPost_end (v := .tuple #[]) ?_ ?_ ?_
                · exact results_none Tryz.results150 _ _ _
                · rfl
                · exact ⟨rfl, s1 ++ (U2 ++ V2), hper.out _ _ p1.out (List.Perm.refl _), hall.out _ _ S1.out S2.out p1.out (List.Perm.refl _), by simpa using h5, kk⟩
        · have hV10 : V1 = [] := List.length_eq_zero_iff.1 (by have := hnum.out; omega)
          have h4 := h3
          rw [show A ++ U1 ++ U2 ++ V1 ++ (V2 ++ C) = A ++ U1 ++ V1 ++ (U2 ++ V2 ++ C) by rw [hV10]; simp] at h4
          have hA1 : a < i := by have := hnum.out; omega
          have hA2 : ¬ i < mid := by have := hnum.out; omega
          have hB1 : mid < en := by have := hnum.out; omega
          have hB2 : en < b := by have := hnum.out; have := hmid.out; omega
          clear h3 hV10
          obtain ⟨s1, p1, S1, hs1⟩ : ∃ s1, Hid (s1.Perm (U1 ++ V1)) ∧ Hid (SortedC cf s1) ∧ s1 = U1 ++ V1 := ⟨U1 ++ V1, Lib.hid (List.Perm.refl _), Lib.hid (by
            have hz : U1 = [] ∨ V1 = [] := by
              by_cases h9 : a < i
              · right; exact List.length_eq_zero_iff.1 (by have := hnum.out; omega)
              · left; exact List.length_eq_zero_iff.1 (by have := hnum.out; omega)
            rcases hz with rfl | rfl
            · exact I1.out.right
            · rw [List.append_nil]; exact I1.out.left), rfl⟩
          have h5 := h4
          rw [show A ++ U1 ++ V1 ++ (U2 ++ V2 ++ C) = A ++ s1 ++ (U2 ++ V2 ++ C) by rw [hs1]; simp] at h5
          clear h4 hs1
          as_aux_lemma =>
            have hl1 : Hid (s1.length = mid - a) := Lib.hid (by have := p1.out.length_eq; have := hnum.out; rw [List.length_append] at *; omega)
            have c2 := ih (A := A ++ s1) (U := U2) (V := V2) (C := C) (by have := hnum.out; have := hd.out; omega) (by have := hnum.out; omega) (by have := hnum.out; omega) (by simpa using h5) (hcmp.keep kk) I2.out mid en b (by have := hnum.out; have := hl1.out; rw [List.length_append]; omega) (by have := hnum.out; omega) (by have := hnum.out; omega)
            replace c2 := Lib.hid c2
            clear h5
            go_wp2_with fail
            refine c2.out.mono ?_
            rintro e w3 ⟨rfl, s2, p2, S2, h6, k6⟩
            go_wp2_with fail
            refine bodyPost_end (v := .tuple #[]) ?_ ?_ ?_
            · exact results_none Tryz.results150 _ _ _
            · rfl
            · exact ⟨rfl, s1 ++ s2, hper.out _ _ p1.out p2, hall.out _ _ S1.out S2 p1.out p2, by simpa using h6, kk.trans k6⟩
      · have hU20 : U2 = [] := List.length_eq_zero_iff.1 (by have := hnum.out; omega)
        have h4 := h3
        rw [show A ++ U1 ++ U2 ++ V1 ++ (V2 ++ C) = A ++ U1 ++ V1 ++ (U2 ++ V2 ++ C) by rw [hU20]; simp] at h4
        have hA1 : a < i := by have := hnum.out; have := hmid.out; omega
        have hB1 : ¬ mid < en := by have := hnum.out; omega
        clear h3 hU20
        by_cases hA2 : i < mid
        · have c3 := ih (A := A) (U := U1) (V := V1) (C := U2 ++ V2 ++ C) (by have := hnum.out; have := hd.out; omega) (by have := hnum.out; omega) (by have := hnum.out; omega) h4 (hcmp.keep kk) I1.out a i mid (by have := hnum.out; omega) (by have := hnum.out; omega) (by have := hnum.out; omega)
          replace c3 := Lib.hid c3
          go_wp2_with fail
          refine c3.out.mono ?_
          rintro e w2 ⟨rfl, s1, p1, S1, h5, k5⟩
          replace kk := kk.trans k5
          replace p1 := Lib.hid p1
          replace S1 := Lib.hid S1
          clear c3 k5 h4
          as_aux_lemma =>
            have S2 : SortedC cf (U2 ++ V2) := by
              have hz : U2 = [] ∨ V2 = [] := by
                by_cases h9 : mid < en
                · right; exact List.length_eq_zero_iff.1 (by have := hnum.out; omega)
                · left; exact List.length_eq_zero_iff.1 (by have := hnum.out; omega)
              rcases hz with rfl | rfl
              · exact I2.out.right
              · rw [List.append_nil]; exact I2.out.left
            replace S2 := Lib.hid S2
            go_wp2_with fail
            refine bodyPost_end (v := .tuple #[]) ?_ ?_ ?_
            · exact results_none Tryz.results150 _ _ _
            · rfl
            · exact ⟨rfl, s1 ++ (U2 ++ V2), hper.out _ _ p1.out (List.Perm.refl _), hall.out _ _ S1.out S2.out p1.out (List.Perm.refl _), by simpa using h5, kk⟩
        · obtain ⟨s1, p1, S1, hs1⟩ : ∃ s1, Hid (s1.Perm (U1 ++ V1)) ∧ Hid (SortedC cf s1) ∧ s1 = U1 ++ V1 := ⟨U1 ++ V1, Lib.hid (List.Perm.refl _), Lib.hid (by
            have hz : U1 = [] ∨ V1 = [] := by
              by_cases h9 : a < i
              · right; exact List.length_eq_zero_iff.1 (by have := hnum.out; omega)
              · left; exact List.length_eq_zero_iff.1 (by have := hnum.out; omega)
            rcases hz with rfl | rfl
            · exact I1.out.right
            · rw [List.append_nil]; exact I1.out.left), rfl⟩
          have h5 := h4
          rw [show A ++ U1 ++ V1 ++ (U2 ++ V2 ++ C) = A ++ s1 ++ (U2 ++ V2 ++ C) by rw [hs1]; simp] at h5
          clear h4 hs1
          as_aux_lemma =>
            have S2 : SortedC cf (U2 ++ V2) := by
              have hz : U2 = [] ∨ V2 = [] := by
                by_cases h9 : mid < en
                · right; exact List.length_eq_zero_iff.1 (by have := hnum.out; omega)
                · left; exact List.length_eq_zero_iff.1 (by have := hnum.out; omega)
              rcases hz with rfl | rfl
              · exact I2.out.right
              · rw [List.append_nil]; exact I2.out.left
            replace S2 := Lib.hid S2
            go_wp2_with fail
            refine bodyPost_end (v := .tuple #[]) ?_ ?_ ?_
            · exact results_none Tryz.results150 _ _ _
            · rfl
            · exact ⟨rfl, s1 ++ (U2 ++ V2), hper.out _ _ p1.out (List.Perm.refl _), hall.out _ _ S1.out S2.out p1.out (List.Perm.refl _), by simpa using h5, kk⟩
end Go.Proofs.YtmioichjhiengaaGreat

/-
  slices.symMergeCmpFunc on a row of numbers.
-/
namespace Go.Proofs.YtmioichjhiengaaGreat
open Go.RowKit

theorem merge_int {base g N cap : Nat} {cb : Value} {cf : Int → Int → Int} {ok : Int → Prop} (W : Weak (ltC cf)) (hN : N ≤ 1000) : ∀ (d : Nat) {w : World} {A U V C : List Int}, U.length + V.length ≤ d → 0 < U.length → 0 < V.length →
    IRow w base g N cap (A ++ U ++ V ++ C) → CmpI cb cf ok g w → MergeIn cf ok U V → ∀ (a m b : Nat), a = A.length → m = a + U.length → b = m + V.length →
    Calls Tryz.prog 150 #[.slice (some ⟨g, 0, none⟩) N cap, .int .i64 a, .int .i64 m, .int .i64 b, .func (.func 104) #[] #[cb]] w (MergeDone w base g N cap A U V C cf) := by
  intro d
  induction d with
  | zero => intro w A U V C hd h1; omega
  | succ d ih =>
    intro w A U V C hd hU0 hV0 h hcmp H a m b ha hm hb
    by_cases hu1 : U.length = 1
    · obtain ⟨e, rfl⟩ := List.length_eq_one_iff.1 hu1
      exact merge_left_one W h hcmp H a m b ha (by simpa using hm) hb hN hV0
    by_cases hv1 : V.length = 1
    · obtain ⟨e, rfl⟩ := List.length_eq_one_iff.1 hv1
      exact merge_right_one W h hcmp H a m b ha hm (by simpa using hb) hN (by omega)
    by_cases hmm : (a + b) / 2 < m
    · exact merge_hi W hN d ih hd h hcmp H a m b ha hm hb (by omega) (by omega) hmm
    · exact merge_lo W hN d ih hd h hcmp H a m b ha hm hb (by omega) (by omega) hmm
end Go.Proofs.YtmioichjhiengaaGreat

/-
  slices.SortStableFunc on a row of numbers.
-/
namespace Go.Proofs.YtmioichjhiengaaGreat
open Go.RowKit

abbrev ChunksC (cf : Int → Int → Int) (bs : Nat) (l l0 : List Int) : Prop := Chunks (ltC cf) Int.toNat bs l l0
abbrev FullsC (cf : Int → Int → Int) (bs : Nat) (l l0 : List Int) : Prop := Fulls (ltC cf) Int.toNat bs l l0
/-- What is asked of the list that is sorted. -/
structure SortIn (ok : Int → Prop) (l : List Int) : Prop where
  tags : l.Pairwise (fun x y => x.toNat < y.toNat)
  ok : ∀ x ∈ l, ok x
theorem SortIn.merge {cf : Int → Int → Int} {ok : Int → Prop} {d0 x0 y0 z0 x y : List Int} (h : SortIn ok (d0 ++ (x0 ++ (y0 ++ z0)))) (px : x.Perm x0) (py : y.Perm y0) (sx : SortedC cf x) (sy : SortedC cf y) : MergeIn cf ok x y := by
  have h1 := (List.pairwise_append.1 h.tags).2.1
  have h2 := (List.pairwise_append.1 h1).2.2
  exact ⟨sx, sy, fun u hu v hv => h2 u (px.mem_iff.1 hu) v (List.mem_append_left _ (py.mem_iff.1 hv)),
    fun u hu => h.ok u (by simp [px.mem_iff.1 hu]), fun u hu => h.ok u (by simp [py.mem_iff.1 hu])⟩

set_option maxHeartbeats 4000000 in
theorem stable_int {w : World} {base g N cap : Nat} {L0 : List Int} {cb : Value} {cf : Int → Int → Int} {ok : Int → Prop} (W : Weak (ltC cf)) (h : IRow w base g N cap L0) (hcmp : CmpI cb cf ok g w) (H : SortIn ok L0) (hN : N ≤ 1000) :
    Calls Tryz.prog 129 #[.slice (some ⟨g, 0, none⟩) N cap, .int .i64 N, .func (.func 104) #[] #[cb]] w fun e w' => e = .returned (.tuple #[]) ∧
      ∃ S, S.Perm L0 ∧ SortedC cf S ∧ IRow w' base g N cap S ∧ Keep (one g) w w' := by
  obtain ⟨hNc, hc, hgl, hbg⟩ := h.bounds
  have hNl := h.len
  replace H := Lib.hid H
  replace hNl := Lib.hid hNl
  have hNI : (N : Int) ≤ 1000 := by omega
  go_enter Tryz.func129, Tryz.ntmps129
  go_wp2_with fail
  go_loopw [7, 8] (fun av bv wr => ∃ (a : Nat) (D D0 R : List Int), av = .int .i64 a ∧ bv = .int .i64 (a + 20 : Nat) ∧ a ≤ N ∧ Hid (a = D.length) ∧ Hid (L0 = D0 ++ R) ∧ Hid (FullsC cf 20 D D0) ∧ IRow wr base g N cap (D ++ R) ∧ Keep (one g) w wr)
    (fun av _ _ => N - (intOf av).toNat)
  case atStart => exact ⟨0, [], [], L0, rfl, by go_num, Nat.zero_le _, Lib.hid rfl, Lib.hid rfl, Lib.hid .nil, by simpa using h, Keep.refl _ _⟩
  case round =>
    clear h
    obtain ⟨a, D, D0, R, rfl, rfl, haN, ha, hL, hF, h, kk⟩ := hrel
    have hl := h.len
    rw [List.length_append] at hl
    obtain ⟨b, hb⟩ : ∃ b, b = a + 20 := ⟨_, rfl⟩
    rw [← hb]
    have hH := H.out
    rw [hL.out] at hH
    have hRt : R.Pairwise (fun x y => x.toNat < y.toNat) := (List.pairwise_append.1 hH.tags).2.1
    have hRo : ∀ x ∈ R, ok x := fun x hx => hH.ok x (List.mem_append_right _ hx)
    have ha1 := ha.out
    by_cases hbN : b ≤ N
    · have hs : R = R.take 20 ++ R.drop 20 := (List.take_append_drop _ _).symm
      have hs1 : (R.take 20).length = 20 := by rw [List.length_take]; omega
      generalize R.take 20 = r at *
      generalize R.drop 20 = R' at *
      subst hs
      have c1 := insert_int (A := D) (S := r) (C := R') W (by simpa using h) (hcmp.keep kk) (List.pairwise_append.1 hRt).1 (fun x hx => hRo x (List.mem_append_left _ hx)) a b (by omega) (by omega) hN
      replace c1 := Lib.hid c1
      obtain ⟨b2, hb2⟩ : ∃ b2, b2 = b + 20 := ⟨_, rfl⟩
      have e2 : (b : Int) + 20 = (b2 : Int) := by omega
      replace hb2 := Lib.hid hb2
      have hbI : (b : Int) ≤ 1000 := by omega
      replace hs1 := Lib.hid hs1
      replace hb := Lib.hid hb
      clear hl hH hRt hRo ha1
      go_wp2_with fail
      refine c1.out.mono ?_
      rintro e w1 ⟨rfl, r1, p1, s1, h1, k1⟩
      go_wp2_with fail
      go_roundw
      case rel => exact ⟨b, D ++ r1, D0 ++ r, R', rfl, by rw [hb2.out], hbN, Lib.hid (by rw [List.length_append, p1.length_eq]; have := ha.out; have := hs1.out; have := hb.out; omega), Lib.hid (by rw [hL.out]; simp), Lib.hid (.snoc D D0 r1 r hF.out (by rw [p1.length_eq]; exact hs1.out) p1 s1), by simpa using h1, kk.trans k1⟩
      case measure => have := hb.out; simp [intOf]; omega
    · have c1 := insert_int (A := D) (S := R) (C := []) W (by simpa using h) (hcmp.keep kk) hRt hRo a N (by omega) (by omega) hN
      replace c1 := Lib.hid c1
      have hR20 : Hid (R.length ≤ 20) := Lib.hid (by omega)
      clear hl hH hRt hRo ha1 hb
      go_wp2_with fail
      refine c1.out.mono ?_
      rintro e w1 ⟨rfl, r1, p1, s1, h1, k1⟩
      have hch : ChunksC cf 20 (D ++ r1) L0 := by
        rw [hL.out]
        exact hF.out.chunks (.single s1 p1 (by rw [p1.length_eq]; exact hR20.out))
      replace kk := kk.trans k1
      replace h1 : IRow w1 base g N cap (D ++ r1) := by simpa using h1
      replace hch := Lib.hid hch
      clear c1 k1 s1 p1 hR20 hF hL ha h
      generalize D ++ r1 = L at *
      go_wp2_with fail
      go_loopw [6, 7, 8, 9] (fun bv _ _ _ wr => ∃ (bs : Nat) (L : List Int), bv = .int .i64 bs ∧ 0 < bs ∧ bs ≤ 2000 ∧ Hid (ChunksC cf bs L L0) ∧ IRow wr base g N cap L ∧ Keep (one g) w wr)
        (fun bv _ _ _ _ => N - (intOf bv).toNat)
      case atStart => exact ⟨20, L, rfl, by omega, by omega, hch, h1, kk⟩
      case round =>
        clear h1 kk hch
        obtain ⟨bs, L, rfl, hbs, hbs2, hch, h, kk⟩ := hrel
        have hLl := Lib.hid h.len
        by_cases hlt : bs < N
        · obtain ⟨bt, hbt⟩ : ∃ bt, bt = 2 * bs := ⟨_, rfl⟩
          have ebt : 2 * (bs : Int) = (bt : Int) := by omega
          have ebt' : (bs : Int) * 2 = (bt : Int) := by omega
          have hbtI : (bt : Int) ≤ 4000 := by omega
          have hbt0 := Int.natCast_nonneg bt
          have hbs0 := Int.natCast_nonneg bs
          replace hbt := Lib.hid hbt
          go_wp2_with fail
          go_loopw [7, 8] (fun av bv wr => ∃ (a b : Nat) (D D0 M M0 : List Int), av = .int .i64 a ∧ bv = .int .i64 b ∧ a ≤ N ∧ Hid (b = a + bt) ∧ Hid (a = D.length) ∧ Hid (L0 = D0 ++ M0) ∧ Hid (FullsC cf bt D D0) ∧ Hid (ChunksC cf bs M M0) ∧ IRow wr base g N cap (D ++ M) ∧ Keep (one g) w wr)
            (fun av _ _ => N - (intOf av).toNat)
          case atStart => exact ⟨0, bt, [], [], L, L0, rfl, rfl, Nat.zero_le _, Lib.hid (by omega), Lib.hid rfl, Lib.hid rfl, Lib.hid .nil, hch, by simpa using h, kk⟩
          case round =>
            clear h kk hch hLl
            obtain ⟨a, b, D, D0, M, M0, rfl, rfl, haN, hb, ha, hL, hF, hch, h, kk⟩ := hrel
            have hl := h.len
            rw [List.length_append] at hl
            have hb1 := hb.out
            have ha1 := ha.out
            have hbt1 := hbt.out
            have hbI : (b : Int) ≤ 5000 := by omega
            have hb0 := Int.natCast_nonneg b
            obtain ⟨mm, hmm⟩ : ∃ mm, mm = a + bs := ⟨_, rfl⟩
            have emm : (a : Int) + (bs : Int) = (mm : Int) := by omega
            by_cases hbN : b ≤ N
            · obtain ⟨x, x0, z, z0, rfl, rfl, hx, px, sx, hz⟩ := hch.out.full hbs (by omega)
              rw [List.length_append] at hl
              obtain ⟨y, y0, m', m0', rfl, rfl, hy, py, sy, hm'⟩ := hz.full hbs (by omega)
              have hI : MergeIn cf ok x y := by
                have := H.out
                rw [hL.out] at this
                exact this.merge px py sx sy
              have c1 := merge_int W hN (x.length + y.length) (A := D) (U := x) (V := y) (C := m') (Nat.le_refl _) (by omega) (by omega) (by simpa using h) (hcmp.keep kk) hI a mm b ha1 (by omega) (by omega)
              replace c1 := Lib.hid c1
              obtain ⟨b2, hb2⟩ : ∃ b2, b2 = b + bt := ⟨_, rfl⟩
              have e3 : (b : Int) + (bt : Int) = (b2 : Int) := by omega
              replace hb2 := Lib.hid hb2
              have hxy : Hid (x.length + y.length = bt) := Lib.hid (by omega)
              have pxy := Lib.hid (px.append py)
              replace hmm := Lib.hid hmm
              clear hl hb1 ha1 hbt1 hI sx sy px py hx hy hz
              replace hm' := Lib.hid hm'
              go_wp2_with fail
              refine c1.out.mono ?_
              rintro e w1 ⟨rfl, S, p1, s1, h1, k1⟩
              go_wp2_with fail
              go_roundw
              case rel => exact ⟨b, b2, D ++ S, D0 ++ (x0 ++ y0), m', m0', rfl, rfl, hbN, hb2, Lib.hid (by rw [List.length_append, p1.length_eq, List.length_append]; have := ha.out; have := hxy.out; have := hb.out; omega), Lib.hid (by rw [hL.out]; simp), Lib.hid (.snoc D D0 S (x0 ++ y0) hF.out (by rw [p1.length_eq, List.length_append]; exact hxy.out) (p1.trans pxy.out) s1), hm', by simpa using h1, kk.trans k1⟩
              case measure => have := hb.out; have := hbt.out; simp [intOf]; omega
            · by_cases hmN : mm < N
              · obtain ⟨x, x0, y, y0, rfl, rfl, hx, px, sx, hy⟩ := hch.out.more (by omega)
                rw [List.length_append] at hl
                have sy := hy.one hbs (by omega)
                have hI : MergeIn cf ok x y := by
                  have := H.out
                  rw [hL.out, show D0 ++ (x0 ++ y0) = D0 ++ (x0 ++ (y0 ++ [])) by simp] at this
                  exact this.merge px hy.perm sx sy
                have c1 := merge_int W hN (x.length + y.length) (A := D) (U := x) (V := y) (C := []) (Nat.le_refl _) (by omega) (by omega) (by simpa using h) (hcmp.keep kk) hI a mm N ha1 (by omega) (by omega)
                replace c1 := Lib.hid c1
                have hxy : Hid (x.length + y.length ≤ bt) := Lib.hid (by omega)
                have pxy := Lib.hid (px.append hy.perm)
                replace hmm := Lib.hid hmm
                clear hl hb1 ha1 hbt1 hI sx sy px hx hy
                go_wp2_with fail
                refine c1.out.mono ?_
                rintro e w1 ⟨rfl, S, p1, s1, h1, k1⟩
                go_wp2_with fail
                go_roundw
                case rel => exact ⟨bt, D ++ S, by go_num, by have := hbt.out; omega, by have := hbt.out; omega, Lib.hid (by rw [hL.out]; exact hF.out.chunks (.single s1 (p1.trans pxy.out) (by rw [p1.length_eq, List.length_append]; exact hxy.out))), by simpa using h1, kk.trans k1⟩
                case measure => have := hbt.out; simp [intOf]; omega
              · have sM := hch.out.one hbs (by omega)
                have hMl : Hid (M.length ≤ bt) := Lib.hid (by omega)
                replace sM := Lib.hid sM
                replace hmm := Lib.hid hmm
                clear hl hb1 ha1 hbt1
                go_wp2_with fail
                go_roundw
                case rel => exact ⟨bt, D ++ M, by go_num, by have := hbt.out; omega, by have := hbt.out; omega, Lib.hid (by rw [hL.out]; exact hF.out.chunks (.single sM.out hch.out.perm hMl.out)), h, kk⟩
                case measure => have := hbt.out; simp [intOf]; omega
        · have hso := hch.out.one hbs (by rw [← hLl.out]; omega)
          go_wp2_with fail
          refine bodyPost_end (v := .tuple #[]) ?_ ?_ ?_
          · exact results_none Tryz.results129 _ _ _
          · rfl
          · exact ⟨rfl, L, hch.out.perm, hso, h, kk⟩

theorem sort_int {w : World} {base g N cap : Nat} {L0 : List Int} {cb : Value} {cf : Int → Int → Int} {ok : Int → Prop} (W : Weak (ltC cf)) (h : IRow w base g N cap L0) (hcmp : CmpI cb cf ok g w) (H : SortIn ok L0) (hN : N ≤ 1000) :
    Calls Tryz.prog 103 #[.slice (some ⟨g, 0, none⟩) N cap, .func (.func 104) #[] #[cb]] w fun e w' => e = .returned (.tuple #[]) ∧
      ∃ S, S.Perm L0 ∧ SortedC cf S ∧ IRow w' base g N cap S ∧ Keep (one g) w w' := by
  have c1 := Lib.hid (stable_int W h hcmp H hN)
  clear h hcmp H
  go_enter Tryz.func103, Tryz.ntmps103
  go_wp2_with fail
  refine c1.out.mono ?_
  rintro e w1 ⟨rfl, rest⟩
  go_wp2_with fail
  refine bodyPost_end (v := .tuple #[]) ?_ ?_ ?_
  · exact results_none Tryz.results103 _ _ _
  · rfl
  · exact ⟨rfl, rest⟩
end Go.Proofs.YtmioichjhiengaaGreat
