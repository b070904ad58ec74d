/-
  slices.SortStableFunc on a row of panes.
-/
import Derived.Test.YtmioichjhiengaaPMerge
import Derived.Test.YtmioichjhiengaaChunks
namespace Go.Proofs.Ytmioichjhiengaa
open Go.RowKit

abbrev ChunksP (cf : TP → TP → Int) (bs : Nat) (l l0 : List TP) : Prop := Chunks (ltP cf) tgP bs l l0
abbrev FullsP (cf : TP → TP → Int) (bs : Nat) (l l0 : List TP) : Prop := Fulls (ltP cf) tgP bs l l0
/-- What is asked of the list that is sorted. -/
structure SortInP (ok : TP → Prop) (l : List TP) : Prop where
  tags : l.Pairwise (fun x y => tgP x < tgP y)
  ok : ∀ x ∈ l, ok x
theorem SortInP.merge {cf : TP → TP → Int} {ok : TP → Prop} {d0 x0 y0 z0 x y : List TP} (h : SortInP ok (d0 ++ (x0 ++ (y0 ++ z0)))) (px : x.Perm x0) (py : y.Perm y0) (sx : SortedT cf x) (sy : SortedT cf y) : MergeInP cf ok x y := by
  have h1 := (List.pairwise_append.1 h.tags).2.1
  have h2 := (List.pairwise_append.1 h1).2.2
  exact ⟨sx, sy, fun u hu v hv => h2 u (px.mem_iff.1 hu) v (List.mem_append_left _ (py.mem_iff.1 hv)),
    fun u hu => h.ok u (by simp [px.mem_iff.1 hu]), fun u hu => h.ok u (by simp [py.mem_iff.1 hu])⟩

set_option maxHeartbeats 4000000 in
theorem stable_p {w : World} {base g N cap : Nat} {L0 : List TP} {cf : TP → TP → Int} {ok : TP → Prop} (W : Weak (ltP cf)) (h : PTRow w base g N cap L0) (hcmp : CmpP cf ok g w) (H : SortInP ok L0) (hN : N ≤ 1000) :
    Calls Try.prog 77 #[.slice (some ⟨g, 0, none⟩) N cap, .int .i64 N, .func (.func 49) #[] #[]] w fun e w' => e = .returned (.tuple #[]) ∧
      ∃ S, S.Perm L0 ∧ SortedT cf S ∧ PTRow w' base g N cap S ∧ Keep (one g) w w' := by
  obtain ⟨hNc, hc, hgl, hbg⟩ := h.bounds
  have hNl := h.len
  replace H := Lib.hid H
  replace hNl := Lib.hid hNl
  have hNI : (N : Int) ≤ 1000 := by omega
  go_enter Try.func77, Try.ntmps77
  go_wp2_with fail
  go_loopw [7, 8] (fun av bv wr => ∃ (a : Nat) (D D0 R : List TP), av = .int .i64 a ∧ bv = .int .i64 (a + 20 : Nat) ∧ a ≤ N ∧ Hid (a = D.length) ∧ Hid (L0 = D0 ++ R) ∧ Hid (FullsP cf 20 D D0) ∧ PTRow wr base g N cap (D ++ R) ∧ Keep (one g) w wr)
    (fun av _ _ => N - (intOf av).toNat)
  case atStart => exact ⟨0, [], [], L0, rfl, by go_num, Nat.zero_le _, Lib.hid rfl, Lib.hid rfl, Lib.hid .nil, by simpa using h, Keep.refl _ _⟩
  case round =>
    clear h
    obtain ⟨a, D, D0, R, rfl, rfl, haN, ha, hL, hF, h, kk⟩ := hrel
    have hl := h.len
    rw [List.length_append] at hl
    obtain ⟨b, hb⟩ : ∃ b, b = a + 20 := ⟨_, rfl⟩
    rw [← hb]
    have hH := H.out
    rw [hL.out] at hH
    have hRt : R.Pairwise (fun x y => tgP x < tgP y) := (List.pairwise_append.1 hH.tags).2.1
    have hRo : ∀ x ∈ R, ok x := fun x hx => hH.ok x (List.mem_append_right _ hx)
    have ha1 := ha.out
    by_cases hbN : b ≤ N
    · have hs : R = R.take 20 ++ R.drop 20 := (List.take_append_drop _ _).symm
      have hs1 : (R.take 20).length = 20 := by rw [List.length_take]; omega
      generalize R.take 20 = r at *
      generalize R.drop 20 = R' at *
      subst hs
      have c1 := insert_p (A := D) (S := r) (C := R') W (by simpa using h) (hcmp.keep kk) (List.pairwise_append.1 hRt).1 (fun x hx => hRo x (List.mem_append_left _ hx)) a b (by omega) (by omega) hN
      replace c1 := Lib.hid c1
      obtain ⟨b2, hb2⟩ : ∃ b2, b2 = b + 20 := ⟨_, rfl⟩
      have e2 : (b : Int) + 20 = (b2 : Int) := by omega
      replace hb2 := Lib.hid hb2
      have hbI : (b : Int) ≤ 1000 := by omega
      replace hs1 := Lib.hid hs1
      replace hb := Lib.hid hb
      clear hl hH hRt hRo ha1
      go_wp2_with fail
      refine c1.out.mono ?_
      rintro e w1 ⟨rfl, r1, p1, s1, h1, k1⟩
      go_wp2_with fail
      go_roundw
      case rel => exact ⟨b, D ++ r1, D0 ++ r, R', rfl, by rw [hb2.out], hbN, Lib.hid (by rw [List.length_append, p1.length_eq]; have := ha.out; have := hs1.out; have := hb.out; omega), Lib.hid (by rw [hL.out]; simp), Lib.hid (.snoc D D0 r1 r hF.out (by rw [p1.length_eq]; exact hs1.out) p1 s1), by simpa using h1, kk.trans k1⟩
      case measure => have := hb.out; simp [intOf]; omega
    · have c1 := insert_p (A := D) (S := R) (C := []) W (by simpa using h) (hcmp.keep kk) hRt hRo a N (by omega) (by omega) hN
      replace c1 := Lib.hid c1
      have hR20 : Hid (R.length ≤ 20) := Lib.hid (by omega)
      clear hl hH hRt hRo ha1 hb
      go_wp2_with fail
      refine c1.out.mono ?_
      rintro e w1 ⟨rfl, r1, p1, s1, h1, k1⟩
      have hch : ChunksP cf 20 (D ++ r1) L0 := by
        rw [hL.out]
        exact hF.out.chunks (.single s1 p1 (by rw [p1.length_eq]; exact hR20.out))
      replace kk := kk.trans k1
      replace h1 : PTRow w1 base g N cap (D ++ r1) := by simpa using h1
      replace hch := Lib.hid hch
      clear c1 k1 s1 p1 hR20 hF hL ha h
      generalize D ++ r1 = L at *
      go_wp2_with fail
      go_loopw [6, 7, 8, 9] (fun bv _ _ _ wr => ∃ (bs : Nat) (L : List TP), bv = .int .i64 bs ∧ 0 < bs ∧ bs ≤ 2000 ∧ Hid (ChunksP cf bs L L0) ∧ PTRow wr base g N cap L ∧ Keep (one g) w wr)
        (fun bv _ _ _ _ => N - (intOf bv).toNat)
      case atStart => exact ⟨20, L, rfl, by omega, by omega, hch, h1, kk⟩
      case round =>
        clear h1 kk hch
        obtain ⟨bs, L, rfl, hbs, hbs2, hch, h, kk⟩ := hrel
        have hLl := Lib.hid h.len
        by_cases hlt : bs < N
        · obtain ⟨bt, hbt⟩ : ∃ bt, bt = 2 * bs := ⟨_, rfl⟩
          have ebt : 2 * (bs : Int) = (bt : Int) := by omega
          have ebt' : (bs : Int) * 2 = (bt : Int) := by omega
          have hbtI : (bt : Int) ≤ 4000 := by omega
          have hbt0 := Int.natCast_nonneg bt
          have hbs0 := Int.natCast_nonneg bs
          replace hbt := Lib.hid hbt
          go_wp2_with fail
          go_loopw [7, 8] (fun av bv wr => ∃ (a b : Nat) (D D0 M M0 : List TP), av = .int .i64 a ∧ bv = .int .i64 b ∧ a ≤ N ∧ Hid (b = a + bt) ∧ Hid (a = D.length) ∧ Hid (L0 = D0 ++ M0) ∧ Hid (FullsP cf bt D D0) ∧ Hid (ChunksP cf bs M M0) ∧ PTRow wr base g N cap (D ++ M) ∧ Keep (one g) w wr)
            (fun av _ _ => N - (intOf av).toNat)
          case atStart => exact ⟨0, bt, [], [], L, L0, rfl, rfl, Nat.zero_le _, Lib.hid (by omega), Lib.hid rfl, Lib.hid rfl, Lib.hid .nil, hch, by simpa using h, kk⟩
          case round =>
            clear h kk hch hLl
            obtain ⟨a, b, D, D0, M, M0, rfl, rfl, haN, hb, ha, hL, hF, hch, h, kk⟩ := hrel
            have hl := h.len
            rw [List.length_append] at hl
            have hb1 := hb.out
            have ha1 := ha.out
            have hbt1 := hbt.out
            have hbI : (b : Int) ≤ 5000 := by omega
            have hb0 := Int.natCast_nonneg b
            obtain ⟨mm, hmm⟩ : ∃ mm, mm = a + bs := ⟨_, rfl⟩
            have emm : (a : Int) + (bs : Int) = (mm : Int) := by omega
            by_cases hbN : b ≤ N
            · obtain ⟨x, x0, z, z0, rfl, rfl, hx, px, sx, hz⟩ := hch.out.full hbs (by omega)
              rw [List.length_append] at hl
              obtain ⟨y, y0, m', m0', rfl, rfl, hy, py, sy, hm'⟩ := hz.full hbs (by omega)
              have hI : MergeInP cf ok x y := by
                have := H.out
                rw [hL.out] at this
                exact this.merge px py sx sy
              have c1 := merge_p W hN (x.length + y.length) (A := D) (U := x) (V := y) (C := m') (Nat.le_refl _) (by omega) (by omega) (by simpa using h) (hcmp.keep kk) hI a mm b ha1 (by omega) (by omega)
              replace c1 := Lib.hid c1
              obtain ⟨b2, hb2⟩ : ∃ b2, b2 = b + bt := ⟨_, rfl⟩
              have e3 : (b : Int) + (bt : Int) = (b2 : Int) := by omega
              replace hb2 := Lib.hid hb2
              have hxy : Hid (x.length + y.length = bt) := Lib.hid (by omega)
              have pxy := Lib.hid (px.append py)
              replace hmm := Lib.hid hmm
              clear hl hb1 ha1 hbt1 hI sx sy px py hx hy hz
              replace hm' := Lib.hid hm'
              go_wp2_with fail
              refine c1.out.mono ?_
              rintro e w1 ⟨rfl, S, p1, s1, h1, k1⟩
              go_wp2_with fail
              go_roundw
              case rel => exact ⟨b, b2, D ++ S, D0 ++ (x0 ++ y0), m', m0', rfl, rfl, hbN, hb2, Lib.hid (by rw [List.length_append, p1.length_eq, List.length_append]; have := ha.out; have := hxy.out; have := hb.out; omega), Lib.hid (by rw [hL.out]; simp), Lib.hid (.snoc D D0 S (x0 ++ y0) hF.out (by rw [p1.length_eq, List.length_append]; exact hxy.out) (p1.trans pxy.out) s1), hm', by simpa using h1, kk.trans k1⟩
              case measure => have := hb.out; have := hbt.out; simp [intOf]; omega
            · by_cases hmN : mm < N
              · obtain ⟨x, x0, y, y0, rfl, rfl, hx, px, sx, hy⟩ := hch.out.more (by omega)
                rw [List.length_append] at hl
                have sy := hy.one hbs (by omega)
                have hI : MergeInP cf ok x y := by
                  have := H.out
                  rw [hL.out, show D0 ++ (x0 ++ y0) = D0 ++ (x0 ++ (y0 ++ [])) by simp] at this
                  exact this.merge px hy.perm sx sy
                have c1 := merge_p W hN (x.length + y.length) (A := D) (U := x) (V := y) (C := []) (Nat.le_refl _) (by omega) (by omega) (by simpa using h) (hcmp.keep kk) hI a mm N ha1 (by omega) (by omega)
                replace c1 := Lib.hid c1
                have hxy : Hid (x.length + y.length ≤ bt) := Lib.hid (by omega)
                have pxy := Lib.hid (px.append hy.perm)
                replace hmm := Lib.hid hmm
                clear hl hb1 ha1 hbt1 hI sx sy px hx hy
                go_wp2_with fail
                refine c1.out.mono ?_
                rintro e w1 ⟨rfl, S, p1, s1, h1, k1⟩
                go_wp2_with fail
                go_roundw
                case rel => exact ⟨bt, D ++ S, by go_num, by have := hbt.out; omega, by have := hbt.out; omega, Lib.hid (by rw [hL.out]; exact hF.out.chunks (.single s1 (p1.trans pxy.out) (by rw [p1.length_eq, List.length_append]; exact hxy.out))), by simpa using h1, kk.trans k1⟩
                case measure => have := hbt.out; simp [intOf]; omega
              · have sM := hch.out.one hbs (by omega)
                have hMl : Hid (M.length ≤ bt) := Lib.hid (by omega)
                replace sM := Lib.hid sM
                replace hmm := Lib.hid hmm
                clear hl hb1 ha1 hbt1
                go_wp2_with fail
                go_roundw
                case rel => exact ⟨bt, D ++ M, by go_num, by have := hbt.out; omega, by have := hbt.out; omega, Lib.hid (by rw [hL.out]; exact hF.out.chunks (.single sM.out hch.out.perm hMl.out)), h, kk⟩
                case measure => have := hbt.out; simp [intOf]; omega
        · have hso := hch.out.one hbs (by rw [← hLl.out]; omega)
          go_wp2_with fail
          refine bodyPost_end (v := .tuple #[]) ?_ ?_ ?_
          · exact results_none Try.results77 _ _ _
          · rfl
          · exact ⟨rfl, L, hch.out.perm, hso, h, kk⟩

theorem sort_p {w : World} {base g N cap : Nat} {L0 : List TP} {cf : TP → TP → Int} {ok : TP → Prop} (W : Weak (ltP cf)) (h : PTRow w base g N cap L0) (hcmp : CmpP cf ok g w) (H : SortInP ok L0) (hN : N ≤ 1000) :
    Calls Try.prog 48 #[.slice (some ⟨g, 0, none⟩) N cap, .func (.func 49) #[] #[]] w fun e w' => e = .returned (.tuple #[]) ∧
      ∃ S, S.Perm L0 ∧ SortedT cf S ∧ PTRow w' base g N cap S ∧ Keep (one g) w w' := by
  have c1 := Lib.hid (stable_p W h hcmp H hN)
  clear h hcmp H
  go_enter Try.func48, Try.ntmps48
  go_wp2_with fail
  refine c1.out.mono ?_
  rintro e w1 ⟨rfl, rest⟩
  go_wp2_with fail
  refine bodyPost_end (v := .tuple #[]) ?_ ?_ ?_
  · exact results_none Try.results48 _ _ _
  · rfl
  · exact ⟨rfl, rest⟩
end Go.Proofs.Ytmioichjhiengaa
