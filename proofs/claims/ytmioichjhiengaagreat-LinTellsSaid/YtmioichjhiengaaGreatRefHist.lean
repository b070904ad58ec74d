/-
  The reference's Fine of histories.
-/
import Derived.Test.YtmioichjhiengaaGreatBaseHist
import Derived.Deep.CutBlock
set_option linter.unusedSimpArgs false
set_option linter.unusedVariables false
namespace Go.Proofs.YtmioichjhiengaaGreat
open Go.RowKit

theorem cntC_le2 (l : List Event) (p : Int) : cntC l p ≤ l.length := List.length_filter_le _ _
set_option maxHeartbeats 16000000 in
set_option maxRecDepth 100000 in
theorem ref12_fine {w : World} {A : Option Addr} {c : Nat} {l : List Event} (h : Evs w A c l) (hlen : l.length ≤ 100) (hok : ∀ x ∈ l, x.ok) :
    Calls Tryz.prog 69 #[.slice A l.length c] w fun e w' => ∃ b, e = .returned (.bool b) ∧ (b = true ↔ FineE l) ∧ Keep none_ w w' := by
  have hnc := h.2.2.1
  have hlc := h.2.1
  unfold maxLen at hnc
  go_enter Tryz.func69, Tryz.ntmps69
  go_wp2_with fail
  go_loopw [3, 4, 5, 6] (fun iv _ _ _ wr => ∃ (i : Nat), iv = .int .i64 i ∧ i ≤ l.length ∧ Hid (FineE (l.take i)) ∧ Keep none_ w wr)
    (fun iv _ _ _ _ => l.length - (intOf iv).toNat)
  case atStart => exact ⟨0, rfl, Nat.zero_le _, Lib.hid .nil, Keep.refl _ _⟩
  case round =>
    obtain ⟨i, rfl, hi, hF, k00⟩ := hrel
    by_cases hlt : i < l.length
    · obtain ⟨b, off, rfl, hbl, -⟩ := h.at_ (by omega)
      have hevok := hok l[i] (List.getElem_mem _)
      have htake : l.take (i + 1) = l.take i ++ [l[i]] := (List.take_append_getElem hlt).symm
      have hfx : FineE l → fineAt (l.take i) l[i] := fun hf => by
        have h9 := hf.take (i + 1)
        rw [htake] at h9
        exact h9.inv.2
      have ck := (h.keep k00 Off.none_).cellk hlt
      generalize l[i] = ev at *
      obtain ⟨hcl, hnI, hcok, hcode, ⟨pA, pN, pC, hpe⟩, hbg, hpt, hen⟩ := hevok
      obtain ⟨cl, n, ⟨co, cy, ct, cv, cf, cg, cs⟩, code, pn, bg, pt, en⟩ := ev
      simp only at hpe
      subst hpe
      have i0 := ck 0 (by omega)
      have i1 := ck 1 (by omega)
      have i2 := ck 2 (by omega)
      have i3 := ck 3 (by omega)
      have i4 := ck 4 (by omega)
      have i5 := ck 5 (by omega)
      have i6 := ck 6 (by omega)
      have i7 := ck 7 (by omega)
      have i8 := ck 8 (by omega)
      have i9 := ck 9 (by omega)
      have i10 := ck 10 (by omega)
      have i11 := ck 11 (by omega)
      have i12 := ck 12 (by omega)
      have i13 := ck 13 (by omega)
      simp only [Event.cells, Nat.add_zero, List.getElem?_cons_zero, List.getElem?_cons_succ] at i0 i1 i2 i3 i4 i5 i6 i7 i8 i9 i10 i11 i12 i13
      clear ck hcode hcok hbg hen hcl hnI hpt
      replace hfx := Lib.hid hfx
      replace htake := Lib.hid htake
      have k1 : Keep none_ w _ := Keep.alloc k00 (.cells #[.int .i64 cl, .int .i64 n, .int .i64 co, .string cy, .int .i64 ct, .int .i64 cv, .int .i64 cf, .int .i64 cg, .int .i64 cs, .int .i64 code, .slice pA pN pC, .int .i64 bg, .int .i64 pt, .int .i64 en] 75)
      by_cases a1 : 0 ≤ cl
      · by_cases a2 : 0 ≤ n
        · by_cases a3 : 1 ≤ bg
          · by_cases a4 : 0 ≤ pt
            · by_cases a5 : 0 ≤ en
              · have he1 := At.new wr #[.int .i64 cl, .int .i64 n, .int .i64 co, .string cy, .int .i64 ct, .int .i64 cv, .int .i64 cf, .int .i64 cg, .int .i64 cs, .int .i64 code, .slice pA pN pC, .int .i64 bg, .int .i64 pt, .int .i64 en] 75
                have ce1 := At.cell he1
                go_upto_region 7 with fail
                generalize World.alloc wr _ = w1 at *
                generalize wr.heap.size = eb at *
                clear i0 i1 i2 i3 i4 i5 i6 i7 i8 i9 i10 i11 i12 i13
                replace k00 := k1
                clear k1
                have hbl1 : b < w1.heap.size := Nat.lt_of_lt_of_le hbl k00.size
                by_cases p0 : 0 < pt
                · have pne : (pt == 0) = false := by simp; omega
                  by_cases p1 : pt < bg
                  · have hno : ¬ FineE l := fun hf => by
                      obtain ⟨⟨a1, a2, a3, a4, a5⟩, a6, a7, a8, a9, aA⟩ := hfx.out hf
                      simp only at a1 a2 a3 a4 a5 a6 a7
                      omega
                    replace hno := Lib.hid hno
                    go_wp2_with fail
                    go_ret
                    first | exact ⟨false, rfl, ⟨fun h => (by cases h), fun h => absurd h hno.out⟩, k00⟩ | exact Or.inl ⟨rfl, hno.out, k00⟩
                  · by_cases e0 : 0 < en
                    · by_cases e1 : en < pt
                      · have hno : ¬ FineE l := fun hf => by
                          obtain ⟨⟨a1, a2, a3, a4, a5⟩, a6, a7, a8, a9, aA⟩ := hfx.out hf
                          simp only at a1 a2 a3 a4 a5 a6 a7
                          omega
                        replace hno := Lib.hid hno
                        go_wp2_with fail
                        go_ret
                        first | exact ⟨false, rfl, ⟨fun h => (by cases h), fun h => absurd h hno.out⟩, k00⟩ | exact Or.inl ⟨rfl, hno.out, k00⟩
                      · have hA0 : (0 ≤ cl ∧ 0 ≤ n ∧ 1 ≤ bg ∧ 0 ≤ pt ∧ 0 ≤ en) ∧ ¬ (0 < pt ∧ pt < bg) ∧ ¬ (0 < en ∧ (pt = 0 ∨ en < pt)) := by omega
                        have hA := Lib.hid hA0
                        clear hA0
                        go_wp2_with fail
                        go_loopw [5, 6] (fun nv jv wr => ∃ (j : Nat), jv = .int .i64 j ∧ nv = .int .i64 (cntC (l.take j) cl : Nat) ∧ j ≤ i ∧ Hid (∀ m ∈ l.take j, ¬ (0 < pt ∧ m.point = pt)) ∧ Hid (∀ m ∈ l.take j, m.client = cl → ¬ (m.end_ = 0 ∨ bg ≤ m.end_)) ∧ Keep none_ w1 wr)
                          (fun _ jv _ => i - (intOf jv).toNat)
                        case atStart => exact ⟨0, rfl, by simp [cntC], Nat.zero_le _, Lib.hid (fun m hm => by simp at hm), Lib.hid (fun m hm => by simp at hm), Keep.refl _ _⟩
                        case round =>
                          obtain ⟨j, rfl, rfl, hj, hP, hC, kk⟩ := hrel
                          by_cases hjl : j < i
                          · have hjll : j < l.length := by omega
                            have htj : l.take (j + 1) = l.take j ++ [l[j]] := (List.take_append_getElem hjll).symm
                            have hmj : l[j] ∈ l.take i := by rw [List.mem_take_iff_getElem]; exact ⟨j, by omega, rfl⟩
                            have hcs := cntC_snoc (l.take j) l[j] cl
                            rw [← htj] at hcs
                            have hcle := cntC_le2 (l.take j) cl
                            rw [List.length_take] at hcle
                            have ckj := fun w' (k : Keep none_ wr w') => (h.keep (k00.trans (kk.trans k)) Off.none_).cellk hjll
                            have ce := fun w' (k : Keep none_ wr w') => At.cell (Keep.at k (Keep.at kk he1 (fun e => e)) (fun e => e))
                            have u0 := fun w' (k : Keep none_ wr w') => ckj w' k 0 (by omega)
                            have u12 := fun w' (k : Keep none_ wr w') => ckj w' k 12 (by omega)
                            have u13 := fun w' (k : Keep none_ wr w') => ckj w' k 13 (by omega)
                            simp only [Event.cells, Nat.add_zero, List.getElem?_cons_zero, List.getElem?_cons_succ] at u0 u12 u13
                            have hPn : ¬ (0 < pt ∧ l[j].point = pt) → Hid (∀ m ∈ l.take (j + 1), ¬ (0 < pt ∧ m.point = pt)) := fun h => Lib.hid (fun m hm => by
                              rw [htj] at hm
                              rcases List.mem_append.1 hm with hm | hm
                              · exact hP.out m hm
                              · have : m = l[j] := by simpa using hm
                                rw [this]; exact h)
                            have hCn : (l[j].client = cl → ¬ (l[j].end_ = 0 ∨ bg ≤ l[j].end_)) → Hid (∀ m ∈ l.take (j + 1), m.client = cl → ¬ (m.end_ = 0 ∨ bg ≤ m.end_)) := fun h => Lib.hid (fun m hm => by
                              rw [htj] at hm
                              rcases List.mem_append.1 hm with hm | hm
                              · exact hC.out m hm
                              · have : m = l[j] := by simpa using hm
                                rw [this]; exact h)
                            have hbadP : 0 < pt → l[j].point = pt → ¬ FineE l := fun h1 h2 hf => (hfx.out hf).2.2.2.1 l[j] hmj ⟨h1, h2⟩
                            have hbadC : l[j].client = cl → (l[j].end_ = 0 ∨ bg ≤ l[j].end_) → ¬ FineE l := fun h1 h2 hf => (hfx.out hf).2.2.2.2.1 l[j] hmj h1 h2
                            generalize l[j].point = yp at *
                            generalize l[j].client = yc at *
                            generalize l[j].end_ = ye at *
                            replace hPn := Lib.hid hPn
                            replace hCn := Lib.hid hCn
                            replace hbadP := Lib.hid hbadP
                            replace hbadC := Lib.hid hbadC
                            clear ckj htj hmj
                            generalize hcq : cntC (l.take j) cl = cq at *
                            generalize hcq1 : cntC (l.take (j + 1)) cl = cq1 at *
                            replace hcq1 := Lib.hid hcq1
                            clear hcq
                            have hjI : (j : Int) < (l.length : Int) := by omega
                            have hj0 := Int.natCast_nonneg j
                            obtain ⟨ι, hnn, f, hf0, hfk, hfa⟩ := class_of none_ wr
                            have cx : ∀ n i, (f n).cell? ⟨eb, i, none⟩ = _ := fun n => ce (f n) (hfk n)
                            have v0 := fun n => u0 (f n) (hfk n)
                            have v12 := fun n => u12 (f n) (hfk n)
                            have v13 := fun n => u13 (f n) (hfk n)
                            clear ce u0 u12 u13
                            by_cases hbad : 0 < pt ∧ yp = pt
                            · have hno := Lib.hid (hbadP.out hbad.1 hbad.2)
                              have hb1 : (yp == pt) = true := by simp [hbad.2]
                              have hb0 := hbad.1
                              clear hbad
                              go_wp2_with fail
                              refine wp_region_class f (by kernel_rfl) (by kernel_rfl) hf0 ?_
                              repeat (go_big_quiet_step (fail))
                              refine wpQuiet_nil ?_
                              rintro _ ⟨nn, rfl⟩
                              replace kk := kk.trans (hfk nn)
                              clear cx v0 v12 v13 hf0 hfk hfa
                              go_wp2_with fail
                              go_ret
                              first | exact ⟨false, rfl, ⟨fun h => (by cases h), fun h => absurd h hno.out⟩, k00.trans kk⟩ | exact Or.inl ⟨rfl, hno.out, k00.trans kk⟩
                            · have hP2 := hPn.out hbad
                              have hb1 : (yp == pt) = false := by simpa using fun e => hbad ⟨p0, e⟩
                              have hb0 := p0
                              clear hbad hPn
                              go_wp2_with fail
                              refine wp_region_class f (by kernel_rfl) (by kernel_rfl) hf0 ?_
                              repeat (go_big_quiet_step (fail))
                              refine wpQuiet_nil ?_
                              rintro _ ⟨nn, rfl⟩
                              replace kk := Keep.trans kk (hfk nn)
                              have ca0 := fun w' (k : Keep none_ (f nn) w') i => (show w'.cell? ⟨eb, i, none⟩ = (f nn).cell? ⟨eb, i, none⟩ from keep_cell k (Nat.lt_of_lt_of_le he1.lt (Keep.size kk)))
                              have cz : ∀ w' (k : Keep none_ (f nn) w'), (∀ i, w'.cell? ⟨eb, i, none⟩ = _) ∧ w'.cell? ⟨b, off + j * 14, none⟩ = some (.int .i64 yc) ∧ w'.cell? ⟨b, off + j * 14 + 13, none⟩ = some (.int .i64 ye) := fun w' k => ⟨fun i => (ca0 w' k i).trans (cx nn i), (keep_cell k (Nat.lt_of_lt_of_le hbl1 (Keep.size kk))).trans (v0 nn), (keep_cell k (Nat.lt_of_lt_of_le hbl1 (Keep.size kk))).trans (v13 nn)⟩
                              clear cx v0 v12 v13 hf0 hfk hfa ca0
                              generalize f nn = wq at *
                              by_cases hc9 : yc = cl
                              · have hcb : (yc != cl) = false := by simp [hc9]
                                rw [if_pos hc9] at hcs
                                subst hcs
                                by_cases hz : ye = 0
                                · have hno := Lib.hid (hbadC.out hc9 (.inl hz))
                                  have hzb : (ye == 0) = true := by simp [hz]
                                  clear hz hc9
                                  obtain ⟨ι2, hnn2, f2, hf02, hfk2, hfa2⟩ := class_of none_ wq
                                  have cx2 := fun n => (cz (f2 n) (hfk2 n)).1
                                  have v02 := fun n => (cz (f2 n) (hfk2 n)).2.1
                                  have v132 := fun n => (cz (f2 n) (hfk2 n)).2.2
                                  go_wp2_with fail
                                  refine wp_region_class f2 (by kernel_rfl) (by kernel_rfl) hf02 ?_
                                  repeat (go_big_quiet_step (fail))
                                  refine wpQuiet_nil ?_
                                  rintro _ ⟨nn2, rfl⟩
                                  replace kk := kk.trans (hfk2 nn2)
                                  replace cz := fun w' (k : Keep none_ (f2 nn2) w') => cz w' ((hfk2 nn2).trans k)
                                  clear cx2 v02 v132 hf02 hfk2 hfa2
                                  generalize f2 nn2 = wq at *
                                  obtain ⟨ι2, hnn2, f2, hf02, hfk2, hfa2⟩ := class_of none_ wq
                                  have cx2 := fun n => (cz (f2 n) (hfk2 n)).1
                                  have v02 := fun n => (cz (f2 n) (hfk2 n)).2.1
                                  have v132 := fun n => (cz (f2 n) (hfk2 n)).2.2
                                  go_wp2_with fail
                                  refine wp_region_class f2 (by kernel_rfl) (by kernel_rfl) hf02 ?_
                                  repeat (go_big_quiet_step (fail))
                                  refine wpQuiet_nil ?_
                                  rintro _ ⟨nn2, rfl⟩
                                  replace kk := kk.trans (hfk2 nn2)
                                  replace cz := fun w' (k : Keep none_ (f2 nn2) w') => cz w' ((hfk2 nn2).trans k)
                                  clear cx2 v02 v132 hf02 hfk2 hfa2
                                  generalize f2 nn2 = wq at *
                                  go_wp2_with fail
                                  go_ret
                                  first | exact ⟨false, rfl, ⟨fun h => (by cases h), fun h => absurd h hno.out⟩, k00.trans kk⟩ | exact Or.inl ⟨rfl, hno.out, k00.trans kk⟩
                                · have hzb : (ye == 0) = false := by simp [hz]
                                  by_cases hge : bg ≤ ye
                                  · have hno := Lib.hid (hbadC.out hc9 (.inr hge))
                                    clear hz hc9
                                    obtain ⟨ι2, hnn2, f2, hf02, hfk2, hfa2⟩ := class_of none_ wq
                                    have cx2 := fun n => (cz (f2 n) (hfk2 n)).1
                                    have v02 := fun n => (cz (f2 n) (hfk2 n)).2.1
                                    have v132 := fun n => (cz (f2 n) (hfk2 n)).2.2
                                    go_wp2_with fail
                                    refine wp_region_class f2 (by kernel_rfl) (by kernel_rfl) hf02 ?_
                                    repeat (go_big_quiet_step (fail))
                                    refine wpQuiet_nil ?_
                                    rintro _ ⟨nn2, rfl⟩
                                    replace kk := kk.trans (hfk2 nn2)
                                    replace cz := fun w' (k : Keep none_ (f2 nn2) w') => cz w' ((hfk2 nn2).trans k)
                                    clear cx2 v02 v132 hf02 hfk2 hfa2
                                    generalize f2 nn2 = wq at *
                                    obtain ⟨ι2, hnn2, f2, hf02, hfk2, hfa2⟩ := class_of none_ wq
                                    have cx2 := fun n => (cz (f2 n) (hfk2 n)).1
                                    have v02 := fun n => (cz (f2 n) (hfk2 n)).2.1
                                    have v132 := fun n => (cz (f2 n) (hfk2 n)).2.2
                                    go_wp2_with fail
                                    refine wp_region_class f2 (by kernel_rfl) (by kernel_rfl) hf02 ?_
                                    repeat (go_big_quiet_step (fail))
                                    refine wpQuiet_nil ?_
                                    rintro _ ⟨nn2, rfl⟩
                                    replace kk := kk.trans (hfk2 nn2)
                                    replace cz := fun w' (k : Keep none_ (f2 nn2) w') => cz w' ((hfk2 nn2).trans k)
                                    clear cx2 v02 v132 hf02 hfk2 hfa2
                                    generalize f2 nn2 = wq at *
                                    go_wp2_with fail
                                    go_ret
                                    first | exact ⟨false, rfl, ⟨fun h => (by cases h), fun h => absurd h hno.out⟩, k00.trans kk⟩ | exact Or.inl ⟨rfl, hno.out, k00.trans kk⟩
                                  · have hC2 := hCn.out (fun _ h => by omega)
                                    clear hz hc9
                                    obtain ⟨ι2, hnn2, f2, hf02, hfk2, hfa2⟩ := class_of none_ wq
                                    have cx2 := fun n => (cz (f2 n) (hfk2 n)).1
                                    have v02 := fun n => (cz (f2 n) (hfk2 n)).2.1
                                    have v132 := fun n => (cz (f2 n) (hfk2 n)).2.2
                                    go_wp2_with fail
                                    refine wp_region_class f2 (by kernel_rfl) (by kernel_rfl) hf02 ?_
                                    repeat (go_big_quiet_step (fail))
                                    refine wpQuiet_nil ?_
                                    rintro _ ⟨nn2, rfl⟩
                                    replace kk := kk.trans (hfk2 nn2)
                                    replace cz := fun w' (k : Keep none_ (f2 nn2) w') => cz w' ((hfk2 nn2).trans k)
                                    clear cx2 v02 v132 hf02 hfk2 hfa2
                                    generalize f2 nn2 = wq at *
                                    obtain ⟨ι2, hnn2, f2, hf02, hfk2, hfa2⟩ := class_of none_ wq
                                    have cx2 := fun n => (cz (f2 n) (hfk2 n)).1
                                    have v02 := fun n => (cz (f2 n) (hfk2 n)).2.1
                                    have v132 := fun n => (cz (f2 n) (hfk2 n)).2.2
                                    go_wp2_with fail
                                    refine wp_region_class f2 (by kernel_rfl) (by kernel_rfl) hf02 ?_
                                    repeat (go_big_quiet_step (fail))
                                    refine wpQuiet_nil ?_
                                    rintro _ ⟨nn2, rfl⟩
                                    replace kk := kk.trans (hfk2 nn2)
                                    replace cz := fun w' (k : Keep none_ (f2 nn2) w') => cz w' ((hfk2 nn2).trans k)
                                    clear cx2 v02 v132 hf02 hfk2 hfa2
                                    generalize f2 nn2 = wq at *
                                    go_wp2_with fail
                                    go_roundw
                                    case rel => exact ⟨j + 1, by go_num, by rw [hcq1.out]; go_num, by omega, hP2, hC2, kk⟩
                                    case measure => simp [intOf]; omega
                              · have hcb : (yc != cl) = true := by simp [hc9]
                                rw [if_neg hc9] at hcs
                                subst hcs
                                have hC2 := hCn.out (fun h => absurd h hc9)
                                clear hc9
                                obtain ⟨ι2, hnn2, f2, hf02, hfk2, hfa2⟩ := class_of none_ wq
                                have cx2 := fun n => (cz (f2 n) (hfk2 n)).1
                                have v02 := fun n => (cz (f2 n) (hfk2 n)).2.1
                                have v132 := fun n => (cz (f2 n) (hfk2 n)).2.2
                                go_wp2_with fail
                                refine wp_region_class f2 (by kernel_rfl) (by kernel_rfl) hf02 ?_
                                repeat (go_big_quiet_step (fail))
                                refine wpQuiet_nil ?_
                                rintro _ ⟨nn2, rfl⟩
                                replace kk := kk.trans (hfk2 nn2)
                                replace cz := fun w' (k : Keep none_ (f2 nn2) w') => cz w' ((hfk2 nn2).trans k)
                                clear cx2 v02 v132 hf02 hfk2 hfa2
                                generalize f2 nn2 = wq at *
                                go_wp2_with fail
                                go_roundw
                                case rel => exact ⟨j + 1, by go_num, by rw [hcq1.out], by omega, hP2, hC2, kk⟩
                                case measure => simp [intOf]; omega
                          · obtain rfl : j = i := by omega
                            replace hP := hP
                            by_cases hn9 : n = (cntC (l.take j) cl : Nat)
                            · have hnb : (n != ((cntC (l.take j) cl : Nat) : Int)) = false := by simp [hn9]
                              have hnext : FineE (l.take (j + 1)) := by
                                rw [htake.out]
                                refine .snoc _ _ hF.out ⟨hA.out.1, hA.out.2.1, hA.out.2.2, hP.out, hC.out, hn9⟩
                              replace hnext := Lib.hid hnext
                              clear hn9 hP hC
                              generalize cntC (l.take j) cl = cq at *
                              have cx := At.cell (Keep.at kk he1 (fun e => e))
                              go_wp2_with fail
                              go_roundw
                              case rel => exact ⟨j + 1, by go_num, by omega, hnext, k00.trans kk⟩
                              case measure => simp [intOf]; omega
                            · have hnb : (n != ((cntC (l.take j) cl : Nat) : Int)) = true := by simp [hn9]
                              have hno : ¬ FineE l := fun hf => hn9 (hfx.out hf).2.2.2.2.2
                              replace hno := Lib.hid hno
                              clear hn9 hP hC
                              generalize cntC (l.take j) cl = cq at *
                              have cx := At.cell (Keep.at kk he1 (fun e => e))
                              go_wp2_with fail
                              go_ret
                              first | exact ⟨false, rfl, ⟨fun h => (by cases h), fun h => absurd h hno.out⟩, k00.trans kk⟩ | exact Or.inl ⟨rfl, hno.out, k00.trans kk⟩
                    · have hA0 : (0 ≤ cl ∧ 0 ≤ n ∧ 1 ≤ bg ∧ 0 ≤ pt ∧ 0 ≤ en) ∧ ¬ (0 < pt ∧ pt < bg) ∧ ¬ (0 < en ∧ (pt = 0 ∨ en < pt)) := by omega
                      have hA := Lib.hid hA0
                      clear hA0
                      go_wp2_with fail
                      go_loopw [5, 6] (fun nv jv wr => ∃ (j : Nat), jv = .int .i64 j ∧ nv = .int .i64 (cntC (l.take j) cl : Nat) ∧ j ≤ i ∧ Hid (∀ m ∈ l.take j, ¬ (0 < pt ∧ m.point = pt)) ∧ Hid (∀ m ∈ l.take j, m.client = cl → ¬ (m.end_ = 0 ∨ bg ≤ m.end_)) ∧ Keep none_ w1 wr)
                        (fun _ jv _ => i - (intOf jv).toNat)
                      case atStart => exact ⟨0, rfl, by simp [cntC], Nat.zero_le _, Lib.hid (fun m hm => by simp at hm), Lib.hid (fun m hm => by simp at hm), Keep.refl _ _⟩
                      case round =>
                        obtain ⟨j, rfl, rfl, hj, hP, hC, kk⟩ := hrel
                        by_cases hjl : j < i
                        · have hjll : j < l.length := by omega
                          have htj : l.take (j + 1) = l.take j ++ [l[j]] := (List.take_append_getElem hjll).symm
                          have hmj : l[j] ∈ l.take i := by rw [List.mem_take_iff_getElem]; exact ⟨j, by omega, rfl⟩
                          have hcs := cntC_snoc (l.take j) l[j] cl
                          rw [← htj] at hcs
                          have hcle := cntC_le2 (l.take j) cl
                          rw [List.length_take] at hcle
                          have ckj := fun w' (k : Keep none_ wr w') => (h.keep (k00.trans (kk.trans k)) Off.none_).cellk hjll
                          have ce := fun w' (k : Keep none_ wr w') => At.cell (Keep.at k (Keep.at kk he1 (fun e => e)) (fun e => e))
                          have u0 := fun w' (k : Keep none_ wr w') => ckj w' k 0 (by omega)
                          have u12 := fun w' (k : Keep none_ wr w') => ckj w' k 12 (by omega)
                          have u13 := fun w' (k : Keep none_ wr w') => ckj w' k 13 (by omega)
                          simp only [Event.cells, Nat.add_zero, List.getElem?_cons_zero, List.getElem?_cons_succ] at u0 u12 u13
                          have hPn : ¬ (0 < pt ∧ l[j].point = pt) → Hid (∀ m ∈ l.take (j + 1), ¬ (0 < pt ∧ m.point = pt)) := fun h => Lib.hid (fun m hm => by
                            rw [htj] at hm
                            rcases List.mem_append.1 hm with hm | hm
                            · exact hP.out m hm
                            · have : m = l[j] := by simpa using hm
                              rw [this]; exact h)
                          have hCn : (l[j].client = cl → ¬ (l[j].end_ = 0 ∨ bg ≤ l[j].end_)) → Hid (∀ m ∈ l.take (j + 1), m.client = cl → ¬ (m.end_ = 0 ∨ bg ≤ m.end_)) := fun h => Lib.hid (fun m hm => by
                            rw [htj] at hm
                            rcases List.mem_append.1 hm with hm | hm
                            · exact hC.out m hm
                            · have : m = l[j] := by simpa using hm
                              rw [this]; exact h)
                          have hbadP : 0 < pt → l[j].point = pt → ¬ FineE l := fun h1 h2 hf => (hfx.out hf).2.2.2.1 l[j] hmj ⟨h1, h2⟩
                          have hbadC : l[j].client = cl → (l[j].end_ = 0 ∨ bg ≤ l[j].end_) → ¬ FineE l := fun h1 h2 hf => (hfx.out hf).2.2.2.2.1 l[j] hmj h1 h2
                          generalize l[j].point = yp at *
                          generalize l[j].client = yc at *
                          generalize l[j].end_ = ye at *
                          replace hPn := Lib.hid hPn
                          replace hCn := Lib.hid hCn
                          replace hbadP := Lib.hid hbadP
                          replace hbadC := Lib.hid hbadC
                          clear ckj htj hmj
                          generalize hcq : cntC (l.take j) cl = cq at *
                          generalize hcq1 : cntC (l.take (j + 1)) cl = cq1 at *
                          replace hcq1 := Lib.hid hcq1
                          clear hcq
                          have hjI : (j : Int) < (l.length : Int) := by omega
                          have hj0 := Int.natCast_nonneg j
                          obtain ⟨ι, hnn, f, hf0, hfk, hfa⟩ := class_of none_ wr
                          have cx : ∀ n i, (f n).cell? ⟨eb, i, none⟩ = _ := fun n => ce (f n) (hfk n)
                          have v0 := fun n => u0 (f n) (hfk n)
                          have v12 := fun n => u12 (f n) (hfk n)
                          have v13 := fun n => u13 (f n) (hfk n)
                          clear ce u0 u12 u13
                          by_cases hbad : 0 < pt ∧ yp = pt
                          · have hno := Lib.hid (hbadP.out hbad.1 hbad.2)
                            have hb1 : (yp == pt) = true := by simp [hbad.2]
                            have hb0 := hbad.1
                            clear hbad
                            go_wp2_with fail
                            refine wp_region_class f (by kernel_rfl) (by kernel_rfl) hf0 ?_
                            repeat (go_big_quiet_step (fail))
                            refine wpQuiet_nil ?_
                            rintro _ ⟨nn, rfl⟩
                            replace kk := kk.trans (hfk nn)
                            clear cx v0 v12 v13 hf0 hfk hfa
                            go_wp2_with fail
                            go_ret
                            first | exact ⟨false, rfl, ⟨fun h => (by cases h), fun h => absurd h hno.out⟩, k00.trans kk⟩ | exact Or.inl ⟨rfl, hno.out, k00.trans kk⟩
                          · have hP2 := hPn.out hbad
                            have hb1 : (yp == pt) = false := by simpa using fun e => hbad ⟨p0, e⟩
                            have hb0 := p0
                            clear hbad hPn
                            go_wp2_with fail
                            refine wp_region_class f (by kernel_rfl) (by kernel_rfl) hf0 ?_
                            repeat (go_big_quiet_step (fail))
                            refine wpQuiet_nil ?_
                            rintro _ ⟨nn, rfl⟩
                            replace kk := Keep.trans kk (hfk nn)
                            have ca0 := fun w' (k : Keep none_ (f nn) w') i => (show w'.cell? ⟨eb, i, none⟩ = (f nn).cell? ⟨eb, i, none⟩ from keep_cell k (Nat.lt_of_lt_of_le he1.lt (Keep.size kk)))
                            have cz : ∀ w' (k : Keep none_ (f nn) w'), (∀ i, w'.cell? ⟨eb, i, none⟩ = _) ∧ w'.cell? ⟨b, off + j * 14, none⟩ = some (.int .i64 yc) ∧ w'.cell? ⟨b, off + j * 14 + 13, none⟩ = some (.int .i64 ye) := fun w' k => ⟨fun i => (ca0 w' k i).trans (cx nn i), (keep_cell k (Nat.lt_of_lt_of_le hbl1 (Keep.size kk))).trans (v0 nn), (keep_cell k (Nat.lt_of_lt_of_le hbl1 (Keep.size kk))).trans (v13 nn)⟩
                            clear cx v0 v12 v13 hf0 hfk hfa ca0
                            generalize f nn = wq at *
                            by_cases hc9 : yc = cl
                            · have hcb : (yc != cl) = false := by simp [hc9]
                              rw [if_pos hc9] at hcs
                              subst hcs
                              by_cases hz : ye = 0
                              · have hno := Lib.hid (hbadC.out hc9 (.inl hz))
                                have hzb : (ye == 0) = true := by simp [hz]
                                clear hz hc9
                                obtain ⟨ι2, hnn2, f2, hf02, hfk2, hfa2⟩ := class_of none_ wq
                                have cx2 := fun n => (cz (f2 n) (hfk2 n)).1
                                have v02 := fun n => (cz (f2 n) (hfk2 n)).2.1
                                have v132 := fun n => (cz (f2 n) (hfk2 n)).2.2
                                go_wp2_with fail
                                refine wp_region_class f2 (by kernel_rfl) (by kernel_rfl) hf02 ?_
                                repeat (go_big_quiet_step (fail))
                                refine wpQuiet_nil ?_
                                rintro _ ⟨nn2, rfl⟩
                                replace kk := kk.trans (hfk2 nn2)
                                replace cz := fun w' (k : Keep none_ (f2 nn2) w') => cz w' ((hfk2 nn2).trans k)
                                clear cx2 v02 v132 hf02 hfk2 hfa2
                                generalize f2 nn2 = wq at *
                                obtain ⟨ι2, hnn2, f2, hf02, hfk2, hfa2⟩ := class_of none_ wq
                                have cx2 := fun n => (cz (f2 n) (hfk2 n)).1
                                have v02 := fun n => (cz (f2 n) (hfk2 n)).2.1
                                have v132 := fun n => (cz (f2 n) (hfk2 n)).2.2
                                go_wp2_with fail
                                refine wp_region_class f2 (by kernel_rfl) (by kernel_rfl) hf02 ?_
                                repeat (go_big_quiet_step (fail))
                                refine wpQuiet_nil ?_
                                rintro _ ⟨nn2, rfl⟩
                                replace kk := kk.trans (hfk2 nn2)
                                replace cz := fun w' (k : Keep none_ (f2 nn2) w') => cz w' ((hfk2 nn2).trans k)
                                clear cx2 v02 v132 hf02 hfk2 hfa2
                                generalize f2 nn2 = wq at *
                                go_wp2_with fail
                                go_ret
                                first | exact ⟨false, rfl, ⟨fun h => (by cases h), fun h => absurd h hno.out⟩, k00.trans kk⟩ | exact Or.inl ⟨rfl, hno.out, k00.trans kk⟩
                              · have hzb : (ye == 0) = false := by simp [hz]
                                by_cases hge : bg ≤ ye
                                · have hno := Lib.hid (hbadC.out hc9 (.inr hge))
                                  clear hz hc9
                                  obtain ⟨ι2, hnn2, f2, hf02, hfk2, hfa2⟩ := class_of none_ wq
                                  have cx2 := fun n => (cz (f2 n) (hfk2 n)).1
                                  have v02 := fun n => (cz (f2 n) (hfk2 n)).2.1
                                  have v132 := fun n => (cz (f2 n) (hfk2 n)).2.2
                                  go_wp2_with fail
                                  refine wp_region_class f2 (by kernel_rfl) (by kernel_rfl) hf02 ?_
                                  repeat (go_big_quiet_step (fail))
                                  refine wpQuiet_nil ?_
                                  rintro _ ⟨nn2, rfl⟩
                                  replace kk := kk.trans (hfk2 nn2)
                                  replace cz := fun w' (k : Keep none_ (f2 nn2) w') => cz w' ((hfk2 nn2).trans k)
                                  clear cx2 v02 v132 hf02 hfk2 hfa2
                                  generalize f2 nn2 = wq at *
                                  obtain ⟨ι2, hnn2, f2, hf02, hfk2, hfa2⟩ := class_of none_ wq
                                  have cx2 := fun n => (cz (f2 n) (hfk2 n)).1
                                  have v02 := fun n => (cz (f2 n) (hfk2 n)).2.1
                                  have v132 := fun n => (cz (f2 n) (hfk2 n)).2.2
                                  go_wp2_with fail
                                  refine wp_region_class f2 (by kernel_rfl) (by kernel_rfl) hf02 ?_
                                  repeat (go_big_quiet_step (fail))
                                  refine wpQuiet_nil ?_
                                  rintro _ ⟨nn2, rfl⟩
                                  replace kk := kk.trans (hfk2 nn2)
                                  replace cz := fun w' (k : Keep none_ (f2 nn2) w') => cz w' ((hfk2 nn2).trans k)
                                  clear cx2 v02 v132 hf02 hfk2 hfa2
                                  generalize f2 nn2 = wq at *
                                  go_wp2_with fail
                                  go_ret
                                  first | exact ⟨false, rfl, ⟨fun h => (by cases h), fun h => absurd h hno.out⟩, k00.trans kk⟩ | exact Or.inl ⟨rfl, hno.out, k00.trans kk⟩
                                · have hC2 := hCn.out (fun _ h => by omega)
                                  clear hz hc9
                                  obtain ⟨ι2, hnn2, f2, hf02, hfk2, hfa2⟩ := class_of none_ wq
                                  have cx2 := fun n => (cz (f2 n) (hfk2 n)).1
                                  have v02 := fun n => (cz (f2 n) (hfk2 n)).2.1
                                  have v132 := fun n => (cz (f2 n) (hfk2 n)).2.2
                                  go_wp2_with fail
                                  refine wp_region_class f2 (by kernel_rfl) (by kernel_rfl) hf02 ?_
                                  repeat (go_big_quiet_step (fail))
                                  refine wpQuiet_nil ?_
                                  rintro _ ⟨nn2, rfl⟩
                                  replace kk := kk.trans (hfk2 nn2)
                                  replace cz := fun w' (k : Keep none_ (f2 nn2) w') => cz w' ((hfk2 nn2).trans k)
                                  clear cx2 v02 v132 hf02 hfk2 hfa2
                                  generalize f2 nn2 = wq at *
                                  obtain ⟨ι2, hnn2, f2, hf02, hfk2, hfa2⟩ := class_of none_ wq
                                  have cx2 := fun n => (cz (f2 n) (hfk2 n)).1
                                  have v02 := fun n => (cz (f2 n) (hfk2 n)).2.1
                                  have v132 := fun n => (cz (f2 n) (hfk2 n)).2.2
                                  go_wp2_with fail
                                  refine wp_region_class f2 (by kernel_rfl) (by kernel_rfl) hf02 ?_
                                  repeat (go_big_quiet_step (fail))
                                  refine wpQuiet_nil ?_
                                  rintro _ ⟨nn2, rfl⟩
                                  replace kk := kk.trans (hfk2 nn2)
                                  replace cz := fun w' (k : Keep none_ (f2 nn2) w') => cz w' ((hfk2 nn2).trans k)
                                  clear cx2 v02 v132 hf02 hfk2 hfa2
                                  generalize f2 nn2 = wq at *
                                  go_wp2_with fail
                                  go_roundw
                                  case rel => exact ⟨j + 1, by go_num, by rw [hcq1.out]; go_num, by omega, hP2, hC2, kk⟩
                                  case measure => simp [intOf]; omega
                            · have hcb : (yc != cl) = true := by simp [hc9]
                              rw [if_neg hc9] at hcs
                              subst hcs
                              have hC2 := hCn.out (fun h => absurd h hc9)
                              clear hc9
                              obtain ⟨ι2, hnn2, f2, hf02, hfk2, hfa2⟩ := class_of none_ wq
                              have cx2 := fun n => (cz (f2 n) (hfk2 n)).1
                              have v02 := fun n => (cz (f2 n) (hfk2 n)).2.1
                              have v132 := fun n => (cz (f2 n) (hfk2 n)).2.2
                              go_wp2_with fail
                              refine wp_region_class f2 (by kernel_rfl) (by kernel_rfl) hf02 ?_
                              repeat (go_big_quiet_step (fail))
                              refine wpQuiet_nil ?_
                              rintro _ ⟨nn2, rfl⟩
                              replace kk := kk.trans (hfk2 nn2)
                              replace cz := fun w' (k : Keep none_ (f2 nn2) w') => cz w' ((hfk2 nn2).trans k)
                              clear cx2 v02 v132 hf02 hfk2 hfa2
                              generalize f2 nn2 = wq at *
                              go_wp2_with fail
                              go_roundw
                              case rel => exact ⟨j + 1, by go_num, by rw [hcq1.out], by omega, hP2, hC2, kk⟩
                              case measure => simp [intOf]; omega
                        · obtain rfl : j = i := by omega
                          replace hP := hP
                          by_cases hn9 : n = (cntC (l.take j) cl : Nat)
                          · have hnb : (n != ((cntC (l.take j) cl : Nat) : Int)) = false := by simp [hn9]
                            have hnext : FineE (l.take (j + 1)) := by
                              rw [htake.out]
                              refine .snoc _ _ hF.out ⟨hA.out.1, hA.out.2.1, hA.out.2.2, hP.out, hC.out, hn9⟩
                            replace hnext := Lib.hid hnext
                            clear hn9 hP hC
                            generalize cntC (l.take j) cl = cq at *
                            have cx := At.cell (Keep.at kk he1 (fun e => e))
                            go_wp2_with fail
                            go_roundw
                            case rel => exact ⟨j + 1, by go_num, by omega, hnext, k00.trans kk⟩
                            case measure => simp [intOf]; omega
                          · have hnb : (n != ((cntC (l.take j) cl : Nat) : Int)) = true := by simp [hn9]
                            have hno : ¬ FineE l := fun hf => hn9 (hfx.out hf).2.2.2.2.2
                            replace hno := Lib.hid hno
                            clear hn9 hP hC
                            generalize cntC (l.take j) cl = cq at *
                            have cx := At.cell (Keep.at kk he1 (fun e => e))
                            go_wp2_with fail
                            go_ret
                            first | exact ⟨false, rfl, ⟨fun h => (by cases h), fun h => absurd h hno.out⟩, k00.trans kk⟩ | exact Or.inl ⟨rfl, hno.out, k00.trans kk⟩
                · have pne : (pt == 0) = true := by simp; omega
                  by_cases e0 : 0 < en
                  · have hno : ¬ FineE l := fun hf => by
                      obtain ⟨⟨a1, a2, a3, a4, a5⟩, a6, a7, a8, a9, aA⟩ := hfx.out hf
                      simp only at a1 a2 a3 a4 a5 a6 a7
                      omega
                    replace hno := Lib.hid hno
                    go_wp2_with fail
                    go_ret
                    first | exact ⟨false, rfl, ⟨fun h => (by cases h), fun h => absurd h hno.out⟩, k00⟩ | exact Or.inl ⟨rfl, hno.out, k00⟩
                  · have hA0 : (0 ≤ cl ∧ 0 ≤ n ∧ 1 ≤ bg ∧ 0 ≤ pt ∧ 0 ≤ en) ∧ ¬ (0 < pt ∧ pt < bg) ∧ ¬ (0 < en ∧ (pt = 0 ∨ en < pt)) := by omega
                    have hA := Lib.hid hA0
                    clear hA0
                    go_wp2_with fail
                    go_loopw [5, 6] (fun nv jv wr => ∃ (j : Nat), jv = .int .i64 j ∧ nv = .int .i64 (cntC (l.take j) cl : Nat) ∧ j ≤ i ∧ Hid (∀ m ∈ l.take j, ¬ (0 < pt ∧ m.point = pt)) ∧ Hid (∀ m ∈ l.take j, m.client = cl → ¬ (m.end_ = 0 ∨ bg ≤ m.end_)) ∧ Keep none_ w1 wr)
                      (fun _ jv _ => i - (intOf jv).toNat)
                    case atStart => exact ⟨0, rfl, by simp [cntC], Nat.zero_le _, Lib.hid (fun m hm => by simp at hm), Lib.hid (fun m hm => by simp at hm), Keep.refl _ _⟩
                    case round =>
                      obtain ⟨j, rfl, rfl, hj, hP, hC, kk⟩ := hrel
                      by_cases hjl : j < i
                      · have hjll : j < l.length := by omega
                        have htj : l.take (j + 1) = l.take j ++ [l[j]] := (List.take_append_getElem hjll).symm
                        have hmj : l[j] ∈ l.take i := by rw [List.mem_take_iff_getElem]; exact ⟨j, by omega, rfl⟩
                        have hcs := cntC_snoc (l.take j) l[j] cl
                        rw [← htj] at hcs
                        have hcle := cntC_le2 (l.take j) cl
                        rw [List.length_take] at hcle
                        have ckj := fun w' (k : Keep none_ wr w') => (h.keep (k00.trans (kk.trans k)) Off.none_).cellk hjll
                        have ce := fun w' (k : Keep none_ wr w') => At.cell (Keep.at k (Keep.at kk he1 (fun e => e)) (fun e => e))
                        have u0 := fun w' (k : Keep none_ wr w') => ckj w' k 0 (by omega)
                        have u12 := fun w' (k : Keep none_ wr w') => ckj w' k 12 (by omega)
                        have u13 := fun w' (k : Keep none_ wr w') => ckj w' k 13 (by omega)
                        simp only [Event.cells, Nat.add_zero, List.getElem?_cons_zero, List.getElem?_cons_succ] at u0 u12 u13
                        have hPn : ¬ (0 < pt ∧ l[j].point = pt) → Hid (∀ m ∈ l.take (j + 1), ¬ (0 < pt ∧ m.point = pt)) := fun h => Lib.hid (fun m hm => by
                          rw [htj] at hm
                          rcases List.mem_append.1 hm with hm | hm
                          · exact hP.out m hm
                          · have : m = l[j] := by simpa using hm
                            rw [this]; exact h)
                        have hCn : (l[j].client = cl → ¬ (l[j].end_ = 0 ∨ bg ≤ l[j].end_)) → Hid (∀ m ∈ l.take (j + 1), m.client = cl → ¬ (m.end_ = 0 ∨ bg ≤ m.end_)) := fun h => Lib.hid (fun m hm => by
                          rw [htj] at hm
                          rcases List.mem_append.1 hm with hm | hm
                          · exact hC.out m hm
                          · have : m = l[j] := by simpa using hm
                            rw [this]; exact h)
                        have hbadP : 0 < pt → l[j].point = pt → ¬ FineE l := fun h1 h2 hf => (hfx.out hf).2.2.2.1 l[j] hmj ⟨h1, h2⟩
                        have hbadC : l[j].client = cl → (l[j].end_ = 0 ∨ bg ≤ l[j].end_) → ¬ FineE l := fun h1 h2 hf => (hfx.out hf).2.2.2.2.1 l[j] hmj h1 h2
                        generalize l[j].point = yp at *
                        generalize l[j].client = yc at *
                        generalize l[j].end_ = ye at *
                        replace hPn := Lib.hid hPn
                        replace hCn := Lib.hid hCn
                        replace hbadP := Lib.hid hbadP
                        replace hbadC := Lib.hid hbadC
                        clear ckj htj hmj
                        generalize hcq : cntC (l.take j) cl = cq at *
                        generalize hcq1 : cntC (l.take (j + 1)) cl = cq1 at *
                        replace hcq1 := Lib.hid hcq1
                        clear hcq
                        have hjI : (j : Int) < (l.length : Int) := by omega
                        have hj0 := Int.natCast_nonneg j
                        obtain ⟨ι, hnn, f, hf0, hfk, hfa⟩ := class_of none_ wr
                        have cx : ∀ n i, (f n).cell? ⟨eb, i, none⟩ = _ := fun n => ce (f n) (hfk n)
                        have v0 := fun n => u0 (f n) (hfk n)
                        have v12 := fun n => u12 (f n) (hfk n)
                        have v13 := fun n => u13 (f n) (hfk n)
                        clear ce u0 u12 u13
                        have hP2 := hPn.out (fun h9 => by have := h9.1; omega)
                        have hdd : decide (0 < pt) = false := by simp; omega
                        clear hPn
                        go_wp2_with fail
                        refine wp_region_class f (by kernel_rfl) (by kernel_rfl) hf0 ?_
                        repeat (go_big_quiet_step (fail))
                        refine wpQuiet_nil ?_
                        rintro _ ⟨nn, rfl⟩
                        replace kk := Keep.trans kk (hfk nn)
                        have ca0 := fun w' (k : Keep none_ (f nn) w') i => (show w'.cell? ⟨eb, i, none⟩ = (f nn).cell? ⟨eb, i, none⟩ from keep_cell k (Nat.lt_of_lt_of_le he1.lt (Keep.size kk)))
                        have cz : ∀ w' (k : Keep none_ (f nn) w'), (∀ i, w'.cell? ⟨eb, i, none⟩ = _) ∧ w'.cell? ⟨b, off + j * 14, none⟩ = some (.int .i64 yc) ∧ w'.cell? ⟨b, off + j * 14 + 13, none⟩ = some (.int .i64 ye) := fun w' k => ⟨fun i => (ca0 w' k i).trans (cx nn i), (keep_cell k (Nat.lt_of_lt_of_le hbl1 (Keep.size kk))).trans (v0 nn), (keep_cell k (Nat.lt_of_lt_of_le hbl1 (Keep.size kk))).trans (v13 nn)⟩
                        clear cx v0 v12 v13 hf0 hfk hfa ca0
                        generalize f nn = wq at *
                        by_cases hc9 : yc = cl
                        · have hcb : (yc != cl) = false := by simp [hc9]
                          rw [if_pos hc9] at hcs
                          subst hcs
                          by_cases hz : ye = 0
                          · have hno := Lib.hid (hbadC.out hc9 (.inl hz))
                            have hzb : (ye == 0) = true := by simp [hz]
                            clear hz hc9
                            obtain ⟨ι2, hnn2, f2, hf02, hfk2, hfa2⟩ := class_of none_ wq
                            have cx2 := fun n => (cz (f2 n) (hfk2 n)).1
                            have v02 := fun n => (cz (f2 n) (hfk2 n)).2.1
                            have v132 := fun n => (cz (f2 n) (hfk2 n)).2.2
                            go_wp2_with fail
                            refine wp_region_class f2 (by kernel_rfl) (by kernel_rfl) hf02 ?_
                            repeat (go_big_quiet_step (fail))
                            refine wpQuiet_nil ?_
                            rintro _ ⟨nn2, rfl⟩
                            replace kk := kk.trans (hfk2 nn2)
                            replace cz := fun w' (k : Keep none_ (f2 nn2) w') => cz w' ((hfk2 nn2).trans k)
                            clear cx2 v02 v132 hf02 hfk2 hfa2
                            generalize f2 nn2 = wq at *
                            obtain ⟨ι2, hnn2, f2, hf02, hfk2, hfa2⟩ := class_of none_ wq
                            have cx2 := fun n => (cz (f2 n) (hfk2 n)).1
                            have v02 := fun n => (cz (f2 n) (hfk2 n)).2.1
                            have v132 := fun n => (cz (f2 n) (hfk2 n)).2.2
                            go_wp2_with fail
                            refine wp_region_class f2 (by kernel_rfl) (by kernel_rfl) hf02 ?_
                            repeat (go_big_quiet_step (fail))
                            refine wpQuiet_nil ?_
                            rintro _ ⟨nn2, rfl⟩
                            replace kk := kk.trans (hfk2 nn2)
                            replace cz := fun w' (k : Keep none_ (f2 nn2) w') => cz w' ((hfk2 nn2).trans k)
                            clear cx2 v02 v132 hf02 hfk2 hfa2
                            generalize f2 nn2 = wq at *
                            go_wp2_with fail
                            go_ret
                            first | exact ⟨false, rfl, ⟨fun h => (by cases h), fun h => absurd h hno.out⟩, k00.trans kk⟩ | exact Or.inl ⟨rfl, hno.out, k00.trans kk⟩
                          · have hzb : (ye == 0) = false := by simp [hz]
                            by_cases hge : bg ≤ ye
                            · have hno := Lib.hid (hbadC.out hc9 (.inr hge))
                              clear hz hc9
                              obtain ⟨ι2, hnn2, f2, hf02, hfk2, hfa2⟩ := class_of none_ wq
                              have cx2 := fun n => (cz (f2 n) (hfk2 n)).1
                              have v02 := fun n => (cz (f2 n) (hfk2 n)).2.1
                              have v132 := fun n => (cz (f2 n) (hfk2 n)).2.2
                              go_wp2_with fail
                              refine wp_region_class f2 (by kernel_rfl) (by kernel_rfl) hf02 ?_
                              repeat (go_big_quiet_step (fail))
                              refine wpQuiet_nil ?_
                              rintro _ ⟨nn2, rfl⟩
                              replace kk := kk.trans (hfk2 nn2)
                              replace cz := fun w' (k : Keep none_ (f2 nn2) w') => cz w' ((hfk2 nn2).trans k)
                              clear cx2 v02 v132 hf02 hfk2 hfa2
                              generalize f2 nn2 = wq at *
                              obtain ⟨ι2, hnn2, f2, hf02, hfk2, hfa2⟩ := class_of none_ wq
                              have cx2 := fun n => (cz (f2 n) (hfk2 n)).1
                              have v02 := fun n => (cz (f2 n) (hfk2 n)).2.1
                              have v132 := fun n => (cz (f2 n) (hfk2 n)).2.2
                              go_wp2_with fail
                              refine wp_region_class f2 (by kernel_rfl) (by kernel_rfl) hf02 ?_
                              repeat (go_big_quiet_step (fail))
                              refine wpQuiet_nil ?_
                              rintro _ ⟨nn2, rfl⟩
                              replace kk := kk.trans (hfk2 nn2)
                              replace cz := fun w' (k : Keep none_ (f2 nn2) w') => cz w' ((hfk2 nn2).trans k)
                              clear cx2 v02 v132 hf02 hfk2 hfa2
                              generalize f2 nn2 = wq at *
                              go_wp2_with fail
                              go_ret
                              first | exact ⟨false, rfl, ⟨fun h => (by cases h), fun h => absurd h hno.out⟩, k00.trans kk⟩ | exact Or.inl ⟨rfl, hno.out, k00.trans kk⟩
                            · have hC2 := hCn.out (fun _ h => by omega)
                              clear hz hc9
                              obtain ⟨ι2, hnn2, f2, hf02, hfk2, hfa2⟩ := class_of none_ wq
                              have cx2 := fun n => (cz (f2 n) (hfk2 n)).1
                              have v02 := fun n => (cz (f2 n) (hfk2 n)).2.1
                              have v132 := fun n => (cz (f2 n) (hfk2 n)).2.2
                              go_wp2_with fail
                              refine wp_region_class f2 (by kernel_rfl) (by kernel_rfl) hf02 ?_
                              repeat (go_big_quiet_step (fail))
                              refine wpQuiet_nil ?_
                              rintro _ ⟨nn2, rfl⟩
                              replace kk := kk.trans (hfk2 nn2)
                              replace cz := fun w' (k : Keep none_ (f2 nn2) w') => cz w' ((hfk2 nn2).trans k)
                              clear cx2 v02 v132 hf02 hfk2 hfa2
                              generalize f2 nn2 = wq at *
                              obtain ⟨ι2, hnn2, f2, hf02, hfk2, hfa2⟩ := class_of none_ wq
                              have cx2 := fun n => (cz (f2 n) (hfk2 n)).1
                              have v02 := fun n => (cz (f2 n) (hfk2 n)).2.1
                              have v132 := fun n => (cz (f2 n) (hfk2 n)).2.2
                              go_wp2_with fail
                              refine wp_region_class f2 (by kernel_rfl) (by kernel_rfl) hf02 ?_
                              repeat (go_big_quiet_step (fail))
                              refine wpQuiet_nil ?_
                              rintro _ ⟨nn2, rfl⟩
                              replace kk := kk.trans (hfk2 nn2)
                              replace cz := fun w' (k : Keep none_ (f2 nn2) w') => cz w' ((hfk2 nn2).trans k)
                              clear cx2 v02 v132 hf02 hfk2 hfa2
                              generalize f2 nn2 = wq at *
                              go_wp2_with fail
                              go_roundw
                              case rel => exact ⟨j + 1, by go_num, by rw [hcq1.out]; go_num, by omega, hP2, hC2, kk⟩
                              case measure => simp [intOf]; omega
                        · have hcb : (yc != cl) = true := by simp [hc9]
                          rw [if_neg hc9] at hcs
                          subst hcs
                          have hC2 := hCn.out (fun h => absurd h hc9)
                          clear hc9
                          obtain ⟨ι2, hnn2, f2, hf02, hfk2, hfa2⟩ := class_of none_ wq
                          have cx2 := fun n => (cz (f2 n) (hfk2 n)).1
                          have v02 := fun n => (cz (f2 n) (hfk2 n)).2.1
                          have v132 := fun n => (cz (f2 n) (hfk2 n)).2.2
                          go_wp2_with fail
                          refine wp_region_class f2 (by kernel_rfl) (by kernel_rfl) hf02 ?_
                          repeat (go_big_quiet_step (fail))
                          refine wpQuiet_nil ?_
                          rintro _ ⟨nn2, rfl⟩
                          replace kk := kk.trans (hfk2 nn2)
                          replace cz := fun w' (k : Keep none_ (f2 nn2) w') => cz w' ((hfk2 nn2).trans k)
                          clear cx2 v02 v132 hf02 hfk2 hfa2
                          generalize f2 nn2 = wq at *
                          go_wp2_with fail
                          go_roundw
                          case rel => exact ⟨j + 1, by go_num, by rw [hcq1.out], by omega, hP2, hC2, kk⟩
                          case measure => simp [intOf]; omega
                      · obtain rfl : j = i := by omega
                        replace hP := hP
                        by_cases hn9 : n = (cntC (l.take j) cl : Nat)
                        · have hnb : (n != ((cntC (l.take j) cl : Nat) : Int)) = false := by simp [hn9]
                          have hnext : FineE (l.take (j + 1)) := by
                            rw [htake.out]
                            refine .snoc _ _ hF.out ⟨hA.out.1, hA.out.2.1, hA.out.2.2, hP.out, hC.out, hn9⟩
                          replace hnext := Lib.hid hnext
                          clear hn9 hP hC
                          generalize cntC (l.take j) cl = cq at *
                          have cx := At.cell (Keep.at kk he1 (fun e => e))
                          go_wp2_with fail
                          go_roundw
                          case rel => exact ⟨j + 1, by go_num, by omega, hnext, k00.trans kk⟩
                          case measure => simp [intOf]; omega
                        · have hnb : (n != ((cntC (l.take j) cl : Nat) : Int)) = true := by simp [hn9]
                          have hno : ¬ FineE l := fun hf => hn9 (hfx.out hf).2.2.2.2.2
                          replace hno := Lib.hid hno
                          clear hn9 hP hC
                          generalize cntC (l.take j) cl = cq at *
                          have cx := At.cell (Keep.at kk he1 (fun e => e))
                          go_wp2_with fail
                          go_ret
                          first | exact ⟨false, rfl, ⟨fun h => (by cases h), fun h => absurd h hno.out⟩, k00.trans kk⟩ | exact Or.inl ⟨rfl, hno.out, k00.trans kk⟩
              · have hno : ¬ FineE l := fun hf => by
                  obtain ⟨⟨a1, a2, a3, a4, a5⟩, a6, a7, a8, a9, aA⟩ := hfx.out hf
                  simp only at a1 a2 a3 a4 a5 a6 a7
                  omega
                replace hno := Lib.hid hno
                go_wp2_with fail
                go_ret
                first | exact ⟨false, rfl, ⟨fun h => (by cases h), fun h => absurd h hno.out⟩, k1⟩ | exact Or.inl ⟨rfl, hno.out, k1⟩
            · have hno : ¬ FineE l := fun hf => by
                obtain ⟨⟨a1, a2, a3, a4, a5⟩, a6, a7, a8, a9, aA⟩ := hfx.out hf
                simp only at a1 a2 a3 a4 a5 a6 a7
                omega
              replace hno := Lib.hid hno
              go_wp2_with fail
              go_ret
              first | exact ⟨false, rfl, ⟨fun h => (by cases h), fun h => absurd h hno.out⟩, k1⟩ | exact Or.inl ⟨rfl, hno.out, k1⟩
          · have hno : ¬ FineE l := fun hf => by
              obtain ⟨⟨a1, a2, a3, a4, a5⟩, a6, a7, a8, a9, aA⟩ := hfx.out hf
              simp only at a1 a2 a3 a4 a5 a6 a7
              omega
            replace hno := Lib.hid hno
            go_wp2_with fail
            go_ret
            first | exact ⟨false, rfl, ⟨fun h => (by cases h), fun h => absurd h hno.out⟩, k1⟩ | exact Or.inl ⟨rfl, hno.out, k1⟩
        · have hno : ¬ FineE l := fun hf => by
            obtain ⟨⟨a1, a2, a3, a4, a5⟩, a6, a7, a8, a9, aA⟩ := hfx.out hf
            simp only at a1 a2 a3 a4 a5 a6 a7
            omega
          replace hno := Lib.hid hno
          go_wp2_with fail
          go_ret
          first | exact ⟨false, rfl, ⟨fun h => (by cases h), fun h => absurd h hno.out⟩, k1⟩ | exact Or.inl ⟨rfl, hno.out, k1⟩
      · have hno : ¬ FineE l := fun hf => by
          obtain ⟨⟨a1, a2, a3, a4, a5⟩, a6, a7, a8, a9, aA⟩ := hfx.out hf
          simp only at a1 a2 a3 a4 a5 a6 a7
          omega
        replace hno := Lib.hid hno
        go_wp2_with fail
        go_ret
        first | exact ⟨false, rfl, ⟨fun h => (by cases h), fun h => absurd h hno.out⟩, k1⟩ | exact Or.inl ⟨rfl, hno.out, k1⟩
    · obtain rfl : i = l.length := by omega
      have hfin : FineE l := by have := hF.out; rwa [List.take_length] at this
      go_wp2_with fail
      go_ret
      first | exact ⟨true, rfl, ⟨fun _ => hfin, fun _ => rfl⟩, k00⟩ | exact Or.inr ⟨rfl, hfin, k00⟩
end Go.Proofs.YtmioichjhiengaaGreat
