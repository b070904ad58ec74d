/-
  The walk of the law PaneKeeps.
-/
import Derived.Test.YtmioichjhiengaaKeepLaw
import Derived.Deep.CutRange
namespace Go.Proofs.Ytmioichjhiengaa
open Go.RowKit

def kK : ByteArray := ⟨#[107]⟩
theorem kK_ok : kK.size ≤ maxLen := by show 1 ≤ maxLen; unfold maxLen; omega
set_option maxHeartbeats 8000000 in
set_option maxRecDepth 100000 in
theorem law_PaneKeeps (l : List Int) (v : Value) (gap val : Int) (W : World) (hv : rSlice 1 rInt W l [v]) (hg : I64 gap) (hw : I64 val) :
    Calls Try.prog 5 #[v, .int .i64 gap, .int .i64 val] W fun e W' => e = .returned (.bool true) ∧ Below W.heap.size W W' := by
  obtain ⟨A, m, c, rfl, hsl, hok⟩ := sl_of encI I64 rInt_of hv
  clear hv
  have hml := hsl.len
  have hlc := hsl.2.1
  by_cases h60 : 60 < m
  · have hd : decide ((60 : Int) < (m : Int)) = true := by simp; omega
    clear hml hsl
    go_enter Try.func5, Try.ntmps5
    go_wp2_with fail
    refine (up7 _).mono ?_
    rintro e w1 ⟨rfl, k1⟩
    go_wp2_with fail
    go_ret
    exact ⟨by simp, k1.below (Nat.le_refl _) not_none⟩
  · have hd : decide ((60 : Int) < (m : Int)) = false := by simp; omega
    by_cases hg1 : gap < 1
    · clear hml hsl
      go_enter Try.func5, Try.ntmps5
      go_wp2_with fail
      refine (up7 _).mono ?_
      rintro e w1 ⟨rfl, k1⟩
      go_wp2_with fail
      go_ret
      exact ⟨by simp, k1.below (Nat.le_refl _) not_none⟩
    · by_cases hg2 : 1000000 < gap
      · clear hml hsl
        go_enter Try.func5, Try.ntmps5
        go_wp2_with fail
        refine (up7 _).mono ?_
        rintro e w1 ⟨rfl, k1⟩
        go_wp2_with fail
        go_ret
        exact ⟨by simp, k1.below (Nat.le_refl _) not_none⟩
      · replace hml := Lib.hid hml
        have hd1 : decide (gap < 1) = false := by simp; omega
        have hd2 : decide (1000000 < gap) = false := by simp; omega
        go_enter Try.func5, Try.ntmps5
        go_wp2_with fail
        refine (up7 _).mono ?_
        rintro e w1 ⟨rfl, k1⟩
        go_wp2_with fail
        go_loopw [8, 9, 10, 11, 12, 13, 14, 15, 16, 17, 18] (fun lv mv iv _ _ _ _ _ _ _ _ wr => ∃ (i : Nat) (L M : List Pane), iv = .int .i64 i ∧ i ≤ m ∧ PRow wr W.heap.size lv L ∧ PRow wr W.heap.size mv M ∧ Hid (KInv i val L M) ∧ Keep none_ W wr)
          (fun _ _ iv _ _ _ _ _ _ _ _ _ => m - (intOf iv).toNat)
        case atStart => exact ⟨0, [], [], rfl, Nat.zero_le _, ⟨rfl, .inl ⟨rfl, rfl⟩⟩, ⟨rfl, .inl ⟨rfl, rfl⟩⟩, Lib.hid (KInv.zero val), k1⟩
        case round =>
          clear k1
          obtain ⟨i, L, M, rfl, him, oL, oM, hK, kk⟩ := hrel
          by_cases hlt : i < m
          · have hix : i < l.length := by have := hml.out; omega
            have hsr := hsl.keep kk Off.none_
            obtain ⟨b, off, rfl, hbl, -⟩ := hsr.at_ (by omega)
            have q0 : wr.cell? ⟨b, off + i, none⟩ = some (.int .i64 l[i]) := hsr.cell1 hix
            have hxr : I64 l[i] := hok _ (List.getElem_mem hix)
            generalize l[i] = x at *
            have hlt' : (i : Int) < (m : Int) := by omega
            have hi0 := Int.natCast_nonneg i
            obtain ⟨AL, dL, rfl⟩ := own_form oL
            obtain ⟨AM, dM, rfl⟩ := own_form oM
            by_cases hx1 : x < -1000000000
            · clear hsr oL oM hK
              go_wp2_with fail
              go_ret
              exact ⟨by simp, kk.below (Nat.le_refl _) not_none⟩
            · by_cases hx2 : 1000000000 < x
              · clear hsr oL oM hK
                go_wp2_with fail
                go_ret
                exact ⟨by simp, kk.below (Nat.le_refl _) not_none⟩
              · have hdx1 : decide (x < -1000000000) = false := by simp; omega
                have hdx2 : decide (1000000000 < x) = false := by simp; omega
                have hwx : IntKind.i64.wrap (x + gap) = x + gap := by rw [IntKind.wrap_i64]; omega
                go_wp2_with fail
                go_cut [11] from 51 to 61 (fun pv w' => ∃ sb, pv = .pointer (some ⟨sb, 0, none⟩) ∧ At w' sb #[.int .i64 x, .int .i64 (x + gap)] 28 ∧ Keep none_ wr w')
                case first =>
                  clear oL oM hK
                  go_region
                  all_goals
                    go_wp2_with fail
                    go_meet
                    exact ⟨_, rfl, At.drew (At.new wr _ _), (by repeat' (first | assumption | with_reducible exact Keep.refl _ _ | with_reducible refine Keep.alloc ?_ _ | with_reducible refine Keep.drew ?_))⟩
                case rest =>
                  obtain ⟨sb, rfl, hs0, k0⟩ := hcut
                  replace hs0 : At wc sb (Span.cells ⟨x, x + gap⟩).toArray 28 := hs0
                  obtain ⟨s, hs⟩ : ∃ s : Span, s = ⟨x, x + gap⟩ := ⟨_, rfl⟩
                  rw [← hs] at hs0
                  have hsm : s.s < s.e := by subst hs; simp; omega
                  have hsok : s.ok := by subst hs; exact ⟨hxr, by simp [I64]; omega⟩
                  have hK' := hK.out
                  have hKs := hK'.step (by omega) kK_ok hsm hsok hw
                  have hcn := hKs.cnt (by omega)
                  have hLl := hK'.ll
                  have hMl := hK'.ml
                  have hLl' := hKs.ll
                  have hMl' := hKs.ml
                  have kw := kk.trans k0
                  have c1 := pane_merge (Sl.of_own pane_len (by decide) (own_keep oL k0 (fun _ _ e => e))) hK'.la.sorted hK'.lo (by omega) kK s val hw
                  have c2 := fun W' (k : Keep none_ wc W') => pane_put (Sl.of_own pane_len (by decide) (own_keep (own_keep oM k0 (fun _ _ e => e)) k (fun _ _ e => e))) hK'.ms hK'.mo (by omega) kK s val hw
                  have c5 := fun W' A' n' c' (h : Sl Pane.cells 7 W' A' n' c' (putP M kK s val)) => pane_find h hKs.ms (by have := h.len; omega) s
                  obtain ⟨pf, hpf, hps, -⟩ := findP_has (put_has hK'.ms kK s val)
                  rw [hpf] at c5
                  obtain ⟨hc1, hc2, hc3, hc4⟩ := hcn
                  have hcs := At.cell hs0
                  have hkK : kK = ⟨#[107]⟩ := rfl
                  have hlap := hKs.la
                  obtain ⟨L', hL'⟩ : ∃ L', L' = mergeP kK s val L := ⟨_, rfl⟩
                  obtain ⟨M', hM'⟩ : ∃ M', M' = putP M kK s val := ⟨_, rfl⟩
                  rw [← hL'] at hc1 hc3 hlap hLl' hKs
                  rw [← hM'] at hc2 hc4 hMl' hKs c5
                  rw [hkK] at hL' hM'
                  replace hL' := Lib.hid hL'
                  replace hM' := Lib.hid hM'
                  clear hs hx1 hx2 hdx1 hdx2 hwx hsm hsok hK hK' hsr q0 oL oM
                  simp only [Span.cells, Pane.cells] at c1 c2 c5 hcs hs0
                  rw [hkK] at c1 c2
                  replace c1 := Lib.hid c1
                  replace c2 := Lib.hid c2
                  replace c5 := Lib.hid c5
                  replace hKs := Lib.hid hKs
                  replace hlap := Lib.hid hlap
                  go_wp2_with fail
                  refine c1.out.mono ?_
                  rintro e w2 ⟨vo, vg, rfl, oL2, -, k2⟩
                  rw [← hL'.out] at oL2
                  obtain ⟨A2, d2, rfl⟩ := own_form oL2
                  have hcs2 := At.cell (Keep.at k2 hs0 (fun e => e))
                  clear c1
                  go_wp2_with fail
                  refine (c2.out _ k2).mono ?_
                  rintro e w3 ⟨v3, rfl, oM3, k3⟩
                  rw [← hM'.out] at oM3
                  obtain ⟨A3, d3, rfl⟩ := own_form oM3
                  have oL3 := own_keep oL2 k3 (fun _ _ e => e)
                  have sL := Sl.of_own pane_len (by decide) oL3
                  have sM := Sl.of_own pane_len (by decide) oM3
                  have k23 := k2.trans k3
                  have hb02 := k2.size
                  have hs3 := Keep.at k23 hs0 (fun e => e)
                  have kw3 := kw.trans k23
                  have e1 : cntW L' = (i : Int) + 1 := by rw [hc1]; omega
                  have e2 : cntW M' = (i : Int) + 1 := by rw [hc2]; omega
                  obtain ⟨T, hT⟩ : ∃ T, T = IntKind.i64.wrap (((i : Int) + 1) * val) := ⟨_, rfl⟩
                  have hw9 : wrap64 (((i + 1 : Nat) : Int) * val) = T := by
                    rw [hT, IntKind.wrap_i64]
                    unfold wrap64
                    rw [show ((i + 1 : Nat) : Int) = (i : Int) + 1 by omega]
                  have e3 : smsW L' = T := by rw [hc3, hw9]
                  have e4 : smsW M' = T := by rw [hc4, hw9]
                  have c3 := sums7 sL (by omega)
                  have c4 := sums7 sM (by omega)
                  rw [e1, e3] at c3
                  rw [e2, e4] at c4
                  replace c3 := Lib.hid c3
                  replace c4 := Lib.hid c4
                  have hT' : IntKind.i64.wrap (((i : Int) + 1) * val) = T := hT.symm
                  clear c2 hcs2 oL2 k3 k2 hc1 hc2 hc3 hc4 hw9 e1 e2 e3 e4 hT hcs
                  go_wp2_with fail
                  refine c3.out.mono ?_
                  rintro e w4 ⟨rfl, rfl⟩
                  go_wp2_with fail
                  refine c4.out.mono ?_
                  rintro e w4 ⟨rfl, rfl⟩
                  clear c3 c4
                  go_wp2_with fail
                  go_loopw [16] (fun kv wq => ∃ k : Nat, kv = .int .i64 k ∧ 1 ≤ k ∧ Keep none_ w3 wq) (fun kv _ => L'.length - (intOf kv).toNat)
                  case atStart => exact ⟨1, rfl, Nat.le_refl _, Keep.refl _ _⟩
                  case round =>
                    obtain ⟨k, rfl, hk1, kq⟩ := hrel
                    by_cases hkl : k < L'.length
                    · obtain ⟨k', rfl⟩ : ∃ k', k = k' + 1 := ⟨k - 1, by omega⟩
                      obtain ⟨bL, fL, rfl, hbL, -⟩ := sL.at_ (by omega)
                      obtain ⟨k0', hk0'⟩ : ∃ kk', kk' = k' + 1 := ⟨_, rfl⟩
                      have hap := List.pairwise_iff_getElem.1 hlap.out.apart k' (k' + 1) (by omega) hkl (by omega)
                      have hno : ¬ (L'[k' + 1].span.s < L'[k'].span.e) := by omega
                      have hcA := fun W' (kz : Keep none_ w3 W') => (sL.keep kz Off.none_).pane hkl
                      have hcB := fun W' (kz : Keep none_ w3 W') => (sL.keep kz Off.none_).pane (show k' < L'.length by omega)
                      generalize L'[k' + 1] = pa at *
                      generalize L'[k'] = pb at *
                      simp only [← hk0'] at hcA
                      have ek : (k0' : Int) - 1 = (k' : Int) := by omega
                      have hkl' : (k0' : Int) < (L'.length : Int) := by omega
                      have hkl2 : (k' : Int) < (L'.length : Int) := by omega
                      have hk00 := Int.natCast_nonneg k'
                      have hk01 := Int.natCast_nonneg k0'
                      have hdno : decide (pa.span.s < pb.span.e) = false := by simp; omega
                      rw [← hk0']
                      obtain ⟨ι, hnn, f, hf0, hfk, hfa⟩ := class_of none_ wr
                      have qa : ∀ n, (f n).cell? ⟨bL, fL + k0' * 7 + 1, none⟩ = some (.int .i64 pa.span.s) := fun n => (hcA _ (kq.trans (hfk n))).c1
                      have qb : ∀ n, (f n).cell? ⟨bL, fL + k' * 7 + 1 + 1, none⟩ = some (.int .i64 pb.span.e) := fun n => (hcB _ (kq.trans (hfk n))).c2
                      have hk63 : k0' ≤ 1000000 := by omega
                      replace hk0' := Lib.hid hk0'
                      clear hcA hcB hap hno sL
                      go_wp2_with fail
                      refine wp_region_class f (by kernel_rfl) (by kernel_rfl) hf0 ?_
                      repeat (go_big_quiet_step (fail))
                      refine wpQuiet_nil ?_
                      rintro _ ⟨nn, rfl⟩
                      replace kq := kq.trans (hfk nn)
                      clear qa qb hf0 hfk hfa
                      go_wp2_with fail
                      go_roundw
                      case rel => exact ⟨k0' + 1, by go_num, by omega, kq⟩
                      case measure => have := hk0'.out; simp [intOf]; omega
                    · have kqs := kw3.trans kq
                      have hsq := Keep.at kq hs3 (fun e => e)
                      have sMq := sM.keep kq Off.none_
                      have oLq := own_keep oL3 kq (fun _ _ e => e)
                      have oMq := own_keep oM3 kq (fun _ _ e => e)
                      have c6 := c5.out wr _ _ _ sMq
                      replace c6 := Lib.hid c6
                      have hcsq := At.cell hsq
                      have hnq := fun x y W => run_neq_Span x y W
                      clear sL sM oL3 oM3 c5 sMq
                      subst hps
                      have hne := hnq pf.span pf.span
                      rw [(Span.eqB_iff _ _).2 rfl] at hne
                      simp only [Span.cells, Bool.not_true] at hne hcsq
                      go_wp2_with fail
                      refine c6.out.mono ?_
                      rintro e w6 ⟨rfl, k6⟩
                      have hs6 := Keep.at k6 hsq (fun e => e)
                      have cs6 := At.cell hs6
                      have hs6l := hs6.lt
                      have hWs := kqs.size
                      have hWb := kw.size
                      have oL6 := own_lower (own_keep oLq k6 (fun _ _ e => e)) (b' := W.heap.size) hWb
                      have hw2 := kw3.size
                      have oM6 := own_lower (own_keep oMq k6 (fun _ _ e => e)) (b' := W.heap.size) (by have := kw.size; omega)
                      have k06 := kqs.trans k6
                      clear c6 hnq hcsq hs6 oLq oMq k6
                      go_wp2_with fail
                      go_roundw
                      case rel => exact ⟨i + 1, L', M', by go_num, by omega, own_keep oL6 (S := none_) (by repeat' (first | assumption | with_reducible exact Keep.refl _ _ | with_reducible refine Keep.alloc ?_ _ | with_reducible refine Keep.drew ?_)) (fun _ _ e => e), own_keep oM6 (S := none_) (by repeat' (first | assumption | with_reducible exact Keep.refl _ _ | with_reducible refine Keep.alloc ?_ _ | with_reducible refine Keep.drew ?_)) (fun _ _ e => e), hKs, (by repeat' (first | assumption | with_reducible exact Keep.refl _ _ | with_reducible refine Keep.alloc ?_ _ | with_reducible refine Keep.drew ?_))⟩
                      case measure => simp [intOf]; omega
          · clear hsl oL oM hK
            go_wp2_with fail
            go_ret
            exact ⟨by simp, kk.below (Nat.le_refl _) not_none⟩
end Go.Proofs.Ytmioichjhiengaa
