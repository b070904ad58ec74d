/-
  The walk of the law HandPlays.
-/
import Derived.Test.YtlnlbegcnhelmaaHandGive
import Derived.Test.YtlnlbegcnhelmaaHandHave
import Derived.Deep.CutBlock
namespace Go.Proofs.Ytlnlbegcnhelmaa
open Go.RowKit

set_option maxHeartbeats 40000000 in
set_option maxRecDepth 100000 in
theorem hand_plays_yes (n s : Nat) (g dest : Int) (l : List Deed15) (v : Value) (W : World) (hv : rSlice 2 rDeed15 W l [v]) (h1 : 1 ≤ n) (h2 : n ≤ 16) (h3 : 1 ≤ s) (h4 : s ≤ 8) (hg : I64 g) (hto : I64 dest) :
    Calls Try.prog 9 #[.int .i64 n, .int .i64 s, .int .i64 g, .int .i64 dest, v] W fun e W' => e = .returned (.bool true) ∧ Below W.heap.size W W' := by
  obtain ⟨A, m, c, rfl, hsl, hok⟩ := sl_of enc15 Deed15.ok deed15_of hv
  clear hv
  obtain rfl := hsl.len
  have hnc := hsl.2.2.1
  have hlc := hsl.2.1
  unfold maxLen at hnc
  go_enter Try.func9, Try.ntmps9
  go_wp2_with fail
  refine (handUp _).mono ?_
  rintro e w1 ⟨rfl, k1⟩
  go_wp2_with fail
  refine (owner_new _ n s h1 h2 h3 h4).mono ?_
  rintro e w2 ⟨p, gg, rfl, k2, hp, hgg, ht⟩
  have k2 := k1.trans k2
  have hpW := Nat.le_trans k1.size hp
  have hgW := Nat.le_trans k1.size hgg
  clear k1 hp hgg
  by_cases h60 : 60 < l.length
  · have h60' : decide ((60 : Int) < l.length) = true := by simp; omega
    go_wp2_with fail
    go_ret
    exact ⟨by simp, k2.below (Nat.le_refl _) not_none⟩
  · have h60' : decide ((60 : Int) < l.length) = false := by simp; omega
    have hTl : (initT n s).length = n := initT_len n s
    by_cases hgi : 0 ≤ g ∧ g < n
    · obtain ⟨i, rfl⟩ : ∃ i : Nat, g = i := ⟨g.toNat, by omega⟩
      have hin : i < n := by omega
      have hiT : i < (initT n s).length := by omega
      have d1 : decide ((n : Int) ≤ (i : Int)) = false := by simp; omega
      have eT : (initT n s)[i] = ⟨((i % s : Nat) : Int), 0, false⟩ := by simp [initT]
      by_cases hti : 0 ≤ dest ∧ dest < s
      · obtain ⟨t, rfl⟩ : ∃ t : Nat, dest = t := ⟨dest.toNat, by omega⟩
        have d2 : decide ((s : Int) ≤ (t : Int)) = false := by simp; omega
        have c1 := hand_new ht i t hiT (by rw [eT]) (by omega)
        replace c1 := Lib.hid c1
        replace hTl := Lib.hid hTl
        go_wp2_with fail
        refine c1.out.mono ?_
        rintro e w3 ⟨hp, rfl, k3, hpl, hh, ht3⟩
        rw [eT] at hh ht3
        have kW3 : Keep none_ W w3 := Keep.fresh k2 k3 (fun z hz e => by unfold one at e; omega)
        have hhl := hh.lt
        have hhW : W.heap.size ≤ hp := Nat.le_trans k2.size hpl
        have hne1 : hp ≠ p := fun e => by have := ht.self.lt; omega
        have hne2 : hp ≠ gg := fun e => by have := ht.row.lt; omega
        have ht3' : TabAt w3 p gg (stepT n s i t 0) s := ht3
        have hc : i < (stepT n s i t 0).length := by rw [stepT_len]; exact hin
        have c3 := owner_of ht3' i hc
        rw [stepT_at n s i t 0 hin, if_pos (by omega)] at c3
        simp only [Own.cells] at c3
        replace c3 := Lib.hid c3
        clear c1 ht k2 k3 eT hTl hiT ht3 hpl
        go_wp2_with fail
        refine (code_nil _).mono ?_
        rintro e w4 ⟨rfl, rfl⟩
        go_wp2_with fail
        refine c3.out.mono ?_
        rintro e w5 ⟨rfl, k5⟩
        have hx := At.new w5 #[.int .i64 ((i % s : Nat) : Int), .int .i64 0, .bool true] 54
        have k5' := Keep.alloc k5 (.cells #[.int .i64 ((i % s : Nat) : Int), .int .i64 0, .bool true] 54)
        clear c3 k5
        have c4 := Lib.hid (fun w => group_new w ⟨0, 10, 0, 0, 0, 1, 1, 1⟩ (by simp [Config.ok, I64]) (by decide))
        go_wp2_with fail
        refine (c4.out _).mono ?_
        rintro e w6 ⟨gp, mp, tp, clock, rfl, k6, hgp, -, -, -, -, -⟩
        have hx6 := Keep.at k6 hx (fun e => e)
        have cx := At.cell hx6
        have hi0 : HI W n s i t p gg hp gp 0 w6 := ⟨Keep.at (k5'.trans k6) hh (fun e => e), ht3'.keep (k5'.trans k6) (fun e => e) (fun e => e), kW3.trans (k5'.trans k6)⟩
        clear hx hx6 k5' k6 c4 hh ht3' kW3 hgp hc
        go_wp2_with fail
        clear cx
        go_loopw [21, 22, 23, 24, 25, 26, 27, 28, 29, 30, 31] (fun phs ii _ _ _ _ _ _ _ _ _ wr => ∃ k ph : Nat, k ≤ l.length ∧ ph ≤ 4 ∧ phs = .int .i64 ph ∧ ii = .int .i64 k ∧ HI W n s i t p gg hp gp ph wr)
          (fun _ ii _ _ _ _ _ _ _ _ _ _ => l.length - (intOf ii).toNat)
        case atStart => exact ⟨0, 0, Nat.zero_le _, by omega, rfl, rfl, hi0⟩
        case round =>
          clear hi0
          obtain ⟨k, ph, hk, hph, rfl, rfl, hi⟩ := hrel
          by_cases hlt : k < l.length
          · obtain ⟨b, off, rfl, hbl, -⟩ := hsl.at_ (by omega)
            have e0 : W.cell? ⟨b, off + k * 2, none⟩ = some (.int .i64 l[k].what) := hsl.cellk hlt 0 (by omega)
            have e1 : W.cell? ⟨b, off + k * 2 + 1, none⟩ = some (.bool l[k].other) := hsl.cellk hlt 1 (by omega)
            have hw : I64 l[k].what := hok l[k] (List.getElem_mem _)
            have hpr := pick_range l[k].what 3 (by omega)
            generalize l[k].other = ot at *
            have cm := fun m w => run_neq_msg_self m w
            have ca := hand_ask hi.hand
            obtain ⟨who, m, is, hr⟩ : ∃ who m is, HandAsk ⟨i, ((i % s : Nat) : Int), t, ph, stepS gp ph⟩ = (who, m, is) := ⟨_, _, _, rfl⟩
            rw [hr] at ca
            simp only [Msg.cells] at ca
            replace ca := Lib.hid ca
            replace hr := Lib.hid hr
            have hphI : (0 : Int) ≤ (ph : Int) := Int.natCast_nonneg ph
            go_upto_block 1 with fail
            go_cut [21, 23, 24, 25, 26, 27, 28, 29, 30, 31] from 116 to 261 (fun phs _ _ _ _ _ _ _ _ _ wx => ∃ ph' : Nat, phs = .int .i64 ph' ∧ ph' ≤ 4 ∧ HI W n s i t p gg hp gp ph' wx)
            case rest =>
              clear ca hr hi
              obtain ⟨ph', rfl, hph', hi'⟩ := hcut
              go_wp2_with fail
              go_roundw
              case rel => exact ⟨k + 1, ph', by omega, hph', rfl, by go_num, hi'⟩
              case measure => simp [intOf]; omega
            case first =>
              clear_value *
              go_wp2_with fail
              refine ca.out.mono ?_
              rintro e w7 ⟨rfl, k7⟩
              clear ca
              have hm8 := At.new w7 m.cells.toArray 85
              have hi8 := hi.none (Keep.alloc k7 (.cells m.cells.toArray 85))
              simp only [Msg.cells] at hm8 hi8
              clear hi k7
              go_upto_region 24 with fail
              generalize w7.alloc _ = w8 at *
              generalize w7.heap.size = mb at *
              go_cut [142] from 116 to 261 (fun c wx => c = .bool false ∧ w8 = wx)
              case first =>
                rcases (show ph = 0 ∨ ph = 1 ∨ ph = 2 ∨ ph = 3 ∨ ph = 4 by omega) with rfl | rfl | rfl | rfl | rfl
                all_goals
                  have hr1 := hr.out
                  simp [HandAsk, stepS] at hr1
                  obtain ⟨rfl, rfl, rfl⟩ := hr1
                  simp only [Msg.give, Msg.have_, Msg.zero, Msg.cells, Call.zero, ptr, Option.map_none, Option.map_some] at *
                all_goals
                  as_aux_lemma =>
                    have cov := hand_over hi8.hand
                    simp at cov
                    replace cov := Lib.hid cov
                    go_wp2_with fail
                    refine cov.out.mono ?_
                    rintro e w9 ⟨rfl, rfl⟩
                    go_wp2_with fail
                    go_meet
                    exact ⟨rfl, rfl⟩
              case rest =>
                obtain ⟨rfl, rfl⟩ := hcut
                go_upto_region 26 with fail
                go_cut [153] from 116 to 261 (fun c wx => c = .bool false ∧ w8 = wx)
                case first =>
                  rcases (show ph = 0 ∨ ph = 1 ∨ ph = 2 ∨ ph = 3 ∨ ph = 4 by omega) with rfl | rfl | rfl | rfl | rfl
                  all_goals
                    have hr1 := hr.out
                    simp [HandAsk, stepS] at hr1
                    obtain ⟨rfl, rfl, rfl⟩ := hr1
                    simp only [Msg.give, Msg.have_, Msg.zero, Msg.cells, Call.zero, ptr, Option.map_none, Option.map_some] at *
                  all_goals
                    as_aux_lemma =>
                      have cm8 := At.cell hm8
                      have hcm := cm Msg.zero
                      simp only [Msg.zero, Msg.cells, Call.zero, ptr, Option.map_none] at hcm
                      go_wp2_with fail
                      go_meet
                      exact ⟨rfl, rfl⟩
                case rest =>
                  obtain ⟨rfl, rfl⟩ := hcut
                  go_upto_region 28 with fail
                  go_cut [168] from 116 to 261 (fun c wx => c = .bool false ∧ w8 = wx)
                  case first =>
                    rcases (show ph = 0 ∨ ph = 1 ∨ ph = 2 ∨ ph = 3 ∨ ph = 4 by omega) with rfl | rfl | rfl | rfl | rfl
                    all_goals
                      have hr1 := hr.out
                      simp [HandAsk, stepS] at hr1
                      obtain ⟨rfl, rfl, rfl⟩ := hr1
                      simp only [Msg.give, Msg.have_, Msg.zero, Msg.cells, Call.zero, ptr, Option.map_none, Option.map_some] at *
                    all_goals
                      as_aux_lemma =>
                        have cm8 := At.cell hm8
                        have hcm := cm (Msg.give i)
                        simp only [Msg.give, Msg.cells, Call.zero, ptr, Option.map_none] at hcm
                        go_wp2_with fail
                        go_meet
                        exact ⟨rfl, rfl⟩
                  case rest =>
                    obtain ⟨rfl, rfl⟩ := hcut
                    go_upto_region 30 with fail
                    go_cut [182] from 116 to 261 (fun c wx => c = .bool false ∧ w8 = wx)
                    case first =>
                      rcases (show ph = 0 ∨ ph = 1 ∨ ph = 2 ∨ ph = 3 ∨ ph = 4 by omega) with rfl | rfl | rfl | rfl | rfl
                      all_goals
                        have hr1 := hr.out
                        simp [HandAsk, stepS] at hr1
                        obtain ⟨rfl, rfl, rfl⟩ := hr1
                        simp only [Msg.give, Msg.have_, Msg.zero, Msg.cells, Call.zero, ptr, Option.map_none, Option.map_some] at *
                      all_goals
                        as_aux_lemma =>
                          have cm8 := At.cell hm8
                          have hcm := cm (Msg.have_ i (some gp))
                          simp only [Msg.have_, Msg.cells, Call.zero, ptr, Option.map_some] at hcm
                          go_wp2_with fail
                          go_meet
                          exact ⟨rfl, rfl⟩
                    case rest =>
                      obtain ⟨rfl, rfl⟩ := hcut
                      clear hm8 cm
                      have f0 := ((hi8.keep.below (Nat.le_refl _) not_none).cell hbl).trans e0
                      have f1 := ((hi8.keep.below (Nat.le_refl _) not_none).cell hbl).trans e1
                      have f2 := fun o => (((hi8.none (Keep.alloc (Keep.refl none_ w8) o)).keep.below (Nat.le_refl _) not_none).cell hbl).trans e1
                      generalize l[k].what = wt at *
                      go_wp2_with fail
                      refine (pick_any _ _ _ hw.1 hw.2 (by omega) (by omega)).mono ?_
                      rintro e w9 ⟨rfl, rfl⟩
                      generalize pick wt 3 = u at hpr ⊢
                      clear f0
                      go_upto_if 194 with fail
                      go_cut [27] from 116 to 261 (fun c wx => c = .int .i64 (if ot then (i : Int) + 1 else i) ∧ w8 = wx)
                      case first =>
                        cases ot
                        · go_wp2_with fail
                          go_meet
                          exact ⟨rfl, rfl⟩
                        · go_wp2_with fail
                          go_meet
                          exact ⟨rfl, rfl⟩
                      case rest =>
                        obtain ⟨rfl, rfl⟩ := hcut
                        obtain ⟨ow, how⟩ : ∃ ow : Int, ow = if ot then (i : Int) + 1 else i := ⟨_, rfl⟩
                        rw [← how]
                        replace how := Lib.hid how
                        have how2 : (ot = true ∧ ow ≠ i) ∨ (ot = false ∧ ow = i) := by
                          have := how.out
                          cases ot
                          · right; exact ⟨rfl, by simpa using this⟩
                          · left; exact ⟨rfl, by simp at this; omega⟩
                        replace how2 := Lib.hid how2
                        apply_assumption
                        have his : is = true ↔ ph = 0 ∨ ph = 2 := by
                          have h9 := congrArg (fun t => t.2.2) hr.out
                          rcases (show ph = 0 ∨ ph = 1 ∨ ph = 2 ∨ ph = 3 ∨ ph = 4 by omega) with rfl | rfl | rfl | rfl | rfl <;> simp [HandAsk] at h9 <;> simp [← h9]
                        rcases (show u = 0 ∨ u = 1 ∨ u = 2 by omega) with rfl | rfl | rfl
                        · refine hr_sent i t k ph p gg hp gp n s b off c is ow l W w8 _ _ hph hi8 hne1 hne2 hhW hpW hgW his ?_
                          intro ph' pv wx u28 u29 u30 u31 u197 u198 u199 u200 u201 u202 u203 u204 u205 u206 u207 u208 u209 u210 u211 u212 u213 u214 u215 u216 u217 u218 u219 u220 u221 u222 u223 u224 u225 u226 u227 u228 u229 u230 u231 u232 u233 u234 u235 u236 u237 u238 u239 u240 u241 u242 u243 u244 u245 u246 u247 u248 u249 u250 u251 u252 u253 u254 u255 u256 u257 u258 u259 u260 u261 rfl h9 hi9
                          go_wp2_with fail
                          go_meet
                          exact ⟨ph', rfl, h9, hi9⟩
                        · refine hr_give i t k ph p gg hp gp n s b off c is ow ot l W w8 _ _ hph hi8 hne1 hne2 hhW hpW hgW hin hlt e1 hbl how2.out ?_
                          intro ph' pv wx u28 u29 u30 u31 u197 u198 u199 u200 u201 u202 u203 u204 u205 u206 u207 u208 u209 u210 u211 u212 u213 u214 u215 u216 u217 u218 u219 u220 u221 u222 u223 u224 u225 u226 u227 u228 u229 u230 u231 u232 u233 u234 u235 u236 u237 u238 u239 u240 u241 u242 u243 u244 u245 u246 u247 u248 u249 u250 u251 u252 u253 u254 u255 u256 u257 u258 u259 u260 u261 rfl h9 hi9
                          go_wp2_with fail
                          go_meet
                          exact ⟨ph', rfl, h9, hi9⟩
                        · refine hr_have i t k ph p gg hp gp n s b off c is ow ot l W w8 _ _ hph hi8 hne1 hne2 hhW hpW hgW hin (by omega) hlt e1 hbl how2.out ?_
                          intro ph' pv wx u28 u29 u30 u31 u197 u198 u199 u200 u201 u202 u203 u204 u205 u206 u207 u208 u209 u210 u211 u212 u213 u214 u215 u216 u217 u218 u219 u220 u221 u222 u223 u224 u225 u226 u227 u228 u229 u230 u231 u232 u233 u234 u235 u236 u237 u238 u239 u240 u241 u242 u243 u244 u245 u246 u247 u248 u249 u250 u251 u252 u253 u254 u255 u256 u257 u258 u259 u260 u261 rfl h9 hi9
                          go_wp2_with fail
                          go_meet
                          exact ⟨ph', rfl, h9, hi9⟩
          · have kk := hi.keep
            clear hi
            go_wp2_with fail
            go_ret
            exact ⟨by simp, kk.below (Nat.le_refl _) not_none⟩
      · have c1 := Lib.hid (hand_new_arg ht i dest hiT (by rw [eT]) (by omega))
        have c2 := owner_of ht i hiT
        have c3 := Lib.hid (fun w (k : Keep none_ w2 w) => owner_of (ht.keep k (fun e => e) (fun e => e)) i hiT)
        rw [eT] at c3
        simp only [Own.cells] at c3
        clear c2 eT
        replace hTl := Lib.hid hTl
        by_cases hto0 : dest < 0
        · go_wp2_with fail
          refine c1.out.mono ?_
          rintro e w3 ⟨rfl, k3⟩
          go_wp2_with fail
          refine (code_err _ 1 (by omega) (by omega)).mono ?_
          rintro e w4 ⟨rfl, rfl⟩
          go_wp2_with fail
          refine (c3.out _ k3).mono ?_
          rintro e w5 ⟨rfl, k5⟩
          replace k2 := (k2.trans k3).trans k5
          go_wp2_with fail
          go_ret
          exact ⟨by simp, (Keep.alloc k2 _).below (Nat.le_refl _) not_none⟩
        · have d2 : decide ((s : Int) ≤ dest) = true := by simp; omega
          go_wp2_with fail
          refine c1.out.mono ?_
          rintro e w3 ⟨rfl, k3⟩
          go_wp2_with fail
          refine (code_err _ 1 (by omega) (by omega)).mono ?_
          rintro e w4 ⟨rfl, rfl⟩
          go_wp2_with fail
          refine (c3.out _ k3).mono ?_
          rintro e w5 ⟨rfl, k5⟩
          replace k2 := (k2.trans k3).trans k5
          go_wp2_with fail
          go_ret
          exact ⟨by simp, (Keep.alloc k2 _).below (Nat.le_refl _) not_none⟩
    · have hout : g < 0 ∨ ((initT n s).length : Int) ≤ g := by omega
      have c1 := Lib.hid (hand_new_none ht g dest hout)
      have c3 := Lib.hid (fun w (k : Keep none_ w2 w) => owner_of_no (ht.keep k (fun e => e) (fun e => e)) g hout)
      simp only [Own.zero, Own.cells] at c3
      replace hTl := Lib.hid hTl
      clear hout
      by_cases hg0 : g < 0
      · by_cases hto0 : dest < 0
        · go_wp2_with fail
          refine c1.out.mono ?_
          rintro e w3 ⟨rfl, k3⟩
          go_wp2_with fail
          refine (code_err _ 6 (by omega) (by omega)).mono ?_
          rintro e w4 ⟨rfl, rfl⟩
          go_wp2_with fail
          refine (c3.out _ k3).mono ?_
          rintro e w5 ⟨rfl, k5⟩
          replace k2 := (k2.trans k3).trans k5
          go_wp2_with fail
          go_ret
          exact ⟨by simp, (Keep.alloc k2 _).below (Nat.le_refl _) not_none⟩
        · by_cases hto1 : (s : Int) ≤ dest
          · go_wp2_with fail
            refine c1.out.mono ?_
            rintro e w3 ⟨rfl, k3⟩
            go_wp2_with fail
            refine (code_err _ 6 (by omega) (by omega)).mono ?_
            rintro e w4 ⟨rfl, rfl⟩
            go_wp2_with fail
            refine (c3.out _ k3).mono ?_
            rintro e w5 ⟨rfl, k5⟩
            replace k2 := (k2.trans k3).trans k5
            go_wp2_with fail
            go_ret
            exact ⟨by simp, (Keep.alloc k2 _).below (Nat.le_refl _) not_none⟩
          · go_wp2_with fail
            refine c1.out.mono ?_
            rintro e w3 ⟨rfl, k3⟩
            go_wp2_with fail
            refine (code_err _ 6 (by omega) (by omega)).mono ?_
            rintro e w4 ⟨rfl, rfl⟩
            go_wp2_with fail
            refine (c3.out _ k3).mono ?_
            rintro e w5 ⟨rfl, k5⟩
            replace k2 := (k2.trans k3).trans k5
            go_wp2_with fail
            go_ret
            exact ⟨by simp, (Keep.alloc k2 _).below (Nat.le_refl _) not_none⟩
      · have hg1 : (n : Int) ≤ g := by omega
        by_cases hto0 : dest < 0
        · go_wp2_with fail
          refine c1.out.mono ?_
          rintro e w3 ⟨rfl, k3⟩
          go_wp2_with fail
          refine (code_err _ 6 (by omega) (by omega)).mono ?_
          rintro e w4 ⟨rfl, rfl⟩
          go_wp2_with fail
          refine (c3.out _ k3).mono ?_
          rintro e w5 ⟨rfl, k5⟩
          replace k2 := (k2.trans k3).trans k5
          go_wp2_with fail
          go_ret
          exact ⟨by simp, (Keep.alloc k2 _).below (Nat.le_refl _) not_none⟩
        · by_cases hto1 : (s : Int) ≤ dest
          · go_wp2_with fail
            refine c1.out.mono ?_
            rintro e w3 ⟨rfl, k3⟩
            go_wp2_with fail
            refine (code_err _ 6 (by omega) (by omega)).mono ?_
            rintro e w4 ⟨rfl, rfl⟩
            go_wp2_with fail
            refine (c3.out _ k3).mono ?_
            rintro e w5 ⟨rfl, k5⟩
            replace k2 := (k2.trans k3).trans k5
            go_wp2_with fail
            go_ret
            exact ⟨by simp, (Keep.alloc k2 _).below (Nat.le_refl _) not_none⟩
          · go_wp2_with fail
            refine c1.out.mono ?_
            rintro e w3 ⟨rfl, k3⟩
            go_wp2_with fail
            refine (code_err _ 6 (by omega) (by omega)).mono ?_
            rintro e w4 ⟨rfl, rfl⟩
            go_wp2_with fail
            refine (c3.out _ k3).mono ?_
            rintro e w5 ⟨rfl, k5⟩
            replace k2 := (k2.trans k3).trans k5
            go_wp2_with fail
            go_ret
            exact ⟨by simp, (Keep.alloc k2 _).below (Nat.le_refl _) not_none⟩
end Go.Proofs.Ytlnlbegcnhelmaa
