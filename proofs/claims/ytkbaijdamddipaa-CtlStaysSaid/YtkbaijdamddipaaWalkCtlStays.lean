/-
  The walk of the law CtlStays on a control.
-/
import Derived.Test.YtkbaijdamddipaaCtlLaws
import Derived.Deep.LoopGhost
import Derived.Deep.RegionWith
namespace Go.Proofs.Ytkbaijdamddipaa
open Go.RowKit

set_option maxHeartbeats 4000000 in
set_option maxRecDepth 100000 in
theorem law_CtlStays (l : List Deed16) (v : Value) (W : World) (h : rSlice 3 rDeed16 W l [v]) :
    Calls Try.prog 8 #[v] W fun e W' => e = .returned (.bool true) ∧ Below W.heap.size W W' := by
  obtain ⟨ao, len, cap, hv, rfl, hl, hm, hc⟩ := h
  obtain rfl : v = _ := by simpa using hv
  unfold maxLen at hm
  have hm : cap ≤ 9223372036854775807 := by omega
  by_cases hlen : l.length ≤ 150
  · go_enter Try.func8, Try.ntmps8
    go_wp2_with fail
    refine (ctlUp _).mono ?_
    rintro e w1 ⟨rfl, k1⟩
    go_wp2_with fail
    refine (ctl_new _).mono ?_
    rintro e w2 ⟨rfl, h2, k2⟩
    go_wp2_with fail
    obtain ⟨p, hp⟩ : ∃ p, p = w1.heap.size := ⟨_, rfl⟩
    rw [← hp] at h2 ⊢
    have b2 := bk (bk (Below.refl _ W) k1 not_none) k2 not_none
    have hpW : W.heap.size ≤ p := by rw [hp]; exact k1.size
    clear hp k1 k2
    go_loopw [5] (fun i wr => ∃ (k : Nat) (c : CtlS), k ≤ l.length ∧ i = .int .i64 k ∧ IsCtl wr p c ∧ Below W.heap.size W wr)
       (fun i _ => l.length - (intOf i).toNat)
    case atStart => exact ⟨0, _, Nat.zero_le _, rfl, h2, b2⟩
    case round =>
      obtain ⟨k, c, hk, rfl, hctl, hbel⟩ := hrel
      by_cases hlt : k < l.length
      · obtain ⟨b, off, rfl, hb, hcells⟩ := hc (by omega)
        obtain ⟨es, ⟨rfl, hok⟩, -, hes⟩ := hcells k hlt
        have e0 : wr.cell? ⟨b, off + k * 3, none⟩ = some (.int .i64 l[k].what) := (hbel.cell hb).trans (hes 0 (by omega))
        have e1 : wr.cell? ⟨b, off + k * 3 + 1, none⟩ = some (.int .i64 l[k].who) := (hbel.cell hb).trans (hes 1 (by omega))
        have e2 : wr.cell? ⟨b, off + k * 3 + 2, none⟩ = some (.int .i64 l[k].mark) := (hbel.cell hb).trans (hes 2 (by omega))
        obtain ⟨hw1, hw2, hw3⟩ := hok
        have hpr := pick_range l[k].what 8 (by omega)
        have hxp : wr.heap.size ≠ p := fun e => by have := At.lt hctl; omega
        have hx2 := At.new wr #[.int .i64 l[k].what, .int .i64 l[k].who, .int .i64 l[k].mark] 42
        have b2' := Below.alloc hbel hbel.size (.cells #[.int .i64 l[k].what, .int .i64 l[k].who, .int .i64 l[k].mark] 42)
        have hc2 : IsCtl (wr.alloc (.cells #[.int .i64 l[k].what, .int .i64 l[k].who, .int .i64 l[k].mark] 42)) p c := At.alloc hctl _
        go_wp2_with fail
        refine (ctl_holder _ _ _ hc2).mono ?_
        rintro e w3 ⟨rfl, n, rfl⟩
        have hc3 : IsCtl _ p c := At.drewN hc2 n
        have hx3 := At.drewN hx2 n
        have b3 := bd b2' n
        clear hcells hes hc e0 e1 e2 hx2 b2' hc2
        generalize World.drewN (World.alloc wr _) n = wx at hc3 hx3 b3 ⊢
        have cx3 := At.cell hx3
        obtain ⟨who, held, mark, closed⟩ := c
        go_wp2_with fail
        refine (ctl_mark _ _ _ hc3).mono ?_
        rintro e w5 ⟨rfl, rfl⟩
        go_wp2_with fail
        refine (ctl_closed _ _ _ hc3).mono ?_
        rintro e w5 ⟨rfl, rfl⟩
        go_wp2_with fail
        refine (pick_any _ _ _ hw1.1 hw1.2 (by omega) (by omega)).mono ?_
        rintro e w3 ⟨rfl, rfl⟩
        generalize pick l[k].what 8 = q at hpr ⊢
        have hq : q = 0 ∨ q = 1 ∨ q = 2 ∨ q = 3 ∨ (4 ≤ q ∧ q ≤ 6) ∨ q = 7 := by omega
        rcases hq with rfl | rfl | rfl | rfl | ⟨hq4, hq6⟩ | rfl
        · cases held
          · go_wp2_with fail
            refine (ctl_hold _ _ _ _ (true, ⟨l[k].who, true, mark, closed⟩) hc3 rfl).mono ?_
            rintro e w4 ⟨rfl, h4, k4⟩
            have hx4 := Keep.at k4 hx3 hxp
            have cx4 := At.cell hx4
            have b4 := bk b3 k4 (not_one hpW)
            cases closed
            all_goals
              go_wp2_with fail
              refine (ctl_holder _ _ _ h4).mono ?_
              rintro e w5 ⟨rfl, n, rfl⟩
              go_wp2_with fail
              refine (ctl_mark _ _ _ (At.drewN h4 n)).mono ?_
              rintro e w5 ⟨rfl, rfl⟩
              go_wp2_with fail
              try (refine (ctl_closed _ _ _ (At.drewN h4 n)).mono ?_; rintro e w5 ⟨rfl, rfl⟩; go_wp2_with fail)
              go_roundw
              case rel => first | exact ⟨k + 1, _, by omega, rfl, rfl, rfl, rfl, by go_num, At.drewN h4 n, bd b4 n⟩ | exact ⟨k + 1, _, by omega, by go_num, At.drewN h4 n, bd b4 n⟩
              case measure => simp [intOf]; omega
          · by_cases hww : who = l[k].who
            · have hw2' := hww
              subst hww
              go_wp2_with fail
              refine (ctl_hold _ _ _ _ (true, ⟨l[k].who, true, mark, closed⟩) hc3 (by simp [CtlS.hold])).mono ?_
              rintro e w4 ⟨rfl, h4, k4⟩
              have hx4 := Keep.at k4 hx3 hxp
              have cx4 := At.cell hx4
              have b4 := bk b3 k4 (not_one hpW)
              cases closed
              all_goals
                go_wp2_with fail
                refine (ctl_holder _ _ _ h4).mono ?_
                rintro e w5 ⟨rfl, n, rfl⟩
                go_wp2_with fail
                refine (ctl_mark _ _ _ (At.drewN h4 n)).mono ?_
                rintro e w5 ⟨rfl, rfl⟩
                go_wp2_with fail
                try (refine (ctl_closed _ _ _ (At.drewN h4 n)).mono ?_; rintro e w5 ⟨rfl, rfl⟩; go_wp2_with fail)
                go_roundw
                case rel => first | exact ⟨k + 1, _, by omega, rfl, rfl, rfl, rfl, by go_num, At.drewN h4 n, bd b4 n⟩ | exact ⟨k + 1, _, by omega, by go_num, At.drewN h4 n, bd b4 n⟩
                case measure => simp [intOf]; omega
            · go_wp2_with fail
              refine (ctl_hold _ _ _ _ (false, ⟨who, true, mark, closed⟩) hc3 (by simp [CtlS.hold, hww])).mono ?_
              rintro e w4 ⟨rfl, h4, k4⟩
              have hx4 := Keep.at k4 hx3 hxp
              have cx4 := At.cell hx4
              have b4 := bk b3 k4 (not_one hpW)
              cases closed
              all_goals
                go_wp2_with fail
                refine (ctl_holder _ _ _ h4).mono ?_
                rintro e w5 ⟨rfl, n, rfl⟩
                go_wp2_with fail
                refine (ctl_mark _ _ _ (At.drewN h4 n)).mono ?_
                rintro e w5 ⟨rfl, rfl⟩
                go_wp2_with fail
                try (refine (ctl_closed _ _ _ (At.drewN h4 n)).mono ?_; rintro e w5 ⟨rfl, rfl⟩; go_wp2_with fail)
                go_roundw
                case rel => first | exact ⟨k + 1, _, by omega, rfl, rfl, rfl, rfl, by go_num, At.drewN h4 n, bd b4 n⟩ | exact ⟨k + 1, _, by omega, by go_num, At.drewN h4 n, bd b4 n⟩
                case measure => simp [intOf]; omega
        · cases held
          · go_wp2_with fail
            refine (ctl_hold _ _ _ _ (true, ⟨l[k].who, true, mark, closed⟩) hc3 rfl).mono ?_
            rintro e w4 ⟨rfl, h4, k4⟩
            have hx4 := Keep.at k4 hx3 hxp
            have cx4 := At.cell hx4
            have b4 := bk b3 k4 (not_one hpW)
            cases closed
            all_goals
              go_wp2_with fail
              refine (ctl_holder _ _ _ h4).mono ?_
              rintro e w5 ⟨rfl, n, rfl⟩
              go_wp2_with fail
              refine (ctl_mark _ _ _ (At.drewN h4 n)).mono ?_
              rintro e w5 ⟨rfl, rfl⟩
              go_wp2_with fail
              try (refine (ctl_closed _ _ _ (At.drewN h4 n)).mono ?_; rintro e w5 ⟨rfl, rfl⟩; go_wp2_with fail)
              go_roundw
              case rel => first | exact ⟨k + 1, _, by omega, rfl, rfl, rfl, rfl, by go_num, At.drewN h4 n, bd b4 n⟩ | exact ⟨k + 1, _, by omega, by go_num, At.drewN h4 n, bd b4 n⟩
              case measure => simp [intOf]; omega
          · by_cases hww : who = l[k].who
            · have hw2' := hww
              subst hww
              go_wp2_with fail
              refine (ctl_hold _ _ _ _ (true, ⟨l[k].who, true, mark, closed⟩) hc3 (by simp [CtlS.hold])).mono ?_
              rintro e w4 ⟨rfl, h4, k4⟩
              have hx4 := Keep.at k4 hx3 hxp
              have cx4 := At.cell hx4
              have b4 := bk b3 k4 (not_one hpW)
              cases closed
              all_goals
                go_wp2_with fail
                refine (ctl_holder _ _ _ h4).mono ?_
                rintro e w5 ⟨rfl, n, rfl⟩
                go_wp2_with fail
                refine (ctl_mark _ _ _ (At.drewN h4 n)).mono ?_
                rintro e w5 ⟨rfl, rfl⟩
                go_wp2_with fail
                try (refine (ctl_closed _ _ _ (At.drewN h4 n)).mono ?_; rintro e w5 ⟨rfl, rfl⟩; go_wp2_with fail)
                go_roundw
                case rel => first | exact ⟨k + 1, _, by omega, rfl, rfl, rfl, rfl, by go_num, At.drewN h4 n, bd b4 n⟩ | exact ⟨k + 1, _, by omega, by go_num, At.drewN h4 n, bd b4 n⟩
                case measure => simp [intOf]; omega
            · go_wp2_with fail
              refine (ctl_hold _ _ _ _ (false, ⟨who, true, mark, closed⟩) hc3 (by simp [CtlS.hold, hww])).mono ?_
              rintro e w4 ⟨rfl, h4, k4⟩
              have hx4 := Keep.at k4 hx3 hxp
              have cx4 := At.cell hx4
              have b4 := bk b3 k4 (not_one hpW)
              cases closed
              all_goals
                go_wp2_with fail
                refine (ctl_holder _ _ _ h4).mono ?_
                rintro e w5 ⟨rfl, n, rfl⟩
                go_wp2_with fail
                refine (ctl_mark _ _ _ (At.drewN h4 n)).mono ?_
                rintro e w5 ⟨rfl, rfl⟩
                go_wp2_with fail
                try (refine (ctl_closed _ _ _ (At.drewN h4 n)).mono ?_; rintro e w5 ⟨rfl, rfl⟩; go_wp2_with fail)
                go_roundw
                case rel => first | exact ⟨k + 1, _, by omega, rfl, rfl, rfl, rfl, by go_num, At.drewN h4 n, bd b4 n⟩ | exact ⟨k + 1, _, by omega, by go_num, At.drewN h4 n, bd b4 n⟩
                case measure => simp [intOf]; omega
        · cases held
          · go_wp2_with fail
            refine (ctl_drop _ _ _ _ (false, ⟨who, false, mark, closed⟩) hc3 rfl).mono ?_
            rintro e w4 ⟨rfl, h4, k4⟩
            have hx4 := Keep.at k4 hx3 hxp
            have cx4 := At.cell hx4
            have b4 := bk b3 k4 (not_one hpW)
            cases closed
            all_goals
              go_wp2_with fail
              refine (ctl_holder _ _ _ h4).mono ?_
              rintro e w5 ⟨rfl, n, rfl⟩
              go_wp2_with fail
              refine (ctl_mark _ _ _ (At.drewN h4 n)).mono ?_
              rintro e w5 ⟨rfl, rfl⟩
              go_wp2_with fail
              try (refine (ctl_closed _ _ _ (At.drewN h4 n)).mono ?_; rintro e w5 ⟨rfl, rfl⟩; go_wp2_with fail)
              go_roundw
              case rel => first | exact ⟨k + 1, _, by omega, rfl, rfl, rfl, rfl, by go_num, At.drewN h4 n, bd b4 n⟩ | exact ⟨k + 1, _, by omega, by go_num, At.drewN h4 n, bd b4 n⟩
              case measure => simp [intOf]; omega
          · by_cases hww : who = l[k].who
            · have hw2' := hww
              subst hww
              go_wp2_with fail
              refine (ctl_drop _ _ _ _ (true, ⟨0, false, mark, closed⟩) hc3 (by simp [CtlS.drop])).mono ?_
              rintro e w4 ⟨rfl, h4, k4⟩
              have hx4 := Keep.at k4 hx3 hxp
              have cx4 := At.cell hx4
              have b4 := bk b3 k4 (not_one hpW)
              cases closed
              all_goals
                go_wp2_with fail
                refine (ctl_holder _ _ _ h4).mono ?_
                rintro e w5 ⟨rfl, n, rfl⟩
                go_wp2_with fail
                refine (ctl_mark _ _ _ (At.drewN h4 n)).mono ?_
                rintro e w5 ⟨rfl, rfl⟩
                go_wp2_with fail
                try (refine (ctl_closed _ _ _ (At.drewN h4 n)).mono ?_; rintro e w5 ⟨rfl, rfl⟩; go_wp2_with fail)
                go_roundw
                case rel => first | exact ⟨k + 1, _, by omega, rfl, rfl, rfl, rfl, by go_num, At.drewN h4 n, bd b4 n⟩ | exact ⟨k + 1, _, by omega, by go_num, At.drewN h4 n, bd b4 n⟩
                case measure => simp [intOf]; omega
            · go_wp2_with fail
              refine (ctl_drop _ _ _ _ (false, ⟨who, true, mark, closed⟩) hc3 (by simp [CtlS.drop, hww])).mono ?_
              rintro e w4 ⟨rfl, h4, k4⟩
              have hx4 := Keep.at k4 hx3 hxp
              have cx4 := At.cell hx4
              have b4 := bk b3 k4 (not_one hpW)
              cases closed
              all_goals
                go_wp2_with fail
                refine (ctl_holder _ _ _ h4).mono ?_
                rintro e w5 ⟨rfl, n, rfl⟩
                go_wp2_with fail
                refine (ctl_mark _ _ _ (At.drewN h4 n)).mono ?_
                rintro e w5 ⟨rfl, rfl⟩
                go_wp2_with fail
                try (refine (ctl_closed _ _ _ (At.drewN h4 n)).mono ?_; rintro e w5 ⟨rfl, rfl⟩; go_wp2_with fail)
                go_roundw
                case rel => first | exact ⟨k + 1, _, by omega, rfl, rfl, rfl, rfl, by go_num, At.drewN h4 n, bd b4 n⟩ | exact ⟨k + 1, _, by omega, by go_num, At.drewN h4 n, bd b4 n⟩
                case measure => simp [intOf]; omega
        · cases held
          · go_wp2_with fail
            refine (ctl_drop _ _ _ _ (false, ⟨who, false, mark, closed⟩) hc3 rfl).mono ?_
            rintro e w4 ⟨rfl, h4, k4⟩
            have hx4 := Keep.at k4 hx3 hxp
            have cx4 := At.cell hx4
            have b4 := bk b3 k4 (not_one hpW)
            cases closed
            all_goals
              go_wp2_with fail
              refine (ctl_holder _ _ _ h4).mono ?_
              rintro e w5 ⟨rfl, n, rfl⟩
              go_wp2_with fail
              refine (ctl_mark _ _ _ (At.drewN h4 n)).mono ?_
              rintro e w5 ⟨rfl, rfl⟩
              go_wp2_with fail
              try (refine (ctl_closed _ _ _ (At.drewN h4 n)).mono ?_; rintro e w5 ⟨rfl, rfl⟩; go_wp2_with fail)
              go_roundw
              case rel => first | exact ⟨k + 1, _, by omega, rfl, rfl, rfl, rfl, by go_num, At.drewN h4 n, bd b4 n⟩ | exact ⟨k + 1, _, by omega, by go_num, At.drewN h4 n, bd b4 n⟩
              case measure => simp [intOf]; omega
          · by_cases hww : who = l[k].who
            · have hw2' := hww
              subst hww
              go_wp2_with fail
              refine (ctl_drop _ _ _ _ (true, ⟨0, false, mark, closed⟩) hc3 (by simp [CtlS.drop])).mono ?_
              rintro e w4 ⟨rfl, h4, k4⟩
              have hx4 := Keep.at k4 hx3 hxp
              have cx4 := At.cell hx4
              have b4 := bk b3 k4 (not_one hpW)
              cases closed
              all_goals
                go_wp2_with fail
                refine (ctl_holder _ _ _ h4).mono ?_
                rintro e w5 ⟨rfl, n, rfl⟩
                go_wp2_with fail
                refine (ctl_mark _ _ _ (At.drewN h4 n)).mono ?_
                rintro e w5 ⟨rfl, rfl⟩
                go_wp2_with fail
                try (refine (ctl_closed _ _ _ (At.drewN h4 n)).mono ?_; rintro e w5 ⟨rfl, rfl⟩; go_wp2_with fail)
                go_roundw
                case rel => first | exact ⟨k + 1, _, by omega, rfl, rfl, rfl, rfl, by go_num, At.drewN h4 n, bd b4 n⟩ | exact ⟨k + 1, _, by omega, by go_num, At.drewN h4 n, bd b4 n⟩
                case measure => simp [intOf]; omega
            · go_wp2_with fail
              refine (ctl_drop _ _ _ _ (false, ⟨who, true, mark, closed⟩) hc3 (by simp [CtlS.drop, hww])).mono ?_
              rintro e w4 ⟨rfl, h4, k4⟩
              have hx4 := Keep.at k4 hx3 hxp
              have cx4 := At.cell hx4
              have b4 := bk b3 k4 (not_one hpW)
              cases closed
              all_goals
                go_wp2_with fail
                refine (ctl_holder _ _ _ h4).mono ?_
                rintro e w5 ⟨rfl, n, rfl⟩
                go_wp2_with fail
                refine (ctl_mark _ _ _ (At.drewN h4 n)).mono ?_
                rintro e w5 ⟨rfl, rfl⟩
                go_wp2_with fail
                try (refine (ctl_closed _ _ _ (At.drewN h4 n)).mono ?_; rintro e w5 ⟨rfl, rfl⟩; go_wp2_with fail)
                go_roundw
                case rel => first | exact ⟨k + 1, _, by omega, rfl, rfl, rfl, rfl, by go_num, At.drewN h4 n, bd b4 n⟩ | exact ⟨k + 1, _, by omega, by go_num, At.drewN h4 n, bd b4 n⟩
                case measure => simp [intOf]; omega
        · by_cases hmm : l[k].mark ≤ mark
          · go_wp2_with fail
            refine (ctl_raise _ _ _ _ (false, ⟨who, held, mark, closed⟩) hc3 (by simp [CtlS.raise, hmm])).mono ?_
            rintro e w4 ⟨rfl, h4, k4⟩
            have hx4 := Keep.at k4 hx3 hxp
            have cx4 := At.cell hx4
            have b4 := bk b3 k4 (not_one hpW)
            cases held <;> cases closed
            all_goals
              go_wp2_with fail
              refine (ctl_holder _ _ _ h4).mono ?_
              rintro e w5 ⟨rfl, n, rfl⟩
              go_wp2_with fail
              refine (ctl_mark _ _ _ (At.drewN h4 n)).mono ?_
              rintro e w5 ⟨rfl, rfl⟩
              go_wp2_with fail
              try (refine (ctl_closed _ _ _ (At.drewN h4 n)).mono ?_; rintro e w5 ⟨rfl, rfl⟩; go_wp2_with fail)
              go_roundw
              case rel => first | exact ⟨k + 1, _, by omega, rfl, rfl, rfl, rfl, by go_num, At.drewN h4 n, bd b4 n⟩ | exact ⟨k + 1, _, by omega, by go_num, At.drewN h4 n, bd b4 n⟩
              case measure => simp [intOf]; omega
          · have hmm' : mark < l[k].mark := by omega
            have hm2 : mark ≤ l[k].mark := by omega
            go_wp2_with fail
            refine (ctl_raise _ _ _ _ (true, ⟨who, held, l[k].mark, closed⟩) hc3 (by simp [CtlS.raise, hmm])).mono ?_
            rintro e w4 ⟨rfl, h4, k4⟩
            have hx4 := Keep.at k4 hx3 hxp
            have cx4 := At.cell hx4
            have b4 := bk b3 k4 (not_one hpW)
            cases held <;> cases closed
            all_goals
              go_wp2_with fail
              refine (ctl_holder _ _ _ h4).mono ?_
              rintro e w5 ⟨rfl, n, rfl⟩
              go_wp2_with fail
              refine (ctl_mark _ _ _ (At.drewN h4 n)).mono ?_
              rintro e w5 ⟨rfl, rfl⟩
              go_wp2_with fail
              try (refine (ctl_closed _ _ _ (At.drewN h4 n)).mono ?_; rintro e w5 ⟨rfl, rfl⟩; go_wp2_with fail)
              go_roundw
              case rel => first | exact ⟨k + 1, _, by omega, rfl, rfl, rfl, rfl, by go_num, At.drewN h4 n, bd b4 n⟩ | exact ⟨k + 1, _, by omega, by go_num, At.drewN h4 n, bd b4 n⟩
              case measure => simp [intOf]; omega
        · go_wp2_with fail
          refine (ctl_shut _ _ _ (!closed, ⟨who, held, mark, true⟩) hc3 rfl).mono ?_
          rintro e w4 ⟨rfl, h4, k4⟩
          have hx4 := Keep.at k4 hx3 hxp
          have cx4 := At.cell hx4
          have b4 := bk b3 k4 (not_one hpW)
          cases held <;> cases closed
          all_goals
            go_wp2_with fail
            refine (ctl_holder _ _ _ h4).mono ?_
            rintro e w5 ⟨rfl, n, rfl⟩
            go_wp2_with fail
            refine (ctl_mark _ _ _ (At.drewN h4 n)).mono ?_
            rintro e w5 ⟨rfl, rfl⟩
            go_wp2_with fail
            try (refine (ctl_closed _ _ _ (At.drewN h4 n)).mono ?_; rintro e w5 ⟨rfl, rfl⟩; go_wp2_with fail)
            go_roundw
            case rel => first | exact ⟨k + 1, _, by omega, rfl, rfl, rfl, rfl, by go_num, At.drewN h4 n, bd b4 n⟩ | exact ⟨k + 1, _, by omega, by go_num, At.drewN h4 n, bd b4 n⟩
            case measure => simp [intOf]; omega
      · go_wp2_with fail
        go_ret
        exact ⟨rfl, hbel⟩
  · have hlb : decide (150 < (l.length : Int)) = true := by simp; omega
    go_enter Try.func8, Try.ntmps8
    go_wp2_with fail
    refine (ctlUp _).mono ?_
    rintro e w1 ⟨rfl, k1⟩
    go_wp2_with fail
    refine (ctl_new _).mono ?_
    rintro e w2 ⟨rfl, h2, k2⟩
    have b2 := bk (bk (Below.refl _ W) k1 not_none) k2 not_none
    go_wp2_with fail
    all_goals
      go_ret
      exact ⟨rfl, b2⟩
end Go.Proofs.Ytkbaijdamddipaa
