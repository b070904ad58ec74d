/-
  The walk of the law BoxPlays.
-/
import Derived.Test.YtlnlbegcnhelmaaBox
import Derived.Test.YtlnlbegcnhelmaaArg
import Derived.Test.YtlnlbegcnhelmaaPick
import Derived.Test.YtlnlbegcnhelmaaData
import Derived.Deep.RegionHeld3
namespace Go.Proofs.Ytlnlbegcnhelmaa
open Go.RowKit

theorem row_int : Row Try.prog 23 3 1 := row_of Try.underlying23 info_int rfl (by decide) (by decide)

set_option maxHeartbeats 1000000 in
theorem boxUp (w : World) : Calls Try.prog 14 #[] w fun e w' => e = .returned (.bool true) ∧ Keep none_ w w' := by
  have he := fun w a b => eq_err w a b
  go_enter Try.func14, Try.ntmps14
  go_wp2_with fail
  refine (box_new_int _ 1 (by omega) (by omega)).mono ?_
  rintro e w1 ⟨p, g, rfl, k1, hp, hg, hb⟩
  go_wp2_with fail
  refine (box_new_no_int _ 0 (by omega)).mono ?_
  rintro e w2 ⟨rfl, rfl⟩
  go_wp2_with fail
  refine (box_put_int 5 hb (by simp)).mono ?_
  rintro e w3 ⟨rfl, k3, hb⟩
  have k3 := Keep.fresh k1 k3 (fun q hq e => by rcases e with rfl | rfl <;> omega)
  clear k1
  go_wp2_with fail
  refine (box_put_full_int 6 hb (by simp)).mono ?_
  rintro e w4 ⟨rfl, k4⟩
  have hb := hb.keep k4 (fun e => e) (fun e => e)
  have k4 := k3.trans k4
  clear k3
  go_wp2_with fail
  refine (box_take_int 5 hb).mono ?_
  rintro e w5 ⟨rfl, k5, hb⟩
  have k5 := Keep.fresh k4 k5 (fun q hq e => by rcases e with rfl | rfl <;> omega)
  clear k4
  go_wp2_with fail
  refine (box_closed_int hb).mono ?_
  rintro e w6 ⟨rfl, rfl⟩
  go_wp2_with fail
  go_ret
  exact ⟨by simp, k5⟩

def enc10 (d : Deed10) : List Value := d.cells
theorem deed10_of (w : World) (x : Deed10) (cs : List Value) (h : rDeed10 w x cs) : cs = enc10 x ∧ x.ok := h

theorem keep_two {p g a : Nat} {w w' : World} (k : Keep (two p g) w w') (hp : a ≤ p) (hg : a ≤ g) : ∀ {b i : Nat}, b < a → b < w.heap.size → w'.cell? ⟨b, i, none⟩ = w.cell? ⟨b, i, none⟩ := by
  intro b i hb hbw
  have := k.block b hbw (fun e => by unfold two at e; omega)
  simp [World.cell?, this]
theorem box_plays_no (room : Int) (l : List Deed10) (v : Value) (W : World) (h : room < 1 ∨ 16 < room) (hv : rSlice 2 rDeed10 W l [v]) :
    Calls Try.prog 4 #[.int .i64 room, v] W fun e W' => e = .returned (.bool true) ∧ Below W.heap.size W W' := by
  obtain ⟨A, n, c, rfl, hsl, -⟩ := sl_of enc10 Deed10.ok deed10_of hv
  clear hsl hv
  have he := fun w a b => eq_err w a b
  have c1 := Lib.hid (fun w => box_new_no_int w room h)
  rcases h with h | h
  · go_enter Try.func4, Try.ntmps4
    go_wp2_with fail
    refine (boxUp _).mono ?_
    rintro e w1 ⟨rfl, k1⟩
    go_wp2_with fail
    refine (c1.out _).mono ?_
    rintro e w2 ⟨rfl, rfl⟩
    go_wp2_with fail
    go_ret
    exact ⟨rfl, k1.below (Nat.le_refl _) not_none⟩
  · have h' : ¬ room < 1 := by omega
    go_enter Try.func4, Try.ntmps4
    go_wp2_with fail
    refine (boxUp _).mono ?_
    rintro e w1 ⟨rfl, k1⟩
    go_wp2_with fail
    refine (c1.out _).mono ?_
    rintro e w2 ⟨rfl, rfl⟩
    go_wp2_with fail
    go_ret
    exact ⟨rfl, k1.below (Nat.le_refl _) not_none⟩

set_option maxHeartbeats 4000000 in
set_option maxRecDepth 100000 in
theorem box_plays_yes (room : Nat) (l : List Deed10) (v : Value) (W : World) (h1 : 1 ≤ room) (h2 : room ≤ 16) (hv : rSlice 2 rDeed10 W l [v]) :
    Calls Try.prog 4 #[.int .i64 room, v] W fun e W' => e = .returned (.bool true) ∧ Below W.heap.size W W' := by
  obtain ⟨A, n, c, rfl, hsl, hok⟩ := sl_of enc10 Deed10.ok deed10_of hv
  clear hv
  obtain rfl := hsl.len
  have hnc := hsl.2.2.1
  have hlc := hsl.2.1
  unfold maxLen at hnc
  have hnot : ¬ (16 < (room : Int)) := by omega
  have he := fun w a b => eq_err w a b
  go_enter Try.func4, Try.ntmps4
  go_wp2_with fail
  refine (boxUp _).mono ?_
  rintro e w1 ⟨rfl, k1⟩
  go_wp2_with fail
  refine (box_new_int _ room h1 h2).mono ?_
  rintro e w2 ⟨p, g, rfl, k2, hp, hg, hb⟩
  have k2 := k1.trans k2
  have hpW := Nat.le_trans k1.size hp
  have hgW := Nat.le_trans k1.size hg
  clear k1 hp hg
  by_cases h200 : 200 < l.length
  · have h200' : decide ((200 : Int) < l.length) = true := by simp; omega
    go_wp2_with fail
    go_ret
    exact ⟨by simp, k2.below (Nat.le_refl _) not_none⟩
  · have h200' : decide ((200 : Int) < l.length) = false := by simp; omega
    go_wp2_with fail
    obtain ⟨base, hbase⟩ : ∃ base, base = w2.heap.size := ⟨_, rfl⟩
    have hbs : base ≤ w2.heap.size := by omega
    have hpb : p < base := by rw [hbase]; exact hb.lt.1
    have hgb : g < base := by rw [hbase]; exact hb.lt.2
    have hWb : W.heap.size ≤ base := by rw [hbase]; exact k2.size
    clear hbase
    go_loopw [8, 9, 10, 11, 12, 13, 14] (fun m cl i _ _ _ _ wr => ∃ (k : Nat) (q : List Int) (cc : Bool), k ≤ l.length ∧ q.length ≤ k ∧ cl = .bool cc ∧ i = .int .i64 k ∧ wr.ownsRow base 3 1 m q.length (flat encI q) ∧ Box_int wr p g room q cc ∧ Keep none_ W wr ∧ base ≤ wr.heap.size)
      (fun _ _ i _ _ _ _ _ => l.length - (intOf i).toNat)
    case atStart => exact ⟨0, [], false, Nat.zero_le _, Nat.le_refl _, rfl, rfl, World.ownsRow_nil _ _ _ _, hb, k2, hbs⟩
    case round =>
      clear hb k2 hbs
      obtain ⟨k, q, cc, hk, hqk, rfl, rfl, hown, hb, kk, hbs⟩ := hrel
      by_cases hlt : k < l.length
      · obtain ⟨b, off, rfl, hbl, -⟩ := hsl.at_ (by omega)
        have e0 : wr.cell? ⟨b, off + k * 2, none⟩ = some (.int .i64 l[k].what) := (hsl.keep kk Off.none_).cellk hlt 0 (by omega)
        have e1 : wr.cell? ⟨b, off + k * 2 + 1, none⟩ = some (.int .i64 l[k].n) := (hsl.keep kk Off.none_).cellk hlt 1 (by omega)
        obtain ⟨hw1, hw2⟩ := hok l[k] (List.getElem_mem _)
        have hpr := pick_range l[k].what 8 (by omega)
        generalize l[k].what = what at *
        generalize l[k].n = x at *
        go_wp2_with fail
        refine (pick_any _ _ _ hw1.1 hw1.2 (by omega) (by omega)).mono ?_
        rintro e w3 ⟨rfl, rfl⟩
        generalize pick what 8 = u at hpr ⊢
        obtain ⟨A, cm, rfl⟩ := own_form hown
        have hq16 := hb.le
        rcases (show (0 ≤ u ∧ u < 4) ∨ (4 ≤ u ∧ u < 7) ∨ u = 7 by omega) with ⟨hu0, hu4⟩ | ⟨hu4, hu7⟩ | rfl
        · cases cc
          · by_cases hf : q.length = room
            · have hfb : ((q.length : Int) == (room : Int)) = true := by simp [hf]
              have c1 := Lib.hid (box_put_full_int x hb hf)
              clear hf
              go_wp2_with fail
              refine c1.out.mono ?_
              rintro e w4 ⟨rfl, k4⟩
              go_wp2_with fail
              refine (code_err _ 4 (by omega) (by omega)).mono ?_
              rintro e w5 ⟨rfl, rfl⟩
              replace hb := hb.keep k4 (fun e => e) (fun e => e)
              replace hown := own_keep hown k4 (fun _ _ e => e)
              replace kk := kk.trans k4
              replace hbs := Nat.le_trans hbs k4.size
              clear k4 e0 e1
              go_wp2_with fail
              refine (box_len_int hb).mono ?_
              rintro e w6 ⟨rfl, rfl⟩
              go_wp2_with fail
              refine (box_closed_int hb).mono ?_
              rintro e w6 ⟨rfl, rfl⟩
              go_wp2_with fail
              go_roundw
              case rel => exact ⟨k + 1, _, _, by omega, by first | omega | (simp; done) | (simp; omega), rfl, by go_num, by first | exact hown | (rw [hl2]; exact hown), hb, kk, hbs⟩
              case measure => simp [intOf]; omega
            · have hfb : ((q.length : Int) == (room : Int)) = false := by simp; omega
              have c1 := Lib.hid (box_put_int x hb (by omega))
              clear hf
              go_wp2_with fail
              refine c1.out.mono ?_
              rintro e w4 ⟨rfl, k4, hb4⟩
              have hown4 := own_keep hown k4 (fun z hz e => by have := (hown.lt z hz).1; unfold two at e; omega)
              have e14 := (keep_two k4 hpW hgW hbl (Nat.lt_of_lt_of_le hbl kk.size)).trans e1
              replace kk := Keep.fresh kk k4 (fun z hz e => by unfold two at e; omega)
              replace hbs := Nat.le_trans hbs k4.size
              clear k4 e0 e1 hb hown c1
              go_wp2_with fail
              refine (code_nil _).mono ?_
              rintro e w5 ⟨rfl, rfl⟩
              go_wp2_with fail
              have k0 := Int.natCast_nonneg k
              have kl : (k : Int) < (l.length : Int) := by omega
              have hbl4 : b < w4.heap.size := Nat.lt_of_lt_of_le hbl kk.size
              go_region_held3 (fun w' => w'.cell? ⟨b, off + k * 2 + 1, none⟩ = some (.int .i64 x) ∧ Keep none_ w4 w')
                (first
                  | exact and_keep hbl4 e14 (Keep.refl _ _).drew
                  | (go_split_ands; exact and_keep hbl4 e14 (by repeat' (first | assumption | with_reducible exact Keep.refl _ _ | with_reducible refine Keep.alloc ?_ _ | with_reducible refine Keep.drew ?_)))
                  | fail)
                ((first
                  | (refine step_append_sl _ (by rfl) _ _ _ (by rfl) w4.heap.size 3 row_int encI_len encI_one (.slice (some ⟨_, 0, none⟩) 0 0) 0 [] (by rfl) (own_empty (by repeat' (first | with_reducible exact At.newAt (by simp) _ _ | with_reducible refine At.drew ?_ | with_reducible refine At.alloc ?_ _)) (by first | (simp; done) | (simp; omega))) A q.length cm q (by rfl) ((Sl.of_own encI_len (by decide) hown4).keep (by repeat' (first | assumption | with_reducible exact Keep.refl _ _ | with_reducible refine Keep.alloc ?_ _ | with_reducible refine Keep.drew ?_)) Off.none_) (by omega) (show Keep none_ w4 _ from (by repeat' (first | assumption | with_reducible exact Keep.refl _ _ | with_reducible refine Keep.alloc ?_ _ | with_reducible refine Keep.drew ?_))).size ?_
                     intro v1 wA own1 grow1 loc1
                     have kA : Keep none_ w4 wA := Keep.grown (by repeat' (first | assumption | with_reducible exact Keep.refl _ _ | with_reducible refine Keep.alloc ?_ _ | with_reducible refine Keep.drew ?_)) grow1 (by intro z hz hl; simp [Value.ownBlock] at hz; omega))
                  | (refine step_append_sl _ (by rfl) _ _ _ (by rfl) w4.heap.size 3 row_int encI_len encI_one v1 (0 + q.length) ([] ++ q) (by rfl) ?_ (some ⟨_, 0, none⟩) 1 1 [x] (by rfl) (Sl.of_at (cs := #[.int .i64 x]) (e := 3) ?_ encI_len (by decide) rfl rfl (by unfold maxLen; omega)) (by omega) ?_ ?_
                     · first | exact (by repeat' (first | with_reducible exact own1 | with_reducible refine World.ownsRow.alloc ?_ _ | with_reducible refine own_drew ?_)) | (trace_state; sorry)
                     · first | exact (by repeat' (first | with_reducible exact At.newAt (by simp) _ _ | with_reducible refine At.drew ?_ | with_reducible refine At.alloc ?_ _ | refine At.grown ?_ grow1 (by simp [Value.ownBlock]))) | (trace_state; sorry)
                     · first | exact (show Keep none_ w4 _ from (by repeat' (first | assumption | with_reducible exact Keep.refl _ _ | with_reducible refine Keep.alloc ?_ _ | with_reducible refine Keep.drew ?_))).size | (trace_state; sorry)
                     intro v2 wB own2 grow2 loc2
                     have kB : Keep none_ w4 wB := Keep.grown (by repeat' (first | assumption | with_reducible exact Keep.refl _ _ | with_reducible refine Keep.alloc ?_ _ | with_reducible refine Keep.drew ?_)) grow2 (by intro z hz hl; have := (own1.lt z hz).1; omega))
                  | fail))
              all_goals
                have hb := hb4.keep kB (fun e => e) (fun e => e)
                have hown : wB.ownsRow base 3 1 v2 (q ++ [x]).length (flat encI (q ++ [x])) := by
                  rw [show (q ++ [x]).length = 0 + q.length + 1 by simp]
                  exact own_lower own2 hbs
                replace kk := kk.trans kB
                replace hbs := Nat.le_trans hbs kB.size
                clear kA kB own1 own2 grow1 grow2 loc1 loc2 hown4 hb4 e14
                obtain ⟨A2, cm2, rfl⟩ := own_form hown
                have hl2 : (q ++ [x]).length = q.length + 1 := by simp
                rw [hl2] at hown ⊢
                go_wp2_with fail
                refine (box_len_int hb).mono ?_
                rintro e w6 ⟨rfl, rfl⟩
                go_wp2_with fail
                refine (box_closed_int hb).mono ?_
                rintro e w6 ⟨rfl, rfl⟩
                go_wp2_with fail
                go_roundw
                case rel => exact ⟨k + 1, _, _, by omega, by first | omega | (simp; done) | (simp; omega), rfl, by go_num, by first | exact hown | (rw [hl2]; exact hown), hb, kk, hbs⟩
                case measure => simp [intOf]; omega
          · have c1 := Lib.hid (box_put_closed_int x hb)
            by_cases hf : q.length = room
            · have hfb : ((q.length : Int) == (room : Int)) = true := by simp [hf]
              clear hf
              go_wp2_with fail
              refine c1.out.mono ?_
              rintro e w4 ⟨rfl, rfl⟩
              go_wp2_with fail
              refine (code_err _ 5 (by omega) (by omega)).mono ?_
              rintro e w5 ⟨rfl, rfl⟩
              clear e0 e1
              go_wp2_with fail
              refine (box_len_int hb).mono ?_
              rintro e w6 ⟨rfl, rfl⟩
              go_wp2_with fail
              refine (box_closed_int hb).mono ?_
              rintro e w6 ⟨rfl, rfl⟩
              go_wp2_with fail
              go_roundw
              case rel => exact ⟨k + 1, _, _, by omega, by first | omega | (simp; done) | (simp; omega), rfl, by go_num, by first | exact hown | (rw [hl2]; exact hown), hb, kk, hbs⟩
              case measure => simp [intOf]; omega
            · have hfb : ((q.length : Int) == (room : Int)) = false := by simp; omega
              clear hf
              go_wp2_with fail
              refine c1.out.mono ?_
              rintro e w4 ⟨rfl, rfl⟩
              go_wp2_with fail
              refine (code_err _ 5 (by omega) (by omega)).mono ?_
              rintro e w5 ⟨rfl, rfl⟩
              clear e0 e1
              go_wp2_with fail
              refine (box_len_int hb).mono ?_
              rintro e w6 ⟨rfl, rfl⟩
              go_wp2_with fail
              refine (box_closed_int hb).mono ?_
              rintro e w6 ⟨rfl, rfl⟩
              go_wp2_with fail
              go_roundw
              case rel => exact ⟨k + 1, _, _, by omega, by first | omega | (simp; done) | (simp; omega), rfl, by go_num, by first | exact hown | (rw [hl2]; exact hown), hb, kk, hbs⟩
              case measure => simp [intOf]; omega
        · cases q with
          | nil =>
            have c1 := Lib.hid (box_take_no_int hb)
            simp only [List.length_nil] at hown hqk ⊢
            clear e0 e1
            go_wp2_with fail
            refine c1.out.mono ?_
            rintro e w4 ⟨rfl, rfl⟩
            go_wp2_with fail
            refine (box_len_int hb).mono ?_
            rintro e w6 ⟨rfl, rfl⟩
            go_wp2_with fail
            refine (box_closed_int hb).mono ?_
            rintro e w6 ⟨rfl, rfl⟩
            go_wp2_with fail
            go_roundw
            case rel => exact ⟨k + 1, _, _, by omega, by first | omega | (simp; done) | (simp; omega), rfl, by go_num, by first | exact hown | (rw [hl2]; exact hown), hb, kk, hbs⟩
            case measure => simp [intOf]; omega
          | cons x q =>
            have c1 := Lib.hid (box_take_int x hb)
            have hl2 : (x :: q).length = q.length + 1 := by simp
            have hd : decide ((0 : Int) < ((q.length + 1 : Nat) : Int)) = true := by simp
            rw [hl2] at hown hqk ⊢
            clear e0 e1
            go_wp2_with fail
            refine c1.out.mono ?_
            rintro e w4 ⟨rfl, k4, hb4⟩
            have hown4 := own_keep hown k4 (fun z hz e => by have := (hown.lt z hz).1; unfold two at e; omega)
            have hsl4 := Sl.of_own encI_len (by decide) hown4
            obtain ⟨b2, off2, rfl, hb2, -⟩ := hsl4.at_ (by omega)
            have ex : w4.cell? ⟨b2, off2, none⟩ = some (.int .i64 x) := hsl4.cell1 (i := 0) (by simp)
            have hmc := hsl4.2.1
            have hoff : off2 = 0 := by
              obtain ⟨g9, cap9, hv9, -, -⟩ := hown4.form (by omega)
              injection hv9 with h91
              injection h91 with h91
              injection h91 with h91 h92
            subst hoff
            replace kk := Keep.fresh kk k4 (fun z hz e => by unfold two at e; omega)
            replace hbs := Nat.le_trans hbs k4.size
            clear k4 c1 hb hown
            by_cases hcm : cm = 1
            · subst hcm
              obtain rfl : q = [] := List.length_eq_zero_iff.1 (by omega)
              go_wp2_with fail
              have hb := hb4.keep (Keep.alloc (Keep.refl none_ w4) (.cells #[] 3)) (fun e => e) (fun e => e)
              have hown := own_empty (k := 1) (enc := encI) (At.new w4 #[] 3) hbs
              replace kk := Keep.alloc kk (.cells #[] 3)
              replace hbs : base ≤ (w4.alloc (.cells #[] 3)).heap.size := by simp; omega
              refine (box_len_int hb).mono ?_
              rintro e w6 ⟨rfl, rfl⟩
              go_wp2_with fail
              refine (box_closed_int hb).mono ?_
              rintro e w6 ⟨rfl, rfl⟩
              go_wp2_with fail
              go_roundw
              case rel => exact ⟨k + 1, _, _, by omega, by first | omega | (simp; done) | (simp; omega), rfl, by go_num, by first | exact hown | (rw [hl2]; exact hown), hb, kk, hbs⟩
              case measure => simp [intOf]; omega
            · have hcm1 : (cm == 1) = false := by simp [hcm]
              have hown5 := own_empty (k := 1) (enc := encI) (At.new w4 #[] 3) (Nat.le_refl w4.heap.size)
              have hsl5 : Sl encI 1 (w4.alloc (.cells #[] 3)) (some ⟨b2, 1, none⟩) q.length (cm - 1) q := (hsl4.keep (Keep.alloc (Keep.refl none_ w4) (.cells #[] 3)) Off.none_).drop 1 (by omega) (by omega) (by omega) rfl rfl
              go_wp2_with (at_builtin; refine wpList_append_sl _ rfl _ _ _ rfl w4.heap.size 3 row_int encI_len encI_one _ 0 [] rfl hown5 (some ⟨b2, 1, none⟩) q.length (cm - 1) q rfl hsl5 (by omega) (by simp) ?_)
              intro v1 w5 own1 grow1 loc1
              have kA : Keep none_ w4 w5 := Keep.grown (by repeat' (first | assumption | with_reducible exact Keep.refl _ _ | with_reducible refine Keep.alloc ?_ _ | with_reducible refine Keep.drew ?_)) grow1 (by intro z hz hl; simp [Value.ownBlock] at hz; omega)
              have hb := hb4.keep kA (fun e => e) (fun e => e)
              have hown : w5.ownsRow base 3 1 v1 q.length (flat encI q) := own_lower (by simpa using own1) hbs
              obtain ⟨A2, cm2, rfl⟩ := own_form hown
              replace kk := kk.trans kA
              replace hbs := Nat.le_trans hbs kA.size
              clear kA own1 grow1 loc1 hown5 hsl5 hown4 hsl4 hb4 ex
              go_wp2_with fail
              refine (box_len_int hb).mono ?_
              rintro e w6 ⟨rfl, rfl⟩
              go_wp2_with fail
              refine (box_closed_int hb).mono ?_
              rintro e w6 ⟨rfl, rfl⟩
              go_wp2_with fail
              go_roundw
              case rel => exact ⟨k + 1, _, _, by omega, by first | omega | (simp; done) | (simp; omega), rfl, by go_num, by first | exact hown | (rw [hl2]; exact hown), hb, kk, hbs⟩
              case measure => simp [intOf]; omega
        · cases cc
          · have c1 := Lib.hid (box_close_int hb)
            go_wp2_with fail
            refine c1.out.mono ?_
            rintro e w4 ⟨rfl, k4, hb4⟩
            have hown4 := own_keep hown k4 (fun z hz e => by have := (hown.lt z hz).1; unfold two at e; omega)
            replace kk := Keep.fresh kk k4 (fun z hz e => by unfold two at e; omega)
            replace hbs := Nat.le_trans hbs k4.size
            clear k4 e0 e1 hb hown
            have hb := hb4
            have hown := hown4
            go_wp2_with fail
            refine (box_len_int hb).mono ?_
            rintro e w6 ⟨rfl, rfl⟩
            go_wp2_with fail
            refine (box_closed_int hb).mono ?_
            rintro e w6 ⟨rfl, rfl⟩
            go_wp2_with fail
            go_roundw
            case rel => exact ⟨k + 1, _, _, by omega, by first | omega | (simp; done) | (simp; omega), rfl, by go_num, by first | exact hown | (rw [hl2]; exact hown), hb, kk, hbs⟩
            case measure => simp [intOf]; omega
          · have c1 := Lib.hid (box_close_int hb)
            go_wp2_with fail
            refine c1.out.mono ?_
            rintro e w4 ⟨rfl, k4, hb4⟩
            have hown4 := own_keep hown k4 (fun z hz e => by have := (hown.lt z hz).1; unfold two at e; omega)
            replace kk := Keep.fresh kk k4 (fun z hz e => by unfold two at e; omega)
            replace hbs := Nat.le_trans hbs k4.size
            clear k4 e0 e1 hb hown
            have hb := hb4
            have hown := hown4
            go_wp2_with fail
            refine (box_len_int hb).mono ?_
            rintro e w6 ⟨rfl, rfl⟩
            go_wp2_with fail
            refine (box_closed_int hb).mono ?_
            rintro e w6 ⟨rfl, rfl⟩
            go_wp2_with fail
            go_roundw
            case rel => exact ⟨k + 1, _, _, by omega, by first | omega | (simp; done) | (simp; omega), rfl, by go_num, by first | exact hown | (rw [hl2]; exact hown), hb, kk, hbs⟩
            case measure => simp [intOf]; omega
      · go_wp2_with fail
        go_ret
        exact ⟨by simp, kk.below (Nat.le_refl _) not_none⟩

theorem law_BoxPlays (room : Int) (l : List Deed10) (v : Value) (W : World) (hr : I64 room) (hv : rSlice 2 rDeed10 W l [v]) :
    Calls Try.prog 4 #[.int .i64 room, v] W fun e W' => e = .returned (.bool true) ∧ Below W.heap.size W W' := by
  by_cases h : room < 1 ∨ 16 < room
  · exact box_plays_no room l v W h hv
  · obtain ⟨n, rfl⟩ : ∃ n : Nat, room = n := ⟨room.toNat, by omega⟩
    exact box_plays_yes n l v W (by omega) (by omega) hv
end Go.Proofs.Ytlnlbegcnhelmaa
