/-
  For every config, calls and key easellaw13.ModelPlays yields true.
-/
import Derived.Test.YtmioichjhiengaaGreatBaseBoth
import Derived.Test.YtmioichjhiengaaGreatRefDo
import Derived.Test.YtmioichjhiengaaGreatModelUp
import Derived.Test.YtmioichjhiengaaGreatFew
import Derived.Test.YtmioichjhiengaaGreatBaseTwelve
import Derived.Deep.CutRange
import Derived.Deep.RegionHeld3
namespace Go.Proofs.YtmioichjhiengaaGreat
open Go.RowKit

theorem cells3 {a w : World} {b : Nat} {v0 v1 v2 : Value} (hb : b < a.heap.size) (q0 : a.cell? ⟨b, 0, none⟩ = some v0) (q1 : a.cell? ⟨b, 1, none⟩ = some v1) (q2 : a.cell? ⟨b, 2, none⟩ = some v2) (kk : Keep none_ a w) :
    w.cell? ⟨b, 0, none⟩ = some v0 ∧ w.cell? ⟨b, 1, none⟩ = some v1 ∧ w.cell? ⟨b, 2, none⟩ = some v2 ∧ Keep none_ a w :=
  ⟨(keep_cell kk hb).trans q0, (keep_cell kk hb).trans q1, (keep_cell kk hb).trans q2, kk⟩
set_option maxHeartbeats 40000000 in
set_option maxRecDepth 100000 in
theorem law_ModelPlays (c : Config) (l : List Call) (v : Value) (key : ByteArray) (W : World) (hc : c.ok) (hv : rSlice 7 rCall W l [v]) (hkey : key.size ≤ maxLen) :
    Calls Tryz.prog 4 #[.agg c.cells.toArray, v, .string key] W fun e W' => e = .returned (.bool true) ∧ Below W.heap.size W W' := by
  obtain ⟨A, n, cc, rfl, hsl, hok⟩ := sl_of encCall Call.ok call_of hv
  clear hv
  obtain rfl := hsl.len
  have hnc := hsl.2.2.1
  have hlc := hsl.2.1
  unfold maxLen at hnc
  have hx := At.new W c.cells.toArray 23
  have k0 : Keep none_ W (W.alloc (.cells c.cells.toArray 23)) := (by repeat' (first | assumption | with_reducible exact Keep.refl _ _ | with_reducible refine Keep.alloc ?_ _ | with_reducible refine Keep.drew ?_))
  have cmy := fun W => ref_may W c hc
  simp only [Config.cells] at hx k0 cmy ⊢
  replace cmy := Lib.hid cmy
  cases hm : c.mayB
  · have cno := fun W => model_new_no W c hc hm
    simp only [Config.cells] at cno
    replace cno := Lib.hid cno
    rw [hm] at cmy
    clear hm
    go_enter Tryz.func4, Tryz.ntmps4
    go_wp2_with fail
    refine (model_up _).mono ?_
    rintro e w1 ⟨rfl, k1⟩
    have hx1 := Keep.at k1 hx (fun e => e)
    have cx := At.cell hx1
    have lx := hx1.lt
    replace hx := Lib.hid hx
    go_wp2_with fail
    refine (cno.out _).mono ?_
    rintro e w2 ⟨rfl, k2⟩
    have hx2 := Keep.at k2 hx1 (fun e => e)
    have cx2 := At.cell hx2
    have lx2 := hx2.lt
    clear cx hx1 lx
    go_wp2_with fail
    refine (cmy.out _).mono ?_
    rintro e w3 ⟨rfl, k3⟩
    have he := eq_err w3 2 2
    clear cx2 hx2 lx2
    go_wp2_with fail
    go_ret
    exact ⟨rfl, (((k0.trans k1).trans k2).trans k3).below (Nat.le_refl _) not_none⟩
  · have cyes := fun W => model_new W c hc hm
    have cnew := fun W => refm_new W c
    simp only [Config.cells] at cyes cnew
    replace cyes := Lib.hid cyes
    replace cnew := Lib.hid cnew
    rw [hm] at cmy
    go_enter Tryz.func4, Tryz.ntmps4
    go_wp2_with fail
    refine (model_up _).mono ?_
    rintro e w1 ⟨rfl, k1⟩
    have hx1 := Keep.at k1 hx (fun e => e)
    have cx := At.cell hx1
    have lx := hx1.lt
    replace hx := Lib.hid hx
    go_wp2_with fail
    refine (cyes.out _).mono ?_
    rintro e w2 ⟨mb, gp, mp, tp, lp, rfl, hmd, k2⟩
    have hx2 := Keep.at k2 hx1 (fun e => e)
    have cx2 := At.cell hx2
    have lx2 := hx2.lt
    clear cx hx1 lx
    replace hx2 := Lib.hid hx2
    go_wp2_with fail
    refine (cmy.out _).mono ?_
    rintro e w3 ⟨rfl, k3⟩
    have hx3 := Keep.at k3 hx2.out (fun e => e)
    have kW2 := (k0.trans k1).trans k2
    have kW3 := kW2.trans k3
    have hbw : W.heap.size ≤ w1.heap.size ∧ w1.heap.size ≤ w2.heap.size := ⟨(k0.trans k1).size, k2.size⟩
    have cfew := Lib.hid (law_few (hsl.keep kW3 Off.none_) 60 (by omega))
    have hmd3 := hmd.none k3
    clear cx2 lx2 hmd
    replace hx3 := Lib.hid hx3
    go_wp2_with fail
    refine cfew.out.mono ?_
    rintro e w4 ⟨he, rfl⟩
    rcases he with rfl | ⟨rfl, hn60, hshort⟩
    · clear hmd3
      go_wp2_with fail
      go_ret
      exact ⟨rfl, kW3.below (Nat.le_refl _) not_none⟩
    · by_cases hk100 : 100 < key.size
      · have hkb : decide ((100 : Int) < (key.size : Int)) = true := by simp; omega
        have hki : (100 : Int) < (key.size : Int) := by omega
        clear hmd3
        go_wp2_with fail
        go_ret
        exact ⟨rfl, kW3.below (Nat.le_refl _) not_none⟩
      · have hkb : decide ((100 : Int) < (key.size : Int)) = false := by simp; omega
        have hki : ¬ ((100 : Int) < (key.size : Int)) := by omega
        have hl60 : l.length ≤ 60 := by omega
        have cx3 := At.cell hx3.out
        have lx3 := hx3.out.lt
        clear hshort hkb cfew hn60 hk100
        replace hmd3 := Lib.hid hmd3
        go_wp2_with fail
        refine (cnew.out _).mono ?_
        rintro e w5 ⟨rm, p, rfl, hrm, k5⟩
        have st0 : BothSt W w5 w1.heap.size mb gp mp tp lp w3.heap.size rm p 0 c (.slice none 0 0) (.slice none 0 0) [] (fun _ => []) [] (-9223372036854775808) false none 0 [] (.slice none 0 0) :=
          ⟨hmd3.out.turn k5 (fun q _ e => e.elim) (fun q hq e => by
            rcases e with (e | e | e) | ⟨a, e, -⟩
            · have := hrm.low.1; omega
            · have := hrm.low.2; omega
            · cases e
            · cases e) (fun q e => by
            rcases e with e | ⟨a, e, -⟩
            · exact (hrm.lt q e).2
            · cases e), hrm, kW3.trans k5, ⟨hbw.1, Nat.le_trans hbw.2 (Nat.le_trans k3.size k5.size), kW3.size, k5.size⟩, Nat.le_refl _⟩
        clear cx3 lx3 hx3 hx2 hx hrm hmd3 k5 kW2 kW3 k3 k2 k1 k0 cnew cmy cyes
        replace hm := Lib.hid hm
        generalize w1.heap.size = b at *
        generalize w3.heap.size = b2 at *
        go_wp2_with fail
        go_loopw [12, 13] (fun iv _ wr => ∃ (k : Nat) (vq lv : Value) (T : List Timer) (M : KM) (O : List Pane) (mark : Int) (closed : Bool) (A' : Option Addr) (d' : Nat) (L' : List Pane) (ov : Value), iv = .int .i64 k ∧ k ≤ l.length ∧ BothSt W wr b mb gp mp tp lp b2 rm p k c vq lv T M O mark closed A' d' L' ov)
          (fun iv _ _ => l.length - (intOf iv).toNat)
        case atStart => exact ⟨0, _, _, [], _, [], _, _, none, 0, [], _, rfl, Nat.zero_le _, st0⟩
        case round =>
          clear st0
          obtain ⟨k, vq, lv, T, M, O, mark, closed, A', d', L', ov, rfl, hk, st⟩ := hrel
          have hk0 := Int.natCast_nonneg k
          by_cases hlt : k < l.length
          · have hlt1 : (k : Int) < (l.length : Int) := by omega
            have hk60 : k < 60 := by omega
            obtain ⟨ba, off, rfl, hbl, -⟩ := hsl.at_ (by omega)
            have ck := fun w' (kz : Keep none_ W w') => (hsl.keep kz Off.none_).cellk hlt
            have hxk := hok l[k] (List.getElem_mem _)
            generalize l[k] = x at *
            obtain ⟨xo, xk, xt, xv, xe, xg, xs⟩ := x
            have i0 := fun w' (kz : Keep none_ W w') => ck w' kz 0 (by omega)
            have i1 := fun w' (kz : Keep none_ W w') => ck w' kz 1 (by omega)
            have i2 := fun w' (kz : Keep none_ W w') => ck w' kz 2 (by omega)
            have i3 := fun w' (kz : Keep none_ W w') => ck w' kz 3 (by omega)
            have i4 := fun w' (kz : Keep none_ W w') => ck w' kz 4 (by omega)
            have i5 := fun w' (kz : Keep none_ W w') => ck w' kz 5 (by omega)
            have i6 := fun w' (kz : Keep none_ W w') => ck w' kz 6 (by omega)
            simp only [encCall, Call.cells, Nat.add_zero, List.getElem?_cons_zero, List.getElem?_cons_succ] at i0 i1 i2 i3 i4 i5 i6
            have kWr := st.keep
            have t0 := i0 wr kWr
            have t1 := i1 wr kWr
            have t2 := i2 wr kWr
            have t3 := i3 wr kWr
            have t4 := i4 wr kWr
            have t5 := i5 wr kWr
            have t6 := i6 wr kWr
            have hbw : ba < wr.heap.size := Nat.lt_of_lt_of_le hbl kWr.size
            replace i0 := Lib.hid i0
            replace i1 := Lib.hid i1
            replace i2 := Lib.hid i2
            replace i3 := Lib.hid i3
            replace i4 := Lib.hid i4
            replace i5 := Lib.hid i5
            replace i6 := Lib.hid i6
            have hlen := st.len
            have cdo : ∀ W', Keep none_ wr W' → Calls Tryz.prog 27 #[.pointer (some ⟨mb, 0, none⟩), .agg (Call.mk xo xk xt xv xe xg xs).cells.toArray] W' (fun e w1 => ∃ code pA pn pd R O1 M2 vq2 lv2 T2 mark2 closed2, e = .returned (.agg #[.int .i64 code, .slice pA pn pd]) ∧ Sl Pane.cells 7 w1 pA pn pd R ∧ (∀ a, pA = some a → W'.heap.size ≤ a.block) ∧
                BothMid W W' w1 b mb gp mp tp lp b2 rm p k c vq2 lv2 T2 M M2 O O1 R mark mark2 code closed closed2 ⟨xo, xk, xt, xv, xe, xg, xs⟩ A' d' L' ov) :=
              fun W' kz => (model_do (st.still kz).mdl (st.still kz).bl.2.1 (by omega) (by omega) (by omega) hc hm.out ⟨xo, xk, xt, xv, xe, xg, xs⟩ hxk).mono (fun e w1 hd => (st.still kz).did (by omega) hd)
            simp only [Call.cells] at cdo
            replace cdo := Lib.hid cdo
            replace hxk := Lib.hid hxk
            clear ck st
            go_wp2_with fail
            go_cut [13] from 67 to 79 (fun sv w' => sv = .bool true ∧ ∃ (vq2 lv2 : Value) (T2 : List Timer) (M2 : KM) (O2 : List Pane) (mark2 : Int) (closed2 : Bool) (A2 : Option Addr) (d2 : Nat) (L2 : List Pane) (ov2 : Value), BothSt W w' b mb gp mp tp lp b2 rm p (k + 1) c vq2 lv2 T2 M2 O2 mark2 closed2 A2 d2 L2 ov2)
            case first =>
              go_region_law (first
                | (go_simp; go_at_call 27; refine (cdo.out _ (show Keep none_ wr _ from (by repeat' (first | assumption | with_reducible exact Keep.refl _ _ | with_reducible refine Keep.alloc ?_ _ | with_reducible refine Keep.drew ?_)))).mono ?_; rintro e w6 ⟨code, pA, pn, pd, R, O1, M2, vq2, lv2, T2, mark2, closed2, rfl, slR, geR, mid⟩
                   have u0 := i0.out w6 mid.keep
                   have u1 := i1.out w6 mid.keep
                   have u2 := i2.out w6 mid.keep
                   have u3 := i3.out w6 mid.keep
                   have u4 := i4.out w6 mid.keep
                   have u5 := i5.out w6 mid.keep
                   have u6 := i6.out w6 mid.keep
                   have hbw6 : ba < w6.heap.size := Nat.lt_of_lt_of_le hbl mid.keep.size
                   have hold := mid.old.1
                   have crd := (refm_do mid.ref mid.bl.2.2.2 (by omega) (by omega) hc hm.out ⟨xo, xk, xt, xv, xe, xg, xs⟩ hxk.out).mono (fun e w' hd => mid.did (by omega) hd)
                   simp only [Call.cells] at crd
                   replace crd := Lib.hid crd
                   clear mid)
                | (go_simp; go_at_call 28; refine crd.out.mono ?_; rintro e w7 ⟨pA2, pn2, pd2, A2, d2, L2, ov2, rfl, slR2, k7, st2⟩
                   have cs := ref12_same w7 code code (slR.keep k7 (fun a ha e => by have h1 := geR a ha; have h2 := hold _ e; omega)) slR2
                   have hse : (panesB R R && code == code) = true := by simp [panesB_self]
                   have hse2 : (code == code && panesB R R) = true := by simp [panesB_self]
                   simp only [hse, hse2] at cs
                   replace cs := Lib.hid cs)
                | (go_simp; go_at_call 26; refine cs.out.mono ?_; rintro e w8 ⟨rfl, k8⟩)
                | fail)
              all_goals
                go_wp2_with fail
                go_meet
                exact ⟨rfl, _, _, _, _, _, _, _, _, _, _, _, st2.still k8⟩
            case rest =>
              obtain ⟨rfl, vq2, lv2, T2, M2, O2, mark2, closed2, A2, d2, L2, ov2, st2⟩ := hcut
              have hself := st2.ref.self
              obtain ⟨Aq, cq, rfl⟩ := own_form st2.ref.row
              have slq : Sl Pane.cells 7 wc Aq O2.length cq O2 := Sl.of_own pane_len (by decide) st2.ref.row
              have hl2 := st2.len
              have hkm := st2.ref.good.km
              have cs := At.cell hself
              have r0 : wc.cell? ⟨rm, 0, none⟩ = some (.pointer (some ⟨p, 0, none⟩)) := cs 0
              have r1 : wc.cell? ⟨rm, 1, none⟩ = some (.slice Aq O2.length cq) := cs 1
              have r2 : wc.cell? ⟨rm, 2, none⟩ = some (.int .i64 mark2) := cs 2
              have lr := hself.lt
              have cO := Lib.hid (fun W (kz : Keep none_ wc W) => model_out (st2.mdl.none kz) (by omega))
              have cM := Lib.hid (fun W (kz : Keep none_ wc W) => model_mark (st2.mdl.none kz))
              have cP := Lib.hid (fun W (kz : Keep none_ wc W) => model_panes (st2.mdl.none kz) (by omega) key hkey)
              have cR := Lib.hid (fun W (kz : Keep none_ wc W) => ref6_panes (st2.ref.ref.none kz) st2.ref.rel hkm (by have := st2.ref.len; omega) key)
              have hbm : (mark2 != mark2) = false := by simp
              clear cs t0 t1 t2 t3 t4 t5 t6 cdo
              go_wp2_with fail
              go_cut [113] from 80 to 112 (fun bv w' => bv = .bool false ∧ Keep none_ wc w')
              case first =>
                go_region_held3 (fun w' => w'.cell? ⟨rm, 0, none⟩ = some (.pointer (some ⟨p, 0, none⟩)) ∧ w'.cell? ⟨rm, 1, none⟩ = some (.slice Aq O2.length cq) ∧ w'.cell? ⟨rm, 2, none⟩ = some (.int .i64 mark2) ∧ Keep none_ wc w')
                  (first
                    | exact cells3 lr r0 r1 r2 (Keep.refl _ _).drew
                    | (go_split_ands; exact cells3 lr r0 r1 r2 kc13)
                    | (go_split_ands; exact cells3 lr r0 r1 r2 kc12)
                    | (go_split_ands; exact cells3 lr r0 r1 r2 kc11)
                    | (go_split_ands; exact cells3 lr r0 r1 r2 kc10)
                    | (go_split_ands; exact cells3 lr r0 r1 r2 kc9)
                    | fail)
                  ((first
                    | (go_at_call 29; refine (cO.out _ (show Keep none_ wc _ from (by repeat' (first | assumption | with_reducible exact Keep.refl _ _ | with_reducible refine Keep.alloc ?_ _ | with_reducible refine Keep.drew ?_)))).mono ?_; rintro e w9 ⟨v9, rfl, o9, k9⟩
                       obtain ⟨A9, d9, rfl⟩ := own_form o9
                       have kc9 : Keep none_ wc w9 := Keep.trans (show Keep none_ wc _ from (by repeat' (first | assumption | with_reducible exact Keep.refl _ _ | with_reducible refine Keep.alloc ?_ _ | with_reducible refine Keep.drew ?_))) k9
                       have cs9 := ref_same w9 (Sl.of_own pane_len (by decide) o9) (slq.keep kc9 Off.none_)
                       rw [panesB_self] at cs9
                       replace cs9 := Lib.hid cs9
                       clear o9 k9)
                    | (go_at_call 11; refine cs12.out.mono ?_; rintro e w13 ⟨rfl, k13⟩; have kc13 := kc12.trans k13; clear k13)
                    | (go_at_call 11; refine cs9.out.mono ?_; rintro e w10 ⟨rfl, k10⟩; have kc10 : Keep none_ wc w10 := kc9.trans k10; clear k10)
                    | (go_at_call 30; refine (cM.out _ kc10).mono ?_; rintro e w9m ⟨rfl, rfl⟩)
                    | (go_at_call 31; refine (cP.out _ kc10).mono ?_; rintro e w11 ⟨v11, rfl, o11, k11⟩
                       obtain ⟨A11, d11, rfl⟩ := own_form o11
                       have kc11 : Keep none_ wc w11 := kc10.trans k11
                       have sl11 : Sl Pane.cells 7 w11 A11 (M2 key).length d11 (M2 key) := Sl.of_own pane_len (by decide) o11
                       clear o11 k11)
                    | (go_at_call 21; refine (cR.out _ kc11).mono ?_; rintro e w12 ⟨v12, rfl, o12, k12⟩
                       obtain ⟨A12, d12, rfl⟩ := own_form o12
                       have kc12 : Keep none_ wc w12 := kc11.trans k12
                       have cs12 := ref_same w12 (sl11.keep k12 Off.none_) (Sl.of_own pane_len (by decide) o12)
                       rw [panesB_self] at cs12
                       replace cs12 := Lib.hid cs12
                       clear o12 k12)
                    | fail))
                all_goals
                  go_wp2_with fail
                  go_meet
                  exact ⟨rfl, kc13⟩
              case rest =>
                obtain ⟨rfl, kz⟩ := hcut
                have st3 := st2.still kz
                clear st2 cO cM cP cR hself slq r0 r1 r2
                go_wp2_with fail
                go_roundw
                case rel => exact ⟨k + 1, _, _, _, _, _, _, _, _, _, _, _, by go_num, by omega, st3⟩
                case measure => simp [intOf]; omega
          · have kf := st.keep
            have hn1 : ¬ ((k : Int) < (l.length : Int)) := by omega
            clear st
            go_wp2_with fail
            go_ret
            exact ⟨rfl, kf.below (Nat.le_refl _) not_none⟩
end Go.Proofs.YtmioichjhiengaaGreat
