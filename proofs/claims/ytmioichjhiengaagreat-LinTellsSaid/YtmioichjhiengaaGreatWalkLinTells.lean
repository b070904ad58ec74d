/-
  For every config, history and key easellaw20.LinTells yields true.
-/
import Derived.Test.YtmioichjhiengaaGreatLinUp
import Derived.Test.YtmioichjhiengaaGreatRefCheck
set_option linter.unusedSimpArgs false
set_option linter.unusedVariables false
namespace Go.Proofs.YtmioichjhiengaaGreat
open Go.RowKit

theorem cells3L {a w : World} {b : Nat} {v0 v1 v2 : Value} (hb : b < a.heap.size) (q0 : a.cell? ⟨b, 0, none⟩ = some v0) (q1 : a.cell? ⟨b, 1, none⟩ = some v1) (q2 : a.cell? ⟨b, 2, none⟩ = some v2) (kk : Keep none_ a w) :
    w.cell? ⟨b, 0, none⟩ = some v0 ∧ w.cell? ⟨b, 1, none⟩ = some v1 ∧ w.cell? ⟨b, 2, none⟩ = some v2 ∧ Keep none_ a w :=
  ⟨(keep_cell kk hb).trans q0, (keep_cell kk hb).trans q1, (keep_cell kk hb).trans q2, kk⟩
set_option maxHeartbeats 16000000 in
set_option maxRecDepth 100000 in
theorem law_LinTells (c : Config) (l : List EventP) (v : Value) (key : ByteArray) (W : World) (hc : c.ok) (hv : rSlice 14 rEventP W l [v]) (hkey : key.size ≤ maxLen) :
    Calls Tryz.prog 7 #[.agg c.cells.toArray, v, .string key] W fun e W' => e = .returned (.bool true) ∧ Below W.heap.size W W' := by
  obtain ⟨A, cc, rfl, hev⟩ := EvAt.of hv
  clear hv
  have hx := At.new W c.cells.toArray 23
  have k0 : Keep none_ W (W.alloc (.cells c.cells.toArray 23)) := (by repeat' (first | assumption | with_reducible exact Keep.refl _ _ | with_reducible refine Keep.alloc ?_ _ | with_reducible refine Keep.drew ?_))
  have cno := fun W (h : c.mayB = false) (A : Option Addr) n d => lin_check_no (A := A) (n := n) (d := d) W c hc h
  have rno := fun W (h : c.mayB = false) (A : Option Addr) n d => ref_check_no (A := A) (n := n) (d := d) W c hc h
  have cyes := fun W (h : c.mayB = true) (A : Option Addr) d l hl hn => lin_check (A := A) (d := d) (l := l) W c hc h hl hn
  have ryes := fun W (h : c.mayB = true) (A : Option Addr) d l hl hn => ref_check (A := A) (d := d) (l := l) W c hc h hl hn
  simp only [Config.cells] at hx k0 cno rno cyes ryes ⊢
  replace cno := Lib.hid cno
  replace rno := Lib.hid rno
  replace cyes := Lib.hid cyes
  replace ryes := Lib.hid ryes
  have hcc := hev.sl.2.1
  have hcm := hev.sl.2.2.1
  unfold maxLen at hcm
  go_enter Tryz.func7, Tryz.ntmps7
  go_wp2_with fail
  generalize W.alloc _ = w0 at *
  generalize hcbe : W.heap.size = cb at *
  replace hcbe := Lib.hid hcbe
  refine (lin_up _).mono ?_
  rintro e w1 ⟨rfl, k1⟩
  have kW1 := k0.trans k1
  have hx1 := Keep.at k1 hx (fun e => e)
  have cfew := Lib.hid (law20_few (hev.none kW1))
  clear hx k0 k1
  go_wp2_with fail
  refine cfew.out.mono ?_
  rintro e w2 ⟨he, rfl⟩
  have hbel : ∀ w', Keep none_ w1 w' → Below W.heap.size W w' := fun w' k => (kW1.trans k).below (Nat.le_refl _) not_none
  replace hbel := Lib.hid hbel
  have hcx := At.cell hx1
  have lcx := hx1.lt
  rcases he with rfl | ⟨rfl, h40⟩
  · go_wp2_with fail
    go_ret
    exact ⟨rfl, hbel.out _ (Keep.refl _ _)⟩
  · by_cases hk100 : 100 < key.size
    · have hkb : decide ((100 : Int) < (key.size : Int)) = true := by simp; omega
      have hki : (100 : Int) < (key.size : Int) := by omega
      go_wp2_with fail
      go_ret
      exact ⟨rfl, hbel.out _ (Keep.refl _ _)⟩
    · have hkb : decide ((100 : Int) < (key.size : Int)) = false := by simp; omega
      have hki : ¬ ((100 : Int) < (key.size : Int)) := by omega
      replace hx1 := Lib.hid hx1
      cases hm : c.mayB
      · have c1 := Lib.hid (cno.out w1 hm A l.length cc)
        replace hm := Lib.hid hm
        go_wp2_with fail
        refine c1.out.mono ?_
        rintro e w3 ⟨rfl, k3⟩
        have hx3 := Keep.at k3 hx1.out (fun e => e)
        have c2 := Lib.hid (rno.out w3 hm.out A l.length cc)
        clear hcx lcx
        have hcx := At.cell hx3
        have lcx := hx3.lt
        go_wp2_with fail
        refine c2.out.mono ?_
        rintro e w4 ⟨rfl, k4⟩
        clear hcx lcx hx3
        go_wp2_with fail
        refine (code_err _ 2 (by omega) (by omega)).mono ?_
        rintro e w5 ⟨rfl, rfl⟩
        go_wp2_with fail
        go_ret
        exact ⟨rfl, hbel.out _ (k3.trans k4)⟩
      · have hev1 := hev.none kW1
        have c1 := Lib.hid (cyes.out w1 hm A cc l hev1 (by omega))
        replace hm := Lib.hid hm
        clear cno rno
        go_wp2_with fail
        refine c1.out.mono ?_
        rintro e w3 hd1
        have k3 : Keep none_ w1 w3 := by
          rcases hd1 with ⟨-, -, k⟩ | ⟨-, S, -, ⟨-, -, k⟩ | ⟨s, b, mb, gp, mp, tp, lp, vq, lv, T, -, -, st⟩⟩
          · exact k
          · exact k
          · exact st.keep
        have hx3 := Keep.at k3 hx1.out (fun e => e)
        have c2 := Lib.hid (ryes.out w3 hm.out A cc l (hev1.none k3) (by omega))
        clear hcx lcx c1
        have hcx := At.cell hx3
        have lcx := hx3.lt
        rcases hd1 with ⟨hF, rfl, -⟩ | ⟨hF, S, hS, ⟨hrun, rfl, -⟩ | ⟨s, b, mb, gp, mp, tp, lp, vq, lv, T, hrun, rfl, st⟩⟩
        · replace hF := Lib.hid hF
          go_wp2_with fail
          refine c2.out.mono ?_
          rintro e w4 hd2
          rcases hd2 with ⟨-, rfl, k4⟩ | ⟨hF2, -⟩
          · clear hcx lcx hx3
            go_wp2_with fail
            refine (code_err _ 1 (by omega) (by omega)).mono ?_
            rintro e w5 ⟨rfl, rfl⟩
            go_wp2_with fail
            go_ret
            exact ⟨rfl, hbel.out _ (k3.trans k4)⟩
          · exact absurd hF2 hF.out
        · replace hF := Lib.hid hF
          replace hS := Lib.hid hS
          replace hrun := Lib.hid hrun
          go_wp2_with fail
          refine c2.out.mono ?_
          rintro e w4 hd2
          rcases hd2 with ⟨hF2, -⟩ | ⟨-, S2, hS2, hd2⟩
          · exact absurd hF.out hF2
          · obtain rfl := hS.out.uniq hS2
            rcases hd2 with ⟨-, rfl, k4⟩ | ⟨s2, b2, rm, p, A2, d2, L2, ov2, hrun2, -⟩
            · clear hcx lcx hx3
              go_wp2_with fail
              refine (code_err _ 10 (by omega) (by omega)).mono ?_
              rintro e w5 ⟨rfl, rfl⟩
              go_wp2_with fail
              go_ret
              exact ⟨rfl, hbel.out _ (k3.trans k4)⟩
            · rw [hrun.out] at hrun2
              cases hrun2
        · replace hF := Lib.hid hF
          replace hS := Lib.hid hS
          replace hrun := Lib.hid hrun
          replace st := Lib.hid st
          go_wp2_with fail
          refine c2.out.mono ?_
          rintro e w4 hd2
          rcases hd2 with ⟨hF2, -⟩ | ⟨-, S2, hS2, hd2⟩
          · exact absurd hF.out hF2
          · obtain rfl := hS.out.uniq hS2
            rcases hd2 with ⟨hrun2, -⟩ | ⟨s2, b2, rm, p, A2, d2, L2, ov2, hrun2, rfl, rs⟩
            · rw [hrun.out] at hrun2
              cases hrun2
            · rw [hrun.out] at hrun2
              obtain rfl := Option.some.inj hrun2
              have st4 := st.out.still rs.keep
              obtain ⟨Aq, cq, rfl⟩ := own_form rs.ref.row
              have slq : Sl Pane.cells 7 w4 Aq s.O.length cq s.O := Sl.of_own pane_len (by decide) rs.ref.row
              have hself := rs.ref.self
              have cs := At.cell hself
              have r0 : w4.cell? ⟨rm, 0, none⟩ = some (.pointer (some ⟨p, 0, none⟩)) := cs 0
              have r1 : w4.cell? ⟨rm, 1, none⟩ = some (.slice Aq s.O.length cq) := cs 1
              have r2 : w4.cell? ⟨rm, 2, none⟩ = some (.int .i64 s.mark) := cs 2
              have lr := hself.lt
              have hlen := st4.len
              have hkm := rs.ref.good.km
              have cO := Lib.hid (fun W (kz : Keep none_ w4 W) => model_out (st4.mdl.none kz) (by omega))
              have cM := Lib.hid (fun W (kz : Keep none_ w4 W) => model_mark (st4.mdl.none kz))
              have cP := Lib.hid (fun W (kz : Keep none_ w4 W) => model_panes (st4.mdl.none kz) (by omega) key hkey)
              have cR := Lib.hid (fun W (kz : Keep none_ w4 W) => ref6_panes (rs.ref.ref.none kz) rs.ref.rel hkm (by have := rs.ref.len; omega) key)
              have hbm : (s.mark == s.mark) = true := by simp
              have kz4 := k3.trans rs.keep
              clear hcx lcx hx3 cs hself rs st4 st hrun
              go_wp2_with fail
              have hcn : Calls Tryz.prog 41 #[.nilIface] w4 fun e w' => e = .returned (.int .i64 0) ∧ w4 = w' := code_nil _
              refine hcn.mono ?_
              rintro e w5 ⟨rfl, rfl⟩
              clear hcn
              go_wp2_with fail
              go_region_held3 (fun w' => w'.cell? ⟨rm, 0, none⟩ = some (.pointer (some ⟨p, 0, none⟩)) ∧ w'.cell? ⟨rm, 1, none⟩ = some (.slice Aq s.O.length cq) ∧ w'.cell? ⟨rm, 2, none⟩ = some (.int .i64 s.mark) ∧ Keep none_ w4 w')
                (first
                  | exact cells3L lr r0 r1 r2 (Keep.refl _ _).drew
                  | (go_split_ands; exact cells3L lr r0 r1 r2 kc13)
                  | (go_split_ands; exact cells3L lr r0 r1 r2 kc12)
                  | (go_split_ands; exact cells3L lr r0 r1 r2 kc11)
                  | (go_split_ands; exact cells3L lr r0 r1 r2 kc10)
                  | (go_split_ands; exact cells3L lr r0 r1 r2 kc9)
                  | (go_split_ands; exact cells3L lr r0 r1 r2 (by repeat' (first | assumption | with_reducible exact Keep.refl _ _ | with_reducible refine Keep.alloc ?_ _ | with_reducible refine Keep.drew ?_)))
                  | fail)
                ((first
                  | (go_at_call 30; refine (cM.out _ (show Keep none_ w4 _ from (by repeat' (first | assumption | with_reducible exact Keep.refl _ _ | with_reducible refine Keep.alloc ?_ _ | with_reducible refine Keep.drew ?_)))).mono ?_; rintro e w9m ⟨rfl, rfl⟩)
                  | (go_at_call 29; refine (cO.out _ (show Keep none_ w4 _ from (by repeat' (first | assumption | with_reducible exact Keep.refl _ _ | with_reducible refine Keep.alloc ?_ _ | with_reducible refine Keep.drew ?_)))).mono ?_; rintro e w9 ⟨v9, rfl, o9, k9⟩
                     obtain ⟨A9, d9, rfl⟩ := own_form o9
                     have kc9 : Keep none_ w4 w9 := Keep.trans (show Keep none_ w4 _ from (by repeat' (first | assumption | with_reducible exact Keep.refl _ _ | with_reducible refine Keep.alloc ?_ _ | with_reducible refine Keep.drew ?_))) k9
                     have cs9 := ref_same w9 (Sl.of_own pane_len (by decide) o9) (slq.keep kc9 Off.none_)
                     rw [panesB_self] at cs9
                     replace cs9 := Lib.hid cs9
                     clear o9 k9)
                  | (go_at_call 11; refine cs12.out.mono ?_; rintro e w13 ⟨rfl, k13⟩; have kc13 := kc12.trans k13; clear k13)
                  | (go_at_call 11; refine cs9.out.mono ?_; rintro e w10 ⟨rfl, k10⟩; have kc10 : Keep none_ w4 w10 := kc9.trans k10; clear k10)
                  | (go_at_call 31; refine (cP.out _ kc10).mono ?_; rintro e w11 ⟨v11, rfl, o11, k11⟩
                     obtain ⟨A11, d11, rfl⟩ := own_form o11
                     have kc11 : Keep none_ w4 w11 := kc10.trans k11
                     have sl11 : Sl Pane.cells 7 w11 A11 (s.M key).length d11 (s.M key) := Sl.of_own pane_len (by decide) o11
                     clear o11 k11)
                  | (go_at_call 21; refine (cR.out _ kc11).mono ?_; rintro e w12 ⟨v12, rfl, o12, k12⟩
                     obtain ⟨A12, d12, rfl⟩ := own_form o12
                     have kc12 : Keep none_ w4 w12 := kc11.trans k12
                     have cs12 := ref_same w12 (sl11.keep k12 Off.none_) (Sl.of_own pane_len (by decide) o12)
                     rw [panesB_self] at cs12
                     replace cs12 := Lib.hid cs12
                     clear o12 k12)
                  | fail))
              all_goals
                go_wp2_with fail
                go_ret
                exact ⟨rfl, hbel.out _ (kz4.trans kc13)⟩
end Go.Proofs.YtmioichjhiengaaGreat
