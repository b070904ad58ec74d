/-
  For every config and deeds easellaw08.GroupPlays yields true.
-/
import Derived.Test.YtmioichjhiengaaGreatBaseKeys
import Derived.Test.YtmioichjhiengaaGreatBaseUp
import Derived.Deep.CutRange
import Derived.Deep.RegionHeld3
set_option linter.unusedSimpArgs false
set_option linter.unusedVariables false
namespace Go.Proofs.YtmioichjhiengaaGreat
open Go.RowKit

def enc08 (d : Deed08) : List Value := d.cells
theorem deed08_of (w : World) (x : Deed08) (cs : List Value) (h : rDeed08 w x cs) : cs = enc08 x ∧ x.ok := h
theorem cell1_and {a w : World} {b i : Nat} {v : Value} (hb : b < a.heap.size) (q : a.cell? ⟨b, i, none⟩ = some v) (kk : Keep none_ a w) : w.cell? ⟨b, i, none⟩ = some v := (keep_cell kk hb).trans q
theorem cells2_and {a w : World} {b i b' i' : Nat} {v v' : Value} (hb : b < a.heap.size) (hb' : b' < a.heap.size) (q : a.cell? ⟨b, i, none⟩ = some v) (q' : a.cell? ⟨b', i', none⟩ = some v') (kk : Keep none_ a w) : w.cell? ⟨b, i, none⟩ = some v ∧ w.cell? ⟨b', i', none⟩ = some v' ∧ Keep none_ a w :=
  ⟨(keep_cell kk hb).trans q, (keep_cell kk hb').trans q', kk⟩
set_option maxHeartbeats 40000000 in
set_option maxRecDepth 100000 in
theorem law_GroupPlays (c : Config) (l : List Deed08) (v : Value) (W : World) (hc : c.ok) (hv : rSlice 5 rDeed08 W l [v]) :
    Calls Tryz.prog 3 #[.agg c.cells.toArray, v] W fun e W' => e = .returned (.bool true) ∧ Below W.heap.size W W' := by
  obtain ⟨A, n, cc, rfl, hsl, hok⟩ := sl_of enc08 Deed08.ok deed08_of hv
  clear hv
  obtain rfl := hsl.len
  have hnc := hsl.2.2.1
  have hlc := hsl.2.1
  unfold maxLen at hnc
  have hx := At.new W c.cells.toArray 23
  have k0 : Keep none_ W (W.alloc (.cells c.cells.toArray 23)) := (by repeat' (first | assumption | with_reducible exact Keep.refl _ _ | with_reducible refine Keep.alloc ?_ _ | with_reducible refine Keep.drew ?_))
  have cmy := fun W => ref_may W c hc
  simp only [Config.cells] at hx k0 cmy ⊢
  replace cmy := Lib.hid cmy
  cases hm : c.mayB
  · have cno := fun W => group_new_no W c hc hm
    simp only [Config.cells] at cno
    replace cno := Lib.hid cno
    rw [hm] at cmy
    clear hm
    go_enter Tryz.func3, Tryz.ntmps3
    go_wp2_with fail
    refine (group_up _).mono ?_
    rintro e w1 ⟨rfl, k1⟩
    have hx1 := Keep.at k1 hx (fun e => e)
    have cx := At.cell hx1
    have lx := hx1.lt
    replace hx := Lib.hid hx
    go_wp2_with fail
    refine (cno.out _).mono ?_
    rintro e w2 ⟨rfl, k2⟩
    have hx2 := Keep.at k2 hx1 (fun e => e)
    have cx2 := At.cell hx2
    have lx2 := hx2.lt
    clear cx hx1 lx
    go_wp2_with fail
    refine (cmy.out _).mono ?_
    rintro e w3 ⟨rfl, k3⟩
    have he := eq_err w3 2 2
    clear cx2 hx2 lx2
    go_wp2_with fail
    go_ret
    exact ⟨rfl, (((k0.trans k1).trans k2).trans k3).below (Nat.le_refl _) not_none⟩
  · have cyes := fun W => group_born W c hc hm
    simp only [Config.cells] at cyes
    replace cyes := Lib.hid cyes
    rw [hm] at cmy
    go_enter Tryz.func3, Tryz.ntmps3
    go_wp2_with fail
    refine (group_up _).mono ?_
    rintro e w1 ⟨rfl, k1⟩
    have hx1 := Keep.at k1 hx (fun e => e)
    have cx := At.cell hx1
    have lx := hx1.lt
    replace hx := Lib.hid hx
    go_wp2_with fail
    refine (cyes.out _).mono ?_
    rintro e w2 ⟨gp, mp, tp, rfl, hg, k2, lg, lm, lt⟩
    have hx2 := Keep.at k2 hx1 (fun e => e)
    have cx2 := At.cell hx2
    have lx2 := hx2.lt
    clear cx hx1 lx
    replace hx2 := Lib.hid hx2
    go_wp2_with fail
    refine (cmy.out _).mono ?_
    rintro e w3 ⟨rfl, k3⟩
    have hx3 := Keep.at k3 hx2.out (fun e => e)
    have kW1 := k0.trans k1
    have kW2 := kW1.trans k2
    have kW3 := kW2.trans k3
    have cx3 := At.cell hx3
    have lx3 := hx3.lt
    have q0 : w3.cell? ⟨W.heap.size, 0, none⟩ = some (.int .i64 c.kind) := cx3 0
    have q1 : w3.cell? ⟨W.heap.size, 1, none⟩ = some (.int .i64 c.size) := cx3 1
    have q2 : w3.cell? ⟨W.heap.size, 2, none⟩ = some (.int .i64 c.slide) := cx3 2
    have q3 : w3.cell? ⟨W.heap.size, 3, none⟩ = some (.int .i64 c.gap) := cx3 3
    have q4 : w3.cell? ⟨W.heap.size, 4, none⟩ = some (.int .i64 c.late) := cx3 4
    have q5 : w3.cell? ⟨W.heap.size, 5, none⟩ = some (.int .i64 c.shards) := cx3 5
    have q6 : w3.cell? ⟨W.heap.size, 6, none⟩ = some (.int .i64 c.groups) := cx3 6
    have q7 : w3.cell? ⟨W.heap.size, 7, none⟩ = some (.int .i64 c.cap) := cx3 7
    clear cx2 lx2 cx3
    replace hx3 := Lib.hid hx3
    by_cases hl50 : 50 < l.length
    · have hlb : decide ((50 : Int) < (l.length : Int)) = true := by simp; omega
      have hli : (50 : Int) < (l.length : Int) := by omega
      clear hg q0 q1 q2 q3 q4 q5 q6 q7
      go_wp2_with fail
      go_ret
      exact ⟨rfl, kW3.below (Nat.le_refl _) not_none⟩
    · have hlb : decide ((50 : Int) < (l.length : Int)) = false := by simp; omega
      have hli : ¬ ((50 : Int) < (l.length : Int)) := by omega
      have st0 : AskSt w1 (w3.alloc (.cells #[.int .i64 c.kind, .int .i64 c.size, .int .i64 c.slide, .int .i64 c.gap, .int .i64 c.late, .int .i64 c.shards, .int .i64 c.groups, .int .i64 c.cap, .slice none 0 0] 36)) gp mp tp w3.heap.size 0 c (.slice none 0 0) [] (fun _ => []) none 0 [] :=
        AskSt.born (wd := w2) hg (Keep.refl _ _) k2 (Keep.alloc k3 _) k3.size ⟨lg, lm, lt⟩ (At.new _ _ _)
      clear hg hx k1 k0 lg lm lt
      replace st0 := Lib.hid st0
      replace hm := Lib.hid hm
      go_wp2_with fail
      generalize hpe : w3.heap.size = p at *
      generalize w3.alloc _ = w4 at *
      clear q0 q1 q2 q3 q4 q5 q6 q7 lx3 hx3 hx2 hlb k3 k2 kW2
      replace hpe := Lib.hid hpe
      have stA := st0.out
      clear st0
      go_loopw [10, 11, 12, 13, 14, 15, 16, 17, 18] (fun iv _ _ _ _ _ _ _ _ wr => ∃ (k : Nat) (vq : Value) (T : List Timer) (M : KM) (A' : Option Addr) (d' : Nat) (L' : List Pane), iv = .int .i64 k ∧ k ≤ l.length ∧ AskSt w1 wr gp mp tp p k c vq T M A' d' L')
        (fun iv _ _ _ _ _ _ _ _ _ => l.length - (intOf iv).toNat)
      case atStart => exact ⟨0, _, [], _, none, 0, [], rfl, Nat.zero_le _, stA⟩
      case round =>
        clear stA
        obtain ⟨k, vq, T, M, A', d', L', rfl, hk, st⟩ := hrel
        have hk0 := Int.natCast_nonneg k
        by_cases hlt : k < l.length
        · have hlt1 : (k : Int) < (l.length : Int) := by omega
          have hk50 : k < 50 := by omega
          obtain ⟨ba, off, rfl, hbl, -⟩ := hsl.at_ (by omega)
          have kWr := kW1.trans st.keep
          have ck := (hsl.keep kWr Off.none_).cellk hlt
          have hxk := hok l[k] (List.getElem_mem _)
          generalize l[k] = x at *
          obtain ⟨xs, xk, xt, xv, xm⟩ := x
          obtain ⟨hkey, hxt, hxv, hxm⟩ := hxk
          have t0 := ck 0 (by omega)
          have t1 := ck 1 (by omega)
          have t2 := ck 2 (by omega)
          have t3 := ck 3 (by omega)
          have t4 := ck 4 (by omega)
          simp only [enc08, Deed08.cells, Nat.add_zero, List.getElem?_cons_zero, List.getElem?_cons_succ] at t0 t1 t2 t3 t4
          have hbw : ba < wr.heap.size := Nat.lt_of_lt_of_le hbl kWr.size
          have hkey2 : xk.size ≤ maxLen := hkey
          simp only at hkey2 hxt hxv hxm
          have hst : Hid (GpSt w1 (wr.alloc (.cells #[.bool xs, .string xk, .int .i64 xt, .int .i64 xv, .int .i64 xm] 38)) gp mp tp p wr.heap.size k c #[.bool xs, .string xk, .int .i64 xt, .int .i64 xv, .int .i64 xm] vq T M A' d' L') :=
            Lib.hid (GpSt.of st rfl (Keep.alloc (Keep.refl _ _) _) (At.new _ _ _))
          have kz0 : Keep none_ W (wr.alloc (.cells #[.bool xs, .string xk, .int .i64 xt, .int .i64 xv, .int .i64 xm] 38)) := Keep.alloc kWr _
          have cA := At.new wr #[.bool xs, .string xk, .int .i64 xt, .int .i64 xv, .int .i64 xm] 38
          have cA2 := At.cell cA
          have lA := cA.lt
          clear ck st hkey
          by_cases hk100 : 100 < xk.size
          · have hkb : decide ((100 : Int) < (xk.size : Int)) = true := by simp; omega
            have hki : (100 : Int) < (xk.size : Int) := by omega
            go_wp2_with fail
            go_ret
            exact ⟨rfl, kz0.below (Nat.le_refl _) not_none⟩
          · have hkb : decide ((100 : Int) < (xk.size : Int)) = false := by simp; omega
            have hki : ¬ ((100 : Int) < (xk.size : Int)) := by omega
            go_upto_if 78 with fail
            generalize hdbe : wr.heap.size = db at *
            generalize wr.alloc _ = wd at *
            replace hdbe := Lib.hid hdbe
            replace hkb := Lib.hid hkb
            clear t0 t1 t2 t3 t4 hbw hkb hki cA2
            go_cut [] from 77 to 123 (fun w' => ∃ (vq2 : Value) (T2 : List Timer) (M2 : KM) (A2 : Option Addr) (d2 : Nat) (L2 : List Pane), GpSt w1 w' gp mp tp p db (k + 1) c #[.bool xs, .string xk, .int .i64 xt, .int .i64 xv, .int .i64 xm] vq2 T2 M2 A2 d2 L2)
            case first =>
              cases xs
              · have hstv := hst.out
                have d1 := fun W (kz : Keep none_ wd W) => At.cell (hstv.still kz).deed
                have ctk : ∀ W', Keep none_ wd W' → Calls Tryz.prog 14 #[.pointer (some ⟨gp, 0, none⟩), .string xk, .int .i64 xt, .int .i64 xv, .int .i64 xm] W' (fun e w2 => ∃ code A1 n1 d1 O vq2 T2 M2, e = .returned (.tuple #[.int .i64 code, .slice A1 n1 d1]) ∧ Sl Pane.cells 7 w2 A1 n1 d1 O ∧ (∀ a, A1 = some a → W'.heap.size ≤ a.block) ∧ GpMid w1 W' w2 gp mp tp p db k c #[.bool false, .string xk, .int .i64 xt, .int .i64 xv, .int .i64 xm] false xk xt xv xm code O vq2 T2 M M2 A' d' L') :=
                  fun W' kz => (group_take (hstv.st.grp.none kz) (by omega) (by omega) hc hm.out xk hkey2 xt xv xm hxt hxv hxm).mono (fun e w2 hd => hstv.take kz hd)
                have g0 := d1 wd (Keep.refl _ _)
                have g1 : wd.cell? ⟨db, 1, none⟩ = some (.string xk) := g0 1
                have g2 : wd.cell? ⟨db, 2, none⟩ = some (.int .i64 xt) := g0 2
                have g3 : wd.cell? ⟨db, 3, none⟩ = some (.int .i64 xv) := g0 3
                have g4 : wd.cell? ⟨db, 4, none⟩ = some (.int .i64 xm) := g0 4
                replace ctk := Lib.hid ctk
                clear d1 g0 hst hstv cA
                go_wp2_with fail
                refine (ctk.out _ (Keep.refl _ _)).mono ?_
                rintro e w6 ⟨code, A1, n1, d1, O, vq2, T2, M2, rfl, slO, geO, mid⟩
                have q := At.cell mid.deed
                have r1 : w6.cell? ⟨db, 1, none⟩ = some (.string xk) := q 1
                have r2 : w6.cell? ⟨db, 2, none⟩ = some (.int .i64 xt) := q 2
                have r3 : w6.cell? ⟨db, 3, none⟩ = some (.int .i64 xv) := q 3
                have r4 : w6.cell? ⟨db, 4, none⟩ = some (.int .i64 xm) := q 4
                have ldb := mid.deed.lt
                have crt := Lib.hid ((ref6_take mid.ref mid.rel mid.good (by omega) (by have := mid.len; omega) hc hm.out xk hkey2 xt xv xm hxt hxv hxm).mono (fun e w2 hd => mid.take (by omega) (Keep.refl _ _) hd))
                have hold := mid.old
                clear q g1 g2 g3 g4 ctk mid lA
                go_wp2_with fail
                refine crt.out.mono ?_
                rintro e w7 ⟨A3, n3, d3, A2, d2, L2, rfl, slP, k7, st7⟩
                have cs := ref_same w7 (slO.keep k7 (fun a ha e => by have := geO a ha; unfold one at e; omega)) slP
                rw [panesB_self] at cs
                replace cs := Lib.hid cs
                have hcode : (code != code) = false := by simp
                clear r1 r2 r3 r4 crt slO slP k7
                go_wp2_with fail
                refine cs.out.mono ?_
                rintro e w8 ⟨rfl, k8⟩
                go_wp2_with fail
                go_meet
                exact ⟨_, _, _, _, _, _, st7.still k8⟩
              · have hstv := hst.out
                have cse : ∀ W', Keep none_ wd W' → Calls Tryz.prog 12 #[.pointer (some ⟨gp, 0, none⟩), .int .i64 xm] W' (fun e w2 => ∃ A1 n1 d1 O vq2 T2 M2, e = .returned (.slice A1 n1 d1) ∧ Sl Pane.cells 7 w2 A1 n1 d1 O ∧ (∀ a, A1 = some a → W'.heap.size ≤ a.block) ∧ GpMid w1 W' w2 gp mp tp p db k c #[.bool true, .string xk, .int .i64 xt, .int .i64 xv, .int .i64 xm] true xk xt xv xm 0 O vq2 T2 M M2 A' d' L') :=
                  fun W' kz => (group_settle (hstv.st.grp.none kz) (by omega) (by omega) hc xm hxm).mono (fun e w2 hd => hstv.settle kz hd)
                have g4 : wd.cell? ⟨db, 4, none⟩ = some (.int .i64 xm) := At.cell hstv.deed 4
                replace cse := Lib.hid cse
                clear hst hstv cA
                go_wp2_with fail
                go_region_held3 (fun w' => w'.cell? ⟨db, 4, none⟩ = some (.int .i64 xm))
                  (first
                    | exact cell1_and lA g4 (Keep.refl _ _).drew
                    | exact hz8
                    | exact hz7
                    | exact hz6
                    | fail)
                  ((first
                    | (go_at_call 12; refine (cse.out _ (show Keep none_ wd _ from (by repeat' (first | assumption | with_reducible exact Keep.refl _ _ | with_reducible refine Keep.alloc ?_ _ | with_reducible refine Keep.drew ?_)))).mono ?_; rintro e w6 ⟨A1, n1, d1, O, vq2, T2, M2, rfl, slO, geO, mid⟩
                       have hz6 : w6.cell? ⟨db, 4, none⟩ = some (.int .i64 xm) := At.cell mid.deed 4
                       have hold := mid.old
                       have crt := (ref6_settle mid.ref mid.rel mid.good.km (by have := mid.len; omega) hc xm hxm).mono (fun e w2 hd => mid.settle (by omega) (Keep.refl _ _) hd)
                       replace crt := Lib.hid crt
                       clear mid)
                    | (go_at_call 13; refine crt.out.mono ?_; rintro e w7 ⟨A3, n3, d3, A2, d2, L2, rfl, slP, k7, st7⟩
                       have cs := ref_same w7 (slO.keep k7 (fun a ha e => by have := geO a ha; unfold one at e; omega)) slP
                       rw [panesB_self] at cs
                       replace cs := Lib.hid cs
                       have hz7 : w7.cell? ⟨db, 4, none⟩ = some (.int .i64 xm) := At.cell st7.deed 4)
                    | (go_at_call 11; refine cs.out.mono ?_; rintro e w8 ⟨rfl, k8⟩
                       have hz8 : w8.cell? ⟨db, 4, none⟩ = some (.int .i64 xm) := At.cell (st7.still k8).deed 4)
                    | fail))
                all_goals
                  go_wp2_with fail
                  go_meet
                  exact ⟨_, _, _, _, _, _, st7.still k8⟩
            case rest =>
              obtain ⟨vq2, T2, M2, A2, d2, L2, st⟩ := hcut
              have kWc := kW1.trans st.st.keep
              clear hst cA lA
              have ckg := Lib.hid (group_keys st.st.grp (by omega))
              have hld := st.deed.lt
              go_wp2_with fail
              refine ckg.out.mono ?_
              rintro e w9 ⟨v9, ks, rfl, row9, hK, k9⟩
              obtain ⟨A9, d9, rfl⟩ := own_form row9
              have st9 := st.still k9
              have ckr := ref6_keys st9.st.ref (by have := st9.st.len; omega)
              have hkl : ks.length ≤ 900 := by
                rw [← keys_same st9.st.rel st9.st.good.km hK]
                have h1 := keysS_len L2 []
                have h2 := st9.st.len
                simp only [List.length_nil] at h1
                omega
              rw [keys_same st9.st.rel st9.st.good.km hK] at ckr
              replace ckr := Lib.hid ckr
              have sl9 : Sl encS 1 w9 A9 ks.length d9 ks := Sl.of_own encS_len (by decide) row9
              clear ckg st row9
              go_wp2_with fail
              refine ckr.out.mono ?_
              rintro e we ⟨v10, rfl, row10, k10⟩
              obtain ⟨A10, d10, rfl⟩ := own_form row10
              have stc := st9.still k10
              have slk := sl9.keep k10 Off.none_
              have slo : Sl encS 1 we A10 ks.length d10 ks := Sl.of_own encS_len (by decide) row10
              have hlen := relL_len stc.st.rel stc.st.grp.inv stc.st.grp.tim.nodup
              have hkm := stc.st.good.km
              have hL := stc.st.len
              have r8 : we.cell? ⟨p, 8, none⟩ = some (.slice A2 L2.length d2) := At.cell stc.st.ref.at_ 8
              have d1c : we.cell? ⟨db, 1, none⟩ = some (.string xk) := At.cell stc.deed 1
              have lp := stc.st.ref.at_.lt
              have ldb := stc.deed.lt
              have c1 := fun W (kz : Keep none_ we W) => group_len (stc.st.grp.none kz) (by omega)
              have c2 := fun W (kz : Keep none_ we W) => group_due (stc.st.grp.none kz)
              have c3 := fun key hkey W (kz : Keep none_ we W) => group_panes (stc.st.grp.none kz).self rfl (stc.st.grp.none kz).map key hkey (by have := stc.st.grp.inv.len key; omega)
              have c4 := fun key W (kz : Keep none_ we W) => ref6_panes (stc.st.ref.none kz) stc.st.rel hkm (by omega) key
              rw [hlen] at c1 c2
              have hb1 : ((L2.length : Int) != (L2.length : Int)) = false := by simp
              have hb2 : ((ks.length : Int) != (ks.length : Int)) = false := by simp
              have kWc2 := kW1.trans stc.st.keep
              have hKs := Lib.hid hK.2.1
              have stcH := Lib.hid stc
              replace c1 := Lib.hid c1
              replace c2 := Lib.hid c2
              replace c3 := Lib.hid c3
              replace c4 := Lib.hid c4
              clear ckr st9 sl9 row10 stc hK k9 k10 hld
              go_wp2_with fail
              go_cut [164] from 128 to 164 (fun bv w' => bv = .bool false ∧ Keep none_ we w')
              case first =>
                go_region_held3 (fun w' => w'.cell? ⟨p, 8, none⟩ = some (.slice A2 L2.length d2) ∧ w'.cell? ⟨db, 1, none⟩ = some (.string xk) ∧ Keep none_ we w')
                  (first
                    | exact cells2_and lp ldb r8 d1c (Keep.refl _ _).drew
                    | (go_split_ands; exact cells2_and lp ldb r8 d1c kc15)
                    | (go_split_ands; exact cells2_and lp ldb r8 d1c kc14)
                    | (go_split_ands; exact cells2_and lp ldb r8 d1c kc13)
                    | (go_split_ands; exact cells2_and lp ldb r8 d1c kc11)
                    | fail)
                  ((first
                    | (go_at_call 18; refine (c1.out _ (show Keep none_ we _ from (by repeat' (first | assumption | with_reducible exact Keep.refl _ _ | with_reducible refine Keep.alloc ?_ _ | with_reducible refine Keep.drew ?_)))).mono ?_; rintro e w11 ⟨rfl, k11⟩
                       have kc11 : Keep none_ we w11 := Keep.trans (show Keep none_ we _ from (by repeat' (first | assumption | with_reducible exact Keep.refl _ _ | with_reducible refine Keep.alloc ?_ _ | with_reducible refine Keep.drew ?_))) k11
                       clear k11)
                    | (go_at_call 19; refine (c2.out _ kc11).mono ?_; rintro e w12 ⟨rfl, rfl⟩)
                    | (go_at_call 20; refine (c3.out xk hkey2 _ kc11).mono ?_; rintro e w13 ⟨v13, rfl, o13, k13⟩
                       obtain ⟨A13, d13, rfl⟩ := own_form o13
                       have kc13 : Keep none_ we w13 := kc11.trans k13
                       have sl13 : Sl Pane.cells 7 w13 A13 (M2 xk).length d13 (M2 xk) := Sl.of_own pane_len (by decide) o13
                       clear o13 k13)
                    | (go_at_call 21; refine (c4.out xk _ kc13).mono ?_; rintro e w14 ⟨v14, rfl, o14, k14⟩
                       obtain ⟨A14, d14, rfl⟩ := own_form o14
                       have kc14 : Keep none_ we w14 := kc13.trans k14
                       have cs14 := ref_same w14 (sl13.keep k14 Off.none_) (Sl.of_own pane_len (by decide) o14)
                       rw [panesB_self] at cs14
                       replace cs14 := Lib.hid cs14
                       clear o14 k14)
                    | (go_at_call 11; refine cs14.out.mono ?_; rintro e w15 ⟨rfl, k15⟩; have kc15 : Keep none_ we w15 := kc14.trans k15; clear k15)
                    | fail))
                all_goals
                  go_wp2_with fail
                  go_meet
                  exact ⟨rfl, kc15⟩
              case rest =>
                obtain ⟨rfl, kz⟩ := hcut
                clear r8 d1c c1 c2
                go_wp2_with fail
                go_loopw [18] (fun jv wq => ∃ j : Nat, jv = .int .i64 j ∧ j ≤ ks.length ∧ Keep none_ we wq) (fun jv _ => ks.length - (intOf jv).toNat)
                case atStart => exact ⟨0, rfl, Nat.zero_le _, kz⟩
                case round =>
                  clear kz
                  obtain ⟨j, rfl, hj, kq⟩ := hrel
                  have hj0 := Int.natCast_nonneg j
                  by_cases hjl : j < ks.length
                  · have hj1 : (j : Int) < (ks.length : Int) := by omega
                    obtain ⟨gb, go, rfl, hgb, -⟩ := slk.at_ (by omega)
                    obtain ⟨gb2, go2, rfl, hgb2, -⟩ := slo.at_ (by omega)
                    have e1 : we.cell? ⟨gb, go + j, none⟩ = some (.string ks[j]) := slk.cell1 hjl
                    have e2 : we.cell? ⟨gb2, go2 + j, none⟩ = some (.string ks[j]) := slo.cell1 hjl
                    have hyk : ks[j].size ≤ maxLen := hKs.out _ (List.getElem_mem hjl)
                    generalize ks[j] = y at *
                    have hye : (y.toList != y.toList) = false := by simp
                    go_wp2_with fail
                    go_cut [195] from 171 to 195 (fun bv w' => bv = .bool false ∧ Keep none_ we w')
                    case first =>
                      go_region_held3 (fun w' => w'.cell? ⟨gb, go + j, none⟩ = some (.string y) ∧ w'.cell? ⟨gb2, go2 + j, none⟩ = some (.string y) ∧ Keep none_ we w')
                        (first
                          | exact cells2_and hgb hgb2 e1 e2 kq.drew
                          | (go_split_ands; exact cells2_and hgb hgb2 e1 e2 kc15)
                          | (go_split_ands; exact cells2_and hgb hgb2 e1 e2 kc14)
                          | (go_split_ands; exact cells2_and hgb hgb2 e1 e2 kc13)
                          | fail)
                        ((first
                          | (go_at_call 20; refine (c3.out y hyk _ (show Keep none_ we _ from (by repeat' (first | assumption | with_reducible exact Keep.refl _ _ | with_reducible refine Keep.alloc ?_ _ | with_reducible refine Keep.drew ?_)))).mono ?_; rintro e w13 ⟨v13, rfl, o13, k13⟩
                             obtain ⟨A13, d13, rfl⟩ := own_form o13
                             have kc13 : Keep none_ we w13 := Keep.trans (show Keep none_ we _ from (by repeat' (first | assumption | with_reducible exact Keep.refl _ _ | with_reducible refine Keep.alloc ?_ _ | with_reducible refine Keep.drew ?_))) k13
                             have sl13 : Sl Pane.cells 7 w13 A13 (M2 y).length d13 (M2 y) := Sl.of_own pane_len (by decide) o13
                             clear o13 k13)
                          | (go_at_call 21; refine (c4.out y _ kc13).mono ?_; rintro e w14 ⟨v14, rfl, o14, k14⟩
                             obtain ⟨A14, d14, rfl⟩ := own_form o14
                             have kc14 : Keep none_ we w14 := kc13.trans k14
                             have cs14 := ref_same w14 (sl13.keep k14 Off.none_) (Sl.of_own pane_len (by decide) o14)
                             rw [panesB_self] at cs14
                             replace cs14 := Lib.hid cs14
                             clear o14 k14)
                          | (go_at_call 11; refine cs14.out.mono ?_; rintro e w15 ⟨rfl, k15⟩; have kc15 : Keep none_ we w15 := kc14.trans k15; clear k15)
                          | fail))
                      all_goals
                        go_wp2_with fail
                        go_meet
                        exact ⟨rfl, kc15⟩
                    case rest =>
                      obtain ⟨rfl, kz⟩ := hcut
                      go_wp2_with fail
                      go_roundw
                      case rel => exact ⟨j + 1, by go_num, by omega, kz⟩
                      case measure => simp [intOf]; omega
                  · have hj1 : ¬ ((j : Int) < (ks.length : Int)) := by omega
                    have stq := stcH.out.st.still kq
                    clear stcH slk slo c3 c4
                    go_wp2_with fail
                    go_roundw
                    case rel => exact ⟨k + 1, _, _, _, _, _, _, by go_num, by omega, stq⟩
                    case measure => simp [intOf]; omega
        · have kf := kW1.trans st.keep
          have hn1 : ¬ ((k : Int) < (l.length : Int)) := by omega
          clear st
          go_wp2_with fail
          go_ret
          exact ⟨rfl, kf.below (Nat.le_refl _) not_none⟩
end Go.Proofs.YtmioichjhiengaaGreat
