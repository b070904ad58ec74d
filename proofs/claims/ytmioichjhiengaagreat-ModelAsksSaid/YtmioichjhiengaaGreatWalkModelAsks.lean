/-
  For every config, calls, call and mark easellaw13.ModelAsks yields true.
-/
import Derived.Test.YtmioichjhiengaaGreatBaseAsk
import Derived.Test.YtmioichjhiengaaGreatModelUp
import Derived.Test.YtmioichjhiengaaGreatFew
import Derived.Test.YtmioichjhiengaaGreatBaseTwelve
import Derived.Deep.CutRange
namespace Go.Proofs.YtmioichjhiengaaGreat
open Go.RowKit

set_option maxHeartbeats 40000000 in
set_option maxRecDepth 100000 in
theorem law_ModelAsks (c : Config) (l : List Call) (v : Value) (x : Call) (mark : Int) (W : World) (hc : c.ok) (hv : rSlice 7 rCall W l [v]) (hx : x.ok) (hmk : I64 mark) :
    Calls Tryz.prog 5 #[.agg c.cells.toArray, v, .agg x.cells.toArray, .int .i64 mark] W fun e W' => e = .returned (.bool true) ∧ Below W.heap.size W W' := by
  obtain ⟨A, n, cc, rfl, hsl, hok⟩ := sl_of encCall Call.ok call_of hv
  clear hv
  obtain rfl := hsl.len
  have hnc := hsl.2.2.1
  have hlc := hsl.2.1
  unfold maxLen at hnc
  have k0 : Keep none_ W ((W.alloc (.cells c.cells.toArray 23)).alloc (.cells x.cells.toArray 60)) := (by repeat' (first | assumption | with_reducible exact Keep.refl _ _ | with_reducible refine Keep.alloc ?_ _ | with_reducible refine Keep.drew ?_))
  have hcb := At.alloc (At.new W c.cells.toArray 23) (.cells x.cells.toArray 60)
  have hxb : At ((W.alloc (.cells c.cells.toArray 23)).alloc (.cells x.cells.toArray 60)) (W.heap.size + 1) x.cells.toArray 60 := At.newAt (by simp) _ _
  simp only [Config.cells, Call.cells] at k0 hcb hxb ⊢
  cases hm : c.mayB
  · have cno := fun W => group_new_no W c hc hm
    simp only [Config.cells] at cno
    replace cno := Lib.hid cno
    clear hm
    go_enter Tryz.func5, Tryz.ntmps5
    go_wp2_with fail
    generalize (W.alloc _).alloc _ = w0 at *
    refine (model_up _).mono ?_
    rintro e w1 ⟨rfl, k1⟩
    have hc1 := Keep.at k1 hcb (fun e => e)
    have cx := At.cell hc1
    have lc1 := hc1.lt
    clear hcb hxb
    go_wp2_with fail
    refine (cno.out _).mono ?_
    rintro e w2 ⟨rfl, k2⟩
    clear cx hc1
    go_wp2_with fail
    go_ret
    exact ⟨rfl, ((k0.trans k1).trans k2).below (Nat.le_refl _) not_none⟩
  · have cyes := fun W => group_born W c hc hm
    simp only [Config.cells] at cyes
    replace cyes := Lib.hid cyes
    go_enter Tryz.func5, Tryz.ntmps5
    go_wp2_with fail
    generalize (W.alloc _).alloc _ = w0 at *
    generalize hxbe : W.heap.size + 1 = xb at *
    generalize hcbe : W.heap.size = cb at *
    refine (model_up _).mono ?_
    rintro e w1 ⟨rfl, k1⟩
    have hc1 := Keep.at k1 hcb (fun e => e)
    have hx1 := Keep.at k1 hxb (fun e => e)
    have cx := At.cell hc1
    have lc1 := hc1.lt
    clear hcb hxb
    replace hx1 := Lib.hid hx1
    go_wp2_with fail
    refine (cyes.out _).mono ?_
    rintro e w2 ⟨gp, mp, tp, rfl, hg, k2, lg, lm, lt⟩
    have hc2 := Keep.at k2 hc1 (fun e => e)
    have hx2 := Keep.at k2 hx1.out (fun e => e)
    have kW1 := k0.trans k1
    have kW2 := kW1.trans k2
    have cfew := Lib.hid (law_few (hsl.keep kW2 Off.none_) 40 (by omega))
    have cxx := At.cell hx2
    have xk : w2.cell? ⟨xb, 1, none⟩ = some (.string x.key) := cxx 1
    have lx2 := hx2.lt
    have lc2 := hc2.lt
    have ccc := At.cell hc2
    have q0 : w2.cell? ⟨cb, 0, none⟩ = some (.int .i64 c.kind) := ccc 0
    have q1 : w2.cell? ⟨cb, 1, none⟩ = some (.int .i64 c.size) := ccc 1
    have q2 : w2.cell? ⟨cb, 2, none⟩ = some (.int .i64 c.slide) := ccc 2
    have q3 : w2.cell? ⟨cb, 3, none⟩ = some (.int .i64 c.gap) := ccc 3
    have q4 : w2.cell? ⟨cb, 4, none⟩ = some (.int .i64 c.late) := ccc 4
    have q5 : w2.cell? ⟨cb, 5, none⟩ = some (.int .i64 c.shards) := ccc 5
    have q6 : w2.cell? ⟨cb, 6, none⟩ = some (.int .i64 c.groups) := ccc 6
    have q7 : w2.cell? ⟨cb, 7, none⟩ = some (.int .i64 c.cap) := ccc 7
    replace hc1 := Lib.hid hc1
    clear cx cyes cxx ccc
    replace hc2 := Lib.hid hc2
    replace hx2 := Lib.hid hx2
    replace hxbe := Lib.hid hxbe
    replace hcbe := Lib.hid hcbe
    go_wp2_with fail
    refine cfew.out.mono ?_
    rintro e w3 ⟨he, rfl⟩
    rcases he with rfl | ⟨rfl, hn40, hshort⟩
    · clear hg
      go_wp2_with fail
      go_ret
      exact ⟨rfl, kW2.below (Nat.le_refl _) not_none⟩
    · by_cases hk100 : 100 < x.key.size
      · have hkb : decide ((100 : Int) < (x.key.size : Int)) = true := by simp; omega
        have hki : (100 : Int) < (x.key.size : Int) := by omega
        clear hg
        go_wp2_with fail
        go_ret
        exact ⟨rfl, kW2.below (Nat.le_refl _) not_none⟩
      · have hkb : decide ((100 : Int) < (x.key.size : Int)) = false := by simp; omega
        have hki : ¬ ((100 : Int) < (x.key.size : Int)) := by omega
        have hl40 : l.length ≤ 40 := by omega
        have st0 : AskSt w1 (w2.alloc (.cells #[.int .i64 c.kind, .int .i64 c.size, .int .i64 c.slide, .int .i64 c.gap, .int .i64 c.late, .int .i64 c.shards, .int .i64 c.groups, .int .i64 c.cap, .slice none 0 0] 36)) gp mp tp w2.heap.size 0 c (.slice none 0 0) [] (fun _ => []) none 0 [] :=
          AskSt.born (wd := w2) hg (Keep.refl _ _) k2 (Keep.alloc (Keep.refl _ _) _) (Nat.le_refl _) ⟨lg, lm, lt⟩ (At.new _ _ _)
        clear hg k1 k0 hshort hkb cfew hn40 hc2 hx2 hk100 lg lm lt
        replace st0 := Lib.hid st0
        replace hm := Lib.hid hm
        go_wp2_with fail
        generalize hpe : w2.heap.size = p at *
        generalize w2.alloc _ = w3 at *
        clear q0 q1 q2 q3 q4 q5 q6 q7 xk lx2 lc2
        replace hpe := Lib.hid hpe
        have stA := st0.out
        clear st0
        go_loopw [13] (fun iv wr => ∃ (k : Nat) (vq : Value) (T : List Timer) (M : KM) (A' : Option Addr) (d' : Nat) (L' : List Pane), iv = .int .i64 k ∧ k ≤ l.length ∧ AskSt w1 wr gp mp tp p k c vq T M A' d' L')
          (fun iv _ => l.length - (intOf iv).toNat)
        case atStart => exact ⟨0, _, [], _, none, 0, [], rfl, Nat.zero_le _, stA⟩
        case round =>
          clear stA
          obtain ⟨k, vq, T, M, A', d', L', rfl, hk, st⟩ := hrel
          have hk0 := Int.natCast_nonneg k
          by_cases hlt : k < l.length
          · have hlt1 : (k : Int) < (l.length : Int) := by omega
            obtain ⟨ba, off, rfl, hbl, -⟩ := hsl.at_ (by omega)
            have ck := fun w' (kz : Keep none_ W w') => (hsl.keep kz Off.none_).cellk hlt
            have hxk := hok l[k] (List.getElem_mem _)
            generalize l[k] = y at *
            obtain ⟨-, hyk, hyt, hyv, -⟩ := hxk
            have i1 := fun w' (kz : Keep none_ W w') => ck w' kz 1 (by omega)
            have i2 := fun w' (kz : Keep none_ W w') => ck w' kz 2 (by omega)
            have i3 := fun w' (kz : Keep none_ W w') => ck w' kz 3 (by omega)
            simp only [encCall, Call.cells, Nat.add_zero, List.getElem?_cons_zero, List.getElem?_cons_succ] at i1 i2 i3
            have kWr := kW1.trans st.keep
            have t1 := i1 wr kWr
            have t2 := i2 wr kWr
            have t3 := i3 wr kWr
            have hbw : ba < wr.heap.size := Nat.lt_of_lt_of_le hbl kWr.size
            have ctk : ∀ W', Keep none_ wr W' → Calls Tryz.prog 14 #[.pointer (some ⟨gp, 0, none⟩), .string y.key, .int .i64 y.time, .int .i64 y.value, .int .i64 mark] W' (fun e w' => ∃ vq2 T2 M2 a1 v1, e = .returned (.tuple #[a1, v1]) ∧ AskMid w1 w' gp mp tp p k c mark y.key y.time y.value vq2 T2 M M2 A' d' L') :=
              fun W' kz => (group_take (st.grp.none kz) (by omega) (by omega) hc hm.out y.key hyk y.time y.value mark hyt hyv hmk).mono (fun e w' hd => st.mid kz hd)
            replace i1 := Lib.hid i1
            replace i2 := Lib.hid i2
            replace i3 := Lib.hid i3
            replace ctk := Lib.hid ctk
            clear ck st
            go_wp2_with fail
            go_cut [] from 60 to 77 (fun w' => ∃ vq2 T2 M2, AskMid w1 w' gp mp tp p k c mark y.key y.time y.value vq2 T2 M M2 A' d' L')
            case first =>
              go_region_law (first
                | (go_simp; go_at_call 14; refine (ctk.out _ (show Keep none_ wr _ from (by repeat' (first | assumption | with_reducible exact Keep.refl _ _ | with_reducible refine Keep.alloc ?_ _ | with_reducible refine Keep.drew ?_)))).mono ?_; rintro e w6 ⟨vq2, T2, M2, a1, v1, rfl, hmid⟩)
                | fail)
              all_goals
                go_wp2_with fail
                go_meet
                exact ⟨vq2, T2, M2, hmid⟩
            case rest =>
              obtain ⟨vq2, T2, M2, mid⟩ := hcut
              have kWc := kW1.trans mid.keep
              have t1 := i1.out wc kWc
              have t2 := i2.out wc kWc
              have t3 := i3.out wc kWc
              have hbw : ba < wc.heap.size := Nat.lt_of_lt_of_le hbl kWc.size
              have crt : ∀ W', Keep none_ wc W' → Calls Tryz.prog 15 #[.pointer (some ⟨p, 0, none⟩), .string y.key, .int .i64 y.time, .int .i64 y.value, .int .i64 mark] W' (fun e w' => ∃ A2 d2 L2 a1 v1, e = .returned (.tuple #[a1, v1]) ∧ AskSt w1 w' gp mp tp p (k + 1) c vq2 T2 M2 A2 d2 L2) :=
                fun W' kz => (ref6_take (mid.ref.none kz) mid.rel mid.good (by omega) (by have := mid.len; omega) hc hm.out y.key hyk y.time y.value mark hyt hyv hmk).mono (fun e w' hd => mid.next (by omega) kz hd)
              replace crt := Lib.hid crt
              clear ctk mid
              go_wp2_with fail
              go_region_law (first
                | (go_simp; go_at_call 15; refine (crt.out _ (show Keep none_ wc _ from (by repeat' (first | assumption | with_reducible exact Keep.refl _ _ | with_reducible refine Keep.alloc ?_ _ | with_reducible refine Keep.drew ?_)))).mono ?_; rintro e w6 ⟨A2, d2, L2, a1, v1, rfl, hnext⟩)
                | fail)
              all_goals
                clear crt t1 t2 t3
                go_wp2_with fail
                go_roundw
                case rel => exact ⟨k + 1, vq2, T2, M2, A2, d2, L2, by go_num, by omega, hnext⟩
                case measure => simp [intOf]; omega
          · have hin : ¬ ((k : Int) < (l.length : Int)) := by omega
            have kWr := kW1.trans st.keep
            have hcr := Keep.at st.keep hc1.out (fun e => e)
            have hxr := Keep.at st.keep hx1.out (fun e => e)
            have hWp : W.heap.size ≤ p := Nat.le_trans kW1.size st.lowp
            have cmy := fun W => ref12_may W c x hc hx
            have cky := fun W => ref12_keyed W x
            simp only [Config.cells, Call.cells] at cmy cky
            replace cmy := Lib.hid cmy
            replace cky := Lib.hid cky
            have cc := At.cell hcr
            have c0 : wr.cell? ⟨cb, 0, none⟩ = some (.int .i64 c.kind) := cc 0
            have c1 : wr.cell? ⟨cb, 1, none⟩ = some (.int .i64 c.size) := cc 1
            have c2 : wr.cell? ⟨cb, 2, none⟩ = some (.int .i64 c.slide) := cc 2
            have c3 : wr.cell? ⟨cb, 3, none⟩ = some (.int .i64 c.gap) := cc 3
            have c4 : wr.cell? ⟨cb, 4, none⟩ = some (.int .i64 c.late) := cc 4
            have c5 : wr.cell? ⟨cb, 5, none⟩ = some (.int .i64 c.shards) := cc 5
            have c6 : wr.cell? ⟨cb, 6, none⟩ = some (.int .i64 c.groups) := cc 6
            have c7 : wr.cell? ⟨cb, 7, none⟩ = some (.int .i64 c.cap) := cc 7
            have cx := At.cell hxr
            have lcr := hcr.lt
            have lxr := hxr.lt
            replace st := Lib.hid st
            clear cc
            go_wp2_with fail
            refine (cmy.out _).mono ?_
            rintro e w4 ⟨rfl, k4⟩
            have hx4 := Keep.at k4 hxr (fun e => e)
            have cx4 := At.cell hx4
            have lx4 := hx4.lt
            clear c0 c1 c2 c3 c4 c5 c6 c7 cx lcr lxr hcr hxr cmy
            cases hmb : x.mayB c
            · go_wp2_with fail
              go_ret
              exact ⟨rfl, (kWr.trans k4).below (Nat.le_refl _) not_none⟩
            · go_wp2_with fail
              refine (cky.out _).mono ?_
              rintro e w5 ⟨rfl, k5⟩
              have hx5 := Keep.at k5 hx4 (fun e => e)
              have cx5 := At.cell hx5
              have lx5 := hx5.lt
              have st5 := Lib.hid ((st.out.still k4).still k5)
              clear cx4 lx4 hx4 cky
              cases hkx9 : x.keyedB
              · go_wp2_with fail
                go_ret
                exact ⟨rfl, ((kWr.trans k4).trans k5).below (Nat.le_refl _) not_none⟩
              · have hkx := Lib.hid hkx9
                clear hkx9 hmb st
                by_cases hlm : mark < 1000000
                · have hLT : I64 (mark + 7) := by unfold I64 at hmk ⊢; omega
                  have hw7 : IntKind.i64.wrap (mark + 7) = mark + 7 := by rw [IntKind.wrap_i64]; unfold I64 at hmk; omega
                  have ckd : Calls Tryz.prog 34 #[.pointer (some ⟨gp, 0, none⟩), .agg x.cells.toArray, .int .i64 (mark + 7)] w5 (KeyedDone w5 gp mp tp (16 * k) (1000 * k) c vq (fun q => q = p) (mark + 7) x M) := by
                    by_cases ho : x.op = 1 ∨ x.op = 2
                    · exact keyed_take st5.out.grp (by omega) (by omega) hc hm.out x hx (mark + 7) hLT ho
                    · exact keyed_ask st5.out.grp (by omega) (by omega) hc x hx (mark + 7) hLT ho
                  simp only [Call.cells] at ckd
                  replace ckd := Lib.hid ckd
                  go_wp2_with fail
                  refine ckd.out.mono ?_
                  rintro e w6 ⟨code, pv, vo, O, M1, M2, R, rfl, hst, hcalm, hM, ⟨vq2, T2, hg2, k6, so⟩, own, rep⟩
                  have hask1 := Lib.hid (show AskRel c x (mark + 7) M code R O M1 M2 from ⟨hst, hcalm, hM⟩)
                  obtain ⟨pA, pn, pd, rfl, slR, geR⟩ := rep
                  obtain ⟨Ao, co, rfl⟩ := own_form own
                  obtain ⟨ref6, -, keep6, -⟩ := st5.out.changed (Keep.refl _ _) hg2 k6 so
                  have slO : Sl Pane.cells 7 w6 Ao O.length co O := Sl.of_own pane_len (by decide) own
                  have geO := own_block_ge own
                  have hp5 := st5.out.ref.at_.lt
                  have ka : Keep none_ w6 (w6.alloc (.cells #[.int .i64 code, .slice pA pn pd] 57)) := Keep.alloc (Keep.refl _ _) _
                  have hrA := At.new w6 #[.int .i64 code, .slice pA pn pd] 57
                  have refa := ref6.none ka
                  have keepa := keep6.trans ka
                  have hxa := Keep.at keepa hx1.out (fun e => e)
                  have lxa := hxa.lt
                  have cxa := At.cell hxa
                  have slRa := slR.keep ka Off.none_
                  have slOa := slO.keep ka Off.none_
                  have hlL := st5.out.len
                  have hgd := st5.out.good
                  have hrl := st5.out.rel
                  have hs56 := k6.size
                  have cak := ref12_ask refa hrl hgd (by omega) (by omega) hc hm.out x hx hkx.out (mark + 7) hLT
                  simp only [Call.cells] at cak
                  replace cak := Lib.hid cak
                  clear hst hcalm hM hg2 k6 so own slR slO ref6 keep6 ka ckd st5
                  replace refa := trivial
                  go_wp2_with fail
                  refine cak.out.mono ?_
                  have hr6 : w5.heap.size ≤ w6.heap.size := hs56
                  have hra0 : p ≠ w6.heap.size := by omega
                  generalize w6.heap.size = ra at *
                  generalize w6.alloc _ = w7 at *
                  rintro e w8 ⟨code', pA', pn', pd', vo', O', A2', d2', L2', N1, N2, R', rfl, row', hask2, slR', -, -, -, -, k8, -, -⟩
                  obtain ⟨rfl, rfl, rfl, -⟩ := AskRel.uniq hgd.km hask1.out hask2
                  obtain ⟨Ao', co', rfl⟩ := own_form row'
                  have slO' : Sl Pane.cells 7 w8 Ao' O.length co' O := Sl.of_own pane_len (by decide) row'
                  have slR8 := slRa.keep k8 (fun a ha e => by have := geR a ha; unfold one at e; omega)
                  have slO8 := slOa.keep k8 (fun a ha e => by have := geO a ha; unfold one at e; omega)
                  have hrA8 := Keep.at k8 hrA (fun e => hra0 e.symm)
                  have kb : Keep none_ w8 (w8.alloc (.cells #[.int .i64 code, .slice pA' pn' pd'] 57)) := Keep.alloc (Keep.refl _ _) _
                  have hrA9 := Keep.at kb hrA8 (fun e => e)
                  have cA9 := At.cell hrA9
                  have lA9 := hrA9.lt
                  have cs := call_same (w8.alloc (.cells #[.int .i64 code, .slice pA' pn' pd'] 57)) code code (slR8.keep kb Off.none_) (slR'.keep kb Off.none_)
                  have hse : (code == code && panesB R R) = true := by simp [panesB_self]
                  rw [hse] at cs
                  replace cs := Lib.hid cs
                  have cr := fun W (kz : Keep none_ (w8.alloc (.cells #[.int .i64 code, .slice pA' pn' pd'] 57)) W) => ref_same W ((slO8.keep kb Off.none_).keep kz Off.none_) ((slO'.keep kb Off.none_).keep kz Off.none_)
                  rw [panesB_self] at cr
                  replace cr := Lib.hid cr
                  have kfin := (kW1.trans keepa)
                  have k8b : Keep none_ W (w8.alloc (.cells #[.int .i64 code, .slice pA' pn' pd'] 57)) := (Keep.fresh kfin k8 (fun q hq e => by have := hWp; unfold one at e; omega)).trans kb
                  clear slR' slO' slR8 slO8 hrA8 hrA9 kb k8 slRa slOa hask1 hask2 row' hse cak cxa hxa kfin keepa hrA geR geO
                  go_wp2_with fail
                  refine cs.out.mono ?_
                  rintro e w9 ⟨rfl, k9⟩
                  have cr9 := Lib.hid (cr.out _ k9)
                  clear cr cs
                  go_wp2_with fail
                  refine cr9.out.mono ?_
                  rintro e w10 ⟨rfl, k10⟩
                  go_wp2_with fail
                  go_ret
                  exact ⟨rfl, ((k8b.trans k9).trans k10).below (Nat.le_refl _) not_none⟩
                · have hLT : I64 mark := hmk
                  have ckd : Calls Tryz.prog 34 #[.pointer (some ⟨gp, 0, none⟩), .agg x.cells.toArray, .int .i64 (mark)] w5 (KeyedDone w5 gp mp tp (16 * k) (1000 * k) c vq (fun q => q = p) (mark) x M) := by
                    by_cases ho : x.op = 1 ∨ x.op = 2
                    · exact keyed_take st5.out.grp (by omega) (by omega) hc hm.out x hx (mark) hLT ho
                    · exact keyed_ask st5.out.grp (by omega) (by omega) hc x hx (mark) hLT ho
                  simp only [Call.cells] at ckd
                  replace ckd := Lib.hid ckd
                  go_wp2_with fail
                  refine ckd.out.mono ?_
                  rintro e w6 ⟨code, pv, vo, O, M1, M2, R, rfl, hst, hcalm, hM, ⟨vq2, T2, hg2, k6, so⟩, own, rep⟩
                  have hask1 := Lib.hid (show AskRel c x (mark) M code R O M1 M2 from ⟨hst, hcalm, hM⟩)
                  obtain ⟨pA, pn, pd, rfl, slR, geR⟩ := rep
                  obtain ⟨Ao, co, rfl⟩ := own_form own
                  obtain ⟨ref6, -, keep6, -⟩ := st5.out.changed (Keep.refl _ _) hg2 k6 so
                  have slO : Sl Pane.cells 7 w6 Ao O.length co O := Sl.of_own pane_len (by decide) own
                  have geO := own_block_ge own
                  have hp5 := st5.out.ref.at_.lt
                  have ka : Keep none_ w6 (w6.alloc (.cells #[.int .i64 code, .slice pA pn pd] 57)) := Keep.alloc (Keep.refl _ _) _
                  have hrA := At.new w6 #[.int .i64 code, .slice pA pn pd] 57
                  have refa := ref6.none ka
                  have keepa := keep6.trans ka
                  have hxa := Keep.at keepa hx1.out (fun e => e)
                  have lxa := hxa.lt
                  have cxa := At.cell hxa
                  have slRa := slR.keep ka Off.none_
                  have slOa := slO.keep ka Off.none_
                  have hlL := st5.out.len
                  have hgd := st5.out.good
                  have hrl := st5.out.rel
                  have hs56 := k6.size
                  have cak := ref12_ask refa hrl hgd (by omega) (by omega) hc hm.out x hx hkx.out (mark) hLT
                  simp only [Call.cells] at cak
                  replace cak := Lib.hid cak
                  clear hst hcalm hM hg2 k6 so own slR slO ref6 keep6 ka ckd st5
                  replace refa := trivial
                  go_wp2_with fail
                  refine cak.out.mono ?_
                  have hr6 : w5.heap.size ≤ w6.heap.size := hs56
                  have hra0 : p ≠ w6.heap.size := by omega
                  generalize w6.heap.size = ra at *
                  generalize w6.alloc _ = w7 at *
                  rintro e w8 ⟨code', pA', pn', pd', vo', O', A2', d2', L2', N1, N2, R', rfl, row', hask2, slR', -, -, -, -, k8, -, -⟩
                  obtain ⟨rfl, rfl, rfl, -⟩ := AskRel.uniq hgd.km hask1.out hask2
                  obtain ⟨Ao', co', rfl⟩ := own_form row'
                  have slO' : Sl Pane.cells 7 w8 Ao' O.length co' O := Sl.of_own pane_len (by decide) row'
                  have slR8 := slRa.keep k8 (fun a ha e => by have := geR a ha; unfold one at e; omega)
                  have slO8 := slOa.keep k8 (fun a ha e => by have := geO a ha; unfold one at e; omega)
                  have hrA8 := Keep.at k8 hrA (fun e => hra0 e.symm)
                  have kb : Keep none_ w8 (w8.alloc (.cells #[.int .i64 code, .slice pA' pn' pd'] 57)) := Keep.alloc (Keep.refl _ _) _
                  have hrA9 := Keep.at kb hrA8 (fun e => e)
                  have cA9 := At.cell hrA9
                  have lA9 := hrA9.lt
                  have cs := call_same (w8.alloc (.cells #[.int .i64 code, .slice pA' pn' pd'] 57)) code code (slR8.keep kb Off.none_) (slR'.keep kb Off.none_)
                  have hse : (code == code && panesB R R) = true := by simp [panesB_self]
                  rw [hse] at cs
                  replace cs := Lib.hid cs
                  have cr := fun W (kz : Keep none_ (w8.alloc (.cells #[.int .i64 code, .slice pA' pn' pd'] 57)) W) => ref_same W ((slO8.keep kb Off.none_).keep kz Off.none_) ((slO'.keep kb Off.none_).keep kz Off.none_)
                  rw [panesB_self] at cr
                  replace cr := Lib.hid cr
                  have kfin := (kW1.trans keepa)
                  have k8b : Keep none_ W (w8.alloc (.cells #[.int .i64 code, .slice pA' pn' pd'] 57)) := (Keep.fresh kfin k8 (fun q hq e => by have := hWp; unfold one at e; omega)).trans kb
                  clear slR' slO' slR8 slO8 hrA8 hrA9 kb k8 slRa slOa hask1 hask2 row' hse cak cxa hxa kfin keepa hrA geR geO
                  go_wp2_with fail
                  refine cs.out.mono ?_
                  rintro e w9 ⟨rfl, k9⟩
                  have cr9 := Lib.hid (cr.out _ k9)
                  clear cr cs
                  go_wp2_with fail
                  refine cr9.out.mono ?_
                  rintro e w10 ⟨rfl, k10⟩
                  go_wp2_with fail
                  go_ret
                  exact ⟨rfl, ((k8b.trans k9).trans k10).below (Nat.le_refl _) not_none⟩
end Go.Proofs.YtmioichjhiengaaGreat
