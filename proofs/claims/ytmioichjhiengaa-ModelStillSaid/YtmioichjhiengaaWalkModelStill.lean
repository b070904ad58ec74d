/-
  For every config, calls and key easellaw13.ModelStill yields true.
-/
import Derived.Test.YtmioichjhiengaaModelUp
import Derived.Test.YtmioichjhiengaaBaseOnce
import Derived.Test.YtmioichjhiengaaFew
import Derived.Deep.CutRange
namespace Go.Proofs.Ytmioichjhiengaa
open Go.RowKit

/-- What stands at the head of each round. -/
structure StillW (W wr : World) (b mb gp mp tp lp k : Nat) (c : Config) (mark : Int) (closed : Bool) (O : List Pane) (M : KM) (vq lv : Value) (T : List Timer) : Prop where
  mdl : MdlAt wr b mb gp mp tp lp (16 * k) (1000 * k) c vq lv M T O mark closed
  st : StillSt c.late mark O M
  len : O.length ≤ 1000 * k
  keep : Keep none_ W wr
  bl : W.heap.size ≤ b ∧ b ≤ wr.heap.size
theorem StillW.none {W wr w' : World} {b mb gp mp tp lp k : Nat} {c : Config} {mark : Int} {closed : Bool} {O : List Pane} {M : KM} {vq lv : Value} {T : List Timer} (h : StillW W wr b mb gp mp tp lp k c mark closed O M vq lv T) (kz : Keep none_ wr w') : StillW W w' b mb gp mp tp lp k c mark closed O M vq lv T :=
  ⟨h.mdl.none kz, h.st, h.len, h.keep.trans kz, h.bl.1, Nat.le_trans h.bl.2 kz.size⟩
theorem StillW.next {W wr w2 : World} {b mb gp mp tp lp k : Nat} {c : Config} {mark mark2 code : Int} {closed closed2 : Bool} {O O1 R : List Pane} {M M2 : KM} {vq lv vq2 lv2 : Value} {T T2 : List Timer} {x : Call} (h : StillW W wr b mb gp mp tp lp k c mark closed O M vq lv T) (hk : k < 60) (hx : x.key.size ≤ maxLen)
    (hd : DoRel c x M mark closed code R O1 M2 mark2 closed2) (hm : MdlAt w2 b mb gp mp tp lp (16 * k + 16) (1000 * k + 16 * k + 16) c vq2 lv2 M2 T2 (O ++ O1) mark2 closed2) (kk : Keep (mdlF mb mp tp lp vq lv) wr w2) :
    StillW W w2 b mb gp mp tp lp (k + 1) c mark2 closed2 (O ++ O1) M2 vq2 lv2 T2 := by
  have hkm := h.mdl.grp.inv.km
  have h1 := hd.len h.mdl.grp.inv h.mdl.grp.tim.nodup
  have h2 := h.len
  have hlt := h.mdl.lt
  have hbl := h.bl
  refine ⟨hm.up (by omega) (by omega), (h.st.do hkm hx hd).1, ?_, Keep.fresh h.keep kk (fun q hq e => by have := (hlt q e).1; omega), hbl.1, Nat.le_trans hbl.2 kk.size⟩
  rw [List.length_append]
  omega
set_option maxHeartbeats 40000000 in
set_option maxRecDepth 100000 in
theorem law_ModelStill (c : Config) (l : List Call) (v : Value) (key : ByteArray) (W : World) (hc : c.ok) (hv : rSlice 7 rCall W l [v]) (hkey : key.size ≤ maxLen) :
    Calls Try.prog 8 #[.agg c.cells.toArray, v, .string key] W fun e W' => e = .returned (.bool true) ∧ Below W.heap.size W W' := by
  obtain ⟨A, n, cc, rfl, hsl, hok⟩ := sl_of encCall Call.ok call_of hv
  clear hv
  obtain rfl := hsl.len
  have hnc := hsl.2.2.1
  have hlc := hsl.2.1
  unfold maxLen at hnc
  have hx := At.new W c.cells.toArray 64
  have k0 : Keep none_ W (W.alloc (.cells c.cells.toArray 64)) := (by repeat' (first | assumption | with_reducible exact Keep.refl _ _ | with_reducible refine Keep.alloc ?_ _ | with_reducible refine Keep.drew ?_))
  have hb0 : ∀ w', Keep none_ W w' → Below W.heap.size W w' := fun w' k => k.below (Nat.le_refl _) not_none
  simp only [Config.cells] at hx k0 ⊢
  cases hm : c.mayB
  · have cno := fun W => model_new_no W c hc hm
    simp only [Config.cells] at cno
    replace cno := Lib.hid cno
    clear hm
    go_enter Try.func8, Try.ntmps8
    go_wp2_with fail
    refine (model_up _).mono ?_
    rintro e w1 ⟨rfl, k1⟩
    have hx1 := Keep.at k1 hx (fun e => e)
    have cx := At.cell hx1
    replace hx := Lib.hid hx
    go_wp2_with fail
    refine (cno.out _).mono ?_
    rintro e w2 ⟨rfl, k2⟩
    clear cx hx1 hx
    go_wp2_with fail
    go_ret
    exact ⟨rfl, hb0 _ ((k0.trans k1).trans k2)⟩
  · have cyes := fun W => model_new W c hc hm
    simp only [Config.cells] at cyes
    replace cyes := Lib.hid cyes
    go_enter Try.func8, Try.ntmps8
    go_wp2_with fail
    refine (model_up _).mono ?_
    rintro e w1 ⟨rfl, k1⟩
    have hx1 := Keep.at k1 hx (fun e => e)
    have cx := At.cell hx1
    replace hx := Lib.hid hx
    go_wp2_with fail
    refine (cyes.out _).mono ?_
    rintro e w2 ⟨mb, gp, mp, tp, lp, rfl, hmd, k2⟩
    have kW2 := (k0.trans k1).trans k2
    have hbw : W.heap.size ≤ w1.heap.size ∧ w1.heap.size ≤ w2.heap.size := ⟨(k0.trans k1).size, k2.size⟩
    have cfew := Lib.hid (law_few (hsl.keep kW2 Off.none_) 60 (by omega))
    clear cx hx hx1 cyes
    go_wp2_with fail
    refine cfew.out.mono ?_
    rintro e w3 ⟨he, rfl⟩
    rcases he with rfl | ⟨rfl, hn60, hshort⟩
    · clear hmd
      go_wp2_with fail
      go_ret
      exact ⟨rfl, hb0 _ kW2⟩
    · by_cases hk100 : 100 < key.size
      · have hkb : decide ((100 : Int) < (key.size : Int)) = true := by simp; omega
        have hki : (100 : Int) < (key.size : Int) := by omega
        clear hmd
        go_wp2_with fail
        go_ret
        exact ⟨rfl, hb0 _ kW2⟩
      · have hkb : decide ((100 : Int) < (key.size : Int)) = false := by simp; omega
        have st0 : StillW W w2 w1.heap.size mb gp mp tp lp 0 c (-9223372036854775808) false [] (fun _ => []) (.slice none 0 0) (.slice none 0 0) [] :=
          ⟨hmd, StillSt.zero _ _, Nat.le_refl _, kW2, hbw⟩
        have hki : ¬ ((100 : Int) < (key.size : Int)) := by omega
        have hl60 : l.length ≤ 60 := by omega
        clear hmd kW2 k2 k1 k0 hbw hshort hkb cfew hn60
        replace hm := Lib.hid hm
        generalize w1.heap.size = b at *
        go_wp2_with fail
        go_loopw [10, 11, 12, 13, 14] (fun iv _ _ _ _ wr => ∃ (k : Nat) (mark : Int) (closed : Bool) (O : List Pane) (M : KM) (vq lv : Value) (T : List Timer), iv = .int .i64 k ∧ k ≤ l.length ∧ StillW W wr b mb gp mp tp lp k c mark closed O M vq lv T)
          (fun iv _ _ _ _ _ => l.length - (intOf iv).toNat)
        case atStart => exact ⟨0, _, _, [], _, _, _, [], rfl, Nat.zero_le _, st0⟩
        case round =>
          clear st0
          obtain ⟨k, mark, closed, O, M, vq, lv, T, rfl, hk, st⟩ := hrel
          have hk0 := Int.natCast_nonneg k
          by_cases hlt : k < l.length
          · have hlt1 : (k : Int) < (l.length : Int) := by omega
            have hk60 : k < 60 := by omega
            obtain ⟨ba, off, rfl, hbl, -⟩ := hsl.at_ (by omega)
            have ck := fun w' (kz : Keep none_ W w') => (hsl.keep kz Off.none_).cellk hlt
            have hxk := hok l[k] (List.getElem_mem _)
            generalize l[k] = x at *
            obtain ⟨xo, xk, xt, xv, xe, xg, xs⟩ := x
            have hxkey : xk.size ≤ maxLen := hxk.2.1
            have i0 := fun w' (kz : Keep none_ W w') => ck w' kz 0 (by omega)
            have i1 := fun w' (kz : Keep none_ W w') => ck w' kz 1 (by omega)
            have i2 := fun w' (kz : Keep none_ W w') => ck w' kz 2 (by omega)
            have i3 := fun w' (kz : Keep none_ W w') => ck w' kz 3 (by omega)
            have i4 := fun w' (kz : Keep none_ W w') => ck w' kz 4 (by omega)
            have i5 := fun w' (kz : Keep none_ W w') => ck w' kz 5 (by omega)
            have i6 := fun w' (kz : Keep none_ W w') => ck w' kz 6 (by omega)
            simp only [encCall, Call.cells, Nat.add_zero, List.getElem?_cons_zero, List.getElem?_cons_succ] at i0 i1 i2 i3 i4 i5 i6
            replace i0 := Lib.hid i0
            replace i1 := Lib.hid i1
            replace i2 := Lib.hid i2
            replace i3 := Lib.hid i3
            replace i4 := Lib.hid i4
            replace i5 := Lib.hid i5
            replace i6 := Lib.hid i6
            clear ck
            have hlen := st.len
            have hmF : ∀ q, mdlF mb mp tp lp vq lv q → q < wr.heap.size := fun q e => (st.mdl.lt q e).2
            have cou := Lib.hid (model_out st.mdl (by omega))
            replace hxk := Lib.hid hxk
            replace st := Lib.hid st
            go_wp2_with fail
            refine cou.out.mono ?_
            rintro e w4 ⟨v4, rfl, o4, k4⟩
            obtain ⟨A4, d4, rfl⟩ := own_form o4
            have st4 := st.out.none k4
            have cpn := Lib.hid (model_panes st4.mdl (by omega) key hkey)
            have sl4 : Sl Pane.cells 7 w4 A4 O.length d4 O := Sl.of_own pane_len (by decide) o4
            have ge4 := own_block_ge o4
            have hs4 := k4.size
            clear cou st o4
            replace st4 := Lib.hid st4
            go_wp2_with fail
            refine cpn.out.mono ?_
            rintro e w5 ⟨v5, rfl, o5, k5⟩
            obtain ⟨A5, d5, rfl⟩ := own_form o5
            have st5 := st4.out.none k5
            have sl45 := sl4.keep k5 Off.none_
            have sl5 : Sl Pane.cells 7 w5 A5 (M key).length d5 (M key) := Sl.of_own pane_len (by decide) o5
            have ge5 := own_block_ge o5
            have cmk := Lib.hid (model_mark st5.mdl)
            have hb5 := st5.bl.2
            have hs45 := k5.size
            clear cpn st4 sl4 o5
            go_wp2_with fail
            refine cmk.out.mono ?_
            rintro e w6 ⟨rfl, rfl⟩
            have kW5 := st5.keep
            have t0 := i0.out w5 kW5
            have t1 := i1.out w5 kW5
            have t2 := i2.out w5 kW5
            have t3 := i3.out w5 kW5
            have t4 := i4.out w5 kW5
            have t5 := i5.out w5 kW5
            have t6 := i6.out w5 kW5
            have hbw5 : ba < w5.heap.size := Nat.lt_of_lt_of_le hbl kW5.size
            have cdo := (model_do st5.mdl hb5 (by omega) (by omega) (by omega) hc hm.out ⟨xo, xk, xt, xv, xe, xg, xs⟩ hxk.out).mono (fun e w' hd => hd.slice)
            simp only [Call.cells] at cdo
            replace cdo := Lib.hid cdo
            replace st5 := Lib.hid st5
            clear cmk
            go_wp2_with fail
            refine cdo.out.mono ?_
            rintro e w7 ⟨code, pA, pn, pd, R, O1, M2, vq2, lv2, T2, mark2, closed2, rfl, hslR, hd, hm2, hk7, -⟩
            have stn := StillW.next st5.out hk60 hxkey hd hm2 hk7
            obtain ⟨-, hmle, hsame⟩ := st5.out.st.do st5.out.mdl.grp.inv.km hxkey hd
            have sl47 := sl45.keep hk7 (fun a ha e => by have := hmF _ e; have := ge4 a ha; omega)
            have sl57 := sl5.keep hk7 (fun a ha e => by have := hmF _ e; have := ge5 a ha; omega)
            have hpn := hslR.len
            have hr8 := At.new w7 #[.int .i64 code, .slice pA pn pd] 86
            have kr : Keep none_ w7 (w7.alloc (.cells #[.int .i64 code, .slice pA pn pd] 86)) := Keep.alloc (Keep.refl _ _) _
            have stn8 := stn.none kr
            have sl48 := sl47.keep kr Off.none_
            have sl58 := sl57.keep kr Off.none_
            have kW8 := stn8.keep
            have g0 := i0.out _ kW8
            have hbw8 : ba < (w7.alloc (.cells #[.int .i64 code, .slice pA pn pd] 86)).heap.size := Nat.lt_of_lt_of_le hbl kW8.size
            have hsame2 : Hid (code ≠ 0 ∨ xo = 6 → O1 = [] ∧ M2 = M ∧ mark2 = mark ∧ R = []) := Lib.hid hsame
            have hge : O.length ≤ (O ++ O1).length := by rw [List.length_append]; omega
            clear hsame cdo st5 sl45 sl5 hd hm2 hk7 hslR stn sl47 sl57 kr t0 t1 t2 t3 t4 t5 t6 kW5 kW8 hmF ge4 ge5
            have hcases : ((code != 0) = true ∨ ((code != 0) = false ∧ (xo == 6) = true)) ∨ ((code != 0) = false ∧ (xo == 6) = false) := by
              cases (code != 0) <;> cases (xo == 6) <;> simp
            rcases hcases with hq | ⟨hq1, hq2⟩
            · obtain ⟨rfl, rfl, rfl, rfl⟩ := hsame2.out (by
                rcases hq with h | ⟨-, h⟩
                · exact .inl (by simpa using h)
                · exact .inr (by simpa using h))
              obtain rfl : pn = 0 := hpn
              rw [List.append_nil] at stn8
              have co9 := Lib.hid (model_out stn8.mdl (by omega))
              have g1 := fun w' (k : Keep none_ (w7.alloc (.cells #[.int .i64 code, .slice pA 0 pd] 86)) w') => At.cell (Keep.at k hr8 (fun e => e)) 1
              have gl := hr8.lt
              replace g1 := Lib.hid g1
              replace stn8 := Lib.hid stn8
              clear hsame2 hge hr8
              rcases hq with hq1 | ⟨hq1, hq2⟩
              all_goals
                go_wp2_with fail
                refine co9.out.mono ?_
                generalize w7.heap.size = rb at *
                generalize w7.alloc _ = w8 at *
                rintro e w9 ⟨v9, rfl, o9, k9⟩
                obtain ⟨A9, d9, rfl⟩ := own_form o9
                have sl9 : Sl Pane.cells 7 w9 A9 O.length d9 O := Sl.of_own pane_len (by decide) o9
                have cs9 := Lib.hid (ref_same w9 sl9 (sl48.keep k9 Off.none_))
                rw [panesB_self] at cs9
                have sl59 := sl58.keep k9 Off.none_
                clear co9 o9 sl9 sl48 sl58 g0
                go_wp2_with fail
                refine cs9.out.mono ?_
                rintro e w10 ⟨rfl, k10⟩
                have k810 := k9.trans k10
                have st10 := stn8.out.none k810
                have cp10 := Lib.hid (model_panes st10.mdl (by omega) key hkey)
                have sl510 := sl59.keep k10 Off.none_
                clear cs9 sl59 stn8
                replace st10 := Lib.hid st10
                go_wp2_with fail
                refine cp10.out.mono ?_
                rintro e w11 ⟨v11, rfl, o11, k11⟩
                obtain ⟨A11, d11, rfl⟩ := own_form o11
                have sl11 := Sl.of_own pane_len (by decide) o11
                have cs11 := Lib.hid (ref_same w11 sl11 (sl510.keep k11 Off.none_))
                rw [panesB_self] at cs11
                clear cp10 o11 sl11 sl510
                go_wp2_with fail
                refine cs11.out.mono ?_
                rintro e w12 ⟨rfl, k12⟩
                have k812 := k810.trans (k11.trans k12)
                have st12 := st10.out.none (k11.trans k12)
                have cm12 := Lib.hid (model_mark st12.mdl)
                have g12 := g1.out _ k812
                have gl12 : rb < w12.heap.size := Nat.lt_of_lt_of_le gl k812.size
                have hbm : (mark2 != mark2) = false := by simp
                clear cs11 st10 g1
                replace st12 := Lib.hid st12
                go_wp2_with fail
                refine cm12.out.mono ?_
                rintro e w13 ⟨rfl, rfl⟩
                have st13 := st12.out
                have hgeI : ¬ ((O.length : Int) < (O.length : Int)) := by omega
                have hmlI : ¬ (mark2 < mark2) := by omega
                have hk1w : IntKind.i64.wrap ((k : Int) + 1) = ((k + 1 : Nat) : Int) := by rw [IntKind.wrap_i64]; omega
                clear cm12 st12
                have cot := Lib.hid (model_out (st13).mdl (by have := (st13).len; omega))
                have st9 := Lib.hid st13
                clear st13
                go_wp2_with fail
                refine cot.out.mono ?_
                rintro e wt ⟨vt, rfl, ot, kt⟩
                obtain ⟨At1, dt, rfl⟩ := own_form ot
                have stz := st9.out.none kt
                have cmt := Lib.hid (model_mark stz.mdl)
                replace stz := Lib.hid stz
                clear cot ot st9
                go_wp2_with fail
                refine cmt.out.mono ?_
                rintro e wu ⟨rfl, rfl⟩
                clear cmt
                go_wp2_with fail
                go_roundw
                case rel => exact ⟨k + 1, _, _, O, _, _, _, _, by go_num, by omega, stz.out⟩
                case measure => simp [intOf]; omega
            · clear hsame2 hpn hr8 sl48 sl58
              generalize O ++ O1 = O2 at *
              have hgeI : ¬ ((O2.length : Int) < (O.length : Int)) := by omega
              have hgeN : ¬ (O2.length < O.length) := by omega
              have hmlI : ¬ (mark2 < mark) := by omega
              have hk1w : IntKind.i64.wrap ((k : Int) + 1) = ((k + 1 : Nat) : Int) := by rw [IntKind.wrap_i64]; omega
              have cot := Lib.hid (model_out (stn8).mdl (by have := (stn8).len; omega))
              have st9 := Lib.hid stn8
              clear stn8
              go_wp2_with fail
              refine cot.out.mono ?_
              rintro e wt ⟨vt, rfl, ot, kt⟩
              obtain ⟨At1, dt, rfl⟩ := own_form ot
              have stz := st9.out.none kt
              have cmt := Lib.hid (model_mark stz.mdl)
              replace stz := Lib.hid stz
              clear cot ot st9
              go_wp2_with fail
              refine cmt.out.mono ?_
              rintro e wu ⟨rfl, rfl⟩
              clear cmt
              go_wp2_with fail
              go_roundw
              case rel => exact ⟨k + 1, _, _, O2, _, _, _, _, by go_num, by omega, stz.out⟩
              case measure => simp [intOf]; omega
          · have kf := st.keep
            have hn1 : ¬ ((k : Int) < (l.length : Int)) := by omega
            have hlen := st.len
            have cou := Lib.hid (model_out st.mdl (by omega))
            have hfine := Lib.hid st.st.fineP
            clear st
            go_wp2_with fail
            refine cou.out.mono ?_
            rintro e w4 ⟨v4, rfl, o4, k4⟩
            obtain ⟨A4, d4, rfl⟩ := own_form o4
            have sl4 : Sl Pane.cells 7 w4 A4 O.length d4 O := Sl.of_own pane_len (by decide) o4
            have cfi := Lib.hid (ref_fine6 sl4 (by omega))
            clear cou o4 sl4
            go_wp2_with fail
            refine cfi.out.mono ?_
            rintro e w5 ⟨bf, rfl, hbf, k5⟩
            obtain rfl : bf = true := hbf.2 hfine.out
            clear cfi hbf
            go_wp2_with fail
            go_ret
            exact ⟨rfl, hb0 _ ((kf.trans k4).trans k5)⟩
end Go.Proofs.Ytmioichjhiengaa
