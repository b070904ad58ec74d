/-
  For every config, calls, turns and place easellaw20.LinOwn yields true.
-/
import Derived.Test.YtmioichjhiengaaGreatBaseOwn
import Derived.Test.YtmioichjhiengaaGreatLinUp
import Derived.Test.YtmioichjhiengaaGreatBaseA
import Derived.Laws.MakeOwn
set_option linter.unusedSimpArgs false
set_option linter.unusedVariables false
namespace Go.Proofs.YtmioichjhiengaaGreat
open Go.RowKit

theorem row_ev : Row Tryz.prog 73 75 14 := row_of (b := 136) (z := .agg #[.int .i64 0, .int .i64 0, .int .i64 0, .string ⟨#[]⟩, .int .i64 0, .int .i64 0, .int .i64 0, .int .i64 0, .int .i64 0, .int .i64 0, .slice none 0 0, .int .i64 0, .int .i64 0, .int .i64 0]) Tryz.underlying73 (by kernel_rfl) rfl (by decide) (by decide)
theorem infoO : (Tryz.prog.info? 3).map (fun i => (i.zero, i.size, i.bytes)) = some (some (.int .i64 0), 1, 8) := by kernel_rfl
theorem make3 (w : World) : (Instr.makeSlice 72 (.int .i64 3) (.int .i64 3)).run Tryz.prog w = .ok (.slice (some ⟨w.heap.size, 0, none⟩) 3 3) (w.alloc (.cells #[.int .i64 0, .int .i64 0, .int .i64 0] 3)) := by
  obtain ⟨i0, hi, hz0, hz1, hz2⟩ := info_parts infoO
  have h := run_make (P := Tryz.prog) w 72 3 i0 (.int .i64 0) Tryz.underlying72 hi hz0 .i64 .i64 (3 : Int) (3 : Int) (by omega) (Int.le_refl _) (by rw [hz2]; omega) (by omega)
  rw [hz1, show madeCells (Value.int .i64 0).cells ((3 : Int).toNat * 1) = #[.int .i64 0, .int .i64 0, .int .i64 0] from by kernel_rfl] at h
  exact h
theorem keepS_cell {S : Nat → Prop} {a w : World} (kk : Keep S a w) {b i : Nat} (hb : b < a.heap.size) (hs : ¬ S b) : w.cell? ⟨b, i, none⟩ = a.cell? ⟨b, i, none⟩ := by
  have := kk.block b hb hs
  simp [World.cell?, this]
theorem ownS {S : Nat → Prop} {a w : World} {nb wn cb o : Nat} {v0 v1 v2 v3 v4 v5 v6 v7 : Value} (hn : nb < a.heap.size) (hc : cb < a.heap.size) (q : a.cell? ⟨nb, wn, none⟩ = some v7) (q0 : a.cell? ⟨cb, o, none⟩ = some v0) (q1 : a.cell? ⟨cb, o + 1, none⟩ = some v1) (q2 : a.cell? ⟨cb, o + 2, none⟩ = some v2) (q3 : a.cell? ⟨cb, o + 3, none⟩ = some v3) (q4 : a.cell? ⟨cb, o + 4, none⟩ = some v4) (q5 : a.cell? ⟨cb, o + 5, none⟩ = some v5) (q6 : a.cell? ⟨cb, o + 6, none⟩ = some v6) (kk : Keep S a w) (h1 : ¬ S nb) (h2 : ¬ S cb) :
    w.cell? ⟨nb, wn, none⟩ = some v7 ∧ w.cell? ⟨cb, o, none⟩ = some v0 ∧ w.cell? ⟨cb, o + 1, none⟩ = some v1 ∧ w.cell? ⟨cb, o + 2, none⟩ = some v2 ∧ w.cell? ⟨cb, o + 3, none⟩ = some v3 ∧ w.cell? ⟨cb, o + 4, none⟩ = some v4 ∧ w.cell? ⟨cb, o + 5, none⟩ = some v5 ∧ w.cell? ⟨cb, o + 6, none⟩ = some v6 :=
  ⟨(keepS_cell kk hn h1).trans q, (keepS_cell kk hc h2).trans q0, (keepS_cell kk hc h2).trans q1, (keepS_cell kk hc h2).trans q2, (keepS_cell kk hc h2).trans q3, (keepS_cell kk hc h2).trans q4, (keepS_cell kk hc h2).trans q5, (keepS_cell kk hc h2).trans q6⟩
theorem lin_yes {w w' : World} {c : Config} {l : List EventP} {e : Ending} {s : MS} (hd : LinDone w c l e w') (hF : FineE (l.map EventP.ev)) (hr : ∀ S, OrdOf l S → runF c (byPoint l S) MS.zero = some s) :
    ∃ b mb gp mp tp lp vq lv T, e = .returned (.tuple #[.pointer (some ⟨mb, 0, none⟩), .nilIface]) ∧ LinSt w w' b mb gp mp tp lp 41 c vq lv T s none_ := by
  rcases hd with ⟨h, -⟩ | ⟨-, S, hS, ⟨h, -⟩ | ⟨s', b, mb, gp, mp, tp, lp, vq, lv, T, h, he, st⟩⟩
  · exact absurd hF h
  · rw [hr S hS] at h; cases h
  · rw [hr S hS] at h
    obtain rfl := Option.some.inj h
    exact ⟨b, mb, gp, mp, tp, lp, vq, lv, T, he, st⟩
theorem lin_no {w w' : World} {c : Config} {l : List EventP} {e : Ending} (hd : LinDone w c l e w') (hF : FineE (l.map EventP.ev)) (hr : ∀ S, OrdOf l S → runF c (byPoint l S) MS.zero = none) : e = .returned (.tuple #[.pointer none, errV 10]) ∧ Keep none_ w w' := by
  rcases hd with ⟨h, -⟩ | ⟨-, S, hS, ⟨-, he, k⟩ | ⟨s', b, mb, gp, mp, tp, lp, vq, lv, T, h, -⟩⟩
  · exact absurd hF h
  · exact ⟨he, k⟩
  · rw [hr S hS] at h; cases h
theorem tmod3 (x : Int) : -2 ≤ x.tmod 3 ∧ x.tmod 3 ≤ 2 := by
  cases x with
  | ofNat m => show -2 ≤ ((m % 3 : Nat) : Int) ∧ ((m % 3 : Nat) : Int) ≤ 2; omega
  | negSucc m => show -2 ≤ -(((m + 1) % 3 : Nat) : Int) ∧ -(((m + 1) % 3 : Nat) : Int) ≤ 2; omega
set_option maxHeartbeats 16000000 in
set_option maxRecDepth 100000 in
theorem law_LinOwn (c : Config) (l : List Call) (v : Value) (ws : List Int) (u : Value) (at_ : Int) (W : World) (hc : c.ok) (hv : rSlice 7 rCall W l [v]) (hu : rSlice 1 rInt W ws [u]) (hat : I64 at_) :
    Calls Tryz.prog 6 #[.agg c.cells.toArray, v, u, .int .i64 at_] W fun e W' => e = .returned (.bool true) ∧ Below W.heap.size W W' := by
  obtain ⟨A, n, cc, rfl, hsl, hok⟩ := sl_of encCall Call.ok call_of hv
  obtain ⟨A2, n2, cc2, rfl, hsw, hokw⟩ := sl_of encI I64 rInt_of hu
  clear hv hu
  obtain rfl := hsl.len
  obtain rfl := hsw.len
  have hnc := hsl.2.2.1
  have hlc := hsl.2.1
  have hnc2 := hsw.2.2.1
  have hlc2 := hsw.2.1
  unfold maxLen at hnc hnc2
  have hx := At.new W c.cells.toArray 23
  have k0 : Keep none_ W (W.alloc (.cells c.cells.toArray 23)) := (by repeat' (first | assumption | with_reducible exact Keep.refl _ _ | with_reducible refine Keep.alloc ?_ _ | with_reducible refine Keep.drew ?_))
  have cmay := fun W => ref_may W c hc
  have cnew := fun W => refm_new W c
  have cchk := fun W (h : c.mayB = true) (A : Option Addr) d l hl hn => lin_check (A := A) (d := d) (l := l) W c hc h hl hn
  simp only [Config.cells] at hx k0 cmay cnew cchk ⊢
  replace cmay := Lib.hid cmay
  replace cnew := Lib.hid cnew
  replace cchk := Lib.hid cchk
  have hmk := Lib.hid make3
  go_enter Tryz.func6, Tryz.ntmps6
  go_wp2_with fail
  generalize W.alloc _ = w0 at *
  generalize hcbe : W.heap.size = cb at *
  have hWcb : W.heap.size ≤ cb := by omega
  replace hcbe := Lib.hid hcbe
  refine (lin_up _).mono ?_
  rintro e w1 ⟨rfl, k1⟩
  have kW1 := k0.trans k1
  have hx1 := Keep.at k1 hx (fun e => e)
  have hcx := At.cell hx1
  have lcx := hx1.lt
  clear hx k0 k1
  replace hx1 := Lib.hid hx1
  go_wp2_with fail
  refine (cmay.out _).mono ?_
  rintro e w2 ⟨rfl, k2⟩
  have kW2 := kW1.trans k2
  have hx2 := Keep.at k2 hx1.out (fun e => e)
  have hbel : ∀ w', Keep none_ w2 w' → Below W.heap.size W w' := fun w' k => (kW2.trans k).below (Nat.le_refl _) not_none
  replace hbel := Lib.hid hbel
  clear hcx lcx cmay k2 hx1 kW1
  have hcx := At.cell hx2
  have lcx := hx2.lt
  replace hx2 := Lib.hid hx2
  cases hm : c.mayB
  · go_wp2_with fail
    go_ret
    exact ⟨rfl, hbel.out _ (Keep.refl _ _)⟩
  · have cfew := Lib.hid (law_few (hsl.keep kW2 Off.none_) 30 (by omega))
    replace hm := Lib.hid hm
    go_wp2_with fail
    refine cfew.out.mono ?_
    rintro e w3 ⟨he, rfl⟩
    rcases he with rfl | ⟨rfl, hn30, hshort⟩
    · go_wp2_with fail
      go_ret
      exact ⟨rfl, hbel.out _ (Keep.refl _ _)⟩
    · by_cases hwl : ws.length < l.length
      · have hb1 : decide ((ws.length : Int) < (l.length : Int)) = true := by simp; omega
        have hb2 : (ws.length : Int) < (l.length : Int) := by omega
        go_wp2_with fail
        go_ret
        exact ⟨rfl, hbel.out _ (Keep.refl _ _)⟩
      · have hb1 : decide ((ws.length : Int) < (l.length : Int)) = false := by simp; omega
        have hb2 : ¬ ((ws.length : Int) < (l.length : Int)) := by omega
        have hb3 : decide (ws.length < l.length) = false := by simp; omega
        by_cases ha0 : at_ < 0
        · have hb4 : decide (at_ < 0) = true := by simp; omega
          go_wp2_with fail
          go_ret
          exact ⟨rfl, hbel.out _ (Keep.refl _ _)⟩
        · have hb4 : decide (at_ < 0) = false := by simp; omega
          have hl30 : l.length ≤ 30 := by omega
          clear hshort cfew
          go_wp2_with fail
          refine (cnew.out _).mono ?_
          rintro e w3 ⟨rm, p, rfl, hrm, k3⟩
          clear hb1 hb2 hb3 hb4 cnew hcx lcx
          have hmk3 := hmk.out w3
          have kz3 : Keep none_ w3 (w3.alloc (.cells #[.int .i64 0, .int .i64 0, .int .i64 0] 3)) := Keep.alloc (Keep.refl _ _) _
          have hsz3 : w2.heap.size ≤ w3.heap.size := k3.size
          have hrl := hrm.lt
          have st0 : OwnG w2 (w3.alloc (.cells #[.int .i64 0, .int .i64 0, .int .i64 0] 3)) w2.heap.size rm p 0 w3.heap.size w3.heap.size c l none 0 [] (.slice none 0 0) (.slice none 0 0) [] [] :=
            ⟨⟨hrm.still kz3, k3.trans kz3, ⟨Nat.le_refl _, Nat.le_trans k3.size kz3.size⟩, Nat.zero_le _⟩, World.ownsRow_nil _ _ _ _, fun i h => absurd h (Nat.not_lt_zero _), fun i h => absurd h (Nat.not_lt_zero _), fun x hx => (by cases hx), At.new _ _ _, ⟨fun e => (by have := (hrl _ e).2; omega), fun e => (by cases e)⟩, fun g e => (by cases e), fun a e => (by cases e), k3.size, kz3.size, k3.size⟩
          clear hrm hrl
          replace st0 := Lib.hid st0
          go_wp2_with fail
          generalize hnbe : w3.heap.size = nb at *
          generalize w3.alloc _ = w4 at *
          generalize hbe : w2.heap.size = b at *
          replace hnbe := Lib.hid hnbe
          replace hbe := Lib.hid hbe
          have stA := st0.out
          clear st0 hmk3 hmk kz3 hsz3
          go_loopw [13, 14, 15] (fun lv iv _ wr => ∃ (k : Nat) (A' : Option Addr) (d' : Nat) (L' : List Pane) (ov : Value) (h : List EventP), iv = .int .i64 k ∧ k ≤ l.length ∧ h.length = k ∧ OwnG w2 wr b rm p k nb nb c l A' d' L' ov lv h h)
            (fun _ iv _ _ => l.length - (intOf iv).toNat)
          case atStart => exact ⟨0, _, _, _, _, [], rfl, Nat.zero_le _, rfl, stA⟩
          case round =>
            clear stA
            obtain ⟨k, A', d', L', ov, hh, rfl, hk, hlen, st⟩ := hrel
            have hk0 := Int.natCast_nonneg k
            by_cases hlt : k < l.length
            · have hlt1 : (k : Int) < (l.length : Int) := by omega
              have hlt2 : (k : Int) < (ws.length : Int) := by omega
              have kWr := kW2.trans st.ref.keep
              obtain ⟨wb, wo, rfl, hwb, -⟩ := hsw.at_ (by omega)
              obtain ⟨ba, off, rfl, hbl, -⟩ := hsl.at_ (by omega)
              have y0 : wr.cell? ⟨wb, wo + k, none⟩ = some (.int .i64 (ws[k]'(by omega))) := (hsw.keep kWr Off.none_).cell1 (by omega)
              have ck := (hsl.keep kWr Off.none_).cellk hlt
              have hxk := hok l[k] (List.getElem_mem _)
              have hwbw : wb < wr.heap.size := Nat.lt_of_lt_of_le hwb kWr.size
              have hbaw : ba < wr.heap.size := Nat.lt_of_lt_of_le hbl kWr.size
              have hbaW := hbl
              obtain ⟨y, hy⟩ : ∃ y, y = ws[k]'(by omega) := ⟨_, rfl⟩
              rw [← hy] at y0
              have htm := tmod3 y
              clear hy
              obtain ⟨tm, htme⟩ : ∃ tm, tm = y.tmod 3 := ⟨_, rfl⟩
              rw [← htme] at htm
              have htme2 : y.tmod 3 = tm := htme.symm
              have hs30 : hh.length ≤ 30 := by omega
              replace hlen := Lib.hid hlen
              replace st := Lib.hid st
              clear htme
              go_upto_if 61 with fail
              go_cut [15] from 60 to 63 (fun wv w' => ∃ wn : Nat, wv = .int .i64 wn ∧ wn ≤ 2 ∧ w' = wr)
              case first =>
                by_cases hneg : tm < 0
                · have hd : decide (tm < 0) = true := by simp; omega
                  have hnn : (0 : Int) ≤ -tm := by omega
                  go_wp2_with fail
                  go_meet
                  exact ⟨(-tm).toNat, by congr 1; omega, by omega, rfl⟩
                · have hd : decide (tm < 0) = false := by simp; omega
                  go_wp2_with fail
                  go_meet
                  exact ⟨tm.toNat, by congr 1; omega, by omega, rfl⟩
              case rest =>
                obtain ⟨wn, rfl, hwn, rfl⟩ := hcut
                have stw := st.out
                clear st
                obtain ⟨Ao, co, rfl⟩ := own_form stw.row
                have hwn0 := Int.natCast_nonneg wn
                have hwn3 : (wn : Int) < 3 := by omega
                obtain ⟨x, hxe⟩ : ∃ x, x = l[k] := ⟨_, rfl⟩
                rw [← hxe] at ck hxk
                obtain ⟨cn, hcn⟩ : ∃ cn : Nat, cn = cntC (hh.map EventP.ev) (wn : Int) := ⟨_, rfl⟩
                have hcn30 : cn ≤ 30 := by
                  rw [hcn]
                  have : cntC (hh.map EventP.ev) (wn : Int) ≤ (hh.map EventP.ev).length := List.length_filter_le _ _
                  rw [List.length_map] at this
                  omega
                have q7 : wc.cell? ⟨nb, wn, none⟩ = some (.int .i64 (cn : Nat)) := by
                  rw [hcn]
                  exact (At.cell stw.nx wn).trans (nxC_get hh hwn)
                have lnb := stw.nx.lt
                have t0 := ck 0 (by omega)
                have t1 := ck 1 (by omega)
                have t2 := ck 2 (by omega)
                have t3 := ck 3 (by omega)
                have t4 := ck 4 (by omega)
                have t5 := ck 5 (by omega)
                have t6 := ck 6 (by omega)
                have ckW := Lib.hid (fun w' (kz : Keep none_ W w') => (hsl.keep kz Off.none_).cellk hlt)
                rw [← hxe] at ckW
                have cdo : ∀ W', Keep none_ wc W' → Calls Tryz.prog 28 #[.pointer (some ⟨rm, 0, none⟩), .agg x.cells.toArray] W' (fun e w6 => ∃ pA pn pd A2 d2 L2 ov2, e = .returned (.agg #[.int .i64 (doF c x (stF c (l.take k) MS.zero)).code, .slice pA pn pd]) ∧ Sl Pane.cells 7 w6 pA pn pd (doF c x (stF c (l.take k) MS.zero)).R ∧
                    OwnG w2 w6 b rm p (k + 1) nb nb c l A2 d2 L2 ov2 (.slice Ao hh.length co) hh hh ∧ (0 < pn → ∀ a, pA = some a → ¬ rmF rm p ov2 a.block ∧ (Value.slice Ao hh.length co).ownBlock ≠ some a.block ∧ a.block ≠ nb) ∧ DoIs c x (stF c (l.take k) MS.zero) (doF c x (stF c (l.take k) MS.zero))) :=
                  fun W' kz => (refm_do (stw.still kz).ref.ref (stw.still kz).ref.bl.2 (by omega) (by have := stw.ref.len; omega) hc hm.out x hxk).mono (fun e w6 hd => by
                    subst hxe
                    exact (stw.still kz).did (by omega) hlt hd)
                have htold : Hid (∀ pA pn pd, DoIs c x (stF c (l.take k) MS.zero) (doF c x (stF c (l.take k) MS.zero)) → Told c l[k] (stF c (l.take k) MS.zero) ⟨⟨wn, cn, x, (doF c x (stF c (l.take k) MS.zero)).code, .slice pA pn pd, 3 * (k : Int) + 1, 3 * (k : Int) + 2, 3 * (k : Int) + 3⟩, (doF c x (stF c (l.take k) MS.zero)).R⟩) := Lib.hid (fun pA pn pd h => by
                  rw [hxe] at h ⊢
                  exact ⟨rfl, rfl, rfl, h⟩)
                have hcode : Hid (DoIs c x (stF c (l.take k) MS.zero) (doF c x (stF c (l.take k) MS.zero)) → 0 ≤ (doF c x (stF c (l.take k) MS.zero)).code ∧ (doF c x (stF c (l.take k) MS.zero)).code ≤ 6 ∧ (doF c x (stF c (l.take k) MS.zero)).code ≠ 2) := Lib.hid do_code
                replace hcn := Lib.hid hcn
                replace hxe := Lib.hid hxe
                generalize doF c x (stF c (l.take k) MS.zero) = dd at *
                obtain ⟨dc, dR, dO, dM, dmk, dcl⟩ := dd
                obtain ⟨xo, xk, xt, xv, xf, xg, xh⟩ := x
                simp only [encCall, Call.cells, Nat.add_zero, List.getElem?_cons_zero, List.getElem?_cons_succ] at t0 t1 t2 t3 t4 t5 t6 cdo hcode
                have hk30 : k ≤ 30 := by omega
                replace cdo := Lib.hid cdo
                replace hxk := Lib.hid hxk
                have hw0 : IntKind.i64.wrap (3 * (k : Int)) = 3 * (k : Int) := by rw [IntKind.wrap_i64]; omega
                have hw1 : IntKind.i64.wrap (3 * (k : Int) + 1) = 3 * (k : Int) + 1 := by rw [IntKind.wrap_i64]; omega
                have hw2 : IntKind.i64.wrap (3 * (k : Int) + 2) = 3 * (k : Int) + 2 := by rw [IntKind.wrap_i64]; omega
                have hw3 : IntKind.i64.wrap (3 * (k : Int) + 3) = 3 * (k : Int) + 3 := by rw [IntKind.wrap_i64]; omega
                clear ck y0 stw htm htme2
                go_wp2_with fail
                go_cut [13] from 64 to 91 (fun lv9 w' => ∃ (A2 : Option Addr) (d2 : Nat) (L2 : List Pane) (ov2 : Value) (e : EventP), e.ev.client = (wn : Int) ∧ OwnG w2 w' b rm p (k + 1) nb nb c l A2 d2 L2 ov2 lv9 (hh ++ [e]) hh)
                case first =>
                  go_region_held3 (fun w' => w'.cell? ⟨nb, wn, none⟩ = some (.int .i64 (cn : Nat)) ∧ w'.cell? ⟨ba, off + k * 7, none⟩ = some (.int .i64 xo) ∧ w'.cell? ⟨ba, off + k * 7 + 1, none⟩ = some (.string xk) ∧ w'.cell? ⟨ba, off + k * 7 + 2, none⟩ = some (.int .i64 xt) ∧ w'.cell? ⟨ba, off + k * 7 + 3, none⟩ = some (.int .i64 xv) ∧
                      w'.cell? ⟨ba, off + k * 7 + 4, none⟩ = some (.int .i64 xf) ∧ w'.cell? ⟨ba, off + k * 7 + 5, none⟩ = some (.int .i64 xg) ∧ w'.cell? ⟨ba, off + k * 7 + 6, none⟩ = some (.int .i64 xh))
                    (first
                      | exact ownS lnb hbaw q7 t0 t1 t2 t3 t4 t5 t6 (Keep.refl none_ _).drew (fun e => e) (fun e => e)
                      | exact hz9
                      | assumption
                      | (go_split_ands; exact ownS l6 b6 z7 z0 z1 z2 z3 z4 z5 z6 (show Keep none_ w6 _ from (by repeat' (first | assumption | with_reducible exact Keep.refl _ _ | with_reducible refine Keep.alloc ?_ _ | with_reducible refine Keep.drew ?_))) (fun e => e) (fun e => e))
                      | fail)
                    ((first
                    | (go_at_call 28; refine (cdo.out _ (show Keep none_ wc _ from (by repeat' (first | assumption | with_reducible exact Keep.refl _ _ | with_reducible refine Keep.alloc ?_ _ | with_reducible refine Keep.drew ?_)))).mono ?_; rintro e w6 ⟨pA, pn, pd, A2, d2, L2, ov2, rfl, slR, st6, hpo, hdo⟩
                       have l6 := st6.nx.lt
                       have hW6 := kW2.trans st6.ref.keep
                       have b6 : ba < w6.heap.size := Nat.lt_of_lt_of_le hbaW hW6.size
                       have z7 : w6.cell? ⟨nb, wn, none⟩ = some (.int .i64 (cn : Nat)) := (by
                         rw [hcn.out]
                         exact (At.cell st6.nx wn).trans (nxC_get hh hwn))
                       have cz := ckW.out w6 hW6
                       have z0 : w6.cell? ⟨ba, off + k * 7, none⟩ = some (.int .i64 xo) := cz 0 (by omega)
                       have z1 : w6.cell? ⟨ba, off + k * 7 + 1, none⟩ = some (.string xk) := cz 1 (by omega)
                       have z2 : w6.cell? ⟨ba, off + k * 7 + 2, none⟩ = some (.int .i64 xt) := cz 2 (by omega)
                       have z3 : w6.cell? ⟨ba, off + k * 7 + 3, none⟩ = some (.int .i64 xv) := cz 3 (by omega)
                       have z4 : w6.cell? ⟨ba, off + k * 7 + 4, none⟩ = some (.int .i64 xf) := cz 4 (by omega)
                       have z5 : w6.cell? ⟨ba, off + k * 7 + 5, none⟩ = some (.int .i64 xg) := cz 5 (by omega)
                       have z6 : w6.cell? ⟨ba, off + k * 7 + 6, none⟩ = some (.int .i64 xh) := cz 6 (by omega)
                       have row6 := st6.row
                       have hbs6 : nb ≤ w6.heap.size := Nat.le_of_lt l6
                       clear cz)
                    | (refine step_append_sl _ (by rfl) _ _ _ (by rfl) nb 75 row_ev encE_len encE_one (.slice Ao hh.length co) hh.length hh (by rfl) (own_keep row6 (show Keep none_ w6 _ from (by repeat' (first | assumption | with_reducible exact Keep.refl _ _ | with_reducible refine Keep.alloc ?_ _ | with_reducible refine Keep.drew ?_))) (fun _ _ e => e)) (some ⟨_, 0, none⟩) 1 1 [⟨⟨wn, cn, ⟨xo, xk, xt, xv, xf, xg, xh⟩, dc, .slice pA pn pd, 3 * (k : Int) + 1, 3 * (k : Int) + 2, 3 * (k : Int) + 3⟩, dR⟩] (by rfl) (Sl.of_at (enc := encE) (e := 75) (cs := #[.int .i64 wn, .int .i64 cn, .int .i64 xo, .string xk, .int .i64 xt, .int .i64 xv, .int .i64 xf, .int .i64 xg, .int .i64 xh, .int .i64 dc, .slice pA pn pd, .int .i64 (3 * (k : Int) + 1), .int .i64 (3 * (k : Int) + 2), .int .i64 (3 * (k : Int) + 3)]) ?_ encE_len (by decide) rfl rfl (by unfold maxLen; omega)) (by omega) ?_ ?_
                       · first | exact (by repeat' (first | ((with_reducible refine At.newAt ?_ _ _); (first | (simp; done) | rfl)) | with_reducible refine At.drew ?_ | with_reducible refine At.alloc ?_ _)) | (trace_state; fail)
                       · first | exact Nat.le_trans hbs6 (show Keep none_ w6 _ from (by repeat' (first | assumption | with_reducible exact Keep.refl _ _ | with_reducible refine Keep.alloc ?_ _ | with_reducible refine Keep.drew ?_))).size | (trace_state; fail)
                       intro v9 w9 own9 gr9 loc9
                       obtain ⟨w8, kA9, gr9, loc9⟩ : ∃ w8, Keep none_ w6 w8 ∧ World.grownBy w8 w9 (Value.slice Ao hh.length co).ownBlock ∧ (v9.ownBlock = (Value.slice Ao hh.length co).ownBlock ∨ v9.ownBlock = some w8.heap.size) := ⟨_, (by repeat' (first | assumption | with_reducible exact Keep.refl _ _ | with_reducible refine Keep.alloc ?_ _ | with_reducible refine Keep.drew ?_)), gr9, loc9⟩
                       have k69 : Keep (own_of (.slice Ao hh.length co)) w6 w9 := Keep.grown (Keep.of_none kA9) gr9 (fun q e _ => e)
                       have hz9 : w9.cell? ⟨nb, wn, none⟩ = some (.int .i64 (cn : Nat)) ∧ w9.cell? ⟨ba, off + k * 7, none⟩ = some (.int .i64 xo) ∧ w9.cell? ⟨ba, off + k * 7 + 1, none⟩ = some (.string xk) ∧ w9.cell? ⟨ba, off + k * 7 + 2, none⟩ = some (.int .i64 xt) ∧ w9.cell? ⟨ba, off + k * 7 + 3, none⟩ = some (.int .i64 xv) ∧ w9.cell? ⟨ba, off + k * 7 + 4, none⟩ = some (.int .i64 xf) ∧ w9.cell? ⟨ba, off + k * 7 + 5, none⟩ = some (.int .i64 xg) ∧ w9.cell? ⟨ba, off + k * 7 + 6, none⟩ = some (.int .i64 xh) := (by
                         refine ownS l6 b6 z7 z0 z1 z2 z3 z4 z5 z6 k69 (fun e => st6.nbo.2 e) (fun e => ?_)
                         have h1 := (row6.lt _ e).1
                         have h2 := st6.low.2.2
                         have h3 := kW2.size
                         omega))
                    | fail))
                  all_goals
                    have hcd : 0 ≤ dc ∧ dc ≤ 6 ∧ dc ≠ 2 := hcode.out hdo
                    have g1 : I64 (wn : Int) := by unfold I64; omega
                    have g2 : I64 (cn : Int) := by unfold I64; omega
                    have g3 : I64 dc := by unfold I64; omega
                    have g4 : I64 (3 * (k : Int) + 1) := by unfold I64; omega
                    have g5 : I64 (3 * (k : Int) + 2) := by unfold I64; omega
                    have g6 : I64 (3 * (k : Int) + 3) := by unfold I64; omega
                    have g7 : (0 : Int) ≤ (wn : Int) ∧ (wn : Int) ≤ 2 := by omega
                    have hst9 := OwnG.push (e := ⟨⟨wn, cn, ⟨xo, xk, xt, xv, xf, xg, xh⟩, dc, .slice pA pn pd, 3 * (k : Int) + 1, 3 * (k : Int) + 2, 3 * (k : Int) + 3⟩, dR⟩) st6 kA9 own9 gr9 loc9 (by have := hlen.out; omega) ⟨g7, by rw [List.take_length, ← hcn.out], by rw [hlen.out], by rw [hlen.out], by rw [hlen.out]⟩ (by
                      have h1 := htold.out pA pn pd hdo
                      have h2 := hlen.out
                      subst h2
                      exact h1) ⟨g1, g2, hxk.out, g3, ⟨_, _, _, rfl⟩, g4, g5, g6⟩ rfl slR hpo
                    obtain ⟨A9, d9, rfl⟩ := own_form own9
                    clear own9 gr9 loc9 st6 slR hpo hdo cdo
                    go_wp2_with fail
                    go_meet
                    exact ⟨A2, d2, L2, ov2, _, rfl, hst9⟩
                case rest =>
                  obtain ⟨A2, d2, L2, ov2, e, hec, st9⟩ := hcut
                  have q9 : wc.cell? ⟨nb, wn, none⟩ = some (.int .i64 (cn : Nat)) := by
                    rw [hcn.out]
                    exact (At.cell st9.nx wn).trans (nxC_get hh hwn)
                  have f9 : wc.frozen? ⟨nb, wn, none⟩ = false := At.frozen st9.nx wn
                  have l9 := st9.nx.lt
                  have st10 := st9.count hwn hec
                  rw [← hcn.out] at st10
                  have hlen9 : (hh ++ [e]).length = k + 1 := by rw [List.length_append, hlen.out]; rfl
                  replace hlen9 := Lib.hid hlen9
                  replace st10 := Lib.hid st10
                  clear st9 hec cdo t0 t1 t2 t3 t4 t5 t6 q7
                  go_wp2_with fail
                  go_roundw
                  case rel => exact ⟨k + 1, _, _, _, _, hh ++ [e], by go_num, by omega, hlen9.out, st10.out⟩
                  case measure => simp [intOf]; omega
            · obtain rfl : k = l.length := by omega
              have hin : ¬ ((l.length : Int) < (l.length : Int)) := by omega
              have hWm := st.ref.keep
              obtain ⟨Ao, co, rfl⟩ := own_form st.row
              have hco := (Sl.of_own encE_len (by decide) st.row).2.1
              have hcm := (Sl.of_own encE_len (by decide) st.row).2.2.1
              unfold maxLen at hcm
              have hxr := Keep.at hWm hx2.out (fun e => e)
              have hcx := At.cell hxr
              have lcx := hxr.lt
              have hh30 : hh.length ≤ 30 := by omega
              have c1 := Lib.hid (cchk.out wr hm.out Ao co hh st.evs (by omega))
              have hr1 := Lib.hid (fun (S : List Int) (hS : OrdOf hh S) => (show runF c (byPoint hh S) MS.zero = some (stF c (l.take hh.length) MS.zero) from by rw [order_is st.shp.rise st.shp.nz hS]; exact run_own_all st.tls))
              have hr2 := Lib.hid (fun (S : List Int) (hS : OrdOf (evFull :: hh) S) => (show runF c (byPoint (evFull :: hh) S) MS.zero = some (stF c (l.take hh.length) MS.zero) from by rw [full_order st.shp hS]; exact full_run hm.out st.tls))
              replace hlen := Lib.hid hlen
              replace st := Lib.hid st
              replace hxr := Lib.hid hxr
              obtain ⟨an, rfl⟩ : ∃ an : Nat, at_ = (an : Int) := ⟨at_.toNat, by omega⟩
              generalize stF c (l.take hh.length) MS.zero = sF at *
              clear hwl
              go_wp2_with fail
              refine c1.out.mono ?_
              rintro e w5 hd
              obtain ⟨b1, mb1, gp1, mp1, tp1, lp1, vq1, lv1, T1, rfl, ls1⟩ := lin_yes hd (own_fine st.out.shp) hr1.out
              have kz5 : Keep none_ wr w5 := ls1.keep
              have hx5 := Keep.at kz5 hxr.out (fun e => e)
              have slE := Lib.hid ((Sl.of_own encE_len (by decide) st.out.row).keep (Keep.alloc kz5 (.cells (encE evFull).toArray 75)) Off.none_)
              have ownF := own_new (enc := encE) (Nat.le_refl w5.heap.size) 75 [evFull] (encE evFull).toArray encE_len w5.heap.size 1 rfl rfl (by simp [flat]) (by unfold maxLen; omega)
              have kF : Keep none_ w5 (w5.alloc (.cells (encE evFull).toArray 75)) := Keep.alloc (Keep.refl _ _) _
              simp only [encE, evFull, normP] at slE ownF kF
              replace ls1 := Lib.hid ls1
              clear c1 hcx lcx hd
              go_wp2_with (at_builtin; refine wpList_append_sl _ rfl _ _ _ rfl w5.heap.size 75 row_ev encE_len encE_one _ 1 [evFull] rfl ownF Ao hh.length co hh rfl slE.out (by omega) (by simp) ?_)
              intro v6 w6 own6 hg6 hb6
              have k6 : Keep none_ w5 w6 := keep_grown kF ownF hg6 (Nat.le_refl _)
              obtain ⟨A6, d6, rfl⟩ := own_form own6
              have evF := st.out.full (w2 := w5) (kz5.trans k6) own6
              have hx6 := Keep.at k6 hx5 (fun e => e)
              have hcx := At.cell hx6
              have lcx := hx6.lt
              have c2 := cchk.out w6 hm.out A6 d6 (evFull :: hh) evF (by simp; omega)
              rw [show (evFull :: hh).length = 1 + hh.length by rw [List.length_cons]; omega] at c2
              have hsl6 := (Sl.of_own encE_len (by decide) own6).2.1
              replace c2 := Lib.hid c2
              replace hx6 := Lib.hid hx6
              clear own6 hg6 hb6 ownF slE kF evF hx5
              go_wp2_with fail
              refine c2.out.mono ?_
              rintro e w7 hd
              obtain ⟨b2, mb2, gp2, mp2, tp2, lp2, vq2, lv2, T2, rfl, ls2⟩ := lin_yes hd (full_fine st.out.shp) hr2.out
              have k7 : Keep none_ w6 w7 := ls2.keep
              have m2 := Lib.hid (model_mark ls2.mdl)
              have m1 := Lib.hid (model_mark (ls1.out.mdl.none (k6.trans k7)))
              have hbm : (sF.mark != sF.mark) = false := by simp
              have kz7 := (kz5.trans k6).trans k7
              have hx7 := Keep.at k7 hx6.out (fun e => e)
              clear c2 hcx lcx hd ls2 ls1 hx6 k6 k7 hr1 hr2 hsl6
              replace hx7 := Lib.hid hx7
              go_wp2_with fail
              refine m2.out.mono ?_
              rintro e w8 ⟨rfl, rfl⟩
              go_wp2_with fail
              refine m1.out.mono ?_
              rintro e w9 ⟨rfl, rfl⟩
              by_cases hz : hh.length = 0
              · have hzb : ((hh.length : Int) == 0) = true := by simp [hz]
                replace hz := Lib.hid hz
                clear m1 m2 st hx7
                go_wp2_with fail
                go_ret
                exact ⟨rfl, hbel.out _ (hWm.trans kz7)⟩
              · have hzb : ((hh.length : Int) == 0) = false := by rw [beq_eq_false_iff_ne]; omega
                have hzn : (hh.length : Int) ≠ 0 := by omega
                have hz0 : 0 < hh.length := by omega
                have htm : (an : Int).tmod (hh.length : Int) = ((an % hh.length : Nat) : Int) := by rw [Int.ofNat_tmod]
                have hkl : an % hh.length < hh.length := Nat.mod_lt _ hz0
                have st7 := st.out.still kz7
                obtain ⟨g, rfl⟩ : ∃ g, Ao = some ⟨g, 0, none⟩ := by
                  rcases st7.row.2 with ⟨-, h0⟩ | ⟨g, cap, cur, hv, -⟩
                  · omega
                  · exact ⟨g, by simpa using (Value.slice.inj hv).1⟩
                have hgl := (st7.row.lt g rfl)
                have hgw : w2.heap.size ≤ g := Nat.le_trans st7.low.1 hgl.1
                have hcl := (Sl.of_own encE_len (by decide) st7.row).cellk hkl 9 (by omega)
                obtain ⟨hc9, ht9⟩ := st7.tls _ hkl
                have hcd := do_code ht9.is
                rw [← ht9.code] at hcd
                have htu := st7.turned hkl
                have hfr : w7.frozen? ⟨g, an % hh.length * 14 + 9, none⟩ = false := by
                  rcases st7.row.2 with ⟨hv, -⟩ | ⟨g', cap, cur, hv, -, hg, -⟩
                  · cases hv
                  · obtain rfl : g = g' := by
                      have := (Value.slice.inj hv).1
                      simpa using this
                    exact At.frozen (show At w7 g cur 75 from hg) _
                have hcbg : cb ≠ g := by
                  have h1 := hx2.out.lt
                  have h2 := st7.low.2.2
                  omega
                have c3 := cchk.out _ hm.out _ _ _ htu (by rw [List.length_set]; omega)
                rw [List.length_set] at c3
                have hF3 := Lib.hid (own_fine (st7.shp.turn hkl))
                have hr3 := Lib.hid (fun (S : List Int) (hS : OrdOf (hh.set (an % hh.length) (turnE hh[an % hh.length])) S) => (show runF c (byPoint (hh.set (an % hh.length) (turnE hh[an % hh.length])) S) MS.zero = none from by rw [order_is (st7.shp.turn hkl).rise (st7.shp.turn hkl).nz hS]; exact run_turned st7.tls hkl))
                have hx8 := (hx7.out).set_other (a := ⟨g, an % hh.length * 14 + 9, none⟩) (fun e => hcbg e.symm) (.int .i64 (hh[an % hh.length].ev.code + 7))
                have kz8 : Keep (one g) w7 (w7.setCell ⟨g, an % hh.length * 14 + 9, none⟩ (.int .i64 (hh[an % hh.length].ev.code + 7))) := Keep.set1 (Keep.refl _ _) _
                generalize hh.set (an % hh.length) (turnE hh[an % hh.length]) = hset at *
                have hcl2 : w7.cell? ⟨g, 0 + an % hh.length * 14 + 9, none⟩ = some (.int .i64 hh[an % hh.length].ev.code) := hcl
                rw [Nat.zero_add] at hcl2
                clear hcl st7 ht9 hc9 htu st m1 m2
                generalize hh[an % hh.length].ev.code = cdk at *
                have hw7 : IntKind.i64.wrap (cdk + 7) = cdk + 7 := by rw [IntKind.wrap_i64]; omega
                have hkl1 : ((an % hh.length : Nat) : Int) < (hh.length : Int) := by omega
                have hkl0 := Int.natCast_nonneg (an % hh.length)
                generalize an % hh.length = kk at *
                have hcx := At.cell hx8
                have lcx := hx8.lt
                replace c3 := Lib.hid c3
                replace hx8 := Lib.hid hx8
                go_wp2_with fail
                refine c3.out.mono ?_
                rintro e w10 hd
                obtain ⟨rfl, k10⟩ := lin_no hd hF3.out hr3.out
                have he := eq_err w10 10 10
                clear hcx lcx c3 hcl2
                go_wp2_with fail
                go_ret
                exact ⟨rfl, hbel.out _ ((Keep.fresh (hWm.trans kz7) kz8 (fun q hq e => by unfold one at e; omega)).trans k10)⟩
end Go.Proofs.YtmioichjhiengaaGreat
