/-
  The reference's Check of a history.
-/
import Derived.Test.YtmioichjhiengaaGreatBaseLin
import Derived.Test.YtmioichjhiengaaGreatRefDo
import Derived.Test.YtmioichjhiengaaGreatBaseBoth
import Derived.Test.YtmioichjhiengaaGreatBaseHist
import Derived.Test.YtmioichjhiengaaGreatRefHist
import Derived.Test.YtmioichjhiengaaGreatBaseCnt
set_option linter.unusedSimpArgs false
set_option linter.unusedVariables false
namespace Go.Proofs.YtmioichjhiengaaGreat
open Go.RowKit

/-- The reference's model behind so many calls. -/
structure RefSt (W wr : World) (b rm p k : Nat) (c : Config) (A : Option Addr) (d : Nat) (L : List Pane) (ov : Value) (s : MS) : Prop where
  ref : RMAt wr b rm p (16 * k) c A d L ov s.O s.M s.mark s.closed
  keep : Keep none_ W wr
  bl : W.heap.size ≤ b ∧ b ≤ wr.heap.size
  len : s.O.length ≤ 1000 * k
section
variable {W wr w' : World} {b rm p k : Nat} {c : Config} {A : Option Addr} {d : Nat} {L : List Pane} {ov : Value} {s : MS}
theorem RefSt.still (h : RefSt W wr b rm p k c A d L ov s) (k9 : Keep none_ wr w') : RefSt W w' b rm p k c A d L ov s :=
  ⟨h.ref.still k9, h.keep.trans k9, ⟨h.bl.1, Nat.le_trans h.bl.2 k9.size⟩, h.len⟩
theorem RefSt.up {m : Nat} (h : RefSt W wr b rm p k c A d L ov s) (hm : k ≤ m) : RefSt W wr b rm p m c A d L ov s :=
  ⟨h.ref.up (by omega), h.keep, h.bl, by have := h.len; omega⟩
/-- What goes out is at most as much as there was. -/
theorem out_len {n : Nat} {c : Config} {x : Call} {M M2 : KM} {mark mark2 code : Int} {closed closed2 : Bool} {R O1 : List Pane} {L : List Pane} (hd : DoRel c x M mark closed code R O1 M2 mark2 closed2) (hr : RelL L M) (hg : GoodM n c.kind M) (hl : L.length ≤ n) : O1.length ≤ n := by
  have hs : ∀ {mk : Int} {M1 : KM}, Steps c.late mk M O1 M1 → O1.length ≤ n := fun {mk M1} h => by
    have h1 := h.rises hg.km
    have h2 : (O1.map tmP).Nodup := by
      refine List.pairwise_map.2 (h1.imp ?_)
      intro a b h3 e
      have e2 : (⟨a.key, a.span⟩ : Timer) = ⟨b.key, b.span⟩ := e
      rw [e2, tlt_strict.irr] at h3
      cases h3
    have h3 := nodup_le (m := L.map tmP) h2 (fun t ht => by
      obtain ⟨q, hq, rfl⟩ := List.mem_map.1 ht
      exact List.mem_map.2 ⟨q, (hr.mem q).2 (h.out hg.km q hq).2.1, rfl⟩)
    simp only [List.length_map] at h3
    omega
  rcases hd with ⟨-, -, -, rfl, -⟩ | ⟨-, -, -, -, rfl, -⟩ | ⟨-, -, -, -, -, -, rfl, -⟩ | ⟨-, -, -, -, -, M1, h, -⟩ | ⟨-, -, -, -, -, -, -, -, h, -⟩ | ⟨-, -, -, -, -, -, rfl, -⟩
  · exact Nat.zero_le _
  · exact Nat.zero_le _
  · exact Nat.zero_le _
  · exact hs h
  · exact hs h
  · exact Nat.zero_le _
theorem RefSt.did {x : Call} {e : Ending} (h : RefSt W wr b rm p k c A d L ov s) (hk : k < 61) (hd : RMDid wr b rm p (16 * k) c A ov s.O s.M s.mark s.closed x e w') :
    ∃ pA pn pd A2 d2 L2 ov2, e = .returned (.agg #[.int .i64 (doF c x s).code, .slice pA pn pd]) ∧ Sl Pane.cells 7 w' pA pn pd (doF c x s).R ∧ RefSt W w' b rm p (k + 1) c A2 d2 L2 ov2 ((doF c x s).next s) ∧ Keep (rmF rm p ov) wr w' ∧ (∀ q, q < wr.heap.size → rmF rm p ov2 q → rmF rm p ov q) ∧ (0 < pn → ∀ a, pA = some a → wr.heap.size ≤ a.block ∧ ¬ rmF rm p ov2 a.block) ∧ DoIs c x s (doF c x s) ∧ (∀ a, A2 = some a → A = some a ∨ wr.heap.size ≤ a.block) := by
  obtain ⟨code, pA, pn, pd, R, O1, M2, ov2, A2, d2, L2, mark2, closed2, rfl, hsl, hrel, hr, kk, how, hoA, hpa⟩ := hd
  have e1 : doF c x s = ⟨code, R, O1, M2, mark2, closed2⟩ := doF_eq h.ref.good.km hrel
  have hlt := h.ref.lt
  have hl := out_len hrel h.ref.rel h.ref.good h.ref.len
  have hlen := h.len
  have hbl := h.bl
  have hs := kk.size
  rw [e1]
  refine ⟨pA, pn, pd, A2, d2, L2, ov2, rfl, hsl, ⟨hr.up (by omega), Keep.fresh h.keep kk (fun q hq e => by have := (hlt q e).1; omega), ⟨hbl.1, by omega⟩, ?_⟩, kk, how, hpa, hrel, hoA⟩
  show (s.O ++ O1).length ≤ _
  rw [List.length_append]
  omega
end
def RefDone (w : World) (c : Config) (l : List EventP) (e : Ending) (w' : World) : Prop :=
  (¬ FineE (l.map EventP.ev) ∧ e = .returned (.tuple #[.pointer none, .int .i64 1]) ∧ Keep none_ w w') ∨
  (FineE (l.map EventP.ev) ∧ ∃ S, OrdOf l S ∧ ((runF c (byPoint l S) MS.zero = none ∧ e = .returned (.tuple #[.pointer none, .int .i64 10]) ∧ Keep none_ w w') ∨
    ∃ s b rm p A d L ov, runF c (byPoint l S) MS.zero = some s ∧ e = .returned (.tuple #[.pointer (some ⟨rm, 0, none⟩), .int .i64 0]) ∧ RefSt w w' b rm p 41 c A d L ov s))
theorem ref_check_no (w : World) (c : Config) (hc : c.ok) (h : c.mayB = false) {A : Option Addr} {n d : Nat} : Calls Tryz.prog 40 #[.agg c.cells.toArray, .slice A n d] w fun e w' => e = .returned (.tuple #[.pointer none, .int .i64 2]) ∧ Keep none_ w w' := by
  have cmy := fun W => ref_may W c hc
  rw [h] at cmy
  have k0 : Keep none_ w (w.alloc (.cells c.cells.toArray 23)) := (by repeat' (first | assumption | with_reducible exact Keep.refl _ _ | with_reducible refine Keep.alloc ?_ _ | with_reducible refine Keep.drew ?_))
  simp only [Config.cells] at cmy k0 ⊢
  replace cmy := Lib.hid cmy
  clear h
  go_enter Tryz.func40, Tryz.ntmps40
  go_wp2_with fail
  refine (cmy.out _).mono ?_
  rintro e w1 ⟨rfl, k1⟩
  go_wp2_with fail
  go_ret2
  exact ⟨rfl, k0.trans k1⟩
set_option maxHeartbeats 8000000 in
set_option maxRecDepth 100000 in
theorem ref_check (w : World) (c : Config) (hc : c.ok) (h : c.mayB = true) {A : Option Addr} {d : Nat} {l : List EventP} (hl : EvAt w A l.length d l) (hn : l.length ≤ 41) :
    Calls Tryz.prog 40 #[.agg c.cells.toArray, .slice A l.length d] w (RefDone w c l) := by
  have cnew := fun W => refm_new W c
  have cmay := fun W => ref_may W c hc
  rw [h] at cmay
  have k0 : Keep none_ w (w.alloc (.cells c.cells.toArray 23)) := (by repeat' (first | assumption | with_reducible exact Keep.refl _ _ | with_reducible refine Keep.alloc ?_ _ | with_reducible refine Keep.drew ?_))
  have hx := At.new w c.cells.toArray 23
  have cm := fun W x (hx : Call.ok x) => ref12_may W c x hc hx
  simp only [Config.cells] at cnew cmay k0 hx cm ⊢
  replace cnew := Lib.hid cnew
  replace cmay := Lib.hid cmay
  replace cm := Lib.hid cm
  have hdc := hl.sl.2.1
  have hdm := hl.sl.2.2.1
  unfold maxLen at hdm
  replace h := Lib.hid h
  go_enter Tryz.func40, Tryz.ntmps40
  go_wp2_with fail
  generalize w.alloc _ = w0 at *
  generalize hcbe : w.heap.size = cb at *
  have hcbb : cb < w0.heap.size := hx.lt
  refine (cmay.out _).mono ?_
  rintro e w1 ⟨rfl, k1⟩
  have hl1 := (hl.none k0).none k1
  have hm1 : ((l.map EventP.ev).length : Int) = (l.length : Int) := by rw [List.length_map]
  have cf := ref12_fine hl1.evs (by rw [List.length_map]; omega) hl1.oks
  rw [List.length_map] at cf
  replace cf := Lib.hid cf
  have hx1 := Lib.hid (Keep.at k1 hx (fun e => e))
  clear cmay hx hm1
  go_wp2_with fail
  refine cf.out.mono ?_
  rintro e w2 ⟨b, rfl, hb, k2⟩
  cases b
  · have hno : RefDone w c l (.returned (.tuple #[.pointer none, .int .i64 1])) w2 := .inl ⟨fun e => (by cases (hb.2 e)), rfl, (k0.trans k1).trans k2⟩
    clear hb cf
    go_wp2_with fail
    go_ret2
    exact hno
  · have hF : Hid (FineE (l.map EventP.ev)) := Lib.hid (hb.1 rfl)
    have hl2 := hl1.none k2
    have hx2 := Keep.at k2 hx1.out (fun e => e)
    have cx2 := At.cell hx2
    have lx2 := hx2.lt
    have kw2 := (k0.trans k1).trans k2
    have hs2 : w.heap.size ≤ w2.heap.size ∧ cb < w2.heap.size := ⟨kw2.size, lx2⟩
    clear hb cf hl1 hx1 k0 k1 k2
    replace hx2 := Lib.hid hx2
    go_wp2_with fail
    refine (cnew.out _).mono ?_
    rintro e w3 ⟨rm, p, rfl, hrm, k3⟩
    have hl3 := hl2.none k3
    have co := ref12_order hl3.evs (by rw [List.length_map]; omega)
    rw [List.length_map] at co
    replace co := Lib.hid co
    have hx3 := Lib.hid (Keep.at k3 hx2.out (fun e => e))
    clear cnew cx2 lx2 hx2
    replace hrm := Lib.hid hrm
    go_wp2_with fail
    refine co.out.mono ?_
    rintro e w4 ⟨v3, S, rfl, own3, pS, sS, k4⟩
    have hS : Hid (OrdOf l S) := Lib.hid ⟨pS, sS⟩
    obtain ⟨vA, vc, rfl⟩ := own_form own3
    have slS : Sl encI 1 w4 vA S.length vc S := Sl.of_own encI_len (by decide) own3
    have hSc := slS.2.1
    have hSl := hS.out.len
    have hrl := hrm.out.lt
    have hoff : ∀ a, vA = some a → a.block < w4.heap.size ∧ ¬ rmF rm p (.slice none 0 0) a.block := fun a ha => by
      have h1 := own3.lt a.block (by subst ha; rfl)
      exact ⟨h1.2, fun e => by have := (hrl _ e).2; omega⟩
    have st0 : RefSt w w4 w2.heap.size rm p 0 c none 0 [] (.slice none 0 0) MS.zero :=
      ⟨(hrm.out.still k4), kw2.trans (k3.trans k4), ⟨hs2.1, (k3.trans k4).size⟩, Nat.le_refl _⟩
    have hx4 := Lib.hid (Keep.at k4 hx3.out (fun e => e))
    have hcbb : cb < w2.heap.size := hs2.2
    clear pS sS own3 co hrm hl2 hl3 hrl k3 k4 hx3 kw2 hs2
    generalize w2.heap.size = b at *
    replace hcbe := Lib.hid hcbe
    go_wp2_with fail
    go_loopw [10, 11, 12, 13] (fun iv _ _ _ wr => ∃ (k : Nat) (A' : Option Addr) (d' : Nat) (L : List Pane) (ov : Value) (s : MS), iv = .int .i64 k ∧ k ≤ S.length ∧ Hid (runF c ((byPoint l S).take k) MS.zero = some s) ∧ RefSt w wr b rm p k c A' d' L ov s ∧ Sl encI 1 wr vA S.length vc S ∧ (∀ a, vA = some a → a.block < wr.heap.size ∧ ¬ rmF rm p ov a.block) ∧ At wr cb #[.int .i64 c.kind, .int .i64 c.size, .int .i64 c.slide, .int .i64 c.gap, .int .i64 c.late, .int .i64 c.shards, .int .i64 c.groups, .int .i64 c.cap] 23)
      (fun iv _ _ _ _ => S.length - (intOf iv).toNat)
    case atStart => exact ⟨0, _, _, _, _, MS.zero, rfl, Nat.zero_le _, Lib.hid rfl, st0, slS, hoff, hx4.out⟩
    case round =>
      clear st0 slS hx4 hoff
      obtain ⟨k, A', d', L, ov, s, rfl, hk, hrun, st, slS, hoff, hxr⟩ := hrel
      have hk0 := Int.natCast_nonneg k
      have kWr := st.keep
      by_cases hlt : k < S.length
      · have hlt1 : (k : Int) < (S.length : Int) := by omega
        obtain ⟨j, hSj, hjl⟩ := hS.out.idx hlt
        have hstep : Hid (runF c ((byPoint l S).take (k + 1)) MS.zero = stepF c l[j] s) := Lib.hid (by
          rw [runF_take (by rw [byPoint_len]; exact hlt) hrun.out, byPoint_get hlt hSj hjl])
        have slS2 := Lib.hid slS
        have stH := Lib.hid st
        have hoffH := Lib.hid hoff
        obtain ⟨sb, so, rfl, hsb, -⟩ := slS.at_ (by omega)
        have s0 : wr.cell? ⟨sb, so + k, none⟩ = some (.int .i64 j) := by
          have := slS.cell1 hlt
          rw [hSj] at this
          exact this
        have hlr := hl.none kWr
        obtain ⟨eb, eo, rfl, heb, -⟩ := hlr.sl.at_ (by omega)
        have ce := hlr.sl.cellk hjl
        obtain ⟨hxok, B, m9, d9, hpan, slB⟩ := hl.each l[j] (List.getElem_mem _)
        generalize l[j] = y at *
        obtain ⟨⟨xc, xn, x, code, pv, bg, pt, en⟩, ps⟩ := y
        have hx9 := hxok.call
        simp only at hpan slB hx9
        subst hpan
        obtain ⟨xo, xk, xt, xv, xe, xg, xh⟩ := x
        have t0 := ce 0 (by omega)
        have t1 := ce 1 (by omega)
        have t2 := ce 2 (by omega)
        have t3 := ce 3 (by omega)
        have t4 := ce 4 (by omega)
        have t5 := ce 5 (by omega)
        have t6 := ce 6 (by omega)
        have t7 := ce 7 (by omega)
        have t8 := ce 8 (by omega)
        have t9 := ce 9 (by omega)
        have t10 := ce 10 (by omega)
        have t11 := ce 11 (by omega)
        have t12 := ce 12 (by omega)
        have t13 := ce 13 (by omega)
        simp only [Event.cells, Call.cells, Nat.add_zero, List.getElem?_cons_zero, List.getElem?_cons_succ] at t0 t1 t2 t3 t4 t5 t6 t7 t8 t9 t10 t11 t12 t13
        have hj0 := Int.natCast_nonneg j
        have hj1 : (j : Int) < (l.length : Int) := by omega
        have hA := At.new wr (evA ⟨xc, xn, ⟨xo, xk, xt, xv, xe, xg, xh⟩, code, .slice B m9 d9, bg, pt, en⟩) 75
        have ka : Keep none_ wr (wr.alloc (.cells (evA ⟨xc, xn, ⟨xo, xk, xt, xv, xe, xg, xh⟩, code, .slice B m9 d9, bg, pt, en⟩) 75)) := Keep.alloc (Keep.refl _ _) _
        unfold evA at hA ka
        replace hSj := Lib.hid hSj
        clear ce hlr slS st hxok hoff
        go_upto_region 13 with fail
        replace hA := Lib.hid hA
        generalize hwae : wr.alloc _ = wa at *
        replace hwae := Lib.hid hwae
        have hA2 := hA.out
        generalize hebe : wr.heap.size = ab at *
        replace hebe := Lib.hid hebe
        have cq := At.cell hA2
        have q2 : wa.cell? ⟨ab, 2, none⟩ = some (.int .i64 xo) := cq 2
        have q3 : wa.cell? ⟨ab, 3, none⟩ = some (.string xk) := cq 3
        have q4 : wa.cell? ⟨ab, 4, none⟩ = some (.int .i64 xt) := cq 4
        have q5 : wa.cell? ⟨ab, 5, none⟩ = some (.int .i64 xv) := cq 5
        have q6 : wa.cell? ⟨ab, 6, none⟩ = some (.int .i64 xe) := cq 6
        have q7 : wa.cell? ⟨ab, 7, none⟩ = some (.int .i64 xg) := cq 7
        have q8 : wa.cell? ⟨ab, 8, none⟩ = some (.int .i64 xh) := cq 8
        have cxr := At.cell (Keep.at ka hxr (fun e => e))
        have z0 := cxr 0
        have z1 := cxr 1
        have z2 := cxr 2
        have z3 := cxr 3
        have z4 := cxr 4
        have z5 := cxr 5
        have z6 := cxr 6
        have z7 := cxr 7
        simp at z0 z1 z2 z3 z4 z5 z6 z7
        have lab := hA2.lt
        have lcb := (Keep.at ka hxr (fun e => e)).lt
        have cmy := cm.out wa ⟨xo, xk, xt, xv, xe, xg, xh⟩ hx9
        simp only [Call.cells] at cmy
        replace cmy := Lib.hid cmy
        clear t0 t1 t2 t3 t4 t5 t6 t7 t8 t9 t10 t11 t12 t13 s0 cxr hA2 cq
        go_upto_region 14 with fail
        refine cmy.out.mono ?_
        rintro e wb ⟨rfl, kb⟩
        have kab := ka.trans kb
        have hxc := Keep.at kab hxr (fun e => e)
        have stc := stH.out.still kab
        have slSc := slS2.out.keep kab Off.none_
        have hAc := Keep.at kb hA.out (fun e => e)
        have cq := At.cell hAc
        have q2 : wb.cell? ⟨ab, 2, none⟩ = some (.int .i64 xo) := cq 2
        have q9 : wb.cell? ⟨ab, 9, none⟩ = some (.int .i64 code) := cq 9
        clear cmy hxr slS2 hA ka lab lcb q3 q4 q5 q6 q7 q8 z0 z1 z2 z3 z4 z5 z6 z7 cq
        have lab := hAc.lt
        go_upto_region 14 with fail
        go_cut [55] from 43 to 55 (fun bv w' => bv = .bool (skipE c ⟨⟨xc, xn, ⟨xo, xk, xt, xv, xe, xg, xh⟩, code, .slice B m9 d9, bg, pt, en⟩, ps⟩) ∧ w' = wb)
        case first =>
          cases hb1 : (code == 2)
          · go_wp2_with fail
            go_meet
            exact ⟨by simp [skipE, hb1], rfl⟩
          · cases hb2 : (xo == 2)
            · go_wp2_with fail
              go_meet
              exact ⟨by simp [skipE, hb1, hb2], rfl⟩
            · go_wp2_with fail
              go_meet
              exact ⟨by simp [skipE, hb1, hb2], rfl⟩
        case rest =>
          obtain ⟨rfl, rfl⟩ := hcut
          rename_i wb
          clear q2 q9
          cases hsk : skipE c ⟨⟨xc, xn, ⟨xo, xk, xt, xv, xe, xg, xh⟩, code, .slice B m9 d9, bg, pt, en⟩, ps⟩
          · have hne : ¬ rmF rm p ov ab := fun e => by have := (stH.out.ref.lt ab e).2; rw [hebe.out] at this; omega
            have hncb : ∀ q, rmF rm p ov q → b ≤ q := fun q e => (stH.out.ref.lt q e).1
            obtain ⟨nx, hnx⟩ : ∃ nx, nx = (doF c ⟨xo, xk, xt, xv, xe, xg, xh⟩ s).next s := ⟨_, rfl⟩
            have hstep2 : Hid (runF c ((byPoint l S).take (k + 1)) MS.zero = if ((doF c ⟨xo, xk, xt, xv, xe, xg, xh⟩ s).code == code && panesB (doF c ⟨xo, xk, xt, xv, xe, xg, xh⟩ s).R ps) = true then some nx else none) := Lib.hid (by
              rw [hstep.out, hnx]
              unfold stepF
              rw [hsk, if_neg (by decide)])
            have cdo : ∀ W', Keep none_ wc W' → Calls Tryz.prog 28 #[.pointer (some ⟨rm, 0, none⟩), .agg (Call.mk xo xk xt xv xe xg xh).cells.toArray] W' (fun e w1 => ∃ pA pn pd A2 d2 L2 ov2, e = .returned (.agg #[.int .i64 (doF c ⟨xo, xk, xt, xv, xe, xg, xh⟩ s).code, .slice pA pn pd]) ∧ Sl Pane.cells 7 w1 pA pn pd (doF c ⟨xo, xk, xt, xv, xe, xg, xh⟩ s).R ∧ RefSt w w1 b rm p (k + 1) c A2 d2 L2 ov2 nx ∧ Keep (rmF rm p ov) W' w1 ∧ (∀ q, q < W'.heap.size → rmF rm p ov2 q → rmF rm p ov q)) :=
              fun W' kz => (refm_do (stc.still kz).ref (stc.still kz).bl.2 (by omega) (by have := stc.len; omega) hc h.out ⟨xo, xk, xt, xv, xe, xg, xh⟩ hx9).mono (fun e w1 hd => by
                rw [hnx]
                obtain ⟨pA, pn, pd, A2, d2, L2, ov2, h1, h2, h3, h4, h5, -⟩ := (stc.still kz).did (by omega) hd
                exact ⟨pA, pn, pd, A2, d2, L2, ov2, h1, h2, h3, h4, h5⟩)
            simp only [Call.cells] at cdo
            replace cdo := Lib.hid cdo
            generalize (doF c ⟨xo, xk, xt, xv, xe, xg, xh⟩ s).code = dc at *
            generalize (doF c ⟨xo, xk, xt, xv, xe, xg, xh⟩ s).R = dR at *
            obtain ⟨bq, hbq⟩ : ∃ bq, bq = (dc == code && panesB dR ps) := ⟨_, rfl⟩
            rw [← hbq] at hstep2
            replace hbq := Lib.hid hbq
            clear hsk hstep hnx stc
            replace hAc := Lib.hid hAc
            replace hxc := Lib.hid hxc
            go_wp2_with fail
            go_region_held3 (fun w' => w'.cell? ⟨ab, 2, none⟩ = some (.int .i64 xo) ∧ w'.cell? ⟨ab, 3, none⟩ = some (.string xk) ∧ w'.cell? ⟨ab, 4, none⟩ = some (.int .i64 xt) ∧ w'.cell? ⟨ab, 5, none⟩ = some (.int .i64 xv) ∧ w'.cell? ⟨ab, 6, none⟩ = some (.int .i64 xe) ∧
                w'.cell? ⟨ab, 7, none⟩ = some (.int .i64 xg) ∧ w'.cell? ⟨ab, 8, none⟩ = some (.int .i64 xh) ∧ w'.cell? ⟨ab, 9, none⟩ = some (.int .i64 code) ∧ w'.cell? ⟨ab, 10, none⟩ = some (.slice B m9 d9))
              (first
                | exact evS hAc.out (Keep.refl _ _).drew
                | (go_split_ands; exact evS hA7 (Keep.refl _ _))
                | (go_split_ands; exact evS hA6 (Keep.refl _ _))
                | fail)
              ((first
                | (go_at_call 28; refine (cdo.out _ (show Keep none_ wc _ from (by repeat' (first | assumption | with_reducible exact Keep.refl _ _ | with_reducible refine Keep.alloc ?_ _ | with_reducible refine Keep.drew ?_)))).mono ?_; rintro e w6 ⟨pA, pn, pd, A2, d2, L2, ov2, rfl, slR, st6, k6, how6⟩
                   have hA6 := Keep.at k6 (Keep.at (show Keep none_ wc _ from (by repeat' (first | assumption | with_reducible exact Keep.refl _ _ | with_reducible refine Keep.alloc ?_ _ | with_reducible refine Keep.drew ?_))) hAc.out (fun e => e)) hne
                   have cs := ref12_same w6 dc code slR (slB.keep st6.keep Off.none_)
                   rw [← hbq.out] at cs
                   replace cs := Lib.hid cs)
                | (go_at_call 26; refine cs.out.mono ?_; rintro e w7 ⟨rfl, k7⟩
                   have hA7 := Keep.at k7 hA6 (fun e => e))
                | fail))
            all_goals
              have hcb6 : ¬ rmF rm p ov cb := fun e => by have := hncb cb e; omega
              have hs7 := st6.still k7
              have hx7 := Keep.at k7 (Keep.at k6 (Keep.at (show Keep none_ wc _ from (by repeat' (first | assumption | with_reducible exact Keep.refl _ _ | with_reducible refine Keep.alloc ?_ _ | with_reducible refine Keep.drew ?_))) hxc.out (fun e => e)) hcb6) (fun e => e)
              have sl7 := ((slSc.keep (show Keep none_ wc _ from (by repeat' (first | assumption | with_reducible exact Keep.refl _ _ | with_reducible refine Keep.alloc ?_ _ | with_reducible refine Keep.drew ?_))) Off.none_).keep k6 (fun a ha e => (hoffH.out a ha).2 e)).keep k7 Off.none_
              have hoff7 : ∀ a, (some ⟨sb, so, none⟩ : Option Addr) = some a → a.block < w7.heap.size ∧ ¬ rmF rm p ov2 a.block := fun a ha => by
                have h1 := (hoffH.out a ha).1
                have h2 := kab.size
                have h3 := k6.size
                have h4 := k7.size
                have h5 : wc.drew.heap.size = wc.heap.size := rfl
                exact ⟨by omega, fun e => (hoffH.out a ha).2 (how6 _ (by omega) e)⟩
              clear hA6 hA7 k6 k7 st6 slR slB how6 cdo cs stH hAc hxc slSc hcb6 hoffH hncb hne
              cases bq
              · have hno : RefDone w c l (.returned (.tuple #[.pointer none, .int .i64 10])) w7 := .inr ⟨hF.out, S, hS.out, .inl ⟨runF_none (by rw [hstep2.out, if_neg (by decide)]), rfl, hs7.keep⟩⟩
                clear hstep2 hrun
                go_wp2_with fail
                go_ret2
                exact hno
              · have hst2 : Hid (runF c ((byPoint l S).take (k + 1)) MS.zero = some nx) := Lib.hid (by rw [hstep2.out, if_pos rfl])
                clear hstep2 hrun
                go_wp2_with fail
                go_roundw
                case rel => exact ⟨k + 1, _, _, _, _, nx, by go_num, by omega, hst2, hs7, sl7, hoff7, hx7⟩
                case measure => simp [intOf]; omega
          · have hst2 : Hid (runF c ((byPoint l S).take (k + 1)) MS.zero = some s) := Lib.hid (by
              rw [hstep.out]
              unfold stepF
              rw [hsk, if_pos rfl])
            have st2 := stc.up (Nat.le_succ k)
            have hoff2 : ∀ a, (some ⟨sb, so, none⟩ : Option Addr) = some a → a.block < wc.heap.size ∧ ¬ rmF rm p ov a.block := fun a ha => ⟨Nat.lt_of_lt_of_le (hoffH.out a ha).1 (by have := kab.size; omega), (hoffH.out a ha).2⟩
            clear stc hAc hsk hstep
            go_wp2_with fail
            go_roundw
            case rel => exact ⟨k + 1, _, _, _, _, s, by go_num, by omega, hst2, st2, slSc, hoff2, hxc⟩
            case measure => simp [intOf]; omega
      · obtain rfl : k = S.length := by omega
        have hin : ¬ ((S.length : Int) < (S.length : Int)) := by omega
        have hfin : RefDone w c l (.returned (.tuple #[.pointer (some ⟨rm, 0, none⟩), .int .i64 0])) wr := .inr ⟨hF.out, S, hS.out, .inr ⟨s, b, rm, p, A', d', L, ov, by
          have := hrun.out
          rw [List.take_of_length_le (by rw [byPoint_len]; exact Nat.le_refl _)] at this
          exact this, rfl, st.up (by omega)⟩⟩
        clear st slS hxr hrun hoff
        go_wp2_with fail
        go_ret2
        exact hfin
end Go.Proofs.YtmioichjhiengaaGreat
