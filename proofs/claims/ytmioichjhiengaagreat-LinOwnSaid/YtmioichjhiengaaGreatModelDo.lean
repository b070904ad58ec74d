/-
  Model.Do.
-/
import Derived.Test.YtmioichjhiengaaGreatBaseModel
import Derived.Deep.CutBlock
import Derived.BigQuiet
set_option linter.unusedSimpArgs false
set_option linter.unusedVariables false
namespace Go.Proofs.YtmioichjhiengaaGreat
open Go.RowKit

theorem did_end {w w1 w2 : World} {b mb gp mp tp lp rb N Q N1 Q1 : Nat} {c : Config} {vq lv vq2 lv2 pv : Value} {M M2 : KM} {T2 : List Timer} {L O R : List Pane} {mark mark2 code : Int} {closed closed2 : Bool} {Y : Nat → Prop} {x : Call}
    (h : MdlR w vq lv w1 b mb gp mp tp lp rb N1 Q1 c vq2 lv2 M2 T2 (L ++ O) mark2 closed2 Y) (hN : N1 ≤ N + 16) (hQ : Q1 ≤ Q + N + 16) (k : Keep (one rb) w1 w2) (hr : RepAt w w2 pv R) (hd : DoRel c x M mark closed code R O M2 mark2 closed2) :
    Did w b mb gp mp tp lp N Q c vq lv M L mark closed Y x (.returned (.agg #[.int .i64 code, pv])) w2 := by
  obtain ⟨h1, h2⟩ := h.done k
  exact ⟨code, pv, R, O, M2, vq2, lv2, T2, mark2, closed2, rfl, hr, hd, h1.up hN hQ, h2, h.ow⟩
theorem did_end0 {w w1 w2 : World} {b mb gp mp tp lp rb N Q N1 Q1 : Nat} {c : Config} {vq lv vq2 lv2 pv : Value} {M M2 : KM} {T2 : List Timer} {L R : List Pane} {mark mark2 code : Int} {closed closed2 : Bool} {Y : Nat → Prop} {x : Call}
    (h : MdlR w vq lv w1 b mb gp mp tp lp rb N1 Q1 c vq2 lv2 M2 T2 L mark2 closed2 Y) (hN : N1 ≤ N + 16) (hQ : Q1 ≤ Q + N + 16) (k : Keep (one rb) w1 w2) (hr : RepAt w w2 pv R) (hd : DoRel c x M mark closed code R [] M2 mark2 closed2) :
    Did w b mb gp mp tp lp N Q c vq lv M L mark closed Y x (.returned (.agg #[.int .i64 code, pv])) w2 := by
  rw [← List.append_nil L] at h
  exact did_end h hN hQ k hr hd
theorem GrpNext.back {w w0 w2 : World} {gp mp tp N Q : Nat} {c : Config} {vq : Value} {X : Nat → Prop} {M2 : KM} (kw0 : Keep none_ w w0) (hn : GrpNext w0 gp mp tp N Q c vq X M2 w2) : GrpNext w gp mp tp N Q c vq X M2 w2 := by
  obtain ⟨vq2, T2, hg, k2, so⟩ := hn
  exact ⟨vq2, T2, hg, (Keep.of_none kw0).trans k2, so.up kw0.size⟩
theorem GrpNext.fwd {w w2 w3 : World} {gp mp tp N Q : Nat} {c : Config} {vq : Value} {X : Nat → Prop} {M2 : KM} (hn : GrpNext w gp mp tp N Q c vq X M2 w2) (k : Keep none_ w2 w3) : GrpNext w gp mp tp N Q c vq X M2 w3 := by
  obtain ⟨vq2, T2, hg, k2, so⟩ := hn
  exact ⟨vq2, T2, hg.none k, k2.trans (Keep.of_none k), so⟩
theorem RepAt.lower {w w0 w' : World} {pv : Value} {R : List Pane} (h : RepAt w0 w' pv R) (hs : w.heap.size ≤ w0.heap.size) : RepAt w w' pv R := by
  obtain ⟨A, n, d, e, hsl, ha⟩ := h
  exact ⟨A, n, d, e, hsl, fun a h => Nat.le_trans hs (ha a h)⟩
theorem RepAt.keep {w w' w2 : World} {S : Nat → Prop} {pv : Value} {R : List Pane} (h : RepAt w w' pv R) (k : Keep S w' w2) (hS : ∀ q, w.heap.size ≤ q → ¬ S q) : RepAt w w2 pv R := by
  obtain ⟨A, n, d, e, hsl, ha⟩ := h
  exact ⟨A, n, d, e, hsl.keep k (fun a h => hS _ (ha a h)), ha⟩
theorem MdlR.setMark {ws w : World} {vq0 lv0 : Value} {b mb gp mp tp lp rb N Q : Nat} {c : Config} {vq lv : Value} {M : KM} {T : List Timer} {L : List Pane} {mark : Int} {closed : Bool} {Y : Nat → Prop} (h : MdlR ws vq0 lv0 w b mb gp mp tp lp rb N Q c vq lv M T L mark closed Y) (m : Int) (hm : I64 m) : MdlR ws vq0 lv0 (w.setCell ⟨mb, 10, none⟩ (.int .i64 m)) b mb gp mp tp lp rb N Q c vq lv M T L m closed Y :=
  h.write (Keep.set1 (Keep.refl _ _) _) m closed hm (At.set h.self 10 (.int .i64 m))
theorem MdlR.setClosed {ws w : World} {vq0 lv0 : Value} {b mb gp mp tp lp rb N Q : Nat} {c : Config} {vq lv : Value} {M : KM} {T : List Timer} {L : List Pane} {mark : Int} {closed : Bool} {Y : Nat → Prop} (h : MdlR ws vq0 lv0 w b mb gp mp tp lp rb N Q c vq lv M T L mark closed Y) : MdlR ws vq0 lv0 (w.setCell ⟨mb, 11, none⟩ (.bool true)) b mb gp mp tp lp rb N Q c vq lv M T L mark true Y :=
  h.write (Keep.set1 (Keep.refl _ _) _) mark true h.mk64 (At.set h.self 11 (.bool true))
theorem MdlR.settled {ws w W w2 : World} {vq0 lv0 : Value} {b mb gp mp tp lp rb N Q : Nat} {c : Config} {vq lv : Value} {M : KM} {T : List Timer} {L : List Pane} {mark mark' : Int} {closed : Bool} {Y : Nat → Prop} {e : Ending} (h : MdlR ws vq0 lv0 w b mb gp mp tp lp rb N Q c vq lv M T L mark closed Y) (kz : Keep none_ w W) (hd : Settled W gp mp tp N Q c vq (fun q => (mdlX mb lp lv q ∨ Y q) ∨ q = rb) mark' M e w2) :
    ∃ Ao co O M' vq' T', e = .returned (.slice Ao O.length co) ∧ Steps c.late mark' M O M' ∧ Calm c.late mark' M' ∧ MdlR ws vq0 lv0 w2 b mb gp mp tp lp rb N (Q + N) c vq' lv M' T' L mark closed Y ∧ Sl Pane.cells 7 w2 Ao O.length co O ∧ O.length ≤ N ∧ (∀ xs T9, At w rb xs T9 → At w2 rb xs T9) := by
  obtain ⟨v, O, M', vq', T', rfl, hst, hcalm, hg, hob, own, k⟩ := hd
  obtain ⟨Ao, co, rfl⟩ := own_form own
  have hW := h.still kz
  have hlenO : O.length ≤ N := by
    have h1 := steps_len hst h.grp.inv h.grp.tim.nodup
    have h2 := h.grp.inv.tim
    omega
  obtain ⟨vq2, T2, hR⟩ := hW.step (N' := N) (Q' := Q + N) ⟨vq', T', hg, k, .inl hob⟩
  exact ⟨Ao, co, O, M', vq2, T2, rfl, hst, hcalm, hR, Sl.of_own pane_len (by decide) own, hlenO, fun xs T9 ha => Keep.at k (Keep.at kz ha (fun e => e)) (hW.nF rb (.inr rfl)).1⟩
/-- What stands behind the region that does a keyed call. -/
def KeyCut (w : World) (gp mp tp N Q : Nat) (c : Config) (vq : Value) (X : Nat → Prop) (mark : Int) (x : Call) (M : KM) (rv vo : Value) (w' : World) : Prop :=
  ∃ rb2 code pv O M1 M2 R, rv = .pointer (some ⟨rb2, 0, none⟩) ∧ w.heap.size ≤ rb2 ∧ At w' rb2 #[.int .i64 code, pv] 57 ∧ Steps c.late mark M O M1 ∧ Calm c.late mark M1 ∧
    (((x.op = 1 ∨ x.op = 2) ∧ R = [] ∧ ((ofL c x.time = none ∧ code = 4 ∧ M2 = M1) ∨ ∃ l, ofL c x.time = some l ∧ code = codeG c.late mark l ∧ M2 = takeM c.kind c.late mark x.key x.value l M1)) ∨
      (¬ (x.op = 1 ∨ x.op = 2) ∧ code = 0 ∧ M2 = M1 ∧ R = shownP x (M1 x.key))) ∧
    GrpNext w gp mp tp (N + 16) (Q + N + 16) c vq X M2 w' ∧ PRow w' w.heap.size vo O ∧ RepAt w w' pv R
theorem keyed_B {w W w7 : World} {gp mp tp N Q : Nat} {c : Config} {vq : Value} {X : Nat → Prop} {mark : Int} {x : Call} {M : KM} {e : Ending} (k : Keep none_ w W) (hd : KeyedDone W gp mp tp N Q c vq X mark x M e w7) :
    ∃ code pA pn pd vo, e = .returned (.tuple #[.agg #[.int .i64 code, .slice pA pn pd], vo]) ∧ KeyCut w gp mp tp N Q c vq X mark x M (.pointer (some ⟨w7.heap.size, 0, none⟩)) vo (w7.alloc (.cells #[.int .i64 code, .slice pA pn pd] 57)) := by
  obtain ⟨code, pv, vo, O, M1, M2, R, rfl, hst, hcalm, hM, hn, own, rep⟩ := hd
  have ⟨pA, pn, pd, he, _, _⟩ := rep
  subst he
  have hs := k.size
  have hn2 := GrpNext.back k hn
  obtain ⟨vq2, T2, hg2, k2, so2⟩ := hn
  have hs2 := k2.size
  have k8 : Keep none_ w7 (w7.alloc (.cells #[.int .i64 code, .slice pA pn pd] 57)) := Keep.alloc (Keep.refl _ _) _
  exact ⟨code, pA, pn, pd, vo, rfl, _, code, _, O, M1, M2, R, rfl, by omega, At.new _ _ _, hst, hcalm, hM, hn2.fwd k8, own_lower (own_keep own k8 (fun _ _ e => e)) hs, (rep.keep k8 (fun _ _ e => e)).lower hs⟩
theorem keyed_A {w W w7 : World} {gp mp tp N0 Q0 N Q : Nat} {c : Config} {vq : Value} {X : Nat → Prop} {mark : Int} {x : Call} {M : KM} {T : List Timer} {e : Ending} (h : GrpAt w gp mp tp N0 Q0 c vq X M T) (k : Keep none_ w W) (hA : At W w.heap.size #[.int .i64 0, .slice none 0 0] 57) (hd : KeyedDone W gp mp tp N Q c vq (fun q => X q ∨ q = w.heap.size) mark x M e w7) :
    ∃ code pA pn pd vo, e = .returned (.tuple #[.agg #[.int .i64 code, .slice pA pn pd], vo]) ∧ At w7 w.heap.size #[.int .i64 0, .slice none 0 0] 57 ∧
      KeyCut w gp mp tp N Q c vq X mark x M (.pointer (some ⟨w.heap.size, 0, none⟩)) vo ((w7.setCell ⟨w.heap.size, 0, none⟩ (.int .i64 code)).setCell ⟨w.heap.size, 1, none⟩ (.slice pA pn pd)) := by
  obtain ⟨code, pv, vo, O, M1, M2, R, rfl, hst, hcalm, hM, hn, own, rep⟩ := hd
  have ⟨pA, pn, pd, he, _, _⟩ := rep
  subst he
  have hs := k.size
  have hlt := hA.lt
  have ⟨vq2, T2, hg2, k2, so2⟩ := hn
  have hs2 := k2.size
  have hnr : ¬ grpF mp tp vq w.heap.size := fun e => by have := h.F_lt _ e; omega
  have hA7 := Keep.at k2 hA hnr
  have hr9 := At.whole hA7 [.int .i64 code, .slice pA pn pd] rfl
  simp only [stores, Nat.zero_add, Nat.reduceAdd] at hr9
  have k3 : Keep (one w.heap.size) w7 ((w7.setCell ⟨w.heap.size, 0, none⟩ (.int .i64 code)).setCell ⟨w.heap.size, 1, none⟩ (.slice pA pn pd)) := Keep.set1 (Keep.set1 (Keep.refl _ _) _) _
  refine ⟨code, pA, pn, pd, vo, rfl, hA7, _, code, _, O, M1, M2, R, rfl, Nat.le_refl _, hr9, hst, hcalm, hM, GrpNext.own h k (Nat.le_refl _) hlt hn k3, own_lower (own_keep own k3 (fun g hg e => ?_)) hs, (rep.keep k3 (fun q hq e => ?_)).lower hs⟩
  · have := (own.lt g hg).1
    unfold one at e
    omega
  · unfold one at e
    omega
set_option maxHeartbeats 8000000 in
set_option maxRecDepth 100000 in
theorem model_do {w : World} {b mb gp mp tp lp N Q : Nat} {c : Config} {vq lv : Value} {M : KM} {T : List Timer} {L : List Pane} {mark : Int} {closed : Bool} {Y : Nat → Prop} (h : MdlAt w b mb gp mp tp lp N Q c vq lv M T L mark closed Y) (hb : b ≤ w.heap.size) (hN : N ≤ 79984) (hQ : Q ≤ 900000) (hL : L.length + N ≤ 800000) (hc : c.ok) (hm : c.mayB = true) (x : Call) (hx : x.ok) :
    Calls Tryz.prog 27 #[.pointer (some ⟨mb, 0, none⟩), .agg x.cells.toArray] w (Did w b mb gp mp tp lp N Q c vq lv M L mark closed Y x) := by
  have k0 : Keep none_ w ((w.alloc (.cells x.cells.toArray 60)).alloc (.cells #[.int .i64 0, .slice none 0 0] 57)) := (by repeat' (first | assumption | with_reducible exact Keep.refl _ _ | with_reducible refine Keep.alloc ?_ _ | with_reducible refine Keep.drew ?_))
  have hxb := At.alloc (At.new w x.cells.toArray 60) (.cells #[.int .i64 0, .slice none 0 0] 57)
  have hrb : At ((w.alloc (.cells x.cells.toArray 60)).alloc (.cells #[.int .i64 0, .slice none 0 0] 57)) (w.heap.size + 1) #[.int .i64 0, .slice none 0 0] 57 := At.newAt (by simp) _ _
  have R0 := h.toR (rb := w.heap.size + 1) hb k0 (by omega) hrb.lt
  have hxb0 : ∀ q, mdlF mb mp tp lp vq lv q → q < w.heap.size := fun q e => (h.lt q e).2
  have cmay := fun W => call_may W c x hc hx
  have ckey := fun W => call_keyed W x
  obtain ⟨kb, hkb⟩ : ∃ kb, kb = x.keyedB := ⟨_, rfl⟩
  rw [← hkb] at ckey
  replace hkb := Lib.hid hkb
  obtain ⟨st, hst⟩ : ∃ st, st = (x.op == 3 && decide (x.time ≤ mark)) := ⟨_, rfl⟩
  replace hst := Lib.hid hst
  have ckd := fun W N Q vq X M T (hg : GrpAt W gp mp tp N Q c vq X M T) (hN : N ≤ 79984) (hQ : Q ≤ 900000) (mark : Int) (hmk : I64 mark) => (show Calls Tryz.prog 34 #[.pointer (some ⟨gp, 0, none⟩), .agg x.cells.toArray, .int .i64 mark] W (KeyedDone W gp mp tp N Q c vq X mark x M) from by
    by_cases ho : x.op = 1 ∨ x.op = 2
    · exact keyed_take hg hN hQ hc hm x hx mark hmk ho
    · exact keyed_ask hg hN hQ hc x hx mark hmk ho)
  have hmk := h.mk64
  simp only [Call.cells, Config.cells] at k0 hxb hrb R0 cmay ckey ckd ⊢
  replace cmay := Lib.hid cmay
  replace ckey := Lib.hid ckey
  replace ckd := Lib.hid ckd
  go_enter Tryz.func27, Tryz.ntmps27
  go_wp2_with fail
  generalize (w.alloc _).alloc _ = w0 at *
  generalize hrbe : w.heap.size + 1 = rb at *
  generalize hxbe : w.heap.size = xb at *
  have hxr : xb ≠ rb := by omega
  replace hrbe := Lib.hid hrbe
  replace hxbe := Lib.hid hxbe
  have q := At.cell R0.self
  have m0 : w0.cell? ⟨mb, 0, none⟩ = some (.int .i64 c.kind) := q 0
  have m1 : w0.cell? ⟨mb, 1, none⟩ = some (.int .i64 c.size) := q 1
  have m2 : w0.cell? ⟨mb, 2, none⟩ = some (.int .i64 c.slide) := q 2
  have m3 : w0.cell? ⟨mb, 3, none⟩ = some (.int .i64 c.gap) := q 3
  have m4 : w0.cell? ⟨mb, 4, none⟩ = some (.int .i64 c.late) := q 4
  have m5 : w0.cell? ⟨mb, 5, none⟩ = some (.int .i64 c.shards) := q 5
  have m6 : w0.cell? ⟨mb, 6, none⟩ = some (.int .i64 c.groups) := q 6
  have m7 : w0.cell? ⟨mb, 7, none⟩ = some (.int .i64 c.cap) := q 7
  have q2 := At.cell hxb
  have x0 : w0.cell? ⟨xb, 0, none⟩ = some (.int .i64 x.op) := q2 0
  have x1 : w0.cell? ⟨xb, 1, none⟩ = some (.string x.key) := q2 1
  have x2 : w0.cell? ⟨xb, 2, none⟩ = some (.int .i64 x.time) := q2 2
  have x3 : w0.cell? ⟨xb, 3, none⟩ = some (.int .i64 x.value) := q2 3
  have x4 : w0.cell? ⟨xb, 4, none⟩ = some (.int .i64 x.fin) := q2 4
  have x5 : w0.cell? ⟨xb, 5, none⟩ = some (.int .i64 x.group) := q2 5
  have x6 : w0.cell? ⟨xb, 6, none⟩ = some (.int .i64 x.shard) := q2 6
  have hmbl := R0.self.lt
  have hxl := hxb.lt
  have hrl := hrb.lt
  clear q q2 h
  replace R0 := Lib.hid R0
  go_cut [7] from 8 to 14 (fun mv w' => mv = .bool (!x.mayB c) ∧ Keep none_ w0 w')
  case first =>
    go_region_law (first
      | (go_simp; go_at_call 61; refine (cmay.out _).mono ?_; rintro e w6 ⟨rfl, k6⟩; have kc6 : Keep none_ w0 w6 := (by refine Keep.trans ?_ k6; exact (by repeat' (first | assumption | with_reducible exact Keep.refl _ _ | with_reducible refine Keep.alloc ?_ _ | with_reducible refine Keep.drew ?_))))
      | fail)
    all_goals
      go_wp2_with fail
      go_meet
      first
        | exact ⟨rfl, kc6⟩
        | (trace_state; fail)
  case rest =>
    obtain ⟨rfl, k1⟩ := hcut
    clear m0 m1 m2 m3 m4 m5 m6 m7 x0 x1 x2 x3 x4 x5 x6 cmay
    have R1 := R0.out.still k1
    have hxb1 := Keep.at k1 hxb (fun e => e)
    have hrb1 := Keep.at k1 hrb (fun e => e)
    clear R0 hxb hrb
    cases hmay : x.mayB c
    · have hr9 := At.whole hrb1 [.int .i64 6, .slice none 0 0] rfl
      simp only [stores, Nat.zero_add, Nat.reduceAdd] at hr9
      have c9 := At.cell hr9
      have fr := At.frozen hrb1
      have cr := At.cell hrb1
      have k9 : Keep (one rb) wc ((wc.setCell ⟨rb, 0, none⟩ (.int .i64 6)).setCell ⟨rb, 1, none⟩ (.slice none 0 0)) := Keep.set1 (Keep.set1 (Keep.refl _ _) _) _
      have hfin := did_end0 (Q := Q) (N := N) R1 (Nat.le_add_right N 16) (by omega) k9 (RepAt.nil w _) (.inl ⟨hmay, rfl, rfl, rfl, rfl, rfl, rfl⟩)
      clear hr9 k9 hxb1 hrb1 R1 ckd ckey
      go_wp2_with fail
      exact bodyPost_ret (v := .agg #[.int .i64 6, .slice none 0 0]) (by simp [results, Tryz.results27, go_sem, c9]) rfl hfin
    · have q := At.cell R1.self
      have m11 : wc.cell? ⟨mb, 11, none⟩ = some (.bool closed) := q 11
      have m10 : wc.cell? ⟨mb, 10, none⟩ = some (.int .i64 mark) := q 10
      have hmbl1 := R1.self.lt
      have q2 := At.cell hxb1
      have x0 : wc.cell? ⟨xb, 0, none⟩ = some (.int .i64 x.op) := q2 0
      have x2 : wc.cell? ⟨xb, 2, none⟩ = some (.int .i64 x.time) := q2 2
      have hxl1 := hxb1.lt
      clear q q2
      cases closed
      · go_wp2_with fail
        go_cut [22] from 23 to 34 (fun bv w' => bv = .bool st ∧ Keep none_ wc w')
        case first =>
          by_cases h3 : x.op = 3
          · have h3b : (x.op == 3) = true := by simp [h3]
            clear h3
            go_wp2_with fail
            go_quiet (fail)
            go_wp2_with fail
            go_meet
            exact ⟨by rw [hst.out]; simp [h3b], keep_drewN _ _⟩
          · have h3b : (x.op == 3) = false := by simp [h3]
            clear h3
            go_wp2_with fail
            go_quiet (fail)
            go_wp2_with fail
            go_meet
            exact ⟨by rw [hst.out]; simp [h3b], keep_drewN _ _⟩
        case rest =>
          obtain ⟨rfl, k2⟩ := hcut
          clear m10 m11 x0 x2
          have R2 := R1.still k2
          have hxb2 := Keep.at k2 hxb1 (fun e => e)
          have hrb2 := Keep.at k2 hrb1 (fun e => e)
          clear R1 hxb1 hrb1
          have hmbl2 := R2.self.lt
          have hxl2 := hxb2.lt
          have q2 := At.cell hxb2
          have x0 : wc.cell? ⟨xb, 0, none⟩ = some (.int .i64 x.op) := q2 0
          have x1 : wc.cell? ⟨xb, 1, none⟩ = some (.string x.key) := q2 1
          have x2 : wc.cell? ⟨xb, 2, none⟩ = some (.int .i64 x.time) := q2 2
          have x3 : wc.cell? ⟨xb, 3, none⟩ = some (.int .i64 x.value) := q2 3
          have x4 : wc.cell? ⟨xb, 4, none⟩ = some (.int .i64 x.fin) := q2 4
          have x5 : wc.cell? ⟨xb, 5, none⟩ = some (.int .i64 x.group) := q2 5
          have x6 : wc.cell? ⟨xb, 6, none⟩ = some (.int .i64 x.shard) := q2 6
          clear q2
          cases st
          · cases kb
            · go_wp2_with fail
              refine (ckey.out _).mono ?_
              rintro e w6 ⟨rfl, k6⟩
              have R3 := R2.still k6
              have hxb3 := Keep.at k6 hxb2 (fun e => e)
              have hrb3 := Keep.at k6 hrb2 (fun e => e)
              clear R2 hxb2 hrb2 x0 x1 x2 x3 x4 x5 x6 hxl2 hmbl2 ckey ckd
              have q2 := At.cell hxb3
              have x0 : w6.cell? ⟨xb, 0, none⟩ = some (.int .i64 x.op) := q2 0
              have x2 : w6.cell? ⟨xb, 2, none⟩ = some (.int .i64 x.time) := q2 2
              have hxl3 := hxb3.lt
              have hmbl3 := R3.self.lt
              have hrbl3 := hrb3.lt
              have q := At.cell R3.self
              have m10 : w6.cell? ⟨mb, 10, none⟩ = some (.int .i64 mark) := q 10
              have m11 : w6.cell? ⟨mb, 11, none⟩ = some (.bool false) := q 11
              have qf := At.frozen R3.self
              have f10 : w6.frozen? ⟨mb, 10, none⟩ = false := qf 10
              have f11 : w6.frozen? ⟨mb, 11, none⟩ = false := qf 11
              clear q q2 qf
              cases ho3 : (x.op == 3)
              · cases ho7 : (x.op == 7)
                · have hno : Hid (x.op ≠ 3 ∧ x.op ≠ 7) := Lib.hid ⟨by simpa using ho3, by simpa using ho7⟩
                  have hr9 := At.whole hrb3 [.int .i64 0, .slice none 0 0] rfl
                  simp only [stores, Nat.zero_add, Nat.reduceAdd] at hr9
                  have c9 := At.cell hr9
                  have fr := At.frozen hrb3
                  have cr := At.cell hrb3
                  have k9 : Keep (one rb) w6 ((w6.setCell ⟨rb, 0, none⟩ (.int .i64 0)).setCell ⟨rb, 1, none⟩ (.slice none 0 0)) := Keep.set1 (Keep.set1 (Keep.refl _ _) _) _
                  have hfin := did_end0 (Q := Q) (N := N) R3 (Nat.le_add_right N 16) (by omega) k9 (RepAt.nil w _) (.inr (.inr (.inr (.inr (.inr ⟨hmay, rfl, hno.out.1, hkb.out.symm, rfl, rfl, rfl, rfl, rfl, (decide_eq_false hno.out.2).symm⟩)))))
                  clear hr9 k9 hxb3 hrb3 R3
                  go_wp2_with fail
                  exact bodyPost_ret (v := .agg #[.int .i64 0, .slice none 0 0]) (by simp [results, Tryz.results27, go_sem, c9]) rfl hfin
                · have hno : Hid (x.op ≠ 3 ∧ x.op = 7) := Lib.hid ⟨by simpa using ho3, by simpa using ho7⟩
                  have R4 := R3.setClosed
                  have hrb4 := hrb3.set_other (a := ⟨mb, 11, none⟩) (fun e => R3.ne.2.2.1 e.symm) (.bool true)
                  have hsz : (w6.setCell ⟨mb, 11, none⟩ (.bool true)).heap.size = w6.heap.size := by simp
                  have hr9 := At.whole hrb4 [.int .i64 0, .slice none 0 0] rfl
                  simp only [stores, Nat.zero_add, Nat.reduceAdd] at hr9
                  have c9 := At.cell hr9
                  have fr := At.frozen hrb4
                  have cr := At.cell hrb4
                  have k9 : Keep (one rb) (w6.setCell ⟨mb, 11, none⟩ (.bool true)) (((w6.setCell ⟨mb, 11, none⟩ (.bool true)).setCell ⟨rb, 0, none⟩ (.int .i64 0)).setCell ⟨rb, 1, none⟩ (.slice none 0 0)) := Keep.set1 (Keep.set1 (Keep.refl _ _) _) _
                  have hfin := did_end0 (Q := Q) (N := N) R4 (Nat.le_add_right N 16) (by omega) k9 (RepAt.nil w _) (.inr (.inr (.inr (.inr (.inr ⟨hmay, rfl, hno.out.1, hkb.out.symm, rfl, rfl, rfl, rfl, rfl, (decide_eq_true hno.out.2).symm⟩)))))
                  clear hr9 k9 hxb3 hrb3 hrb4 R3 R4
                  go_wp2_with fail
                  exact bodyPost_ret (v := .agg #[.int .i64 0, .slice none 0 0]) (by simp [results, Tryz.results27, go_sem, c9]) rfl hfin
              · have h3 : x.op = 3 := by simpa using ho3
                have hlt : mark < x.time := by
                  have h9 := hst.out
                  rw [ho3] at h9
                  simpa using h9
                have hno : Hid (x.op = 3 ∧ mark < x.time) := Lib.hid ⟨h3, hlt⟩
                clear h3 hlt
                have R4 := R3.setMark x.time hx.2.2.1
                have hrb4 := hrb3.set_other (a := ⟨mb, 10, none⟩) (fun e => R3.ne.2.2.1 e.symm) (.int .i64 x.time)
                go_wp2_with fail
                generalize hw7 : w6.setCell _ _ = w7 at *
                clear hw7 x0 x2 m10 m11 f10 f11 hxb3 hrb3 R3 hxl3 hmbl3
                have cst : Hid (∀ W, Keep none_ w7 W → Calls Tryz.prog 12 #[.pointer (some ⟨gp, 0, none⟩), .int .i64 x.time] W (fun e w2 => ∃ Ao co O M' vq' T', e = .returned (.slice Ao O.length co) ∧ Steps c.late x.time M O M' ∧ Calm c.late x.time M' ∧ MdlR w vq lv w2 b mb gp mp tp lp rb N (Q + N) c vq' lv M' T' L x.time false Y ∧ Sl Pane.cells 7 w2 Ao O.length co O ∧ O.length ≤ N ∧ (∀ xs T9, At w7 rb xs T9 → At w2 rb xs T9))) :=
                  Lib.hid (fun W kz => (group_settle (R4.still kz).grp (by omega) (by omega) hc x.time hx.2.2.1).mono (fun e w2 hd => R4.settled kz hd))
                have q := At.cell R4.self
                have m8 : w7.cell? ⟨mb, 8, none⟩ = some (.pointer (some ⟨gp, 0, none⟩)) := q 8
                have m9 : w7.cell? ⟨mb, 9, none⟩ = some (.pointer (some ⟨lp, 0, none⟩)) := q 9
                have m10 : w7.cell? ⟨mb, 10, none⟩ = some (.int .i64 x.time) := q 10
                have hmbl7 := R4.self.lt
                clear q
                go_region_law (first
                  | (go_simp; go_at_call 12; refine (cst.out _ (show Keep none_ w7 _ from (by repeat' (first | assumption | with_reducible exact Keep.refl _ _ | with_reducible refine Keep.alloc ?_ _ | with_reducible refine Keep.drew ?_)))).mono ?_; rintro e w8 ⟨Ao, co, O, M2, vq2, T2, rfl, hst1, hcalm, R8, hslO, hlenO, hat8⟩; have clp := Lib.hid (log_put R8.log hslO (by omega) (by have := R8.bws; have := R8.kp.size; omega)); have m98 : w8.cell? ⟨mb, 9, none⟩ = some (.pointer (some ⟨lp, 0, none⟩)) := At.cell R8.self 9; have hmbl8 := R8.self.lt)
                  | (go_simp; go_at_call 63; refine clp.out.mono ?_; rintro e w9 ⟨lv2, rfl, hl2, kl, ho2⟩)
                  | fail)
                all_goals
                  have R9 := R8.put hl2 kl ho2
                  have hnrb : ¬ logS lp lv rb := fun e => by
                    rcases e with e | e
                    · exact R8.ne.2.2.2.1 e
                    · exact R8.ne.2.2.2.2 e
                  have hrb9 := Keep.at kl (hat8 _ _ hrb4) hnrb
                  have hr9 := At.whole hrb9 [.int .i64 0, .slice none 0 0] rfl
                  simp only [stores, Nat.zero_add, Nat.reduceAdd] at hr9
                  have c9 := At.cell hr9
                  have fr := At.frozen hrb9
                  have cr := At.cell hrb9
                  have hrl9 := hrb9.lt
                  have k9 : Keep (one rb) w9 ((w9.setCell ⟨rb, 0, none⟩ (.int .i64 0)).setCell ⟨rb, 1, none⟩ (.slice none 0 0)) := Keep.set1 (Keep.set1 (Keep.refl _ _) _) _
                  have hfin := did_end (Q := Q) (N := N) R9 (Nat.le_add_right N 16) (by omega) k9 (RepAt.nil w _) (.inr (.inr (.inr (.inr (.inl ⟨hmay, rfl, hno.out.1, hno.out.2, rfl, rfl, rfl, rfl, hst1, hcalm⟩)))))
                  clear hr9 k9 hrb9 hnrb R9 R8 hl2 kl ho2 clp hst1 hcalm hslO hat8 cst
                  go_wp2_with fail
                  exact bodyPost_ret (v := .agg #[.int .i64 0, .slice none 0 0]) (by simp [results, Tryz.results27, go_sem, c9]) rfl hfin
            · go_wp2_with (first | (go_at_call 62; refine (ckey.out _).mono ?_; rintro e w6 ⟨rfl, k6⟩) | fail)
              have R3 := R2.still k6
              have hxb3 := Keep.at k6 hxb2 (fun e => e)
              have hrb3 := Keep.at k6 hrb2 (fun e => e)
              clear R2 hxb2 hrb2 x0 x1 x2 x3 x4 x5 x6 hxl2 hmbl2 ckey
              have hg3 := R3.grp
              have hxl3 := hxb3.lt
              have hmbl3 := R3.self.lt
              have q := At.cell R3.self
              have m8 : w6.cell? ⟨mb, 8, none⟩ = some (.pointer (some ⟨gp, 0, none⟩)) := q 8
              have m10 : w6.cell? ⟨mb, 10, none⟩ = some (.int .i64 mark) := q 10
              have q2 := At.cell hxb3
              have x0 : w6.cell? ⟨xb, 0, none⟩ = some (.int .i64 x.op) := q2 0
              have x1 : w6.cell? ⟨xb, 1, none⟩ = some (.string x.key) := q2 1
              have x2 : w6.cell? ⟨xb, 2, none⟩ = some (.int .i64 x.time) := q2 2
              have x3 : w6.cell? ⟨xb, 3, none⟩ = some (.int .i64 x.value) := q2 3
              have x4 : w6.cell? ⟨xb, 4, none⟩ = some (.int .i64 x.fin) := q2 4
              have x5 : w6.cell? ⟨xb, 5, none⟩ = some (.int .i64 x.group) := q2 5
              have x6 : w6.cell? ⟨xb, 6, none⟩ = some (.int .i64 x.shard) := q2 6
              clear q q2
              have cA : Hid (∀ W, Keep none_ w6 W → At W w6.heap.size #[.int .i64 0, .slice none 0 0] 57 → Calls Tryz.prog 34 #[.pointer (some ⟨gp, 0, none⟩), .agg #[.int .i64 x.op, .string x.key, .int .i64 x.time, .int .i64 x.value, .int .i64 x.fin, .int .i64 x.group, .int .i64 x.shard], .int .i64 mark] W (fun e w7 => ∃ code pA pn pd vo, e = .returned (.tuple #[.agg #[.int .i64 code, .slice pA pn pd], vo]) ∧ At w7 w6.heap.size #[.int .i64 0, .slice none 0 0] 57 ∧
                  KeyCut w6 gp mp tp N Q c vq (fun q => (mdlX mb lp lv q ∨ Y q) ∨ q = rb) mark x M (.pointer (some ⟨w6.heap.size, 0, none⟩)) vo ((w7.setCell ⟨w6.heap.size, 0, none⟩ (.int .i64 code)).setCell ⟨w6.heap.size, 1, none⟩ (.slice pA pn pd)))) :=
                Lib.hid (fun W k hA => (ckd.out W N Q vq _ M T (hg3.own k (Nat.le_refl _) hA.lt) hN hQ mark hmk).mono (fun e w7 hd => keyed_A hg3 k hA hd))
              have cB : Hid (∀ W, Keep none_ w6 W → Calls Tryz.prog 34 #[.pointer (some ⟨gp, 0, none⟩), .agg #[.int .i64 x.op, .string x.key, .int .i64 x.time, .int .i64 x.value, .int .i64 x.fin, .int .i64 x.group, .int .i64 x.shard], .int .i64 mark] W (fun e w7 => ∃ code pA pn pd vo, e = .returned (.tuple #[.agg #[.int .i64 code, .slice pA pn pd], vo]) ∧
                  KeyCut w6 gp mp tp N Q c vq (fun q => (mdlX mb lp lv q ∨ Y q) ∨ q = rb) mark x M (.pointer (some ⟨w7.heap.size, 0, none⟩)) vo (w7.alloc (.cells #[.int .i64 code, .slice pA pn pd] 57)))) :=
                Lib.hid (fun W k => (ckd.out W N Q vq _ M T (hg3.none k) hN hQ mark hmk).mono (fun e w7 hd => keyed_B k hd))
              clear ckd
              go_cut [5, 6] from 39 to 51 (fun rv vo w' => KeyCut w6 gp mp tp N Q c vq (fun q => (mdlX mb lp lv q ∨ Y q) ∨ q = rb) mark x M rv vo w')
              case first =>
                go_region_law (first
                  | (go_simp; go_at_call 34; refine Calls.mono (cA.out _ (show Keep none_ w6 _ from (by repeat' (first | assumption | with_reducible exact Keep.refl _ _ | with_reducible refine Keep.alloc ?_ _ | with_reducible refine Keep.drew ?_))) ?_) ?_; (first | exact At.drew (At.new w6 _ _) | exact At.new w6.drew _ _); rintro e w7 ⟨code, pA, pn, pd, vo, rfl, hA7, hkc⟩; have c70 : w7.cell? ⟨w6.heap.size, 0, none⟩ = some (.int .i64 0) := At.cell hA7 0; have c71 : w7.cell? ⟨w6.heap.size, 1, none⟩ = some (.slice none 0 0) := At.cell hA7 1; have f70 : w7.frozen? ⟨w6.heap.size, 0, none⟩ = false := At.frozen hA7 0; have f71 : w7.frozen? ⟨w6.heap.size, 1, none⟩ = false := At.frozen hA7 1; have hrl7 := hA7.lt; clear hA7)
                  | (go_simp; go_at_call 34; refine Calls.mono (cB.out _ (show Keep none_ w6 _ from (by repeat' (first | assumption | with_reducible exact Keep.refl _ _ | with_reducible refine Keep.alloc ?_ _ | with_reducible refine Keep.drew ?_)))) ?_; rintro e w7 ⟨code, pA, pn, pd, vo, rfl, hkc⟩)
                  | fail)
                all_goals
                  go_wp2_with fail
                  go_meet
                  first
                    | exact hkc
                    | (trace_state; fail)
              case rest =>
                obtain ⟨rb2, code, pv, O, M1, M2, R, rfl, hrb2l, hat, hst1, hcalm, hM, hn, own, rep⟩ := hcut
                have hsw : w.heap.size ≤ w6.heap.size := R3.kp.size
                have ⟨vqn, Tn, hgn, kn, son⟩ := hn
                have hrb4 := Keep.at kn hrb3 (R3.nF rb (.inr rfl)).1
                clear hgn kn son
                have hlenO : O.length ≤ N := by
                  have h1 := steps_len hst1 hg3.inv hg3.tim.nodup
                  have h2 := hg3.inv.tim
                  omega
                obtain ⟨vq2, T2, R4⟩ := R3.step hn
                have hlt3 := R3.lt
                have hlpl : lp < w6.heap.size := (hlt3 lp (.inr (.inr (.inl rfl)))).2
                have hlvl : ∀ g, lv.ownBlock = some g → g < w6.heap.size := fun g e => (hlt3 g (.inr (.inr (.inr e)))).2
                have hnl : ∀ q, w6.heap.size ≤ q → ¬ logS lp lv q := fun q hq e => by
                  rcases e with e | e
                  · omega
                  · have := hlvl q e; omega
                have hnrb : ¬ logS lp lv rb := fun e => by
                  rcases e with e | e
                  · exact R4.ne.2.2.2.1 e
                  · exact R4.ne.2.2.2.2 e
                have q := At.cell R4.self
                have m9 : wc.cell? ⟨mb, 9, none⟩ = some (.pointer (some ⟨lp, 0, none⟩)) := q 9
                clear q
                obtain ⟨Ao, co, rfl⟩ := own_form own
                have hslO : Sl Pane.cells 7 wc Ao O.length co O := Sl.of_own pane_len (by decide) own
                have clp := Lib.hid (log_put R4.log hslO (by omega) (by have := R4.bws; have := R4.kp.size; omega))
                have hmbl4 := R4.self.lt
                have ⟨pA, pn, pd, hpv, _, _⟩ := rep
                subst hpv
                have hrepl : rb < w6.heap.size := hrb3.lt
                clear m8 m10 x0 x1 x2 x3 x4 x5 x6 cA cB hn hslO own hg3 R3 hxb3 hrb3 hxl3 hmbl3
                go_wp2_with fail
                refine clp.out.mono ?_
                rintro e w7 ⟨lv2, rfl, hl2, kl, ho2⟩
                have R5 := R4.put hl2 kl ho2
                have hat7 := Keep.at kl hat (hnl _ hrb2l)
                have hrb7 := Keep.at kl hrb4 hnrb
                have ca := At.cell hat7
                have hrb2w := hat7.lt
                have hr9 := At.whole hrb7 [.int .i64 code, .slice pA pn pd] rfl
                simp only [stores, Nat.zero_add, Nat.reduceAdd] at hr9
                have c9 := At.cell hr9
                have fr := At.frozen hrb7
                have cr := At.cell hrb7
                have k9 : Keep (one rb) w7 ((w7.setCell ⟨rb, 0, none⟩ (.int .i64 code)).setCell ⟨rb, 1, none⟩ (.slice pA pn pd)) := Keep.set1 (Keep.set1 (Keep.refl _ _) _) _
                have hfin := did_end (N := N) (Q := Q) R5 (Nat.le_refl _) (Nat.le_refl _) k9 (((rep.keep kl hnl).keep k9 (fun q hq e => by unfold one at e; omega)).lower hsw) (.inr (.inr (.inr (.inl ⟨hmay, rfl, hkb.out.symm, rfl, rfl, M1, hst1, hcalm, hM⟩))))
                clear R4 R5 hl2 kl ho2 hat7 hrb7 hat hrb4 hr9 k9 clp rep hst1 hcalm hM hnl hnrb hlvl hlt3 m9
                go_wp2_with fail
                exact bodyPost_ret (v := .agg #[.int .i64 code, .slice pA pn pd]) (by simp [results, Tryz.results27, go_sem, c9]) rfl hfin
          · have hst2 : x.op = 3 ∧ x.time ≤ mark := by
              have h9 := hst.out
              simpa using h9.symm
            have hdr := Lib.hid hst2
            clear hst2
            have hr9 := At.whole hrb2 [.int .i64 5, .slice none 0 0] rfl
            simp only [stores, Nat.zero_add, Nat.reduceAdd] at hr9
            have c9 := At.cell hr9
            have fr := At.frozen hrb2
            have cr := At.cell hrb2
            have k9 : Keep (one rb) wc ((wc.setCell ⟨rb, 0, none⟩ (.int .i64 5)).setCell ⟨rb, 1, none⟩ (.slice none 0 0)) := Keep.set1 (Keep.set1 (Keep.refl _ _) _) _
            have hfin := did_end0 (Q := Q) (N := N) R2 (Nat.le_add_right N 16) (by omega) k9 (RepAt.nil w _) (.inr (.inr (.inl ⟨hmay, rfl, hdr.out.1, hdr.out.2, rfl, rfl, rfl, rfl, rfl, rfl⟩)))
            clear hr9 k9 hxb2 hrb2 R2 ckd ckey
            go_wp2_with fail
            exact bodyPost_ret (v := .agg #[.int .i64 5, .slice none 0 0]) (by simp [results, Tryz.results27, go_sem, c9]) rfl hfin
      · have hr9 := At.whole hrb1 [.int .i64 3, .slice none 0 0] rfl
        simp only [stores, Nat.zero_add, Nat.reduceAdd] at hr9
        have c9 := At.cell hr9
        have fr := At.frozen hrb1
        have cr := At.cell hrb1
        have k9 : Keep (one rb) wc ((wc.setCell ⟨rb, 0, none⟩ (.int .i64 3)).setCell ⟨rb, 1, none⟩ (.slice none 0 0)) := Keep.set1 (Keep.set1 (Keep.refl _ _) _) _
        have hfin := did_end0 (Q := Q) (N := N) R1 (Nat.le_add_right N 16) (by omega) k9 (RepAt.nil w _) (.inr (.inl ⟨hmay, rfl, rfl, rfl, rfl, rfl, rfl, rfl⟩))
        clear hr9 k9 hxb1 hrb1 R1 ckd ckey
        go_wp2_with fail
        exact bodyPost_ret (v := .agg #[.int .i64 3, .slice none 0 0]) (by simp [results, Tryz.results27, go_sem, c9]) rfl hfin
end Go.Proofs.YtmioichjhiengaaGreat
