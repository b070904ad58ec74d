/-
  Texts of one kind, one behind the other.
-/
import Derived.Test.YtmioichjhiengaaGreatGroupTake
import Derived.Test.YtmioichjhiengaaGreatBaseGrp
import Derived.Test.YtmioichjhiengaaGreatLog
import Derived.Test.YtmioichjhiengaaGreatBaseCall
set_option linter.unusedSimpArgs false
set_option linter.unusedVariables false
/-
  model.Keyed.
-/
namespace Go.Proofs.YtmioichjhiengaaGreat
open Go.RowKit

/-- What a keyed call that is no record shows of its key's panes. -/
def shownP (x : Call) (l : List Pane) : List Pane :=
  if x.op = 4 then (if (findP l ⟨x.time, x.fin⟩).2 then [(findP l ⟨x.time, x.fin⟩).1] else []) else l
/-- A reply's panes, in blocks of the call's own. -/
def RepAt (w w' : World) (pv : Value) (R : List Pane) : Prop := ∃ A n d, pv = .slice A n d ∧ Sl Pane.cells 7 w' A n d R ∧ ∀ a, A = some a → w.heap.size ≤ a.block
theorem RepAt.nil (w w' : World) : RepAt w w' (.slice none 0 0) [] := ⟨none, 0, 0, rfl, Sl.nil _ _ _ _ _ (by decide), fun a e => by cases e⟩
/-- What a keyed call comes to. -/
def KeyedDone (w : World) (gp mp tp N Q : Nat) (c : Config) (vq : Value) (X : Nat → Prop) (mark : Int) (x : Call) (M : KM) (e : Ending) (w' : World) : Prop :=
  ∃ code pv vo O M1 M2 R, e = .returned (.tuple #[.agg #[.int .i64 code, pv], vo]) ∧ Steps c.late mark M O M1 ∧ Calm c.late mark M1 ∧
    (((x.op = 1 ∨ x.op = 2) ∧ R = [] ∧ ((ofL c x.time = none ∧ code = 4 ∧ M2 = M1) ∨ ∃ l, ofL c x.time = some l ∧ code = codeG c.late mark l ∧ M2 = takeM c.kind c.late mark x.key x.value l M1)) ∨
      (¬ (x.op = 1 ∨ x.op = 2) ∧ code = 0 ∧ M2 = M1 ∧ R = shownP x (M1 x.key))) ∧
    GrpNext w gp mp tp (N + 16) (Q + N + 16) c vq X M2 w' ∧ PRow w' w.heap.size vo O ∧ RepAt w w' pv R
theorem GrpAt.turn {w w' : World} {S : Nat → Prop} {gp mp tp N Q : Nat} {c : Config} {vq : Value} {X X' : Nat → Prop} {M : ByteArray → List Pane} {T : List Timer} (h : GrpAt w gp mp tp N Q c vq X M T) (k : Keep S w w') (hS : ∀ q, q < w.heap.size → S q → X q) (hF : ∀ q, S q → ¬ grpF mp tp vq q) (hg : ¬ S gp)
    (hX : ∀ q, q < w.heap.size → X' q → X q) (hl : ∀ q, X' q → q < w'.heap.size) : GrpAt w' gp mp tp N Q c vq X' M T :=
  ⟨Keep.at k h.self hg, h.map.move k (fun q e hq => .inr (hS q hq e)) (fun e => hF mp e (.inl rfl)) (fun q hq e => e.imp id (hX q hq)), h.tim.keep k (fun q hq e => hF q e (.inr hq)), h.mt, h.gf, h.inv, h.ap, hl⟩
/-- A group's next state, and one more block of the call's own that was written. -/
theorem GrpNext.own {w w0 w2 w3 : World} {rb gp mp tp N Q : Nat} {c : Config} {vq : Value} {X : Nat → Prop} {M M2 : KM} {N0 Q0 : Nat} {T : List Timer} (h : GrpAt w gp mp tp N0 Q0 c vq X M T) (kw0 : Keep none_ w w0) (hrb : w.heap.size ≤ rb) (hr0 : rb < w0.heap.size)
    (hn : GrpNext w0 gp mp tp N Q c vq (fun q => X q ∨ q = rb) M2 w2) (k3 : Keep (one rb) w2 w3) : GrpNext w gp mp tp N Q c vq X M2 w3 := by
  obtain ⟨vq2, T2, hg, k2, so⟩ := hn
  have hs0 := kw0.size
  have hs2 := k2.size
  have hs3 := k3.size
  have hF := h.F_lt
  have hgl := h.self.lt
  have hno : ¬ grpF mp tp vq2 rb := fun e => by
    rcases e with e | e
    · have := hF mp (.inl rfl); omega
    · have := hF rb (.inr (so.set rb hr0 e)); omega
  refine ⟨vq2, T2, hg.turn k3 (fun q _ e => .inr e) (fun q e => by unfold one at e; rw [e]; exact hno) (fun e => by unfold one at e; omega) (fun q _ e => .inl e) (fun q e => by have := h.xl q e; omega), ?_, so.up hs0⟩
  exact Keep.comb ((Keep.of_none kw0).trans k2) k3 (fun q hq e => by unfold one at e; omega)
/-- .. as it stands behind the call's own first blocks. -/
theorem GrpAt.own {w w0 : World} {rb gp mp tp N Q : Nat} {c : Config} {vq : Value} {X : Nat → Prop} {M : KM} {T : List Timer} (h : GrpAt w gp mp tp N Q c vq X M T) (kw0 : Keep none_ w w0) (hrb : w.heap.size ≤ rb) (hr0 : rb < w0.heap.size) : GrpAt w0 gp mp tp N Q c vq (fun q => X q ∨ q = rb) M T :=
  h.turn kw0 (fun q _ e => e.elim) (fun q e => e.elim) (fun e => e) (fun q hq e => by
    rcases e with e | e
    · exact e
    · omega) (fun q e => by
    rcases e with e | e
    · exact Nat.lt_of_lt_of_le (h.xl q e) kw0.size
    · omega)
set_option maxHeartbeats 4000000 in
set_option maxRecDepth 100000 in
theorem keyed_take {w : World} {gp mp tp N Q : Nat} {c : Config} {vq : Value} {X : Nat → Prop} {M : KM} {T : List Timer} (h : GrpAt w gp mp tp N Q c vq X M T) (hN : N ≤ 79984) (hQ : Q ≤ 900000) (hc : c.ok) (hm : c.mayB = true) (x : Call) (hx : x.ok) (mark : Int) (hmk : I64 mark) (ho : x.op = 1 ∨ x.op = 2) :
    Calls Tryz.prog 34 #[.pointer (some ⟨gp, 0, none⟩), .agg x.cells.toArray, .int .i64 mark] w (KeyedDone w gp mp tp N Q c vq X mark x M) := by
  have k0 : Keep none_ w ((w.alloc (.cells x.cells.toArray 60)).alloc (.cells #[.int .i64 0, .slice none 0 0] 57)) := (by repeat' (first | assumption | with_reducible exact Keep.refl _ _ | with_reducible refine Keep.alloc ?_ _ | with_reducible refine Keep.drew ?_))
  have hxb := At.alloc (At.new w x.cells.toArray 60) (.cells #[.int .i64 0, .slice none 0 0] 57)
  have hrb : At ((w.alloc (.cells x.cells.toArray 60)).alloc (.cells #[.int .i64 0, .slice none 0 0] 57)) (w.heap.size + 1) #[.int .i64 0, .slice none 0 0] 57 := At.newAt (by simp) _ _
  obtain ⟨-, hxk, hxt, hxv, -⟩ := hx
  simp only [Call.cells] at k0 hxb hrb ⊢
  have hopB : (x.op == 1) = true ∨ ((x.op == 1) = false ∧ (x.op == 2) = true) := by
    rcases ho with e | e
    · exact .inl (by simp [e])
    · exact .inr ⟨by simp [e], by simp [e]⟩
  rcases hopB with h1 | ⟨h1, h2⟩
  all_goals
    go_enter Tryz.func34, Tryz.ntmps34
    go_wp2_with fail
    generalize (w.alloc _).alloc _ = w0 at *
    have hr0 := hrb.lt
    generalize hrbe : w.heap.size + 1 = rb at *
    have hrl : w.heap.size ≤ rb := by omega
    have hrb2 : w.heap.size ≠ rb := by omega
    generalize hxbe : w.heap.size = xb at *
    have cx := At.cell hxb
    have x0 : w0.cell? ⟨xb, 0, none⟩ = some (.int .i64 x.op) := cx 0
    have x1 : w0.cell? ⟨xb, 1, none⟩ = some (.string x.key) := cx 1
    have x2 : w0.cell? ⟨xb, 2, none⟩ = some (.int .i64 x.time) := cx 2
    have x3 : w0.cell? ⟨xb, 3, none⟩ = some (.int .i64 x.value) := cx 3
    have hxbl := hxb.lt
    have hrw : w.heap.size ≤ rb := by omega
    have ctk := Lib.hid (group_take (h.own k0 hrw hr0) hN hQ hc hm x.key hxk x.time x.value mark hxt hxv hmk)
    have hnr : ¬ grpF mp tp vq rb := fun e => by have := h.F_lt rb e; omega
    clear cx
    replace hrbe := Lib.hid hrbe
    replace hxbe := Lib.hid hxbe
    replace ho := Lib.hid ho
    go_wp2_with fail
    refine ctk.out.mono ?_
    rintro e w2 ⟨vo, O, M1, M2, code, rfl, hst, hcalm, hM, hn, own⟩
    have ⟨vq2, T2, hg2, k2, so2⟩ := hn
    have hrb2 := Keep.at k2 hrb hnr
    have cr := At.cell hrb2
    have fr := At.frozen hrb2
    have hr9 := At.whole hrb2 [.int .i64 code, .slice none 0 0] rfl
    simp only [stores, Nat.zero_add, Nat.reduceAdd] at hr9
    have c9 := At.cell hr9
    have k3 : Keep (one rb) w2 ((w2.setCell ⟨rb, 0, none⟩ (.int .i64 code)).setCell ⟨rb, 1, none⟩ (.slice none 0 0)) := Keep.set1 (Keep.set1 (Keep.refl _ _) _) _
    have hs0 := k0.size
    have hfin : KeyedDone w gp mp tp N Q c vq X mark x M (.returned (.tuple #[.agg #[.int .i64 code, .slice none 0 0], vo])) ((w2.setCell ⟨rb, 0, none⟩ (.int .i64 code)).setCell ⟨rb, 1, none⟩ (.slice none 0 0)) :=
      ⟨code, _, vo, O, M1, M2, [], rfl, hst, hcalm, .inl ⟨ho.out, rfl, hM⟩, GrpNext.own h k0 hrw hr0 hn k3, own_lower (own_keep own k3 (fun g hg e => by have := (own.lt g hg).1; unfold one at e; omega)) hs0, RepAt.nil _ _⟩
    clear ctk hn hg2 k2 so2 own hst hcalm hM k3 hrb2 hr9 x0 x1 x2 x3 hxb hrb
    go_wp2_with fail
    exact bodyPost_ret (v := .tuple #[.agg #[.int .i64 code, .slice none 0 0], vo]) (by simp [results, Tryz.results34, go_sem, c9]) rfl hfin
set_option maxHeartbeats 4000000 in
set_option maxRecDepth 100000 in
theorem keyed_ask {w : World} {gp mp tp N Q : Nat} {c : Config} {vq : Value} {X : Nat → Prop} {M : KM} {T : List Timer} (h : GrpAt w gp mp tp N Q c vq X M T) (hN : N ≤ 79984) (hQ : Q ≤ 900000) (hc : c.ok) (x : Call) (hx : x.ok) (mark : Int) (hmk : I64 mark) (ho : ¬ (x.op = 1 ∨ x.op = 2)) :
    Calls Tryz.prog 34 #[.pointer (some ⟨gp, 0, none⟩), .agg x.cells.toArray, .int .i64 mark] w (KeyedDone w gp mp tp N Q c vq X mark x M) := by
  have k0 : Keep none_ w ((w.alloc (.cells x.cells.toArray 60)).alloc (.cells #[.int .i64 0, .slice none 0 0] 57)) := (by repeat' (first | assumption | with_reducible exact Keep.refl _ _ | with_reducible refine Keep.alloc ?_ _ | with_reducible refine Keep.drew ?_))
  have hxb := At.alloc (At.new w x.cells.toArray 60) (.cells #[.int .i64 0, .slice none 0 0] 57)
  have hrb : At ((w.alloc (.cells x.cells.toArray 60)).alloc (.cells #[.int .i64 0, .slice none 0 0] 57)) (w.heap.size + 1) #[.int .i64 0, .slice none 0 0] 57 := At.newAt (by simp) _ _
  obtain ⟨-, hxk, hxt, hxv, -⟩ := hx
  simp only [Call.cells] at k0 hxb hrb ⊢
  have h1 : (x.op == 1) = false := by simp; exact fun e => ho (.inl e)
  have h2 : (x.op == 2) = false := by simp; exact fun e => ho (.inr e)
  replace ho := Lib.hid ho
  go_enter Tryz.func34, Tryz.ntmps34
  go_wp2_with fail
  generalize (w.alloc _).alloc _ = w0 at *
  have hr0 := hrb.lt
  generalize hrbe : w.heap.size + 1 = rb at *
  have hrb2 : w.heap.size ≠ rb := by omega
  generalize hxbe : w.heap.size = xb at *
  have cx := At.cell hxb
  have x0 : w0.cell? ⟨xb, 0, none⟩ = some (.int .i64 x.op) := cx 0
  have hxbl := hxb.lt
  have hrw : w.heap.size ≤ rb := by omega
  have hrw2 : w.heap.size ≤ xb := by omega
  have cst := Lib.hid (group_settle (h.own k0 hrw hr0) (by omega) (by omega) hc mark hmk)
  have hnr : ¬ grpF mp tp vq rb := fun e => by have := h.F_lt rb e; omega
  have hnx : ¬ grpF mp tp vq xb := fun e => by have := h.F_lt xb e; omega
  clear cx
  replace hrbe := Lib.hid hrbe
  replace hxbe := Lib.hid hxbe
  go_wp2_with fail
  refine cst.out.mono ?_
  rintro e w2 ⟨vo, O, M1, vq2, T2, rfl, hst, hcalm, hg2, ob, own, k2⟩
  have hrb2 := Keep.at k2 hrb hnr
  have hxb2 := Keep.at k2 hxb hnx
  have cx := At.cell hxb2
  have x0 : w2.cell? ⟨xb, 0, none⟩ = some (.int .i64 x.op) := cx 0
  have x1 : w2.cell? ⟨xb, 1, none⟩ = some (.string x.key) := cx 1
  have hxbl2 := hxb2.lt
  have hlenM := hg2.inv.len x.key
  have cpn := Lib.hid (group_panes hg2.self rfl hg2.map x.key hxk (by omega))
  obtain ⟨Ao, co, rfl⟩ := own_form own
  clear cx cst
  go_wp2_with fail
  refine cpn.out.mono ?_
  rintro e w3 ⟨v3, rfl, o3, k3⟩
  obtain ⟨A3, c3, rfl⟩ := own_form o3
  have hrb3 := Keep.at k3 hrb2 (fun e => e)
  have hxb3 := Keep.at k3 hxb2 (fun e => e)
  have cx := At.cell hxb3
  have x0 : w3.cell? ⟨xb, 0, none⟩ = some (.int .i64 x.op) := cx 0
  have x2 : w3.cell? ⟨xb, 2, none⟩ = some (.int .i64 x.time) := cx 2
  have x4 : w3.cell? ⟨xb, 4, none⟩ = some (.int .i64 x.fin) := cx 4
  have hs0 := k0.size
  have hs2 := k2.size
  have hs3 := k3.size
  have own3 := own_keep own k3 (fun _ _ e => e)
  have hsl3 : Sl Pane.cells 7 w3 A3 (M1 x.key).length c3 (M1 x.key) := Sl.of_own pane_len (by decide) o3
  have hg3 := hg2.none k3
  have hsrt := hg2.inv.srt x.key
  have hA3 : ∀ a, A3 = some a → w2.heap.size ≤ a.block := own_block_ge o3
  have hend : Hid (∀ w4 w5 pv R, Keep none_ w3 w4 → Keep (one rb) w4 w5 → R = shownP x (M1 x.key) → RepAt w w5 pv R → KeyedDone w gp mp tp N Q c vq X mark x M (.returned (.tuple #[.agg #[.int .i64 0, pv], .slice Ao O.length co])) w5) := by
    refine Lib.hid fun w4 w5 pv R k4 k5 hR hrep => ?_
    refine ⟨0, pv, _, O, M1, M1, R, rfl, hst, hcalm, .inr ⟨ho.out, rfl, rfl, hR⟩, GrpNext.own h k0 hrw hr0 ⟨vq2, T2, (hg3.none k4).up (by omega) (by omega), (k2.trans (Keep.of_none (k3.trans k4))), .inl ob⟩ k5, ?_, hrep⟩
    exact own_lower (own_keep (own_keep own3 k4 (fun _ _ e => e)) k5 (fun g hg e => by have := (own3.lt g hg).1; unfold one at e; omega)) hs0
  clear cpn cx own k2 hrb2 hxb2 x1 hst hcalm hg2 hg3
  have fr := At.frozen hrb3
  have cr := At.cell hrb3
  have hrl3 := hrb3.lt
  have hxl3 := hxb3.lt
  by_cases h4 : x.op = 4
  · have h4b : (x.op != 4) = false := by simp [h4]
    have cfi := pane_find hsl3 hsrt (by omega) ⟨x.time, x.fin⟩
    have hR : Hid (shownP x (M1 x.key) = if (findP (M1 x.key) ⟨x.time, x.fin⟩).2 then [(findP (M1 x.key) ⟨x.time, x.fin⟩).1] else []) := Lib.hid (by unfold shownP; rw [if_pos h4])
    generalize (findP (M1 x.key) ⟨x.time, x.fin⟩).1 = p at *
    generalize (findP (M1 x.key) ⟨x.time, x.fin⟩).2 = bf at *
    simp only [Span.cells, Pane.cells] at cfi
    replace cfi := Lib.hid cfi
    clear h4 hsl3 o3
    go_wp2_with fail
    refine cfi.out.mono ?_
    rintro e w4 ⟨rfl, k4⟩
    have hrb4 := Keep.at k4 hrb3 (fun e => e)
    have hp4 := At.new w4 p.cells.toArray 88
    have k45 : Keep none_ w4 (w4.alloc (.cells p.cells.toArray 88)) := Keep.alloc (Keep.refl _ _) _
    have hrb5 := Keep.at k45 hrb4 (fun e => e)
    have hs34 := k4.size
    have hs45 := k45.size
    have hrb6 := At.alloc hrb5 (.cells p.cells.toArray 88)
    have hnew : At ((w4.alloc (.cells p.cells.toArray 88)).alloc (.cells p.cells.toArray 88)) (w4.heap.size + 1) p.cells.toArray 88 := At.newAt (by simp) _ _
    clear cfi hrb3 hxb3 x0 x2 x4 fr cr
    cases bf
    · have fr := At.frozen hrb5
      have cr := At.cell hrb5
      have hr9 := At.whole hrb5 [.int .i64 0, .slice none 0 0] rfl
      simp only [stores, Nat.zero_add, Nat.reduceAdd, Pane.cells] at hr9
      have c9 := At.cell hr9
      have k9 : Keep (one rb) (w4.alloc (.cells p.cells.toArray 88)) (((w4.alloc (.cells p.cells.toArray 88)).setCell ⟨rb, 0, none⟩ (.int .i64 0)).setCell ⟨rb, 1, none⟩ (.slice none 0 0)) := Keep.set1 (Keep.set1 (Keep.refl _ _) _) _
      have hfin := hend.out _ _ (.slice none 0 0) [] (k4.trans k45) k9 (by rw [hR.out]; rfl) (RepAt.nil _ _)
      simp only [Pane.cells] at hfin fr cr
      clear hend hR hr9 k9 hrb6 hnew own3 hrb5 hrb4
      go_wp2_with fail
      exact bodyPost_ret (v := .tuple #[.agg #[.int .i64 0, .slice none 0 0], .slice Ao O.length co]) (by simp [results, Tryz.results34, go_sem, c9]) rfl hfin
    · have fr := At.frozen hrb6
      have cr := At.cell hrb6
      have hr9 := At.whole hrb6 [.int .i64 0, .slice (some ⟨w4.heap.size + 1, 0, none⟩) 1 1] rfl
      have k6 : Keep none_ w4 ((w4.alloc (.cells p.cells.toArray 88)).alloc (.cells p.cells.toArray 88)) := Keep.alloc k45 _
      have hsl6 : Sl Pane.cells 7 _ (some ⟨w4.heap.size + 1, 0, none⟩) 1 1 [p] := Sl.of_at (xs := [p]) hnew pane_len (by decide) (rfl : (1 : Nat) = [p].length) (by simp [flat_one]) (by unfold maxLen; omega)
      simp only [stores, Nat.zero_add, Nat.reduceAdd, Pane.cells] at hr9
      have c9 := At.cell hr9
      have k9 : ∀ W6 : World, Keep (one rb) W6 ((W6.setCell ⟨rb, 0, none⟩ (.int .i64 0)).setCell ⟨rb, 1, none⟩ (.slice (some ⟨w4.heap.size + 1, 0, none⟩) 1 1)) := fun W6 => Keep.set1 (Keep.set1 (Keep.refl _ _) _) _
      have hfin := hend.out _ _ (.slice (some ⟨w4.heap.size + 1, 0, none⟩) 1 1) [p] (k4.trans k6) (k9 _) (by rw [hR.out]; rfl) ⟨_, 1, 1, rfl, hsl6.keep (k9 _) (fun a ha e => by
        have : a = ⟨w4.heap.size + 1, 0, none⟩ := by simpa using ha.symm
        subst this
        unfold one at e
        simp only at e
        omega), fun a ha => by
        have : a = ⟨w4.heap.size + 1, 0, none⟩ := by simpa using ha.symm
        subst this
        simp only
        omega⟩
      simp only [Pane.cells] at hfin fr hp4 cr
      have cp := At.cell hp4
      clear hend hR hr9 k9 hrb6 hnew own3 hrb5 hrb4 hsl6 k6
      go_wp2_with fail
      exact bodyPost_ret (v := .tuple #[.agg #[.int .i64 0, .slice (some ⟨w4.heap.size + 1, 0, none⟩) 1 1], .slice Ao O.length co]) (by simp [results, Tryz.results34, go_sem, c9]) rfl hfin
  · have h4b : (x.op != 4) = true := by simp [h4]
    have hr9 := At.whole hrb3 [.int .i64 0, .slice A3 (M1 x.key).length c3] rfl
    simp only [stores, Nat.zero_add, Nat.reduceAdd] at hr9
    have c9 := At.cell hr9
    have k9 : Keep (one rb) w3 ((w3.setCell ⟨rb, 0, none⟩ (.int .i64 0)).setCell ⟨rb, 1, none⟩ (.slice A3 (M1 x.key).length c3)) := Keep.set1 (Keep.set1 (Keep.refl _ _) _) _
    have hfin := hend.out w3 _ (.slice A3 (M1 x.key).length c3) _ (Keep.refl _ _) k9 (by unfold shownP; rw [if_neg h4]) ⟨A3, _, c3, rfl, hsl3.keep k9 (fun a ha e => by have := hA3 a ha; unfold one at e; omega), fun a ha => by have := hA3 a ha; omega⟩
    clear hend hr9 k9 hsl3 hrb3 hxb3 o3 own3
    go_wp2_with fail
    exact bodyPost_ret (v := .tuple #[.agg #[.int .i64 0, .slice A3 (M1 x.key).length c3], .slice Ao O.length co]) (by simp [results, Tryz.results34, go_sem, c9]) rfl hfin
end Go.Proofs.YtmioichjhiengaaGreat

/-
  A model: its config, its group, its log, its watermark; whether it is closed.
-/
namespace Go.Proofs.YtmioichjhiengaaGreat
open Go.RowKit

/-- The blocks of a model that are not its group's. -/
def mdlX (mb lp : Nat) (lv : Value) : Nat → Prop := fun q => q = mb ∨ q = lp ∨ lv.ownBlock = some q
structure MdlAt (w : World) (b mb gp mp tp lp N Q : Nat) (c : Config) (vq lv : Value) (M : KM) (T : List Timer) (L : List Pane) (mark : Int) (closed : Bool) (Y : Nat → Prop) : Prop where
  self : At w mb #[.int .i64 c.kind, .int .i64 c.size, .int .i64 c.slide, .int .i64 c.gap, .int .i64 c.late, .int .i64 c.shards, .int .i64 c.groups, .int .i64 c.cap, .pointer (some ⟨gp, 0, none⟩), .pointer (some ⟨lp, 0, none⟩), .int .i64 mark, .bool closed] 119
  grp : GrpAt w gp mp tp N Q c vq (fun q => mdlX mb lp lv q ∨ Y q) M T
  log : IsLog w b lp lv L
  nF : ∀ q, mdlX mb lp lv q ∨ Y q → ¬ grpF mp tp vq q ∧ q ≠ gp
  ne : mb ≠ lp ∧ lv.ownBlock ≠ some mb
  lowF : ∀ q, grpF mp tp vq q → b ≤ q
  low : b ≤ mb ∧ b ≤ lp
  mk64 : I64 mark
  dis : ∀ q, Y q → ¬ mdlX mb lp lv q
theorem MdlAt.none {w w' : World} {b mb gp mp tp lp N Q : Nat} {c : Config} {vq lv : Value} {M : KM} {T : List Timer} {L : List Pane} {mark : Int} {closed : Bool} {Y : Nat → Prop} (h : MdlAt w b mb gp mp tp lp N Q c vq lv M T L mark closed Y) (k : Keep none_ w w') : MdlAt w' b mb gp mp tp lp N Q c vq lv M T L mark closed Y :=
  ⟨Keep.at k h.self (fun e => e), h.grp.none k, h.log.keep k (fun e => e) (fun _ _ e => e), h.nF, h.ne, h.lowF, h.low, h.mk64, h.dis⟩
/-- All blocks of a model. -/
def mdlF (mb mp tp lp : Nat) (vq lv : Value) : Nat → Prop := fun q => grpF mp tp vq q ∨ mdlX mb lp lv q
theorem MdlAt.lt {w : World} {b mb gp mp tp lp N Q : Nat} {c : Config} {vq lv : Value} {M : KM} {T : List Timer} {L : List Pane} {mark : Int} {closed : Bool} {Y : Nat → Prop} (h : MdlAt w b mb gp mp tp lp N Q c vq lv M T L mark closed Y) : ∀ q, mdlF mb mp tp lp vq lv q → b ≤ q ∧ q < w.heap.size := by
  intro q hq
  rcases hq with hq | hq
  · exact ⟨h.lowF q hq, h.grp.F_lt q hq⟩
  · refine ⟨?_, h.grp.xl q (.inl hq)⟩
    rcases hq with rfl | rfl | hq
    · exact h.low.1
    · exact h.low.2
    · exact (h.log.own.lt q hq).1
/-- Blocks of others change. -/
theorem MdlAt.turn {S Y' : Nat → Prop} {w w' : World} {b mb gp mp tp lp N Q : Nat} {c : Config} {vq lv : Value} {M : KM} {T : List Timer} {L : List Pane} {mark : Int} {closed : Bool} {Y : Nat → Prop} (h : MdlAt w b mb gp mp tp lp N Q c vq lv M T L mark closed Y) (k : Keep S w w') (hS : ∀ q, q < w.heap.size → S q → Y q) (hY : ∀ q, q < w.heap.size → Y' q → Y q) (hl : ∀ q, Y' q → q < w'.heap.size) : MdlAt w' b mb gp mp tp lp N Q c vq lv M T L mark closed Y' := by
  have hF := h.grp.F_lt
  have hgl := h.grp.self.lt
  have hX : ∀ q, mdlX mb lp lv q → q < w.heap.size ∧ ¬ S q := fun q e => by
    have h1 := h.grp.xl q (.inl e)
    exact ⟨h1, fun e2 => h.dis q (hS q h1 e2) e⟩
  refine ⟨Keep.at k h.self (hX mb (.inl rfl)).2, h.grp.turn k (fun q hq e => .inr (hS q hq e)) (fun q e e2 => ?_) (fun e => ?_) (fun q hq e => e.imp id (hY q hq)) (fun q e => ?_), h.log.keep k (hX lp (.inr (.inl rfl))).2 (fun q e => (hX q (.inr (.inr e))).2), fun q e => ?_, h.ne, h.lowF, h.low, h.mk64, fun q e e2 => ?_⟩
  · exact (h.nF q (.inr (hS q (hF q e2) e))).1 e2
  · exact (h.nF gp (.inr (hS gp hgl e))).2 rfl
  · rcases e with e | e
    · exact Nat.lt_of_lt_of_le (hX q e).1 k.size
    · exact hl q e
  · rcases e with e | e
    · exact h.nF q (.inl e)
    · by_cases hq : q < w.heap.size
      · exact h.nF q (.inr (hY q hq e))
      · exact ⟨fun e2 => hq (hF q e2), fun e2 => hq (by rw [e2]; exact hgl)⟩
  · exact h.dis q (hY q (hX q e2).1 e) e2
theorem model_mark {w : World} {b mb gp mp tp lp N Q : Nat} {c : Config} {vq lv : Value} {M : KM} {T : List Timer} {L : List Pane} {mark : Int} {closed : Bool} {Y : Nat → Prop} (h : MdlAt w b mb gp mp tp lp N Q c vq lv M T L mark closed Y) :
    Calls Tryz.prog 30 #[.pointer (some ⟨mb, 0, none⟩)] w fun e w' => e = .returned (.int .i64 mark) ∧ w = w' := by
  have c10 : w.cell? ⟨mb, 10, none⟩ = some (.int .i64 mark) := At.cell h.self 10
  clear h
  go_enter Tryz.func30, Tryz.ntmps30
  go_wp2_with fail
  go_ret
  exact ⟨rfl, rfl⟩
theorem model_out {w : World} {b mb gp mp tp lp N Q : Nat} {c : Config} {vq lv : Value} {M : KM} {T : List Timer} {L : List Pane} {mark : Int} {closed : Bool} {Y : Nat → Prop} (h : MdlAt w b mb gp mp tp lp N Q c vq lv M T L mark closed Y) (hL : L.length ≤ 800000) :
    Calls Tryz.prog 29 #[.pointer (some ⟨mb, 0, none⟩)] w (Cloned w L) := by
  have c9 : w.cell? ⟨mb, 9, none⟩ = some (.pointer (some ⟨lp, 0, none⟩)) := At.cell h.self 9
  have ca := Lib.hid (log_all h.log hL)
  clear h
  go_enter Tryz.func29, Tryz.ntmps29
  go_wp2_with fail
  refine ca.out.mono ?_
  rintro e w1 ⟨v, rfl, o1, k1⟩
  obtain ⟨A1, d1, rfl⟩ := own_form o1
  go_wp2_with fail
  go_ret
  exact ⟨_, rfl, o1, k1⟩
theorem model_panes {w : World} {b mb gp mp tp lp N Q : Nat} {c : Config} {vq lv : Value} {M : KM} {T : List Timer} {L : List Pane} {mark : Int} {closed : Bool} {Y : Nat → Prop} (h : MdlAt w b mb gp mp tp lp N Q c vq lv M T L mark closed Y) (hN : N ≤ 800000) (key : ByteArray) (hk : key.size ≤ maxLen) :
    Calls Tryz.prog 31 #[.pointer (some ⟨mb, 0, none⟩), .string key] w (Cloned w (M key)) := by
  have c8 : w.cell? ⟨mb, 8, none⟩ = some (.pointer (some ⟨gp, 0, none⟩)) := At.cell h.self 8
  have ca := Lib.hid (group_panes h.grp.self rfl h.grp.map key hk (by have := h.grp.inv.len key; omega))
  clear h
  go_enter Tryz.func31, Tryz.ntmps31
  go_wp2_with fail
  refine ca.out.mono ?_
  rintro e w1 ⟨v, rfl, o1, k1⟩
  obtain ⟨A1, d1, rfl⟩ := own_form o1
  go_wp2_with fail
  go_ret
  exact ⟨_, rfl, o1, k1⟩
/-- A new model. -/
def MdlBorn (c : Config) (w : World) (e : Ending) (w' : World) : Prop :=
  ∃ mb gp mp tp lp, e = .returned (.tuple #[.pointer (some ⟨mb, 0, none⟩), .nilIface]) ∧ MdlAt w' w.heap.size mb gp mp tp lp 0 0 c (.slice none 0 0) (.slice none 0 0) (fun _ => []) [] [] (-9223372036854775808) false none_ ∧ Keep none_ w w'
theorem model_new_no (w : World) (c : Config) (hc : c.ok) (h : c.mayB = false) : Calls Tryz.prog 23 #[.agg c.cells.toArray] w fun e w' => e = .returned (.tuple #[.pointer none, errV 2]) ∧ Keep none_ w w' := by
  have cno := fun W => group_new_no W c hc h
  have k0 : Keep none_ w (w.alloc (.cells c.cells.toArray 23)) := (by repeat' (first | assumption | with_reducible exact Keep.refl _ _ | with_reducible refine Keep.alloc ?_ _ | with_reducible refine Keep.drew ?_))
  simp only [Config.cells] at cno k0 ⊢
  replace cno := Lib.hid cno
  clear h
  go_enter Tryz.func23, Tryz.ntmps23
  go_wp2_with fail
  refine (cno.out _).mono ?_
  rintro e w1 ⟨rfl, k1⟩
  go_wp2_with fail
  go_ret2
  exact ⟨rfl, k0.trans k1⟩
theorem mdl_made {w1 wd : World} {b gp mp tp : Nat} {c : Config} (hg : GrpAt w1 gp mp tp 0 0 c (.slice none 0 0) none_ (fun _ => []) []) (kd : Keep none_ w1 wd) (hb : b ≤ w1.heap.size) (hm : b ≤ mp) (ht : b ≤ tp) (n : Nat) (hn : n = wd.heap.size + 1) :
    MdlAt ((wd.alloc (.cells #[.slice none 0 0] 161)).alloc (.cells #[.int .i64 c.kind, .int .i64 c.size, .int .i64 c.slide, .int .i64 c.gap, .int .i64 c.late, .int .i64 c.shards, .int .i64 c.groups, .int .i64 c.cap, .pointer (some ⟨gp, 0, none⟩), .pointer (some ⟨wd.heap.size, 0, none⟩), .int .i64 (-9223372036854775808), .bool false] 119))
      b n gp mp tp wd.heap.size 0 0 c (.slice none 0 0) (.slice none 0 0) (fun _ => []) [] [] (-9223372036854775808) false none_ := by
  subst hn
  have hs := kd.size
  have kz : Keep none_ w1 ((wd.alloc (.cells #[.slice none 0 0] 161)).alloc (.cells #[.int .i64 c.kind, .int .i64 c.size, .int .i64 c.slide, .int .i64 c.gap, .int .i64 c.late, .int .i64 c.shards, .int .i64 c.groups, .int .i64 c.cap, .pointer (some ⟨gp, 0, none⟩), .pointer (some ⟨wd.heap.size, 0, none⟩), .int .i64 (-9223372036854775808), .bool false] 119)) := Keep.alloc (Keep.alloc kd _) _
  have hF := hg.F_lt
  have hgl := hg.self.lt
  have hX : ∀ q, mdlX (wd.heap.size + 1) wd.heap.size (.slice none 0 0) q → q = wd.heap.size + 1 ∨ q = wd.heap.size := fun q e => by
    rcases e with e | e | e
    · exact .inl e
    · exact .inr e
    · simp [Value.ownBlock] at e
  have hX2 : ∀ q, mdlX (wd.heap.size + 1) wd.heap.size (.slice none 0 0) q ∨ none_ q → q = wd.heap.size + 1 ∨ q = wd.heap.size := fun q e => e.elim (hX q) (fun e => e.elim)
  refine ⟨At.newAt (by simp) _ _, hg.turn kz (fun q _ e => e.elim) (fun q e => e.elim) (fun e => e) (fun q hq e => by have := hX2 q e; omega) (fun q e => by have := hX2 q e; simp; omega), ⟨At.alloc (At.new wd _ _) _, rfl, .inl ⟨rfl, rfl⟩⟩, fun q e => ?_, ⟨by omega, by simp [Value.ownBlock]⟩, fun q e => ?_, ⟨by omega, by omega⟩, by unfold I64; omega, fun q e => e.elim⟩
  · have h1 := hX2 q e
    exact ⟨fun e2 => by have := hF q e2; omega, by omega⟩
  · rcases e with e | e | e
    · omega
    · omega
    · simp [Value.ownBlock] at e
set_option maxHeartbeats 2000000 in
theorem model_new (w : World) (c : Config) (hc : c.ok) (h : c.mayB = true) : Calls Tryz.prog 23 #[.agg c.cells.toArray] w (MdlBorn c w) := by
  have cyes := fun W => group_born W c hc h
  have k0 : Keep none_ w (w.alloc (.cells c.cells.toArray 23)) := (by repeat' (first | assumption | with_reducible exact Keep.refl _ _ | with_reducible refine Keep.alloc ?_ _ | with_reducible refine Keep.drew ?_))
  have hx := At.new w c.cells.toArray 23
  simp only [Config.cells] at cyes k0 hx ⊢
  replace cyes := Lib.hid cyes
  clear h
  go_enter Tryz.func23, Tryz.ntmps23
  go_wp2_with fail
  generalize w.alloc _ = w0 at *
  refine (cyes.out _).mono ?_
  rintro e w1 ⟨gp, mp, tp, rfl, hg, k1, lg, lm, lt⟩
  have hx1 := Keep.at k1 hx (fun e => e)
  have q := At.cell hx1
  have q0 : w1.cell? ⟨w.heap.size, 0, none⟩ = some (.int .i64 c.kind) := q 0
  have q1 : w1.cell? ⟨w.heap.size, 1, none⟩ = some (.int .i64 c.size) := q 1
  have q2 : w1.cell? ⟨w.heap.size, 2, none⟩ = some (.int .i64 c.slide) := q 2
  have q3 : w1.cell? ⟨w.heap.size, 3, none⟩ = some (.int .i64 c.gap) := q 3
  have q4 : w1.cell? ⟨w.heap.size, 4, none⟩ = some (.int .i64 c.late) := q 4
  have q5 : w1.cell? ⟨w.heap.size, 5, none⟩ = some (.int .i64 c.shards) := q 5
  have q6 : w1.cell? ⟨w.heap.size, 6, none⟩ = some (.int .i64 c.groups) := q 6
  have q7 : w1.cell? ⟨w.heap.size, 7, none⟩ = some (.int .i64 c.cap) := q 7
  have hxl := hx1.lt
  have hs0 := k0.size
  have hs1 := k1.size
  have hgl := (hg none_ (fun _ e => e.elim)).self.lt
  have hF := (hg none_ (fun _ e => e.elim)).F_lt
  have hgn := hg none_ (fun _ e => e.elim)
  clear q cyes hx hg
  go_wp2_with fail
  go_region_law (first
    | (go_simp; go_at_call 60; refine (log_new _).mono ?_; rintro e w9 ⟨rfl, rfl⟩)
    | fail)
  all_goals
    go_wp2_with fail
    go_ret2
    refine ⟨_, gp, mp, tp, _, rfl, mdl_made hgn (Keep.drew (Keep.refl _ _)) (by omega) (by omega) (by omega) _ (by simp), Keep.alloc (Keep.alloc (Keep.drew (k0.trans k1)) _) _⟩
end Go.Proofs.YtmioichjhiengaaGreat

/-
  A model within a call: what changes, step by step (plain).
-/
namespace Go.Proofs.YtmioichjhiengaaGreat
open Go.RowKit

/-- A model within a call that has a block rb of its own, and began at ws. -/
structure MdlR (ws : World) (vq0 lv0 : Value) (w : World) (b mb gp mp tp lp rb N Q : Nat) (c : Config) (vq lv : Value) (M : KM) (T : List Timer) (L : List Pane) (mark : Int) (closed : Bool) (Y : Nat → Prop) : Prop where
  self : At w mb #[.int .i64 c.kind, .int .i64 c.size, .int .i64 c.slide, .int .i64 c.gap, .int .i64 c.late, .int .i64 c.shards, .int .i64 c.groups, .int .i64 c.cap, .pointer (some ⟨gp, 0, none⟩), .pointer (some ⟨lp, 0, none⟩), .int .i64 mark, .bool closed] 119
  grp : GrpAt w gp mp tp N Q c vq (fun q => (mdlX mb lp lv q ∨ Y q) ∨ q = rb) M T
  log : IsLog w b lp lv L
  nF : ∀ q, (mdlX mb lp lv q ∨ Y q) ∨ q = rb → ¬ grpF mp tp vq q ∧ q ≠ gp
  ne : mb ≠ lp ∧ lv.ownBlock ≠ some mb ∧ rb ≠ mb ∧ rb ≠ lp ∧ lv.ownBlock ≠ some rb
  lowF : ∀ q, grpF mp tp vq q → b ≤ q
  low : b ≤ mb ∧ b ≤ lp
  mk64 : I64 mark
  kp : Keep (mdlF mb mp tp lp vq0 lv0) ws w
  ow : ∀ q, q < ws.heap.size → mdlF mb mp tp lp vq lv q → mdlF mb mp tp lp vq0 lv0 q
  rbs : ws.heap.size ≤ rb ∧ rb < w.heap.size
  bws : b ≤ ws.heap.size
  dis : ∀ q, Y q → ¬ mdlX mb lp lv q ∧ q ≠ rb
section
variable {ws w w' : World} {vq0 lv0 : Value} {b mb gp mp tp lp rb N Q : Nat} {c : Config} {vq lv : Value} {M : KM} {T : List Timer} {L : List Pane} {mark : Int} {closed : Bool} {Y : Nat → Prop}
theorem MdlAt.toR (h : MdlAt w b mb gp mp tp lp N Q c vq lv M T L mark closed Y) (hb : b ≤ w.heap.size) (k : Keep none_ w w') (h1 : w.heap.size ≤ rb) (h2 : rb < w'.heap.size) : MdlR w vq lv w' b mb gp mp tp lp rb N Q c vq lv M T L mark closed Y := by
  have hlt := h.lt
  have hg := h.grp.self.lt
  have hmb := (hlt mb (.inr (.inl rfl))).2
  have hlp := (hlt lp (.inr (.inr (.inl rfl)))).2
  refine ⟨Keep.at k h.self (fun e => e), h.grp.own k h1 h2, h.log.keep k (fun e => e) (fun _ _ e => e), fun q e => ?_, ⟨h.ne.1, h.ne.2, by omega, by omega, fun e => ?_⟩, h.lowF, h.low, h.mk64, Keep.of_none k, fun q _ e => e, ⟨h1, h2⟩, hb, fun q e => ⟨h.dis q e, fun e2 => by have := h.grp.xl q (.inr e); omega⟩⟩
  · rcases e with e | rfl
    · exact h.nF q e
    · exact ⟨fun e => by have := (hlt _ (.inl e)).2; omega, by omega⟩
  · have := (hlt rb (.inr (.inr (.inr e)))).2; omega
theorem MdlR.still (h : MdlR ws vq0 lv0 w b mb gp mp tp lp rb N Q c vq lv M T L mark closed Y) (k : Keep none_ w w') : MdlR ws vq0 lv0 w' b mb gp mp tp lp rb N Q c vq lv M T L mark closed Y :=
  ⟨Keep.at k h.self (fun e => e), h.grp.none k, h.log.keep k (fun e => e) (fun _ _ e => e), h.nF, h.ne, h.lowF, h.low, h.mk64, h.kp.trans (Keep.of_none k), h.ow, ⟨h.rbs.1, Nat.lt_of_lt_of_le h.rbs.2 k.size⟩, h.bws, h.dis⟩
theorem MdlR.lt (h : MdlR ws vq0 lv0 w b mb gp mp tp lp rb N Q c vq lv M T L mark closed Y) : ∀ q, mdlF mb mp tp lp vq lv q → b ≤ q ∧ q < w.heap.size := by
  intro q hq
  rcases hq with hq | hq
  · exact ⟨h.lowF q hq, h.grp.F_lt q hq⟩
  · refine ⟨?_, h.grp.xl q (.inl (.inl hq))⟩
    rcases hq with rfl | rfl | hq
    · exact h.low.1
    · exact h.low.2
    · exact (h.log.own.lt q hq).1
/-- One of the model's own cells is written. -/
theorem MdlR.write (h : MdlR ws vq0 lv0 w b mb gp mp tp lp rb N Q c vq lv M T L mark closed Y) (k : Keep (one mb) w w') (mark' : Int) (closed' : Bool) (hmk : I64 mark')
    (hs : At w' mb #[.int .i64 c.kind, .int .i64 c.size, .int .i64 c.slide, .int .i64 c.gap, .int .i64 c.late, .int .i64 c.shards, .int .i64 c.groups, .int .i64 c.cap, .pointer (some ⟨gp, 0, none⟩), .pointer (some ⟨lp, 0, none⟩), .int .i64 mark', .bool closed'] 119) :
    MdlR ws vq0 lv0 w' b mb gp mp tp lp rb N Q c vq lv M T L mark' closed' Y := by
  have hn := h.nF mb (.inl (.inl (.inl rfl)))
  refine ⟨hs, h.grp.turn k (fun q _ e => .inl (.inl (.inl e))) (fun q e => by unfold one at e; rw [e]; exact hn.1) (fun e => hn.2 e.symm) (fun q _ e => e) (fun q e => Nat.lt_of_lt_of_le (h.grp.xl q e) k.size), h.log.keep k (fun e => h.ne.1 e.symm) (fun q hq e => by unfold one at e; rw [e] at hq; exact h.ne.2.1 hq), h.nF, h.ne, h.lowF, h.low, hmk, ?_, h.ow, ⟨h.rbs.1, Nat.lt_of_lt_of_le h.rbs.2 k.size⟩, h.bws, h.dis⟩
  exact Keep.comb h.kp k (fun q hq e => h.ow q hq (.inr (.inl e)))
/-- The group changes. -/
theorem MdlR.step {N' Q' : Nat} {M2 : KM} (h : MdlR ws vq0 lv0 w b mb gp mp tp lp rb N Q c vq lv M T L mark closed Y) (hn : GrpNext w gp mp tp N' Q' c vq (fun q => (mdlX mb lp lv q ∨ Y q) ∨ q = rb) M2 w') : ∃ vq2 T2, MdlR ws vq0 lv0 w' b mb gp mp tp lp rb N' Q' c vq2 lv M2 T2 L mark closed Y := by
  obtain ⟨vq2, T2, hg, k, so⟩ := hn
  have hsub : ∀ q, q < w.heap.size → grpF mp tp vq2 q → grpF mp tp vq q := fun q hq e => by
    rcases e with e | e
    · exact .inl e
    · exact .inr (so.set q hq e)
  have hxl := h.grp.xl
  have hgl := h.grp.self.lt
  have hws := h.kp.size
  refine ⟨vq2, T2, ⟨Keep.at k h.self (h.nF mb (.inl (.inl (.inl rfl)))).1, hg, h.log.keep k (h.nF lp (.inl (.inl (.inr (.inl rfl))))).1 (fun q hq e => (h.nF q (.inl (.inl (.inr (.inr hq))))).1 e), fun q e => ⟨fun e2 => (h.nF q e).1 (hsub q (hxl q e) e2), (h.nF q e).2⟩, h.ne, fun q e => ?_, h.low, h.mk64, ?_, fun q hq e => ?_, ⟨h.rbs.1, Nat.lt_of_lt_of_le h.rbs.2 k.size⟩, h.bws, h.dis⟩⟩
  · by_cases hq : q < w.heap.size
    · exact h.lowF q (hsub q hq e)
    · have := h.bws; omega
  · exact Keep.comb h.kp k (fun q hq e => h.ow q hq (.inl e))
  · rcases e with e | e
    · exact h.ow q hq (.inl (hsub q (by omega) e))
    · exact h.ow q hq (.inr e)
/-- The log grows. -/
theorem MdlR.put {lv2 : Value} {L2 : List Pane} (h : MdlR ws vq0 lv0 w b mb gp mp tp lp rb N Q c vq lv M T L mark closed Y) (hl : IsLog w' b lp lv2 L2) (k : Keep (logS lp lv) w w') (ho : lv2.ownBlock = lv.ownBlock ∨ lv2.ownBlock = some w.heap.size) : MdlR ws vq0 lv0 w' b mb gp mp tp lp rb N Q c vq lv2 M T L2 mark closed Y := by
  have hgl := h.grp.self.lt
  have hF := h.grp.F_lt
  have hs := k.size
  have hmb := (h.lt mb (.inr (.inl rfl))).2
  have hrb := h.rbs
  have hws := h.kp.size
  have hS : ∀ q, logS lp lv q → mdlX mb lp lv q := fun q e => .inr e
  have hX : ∀ q, q < w.heap.size → mdlX mb lp lv2 q → mdlX mb lp lv q := fun q hq e => by
    rcases e with e | e | e
    · exact .inl e
    · exact .inr (.inl e)
    · rcases ho with h9 | h9
      · rw [h9] at e; exact .inr (.inr e)
      · rw [h9] at e
        have : w.heap.size = q := by simpa using e
        omega
  have hl2 : ∀ q, lv2.ownBlock = some q → q < w'.heap.size := fun q e => (hl.own.lt q e).2
  refine ⟨Keep.at k h.self (fun e => ?_), h.grp.turn k (fun q _ e => .inl (.inl (hS q e))) (fun q e => (h.nF q (.inl (.inl (hS q e)))).1) (fun e => (h.nF gp (.inl (.inl (hS gp e)))).2 rfl) (fun q hq e => e.imp (fun e => e.imp (hX q hq) id) id) (fun q e => ?_), hl, fun q e => ?_, ⟨h.ne.1, fun e => ?_, h.ne.2.2.1, h.ne.2.2.2.1, fun e => ?_⟩, h.lowF, h.low, h.mk64, ?_, fun q hq e => ?_, ⟨hrb.1, by omega⟩, h.bws, fun q e => ⟨fun e2 => (h.dis q e).1 (hX q (h.grp.xl q (.inl (.inr e))) e2), (h.dis q e).2⟩⟩
  · rcases e with e | e
    · exact h.ne.1 e
    · exact h.ne.2.1 e
  · rcases e with ((e | e | e) | e) | e
    · omega
    · have := h.log.at_.lt; omega
    · exact hl2 q e
    · have := h.grp.xl q (.inl (.inr e)); omega
    · omega
  · by_cases hq : q < w.heap.size
    · exact h.nF q (e.imp (fun e => e.imp (hX q hq) id) id)
    · exact ⟨fun e2 => by have := hF q e2; omega, by omega⟩
  · rcases ho with h9 | h9
    · rw [h9] at e; exact h.ne.2.1 e
    · rw [h9] at e
      have : w.heap.size = mb := by simpa using e
      omega
  · rcases ho with h9 | h9
    · rw [h9] at e; exact h.ne.2.2.2.2 e
    · rw [h9] at e
      have : w.heap.size = rb := by simpa using e
      omega
  · exact Keep.comb h.kp k (fun q hq e => h.ow q hq (.inr (hS q e)))
  · rcases e with e | e
    · exact h.ow q hq (.inl e)
    · exact h.ow q hq (.inr (hX q (by omega) e))
/-- The call's own block is written, and it ends. -/
theorem MdlR.done (h : MdlR ws vq0 lv0 w b mb gp mp tp lp rb N Q c vq lv M T L mark closed Y) (k : Keep (one rb) w w') : MdlAt w' b mb gp mp tp lp N Q c vq lv M T L mark closed Y ∧ Keep (mdlF mb mp tp lp vq0 lv0) ws w' := by
  have hn := h.nF rb (.inr rfl)
  have hrb := h.rbs
  refine ⟨⟨Keep.at k h.self (fun e => h.ne.2.2.1 e.symm), h.grp.turn k (fun q _ e => .inr e) (fun q e => by unfold one at e; rw [e]; exact hn.1) (fun e => hn.2 e.symm) (fun q _ e => .inl e) (fun q e => Nat.lt_of_lt_of_le (h.grp.xl q (.inl e)) k.size), h.log.keep k (fun e => h.ne.2.2.2.1 e.symm) (fun q hq e => by unfold one at e; rw [e] at hq; exact h.ne.2.2.2.2 hq), fun q e => h.nF q (.inl e), ⟨h.ne.1, h.ne.2.1⟩, h.lowF, h.low, h.mk64, fun q e => (h.dis q e).1⟩, ?_⟩
  exact Keep.comb h.kp k (fun q hq e => by unfold one at e; omega)
/-- As many panes go out as there are timers, at most. -/
theorem steps_len {late mk : Int} : ∀ {O : List Pane} {M M' : KM} {T : List Timer}, Steps late mk M O M' → GrpOK N M T → T.Nodup → O.length ≤ T.length
  | [], _, _, _, _, _, _ => Nat.zero_le _
  | p :: O, M, M', T, h, hg, hn => by
    have hm : (⟨p.key, p.span⟩ : Timer) ∈ T := (hg.rel ⟨p.key, p.span⟩ h.1.key).2 ⟨p, h.1.mem, rfl⟩
    obtain ⟨s, t, rfl⟩ := List.append_of_mem hm
    have hp : (s ++ (⟨p.key, p.span⟩ : Timer) :: t).Perm (⟨p.key, p.span⟩ :: (s ++ t)) := List.perm_middle
    have hn2 := (hp.nodup_iff).1 hn
    have := steps_len h.2 (hg.cut h.1.mem hn hp) (List.nodup_cons.1 hn2).2
    simp only [List.length_append, List.length_cons] at this ⊢
    omega
/-- What doing a call comes to. -/
def DoRel (c : Config) (x : Call) (M : KM) (mark : Int) (closed : Bool) (code : Int) (R O : List Pane) (M2 : KM) (mark2 : Int) (closed2 : Bool) : Prop :=
  (x.mayB c = false ∧ code = 6 ∧ R = [] ∧ O = [] ∧ M2 = M ∧ mark2 = mark ∧ closed2 = closed) ∨
  (x.mayB c = true ∧ closed = true ∧ code = 3 ∧ R = [] ∧ O = [] ∧ M2 = M ∧ mark2 = mark ∧ closed2 = closed) ∨
  (x.mayB c = true ∧ closed = false ∧ x.op = 3 ∧ x.time ≤ mark ∧ code = 5 ∧ R = [] ∧ O = [] ∧ M2 = M ∧ mark2 = mark ∧ closed2 = closed) ∨
  (x.mayB c = true ∧ closed = false ∧ x.keyedB = true ∧ mark2 = mark ∧ closed2 = closed ∧ ∃ M1, Steps c.late mark M O M1 ∧ Calm c.late mark M1 ∧
    (((x.op = 1 ∨ x.op = 2) ∧ R = [] ∧ ((ofL c x.time = none ∧ code = 4 ∧ M2 = M1) ∨ ∃ l, ofL c x.time = some l ∧ code = codeG c.late mark l ∧ M2 = takeM c.kind c.late mark x.key x.value l M1)) ∨
      (¬ (x.op = 1 ∨ x.op = 2) ∧ code = 0 ∧ M2 = M1 ∧ R = shownP x (M1 x.key)))) ∨
  (x.mayB c = true ∧ closed = false ∧ x.op = 3 ∧ mark < x.time ∧ code = 0 ∧ R = [] ∧ mark2 = x.time ∧ closed2 = closed ∧ Steps c.late x.time M O M2 ∧ Calm c.late x.time M2) ∨
  (x.mayB c = true ∧ closed = false ∧ x.op ≠ 3 ∧ x.keyedB = false ∧ code = 0 ∧ R = [] ∧ O = [] ∧ M2 = M ∧ mark2 = mark ∧ closed2 = decide (x.op = 7))
def Did (w : World) (b mb gp mp tp lp N Q : Nat) (c : Config) (vq lv : Value) (M : KM) (L : List Pane) (mark : Int) (closed : Bool) (Y : Nat → Prop) (x : Call) (e : Ending) (w' : World) : Prop :=
  ∃ code pv R O M2 vq2 lv2 T2 mark2 closed2, e = .returned (.agg #[.int .i64 code, pv]) ∧ RepAt w w' pv R ∧ DoRel c x M mark closed code R O M2 mark2 closed2 ∧
    MdlAt w' b mb gp mp tp lp (N + 16) (Q + N + 16) c vq2 lv2 M2 T2 (L ++ O) mark2 closed2 Y ∧ Keep (mdlF mb mp tp lp vq lv) w w' ∧ ∀ q, q < w.heap.size → mdlF mb mp tp lp vq2 lv2 q → mdlF mb mp tp lp vq lv q
theorem MdlAt.up {N' Q' : Nat} (h : MdlAt w b mb gp mp tp lp N Q c vq lv M T L mark closed Y) (hN : N ≤ N') (hQ : Q ≤ Q') : MdlAt w b mb gp mp tp lp N' Q' c vq lv M T L mark closed Y :=
  ⟨h.self, h.grp.up hN hQ, h.log, h.nF, h.ne, h.lowF, h.low, h.mk64, h.dis⟩
end
end Go.Proofs.YtmioichjhiengaaGreat
