/-
  The reference's Model.Do.
-/
import Derived.Test.YtmioichjhiengaaGreatBaseBoth
set_option linter.unusedSimpArgs false
set_option linter.unusedVariables false
namespace Go.Proofs.YtmioichjhiengaaGreat
open Go.RowKit

/-- A model within a call that began at ws, with a block rb of the call's own. -/
structure RMR (ws : World) (ov0 : Value) (A0 : Option Addr) (w : World) (b rm p n : Nat) (c : Config) (A : Option Addr) (d : Nat) (L : List Pane) (ov : Value) (O : List Pane) (M : KM) (mark : Int) (closed : Bool) : Prop where
  mdl : RMAt w b rm p n c A d L ov O M mark closed
  keep : Keep (rmF rm p ov0) ws w
  ow : ∀ q, q < ws.heap.size → rmF rm p ov q → rmF rm p ov0 q
  oA : ∀ a, A = some a → A0 = some a ∨ ws.heap.size ≤ a.block
theorem RMR.still {ws w w' : World} {ov0 : Value} {A0 : Option Addr} {b rm p n : Nat} {c : Config} {A : Option Addr} {d : Nat} {L : List Pane} {ov : Value} {O : List Pane} {M : KM} {mark : Int} {closed : Bool} (h : RMR ws ov0 A0 w b rm p n c A d L ov O M mark closed) (k : Keep none_ w w') : RMR ws ov0 A0 w' b rm p n c A d L ov O M mark closed :=
  ⟨h.mdl.still k, h.keep.trans (Keep.of_none k), h.ow, h.oA⟩
theorem RelL.steps_len {late mark : Int} : ∀ {O L : List Pane} {M M' : KM}, RelL L M → KMOK M → Steps late mark M O M' → O.length ≤ L.length
  | [], _, _, _, _, _, _ => Nat.zero_le _
  | p :: O, L, M, M', h, hk, hs => by
    obtain ⟨i, hi, rfl⟩ := List.getElem_of_mem ((h.mem p).2 hs.1.mem)
    have h1 := RelL.steps_len (h.out hk hi) (hk.cut hs.1.mem) hs.2
    have h2 := (delL_perm hi).length_eq
    simp only [List.length_cons] at h2 ⊢
    omega
theorem rm_end {ws w w' : World} {b rm p n n' rb : Nat} {c : Config} {A A2 : Option Addr} {d2 : Nat} {L2 : List Pane} {ov ov2 : Value} {O O1 R : List Pane} {M M2 : KM} {mark mark2 code : Int} {closed closed2 : Bool} {x : Call} {pA : Option Addr} {pn pd : Nat}
    (h : RMR ws ov A w b rm p n' c A2 d2 L2 ov2 (O ++ O1) M2 mark2 closed2) (hn : n' ≤ n + 16) (hrb : ws.heap.size ≤ rb ∧ ¬ rmF rm p ov2 rb ∧ ∀ a, A2 = some a → a.block ≠ rb) (k : Keep (one rb) w w') (hsl : Sl Pane.cells 7 w' pA pn pd R) (hd : DoRel c x M mark closed code R O1 M2 mark2 closed2) (hpa : 0 < pn → ∀ a, pA = some a → ws.heap.size ≤ a.block ∧ ¬ rmF rm p ov2 a.block) :
    RMDid ws b rm p n c A ov O M mark closed x (.returned (.agg #[.int .i64 code, .slice pA pn pd])) w' :=
  ⟨code, pA, pn, pd, R, O1, M2, ov2, A2, d2, L2, mark2, closed2, rfl, hsl, hd, (h.mdl.away k (fun q e e2 => by unfold one at e2; rw [e2] at e; exact hrb.2.1 e) (fun a ha e => hrb.2.2 a ha e)).up hn,
    Keep.comb h.keep k (fun q hq e => by unfold one at e; have := hrb.1; omega), h.ow, h.oA, hpa⟩
section
variable {ws w w' : World} {ov0 : Value} {A0 : Option Addr} {b rm p n : Nat} {c : Config} {A : Option Addr} {d : Nat} {L : List Pane} {ov : Value} {O : List Pane} {M : KM} {mark : Int} {closed : Bool}
theorem RMR.put {ov2 : Value} {O2 : List Pane} (h : RMR ws ov0 A0 w b rm p n c A d L ov O M mark closed) (k : Keep (own_of ov) w w') (own : PRow w' b ov2 O2) (ho : ov2.ownBlock = ov.ownBlock ∨ ∃ g, ov2.ownBlock = some g ∧ w.heap.size ≤ g) : RMR ws ov0 A0 (w'.setCell ⟨rm, 1, none⟩ ov2) b rm p n c A d L ov2 O2 M mark closed := by
  have hs := h.keep.size
  have k2 : Keep (one rm) w' (w'.setCell ⟨rm, 1, none⟩ ov2) := Keep.set1 (Keep.refl _ _) _
  refine ⟨h.mdl.put k own ho k2 (At.set (Keep.at k h.mdl.self (fun e => h.mdl.ne.2.1 e)) 1 ov2), Keep.comb (Keep.comb h.keep k (fun q hq e => h.ow q hq (.inr (.inr e)))) k2 (fun q hq e => .inl e), fun q hq e => ?_, h.oA⟩
  rcases e with e | e | e
  · exact .inl e
  · exact .inr (.inl e)
  · rcases ho with e2 | ⟨g, e2, hg⟩
    · rw [e2] at e; exact h.ow q hq (.inr (.inr e))
    · rw [e2] at e
      have : g = q := by simpa using e
      omega
theorem RMR.step {n' : Nat} {A' : Option Addr} {d' : Nat} {L' : List Pane} {M' : KM} (h : RMR ws ov0 A0 w b rm p n c A d L ov O M mark closed) (hb : b ≤ w.heap.size) (k : Keep (one p) w w') (hr : RGAt w' p c A' d' L') (hrel : RelL L' M') (hg : GoodM n' c.kind M') (hA : ∀ a, A' = some a → A = some a ∨ w.heap.size ≤ a.block) (hl : L'.length ≤ n') : RMR ws ov0 A0 w' b rm p n' c A' d' L' ov O M' mark closed := by
  have hs := h.keep.size
  refine ⟨h.mdl.step hb k hr hrel hg hA hl, Keep.comb h.keep k (fun q hq e => .inr (.inl e)), h.ow, fun a ha => ?_⟩
  rcases hA a ha with e | e
  · exact h.oA a e
  · exact .inr (by omega)
/-- What stands behind the region that settles. -/
def RAdvCut (w : World) (rb : Nat) (b rm p n : Nat) (c : Config) (A : Option Addr) (ov : Value) (O : List Pane) (M : KM) (mark : Int) (w' : World) : Prop :=
  ∃ ov2 O1 A2 d2 L2 M2, Steps c.late mark M O1 M2 ∧ Calm c.late mark M2 ∧ RMR w ov A w' b rm p n c A2 d2 L2 ov2 (O ++ O1) M2 mark false ∧ At w' rb #[.int .i64 0, .slice none 0 0] 57 ∧ ¬ rmF rm p ov2 rb ∧ (∀ a, A2 = some a → a.block ≠ rb)
/-- What stands behind the region that asks. -/
def RKeyCut (w : World) (p n : Nat) (c : Config) (A : Option Addr) (L : List Pane) (mark : Int) (x : Call) (M : KM) (rv vo : Value) (w' : World) : Prop :=
  ∃ rb2 code pA pn pd O1 A2 d2 L2 M1 M2 R, rv = .pointer (some ⟨rb2, 0, none⟩) ∧ w.heap.size ≤ rb2 ∧ At w' rb2 #[.int .i64 code, .slice pA pn pd] 57 ∧ PRow w' w.heap.size vo O1 ∧ AskRel c x mark M code R O1 M1 M2 ∧ Sl Pane.cells 7 w' pA pn pd R ∧ (∀ a, pA = some a → w.heap.size ≤ a.block) ∧
    RelL L2 M2 ∧ GoodM (n + 16) c.kind M2 ∧ RGAt w' p c A2 d2 L2 ∧ Keep (one p) w w' ∧ (∀ a, A2 = some a → A = some a ∨ w.heap.size ≤ a.block) ∧ L2.length ≤ L.length + 16
theorem rask_B {W w7 : World} {x : Call} {e : Ending} (k : Keep none_ w W) (hd : RAsked W p n c A L mark x M e w7) :
    ∃ code pA pn pd vo, e = .returned (.tuple #[.agg #[.int .i64 code, .slice pA pn pd], vo]) ∧ RKeyCut w p n c A L mark x M (.pointer (some ⟨w7.heap.size, 0, none⟩)) vo (w7.alloc (.cells #[.int .i64 code, .slice pA pn pd] 57)) := by
  obtain ⟨code, pA, pn, pd, vo, O1, A2, d2, L2, M1, M2, R, rfl, row, hask, hsl, hge, hrel, hgood, hat, k2, hown, hlen⟩ := hd
  have hs := k.size
  have hs2 := k2.size
  have k8 : Keep none_ w7 (w7.alloc (.cells #[.int .i64 code, .slice pA pn pd] 57)) := Keep.alloc (Keep.refl _ _) _
  exact ⟨code, pA, pn, pd, vo, rfl, _, code, pA, pn, pd, O1, A2, d2, L2, M1, M2, R, rfl, by omega, At.new _ _ _, own_lower (own_keep row k8 (fun _ _ e => e)) hs, hask, hsl.keep k8 Off.none_, fun a ha => Nat.le_trans hs (hge a ha), hrel, hgood, hat.none k8, ((Keep.of_none k).trans k2).trans (Keep.of_none k8), fun a ha => (hown a ha).imp id (fun e => Nat.le_trans hs e), hlen⟩
theorem rask_A {W w7 : World} {x : Call} {e : Ending} (hp : p < w.heap.size) (hAw : ∀ a, A = some a → a.block < w.heap.size) (k : Keep none_ w W) (hA : At W w.heap.size #[.int .i64 0, .slice none 0 0] 57) (hd : RAsked W p n c A L mark x M e w7) :
    ∃ code pA pn pd vo, e = .returned (.tuple #[.agg #[.int .i64 code, .slice pA pn pd], vo]) ∧ At w7 w.heap.size #[.int .i64 0, .slice none 0 0] 57 ∧ RKeyCut w p n c A L mark x M (.pointer (some ⟨w.heap.size, 0, none⟩)) vo ((w7.setCell ⟨w.heap.size, 0, none⟩ (.int .i64 code)).setCell ⟨w.heap.size, 1, none⟩ (.slice pA pn pd)) := by
  obtain ⟨code, pA, pn, pd, vo, O1, A2, d2, L2, M1, M2, R, rfl, row, hask, hsl, hge, hrel, hgood, hat, k2, hown, hlen⟩ := hd
  have hs := k.size
  have hlt := hA.lt
  have hs2 := k2.size
  have hA7 := Keep.at k2 hA (fun e => by unfold one at e; omega)
  have hr9 := At.whole hA7 [.int .i64 code, .slice pA pn pd] rfl
  simp only [stores, Nat.zero_add, Nat.reduceAdd] at hr9
  have k3 : Keep (one w.heap.size) w7 ((w7.setCell ⟨w.heap.size, 0, none⟩ (.int .i64 code)).setCell ⟨w.heap.size, 1, none⟩ (.slice pA pn pd)) := Keep.set1 (Keep.set1 (Keep.refl _ _) _) _
  refine ⟨code, pA, pn, pd, vo, rfl, hA7, _, code, pA, pn, pd, O1, A2, d2, L2, M1, M2, R, rfl, Nat.le_refl _, hr9, own_lower (own_keep row k3 (fun g hg e => ?_)) hs, hask, hsl.keep k3 (fun a ha e => ?_), fun a ha => Nat.le_trans hs (hge a ha), hrel, hgood, hat.keep k3 (fun e => ?_) (fun a ha e => ?_), Keep.fresh ((Keep.of_none k).trans k2) k3 (fun q hq e => ?_), fun a ha => (hown a ha).imp id (fun e => Nat.le_trans hs e), hlen⟩
  · have := (row.lt g hg).1
    unfold one at e
    omega
  · have := hge a ha
    unfold one at e
    omega
  · unfold one at e; omega
  · unfold one at e
    rcases hown a ha with e2 | e2
    · have := hAw a e2; omega
    · omega
  · unfold one at e; omega
end
set_option maxHeartbeats 8000000 in
set_option maxRecDepth 100000 in
theorem refm_do {w : World} {b rm p n : Nat} {c : Config} {A : Option Addr} {d : Nat} {L : List Pane} {ov : Value} {O : List Pane} {M : KM} {mark : Int} {closed : Bool} (h : RMAt w b rm p n c A d L ov O M mark closed) (hb : b ≤ w.heap.size) (hn : n ≤ 90000) (hO : O.length + n ≤ 800000) (hc : c.ok) (hm : c.mayB = true) (x : Call) (hx : x.ok) :
    Calls Tryz.prog 28 #[.pointer (some ⟨rm, 0, none⟩), .agg x.cells.toArray] w (RMDid w b rm p n c A ov O M mark closed x) := by
  have k0 : Keep none_ w ((w.alloc (.cells x.cells.toArray 60)).alloc (.cells #[.int .i64 0, .slice none 0 0] 57)) := (by repeat' (first | assumption | with_reducible exact Keep.refl _ _ | with_reducible refine Keep.alloc ?_ _ | with_reducible refine Keep.drew ?_))
  have hxb := At.alloc (At.new w x.cells.toArray 60) (.cells #[.int .i64 0, .slice none 0 0] 57)
  have hrb : At ((w.alloc (.cells x.cells.toArray 60)).alloc (.cells #[.int .i64 0, .slice none 0 0] 57)) (w.heap.size + 1) #[.int .i64 0, .slice none 0 0] 57 := At.newAt (by simp) _ _
  have hlt := h.lt
  have hAlt := h.ref.lt
  have R0 : RMR w ov A ((w.alloc (.cells x.cells.toArray 60)).alloc (.cells #[.int .i64 0, .slice none 0 0] 57)) b rm p n c A d L ov O M mark closed := ⟨h.still k0, Keep.of_none k0, fun q _ e => e, fun a e => .inl e⟩
  have hmk := h.mk64
  have hwin : n ≤ n + 16 := by omega
  obtain ⟨Ao, co, hov⟩ := own_form h.row
  have cmay := fun W => ref12_may W c x hc hx
  obtain ⟨mb, hmb⟩ : ∃ mb, mb = x.mayB c := ⟨_, rfl⟩
  rw [← hmb] at cmay
  obtain ⟨o3, ho3⟩ : ∃ o3, o3 = (x.op == 3) := ⟨_, rfl⟩
  obtain ⟨o7, ho7⟩ : ∃ o7, o7 = (x.op == 7) := ⟨_, rfl⟩
  have ho3' : (x.op == 3) = o3 := ho3.symm
  have ho7' : (x.op == 7) = o7 := ho7.symm
  simp only [Config.cells, Call.cells] at cmay k0 hxb hrb R0 ⊢
  replace cmay := Lib.hid cmay
  replace hmb := Lib.hid hmb
  replace ho3 := Lib.hid ho3
  replace ho7 := Lib.hid ho7
  go_enter Tryz.func28, Tryz.ntmps28
  go_wp2_with fail
  generalize (w.alloc _).alloc _ = w0 at *
  generalize hrbe : w.heap.size + 1 = rb at *
  have hrbs : w.heap.size ≤ rb ∧ ¬ rmF rm p ov rb ∧ ∀ a, A = some a → a.block ≠ rb := ⟨by omega, fun e => by have := (hlt rb e).2; omega, fun a ha => by have := hAlt a ha; omega⟩
  generalize hxbe : w.heap.size = xb at *
  have hxr : xb ≠ rb := by omega
  have hrmx : rm ≠ xb := by have := (hlt rm (.inl rfl)).2; omega
  have hrmr : rm ≠ rb := by have := (hlt rm (.inl rfl)).2; omega
  have hpx : p ≠ xb := by have := (hlt p (.inr (.inl rfl))).2; omega
  have hpr : p ≠ rb := by have := (hlt p (.inr (.inl rfl))).2; omega
  have hrbs : w.heap.size ≤ rb ∧ ¬ rmF rm p ov rb ∧ ∀ a, A = some a → a.block ≠ rb := ⟨by omega, hrbs.2⟩
  replace hrbe := Lib.hid hrbe
  replace hxbe := Lib.hid hxbe
  have hbs := hwin
  replace hrbs := Lib.hid hrbs
  clear h
  subst hov
  have cs := At.cell R0.mdl.self
  have cg := At.cell R0.mdl.ref.at_
  have cx := At.cell hxb
  obtain ⟨ι, hne9, f, hf0, hfk, hfa⟩ := class_of none_ w0
  have s0 : ∀ z, (f z).cell? ⟨rm, 0, none⟩ = some (.pointer (some ⟨p, 0, none⟩)) := fun z => At.cell (R0.still (hfk z)).mdl.self 0
  have g0 : ∀ z, (f z).cell? ⟨p, 0, none⟩ = some (.int .i64 c.kind) := fun z => At.cell (R0.still (hfk z)).mdl.ref.at_ 0
  have g1 : ∀ z, (f z).cell? ⟨p, 1, none⟩ = some (.int .i64 c.size) := fun z => At.cell (R0.still (hfk z)).mdl.ref.at_ 1
  have g2 : ∀ z, (f z).cell? ⟨p, 2, none⟩ = some (.int .i64 c.slide) := fun z => At.cell (R0.still (hfk z)).mdl.ref.at_ 2
  have g3 : ∀ z, (f z).cell? ⟨p, 3, none⟩ = some (.int .i64 c.gap) := fun z => At.cell (R0.still (hfk z)).mdl.ref.at_ 3
  have g4 : ∀ z, (f z).cell? ⟨p, 4, none⟩ = some (.int .i64 c.late) := fun z => At.cell (R0.still (hfk z)).mdl.ref.at_ 4
  have g5 : ∀ z, (f z).cell? ⟨p, 5, none⟩ = some (.int .i64 c.shards) := fun z => At.cell (R0.still (hfk z)).mdl.ref.at_ 5
  have g6 : ∀ z, (f z).cell? ⟨p, 6, none⟩ = some (.int .i64 c.groups) := fun z => At.cell (R0.still (hfk z)).mdl.ref.at_ 6
  have g7 : ∀ z, (f z).cell? ⟨p, 7, none⟩ = some (.int .i64 c.cap) := fun z => At.cell (R0.still (hfk z)).mdl.ref.at_ 7
  have xf := fun z => At.cell (Keep.at (hfk z) hxb (fun e => e))
  have x0 : ∀ z, (f z).cell? ⟨xb, 0, none⟩ = some (.int .i64 x.op) := fun z => xf z 0
  have x1 : ∀ z, (f z).cell? ⟨xb, 1, none⟩ = some (.string x.key) := fun z => xf z 1
  have x2 : ∀ z, (f z).cell? ⟨xb, 2, none⟩ = some (.int .i64 x.time) := fun z => xf z 2
  have x3 : ∀ z, (f z).cell? ⟨xb, 3, none⟩ = some (.int .i64 x.value) := fun z => xf z 3
  have x4 : ∀ z, (f z).cell? ⟨xb, 4, none⟩ = some (.int .i64 x.fin) := fun z => xf z 4
  have x5 : ∀ z, (f z).cell? ⟨xb, 5, none⟩ = some (.int .i64 x.group) := fun z => xf z 5
  have x6 : ∀ z, (f z).cell? ⟨xb, 6, none⟩ = some (.int .i64 x.shard) := fun z => xf z 6
  have lz : ∀ z, rm < (f z).heap.size ∧ p < (f z).heap.size ∧ xb < (f z).heap.size := fun z => ⟨(R0.still (hfk z)).mdl.self.lt, (R0.still (hfk z)).mdl.ref.at_.lt, (Keep.at (hfk z) hxb (fun e => e)).lt⟩
  have lz1 := fun z => (lz z).1
  have lz2 := fun z => (lz z).2.1
  have lz3 := fun z => (lz z).2.2
  clear cs cg cx xf
  refine wp_region_class f (by kernel_rfl) (by kernel_rfl) hf0 ?_
  repeat (go_big_quiet_step ((go_at_call 32; exact Calls.class_of hfa (cmay.out _))))
  refine wpQuiet_nil ?_
  rintro _ ⟨nn, rfl⟩
  have R1 := R0.still (hfk nn)
  have hxb1 := Keep.at (hfk nn) hxb (fun e => e)
  have hrb1 := Keep.at (hfk nn) hrb (fun e => e)
  clear s0 g0 g1 g2 g3 g4 g5 g6 g7 x0 x1 x2 x3 x4 x5 x6 lz lz1 lz2 lz3 hf0 hfa cmay R0 hxb hrb k0
  generalize f nn = w1 at *
  clear hfk
  cases mb
  · have hr9 := At.whole hrb1 [.int .i64 6, .slice none 0 0] rfl
    simp only [stores, Nat.zero_add, Nat.reduceAdd] at hr9
    have c9 := At.cell hr9
    have fr := At.frozen hrb1
    have cr := At.cell hrb1
    have lr := (hrb1).lt
    have k9 : Keep (one rb) w1 ((w1.setCell ⟨rb, 0, none⟩ (.int .i64 6)).setCell ⟨rb, 1, none⟩ (.slice none 0 0)) := Keep.set1 (Keep.set1 (Keep.refl _ _) _) _
    have hfin := rm_end (O1 := []) (by rw [List.append_nil]; exact R1) hbs hrbs.out k9 (pA := none) (pn := 0) (pd := 0) (Sl.nil _ _ _ _ _ (by decide)) (.inl ⟨hmb.out.symm, rfl, rfl, rfl, rfl, rfl, rfl⟩) (fun h0 => absurd h0 (Nat.lt_irrefl _))
    clear hr9 k9 hxb1 hrb1 R1
    go_wp2_with fail
    exact bodyPost_ret (v := .agg #[.int .i64 6, .slice none 0 0]) (by simp [results, Tryz.results28, go_sem, c9]) rfl hfin
  · have hmay := Lib.hid hmb.out.symm
    have cs := At.cell R1.mdl.self
    have m3 : w1.cell? ⟨rm, 3, none⟩ = some (.bool closed) := cs 3
    have lrm := R1.mdl.self.lt
    clear cs
    cases closed
    · have hop17 : Hid (1 ≤ x.op ∧ x.op ≤ 7) := Lib.hid (by
        have h9 := hmay.out
        unfold Call.mayB at h9
        simp only [Bool.and_eq_true, decide_eq_true_eq] at h9
        exact ⟨h9.1.1.2, h9.1.2⟩)
      have cx := At.cell hxb1
      have x0 : w1.cell? ⟨xb, 0, none⟩ = some (.int .i64 x.op) := cx 0
      have lx1 := hxb1.lt
      clear cx
      cases o3
      · have hn3 : Hid (x.op ≠ 3) := Lib.hid (by simpa using ho3')
        cases o7
        · have hn7 : Hid (x.op ≠ 7) := Lib.hid (by simpa using ho7')
          by_cases h5 : 5 < x.op
          · have hkB : Hid (x.keyedB = false) := Lib.hid (by
              unfold Call.keyedB
              simp
              omega)
            have h5b : decide (5 < x.op) = true := by simp; omega
            have hr9 := At.whole hrb1 [.int .i64 0, .slice none 0 0] rfl
            simp only [stores, Nat.zero_add, Nat.reduceAdd] at hr9
            have c9 := At.cell hr9
            have fr := At.frozen hrb1
            have cr := At.cell hrb1
            have lr := (hrb1).lt
            have k9 : Keep (one rb) w1 ((w1.setCell ⟨rb, 0, none⟩ (.int .i64 0)).setCell ⟨rb, 1, none⟩ (.slice none 0 0)) := Keep.set1 (Keep.set1 (Keep.refl _ _) _) _
            have hfin := rm_end (O1 := []) (by rw [List.append_nil]; exact R1) hbs hrbs.out k9 (pA := none) (pn := 0) (pd := 0) (Sl.nil _ _ _ _ _ (by decide)) (.inr (.inr (.inr (.inr (.inr ⟨hmay.out, rfl, hn3.out, hkB.out, rfl, rfl, rfl, rfl, rfl, (decide_eq_false hn7.out).symm⟩))))) (fun h0 => absurd h0 (Nat.lt_irrefl _))
            clear hr9 k9 hxb1 hrb1 R1
            go_wp2_with fail
            exact bodyPost_ret (v := .agg #[.int .i64 0, .slice none 0 0]) (by simp [results, Tryz.results28, go_sem, c9]) rfl hfin
          · have hkB : Hid (x.keyedB = true) := Lib.hid (by
              have h9 := hop17.out
              have h8 := hn3.out
              unfold Call.keyedB
              simp
              omega)
            have h5b : decide (5 < x.op) = false := by simp; omega
            go_wp2_with fail
            have hr1 := R1.mdl.ref
            have hrel1 := R1.mdl.rel
            have hgd1 := R1.mdl.good
            have hlen1 := R1.mdl.len
            have hp1 := hr1.at_.lt
            have hA1 := hr1.lt
            have cs := At.cell R1.mdl.self
            have m0 : w1.cell? ⟨rm, 0, none⟩ = some (.pointer (some ⟨p, 0, none⟩)) := cs 0
            have m2 : w1.cell? ⟨rm, 2, none⟩ = some (.int .i64 mark) := cs 2
            have cx := At.cell hxb1
            have x1 : w1.cell? ⟨xb, 1, none⟩ = some (.string x.key) := cx 1
            have x2 : w1.cell? ⟨xb, 2, none⟩ = some (.int .i64 x.time) := cx 2
            have x3 : w1.cell? ⟨xb, 3, none⟩ = some (.int .i64 x.value) := cx 3
            have x4 : w1.cell? ⟨xb, 4, none⟩ = some (.int .i64 x.fin) := cx 4
            have x5 : w1.cell? ⟨xb, 5, none⟩ = some (.int .i64 x.group) := cx 5
            have x6 : w1.cell? ⟨xb, 6, none⟩ = some (.int .i64 x.shard) := cx 6
            clear cs cx
            have cask : ∀ W, Keep none_ w1 W → Calls Tryz.prog 35 #[.pointer (some ⟨p, 0, none⟩), .agg x.cells.toArray, .int .i64 mark] W (RAsked W p n c A L mark x M) := fun W k => ref12_ask (hr1.none k) hrel1 hgd1 hn (by omega) hc hm x hx hkB.out mark hmk
            simp only [Call.cells] at cask
            have cA : Hid (∀ W, Keep none_ w1 W → At W w1.heap.size #[.int .i64 0, .slice none 0 0] 57 → Calls Tryz.prog 35 #[.pointer (some ⟨p, 0, none⟩), .agg #[.int .i64 x.op, .string x.key, .int .i64 x.time, .int .i64 x.value, .int .i64 x.fin, .int .i64 x.group, .int .i64 x.shard], .int .i64 mark] W (fun e w7 => ∃ code pA pn pd vo, e = .returned (.tuple #[.agg #[.int .i64 code, .slice pA pn pd], vo]) ∧ At w7 w1.heap.size #[.int .i64 0, .slice none 0 0] 57 ∧
                RKeyCut w1 p n c A L mark x M (.pointer (some ⟨w1.heap.size, 0, none⟩)) vo ((w7.setCell ⟨w1.heap.size, 0, none⟩ (.int .i64 code)).setCell ⟨w1.heap.size, 1, none⟩ (.slice pA pn pd)))) :=
              Lib.hid (fun W k hA => (cask W k).mono (fun e w7 hd => rask_A hp1 hA1 k hA hd))
            have cB : Hid (∀ W, Keep none_ w1 W → Calls Tryz.prog 35 #[.pointer (some ⟨p, 0, none⟩), .agg #[.int .i64 x.op, .string x.key, .int .i64 x.time, .int .i64 x.value, .int .i64 x.fin, .int .i64 x.group, .int .i64 x.shard], .int .i64 mark] W (fun e w7 => ∃ code pA pn pd vo, e = .returned (.tuple #[.agg #[.int .i64 code, .slice pA pn pd], vo]) ∧
                RKeyCut w1 p n c A L mark x M (.pointer (some ⟨w7.heap.size, 0, none⟩)) vo (w7.alloc (.cells #[.int .i64 code, .slice pA pn pd] 57)))) :=
              Lib.hid (fun W k => (cask W k).mono (fun e w7 hd => rask_B k hd))
            clear cask
            go_cut [6, 7] from 69 to 81 (fun rv vo w' => RKeyCut w1 p n c A L mark x M rv vo w')
            case first =>
              go_region_law (first
                | (go_simp; go_at_call 35; refine Calls.mono (cA.out _ (show Keep none_ w1 _ from (by repeat' (first | assumption | with_reducible exact Keep.refl _ _ | with_reducible refine Keep.alloc ?_ _ | with_reducible refine Keep.drew ?_))) ?_) ?_; (first | exact At.drew (At.new w1 _ _) | exact At.new w1.drew _ _); rintro e w7 ⟨code, pA, pn, pd, vo, rfl, hA7, hkc⟩; have cr := At.cell hA7; have fr := At.frozen hA7; have hrl7 := hA7.lt; clear hA7)
                | (go_simp; go_at_call 35; refine Calls.mono (cB.out _ (show Keep none_ w1 _ from (by repeat' (first | assumption | with_reducible exact Keep.refl _ _ | with_reducible refine Keep.alloc ?_ _ | with_reducible refine Keep.drew ?_)))) ?_; rintro e w7 ⟨code, pA, pn, pd, vo, rfl, hkc⟩)
                | fail)
              all_goals
                go_wp2_with fail
                go_meet
                first
                  | exact hkc
                  | (trace_state; fail)
            case rest =>
              obtain ⟨rb2, code, pA, pn, pd, O1, A2, d2, L2, M1, M2, R, rfl, hrb2l, hat2, rowO, hask, slR, geR, hrel2, hgood2, hr2, k2, hown2, hlen2⟩ := hcut
              have hb1 : b ≤ w1.heap.size := by have h1 := hxbe.out; have h2 := R1.keep.size; omega
              have R2 := R1.step hb1 k2 hr2 hrel2 hgood2 hown2 (by omega)
              have hrb2' := Keep.at k2 hrb1 (fun e => hpr e.symm)
              have hlt1 := R1.mdl.lt
              have hlO1 : O1.length ≤ n := by
                have h9 := RelL.steps_len hrel1 hgd1.km hask.1
                omega
              obtain ⟨A1, d1, rfl⟩ := own_form rowO
              have slO : Sl Pane.cells 7 wc A1 O1.length d1 O1 := Sl.of_own pane_len (by decide) rowO
              have own2 := R2.mdl.row
              have cs := At.cell R2.mdl.self
              have m1 : wc.cell? ⟨rm, 1, none⟩ = some (.slice Ao O.length co) := cs 1
              have lrm2 := R2.mdl.self.lt
              have hb2 : b ≤ wc.heap.size := Nat.le_trans hb1 k2.size
              have hws1 := R1.keep.size
              have hrbw : rb < w1.heap.size := hrb1.lt
              replace R2 := Lib.hid R2
              replace hask := Lib.hid hask
              clear cs cA cB m0 m2 m3 x0 x1 x2 x3 x4 x5 x6 lx1 hxb1 hrb1 hrel2 hgood2 hr2 rowO hr1 hrel1 hgd1
              go_wp2_with (at_builtin; refine wpList_append_sl _ rfl _ _ _ rfl b 88 row_pane pane_len pane_one _ O.length O rfl own2 A1 O1.length d1 O1 rfl slO (by omega) hb2 ?_)
              intro v3 w3 own3 hg3 hb3
              have k3 : Keep (own_of (.slice Ao O.length co)) wc w3 := Keep.grown (Keep.refl _ _) hg3 (fun g e _ => e)
              have own3' : PRow w3 b v3 (O ++ O1) := by
                have : (O ++ O1).length = O.length + O1.length := by simp
                unfold PRow
                rw [this]
                exact own3
              have R3 := R2.out.put k3 own3' (hb3.imp id (fun e => ⟨_, e, Nat.le_refl _⟩))
              have hov1 : ∀ g, (Value.slice Ao O.length co).ownBlock = some g → g < w1.heap.size := fun g e => (hlt1 g (.inr (.inr e))).2
              have hv3 : ∀ g, v3.ownBlock = some g → g < w1.heap.size ∨ w1.heap.size ≤ g := fun g e => by omega
              obtain ⟨A3, d3, rfl⟩ := own_form own3'
              have hself3 := Keep.at k3 R2.out.mdl.self (fun e => R2.out.mdl.ne.2.1 e)
              have f1 := At.frozen hself3
              have c1 := At.cell hself3
              have lrm3 := hself3.lt
              have hrb2n : rb2 ≠ rm := by have := (hlt1 rm (.inl rfl)).2; omega
              have hat3 := Keep.at k3 hat2 (fun e => by have := hov1 _ e; omega)
              have hat4 := hat3.set_other (a := ⟨rm, 1, none⟩) (fun e => hrb2n e.symm) (.slice A3 (O ++ O1).length d3)
              have hrb3 := Keep.at k3 hrb2' (fun e => hrbs.out.2.1 (.inr (.inr e)))
              have hrb4 := hrb3.set_other (a := ⟨rm, 1, none⟩) hrmr (.slice A3 (O ++ O1).length d3)
              have k34 : Keep (one rm) w3 (w3.setCell ⟨rm, 1, none⟩ (.slice A3 (O ++ O1).length d3)) := Keep.set1 (Keep.refl _ _) _
              have slR4 := (slR.keep k3 (fun a ha e => by have := hov1 _ e; have := geR a ha; omega)).keep k34 (fun a ha e => by unfold one at e; have := (hlt1 rm (.inl rfl)).2; have := geR a ha; omega)
              have hs2 := k2.size
              have hs3 := k3.size
              have hown3 : ∀ g, (Value.slice A3 (O ++ O1).length d3).ownBlock = some g → (Value.slice Ao O.length co).ownBlock = some g ∨ wc.heap.size ≤ g := fun g e => by
                rcases hb3 with e2 | e2
                · exact .inl (e2 ▸ e)
                · rw [e2] at e
                  have : wc.heap.size = g := by simpa using e
                  exact .inr (by omega)
              have hrbs4 : w.heap.size ≤ rb ∧ ¬ rmF rm p (.slice A3 (O ++ O1).length d3) rb ∧ ∀ a, A2 = some a → a.block ≠ rb := ⟨hrbs.out.1, fun e => by
                rcases e with e | e | e
                · exact hrmr e.symm
                · exact hpr e.symm
                · rcases hown3 rb e with e2 | e2
                  · exact hrbs.out.2.1 (.inr (.inr e2))
                  · omega, fun a ha => by
                rcases hown2 a ha with e | e
                · exact hrbs.out.2.2 a e
                · omega⟩
              have hpaf : 0 < pn → ∀ a, pA = some a → w.heap.size ≤ a.block ∧ ¬ rmF rm p (.slice A3 (O ++ O1).length d3) a.block := fun h0 a ha => by
                obtain ⟨b9, o9, e9, hb9, -⟩ := slR.at_ h0
                obtain rfl : a = ⟨b9, o9, none⟩ := by rw [ha] at e9; simpa using e9
                have h1 := geR _ ha
                simp only at h1 ⊢
                have h2 := (hlt1 rm (.inl rfl)).2
                have h3 := (hlt1 p (.inr (.inl rfl))).2
                refine ⟨by have := hxbe.out; omega, fun e => ?_⟩
                rcases e with e | e | e
                · omega
                · omega
                · rcases hown3 _ e with e2 | e2
                  · have := hov1 _ e2; omega
                  · omega
              have hfinal : Hid (∀ w9 : World, Keep (one rb) (w3.setCell ⟨rm, 1, none⟩ (.slice A3 (O ++ O1).length d3)) w9 → RMDid w b rm p n c A (.slice Ao O.length co) O M mark false x (.returned (.agg #[.int .i64 code, .slice pA pn pd])) w9) :=
                Lib.hid (fun w9 k9 => rm_end R3 (Nat.le_refl _) hrbs4 k9 (slR4.keep k9 (fun a ha e => by unfold one at e; have := geR a ha; omega)) (.inr (.inr (.inr (.inl ⟨hmay.out, rfl, hkB.out, rfl, rfl, M1, hask.out⟩)))) hpaf)
              clear R3 R2 own3 hg3 hb3 own3' hown3 hrbs4 slR4 k34
              generalize hm9 : (O ++ O1).length = m9 at *
              replace hm9 := Lib.hid hm9
              have ca := At.cell hat4
              have la := hat4.lt
              have cr4 := At.cell hrb4
              have fr4 := At.frozen hrb4
              have lr4 := hrb4.lt
              have hr9 := At.whole hrb4 [.int .i64 code, .slice pA pn pd] rfl
              simp only [stores, Nat.zero_add, Nat.reduceAdd] at hr9
              have c9 := At.cell hr9
              have k9 : Keep (one rb) (w3.setCell ⟨rm, 1, none⟩ (.slice A3 m9 d3)) (((w3.setCell ⟨rm, 1, none⟩ (.slice A3 m9 d3)).setCell ⟨rb, 0, none⟩ (.int .i64 code)).setCell ⟨rb, 1, none⟩ (.slice pA pn pd)) := Keep.set1 (Keep.set1 (Keep.refl _ _) _) _
              have hfin := hfinal.out _ k9
              clear hfinal hr9 k9 k3 hat2 hat3 hat4 hrb3 hrb4 hrb2' slR own2 slO k2 hov1 hself3 hask hv3 hlt1 m1
              go_wp2_with fail
              exact bodyPost_ret (v := .agg #[.int .i64 code, .slice pA pn pd]) (by simp [results, Tryz.results28, go_sem, c9]) rfl hfin
        · have hn7 : Hid (x.op = 7) := Lib.hid (by simpa using ho7')
          have h57 : (5 : Int) < x.op := by rw [hn7.out]; decide
          have h5b : decide (5 < x.op) = true := by simp; omega
          have hkB : Hid (x.keyedB = false) := Lib.hid (by unfold Call.keyedB; rw [hn7.out]; rfl)
          have fs := At.frozen R1.mdl.self
          have f3 : w1.frozen? ⟨rm, 3, none⟩ = false := fs 3
          have k2 : Keep (one rm) w1 (w1.setCell ⟨rm, 3, none⟩ (.bool true)) := Keep.set1 (Keep.refl _ _) _
          have R2 : RMR w (.slice Ao O.length co) A (w1.setCell ⟨rm, 3, none⟩ (.bool true)) b rm p n c A d L (.slice Ao O.length co) O M mark true :=
            ⟨R1.mdl.write k2 (At.set R1.mdl.self 3 (.bool true)) hmk, Keep.comb R1.keep k2 (fun q hq e => .inl e), R1.ow, R1.oA⟩
          have hrb2 := hrb1.set_other (a := ⟨rm, 3, none⟩) hrmr (.bool true)
          have hxb2 := hxb1.set_other (a := ⟨rm, 3, none⟩) hrmx (.bool true)
          clear fs
          have hr9 := At.whole hrb2 [.int .i64 0, .slice none 0 0] rfl
          simp only [stores, Nat.zero_add, Nat.reduceAdd] at hr9
          have c9 := At.cell hr9
          have fr := At.frozen hrb2
          have cr := At.cell hrb2
          have lr := (hrb2).lt
          have k9 : Keep (one rb) (w1.setCell ⟨rm, 3, none⟩ (.bool true)) (((w1.setCell ⟨rm, 3, none⟩ (.bool true)).setCell ⟨rb, 0, none⟩ (.int .i64 0)).setCell ⟨rb, 1, none⟩ (.slice none 0 0)) := Keep.set1 (Keep.set1 (Keep.refl _ _) _) _
          have hfin := rm_end (O1 := []) (by rw [List.append_nil]; exact R2) hbs hrbs.out k9 (pA := none) (pn := 0) (pd := 0) (Sl.nil _ _ _ _ _ (by decide)) (.inr (.inr (.inr (.inr (.inr ⟨hmay.out, rfl, hn3.out, hkB.out, rfl, rfl, rfl, rfl, rfl, (decide_eq_true hn7.out).symm⟩))))) (fun h0 => absurd h0 (Nat.lt_irrefl _))
          clear hr9 k9 hxb1 hrb1 R1 R2 hrb2 hxb2 k2
          go_wp2_with fail
          exact bodyPost_ret (v := .agg #[.int .i64 0, .slice none 0 0]) (by simp [results, Tryz.results28, go_sem, c9]) rfl hfin
      · have hn3 : Hid (x.op = 3) := Lib.hid (by simpa using ho3')
        obtain ⟨ι, hne9, f, hf0, hfk, hfa⟩ := class_of none_ w1
        have s2 : ∀ z, (f z).cell? ⟨rm, 2, none⟩ = some (.int .i64 mark) := fun z => At.cell (R1.still (hfk z)).mdl.self 2
        have x2 : ∀ z, (f z).cell? ⟨xb, 2, none⟩ = some (.int .i64 x.time) := fun z => At.cell (Keep.at (hfk z) hxb1 (fun e => e)) 2
        have lz1 : ∀ z, rm < (f z).heap.size := fun z => (R1.still (hfk z)).mdl.self.lt
        have lz3 : ∀ z, xb < (f z).heap.size := fun z => (Keep.at (hfk z) hxb1 (fun e => e)).lt
        go_wp2_with fail
        refine wp_region_class f (by kernel_rfl) (by kernel_rfl) hf0 ?_
        repeat (go_big_quiet_step (fail))
        refine wpQuiet_nil ?_
        rintro _ ⟨nn, rfl⟩
        have R2 := R1.still (hfk nn)
        have hxb2 := Keep.at (hfk nn) hxb1 (fun e => e)
        have hrb2 := Keep.at (hfk nn) hrb1 (fun e => e)
        clear s2 x2 lz1 lz3 hf0 hfa R1 hxb1 hrb1 x0 lx1 m3 lrm
        generalize f nn = w2 at *
        clear hfk
        by_cases hst : x.time ≤ mark
        · have hst2 := Lib.hid hst
          have hr9 := At.whole hrb2 [.int .i64 5, .slice none 0 0] rfl
          simp only [stores, Nat.zero_add, Nat.reduceAdd] at hr9
          have c9 := At.cell hr9
          have fr := At.frozen hrb2
          have cr := At.cell hrb2
          have lr := (hrb2).lt
          have k9 : Keep (one rb) w2 ((w2.setCell ⟨rb, 0, none⟩ (.int .i64 5)).setCell ⟨rb, 1, none⟩ (.slice none 0 0)) := Keep.set1 (Keep.set1 (Keep.refl _ _) _) _
          have hfin := rm_end (O1 := []) (by rw [List.append_nil]; exact R2) hbs hrbs.out k9 (pA := none) (pn := 0) (pd := 0) (Sl.nil _ _ _ _ _ (by decide)) (.inr (.inr (.inl ⟨hmay.out, rfl, hn3.out, hst2.out, rfl, rfl, rfl, rfl, rfl, rfl⟩))) (fun h0 => absurd h0 (Nat.lt_irrefl _))
          clear hr9 k9 hxb2 hrb2 R2
          go_wp2_with fail
          exact bodyPost_ret (v := .agg #[.int .i64 5, .slice none 0 0]) (by simp [results, Tryz.results28, go_sem, c9]) rfl hfin
        · have hstb : decide (x.time ≤ mark) = false := decide_eq_false hst
          have hlt9 : Hid (mark < x.time) := Lib.hid (by omega)
          have cx := At.cell hxb2
          have x2 : w2.cell? ⟨xb, 2, none⟩ = some (.int .i64 x.time) := cx 2
          have lx2 := hxb2.lt
          have cs := At.cell R2.mdl.self
          have m2 : w2.cell? ⟨rm, 2, none⟩ = some (.int .i64 mark) := cs 2
          have lrm := R2.mdl.self.lt
          have fs := At.frozen R2.mdl.self
          have f2 : w2.frozen? ⟨rm, 2, none⟩ = false := fs 2
          have k3 : Keep (one rm) w2 (w2.setCell ⟨rm, 2, none⟩ (.int .i64 x.time)) := Keep.set1 (Keep.refl _ _) _
          have R3 : RMR w (.slice Ao O.length co) A (w2.setCell ⟨rm, 2, none⟩ (.int .i64 x.time)) b rm p n c A d L (.slice Ao O.length co) O M x.time false :=
            ⟨R2.mdl.write k3 (At.set R2.mdl.self 2 (.int .i64 x.time)) hx.2.2.1, Keep.comb R2.keep k3 (fun q hq e => .inl e), R2.ow, R2.oA⟩
          have hrb3 := hrb2.set_other (a := ⟨rm, 2, none⟩) hrmr (.int .i64 x.time)
          clear cx cs fs
          go_wp2_with fail
          generalize hw3 : w2.setCell _ _ = w3 at *
          clear hw3 x2 lx2 m2 lrm f2 k3 R2 hrb2 hxb2
          have hr3 := R3.mdl.ref
          have hb3w : b ≤ w3.heap.size := by have h1 := hxbe.out; have h2 := R3.keep.size; omega
          have hrb3l : rb < w3.heap.size := hrb3.lt
          have hlt3 := R3.mdl.lt
          have cst : Hid (∀ W, Keep none_ w3 W → Calls Tryz.prog 13 #[.pointer (some ⟨p, 0, none⟩), .int .i64 x.time] W (fun e w4 => ∃ A1 d1 O1 A2 d2 L2 M2, e = .returned (.slice A1 O1.length d1) ∧ Steps c.late x.time M O1 M2 ∧ Calm c.late x.time M2 ∧ RMR w (.slice Ao O.length co) A w4 b rm p n c A2 d2 L2 (.slice Ao O.length co) O M2 x.time false ∧ Sl Pane.cells 7 w4 A1 O1.length d1 O1 ∧ O1.length ≤ n ∧ At w4 rb #[.int .i64 0, .slice none 0 0] 57 ∧ w3.heap.size ≤ w4.heap.size ∧ (∀ a, A2 = some a → a.block ≠ rb))) :=
            Lib.hid (fun W k => (ref6_settle (hr3.none k) R3.mdl.rel R3.mdl.good.km (by have := R3.mdl.len; omega) hc x.time hx.2.2.1).mono (fun e w4 hd => by
              obtain ⟨vo, O1, A2, d2, L2, M2, rfl, row, hst, hcalm, hrel, hat, k4, hown, hlen⟩ := hd
              obtain ⟨A1, d1, rfl⟩ := own_form row
              have hl := R3.mdl.len
              have hs := k.size
              have hs4 := k4.size
              exact ⟨A1, d1, O1, A2, d2, L2, M2, rfl, hst, hcalm, (R3.still k).step (Nat.le_trans hb3w hs) k4 hat hrel (R3.mdl.good.steps hst) hown (by omega), Sl.of_own pane_len (by decide) row, by omega, Keep.at k4 (Keep.at k hrb3 (fun e => e)) (fun e => hpr e.symm), by omega, fun a ha => by
                rcases hown a ha with e | e
                · exact hrbs.out.2.2 a e
                · omega⟩))
          have cs := At.cell R3.mdl.self
          have m0 : w3.cell? ⟨rm, 0, none⟩ = some (.pointer (some ⟨p, 0, none⟩)) := cs 0
          have m1 : w3.cell? ⟨rm, 1, none⟩ = some (.slice Ao O.length co) := cs 1
          have m2 : w3.cell? ⟨rm, 2, none⟩ = some (.int .i64 x.time) := cs 2
          have lrm3 := R3.mdl.self.lt
          clear cs
          go_cut [] from 41 to 57 (fun w' => RAdvCut w rb b rm p n c A (.slice Ao O.length co) O M x.time w')
          case first =>
            go_region_law (first
              | (go_simp; go_at_call 13; refine (cst.out _ (show Keep none_ w3 _ from (by repeat' (first | assumption | with_reducible exact Keep.refl _ _ | with_reducible refine Keep.alloc ?_ _ | with_reducible refine Keep.drew ?_)))).mono ?_; rintro e w4 ⟨A1, d1, O1, A2, d2, L2, M2, rfl, hst1, hcalm, R4, sl4, hO1n, hrb4, hs34, hA2n⟩; have m41 : w4.cell? ⟨rm, 1, none⟩ = some (.slice Ao O.length co) := At.cell R4.mdl.self 1; have lrm4 := R4.mdl.self.lt; have row4 := R4.mdl.row; have hb4 : b ≤ w4.heap.size := Nat.le_trans hb3w hs34; have hOO : O.length + O1.length ≤ 1000000 := (by omega); replace R4 := Lib.hid R4)
              | (refine step_append_sl _ (by rfl) _ _ _ (by rfl) b 88 row_pane pane_len pane_one (.slice Ao O.length co) O.length O (by rfl) row4 A1 O1.length d1 O1 (by rfl) sl4 hOO hb4 ?_
                 intro v5 w5 own5 hg5 hb5
                 have k5 : Keep (own_of (.slice Ao O.length co)) w4 w5 := Keep.grown (Keep.refl _ _) hg5 (fun g e _ => e)
                 have own5' : PRow w5 b v5 (O ++ O1) := (by
                   have h9 : (O ++ O1).length = O.length + O1.length := by simp
                   unfold PRow
                   rw [h9]
                   exact own5)
                 have hself5 := Keep.at k5 R4.out.mdl.self (fun e => R4.out.mdl.ne.2.1 e)
                 obtain ⟨A5, d5, rfl⟩ := own_form own5'
                 have c5 := At.cell hself5
                 have f5 := At.frozen hself5
                 have l5 := hself5.lt)
              | fail)
            all_goals
              have R5 := R4.out.put k5 own5' (hb5.imp id (fun e => ⟨_, e, Nat.le_refl _⟩))
              have hrb5 := Keep.at k5 hrb4 (fun e => hrbs.out.2.1 (.inr (.inr e)))
              have hrb6 := hrb5.set_other (a := ⟨rm, 1, none⟩) hrmr (.slice A5 (O ++ O1).length d5)
              have hadv : RAdvCut w rb b rm p n c A (.slice Ao O.length co) O M x.time (w5.setCell ⟨rm, 1, none⟩ (.slice A5 (O ++ O1).length d5)) := ⟨_, O1, A2, d2, L2, M2, hst1, hcalm, R5, hrb6, fun e => by
                rcases e with e | e | e
                · exact hrmr e.symm
                · exact hpr e.symm
                · rcases hb5 with e2 | e2
                  · exact hrbs.out.2.1 (.inr (.inr (e2 ▸ e)))
                  · rw [e2] at e
                    have : w4.heap.size = rb := by simpa using e
                    omega, hA2n⟩
              rw [List.length_append] at hadv
              clear R5 R4 own5 hg5 hb5 own5' hrb5 hrb6 hrb4 k5 hself5 sl4 row4 hst1 hcalm cst hr3 R3 hlt3 hrb3
              go_wp2_with fail
              go_meet
              first
                | exact hadv
                | (trace_state; fail)
          case rest =>
            obtain ⟨ov2, O1, A2, d2, L2, M2, hst1, hcalm, R5, hrb6, hnrb, hA2n⟩ := hcut
            have hrbs5 := Lib.hid (show w.heap.size ≤ rb ∧ ¬ rmF rm p ov2 rb ∧ ∀ a, A2 = some a → a.block ≠ rb from ⟨hrbs.out.1, hnrb, hA2n⟩)
            clear cst m0 m1 m2 R3 hr3 hlt3 hrb3
            have hr9 := At.whole hrb6 [.int .i64 0, .slice none 0 0] rfl
            simp only [stores, Nat.zero_add, Nat.reduceAdd] at hr9
            have c9 := At.cell hr9
            have fr := At.frozen hrb6
            have cr := At.cell hrb6
            have lr := hrb6.lt
            have k9 : Keep (one rb) wc ((wc.setCell ⟨rb, 0, none⟩ (.int .i64 0)).setCell ⟨rb, 1, none⟩ (.slice none 0 0)) := Keep.set1 (Keep.set1 (Keep.refl _ _) _) _
            have hfin := rm_end R5 hwin hrbs5.out k9 (pA := none) (pn := 0) (pd := 0) (Sl.nil _ _ _ _ _ (by decide)) (.inr (.inr (.inr (.inr (.inl ⟨hmay.out, rfl, hn3.out, hlt9.out, rfl, rfl, rfl, rfl, hst1, hcalm⟩))))) (fun h0 => absurd h0 (Nat.lt_irrefl _))
            clear hr9 k9 R5 hrb6 hst1 hcalm
            go_wp2_with fail
            exact bodyPost_ret (v := .agg #[.int .i64 0, .slice none 0 0]) (by simp [results, Tryz.results28, go_sem, c9]) rfl hfin
    · have hr9 := At.whole hrb1 [.int .i64 3, .slice none 0 0] rfl
      simp only [stores, Nat.zero_add, Nat.reduceAdd] at hr9
      have c9 := At.cell hr9
      have fr := At.frozen hrb1
      have cr := At.cell hrb1
      have lr := (hrb1).lt
      have k9 : Keep (one rb) w1 ((w1.setCell ⟨rb, 0, none⟩ (.int .i64 3)).setCell ⟨rb, 1, none⟩ (.slice none 0 0)) := Keep.set1 (Keep.set1 (Keep.refl _ _) _) _
      have hfin := rm_end (O1 := []) (by rw [List.append_nil]; exact R1) hbs hrbs.out k9 (pA := none) (pn := 0) (pd := 0) (Sl.nil _ _ _ _ _ (by decide)) (.inr (.inl ⟨hmay.out, rfl, rfl, rfl, rfl, rfl, rfl, rfl⟩)) (fun h0 => absurd h0 (Nat.lt_irrefl _))
      clear hr9 k9 hxb1 hrb1 R1
      go_wp2_with fail
      exact bodyPost_ret (v := .agg #[.int .i64 3, .slice none 0 0]) (by simp [results, Tryz.results28, go_sem, c9]) rfl hfin
end Go.Proofs.YtmioichjhiengaaGreat
