/-
  Texts of one kind, one behind the other.
-/
import Derived.Test.YtmioichjhiengaaGreatBaseBoth
import Derived.Test.YtmioichjhiengaaGreatBaseEv
import Derived.Test.YtmioichjhiengaaGreatBaseHist
import Derived.Test.YtmioichjhiengaaGreatHistFine
import Derived.Deep.CutRange
import Derived.Deep.RegionHeld3
set_option linter.unusedSimpArgs false
set_option linter.unusedVariables false
/-
  What the model does, as a function; a history run through it (plain).
-/
namespace Go.Proofs.YtmioichjhiengaaGreat
open Go.RowKit

/-- What the model is. -/
structure MS where
  M : KM
  O : List Pane
  mark : Int
  closed : Bool
/-- What a call comes to. -/
structure DoOut where
  code : Int
  R : List Pane
  O : List Pane
  M : KM
  mark : Int
  closed : Bool
def MS.zero : MS := ⟨fun _ => [], [], -9223372036854775808, false⟩
def DoIs (c : Config) (x : Call) (s : MS) (o : DoOut) : Prop := DoRel c x s.M s.mark s.closed o.code o.R o.O o.M o.mark o.closed
instance : Nonempty DoOut := ⟨⟨0, [], [], fun _ => [], 0, false⟩⟩
noncomputable def doF (c : Config) (x : Call) (s : MS) : DoOut := Classical.epsilon (DoIs c x s)
theorem doF_eq {c : Config} {x : Call} {s : MS} {o : DoOut} (hk : KMOK s.M) (h : DoIs c x s o) : doF c x s = o := by
  have h2 : DoIs c x s (doF c x s) := Classical.epsilon_spec ⟨o, h⟩
  obtain ⟨e1, e2, e3, e4, e5, e6⟩ := DoRel.uniq hk h2 h
  generalize doF c x s = q at *
  obtain ⟨q1, q2, q3, q4, q5, q6⟩ := q
  obtain ⟨o1, o2, o3, o4, o5, o6⟩ := o
  simp only at e1 e2 e3 e4 e5 e6
  subst e1 e2 e3 e4 e5 e6
  rfl
def DoOut.next (o : DoOut) (s : MS) : MS := ⟨o.M, s.O ++ o.O, o.mark, o.closed⟩
/-- An event, and its reply's panes. -/
structure EventP where
  ev : Event
  ps : List Pane
instance : Inhabited EventP := ⟨⟨⟨0, 0, default, 0, .slice none 0 0, 0, 0, 0⟩, []⟩⟩
def skipE (c : Config) (e : EventP) : Bool := e.ev.code == 2 && e.ev.call.op == 2 && e.ev.call.mayB c
noncomputable def stepF (c : Config) (e : EventP) (s : MS) : Option MS :=
  if skipE c e then some s else if (doF c e.ev.call s).code == e.ev.code && panesB (doF c e.ev.call s).R e.ps then some ((doF c e.ev.call s).next s) else none
noncomputable def runF (c : Config) : List EventP → MS → Option MS
  | [], s => some s
  | e :: l, s => match stepF c e s with | some s' => runF c l s' | none => none
theorem runF_append (c : Config) : ∀ (a b : List EventP) (s : MS), runF c (a ++ b) s = (runF c a s).bind (runF c b)
  | [], _, _ => rfl
  | e :: a, b, s => by
    show (match stepF c e s with | some s' => runF c (a ++ b) s' | none => none) = (match stepF c e s with | some s' => runF c a s' | none => none).bind _
    cases stepF c e s with
    | none => rfl
    | some s' => exact runF_append c a b s'
theorem runF_take {c : Config} {l : List EventP} {s s1 : MS} {i : Nat} (hi : i < l.length) (h : runF c (l.take i) s = some s1) : runF c (l.take (i + 1)) s = stepF c l[i] s1 := by
  rw [List.take_succ_eq_append_getElem hi, runF_append, h]
  show (match stepF c l[i] s1 with | some s' => some s' | none => none) = _
  cases stepF c l[i] s1 <;> rfl
theorem runF_none {c : Config} {l : List EventP} {s : MS} {i : Nat} (h : runF c (l.take i) s = none) : runF c l s = none := by
  have e : l = l.take i ++ l.drop i := (List.take_append_drop i l).symm
  rw [e, runF_append, h]
  rfl
/-- Events in the order of their points. -/
def byPoint (l : List EventP) (S : List Int) : List EventP := S.map (fun i => l.getD i.toNat default)
theorem byPoint_len (l : List EventP) (S : List Int) : (byPoint l S).length = S.length := by unfold byPoint; simp
theorem byPoint_get {l : List EventP} {S : List Int} {i : Nat} (hi : i < S.length) {j : Nat} (hj : S[i] = (j : Int)) (hjl : j < l.length) : (byPoint l S)[i]'(by rw [byPoint_len]; exact hi) = l[j] := by
  unfold byPoint
  rw [List.getElem_map, hj]
  simp [hjl]
/-- An event reads with its panes. -/
def rEventP : Rdr EventP := fun w x cs => cs = x.ev.cells ∧ x.ev.ok ∧ ∃ A n d, x.ev.panes = .slice A n d ∧ Sl Pane.cells 7 w A n d x.ps ∧ ∀ p ∈ x.ps, p.ok
theorem opens_EventP : Opens Tryz.prog 75 rEventP := by
  intro H enc w fuel cs x h
  have hl := opens_len Tryz.underlying75 cellsOf_Event h
  obtain ⟨a0, h0⟩ := opens_field (i := 0) (o := 0) (m := 1) Tryz.underlying75 rfl rfl (by kernel_rfl) (opens_int (by kernel_rfl)) H enc w fuel cs x h
  obtain ⟨a1, h1⟩ := opens_field (i := 1) (o := 1) (m := 1) Tryz.underlying75 rfl rfl (by kernel_rfl) (opens_int (by kernel_rfl)) H enc w fuel cs x h
  obtain ⟨a2, h2⟩ := opens_field (i := 2) (o := 2) (m := 7) Tryz.underlying75 rfl rfl (by kernel_rfl) opens_Call H enc w fuel cs x h
  obtain ⟨a3, h3⟩ := opens_field (i := 3) (o := 9) (m := 2) Tryz.underlying75 rfl rfl (by kernel_rfl) opens_Reply H enc w fuel cs x h
  obtain ⟨a4, h4⟩ := opens_field (i := 4) (o := 11) (m := 1) Tryz.underlying75 rfl rfl (by kernel_rfl) (opens_int (by kernel_rfl)) H enc w fuel cs x h
  obtain ⟨a5, h5⟩ := opens_field (i := 5) (o := 12) (m := 1) Tryz.underlying75 rfl rfl (by kernel_rfl) (opens_int (by kernel_rfl)) H enc w fuel cs x h
  obtain ⟨a6, h6⟩ := opens_field (i := 6) (o := 13) (m := 1) Tryz.underlying75 rfl rfl (by kernel_rfl) (opens_int (by kernel_rfl)) H enc w fuel cs x h
  match cs, hl with
  | [c0, c1, c2, c3, c4, c5, c6, c7, c8, c9, c10, c11, c12, c13], _ =>
    simp only [List.drop, List.take, rInt, rCall] at h0 h1 h2 h4 h5 h6
    simp only [List.drop, List.take] at h3
    obtain ⟨A, n, c, e3, h3', hs, hok⟩ := h3
    refine ⟨⟨⟨a0, a1, a2, a3.code, .slice A n c, a4, a5, a6⟩, a3.panes⟩, ?_, ⟨h0.2, h1.2, h2.2, h3', ⟨A, n, c, rfl⟩, h4.2, h5.2, h6.2⟩, A, n, c, rfl, hs, hok⟩
    have e0 := h0.1
    have e1 := h1.1
    have e2 := h2.1
    have e4 := h4.1
    have e5 := h5.1
    have e6 := h6.1
    simp only [Event.cells, Call.cells] at e0 e1 e2 e3 e4 e5 e6 ⊢
    simp only [List.cons.injEq, and_true] at e0 e1 e2 e3 e4 e5 e6 ⊢
    simp [e0, e1, e2, e3, e4, e5, e6]
/-- Events that lie in memory, each with its panes. -/
structure EvAt (w : World) (A : Option Addr) (n d : Nat) (l : List EventP) : Prop where
  sl : Sl (fun e : EventP => e.ev.cells) 14 w A n d l
  each : ∀ x ∈ l, x.ev.ok ∧ ∃ A n d, x.ev.panes = .slice A n d ∧ Sl Pane.cells 7 w A n d x.ps
theorem EvAt.of {w : World} {l : List EventP} {v : Value} (h : rSlice 14 rEventP w l [v]) : ∃ A d, v = .slice A l.length d ∧ EvAt w A l.length d l := by
  obtain ⟨A, n, d, rfl, hsl, hok⟩ := sl_of (R := fun _ => rEventP w) (fun e : EventP => e.ev.cells) (fun x : EventP => x.ev.ok ∧ ∃ A n d, x.ev.panes = .slice A n d ∧ Sl Pane.cells 7 w A n d x.ps ∧ ∀ p ∈ x.ps, p.ok) (fun _ x cs hx => ⟨hx.1, hx.2⟩) (w := w) (xs := l) (v := v) h
  obtain rfl := hsl.len
  exact ⟨A, d, rfl, hsl, fun x hx => by
    obtain ⟨h1, B, m, e, h2, h3, -⟩ := hok x hx
    exact ⟨h1, B, m, e, h2, h3⟩⟩
theorem EvAt.none {w w' : World} {A : Option Addr} {n d : Nat} {l : List EventP} (h : EvAt w A n d l) (k : Keep none_ w w') : EvAt w' A n d l :=
  ⟨h.sl.keep k Off.none_, fun x hx => by
    obtain ⟨h1, B, m, e, h2, h3⟩ := h.each x hx
    exact ⟨h1, B, m, e, h2, h3.keep k Off.none_⟩⟩
theorem Sl.map {α β : Type} {enc : β → List Value} {k : Nat} {f : α → β} {w : World} {A : Option Addr} {n c : Nat} {xs : List α} (h : Sl (fun x => enc (f x)) k w A n c xs) : Sl enc k w A n c (xs.map f) := by
  obtain ⟨h1, h2, h3, h4⟩ := h
  refine ⟨by rw [List.length_map]; exact h1, h2, h3, fun hn => ?_⟩
  obtain ⟨b, off, rfl, hb, hc⟩ := h4 hn
  refine ⟨b, off, rfl, hb, fun i hi j hj => ?_⟩
  rw [List.length_map] at hi
  rw [List.getElem_map]
  exact hc i hi j hj
theorem EvAt.evs {w : World} {A : Option Addr} {n d : Nat} {l : List EventP} (h : EvAt w A n d l) : Evs w A d (l.map EventP.ev) := by
  have h1 := h.sl.len
  have h2 := Sl.map (f := EventP.ev) (enc := Event.cells) h.sl
  rw [h1] at h2
  have e : (l.map EventP.ev).length = l.length := List.length_map _
  unfold Evs
  rw [e]
  exact h2
theorem EvAt.oks {w : World} {A : Option Addr} {n d : Nat} {l : List EventP} (h : EvAt w A n d l) : ∀ x ∈ l.map EventP.ev, x.ok := fun x hx => by
  obtain ⟨y, hy, rfl⟩ := List.mem_map.1 hx
  exact (h.each y hy).1
/-- A model that did so many calls; Y: blocks of others. -/
structure LinSt (W wr : World) (b mb gp mp tp lp k : Nat) (c : Config) (vq lv : Value) (T : List Timer) (s : MS) (Y : Nat → Prop) : Prop where
  mdl : MdlAt wr b mb gp mp tp lp (16 * k) (1000 * k) c vq lv s.M T s.O s.mark s.closed Y
  keep : Keep none_ W wr
  bl : W.heap.size ≤ b ∧ b ≤ wr.heap.size
  len : s.O.length ≤ 1000 * k
section
variable {W wr w' : World} {b mb gp mp tp lp k : Nat} {c : Config} {vq lv : Value} {T : List Timer} {s : MS} {Y : Nat → Prop}
theorem LinSt.still (h : LinSt W wr b mb gp mp tp lp k c vq lv T s Y) (k9 : Keep none_ wr w') : LinSt W w' b mb gp mp tp lp k c vq lv T s Y :=
  ⟨h.mdl.none k9, h.keep.trans k9, ⟨h.bl.1, Nat.le_trans h.bl.2 k9.size⟩, h.len⟩
theorem LinSt.up {m : Nat} (h : LinSt W wr b mb gp mp tp lp k c vq lv T s Y) (hm : k ≤ m) : LinSt W wr b mb gp mp tp lp m c vq lv T s Y :=
  ⟨h.mdl.up (by omega) (by omega), h.keep, h.bl, by have := h.len; omega⟩
theorem LinSt.off (h : LinSt W wr b mb gp mp tp lp k c vq lv T s Y) {q : Nat} (e : Y q) : ¬ mdlF mb mp tp lp vq lv q := fun e2 => by
  rcases e2 with e2 | e2
  · exact (h.mdl.nF q (.inr e)).1 e2
  · exact h.mdl.dis q e e2
/-- Nothing that was there changes; others' blocks are new ones. -/
theorem LinSt.turn {Y' : Nat → Prop} (h : LinSt W wr b mb gp mp tp lp k c vq lv T s Y) (k9 : Keep none_ wr w') (hY : ∀ q, q < wr.heap.size → Y' q → Y q) (hl : ∀ q, Y' q → q < w'.heap.size) : LinSt W w' b mb gp mp tp lp k c vq lv T s Y' :=
  ⟨h.mdl.turn k9 (fun q _ e => e.elim) hY hl, h.keep.trans k9, ⟨h.bl.1, Nat.le_trans h.bl.2 k9.size⟩, h.len⟩
theorem LinSt.did {x : Call} {e : Ending} (h : LinSt W wr b mb gp mp tp lp k c vq lv T s Y) (hk : k < 61) (hd : Did wr b mb gp mp tp lp (16 * k) (1000 * k) c vq lv s.M s.O s.mark s.closed Y x e w') :
    ∃ pA pn pd vq2 lv2 T2, e = .returned (.agg #[.int .i64 (doF c x s).code, .slice pA pn pd]) ∧ Sl Pane.cells 7 w' pA pn pd (doF c x s).R ∧ LinSt W w' b mb gp mp tp lp (k + 1) c vq2 lv2 T2 ((doF c x s).next s) Y ∧ (∀ a, pA = some a → wr.heap.size ≤ a.block) ∧ Keep (mdlF mb mp tp lp vq lv) wr w' := by
  obtain ⟨code, pv, R, O1, M2, vq2, lv2, T2, mark2, closed2, rfl, ⟨pA, pn, pd, rfl, hsl, hge⟩, hrel, hm, kk, -⟩ := hd
  have e1 : doF c x s = ⟨code, R, O1, M2, mark2, closed2⟩ := doF_eq h.mdl.grp.inv.km hrel
  have hlt := h.mdl.lt
  have hl := hrel.len h.mdl.grp.inv h.mdl.grp.tim.nodup
  have hlen := h.len
  have hbl := h.bl
  have hs := kk.size
  rw [e1]
  refine ⟨pA, pn, pd, vq2, lv2, T2, rfl, hsl, ⟨hm.up (by omega) (by omega), Keep.fresh h.keep kk (fun q hq e => by have := (hlt q e).1; omega), ⟨hbl.1, by omega⟩, ?_⟩, hge, kk⟩
  show (s.O ++ O1).length ≤ _
  rw [List.length_append]
  omega
end
end Go.Proofs.YtmioichjhiengaaGreat

/-
  lin.Check: a history run through a model.
-/
namespace Go.Proofs.YtmioichjhiengaaGreat
open Go.RowKit

/-- S is the order of the events' points. -/
structure OrdOf (l : List EventP) (S : List Int) : Prop where
  per : S.Perm (idxs (l.map EventP.ev) (l.map EventP.ev).length)
  srt : SortedC (cfE (l.map EventP.ev)) S
theorem OrdOf.uniq {l : List EventP} {S S' : List Int} (h : OrdOf l S) (h' : OrdOf l S') : S = S' := sorted_unique (weak_cfE _) h.srt h'.srt (h.per.trans h'.per.symm)
theorem OrdOf.idx {l : List EventP} {S : List Int} (h : OrdOf l S) {i : Nat} (hi : i < S.length) : ∃ j : Nat, S[i] = (j : Int) ∧ j < l.length := by
  have h1 := (h.per.mem_iff).1 (List.getElem_mem hi)
  unfold idxs at h1
  obtain ⟨j, hj, e⟩ := List.mem_map.1 h1
  have := List.mem_range.1 (List.mem_filter.1 hj).1
  rw [List.length_map] at this
  exact ⟨j, e.symm, this⟩
theorem OrdOf.len {l : List EventP} {S : List Int} (h : OrdOf l S) : S.length ≤ l.length := by
  rw [h.per.length_eq]
  have := idxs_len (l.map EventP.ev) (l.map EventP.ev).length
  rw [List.length_map] at this
  rw [List.length_map]
  exact this
def LinDone (w : World) (c : Config) (l : List EventP) (e : Ending) (w' : World) : Prop :=
  (¬ FineE (l.map EventP.ev) ∧ e = .returned (.tuple #[.pointer none, errV 1]) ∧ Keep none_ w w') ∨
  (FineE (l.map EventP.ev) ∧ ∃ S, OrdOf l S ∧ ((runF c (byPoint l S) MS.zero = none ∧ e = .returned (.tuple #[.pointer none, errV 10]) ∧ Keep none_ w w') ∨
    ∃ s b mb gp mp tp lp vq lv T, runF c (byPoint l S) MS.zero = some s ∧ e = .returned (.tuple #[.pointer (some ⟨mb, 0, none⟩), .nilIface]) ∧ LinSt w w' b mb gp mp tp lp 41 c vq lv T s none_))
theorem lin_check_no (w : World) (c : Config) (hc : c.ok) (h : c.mayB = false) {A : Option Addr} {n d : Nat} : Calls Tryz.prog 38 #[.agg c.cells.toArray, .slice A n d] w fun e w' => e = .returned (.tuple #[.pointer none, errV 2]) ∧ Keep none_ w w' := by
  have cno := fun W => model_new_no W c hc h
  have k0 : Keep none_ w (w.alloc (.cells c.cells.toArray 23)) := (by repeat' (first | assumption | with_reducible exact Keep.refl _ _ | with_reducible refine Keep.alloc ?_ _ | with_reducible refine Keep.drew ?_))
  simp only [Config.cells] at cno k0 ⊢
  replace cno := Lib.hid cno
  clear h
  go_enter Tryz.func38, Tryz.ntmps38
  go_wp2_with fail
  refine (cno.out _).mono ?_
  rintro e w1 ⟨rfl, k1⟩
  go_wp2_with fail
  go_ret2
  exact ⟨rfl, k0.trans k1⟩
theorem cells11 {a w : World} {b : Nat} {cs : Array Value} {T : TypeId} (h : At a b cs T) (kk : Keep none_ a w) : ∀ i, w.cell? ⟨b, i, none⟩ = cs[i]? := At.cell (Keep.at kk h (fun e => e))
def evA (x : Event) : Array Value := #[.int .i64 x.client, .int .i64 x.n, .int .i64 x.call.op, .string x.call.key, .int .i64 x.call.time, .int .i64 x.call.value, .int .i64 x.call.fin, .int .i64 x.call.group, .int .i64 x.call.shard, .int .i64 x.code, x.panes, .int .i64 x.begin_, .int .i64 x.point, .int .i64 x.end_]
/-- The cells of an event's block that are read. -/
def EvC (w : World) (b : Nat) (x : Event) (pv : Value) : Prop := w.cell? ⟨b, 2, none⟩ = some (.int .i64 x.call.op) ∧ w.cell? ⟨b, 3, none⟩ = some (.string x.call.key) ∧ w.cell? ⟨b, 4, none⟩ = some (.int .i64 x.call.time) ∧ w.cell? ⟨b, 5, none⟩ = some (.int .i64 x.call.value) ∧ w.cell? ⟨b, 6, none⟩ = some (.int .i64 x.call.fin) ∧
  w.cell? ⟨b, 7, none⟩ = some (.int .i64 x.call.group) ∧ w.cell? ⟨b, 8, none⟩ = some (.int .i64 x.call.shard) ∧ w.cell? ⟨b, 9, none⟩ = some (.int .i64 x.code) ∧ w.cell? ⟨b, 10, none⟩ = some pv
theorem evC_of {w : World} {b : Nat} {x : Event} {T : TypeId} (h : At w b (evA x) T) : EvC w b x x.panes :=
  ⟨At.cell h 2, At.cell h 3, At.cell h 4, At.cell h 5, At.cell h 6, At.cell h 7, At.cell h 8, At.cell h 9, At.cell h 10⟩
theorem evS {a w : World} {b : Nat} {v0 v1 v2 v3 v4 v5 v6 v7 v8 v9 v10 v11 v12 v13 : Value} {T : TypeId} (h : At a b #[v0, v1, v2, v3, v4, v5, v6, v7, v8, v9, v10, v11, v12, v13] T) (kk : Keep none_ a w) : w.cell? ⟨b, 2, none⟩ = some v2 ∧ w.cell? ⟨b, 3, none⟩ = some v3 ∧ w.cell? ⟨b, 4, none⟩ = some v4 ∧ w.cell? ⟨b, 5, none⟩ = some v5 ∧ w.cell? ⟨b, 6, none⟩ = some v6 ∧ w.cell? ⟨b, 7, none⟩ = some v7 ∧ w.cell? ⟨b, 8, none⟩ = some v8 ∧ w.cell? ⟨b, 9, none⟩ = some v9 ∧ w.cell? ⟨b, 10, none⟩ = some v10 :=
  have h2 := At.cell (Keep.at kk h (fun e => e))
  ⟨h2 2, h2 3, h2 4, h2 5, h2 6, h2 7, h2 8, h2 9, h2 10⟩
set_option maxHeartbeats 8000000 in
set_option maxRecDepth 100000 in
theorem lin_check (w : World) (c : Config) (hc : c.ok) (h : c.mayB = true) {A : Option Addr} {d : Nat} {l : List EventP} (hl : EvAt w A l.length d l) (hn : l.length ≤ 41) :
    Calls Tryz.prog 38 #[.agg c.cells.toArray, .slice A l.length d] w (LinDone w c l) := by
  have cyes := fun W => model_new W c hc h
  have k0 : Keep none_ w (w.alloc (.cells c.cells.toArray 23)) := (by repeat' (first | assumption | with_reducible exact Keep.refl _ _ | with_reducible refine Keep.alloc ?_ _ | with_reducible refine Keep.drew ?_))
  have hx := At.new w c.cells.toArray 23
  have cm := fun W x (hx : Call.ok x) => call_may W c x hc hx
  simp only [Config.cells] at cyes k0 hx cm ⊢
  replace cyes := Lib.hid cyes
  replace cm := Lib.hid cm
  have hdc := hl.sl.2.1
  have hdm := hl.sl.2.2.1
  unfold maxLen at hdm
  replace h := Lib.hid h
  go_enter Tryz.func38, Tryz.ntmps38
  go_wp2_with fail
  generalize w.alloc _ = w0 at *
  generalize hcbe : w.heap.size = cb at *
  have hcbb : cb < w0.heap.size := hx.lt
  refine (cyes.out _).mono ?_
  rintro e w1 ⟨mb, gp, mp, tp, lp, rfl, hmd, k1⟩
  have hl1 := (hl.none k0).none k1
  have hm1 : ((l.map EventP.ev).length : Int) = (l.length : Int) := by rw [List.length_map]
  have cf := hist_fine hl1.evs (by rw [List.length_map]; omega) hl1.oks
  rw [List.length_map] at cf
  replace cf := Lib.hid cf
  clear cyes
  have hx1 := Lib.hid (Keep.at k1 hx (fun e => e))
  clear hx hm1
  replace hmd := Lib.hid hmd
  go_wp2_with fail
  refine cf.out.mono ?_
  rintro e w2 ⟨b, rfl, hb, k2⟩
  cases b
  · have hno : LinDone w c l (.returned (.tuple #[.pointer none, errV 1])) w2 := .inl ⟨fun e => (by cases (hb.2 e)), rfl, (k0.trans k1).trans k2⟩
    clear hb cf
    go_wp2_with fail
    go_ret2
    exact hno
  · have hF : Hid (FineE (l.map EventP.ev)) := Lib.hid (hb.1 rfl)
    have hl2 := hl1.none k2
    have co := hist_order hl2.evs (by rw [List.length_map]; omega) (fun x hx => (hl2.oks x hx).panes)
    rw [List.length_map] at co
    replace co := Lib.hid co
    clear hb cf
    go_wp2_with fail
    refine co.out.mono ?_
    rintro e w3 ⟨v3, S, rfl, own3, pS, sS, k3⟩
    have hS : Hid (OrdOf l S) := Lib.hid ⟨pS, sS⟩
    obtain ⟨vA, vc, rfl⟩ := own_form own3
    have slS : Sl encI 1 w3 vA S.length vc S := Sl.of_own encI_len (by decide) own3
    have hSc := slS.2.1
    have hSl := hS.out.len
    have hl3 := hl2.none k3
    have hx3 := Keep.at (k2.trans k3) hx1.out (fun e => e)
    have kz3 := (k0.trans k1).trans (k2.trans k3)
    have hl3 := hl2.none k3
    have hob := own_block_ge own3
    have hol : ∀ q, (∃ a, vA = some a ∧ a.block = q) → w2.heap.size ≤ q ∧ q < w3.heap.size := fun q ⟨a, e, e2⟩ => by
      subst e e2
      exact own3.lt a.block rfl
    have st0 : LinSt w w3 w0.heap.size mb gp mp tp lp 0 c (.slice none 0 0) (.slice none 0 0) [] MS.zero (fun q => ∃ a, vA = some a ∧ a.block = q) :=
      LinSt.turn (wr := w1) (Y := none_) ⟨hmd.out, k0.trans k1, ⟨k0.size, k1.size⟩, Nat.le_refl _⟩ (k2.trans k3) (fun q hq e => by have := (hol q e).1; have := k2.size; omega) (fun q e => (hol q e).2)
    have hx3 := Keep.at (k2.trans k3) hx1.out (fun e => e)
    clear pS sS own3 co hmd hl1 hl2 k1 k2 k3 hx1 hl3 hob hol kz3
    generalize w0.heap.size = b at *
    replace hx3 := Lib.hid hx3
    replace hcbe := Lib.hid hcbe
    go_wp2_with fail
    go_loopw [9, 10, 26] (fun _ _ iv wr => ∃ (k : Nat) (vq lv : Value) (T : List Timer) (s : MS), iv = .int .i64 k ∧ k ≤ S.length ∧ Hid (runF c ((byPoint l S).take k) MS.zero = some s) ∧ LinSt w wr b mb gp mp tp lp k c vq lv T s (fun q => ∃ a, vA = some a ∧ a.block = q) ∧ Sl encI 1 wr vA S.length vc S ∧ At wr cb #[.int .i64 c.kind, .int .i64 c.size, .int .i64 c.slide, .int .i64 c.gap, .int .i64 c.late, .int .i64 c.shards, .int .i64 c.groups, .int .i64 c.cap] 23)
      (fun _ _ iv _ => S.length - (intOf iv).toNat)
    case atStart => exact ⟨0, _, _, _, MS.zero, rfl, Nat.zero_le _, Lib.hid rfl, st0, slS, hx3.out⟩
    case round =>
      clear st0 slS hx3
      obtain ⟨k, vq, lv, T, s, rfl, hk, hrun, st, slS, hxr⟩ := hrel
      have hk0 := Int.natCast_nonneg k
      have kWr := st.keep
      by_cases hlt : k < S.length
      · have hlt1 : (k : Int) < (S.length : Int) := by omega
        obtain ⟨j, hSj, hjl⟩ := hS.out.idx hlt
        have hstep : Hid (runF c ((byPoint l S).take (k + 1)) MS.zero = stepF c l[j] s) := Lib.hid (by
          rw [runF_take (by rw [byPoint_len]; exact hlt) hrun.out, byPoint_get hlt hSj hjl])
        have slS2 := Lib.hid slS
        have stH := Lib.hid st
        obtain ⟨sb, so, rfl, hsb, -⟩ := slS.at_ (by omega)
        have s0 : wr.cell? ⟨sb, so + k, none⟩ = some (.int .i64 j) := by
          have := slS.cell1 hlt
          rw [hSj] at this
          exact this
        have hlr := hl.none kWr
        obtain ⟨eb, eo, rfl, heb, -⟩ := hlr.sl.at_ (by omega)
        have ce := hlr.sl.cellk hjl
        obtain ⟨hxok, B, m9, d9, hpan, slB⟩ := hl.each l[j] (List.getElem_mem _)
        generalize l[j] = y at *
        obtain ⟨⟨xc, xn, x, code, pv, bg, pt, en⟩, ps⟩ := y
        have hx9 := hxok.call
        simp only at hpan slB hx9
        subst hpan
        obtain ⟨xo, xk, xt, xv, xe, xg, xh⟩ := x
        have t0 := ce 0 (by omega)
        have t1 := ce 1 (by omega)
        have t2 := ce 2 (by omega)
        have t3 := ce 3 (by omega)
        have t4 := ce 4 (by omega)
        have t5 := ce 5 (by omega)
        have t6 := ce 6 (by omega)
        have t7 := ce 7 (by omega)
        have t8 := ce 8 (by omega)
        have t9 := ce 9 (by omega)
        have t10 := ce 10 (by omega)
        have t11 := ce 11 (by omega)
        have t12 := ce 12 (by omega)
        have t13 := ce 13 (by omega)
        simp only [Event.cells, Call.cells, Nat.add_zero, List.getElem?_cons_zero, List.getElem?_cons_succ] at t0 t1 t2 t3 t4 t5 t6 t7 t8 t9 t10 t11 t12 t13
        have hj0 := Int.natCast_nonneg j
        have hj1 : (j : Int) < (l.length : Int) := by omega
        have hA := At.new wr (evA ⟨xc, xn, ⟨xo, xk, xt, xv, xe, xg, xh⟩, code, .slice B m9 d9, bg, pt, en⟩) 75
        have ka : Keep none_ wr (wr.alloc (.cells (evA ⟨xc, xn, ⟨xo, xk, xt, xv, xe, xg, xh⟩, code, .slice B m9 d9, bg, pt, en⟩) 75)) := Keep.alloc (Keep.refl _ _) _
        unfold evA at hA ka
        replace hSj := Lib.hid hSj
        clear ce hlr slS st hxok
        go_upto_region 10 with fail
        replace hA := Lib.hid hA
        generalize hwae : wr.alloc _ = wa at *
        replace hwae := Lib.hid hwae
        have hA2 := hA.out
        generalize hebe : wr.heap.size = ab at *
        replace hebe := Lib.hid hebe
        have hEC := evC_of (x := ⟨xc, xn, ⟨xo, xk, xt, xv, xe, xg, xh⟩, code, .slice B m9 d9, bg, pt, en⟩) hA2
        obtain ⟨q2, q3, q4, q5, q6, q7, q8, q9, q10⟩ := hEC
        simp only at q2 q3 q4 q5 q6 q7 q8 q9 q10
        have cxr := At.cell (Keep.at ka hxr (fun e => e))
        have z0 := cxr 0
        have z1 := cxr 1
        have z2 := cxr 2
        have z3 := cxr 3
        have z4 := cxr 4
        have z5 := cxr 5
        have z6 := cxr 6
        have z7 := cxr 7
        simp at z0 z1 z2 z3 z4 z5 z6 z7
        have lab := hA2.lt
        have lcb := (Keep.at ka hxr (fun e => e)).lt
        have cmy := cm.out wa ⟨xo, xk, xt, xv, xe, xg, xh⟩ hx9
        simp only [Call.cells] at cmy
        replace cmy := Lib.hid cmy
        clear t0 t1 t2 t3 t4 t5 t6 t7 t8 t9 t10 t11 t12 t13 s0 cxr hA2
        go_cut [49] from 34 to 49 (fun bv w' => bv = .bool (skipE c ⟨⟨xc, xn, ⟨xo, xk, xt, xv, xe, xg, xh⟩, code, .slice B m9 d9, bg, pt, en⟩, ps⟩) ∧ Keep none_ wa w')
        case first =>
          cases hb1 : (code == 2)
          · go_wp2_with fail
            go_meet
            exact ⟨by simp [skipE, hb1], Keep.refl _ _⟩
          · cases hb2 : (xo == 2)
            · go_wp2_with fail
              go_meet
              exact ⟨by simp [skipE, hb1, hb2], Keep.refl _ _⟩
            · go_wp2_with fail
              refine cmy.out.mono ?_
              rintro e wb ⟨rfl, kb⟩
              go_wp2_with fail
              go_meet
              exact ⟨by simp [skipE, hb1, hb2], kb⟩
        case rest =>
          obtain ⟨rfl, kb⟩ := hcut
          have kab := ka.trans kb
          have hxc := Keep.at kab hxr (fun e => e)
          have stc := stH.out.still kab
          have slSc := slS2.out.keep kab Off.none_
          have hAc := Keep.at kb hA.out (fun e => e)
          have hq := evC_of (x := ⟨xc, xn, ⟨xo, xk, xt, xv, xe, xg, xh⟩, code, .slice B m9 d9, bg, pt, en⟩) (show At wc ab (evA ⟨xc, xn, ⟨xo, xk, xt, xv, xe, xg, xh⟩, code, .slice B m9 d9, bg, pt, en⟩) 75 from hAc)
          clear q2 q3 q4 q5 q6 q7 q8 q9 q10 z0 z1 z2 z3 z4 z5 z6 z7 cmy lab lcb hxr slS2 hA ka
          cases hsk : skipE c ⟨⟨xc, xn, ⟨xo, xk, xt, xv, xe, xg, xh⟩, code, .slice B m9 d9, bg, pt, en⟩, ps⟩
          · have hne : ¬ mdlF mb mp tp lp vq lv ab := fun e => by have := (stH.out.mdl.lt ab e).2; rw [hebe.out] at this; omega
            have hncb : ∀ q, mdlF mb mp tp lp vq lv q → b ≤ q := fun q e => (stH.out.mdl.lt q e).1
            obtain ⟨nx, hnx⟩ : ∃ nx, nx = (doF c ⟨xo, xk, xt, xv, xe, xg, xh⟩ s).next s := ⟨_, rfl⟩
            have hstep2 : Hid (runF c ((byPoint l S).take (k + 1)) MS.zero = if ((doF c ⟨xo, xk, xt, xv, xe, xg, xh⟩ s).code == code && panesB (doF c ⟨xo, xk, xt, xv, xe, xg, xh⟩ s).R ps) = true then some nx else none) := Lib.hid (by
              rw [hstep.out, hnx]
              unfold stepF
              rw [hsk, if_neg (by decide)])
            have cdo : ∀ W', Keep none_ wc W' → Calls Tryz.prog 27 #[.pointer (some ⟨mb, 0, none⟩), .agg (Call.mk xo xk xt xv xe xg xh).cells.toArray] W' (fun e w1 => ∃ pA pn pd vq2 lv2 T2, e = .returned (.agg #[.int .i64 (doF c ⟨xo, xk, xt, xv, xe, xg, xh⟩ s).code, .slice pA pn pd]) ∧ Sl Pane.cells 7 w1 pA pn pd (doF c ⟨xo, xk, xt, xv, xe, xg, xh⟩ s).R ∧ LinSt w w1 b mb gp mp tp lp (k + 1) c vq2 lv2 T2 nx (fun q => ∃ a, (some ⟨sb, so, none⟩ : Option Addr) = some a ∧ a.block = q) ∧ (∀ a, pA = some a → W'.heap.size ≤ a.block) ∧ Keep (mdlF mb mp tp lp vq lv) W' w1) :=
              fun W' kz => (model_do (stc.still kz).mdl (stc.still kz).bl.2 (by omega) (by omega) (by have := stc.len; omega) hc h.out ⟨xo, xk, xt, xv, xe, xg, xh⟩ hx9).mono (fun e w1 hd => by rw [hnx]; exact (stc.still kz).did (by omega) hd)
            simp only [Call.cells] at cdo
            replace cdo := Lib.hid cdo
            have lab := hAc.lt
            generalize (doF c ⟨xo, xk, xt, xv, xe, xg, xh⟩ s).code = dc at *
            generalize (doF c ⟨xo, xk, xt, xv, xe, xg, xh⟩ s).R = dR at *
            obtain ⟨bq, hbq⟩ : ∃ bq, bq = (dc == code && panesB dR ps) := ⟨_, rfl⟩
            rw [← hbq] at hstep2
            replace hbq := Lib.hid hbq
            clear hsk hstep hnx stc
            replace hAc := Lib.hid hAc
            replace hxc := Lib.hid hxc
            go_wp2_with fail
            go_region_held3 (fun w' => w'.cell? ⟨ab, 2, none⟩ = some (.int .i64 xo) ∧ w'.cell? ⟨ab, 3, none⟩ = some (.string xk) ∧ w'.cell? ⟨ab, 4, none⟩ = some (.int .i64 xt) ∧ w'.cell? ⟨ab, 5, none⟩ = some (.int .i64 xv) ∧ w'.cell? ⟨ab, 6, none⟩ = some (.int .i64 xe) ∧
                w'.cell? ⟨ab, 7, none⟩ = some (.int .i64 xg) ∧ w'.cell? ⟨ab, 8, none⟩ = some (.int .i64 xh) ∧ w'.cell? ⟨ab, 9, none⟩ = some (.int .i64 code) ∧ w'.cell? ⟨ab, 10, none⟩ = some (.slice B m9 d9))
              (first
                | exact evS hAc.out (Keep.refl _ _).drew
                | (go_split_ands; exact evS hA7 (Keep.refl _ _))
                | (go_split_ands; exact evS hA6 (Keep.refl _ _))
                | fail)
              ((first
                | (go_at_call 27; refine (cdo.out _ (show Keep none_ wc _ from (by repeat' (first | assumption | with_reducible exact Keep.refl _ _ | with_reducible refine Keep.alloc ?_ _ | with_reducible refine Keep.drew ?_)))).mono ?_; rintro e w6 ⟨pA, pn, pd, vq2, lv2, T2, rfl, slR, st6, geR, k6⟩
                   have hA6 := Keep.at k6 (Keep.at (show Keep none_ wc _ from (by repeat' (first | assumption | with_reducible exact Keep.refl _ _ | with_reducible refine Keep.alloc ?_ _ | with_reducible refine Keep.drew ?_))) hAc.out (fun e => e)) hne
                   have cs := call_same w6 dc code slR (slB.keep st6.keep Off.none_)
                   rw [← hbq.out] at cs
                   replace cs := Lib.hid cs)
                | (go_at_call 36; refine cs.out.mono ?_; rintro e w7 ⟨rfl, k7⟩
                   have hA7 := Keep.at k7 hA6 (fun e => e))
                | fail))
            all_goals
              have hcb6 : ¬ mdlF mb mp tp lp vq lv cb := fun e => by have := hncb cb e; omega
              have hoff : ∀ q, (∃ a, (some ⟨sb, so, none⟩ : Option Addr) = some a ∧ a.block = q) → ¬ mdlF mb mp tp lp vq lv q := fun q e => stH.out.off e
              have hs7 : LinSt w w7 b mb gp mp tp lp (k + 1) c vq2 lv2 T2 nx (fun q => ∃ a, (some ⟨sb, so, none⟩ : Option Addr) = some a ∧ a.block = q) := st6.still k7
              have hx7 := Keep.at k7 (Keep.at k6 (Keep.at (show Keep none_ wc _ from (by repeat' (first | assumption | with_reducible exact Keep.refl _ _ | with_reducible refine Keep.alloc ?_ _ | with_reducible refine Keep.drew ?_))) hxc.out (fun e => e)) hcb6) (fun e => e)
              have sl7 := ((slSc.keep (show Keep none_ wc _ from (by repeat' (first | assumption | with_reducible exact Keep.refl _ _ | with_reducible refine Keep.alloc ?_ _ | with_reducible refine Keep.drew ?_))) Off.none_).keep k6 (fun a ha e => hoff _ ⟨a, ha, rfl⟩ e)).keep k7 Off.none_
              clear hA6 hA7 k6 k7 st6 slR slB geR cdo cs hq stH hAc hxc slSc hcb6 hoff hncb hne
              cases bq
              · have hno : LinDone w c l (.returned (.tuple #[.pointer none, errV 10])) w7 := .inr ⟨hF.out, S, hS.out, .inl ⟨runF_none (by rw [hstep2.out, if_neg (by decide)]), rfl, hs7.keep⟩⟩
                clear hstep2 hrun
                go_wp2_with fail
                go_ret2
                exact hno
              · have hst2 : Hid (runF c ((byPoint l S).take (k + 1)) MS.zero = some nx) := Lib.hid (by rw [hstep2.out, if_pos rfl])
                clear hstep2 hrun
                go_wp2_with fail
                go_roundw
                case rel => exact ⟨k + 1, _, _, _, nx, by go_num, by omega, hst2, hs7, sl7, hx7⟩
                case measure => simp [intOf]; omega
          · have hst2 : Hid (runF c ((byPoint l S).take (k + 1)) MS.zero = some s) := Lib.hid (by
              rw [hstep.out]
              unfold stepF
              rw [hsk, if_pos rfl])
            have st2 := stc.up (Nat.le_succ k)
            clear hq stc hAc hsk hstep
            go_wp2_with fail
            go_roundw
            case rel => exact ⟨k + 1, _, _, _, s, by go_num, by omega, hst2, st2, slSc, hxc⟩
            case measure => simp [intOf]; omega
      · obtain rfl : k = S.length := by omega
        have hin : ¬ ((S.length : Int) < (S.length : Int)) := by omega
        have hfin : LinDone w c l (.returned (.tuple #[.pointer (some ⟨mb, 0, none⟩), .nilIface])) wr := .inr ⟨hF.out, S, hS.out, .inr ⟨s, b, mb, gp, mp, tp, lp, vq, lv, T, by
          have := hrun.out
          rw [List.take_of_length_le (by rw [byPoint_len]; exact Nat.le_refl _)] at this
          exact this, rfl, (st.up (by omega)).turn (Keep.refl _ _) (fun q _ e => e.elim) (fun q e => e.elim)⟩⟩
        clear st slS hxr hrun
        go_wp2_with fail
        go_ret2
        exact hfin
end Go.Proofs.YtmioichjhiengaaGreat
