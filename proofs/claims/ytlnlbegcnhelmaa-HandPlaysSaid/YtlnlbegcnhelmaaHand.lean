/-
  The contracts of package hand: a handoff.
-/
import Derived.Test.YtlnlbegcnhelmaaOwner
import Derived.Test.YtlnlbegcnhelmaaRing
namespace Go.Proofs.Ytlnlbegcnhelmaa
open Go.RowKit

/-- A pointer to a block's begin, or nil. -/
abbrev ptr (o : Option Nat) : Value := .pointer (o.map fun b => ⟨b, 0, none⟩)
structure Msg where
  kind : Int
  from_ : Int
  call : Call
  group : Int
  state : Option Nat
abbrev Msg.cells (m : Msg) : List Value := [.int .i64 m.kind, .int .i64 m.from_, .int .i64 m.call.op, .string m.call.key, .int .i64 m.call.time, .int .i64 m.call.value, .int .i64 m.call.fin, .int .i64 m.call.group, .int .i64 m.call.shard, .int .i64 m.group, ptr m.state]
attribute [go_sem] Msg.cells
def Call.zero : Call := ⟨0, ⟨#[]⟩, 0, 0, 0, 0, 0⟩
def Msg.zero : Msg := ⟨0, 0, Call.zero, 0, none⟩
def Msg.give (g : Int) : Msg := ⟨3, 0, Call.zero, g, none⟩
def Msg.have_ (g : Int) (s : Option Nat) : Msg := ⟨4, 0, Call.zero, g, s⟩
/-- What a worker did, its slices as values. -/
structure DidV where
  msg : Msg
  moved : Bool
  code : Int
  panes : Value
  out : Value
  state : Option Nat
abbrev DidV.cells (d : DidV) : List Value := [.int .i64 d.msg.kind, .int .i64 d.msg.from_, .int .i64 d.msg.call.op, .string d.msg.call.key, .int .i64 d.msg.call.time, .int .i64 d.msg.call.value, .int .i64 d.msg.call.fin, .int .i64 d.msg.call.group, .int .i64 d.msg.call.shard, .int .i64 d.msg.group, ptr d.msg.state,
  .bool d.moved, .int .i64 d.code, d.panes, d.out, ptr d.state]
attribute [go_sem] DidV.cells

structure HandS where
  group : Int
  from_ : Int
  to : Int
  phase : Int
  state : Option Nat
def HandAt (w : World) (p tp : Nat) (h : HandS) : Prop :=
  At w p #[.pointer (some ⟨tp, 0, none⟩), .int .i64 h.group, .int .i64 h.from_, .int .i64 h.to, .int .i64 h.phase, ptr h.state] 135

theorem hand_new_nil (w : World) (g to : Int) : Calls Try.prog 46 #[.pointer none, .int .i64 g, .int .i64 to] w fun e w' => e = .returned (.tuple #[.pointer none, errV 1]) ∧ w = w' := by
  go_enter Try.func46, Try.ntmps46
  go_wp2
  go_ret2
  exact ⟨rfl, rfl⟩
section
variable {w : World} {p g sh : Nat} {t : List Own}
theorem hand_new_none (h : TabAt w p g t sh) (i to : Int) (hi : i < 0 ∨ (t.length : Int) ≤ i) : Calls Try.prog 46 #[.pointer (some ⟨p, 0, none⟩), .int .i64 i, .int .i64 to] w fun e w' =>
    e = .returned (.tuple #[.pointer none, errV 6]) ∧ Keep none_ w w' := by
  have c1 := Lib.hid (owner_of_no h i hi)
  clear hi h
  go_enter Try.func46, Try.ntmps46
  go_wp2_with fail
  refine c1.out.mono ?_
  rintro e w1 ⟨rfl, k1⟩
  simp only [Own.zero, Own.cells]
  go_wp2_with fail
  go_ret2
  exact ⟨rfl, (by repeat' (first | assumption | with_reducible exact Keep.refl _ _ | with_reducible refine Keep.alloc ?_ _ | with_reducible refine Keep.drew ?_))⟩
theorem hand_new_busy (h : TabAt w p g t sh) (i : Nat) (to : Int) (hi : i < t.length) (hm : t[i].moving = true) : Calls Try.prog 46 #[.pointer (some ⟨p, 0, none⟩), .int .i64 i, .int .i64 to] w fun e w' =>
    e = .returned (.tuple #[.pointer none, errV 7]) ∧ Keep none_ w w' := by
  have c1 := Lib.hid (owner_of h i hi)
  obtain ⟨x, hx⟩ : ∃ x, x = t[i] := ⟨_, rfl⟩
  rw [← hx] at c1 hm
  clear hx h
  obtain ⟨s, v, m⟩ := x
  simp only at hm
  subst hm
  go_enter Try.func46, Try.ntmps46
  go_wp2_with fail
  refine c1.out.mono ?_
  rintro e w1 ⟨rfl, k1⟩
  simp only [Own.cells]
  go_wp2_with fail
  go_ret2
  exact ⟨rfl, (by repeat' (first | assumption | with_reducible exact Keep.refl _ _ | with_reducible refine Keep.alloc ?_ _ | with_reducible refine Keep.drew ?_))⟩
theorem hand_new_arg (h : TabAt w p g t sh) (i : Nat) (to : Int) (hi : i < t.length) (hm : t[i].moving = false) (ht : to < 0 ∨ (sh : Int) ≤ to) : Calls Try.prog 46 #[.pointer (some ⟨p, 0, none⟩), .int .i64 i, .int .i64 to] w fun e w' =>
    e = .returned (.tuple #[.pointer none, errV 1]) ∧ Keep none_ w w' := by
  have c1 := Lib.hid (owner_of h i hi)
  have c2 := Lib.hid (fun w' (k : Keep none_ w w') => owner_shards (h.keep k (fun e => e) (fun e => e)))
  obtain ⟨x, hx⟩ : ∃ x, x = t[i] := ⟨_, rfl⟩
  rw [← hx] at c1 hm
  clear hx h
  obtain ⟨s, v, m⟩ := x
  simp only at hm
  subst hm
  rcases ht with ht | ht
  · go_enter Try.func46, Try.ntmps46
    go_wp2_with fail
    refine c1.out.mono ?_
    rintro e w1 ⟨rfl, k1⟩
    simp only [Own.cells]
    go_wp2_with fail
    go_ret2
    exact ⟨rfl, (by repeat' (first | assumption | with_reducible exact Keep.refl _ _ | with_reducible refine Keep.alloc ?_ _ | with_reducible refine Keep.drew ?_))⟩
  · have h0 : ¬ to < 0 := by omega
    have h1 : decide ((sh : Int) ≤ to) = true := by simpa using ht
    go_enter Try.func46, Try.ntmps46
    go_wp2_with fail
    refine c1.out.mono ?_
    rintro e w1 ⟨rfl, k1⟩
    simp only [Own.cells]
    go_wp2_with fail
    refine (c2.out _ (by repeat' (first | assumption | with_reducible exact Keep.refl _ _ | with_reducible refine Keep.alloc ?_ _ | with_reducible refine Keep.drew ?_))).mono ?_
    rintro e w2 ⟨rfl, rfl⟩
    go_wp2_with fail
    go_ret2
    exact ⟨rfl, (by repeat' (first | assumption | with_reducible exact Keep.refl _ _ | with_reducible refine Keep.alloc ?_ _ | with_reducible refine Keep.drew ?_))⟩
def NewHand (p g sh : Nat) (t : List Own) (i : Nat) (hi : i < t.length) (to : Int) (w : World) (e : Ending) (w' : World) : Prop :=
  ∃ hp, e = .returned (.tuple #[.pointer (some ⟨hp, 0, none⟩), .nilIface]) ∧ Keep (one g) w w' ∧ w.heap.size ≤ hp ∧ HandAt w' hp p ⟨i, t[i].shard, to, 0, none⟩ ∧ TabAt w' p g (t.set i { t[i] with moving := true }) sh
theorem hand_new (h : TabAt w p g t sh) (i to : Nat) (hi : i < t.length) (hm : t[i].moving = false) (ht : to < sh) : Calls Try.prog 46 #[.pointer (some ⟨p, 0, none⟩), .int .i64 i, .int .i64 to] w (NewHand p g sh t i hi to w) := by
  have c1 := Lib.hid (owner_of h i hi)
  have c2 := Lib.hid (fun w' (k : Keep none_ w w') => owner_shards (h.keep k (fun e => e) (fun e => e)))
  have c3 := Lib.hid (fun w' (k : Keep none_ w w') => owner_freeze (h.keep k (fun e => e) (fun e => e)) i hi hm)
  have hgl := h.row.lt
  have hshi := h.shi
  have hce : t[i].cells.toArray = #[.int .i64 t[i].shard, .int .i64 t[i].version, .bool false] := by simp [Own.cells, hm]
  rw [hce] at c1
  clear h hm
  have h1 : decide ((sh : Int) ≤ to) = false := by simpa using ht
  go_enter Try.func46, Try.ntmps46
  go_wp2_with fail
  refine c1.out.mono ?_
  rintro e w1 ⟨rfl, k1⟩
  have hx := At.new w1 #[.int .i64 t[i].shard, .int .i64 t[i].version, .bool false] 54
  clear hce
  go_wp2_with fail
  refine (c2.out _ (by repeat' (first | assumption | with_reducible exact Keep.refl _ _ | with_reducible refine Keep.alloc ?_ _ | with_reducible refine Keep.drew ?_))).mono ?_
  rintro e w2 ⟨rfl, rfl⟩
  go_wp2_with fail
  have hne : ¬ one g w1.heap.size := fun e => by unfold one at e; have := k1.size; omega
  refine (c3.out _ (by repeat' (first | assumption | with_reducible exact Keep.refl _ _ | with_reducible refine Keep.alloc ?_ _ | with_reducible refine Keep.drew ?_))).mono ?_
  rintro e w3 ⟨rfl, k3, tab⟩
  have hx3 := Keep.at k3 hx hne
  have cx := At.cell hx3
  have kk : Keep (one g) w w3 := (Keep.of_none (Keep.alloc k1 _)).trans k3
  clear hx c1 c2 c3 k3 k1
  go_wp2_with fail
  go_ret2
  exact ⟨_, rfl, Keep.alloc kk _, kk.size, At.new w3 _ _, tab.keep (Keep.alloc (Keep.refl none_ w3) _) (fun e => e) (fun e => e)⟩

/-! ### The steps of a handoff -/
variable {hp : Nat} {h : HandS}
def HandAsk (h : HandS) : Int × Msg × Bool := if h.phase = 0 then (h.from_, Msg.give h.group, true) else if h.phase = 2 then (h.to, Msg.have_ h.group h.state, true) else (0, Msg.zero, false)
theorem hand_over (hh : HandAt w hp p h) : Calls Try.prog 49 #[.pointer (some ⟨hp, 0, none⟩)] w fun e w' => e = .returned (.bool (h.phase == 4)) ∧ w = w' := by
  have cp := At.cell hh
  go_enter Try.func49, Try.ntmps49
  go_wp2
  go_ret
  exact ⟨rfl, rfl⟩
theorem hand_sent_no (hh : HandAt w hp p h) (h0 : h.phase ≠ 0) (h2 : h.phase ≠ 2) : Calls Try.prog 50 #[.pointer (some ⟨hp, 0, none⟩)] w fun e w' => e = .returned (.bool false) ∧ w = w' := by
  have cp := At.cell hh
  have b0 : (h.phase != 0) = true := by simp [h0]
  have b2 : (h.phase != 2) = true := by simp [h2]
  clear h0 h2
  go_enter Try.func50, Try.ntmps50
  go_wp2
  go_ret
  exact ⟨rfl, rfl⟩
theorem hand_sent (hh : HandAt w hp p h) (h02 : h.phase = 0 ∨ h.phase = 2) : Calls Try.prog 50 #[.pointer (some ⟨hp, 0, none⟩)] w fun e w' => e = .returned (.bool true) ∧ Keep (one hp) w w' ∧ HandAt w' hp p { h with phase := h.phase + 1 } := by
  obtain ⟨gr, fr, to, ph, st⟩ := h
  simp only at h02
  unfold HandAt at hh ⊢
  rcases h02 with rfl | rfl
  · have cp := At.cell hh
    have fp := At.frozen hh
    go_enter Try.func50, Try.ntmps50
    go_wp2
    go_ret
    exact ⟨rfl, Keep.set1 (Keep.refl _ _) _, At.set hh 4 (.int .i64 1)⟩
  · have cp := At.cell hh
    have fp := At.frozen hh
    go_enter Try.func50, Try.ntmps50
    go_wp2
    go_ret
    exact ⟨rfl, Keep.set1 (Keep.refl _ _) _, At.set hh 4 (.int .i64 3)⟩
theorem hand_ask (hh : HandAt w hp p h) : Calls Try.prog 48 #[.pointer (some ⟨hp, 0, none⟩)] w fun e w' =>
    e = .returned (.tuple #[.int .i64 (HandAsk h).1, .agg (HandAsk h).2.1.cells.toArray, .bool (HandAsk h).2.2]) ∧ Keep none_ w w' := by
  obtain ⟨gr, fr, to, ph, st⟩ := h
  unfold HandAsk
  by_cases h0 : ph = 0
  · subst h0
    simp only [if_true, Msg.give, Msg.cells, Call.zero]
    unfold HandAt at hh
    have k1 : Keep none_ w (w.alloc (.cells Msg.zero.cells.toArray 85)) := (by repeat' (first | assumption | with_reducible exact Keep.refl _ _ | with_reducible refine Keep.alloc ?_ _ | with_reducible refine Keep.drew ?_))
    have ht := At.new w Msg.zero.cells.toArray 85
    have hh1 := Keep.at k1 hh (fun e => e)
    have hne : hp ≠ w.heap.size := fun e => by have := hh.lt; omega
    simp only [Msg.zero, Msg.cells, Call.zero, ptr, Option.map_none] at k1 ht hh1
    have cp := At.cell hh1
    go_enter Try.func48, Try.ntmps48
    go_wp2_with fail
    generalize w.alloc _ = w1 at *
    obtain ⟨ι, hne2, f, hf0, hfk, hfa⟩ := class_of none_ w1
    have cf : ∀ n i, (f n).cell? ⟨hp, i, none⟩ = _ := fun n => At.cell (Keep.at (hfk n) hh1 (fun e => e))
    refine wp_region_class_tail f 10 (by kernel_rfl) (by kernel_rfl) hf0 ?_
    simp only [List.take_succ_cons, List.take_zero, List.drop_succ_cons, List.drop_zero]
    repeat (go_big_quiet_step (fail))
    refine wpQuiet_nil ?_
    intro mm
    have k2 := k1.trans (hfk mm)
    have ht2 := Keep.at (hfk mm) ht (fun e => e)
    clear cf hf0 hfk hfa ht k1 hh1 cp
    generalize f mm = w2 at *
    have ct := At.cell ht2
    have ft := At.frozen ht2
    go_wp2_with fail
    have h3 := At.whole ht2 [.int .i64 3, .int .i64 0, .int .i64 0, .string ⟨#[]⟩, .int .i64 0, .int .i64 0, .int .i64 0, .int .i64 0, .int .i64 0, .int .i64 gr, .pointer none] rfl
    have k3 := Keep.setL (p := w.heap.size) (fun h => absurd h (Nat.lt_irrefl _)) [.int .i64 3, .int .i64 0, .int .i64 0, .string ⟨#[]⟩, .int .i64 0, .int .i64 0, .int .i64 0, .int .i64 0, .int .i64 0, .int .i64 gr, .pointer none] (o := 0) k2
    simp only [stores, Nat.zero_add, Nat.reduceAdd, Option.map_none] at h3 k3
    clear ct ft ht2 k2
    generalize World.setCell _ _ _ = w3 at h3 k3 ⊢
    have ct := At.cell h3
    clear h3
    exact bodyPost_ret (v := .tuple #[.int .i64 fr, .agg #[.int .i64 3, .int .i64 0, .int .i64 0, .string ⟨#[]⟩, .int .i64 0, .int .i64 0, .int .i64 0, .int .i64 0, .int .i64 0, .int .i64 gr, .pointer none], .bool true]) (by simp [results, Try.results48, go_sem, ct]) rfl ⟨rfl, k3⟩
  · have b0 : (ph == 0) = false := by simp [h0]
    rw [if_neg h0]
    by_cases h2 : ph = 2
    · subst h2
      simp only [if_true, Msg.have_, Msg.cells, Call.zero]
      unfold HandAt at hh
      have k1 : Keep none_ w (w.alloc (.cells Msg.zero.cells.toArray 85)) := (by repeat' (first | assumption | with_reducible exact Keep.refl _ _ | with_reducible refine Keep.alloc ?_ _ | with_reducible refine Keep.drew ?_))
      have ht := At.new w Msg.zero.cells.toArray 85
      have hh1 := Keep.at k1 hh (fun e => e)
      have hne : hp ≠ w.heap.size := fun e => by have := hh.lt; omega
      simp only [Msg.zero, Msg.cells, Call.zero, ptr, Option.map_none] at k1 ht hh1
      have cp := At.cell hh1
      clear h0
      go_enter Try.func48, Try.ntmps48
      go_wp2_with fail
      generalize w.alloc _ = w1 at *
      obtain ⟨ι, hne2, f, hf0, hfk, hfa⟩ := class_of none_ w1
      have cf : ∀ n i, (f n).cell? ⟨hp, i, none⟩ = _ := fun n => At.cell (Keep.at (hfk n) hh1 (fun e => e))
      refine wp_region_class_tail f 14 (by kernel_rfl) (by kernel_rfl) hf0 ?_
      simp only [List.take_succ_cons, List.take_zero, List.drop_succ_cons, List.drop_zero]
      repeat (go_big_quiet_step (fail))
      refine wpQuiet_nil ?_
      intro mm
      have k2 := k1.trans (hfk mm)
      have ht2 := Keep.at (hfk mm) ht (fun e => e)
      clear cf hf0 hfk hfa ht k1 hh1 cp
      generalize f mm = w2 at *
      have ct := At.cell ht2
      have ft := At.frozen ht2
      go_wp2_with fail
      have h3 := At.whole ht2 [.int .i64 4, .int .i64 0, .int .i64 0, .string ⟨#[]⟩, .int .i64 0, .int .i64 0, .int .i64 0, .int .i64 0, .int .i64 0, .int .i64 gr, ptr st] rfl
      have k3 := Keep.setL (p := w.heap.size) (fun h => absurd h (Nat.lt_irrefl _)) [.int .i64 4, .int .i64 0, .int .i64 0, .string ⟨#[]⟩, .int .i64 0, .int .i64 0, .int .i64 0, .int .i64 0, .int .i64 0, .int .i64 gr, ptr st] (o := 0) k2
      simp only [stores, Nat.zero_add, Nat.reduceAdd, Option.map_none] at h3 k3
      clear ct ft ht2 k2
      generalize World.setCell _ _ _ = w3 at h3 k3 ⊢
      have ct := At.cell h3
      clear h3
      exact bodyPost_ret (v := .tuple #[.int .i64 to, .agg #[.int .i64 4, .int .i64 0, .int .i64 0, .string ⟨#[]⟩, .int .i64 0, .int .i64 0, .int .i64 0, .int .i64 0, .int .i64 0, .int .i64 gr, ptr st], .bool true]) (by simp [results, Try.results48, go_sem, ct]) rfl ⟨rfl, k3⟩
    · have b2 : (ph == 2) = false := by simp [h2]
      rw [if_neg h2]
      simp only [Msg.zero, Msg.cells, Call.zero, ptr, Option.map_none]
      unfold HandAt at hh
      have k1 : Keep none_ w (w.alloc (.cells Msg.zero.cells.toArray 85)) := (by repeat' (first | assumption | with_reducible exact Keep.refl _ _ | with_reducible refine Keep.alloc ?_ _ | with_reducible refine Keep.drew ?_))
      have hh1 := Keep.at k1 hh (fun e => e)
      have hne : hp ≠ w.heap.size := fun e => by have := hh.lt; omega
      simp only [Msg.zero, Msg.cells, Call.zero, ptr, Option.map_none] at k1 hh1
      have cp := At.cell hh1
      clear h0 h2
      go_enter Try.func48, Try.ntmps48
      go_wp2_with fail
      exact bodyPost_ret (v := .tuple #[.int .i64 0, .agg #[.int .i64 0, .int .i64 0, .int .i64 0, .string ⟨#[]⟩, .int .i64 0, .int .i64 0, .int .i64 0, .int .i64 0, .int .i64 0, .int .i64 0, .pointer none], .bool false]) (by simp [results, Try.results48, go_sem]) rfl ⟨rfl, (by repeat' (first | assumption | with_reducible exact Keep.refl _ _ | with_reducible refine Keep.alloc ?_ _ | with_reducible refine Keep.drew ?_))⟩

theorem hand_did_other (hh : HandAt w hp p h) (d : DidV) (hg : d.msg.group ≠ h.group) : Calls Try.prog 51 #[.pointer (some ⟨hp, 0, none⟩), .agg d.cells.toArray] w fun e w' => e = .returned (.bool false) ∧ Keep none_ w w' := by
  have k1 : Keep none_ w (w.alloc (.cells d.cells.toArray 91)) := (by repeat' (first | assumption | with_reducible exact Keep.refl _ _ | with_reducible refine Keep.alloc ?_ _ | with_reducible refine Keep.drew ?_))
  have hd := At.new w d.cells.toArray 91
  unfold HandAt at hh
  try unfold HandAt
  have hh1 := Keep.at k1 hh (fun e => e)
  clear hh
  obtain ⟨gr, fr, hto_, ph, st⟩ := h
  obtain ⟨⟨kind, frm, ⟨c1, c2, c3, c4, c5, c6, c7⟩, gg, mst⟩, mv, code, pv, ov, st2⟩ := d
  simp only [DidV.cells] at k1 hd hh1 ⊢
  simp only at *
  have bg : (gg != gr) = true := by simp [hg]
  clear hg
  go_enter Try.func51, Try.ntmps51
  go_wp2_with fail
  generalize w.alloc _ = w1 at *
  obtain ⟨ι, hne2, f, hf0, hfk, hfa⟩ := class_of none_ w1
  have cf : ∀ n i, (f n).cell? ⟨hp, i, none⟩ = _ := fun n => At.cell (Keep.at (hfk n) hh1 (fun e => e))
  have cd : ∀ n i, (f n).cell? ⟨_, i, none⟩ = _ := fun n => At.cell (Keep.at (hfk n) hd (fun e => e))
  refine wp_region_class f (by kernel_rfl) (by kernel_rfl) hf0 ?_
  repeat (go_big_quiet_step (fail))
  refine wpQuiet_nil ?_
  rintro _ ⟨n, rfl⟩
  have k2 := k1.trans (hfk n)
  have hh2 := Keep.at (hfk n) hh1 (fun e => e)
  have hd2 := Keep.at (hfk n) hd (fun e => e)
  clear cf cd hf0 hfk hfa k1 hh1 hd
  generalize f n = w2 at *
  have cp := At.cell hh2
  have cd := At.cell hd2
  go_wp2_with fail
  go_ret
  exact ⟨rfl, k2⟩
theorem hand_did_not (hh : HandAt w hp p h) (d : DidV) (hg : d.msg.group = h.group) (h1 : ¬ (h.phase = 1 ∧ d.msg.kind = 3)) (h2 : ¬ (h.phase = 3 ∧ d.msg.kind = 4)) :
    Calls Try.prog 51 #[.pointer (some ⟨hp, 0, none⟩), .agg d.cells.toArray] w fun e w' => e = .returned (.bool false) ∧ Keep none_ w w' := by
  have k1 : Keep none_ w (w.alloc (.cells d.cells.toArray 91)) := (by repeat' (first | assumption | with_reducible exact Keep.refl _ _ | with_reducible refine Keep.alloc ?_ _ | with_reducible refine Keep.drew ?_))
  have hd := At.new w d.cells.toArray 91
  unfold HandAt at hh
  try unfold HandAt
  have hh1 := Keep.at k1 hh (fun e => e)
  clear hh
  obtain ⟨gr, fr, hto_, ph, st⟩ := h
  obtain ⟨⟨kind, frm, ⟨c1, c2, c3, c4, c5, c6, c7⟩, gg, mst⟩, mv, code, pv, ov, st2⟩ := d
  simp only [DidV.cells] at k1 hd hh1 ⊢
  simp only at *
  subst hg
  have bg : (gg != gg) = false := by simp
  by_cases p1 : ph = 1
  · subst p1
    have b3 : (kind == 3) = false := by simp; intro e; exact h1 ⟨rfl, e⟩
    clear h1 h2
    go_enter Try.func51, Try.ntmps51
    go_wp2_with fail
    generalize w.alloc _ = w1 at *
    obtain ⟨ι, hne2, f, hf0, hfk, hfa⟩ := class_of none_ w1
    have cf : ∀ n i, (f n).cell? ⟨hp, i, none⟩ = _ := fun n => At.cell (Keep.at (hfk n) hh1 (fun e => e))
    have cd : ∀ n i, (f n).cell? ⟨_, i, none⟩ = _ := fun n => At.cell (Keep.at (hfk n) hd (fun e => e))
    refine wp_region_class f (by kernel_rfl) (by kernel_rfl) hf0 ?_
    repeat (go_big_quiet_step (fail))
    refine wpQuiet_nil ?_
    rintro _ ⟨n, rfl⟩
    have k2 := k1.trans (hfk n)
    have hh2 := Keep.at (hfk n) hh1 (fun e => e)
    have hd2 := Keep.at (hfk n) hd (fun e => e)
    clear cf cd hf0 hfk hfa k1 hh1 hd
    generalize f n = w2 at *
    have cp := At.cell hh2
    have cd := At.cell hd2
    go_wp2_with fail
    go_ret
    exact ⟨rfl, k2⟩
  · have b1 : (ph == 1) = false := by simp [p1]
    by_cases p3 : ph = 3
    · subst p3
      have b4 : (kind == 4) = false := by simp; intro e; exact h2 ⟨rfl, e⟩
      clear h1 h2 p1
      go_enter Try.func51, Try.ntmps51
      go_wp2_with fail
      generalize w.alloc _ = w1 at *
      obtain ⟨ι, hne2, f, hf0, hfk, hfa⟩ := class_of none_ w1
      have cf : ∀ n i, (f n).cell? ⟨hp, i, none⟩ = _ := fun n => At.cell (Keep.at (hfk n) hh1 (fun e => e))
      have cd : ∀ n i, (f n).cell? ⟨_, i, none⟩ = _ := fun n => At.cell (Keep.at (hfk n) hd (fun e => e))
      refine wp_region_class f (by kernel_rfl) (by kernel_rfl) hf0 ?_
      repeat (go_big_quiet_step (fail))
      refine wpQuiet_nil ?_
      rintro _ ⟨n, rfl⟩
      have k2 := k1.trans (hfk n)
      have hh2 := Keep.at (hfk n) hh1 (fun e => e)
      have hd2 := Keep.at (hfk n) hd (fun e => e)
      clear cf cd hf0 hfk hfa k1 hh1 hd
      generalize f n = w2 at *
      have cp := At.cell hh2
      have cd := At.cell hd2
      go_wp2_with fail
      go_ret
      exact ⟨rfl, k2⟩
    · have b3 : (ph == 3) = false := by simp [p3]
      clear h1 h2 p1 p3
      go_enter Try.func51, Try.ntmps51
      go_wp2_with fail
      generalize w.alloc _ = w1 at *
      obtain ⟨ι, hne2, f, hf0, hfk, hfa⟩ := class_of none_ w1
      have cf : ∀ n i, (f n).cell? ⟨hp, i, none⟩ = _ := fun n => At.cell (Keep.at (hfk n) hh1 (fun e => e))
      have cd : ∀ n i, (f n).cell? ⟨_, i, none⟩ = _ := fun n => At.cell (Keep.at (hfk n) hd (fun e => e))
      refine wp_region_class f (by kernel_rfl) (by kernel_rfl) hf0 ?_
      repeat (go_big_quiet_step (fail))
      refine wpQuiet_nil ?_
      rintro _ ⟨n, rfl⟩
      have k2 := k1.trans (hfk n)
      have hh2 := Keep.at (hfk n) hh1 (fun e => e)
      have hd2 := Keep.at (hfk n) hd (fun e => e)
      clear cf cd hf0 hfk hfa k1 hh1 hd
      generalize f n = w2 at *
      have cp := At.cell hh2
      have cd := At.cell hd2
      go_wp2_with fail
      go_ret
      exact ⟨rfl, k2⟩
theorem hand_did_give (hh : HandAt w hp p h) (d : DidV) (hg : d.msg.group = h.group) (h1 : h.phase = 1) (h2 : d.msg.kind = 3) :
    Calls Try.prog 51 #[.pointer (some ⟨hp, 0, none⟩), .agg d.cells.toArray] w fun e w' => e = .returned (.bool true) ∧ Keep (one hp) w w' ∧ HandAt w' hp p { h with phase := 2, state := d.state } := by
  have k1 : Keep none_ w (w.alloc (.cells d.cells.toArray 91)) := (by repeat' (first | assumption | with_reducible exact Keep.refl _ _ | with_reducible refine Keep.alloc ?_ _ | with_reducible refine Keep.drew ?_))
  have hd := At.new w d.cells.toArray 91
  unfold HandAt at hh
  try unfold HandAt
  have hh1 := Keep.at k1 hh (fun e => e)
  clear hh
  obtain ⟨gr, fr, hto_, ph, st⟩ := h
  obtain ⟨⟨kind, frm, ⟨c1, c2, c3, c4, c5, c6, c7⟩, gg, mst⟩, mv, code, pv, ov, st2⟩ := d
  simp only [DidV.cells] at k1 hd hh1 ⊢
  simp only at *
  subst hg
  subst h1
  subst h2
  have bg : (gg != gg) = false := by simp
  go_enter Try.func51, Try.ntmps51
  go_wp2_with fail
  generalize w.alloc _ = w1 at *
  obtain ⟨ι, hne2, f, hf0, hfk, hfa⟩ := class_of none_ w1
  have cf : ∀ n i, (f n).cell? ⟨hp, i, none⟩ = _ := fun n => At.cell (Keep.at (hfk n) hh1 (fun e => e))
  have cd : ∀ n i, (f n).cell? ⟨_, i, none⟩ = _ := fun n => At.cell (Keep.at (hfk n) hd (fun e => e))
  refine wp_region_class f (by kernel_rfl) (by kernel_rfl) hf0 ?_
  repeat (go_big_quiet_step (fail))
  refine wpQuiet_nil ?_
  rintro _ ⟨n, rfl⟩
  have k2 := k1.trans (hfk n)
  have hh2 := Keep.at (hfk n) hh1 (fun e => e)
  have hd2 := Keep.at (hfk n) hd (fun e => e)
  clear cf cd hf0 hfk hfa k1 hh1 hd
  generalize f n = w2 at *
  have cp := At.cell hh2
  have cd := At.cell hd2
  have fp := At.frozen hh2
  go_wp2_with fail
  go_ret
  refine ⟨rfl, ?_, ?_⟩
  · exact Keep.set1 (Keep.set1 k2.of_none _) _
  · exact At.set (At.set hh2 5 (ptr st2)) 4 (.int .i64 2)
theorem hand_did_have (hh : HandAt w hp p h) (d : DidV) (hg : d.msg.group = h.group) (h1 : h.phase = 3) (h2 : d.msg.kind = 4) (tab : TabAt w p g t sh) (i to : Nat) (hi : i < t.length) (hgi : h.group = i) (hto : h.to = to) (hts : to < sh)
    (hm : t[i].moving = true) (hv0 : 0 ≤ t[i].version) (hv : t[i].version < 1000000000) (hpp : hp ≠ p) (hpg : hp ≠ g) :
    Calls Try.prog 51 #[.pointer (some ⟨hp, 0, none⟩), .agg d.cells.toArray] w fun e w' => e = .returned (.bool true) ∧ Keep (two hp g) w w' ∧ HandAt w' hp p { h with phase := 4 } ∧ TabAt w' p g (t.set i ⟨to, t[i].version + 1, false⟩) sh := by
  have k1 : Keep none_ w (w.alloc (.cells d.cells.toArray 91)) := (by repeat' (first | assumption | with_reducible exact Keep.refl _ _ | with_reducible refine Keep.alloc ?_ _ | with_reducible refine Keep.drew ?_))
  have hd := At.new w d.cells.toArray 91
  unfold HandAt at hh
  try unfold HandAt
  have hh1 := Keep.at k1 hh (fun e => e)
  clear hh
  obtain ⟨gr, fr, hto_, ph, st⟩ := h
  obtain ⟨⟨kind, frm, ⟨c1, c2, c3, c4, c5, c6, c7⟩, gg, mst⟩, mv, code, pv, ov, st2⟩ := d
  simp only [DidV.cells] at k1 hd hh1 ⊢
  simp only at *
  subst hg
  subst h1
  subst h2
  subst hgi
  subst hto
  have bg : ((i : Int) != (i : Int)) = false := by simp
  go_enter Try.func51, Try.ntmps51
  go_wp2_with fail
  generalize w.alloc _ = w1 at *
  obtain ⟨ι, hne2, f, hf0, hfk, hfa⟩ := class_of none_ w1
  have cf : ∀ n i, (f n).cell? ⟨hp, i, none⟩ = _ := fun n => At.cell (Keep.at (hfk n) hh1 (fun e => e))
  have cd : ∀ n i, (f n).cell? ⟨_, i, none⟩ = _ := fun n => At.cell (Keep.at (hfk n) hd (fun e => e))
  refine wp_region_class f (by kernel_rfl) (by kernel_rfl) hf0 ?_
  repeat (go_big_quiet_step (fail))
  refine wpQuiet_nil ?_
  rintro _ ⟨n, rfl⟩
  have k2 := k1.trans (hfk n)
  have hh2 := Keep.at (hfk n) hh1 (fun e => e)
  have hd2 := Keep.at (hfk n) hd (fun e => e)
  clear cf cd hf0 hfk hfa k1 hh1 hd
  generalize f n = w2 at *
  have cp := At.cell hh2
  have cd := At.cell hd2
  have fp := At.frozen hh2
  go_wp2_with fail
  have tab2 := tab.keep (k2.of_none.trans (Keep.set1 (p := hp) (i := 4) (Keep.refl _ w2) (.int .i64 4))) (fun e => hpp e.symm) (fun e => hpg e.symm)
  have hh3 := At.set hh2 4 (.int .i64 4)
  have k3 : Keep (one hp) w _ := Keep.set1 (p := hp) (i := 4) k2.of_none (.int .i64 4)
  clear cp fp cd hh2 k2 hd2
  generalize w2.setCell _ _ = w3 at *
  obtain ⟨ι, hne2, f, hf0, hfk, hfa⟩ := class_of none_ w3
  have cf : ∀ n i, (f n).cell? ⟨hp, i, none⟩ = _ := fun n => At.cell (Keep.at (hfk n) hh3 (fun e => e))
  refine wp_region_class_tail f 12 (by kernel_rfl) (by kernel_rfl) hf0 ?_
  simp only [List.take_succ_cons, List.take_zero, List.drop_succ_cons, List.drop_zero]
  repeat (go_big_quiet_step (fail))
  refine wpQuiet_nil ?_
  intro mm
  have hh4 := Keep.at (hfk mm) hh3 (fun e => e)
  have tab4 := tab2.keep (hfk mm) (fun e => e) (fun e => e)
  have k4 := k3.trans (hfk mm).of_none
  clear cf hf0 hfk hfa hh3 tab2 k3
  generalize f mm = w4 at *
  have c9 := Lib.hid (owner_publish tab4 i to hi hts hm hv0 hv)
  clear tab tab4 hm
  go_wp2_with fail
  refine c9.out.mono ?_
  rintro e w5 ⟨rfl, k5, tab5⟩
  have hh5 := Keep.at k5 hh4 hpg
  go_wp2_with fail
  go_ret
  exact ⟨rfl, (k4.mono (fun _ _ e => .inl e)).trans (k5.mono (fun _ _ e => .inr e)), hh5, tab5⟩
end
end Go.Proofs.Ytlnlbegcnhelmaa
