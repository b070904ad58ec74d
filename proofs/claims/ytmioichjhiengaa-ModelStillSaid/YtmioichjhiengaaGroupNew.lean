/-
  timer.New, group.New.
-/
import Derived.Test.YtmioichjhiengaaBaseOf
import Derived.Test.YtmioichjhiengaaBaseSl
import Derived.Test.YtmioichjhiengaaErr
import Derived.Deep.RegionHeld3
namespace Go.Proofs.Ytmioichjhiengaa
open Go.RowKit

/-- Block b is o. -/
def Has (w : World) (b : Nat) (o : Obj) : Prop := w.heap[b]? = some o
theorem Has.lt {w : World} {b : Nat} {o : Obj} (h : Has w b o) : b < w.heap.size := (Array.getElem?_eq_some_iff.1 h).1
theorem Has.keep {S : Nat → Prop} {w w' : World} {b : Nat} {o : Obj} (h : Has w b o) (kk : Keep S w w') (hs : ¬ S b) : Has w' b o := (kk.block b h.lt hs).trans h
theorem Has.new {w : World} {n : Nat} (hn : n = w.heap.size) (o : Obj) : Has (w.alloc o) n o := by
  subst hn
  show (w.heap.push _)[w.heap.size]? = _
  simp
theorem Has.alloc {w : World} {b : Nat} {o : Obj} (h : Has w b o) (o' : Obj) : Has (w.alloc o') b o := (Below.heap_alloc _ _ _ h.lt).trans h
theorem Has.drew {w : World} {b : Nat} {o : Obj} (h : Has w b o) : Has w.drew b o := h

theorem timer_new (w : World) : Calls Try.prog 64 #[] w fun e w' => e = .returned (.pointer (some ⟨w.heap.size, 0, none⟩)) ∧ w' = w.alloc (.cells #[.slice none 0 0] 148) := by
  go_enter Try.func64, Try.ntmps64
  go_wp2
  go_ret
  exact ⟨rfl, rfl⟩

theorem cells8 {a w : World} {b : Nat} {v0 v1 v2 v3 v4 v5 v6 v7 : Value} (hb : b < a.heap.size) (q0 : a.cell? ⟨b, 0, none⟩ = some v0) (q1 : a.cell? ⟨b, 1, none⟩ = some v1) (q2 : a.cell? ⟨b, 2, none⟩ = some v2) (q3 : a.cell? ⟨b, 3, none⟩ = some v3)
    (q4 : a.cell? ⟨b, 4, none⟩ = some v4) (q5 : a.cell? ⟨b, 5, none⟩ = some v5) (q6 : a.cell? ⟨b, 6, none⟩ = some v6) (q7 : a.cell? ⟨b, 7, none⟩ = some v7) (kk : Keep none_ a w) :
    w.cell? ⟨b, 0, none⟩ = some v0 ∧ w.cell? ⟨b, 1, none⟩ = some v1 ∧ w.cell? ⟨b, 2, none⟩ = some v2 ∧ w.cell? ⟨b, 3, none⟩ = some v3 ∧ w.cell? ⟨b, 4, none⟩ = some v4 ∧ w.cell? ⟨b, 5, none⟩ = some v5 ∧ w.cell? ⟨b, 6, none⟩ = some v6 ∧ w.cell? ⟨b, 7, none⟩ = some v7 ∧ Keep none_ a w :=
  ⟨(keep_cell kk hb).trans q0, (keep_cell kk hb).trans q1, (keep_cell kk hb).trans q2, (keep_cell kk hb).trans q3, (keep_cell kk hb).trans q4, (keep_cell kk hb).trans q5, (keep_cell kk hb).trans q6, (keep_cell kk hb).trans q7, kk⟩
/-- A new group: its struct, its map, its timers. -/
def NewGroup (c : Config) (w : World) (e : Ending) (w' : World) : Prop :=
  ∃ gp mp tp clock, e = .returned (.tuple #[.pointer (some ⟨gp, 0, none⟩), .nilIface]) ∧ Keep none_ w w' ∧ w.heap.size ≤ gp ∧ w.heap.size ≤ mp ∧ w.heap.size ≤ tp ∧
    At w' gp (c.cells ++ [Value.map (some mp), Value.pointer (some ⟨tp, 0, none⟩)]).toArray 112 ∧ Has w' mp (.map #[] clock) ∧ At w' tp #[.slice none 0 0] 148
theorem group_new_no (w : World) (c : Config) (hc : c.ok) (h : c.mayB = false) : Calls Try.prog 34 #[.agg c.cells.toArray] w fun e w' => e = .returned (.tuple #[.pointer none, errV 2]) ∧ Keep none_ w w' := by
  have c1 := fun w => assign_may w c hc
  rw [h] at c1
  replace c1 := Lib.hid c1
  clear h hc
  have kk : Keep none_ w (w.alloc (.cells c.cells.toArray 64)) := (by repeat' (first | assumption | with_reducible exact Keep.refl _ _ | with_reducible refine Keep.alloc ?_ _ | with_reducible refine Keep.drew ?_))
  simp only [Config.cells] at kk c1 ⊢
  go_enter Try.func34, Try.ntmps34
  go_wp2_with fail
  refine (c1.out _).mono ?_
  rintro e w1 ⟨rfl, k1⟩
  go_wp2_with fail
  go_ret2
  exact ⟨rfl, kk.trans k1⟩
set_option maxHeartbeats 1000000 in
theorem group_new (w : World) (c : Config) (hc : c.ok) (h : c.mayB = true) : Calls Try.prog 34 #[.agg c.cells.toArray] w (NewGroup c w) := by
  have c1 := fun w => assign_may w c hc
  rw [h] at c1
  replace c1 := Lib.hid c1
  have hmm := @run_makeMap Try.prog
  have kk : Keep none_ w (w.alloc (.cells c.cells.toArray 64)) := (by repeat' (first | assumption | with_reducible exact Keep.refl _ _ | with_reducible refine Keep.alloc ?_ _ | with_reducible refine Keep.drew ?_))
  have hx := At.new w c.cells.toArray 64
  clear h hc
  obtain ⟨kind, size, slide, gap, late, shards, groups, cap⟩ := c
  simp only [Config.cells] at kk c1 hx ⊢
  go_enter Try.func34, Try.ntmps34
  go_wp2_with fail
  refine (c1.out _).mono ?_
  rintro e w1 ⟨rfl, k1⟩
  have kw := kk.trans k1
  have hx1 := Keep.at k1 hx (fun e => e)
  have hxl := hx1.lt
  clear kk k1 hx c1
  go_wp2_with fail
  have q0 := At.cell hx1 0
  have q1 := At.cell hx1 1
  have q2 := At.cell hx1 2
  have q3 := At.cell hx1 3
  have q4 := At.cell hx1 4
  have q5 := At.cell hx1 5
  have q6 := At.cell hx1 6
  have q7 := At.cell hx1 7
  simp at q0 q1 q2 q3 q4 q5 q6 q7
  generalize w.heap.size = cb at *
  go_region_held3 (fun w' => w'.cell? ⟨cb, 0, none⟩ = some (.int .i64 kind) ∧ w'.cell? ⟨cb, 1, none⟩ = some (.int .i64 size) ∧ w'.cell? ⟨cb, 2, none⟩ = some (.int .i64 slide) ∧ w'.cell? ⟨cb, 3, none⟩ = some (.int .i64 gap) ∧
      w'.cell? ⟨cb, 4, none⟩ = some (.int .i64 late) ∧ w'.cell? ⟨cb, 5, none⟩ = some (.int .i64 shards) ∧ w'.cell? ⟨cb, 6, none⟩ = some (.int .i64 groups) ∧ w'.cell? ⟨cb, 7, none⟩ = some (.int .i64 cap) ∧ Keep none_ w1 w')
    (first
      | exact cells8 hxl q0 q1 q2 q3 q4 q5 q6 q7 (Keep.refl _ _).drew
      | (go_split_ands; exact cells8 hxl q0 q1 q2 q3 q4 q5 q6 q7 (by repeat' (first | assumption | with_reducible exact Keep.refl _ _ | with_reducible refine Keep.alloc ?_ _ | with_reducible refine Keep.drew ?_)))
      | fail)
    ((first
      | (go_at_call 64; refine (timer_new _).mono ?_; rintro e w' ⟨rfl, rfl⟩)
      | fail))
  · go_wp2_with fail
    go_ret2
    exact ⟨_, w1.heap.size, w1.heap.size + 1, 0, rfl, kw.trans (by repeat' (first | assumption | with_reducible exact Keep.refl _ _ | with_reducible refine Keep.alloc ?_ _ | with_reducible refine Keep.drew ?_)), by have := kw.size; simp; omega, by have := kw.size; simp; omega, by have := kw.size; simp; omega, (show At _ _ #[.int .i64 kind, .int .i64 size, .int .i64 slide, .int .i64 gap, .int .i64 late, .int .i64 shards, .int .i64 groups, .int .i64 cap, _, _] _ from (by repeat' (first | ((with_reducible refine At.newAt ?_ _ _); (first | (simp; done) | rfl)) | with_reducible refine At.drew ?_ | with_reducible refine At.alloc ?_ _))), (by repeat' (first | ((with_reducible refine Has.new ?_ _); (first | (simp; done) | rfl)) | with_reducible refine Has.drew ?_ | with_reducible refine Has.alloc ?_ _)), (by repeat' (first | ((with_reducible refine At.newAt ?_ _ _); (first | (simp; done) | rfl)) | with_reducible refine At.drew ?_ | with_reducible refine At.alloc ?_ _))⟩
  · go_wp2_with fail
    go_ret2
    exact ⟨_, w1.heap.size + 1, w1.heap.size, 0, rfl, kw.trans (by repeat' (first | assumption | with_reducible exact Keep.refl _ _ | with_reducible refine Keep.alloc ?_ _ | with_reducible refine Keep.drew ?_)), by have := kw.size; simp; omega, by have := kw.size; simp; omega, by have := kw.size; simp; omega, (show At _ _ #[.int .i64 kind, .int .i64 size, .int .i64 slide, .int .i64 gap, .int .i64 late, .int .i64 shards, .int .i64 groups, .int .i64 cap, _, _] _ from (by repeat' (first | ((with_reducible refine At.newAt ?_ _ _); (first | (simp; done) | rfl)) | with_reducible refine At.drew ?_ | with_reducible refine At.alloc ?_ _))), (by repeat' (first | ((with_reducible refine Has.new ?_ _); (first | (simp; done) | rfl)) | with_reducible refine Has.drew ?_ | with_reducible refine Has.alloc ?_ _)), (by repeat' (first | ((with_reducible refine At.newAt ?_ _ _); (first | (simp; done) | rfl)) | with_reducible refine At.drew ?_ | with_reducible refine At.alloc ?_ _))⟩
end Go.Proofs.Ytmioichjhiengaa
