/-
  The contracts of package call.
-/
import Derived.Test.YtmioichjhiengaaBaseOf
import Derived.Test.YtmioichjhiengaaFnv
namespace Go.Proofs.Ytmioichjhiengaa
open Go.RowKit

def Call.keyedB (x : Call) : Bool := x.op == 1 || x.op == 2 || x.op == 4 || x.op == 5
def in0 (n m : Int) : Bool := decide (0 ≤ n) && decide (n < m)
/-- What a call must be beside its config. -/
def Call.restB (c : Config) (x : Call) : Bool :=
  if x.keyedB && !mayK x.key then false else if x.op = 4 then decide (x.time < x.fin) else if x.op = 6 then in0 x.group c.groups && in0 x.shard c.shards else true
def Call.mayB (c : Config) (x : Call) : Bool := c.mayB && decide (1 ≤ x.op) && decide (x.op ≤ 7) && x.restB c
def Call.groupI (c : Config) (x : Call) : Int := if x.keyedB then groupOf x.key c.groups else if x.op = 6 then x.group else -1

theorem call_keyed (w : World) (x : Call) : Calls Try.prog 75 #[.agg x.cells.toArray] w fun e w' => e = .returned (.bool x.keyedB) ∧ Keep none_ w w' := by
  obtain ⟨op, key, time, value, fin, group, shard⟩ := x
  unfold Call.keyedB
  by_cases h1 : op = 1
  · subst h1
    go_enter Try.func75, Try.ntmps75
    go_wp2
    go_ret
    exact ⟨by simp, (by repeat' (first | exact Keep.refl _ _ | refine Keep.set1 ?_ _ | refine Keep.alloc ?_ _ | refine Keep.drew ?_ | refine Keep.setNew ?_ (by simp) _))⟩
  have b1 : (op == 1) = false := by simp [h1]
  by_cases h2 : op = 2
  · subst h2
    go_enter Try.func75, Try.ntmps75
    go_wp2
    go_ret
    exact ⟨by simp, (by repeat' (first | exact Keep.refl _ _ | refine Keep.set1 ?_ _ | refine Keep.alloc ?_ _ | refine Keep.drew ?_ | refine Keep.setNew ?_ (by simp) _))⟩
  have b2 : (op == 2) = false := by simp [h2]
  by_cases h4 : op = 4
  · subst h4
    go_enter Try.func75, Try.ntmps75
    go_wp2
    go_ret
    exact ⟨by simp, (by repeat' (first | exact Keep.refl _ _ | refine Keep.set1 ?_ _ | refine Keep.alloc ?_ _ | refine Keep.drew ?_ | refine Keep.setNew ?_ (by simp) _))⟩
  have b4 : (op == 4) = false := by simp [h4]
  by_cases h5 : op = 5
  · subst h5
    go_enter Try.func75, Try.ntmps75
    go_wp2
    go_ret
    exact ⟨by simp, (by repeat' (first | exact Keep.refl _ _ | refine Keep.set1 ?_ _ | refine Keep.alloc ?_ _ | refine Keep.drew ?_ | refine Keep.setNew ?_ (by simp) _))⟩
  have b5 : (op == 5) = false := by simp [h5]
  go_enter Try.func75, Try.ntmps75
  go_wp2
  go_ret
  exact ⟨by simp [b1, b2, b4, b5], (by repeat' (first | exact Keep.refl _ _ | refine Keep.set1 ?_ _ | refine Keep.alloc ?_ _ | refine Keep.drew ?_ | refine Keep.setNew ?_ (by simp) _))⟩

theorem call_in (w : World) (n m : Int) : Calls Try.prog 102 #[.int .i64 n, .int .i64 m] w fun e w' => e = .returned (.bool (in0 n m)) ∧ w = w' := by
  unfold in0
  by_cases h : 0 ≤ n
  · go_enter Try.func102, Try.ntmps102
    go_wp2
    go_ret
    exact ⟨by simp [h], rfl⟩
  · go_enter Try.func102, Try.ntmps102
    go_wp2
    go_ret
    have h : ¬ 0 ≤ n := by omega
    exact ⟨by simp [h], rfl⟩


theorem span_may' (w : World) (a b : Int) : Calls Try.prog 82 #[.agg #[.int .i64 a, .int .i64 b]] w fun e w' => e = .returned (.bool (decide (a < b))) ∧ Keep none_ w w' := by
  go_enter Try.func82, Try.ntmps82
  go_wp2
  go_ret
  exact ⟨rfl, (by repeat' (first | exact Keep.refl _ _ | refine Keep.set1 ?_ _ | refine Keep.alloc ?_ _ | refine Keep.drew ?_ | refine Keep.setNew ?_ (by simp) _))⟩

set_option maxHeartbeats 1000000 in
theorem call_may (w : World) (c : Config) (x : Call) (hc : c.ok) (hx : x.ok) : Calls Try.prog 74 #[.agg c.cells.toArray, .agg x.cells.toArray] w fun e w' => e = .returned (.bool (x.mayB c)) ∧ Keep none_ w w' := by
  have c0 := Lib.hid (fun w => assign_may w c hc)
  have c1 := Lib.hid (fun w => call_keyed w x)
  have c2 := Lib.hid (fun w => fnv_may w x.key hx.2.1)
  have c3 := Lib.hid (fun w => span_may' w x.time x.fin)
  have c4 := Lib.hid (fun w => call_in w x.group c.groups)
  have c5 := Lib.hid (fun w => call_in w x.shard c.shards)
  have ax := At.newAt (w := w.alloc (.cells c.cells.toArray 64)) (n := w.heap.size + 1) (by simp) x.cells.toArray 89
  have ac := At.alloc (At.new w c.cells.toArray 64) (.cells x.cells.toArray 89)
  have kk : Keep none_ w ((w.alloc (.cells c.cells.toArray 64)).alloc (.cells x.cells.toArray 89)) := (by repeat' (first | exact Keep.refl _ _ | refine Keep.set1 ?_ _ | refine Keep.alloc ?_ _ | refine Keep.drew ?_ | refine Keep.setNew ?_ (by simp) _))
  simp only [Config.cells, Call.cells] at ax ac kk
  obtain ⟨r, hr⟩ : ∃ r, r = x.mayB c := ⟨_, rfl⟩
  rw [← hr]
  unfold Call.mayB Call.restB at hr
  replace hr := Lib.hid hr
  generalize in0 x.group c.groups = z1 at *
  generalize in0 x.shard c.shards = z2 at *
  generalize x.keyedB = b at *
  generalize mayK x.key = bk_ at *
  generalize c.mayB = bm at *
  go_enter Try.func74, Try.ntmps74
  go_wp2_with fail
  refine (c0.out _).mono ?_
  rintro e w1 ⟨rfl, k⟩
  replace ax := Keep.at k ax (fun e => e)
  replace ac := Keep.at k ac (fun e => e)
  replace kk := kk.trans k
  have cx := At.cell ax
  have cc := At.cell ac
  clear k
  cases bm
  · go_wp2_with fail
    go_ret
    exact ⟨by rw [hr.out]; simp, kk⟩
  by_cases o1 : x.op < 1
  · go_wp2_with fail
    go_ret
    have o1 : ¬ 1 ≤ x.op := by omega
    exact ⟨by rw [hr.out]; simp [o1], kk⟩
  by_cases o7 : 7 < x.op
  · go_wp2_with fail
    go_ret
    have o7 : ¬ x.op ≤ 7 := by omega
    exact ⟨by rw [hr.out]; simp [o7], kk⟩
  have o1' : 1 ≤ x.op := by omega
  have o7' : x.op ≤ 7 := by omega
  go_wp2_with fail
  refine (c1.out _).mono ?_
  rintro e w2 ⟨rfl, k⟩
  replace ax := Keep.at k ax (fun e => e)
  replace ac := Keep.at k ac (fun e => e)
  replace kk := kk.trans k
  have cx := At.cell ax
  have cc := At.cell ac
  clear k
  cases b
  · by_cases h4 : x.op = 4
    · have h6 : (x.op == 4) = true := by simp [h4]
      go_wp2_with fail
      refine (c3.out _).mono ?_
      rintro e w3 ⟨rfl, k⟩
      go_wp2_with fail
      go_ret
      exact ⟨by rw [hr.out]; first | simp [h4, h5, o1', o7'] | simp [h4, o1', o7'] | simp [o1', o7'], kk.trans k⟩
    · have h6 : (x.op == 4) = false := by simp [h4]
      by_cases h5 : x.op = 6
      · have h7 : (x.op == 6) = true := by simp [h5]
        cases z1
        · go_wp2_with fail
          refine (c4.out _).mono ?_
          rintro e w' ⟨rfl, rfl⟩
          go_wp2_with fail
          go_ret
          exact ⟨by rw [hr.out]; first | simp [h4, h5, o1', o7'] | simp [h4, o1', o7'] | simp [o1', o7'], kk⟩
        · go_wp2_with fail
          refine (c4.out _).mono ?_
          rintro e w' ⟨rfl, rfl⟩
          go_wp2_with fail
          refine (c5.out _).mono ?_
          rintro e w' ⟨rfl, rfl⟩
          go_wp2_with fail
          go_ret
          exact ⟨by rw [hr.out]; first | simp [h4, h5, o1', o7'] | simp [h4, o1', o7'] | simp [o1', o7'], kk⟩
      · have h7 : (x.op == 6) = false := by simp [h5]
        go_wp2_with fail
        go_ret
        exact ⟨by rw [hr.out]; simp [o1', o7', h4, h5], kk⟩
  · cases bk_
    · go_wp2_with fail
      refine (c2.out _).mono ?_
      rintro e w' ⟨rfl, rfl⟩
      go_wp2_with fail
      go_ret
      exact ⟨by rw [hr.out]; first | simp [h4, h5, o1', o7'] | simp [h4, o1', o7'] | simp [o1', o7'], kk⟩
    · by_cases h4 : x.op = 4
      · have h6 : (x.op == 4) = true := by simp [h4]
        go_wp2_with fail
        refine (c2.out _).mono ?_
        rintro e w' ⟨rfl, rfl⟩
        go_wp2_with fail
        refine (c3.out _).mono ?_
        rintro e w3 ⟨rfl, k⟩
        go_wp2_with fail
        go_ret
        exact ⟨by rw [hr.out]; first | simp [h4, h5, o1', o7'] | simp [h4, o1', o7'] | simp [o1', o7'], kk.trans k⟩
      · have h6 : (x.op == 4) = false := by simp [h4]
        by_cases h5 : x.op = 6
        · have h7 : (x.op == 6) = true := by simp [h5]
          cases z1
          · go_wp2_with fail
            refine (c2.out _).mono ?_
            rintro e w' ⟨rfl, rfl⟩
            go_wp2_with fail
            refine (c4.out _).mono ?_
            rintro e w' ⟨rfl, rfl⟩
            go_wp2_with fail
            go_ret
            exact ⟨by rw [hr.out]; first | simp [h4, h5, o1', o7'] | simp [h4, o1', o7'] | simp [o1', o7'], kk⟩
          · go_wp2_with fail
            refine (c2.out _).mono ?_
            rintro e w' ⟨rfl, rfl⟩
            go_wp2_with fail
            refine (c4.out _).mono ?_
            rintro e w' ⟨rfl, rfl⟩
            go_wp2_with fail
            refine (c5.out _).mono ?_
            rintro e w' ⟨rfl, rfl⟩
            go_wp2_with fail
            go_ret
            exact ⟨by rw [hr.out]; first | simp [h4, h5, o1', o7'] | simp [h4, o1', o7'] | simp [o1', o7'], kk⟩
        · have h7 : (x.op == 6) = false := by simp [h5]
          go_wp2_with fail
          refine (c2.out _).mono ?_
          rintro e w' ⟨rfl, rfl⟩
          go_wp2_with fail
          go_ret
          exact ⟨by rw [hr.out]; simp [o1', o7', h4, h5], kk⟩
end Go.Proofs.Ytmioichjhiengaa
