/-
  The walk of the law FairBounds.
-/
import Derived.Test.YtpkfckcilpiabaaGreatOperNew
namespace Go.Proofs.YtpkfckcilpiabaaGreat
open Go.RowKit

theorem fair_rounds {w : World} {mb : Nat} (h : NoClients w mb) : Calls Tryz.prog 7 #[.pointer (some ⟨mb, 0, none⟩), .int .i64 5] w fun e w' => e = .returned (.tuple #[.int .i64 0, .bool true]) ∧ Keep none_ w w' := by
  have hmf : ∀ (fn : Fn) (first cap : Array Value) (w : World), (Instr.makeFunc fn first cap).run Tryz.prog w = .ok (.func fn first cap) w := fun _ _ _ _ => rfl
  have c1 := Lib.hid (oper_over h)
  clear h
  go_enter Tryz.func7, Tryz.ntmps7
  go_wp2_with fail
  go_loopw [6, 8, 23] (fun nv _ _ wr => nv = .int .i64 0 ∧ wr = w) (fun _ _ _ _ => 0)
  case atStart => exact ⟨rfl, rfl⟩
  case round =>
    obtain ⟨rfl, rfl⟩ := hrel
    go_wp2_with fail
    refine c1.out.mono ?_
    rintro e w' ⟨rfl, rfl⟩
    go_wp2_with fail
    refine c1.out.mono ?_
    rintro e w' ⟨rfl, rfl⟩
    go_wp2_with fail
    go_ret2
    exact ⟨rfl, Keep.refl _ _⟩
/-- How many rounds are enough. -/
def boundI (s n : Int) : Int := wrap64 (wrap64 (n + 1) * wrap64 (wrap64 (wrap64 (4 * s) + wrap64 (4 * n)) + 12))
theorem bound_zero (s : Int) : boundI s 0 = wrap64 (wrap64 (wrap64 (wrap64 (4 * s)) + 12)) := by
  unfold boundI
  rw [show wrap64 ((0 : Int) + 1) = 1 by unfold wrap64; omega, show wrap64 (4 * (0 : Int)) = 0 by unfold wrap64; omega, Int.one_mul, Int.add_zero]
theorem fair_bound (w : World) (c : Config) (calls : Int) : Calls Tryz.prog 5 #[.agg c.cells.toArray, .int .i64 calls] w fun e w' => e = .returned (.int .i64 (boundI c.shards (if calls < 0 then 0 else calls))) ∧ Keep none_ w w' := by
  have kk : Keep none_ w (w.alloc (.cells c.cells.toArray 23)) := (by repeat' (first | assumption | with_reducible exact Keep.refl _ _ | with_reducible refine Keep.alloc ?_ _ | with_reducible refine Keep.drew ?_))
  obtain ⟨kind, size, slide, gap, late, shards, groups, capc⟩ := c
  simp only [Config.cells] at kk ⊢
  by_cases h : calls < 0
  · rw [if_pos h, bound_zero]
    go_enter Tryz.func5, Tryz.ntmps5
    go_wp2_with fail
    go_ret
    exact ⟨rfl, kk⟩
  · rw [if_neg h]
    unfold boundI
    go_enter Tryz.func5, Tryz.ntmps5
    go_wp2_with fail
    go_ret
    exact ⟨rfl, kk⟩

def c21 : Config := ⟨0, 10, 0, 0, 0, 1, 1, 1⟩
theorem c21_ok : c21.ok := by
  simp only [Config.ok, c21, I64]
  decide
set_option maxRecDepth 100000 in
theorem up21 (w : World) : Calls Tryz.prog 4 #[] w fun e w' => e = .returned (.bool true) ∧ Keep none_ w w' := by
  have hx := At.new w c21.cells.toArray 23
  have kk : Keep none_ w (w.alloc (.cells c21.cells.toArray 23)) := (by repeat' (first | assumption | with_reducible exact Keep.refl _ _ | with_reducible refine Keep.alloc ?_ _ | with_reducible refine Keep.drew ?_))
  have c1 := Lib.hid (fun w => oper_new w c21 c21_ok (by kernel_rfl))
  have c2 := Lib.hid (fun w => fair_bound w c21 1)
  rw [show boundI c21.shards (if (1 : Int) < 0 then 0 else 1) = 40 by decide +kernel] at c2
  simp only [c21, Config.cells] at hx kk c1 c2
  go_enter Tryz.func4, Tryz.ntmps4
  go_wp2_with fail
  refine (c1.out _).mono ?_
  rintro e w1 ⟨mb, rfl, k1, -, hnc⟩
  have hx1 := Keep.at k1 hx (fun e => e)
  have k01 := kk.trans k1
  have c3 := Lib.hid (fair_rounds hnc)
  clear c1 kk k1 hx hnc
  go_wp2_with fail
  refine c3.out.mono ?_
  rintro e w2 ⟨rfl, k2⟩
  have hx2 := At.cell (Keep.at k2 hx1 (fun e => e))
  have k02 := k01.trans k2
  clear c3
  go_wp2_with fail
  refine (c2.out _).mono ?_
  rintro e w3 ⟨rfl, k3⟩
  go_wp2_with fail
  go_ret
  exact ⟨rfl, k02.trans k3⟩

set_option maxHeartbeats 2000000 in
set_option maxRecDepth 100000 in
theorem law_FairBounds (c : Config) (calls : Int) (W : World) (hc : c.ok) (hn : I64 calls) :
    Calls Tryz.prog 3 #[.agg c.cells.toArray, .int .i64 calls] W fun e W' => e = .returned (.bool true) ∧ Below W.heap.size W W' := by
  have kk : Keep none_ W (W.alloc (.cells c.cells.toArray 23)) := (by repeat' (first | assumption | with_reducible exact Keep.refl _ _ | with_reducible refine Keep.alloc ?_ _ | with_reducible refine Keep.drew ?_))
  have hx := At.new W c.cells.toArray 23
  have c2 := Lib.hid (fun w => fair_bound w c calls)
  obtain ⟨kind, size, slide, gap, late, shards, groups, capc⟩ := c
  clear hc hn
  simp only [Config.cells] at kk hx c2 ⊢
  by_cases h1 : 1000000 < calls
  · go_enter Tryz.func3, Tryz.ntmps3
    go_wp2_with fail
    refine (up21 _).mono ?_
    rintro e w1 ⟨rfl, k1⟩
    have hx1 := At.cell (Keep.at k1 hx (fun e => e))
    have k01 := kk.trans k1
    have hd : decide ((1000000 : Int) < calls) = true := by simp [h1]
    go_wp2_with fail
    go_ret
    exact ⟨by simp, k01.below (Nat.le_refl _) not_none⟩
  · have hd : decide ((1000000 : Int) < calls) = false := by simp [h1]
    by_cases h2 : 1000000 < shards
    · have hd2 : decide ((1000000 : Int) < shards) = true := by simp [h2]
      go_enter Tryz.func3, Tryz.ntmps3
      go_wp2_with fail
      refine (up21 _).mono ?_
      rintro e w1 ⟨rfl, k1⟩
      have hx1 := At.cell (Keep.at k1 hx (fun e => e))
      have k01 := kk.trans k1
      go_wp2_with fail
      go_ret
      exact ⟨by simp, k01.below (Nat.le_refl _) not_none⟩
    · have hd2 : decide ((1000000 : Int) < shards) = false := by simp [h2]
      by_cases h3 : shards < -1000000
      · have hd3 : decide (shards < -1000000) = true := by simp [h3]
        go_enter Tryz.func3, Tryz.ntmps3
        go_wp2_with fail
        refine (up21 _).mono ?_
        rintro e w1 ⟨rfl, k1⟩
        have hx1 := At.cell (Keep.at k1 hx (fun e => e))
        have k01 := kk.trans k1
        go_wp2_with fail
        go_ret
        exact ⟨by simp, k01.below (Nat.le_refl _) not_none⟩
      · have hd3 : decide (shards < -1000000) = false := by simp [h3]
        by_cases hn : calls < 0
        · rw [if_pos hn, bound_zero] at c2
          go_enter Tryz.func3, Tryz.ntmps3
          go_wp2_with fail
          refine (up21 _).mono ?_
          rintro e w1 ⟨rfl, k1⟩
          have hx1 := At.cell (Keep.at k1 hx (fun e => e))
          have k01 := kk.trans k1
          go_wp2_with fail
          obtain ⟨ι, hne, f, hf0, hfk, hfa⟩ := class_of none_ w1
          have cx : ∀ z i, (f z).cell? ⟨W.heap.size, i, none⟩ = _ := fun z => At.cell (Keep.at (hfk z) (Keep.at k1 hx (fun e => e)) (fun e => e))
          refine wp_region_class f (by kernel_rfl) (by kernel_rfl) hf0 ?_
          repeat (go_big_quiet_step ((go_at_call 5; exact Calls.class_of hfa (c2.out _))))
          refine wpQuiet_nil ?_
          rintro _ ⟨z, rfl⟩
          go_wp2_with fail
          go_ret
          have e1 : wrap64 (wrap64 (wrap64 (wrap64 (4 * shards)) + 12)) = 4 * shards + 12 := by unfold wrap64; omega
          exact ⟨by rw [e1]; simp, (k01.trans (hfk z)).below (Nat.le_refl _) not_none⟩
        · rw [if_neg hn] at c2
          unfold boundI at c2
          go_enter Tryz.func3, Tryz.ntmps3
          go_wp2_with fail
          refine (up21 _).mono ?_
          rintro e w1 ⟨rfl, k1⟩
          have hx1 := At.cell (Keep.at k1 hx (fun e => e))
          have k01 := kk.trans k1
          go_wp2_with fail
          obtain ⟨ι, hne, f, hf0, hfk, hfa⟩ := class_of none_ w1
          have cx : ∀ z i, (f z).cell? ⟨W.heap.size, i, none⟩ = _ := fun z => At.cell (Keep.at (hfk z) (Keep.at k1 hx (fun e => e)) (fun e => e))
          refine wp_region_class f (by kernel_rfl) (by kernel_rfl) hf0 ?_
          repeat (go_big_quiet_step ((go_at_call 5; exact Calls.class_of hfa (c2.out _))))
          refine wpQuiet_nil ?_
          rintro _ ⟨z, rfl⟩
          go_wp2_with fail
          go_ret
          have e1 : wrap64 (calls + 1) = calls + 1 := by unfold wrap64; omega
          have e2 : wrap64 (wrap64 (wrap64 (4 * shards) + wrap64 (4 * calls)) + 12) = 4 * shards + 4 * calls + 12 := by unfold wrap64; omega
          exact ⟨by rw [e1, e2]; simp, (k01.trans (hfk z)).below (Nat.le_refl _) not_none⟩
end Go.Proofs.YtpkfckcilpiabaaGreat
