/-
  The walk of the law CallGroup.
-/
import Derived.Test.YtlnlbegcnhelmaaCall
namespace Go.Proofs.Ytlnlbegcnhelmaa
open Go.RowKit

theorem callUp (w : World) : Calls Try.prog 34 #[] w fun e w' => e = .returned (.bool true) ∧ Keep none_ w w' := by
  have okc : Config.ok ⟨0, 10, 0, 0, 0, 2, 4, 1⟩ := by simp [Config.ok, I64]
  have okx : ∀ a b : Int, I64 a → I64 b → Call.ok ⟨a, ByteArray.empty, 0, 0, 0, b, 0⟩ := fun a b ha hb => ⟨ha, by simp [maxLen], by simp [I64], by simp [I64], by simp [I64], hb, by simp [I64]⟩
  have i0 : I64 0 := by simp [I64]
  have i3 : I64 3 := by simp [I64]
  have i6 : I64 6 := by simp [I64]
  have i7 : I64 7 := by simp [I64]
  have c1 : Hid (∀ w, Calls Try.prog 36 #[.agg #[.int .i64 0, .int .i64 10, .int .i64 0, .int .i64 0, .int .i64 0, .int .i64 2, .int .i64 4, .int .i64 1], .agg #[.int .i64 0, .string { data := #[] }, .int .i64 0, .int .i64 0, .int .i64 0, .int .i64 0, .int .i64 0]] w fun e w' => e = .returned (.bool false) ∧ Keep none_ w w') :=
    Lib.hid (fun w => call_may w ⟨0, 10, 0, 0, 0, 2, 4, 1⟩ ⟨0, ByteArray.empty, 0, 0, 0, 0, 0⟩ okc (okx 0 0 i0 i0))
  have c2 : Hid (∀ w, Calls Try.prog 36 #[.agg #[.int .i64 0, .int .i64 10, .int .i64 0, .int .i64 0, .int .i64 0, .int .i64 2, .int .i64 4, .int .i64 1], .agg #[.int .i64 7, .string { data := #[] }, .int .i64 0, .int .i64 0, .int .i64 0, .int .i64 0, .int .i64 0]] w fun e w' => e = .returned (.bool true) ∧ Keep none_ w w') :=
    Lib.hid (fun w => call_may w ⟨0, 10, 0, 0, 0, 2, 4, 1⟩ ⟨7, ByteArray.empty, 0, 0, 0, 0, 0⟩ okc (okx 7 0 i7 i0))
  have c3 : Hid (∀ w, Calls Try.prog 37 #[.agg #[.int .i64 5, .string { data := #[] }, .int .i64 0, .int .i64 0, .int .i64 0, .int .i64 0, .int .i64 0]] w fun e w' => e = .returned (.bool true) ∧ Keep none_ w w') :=
    Lib.hid (fun w => call_keyed w ⟨5, ByteArray.empty, 0, 0, 0, 0, 0⟩)
  have c4 : Hid (∀ w, Calls Try.prog 35 #[.agg #[.int .i64 0, .int .i64 10, .int .i64 0, .int .i64 0, .int .i64 0, .int .i64 2, .int .i64 4, .int .i64 1], .agg #[.int .i64 6, .string { data := #[] }, .int .i64 0, .int .i64 0, .int .i64 0, .int .i64 3, .int .i64 0]] w fun e w' => e = .returned (.int .i64 3) ∧ Keep none_ w w') :=
    Lib.hid (fun w => call_group w ⟨0, 10, 0, 0, 0, 2, 4, 1⟩ ⟨6, ByteArray.empty, 0, 0, 0, 3, 0⟩ okc (okx 6 3 i6 i3))
  have c5 : Hid (∀ w, Calls Try.prog 35 #[.agg #[.int .i64 0, .int .i64 10, .int .i64 0, .int .i64 0, .int .i64 0, .int .i64 2, .int .i64 4, .int .i64 1], .agg #[.int .i64 3, .string { data := #[] }, .int .i64 0, .int .i64 0, .int .i64 0, .int .i64 0, .int .i64 0]] w fun e w' => e = .returned (.int .i64 (-1)) ∧ Keep none_ w w') :=
    Lib.hid (fun w => call_group w ⟨0, 10, 0, 0, 0, 2, 4, 1⟩ ⟨3, ByteArray.empty, 0, 0, 0, 0, 0⟩ okc (okx 3 0 i3 i0))
  clear okc okx i0 i3 i6 i7
  have hx := At.new w #[.int .i64 0, .int .i64 10, .int .i64 0, .int .i64 0, .int .i64 0, .int .i64 2, .int .i64 4, .int .i64 1] 63
  have kk : Keep none_ w (w.alloc (.cells #[.int .i64 0, .int .i64 10, .int .i64 0, .int .i64 0, .int .i64 0, .int .i64 2, .int .i64 4, .int .i64 1] 63)) := (by repeat' (first | exact Keep.refl _ _ | refine Keep.set1 ?_ _ | refine Keep.alloc ?_ _ | refine Keep.drew ?_ | refine Keep.setNew ?_ (by simp) _))
  go_enter Try.func34, Try.ntmps34
  go_wp2_with (first
    | (go_at_call 36; (with_reducible refine (c1.out _).mono ?_); rintro e w' ⟨rfl, k⟩; replace kk := Keep.trans kk k; replace hx := Keep.at k hx (fun e => e); have cx := At.cell hx; clear k)
    | (go_at_call 36; (with_reducible refine (c2.out _).mono ?_); rintro e w' ⟨rfl, k⟩; replace kk := Keep.trans kk k; replace hx := Keep.at k hx (fun e => e); have cx := At.cell hx; clear k)
    | (go_at_call 37; (with_reducible refine (c3.out _).mono ?_); rintro e w' ⟨rfl, k⟩; replace kk := Keep.trans kk k; replace hx := Keep.at k hx (fun e => e); have cx := At.cell hx; clear k)
    | (go_at_call 35; (with_reducible refine (c4.out _).mono ?_); rintro e w' ⟨rfl, k⟩; replace kk := Keep.trans kk k; replace hx := Keep.at k hx (fun e => e); have cx := At.cell hx; clear k)
    | (go_at_call 35; (with_reducible refine (c5.out _).mono ?_); rintro e w' ⟨rfl, k⟩; replace kk := Keep.trans kk k; replace hx := Keep.at k hx (fun e => e); have cx := At.cell hx; clear k))
  go_ret
  exact ⟨rfl, kk⟩

theorem mayB_value (c : Config) (op : Int) (key : ByteArray) (time value fin group shard v : Int) : Call.mayB c ⟨op, key, time, v, fin, group, shard⟩ = Call.mayB c ⟨op, key, time, value, fin, group, shard⟩ := rfl
/-- The group of a call that may be lies within the config's iff it is keyed, or a Rebalance. -/
theorem group_in {c : Config} {x : Call} (h : x.mayB c = true) : (decide (0 ≤ x.groupI c) && decide (x.groupI c < c.groups)) = (x.keyedB || x.op == 6) := by
  have hcm : c.mayB = true := by simp only [Call.mayB, Bool.and_eq_true] at h; exact h.1.1.1
  have hr : x.restB c = true := by simp only [Call.mayB, Bool.and_eq_true] at h; exact h.2
  have hg : 1 ≤ c.groups := by simp only [Config.mayB, inB, Bool.and_eq_true, decide_eq_true_eq] at hcm; omega
  cases hk : x.keyedB
  · by_cases h6 : x.op = 6
    · have hr2 : in0 x.group c.groups = true := by
        unfold Call.restB at hr
        rw [hk, h6] at hr
        simp at hr
        exact hr.1
      simp only [in0, Bool.and_eq_true, decide_eq_true_eq] at hr2
      simp [Call.groupI, hk, h6, hr2.1, hr2.2]
    · simp [Call.groupI, hk, h6]
  · simp only [Call.groupI, hk, if_true, groupOf, if_neg (show ¬ c.groups < 1 by omega)]
    have h1 := Int.emod_nonneg (keyN x.key : Int) (show c.groups ≠ 0 by omega)
    have h2 := Int.emod_lt_of_pos (keyN x.key : Int) (show 0 < c.groups by omega)
    simp [h1, h2]
theorem may_conf {c : Config} {x : Call} (h : x.mayB c = true) : c.mayB = true := by
  simp only [Call.mayB, Bool.and_eq_true] at h; exact h.1.1.1

set_option maxHeartbeats 1000000 in
set_option maxRecDepth 100000 in
theorem law_CallGroup (c : Config) (x : Call) (o v : Int) (W : World) (hc : c.ok) (hx : x.ok) (ho : I64 o) (hv : I64 v) :
    Calls Try.prog 7 #[.agg c.cells.toArray, .agg x.cells.toArray, .int .i64 o, .int .i64 v] W fun e W' => e = .returned (.bool true) ∧ Below W.heap.size W W' := by
  have ax := At.newAt (w := W.alloc (.cells c.cells.toArray 63)) (n := W.heap.size + 1) (by simp) x.cells.toArray 65
  have ac := At.alloc (At.new W c.cells.toArray 63) (.cells x.cells.toArray 65)
  have kk : Keep none_ W ((W.alloc (.cells c.cells.toArray 63)).alloc (.cells x.cells.toArray 65)) := (by repeat' (first | exact Keep.refl _ _ | refine Keep.set1 ?_ _ | refine Keep.alloc ?_ _ | refine Keep.drew ?_ | refine Keep.setNew ?_ (by simp) _))
  obtain ⟨op, key, time, value, fin, group, shard⟩ := x
  have hy : Call.ok ⟨o, key, time, value, fin, group, shard⟩ := ⟨ho, hx.2⟩
  have hz : Call.ok ⟨op, key, time, v, fin, group, shard⟩ := ⟨hx.1, hx.2.1, hx.2.2.1, hv, hx.2.2.2.2⟩
  have c1 := Lib.hid (fun w => call_group w c _ hc hx)
  have c2 := Lib.hid (fun w => call_may w c _ hc hx)
  have c3 := Lib.hid (fun w => call_may w c _ hc hz)
  have c4 := Lib.hid (fun w => call_keyed w ⟨op, key, time, value, fin, group, shard⟩)
  have c5 := Lib.hid (fun w => call_keyed w ⟨o, key, time, value, fin, group, shard⟩)
  have c6 := Lib.hid (fun w => call_group w c _ hc hy)
  have c7 := Lib.hid (fun w => ref_may w c hc)
  rw [mayB_value c op key time value fin group shard v] at c3
  have hgi := Lib.hid (fun h => group_in (c := c) (x := ⟨op, key, time, value, fin, group, shard⟩) h)
  have hmc := Lib.hid (fun h => may_conf (c := c) (x := ⟨op, key, time, value, fin, group, shard⟩) h)
  have hg2 : Hid (Call.keyedB ⟨op, key, time, value, fin, group, shard⟩ = true → Call.keyedB ⟨o, key, time, value, fin, group, shard⟩ = true → Call.groupI c ⟨o, key, time, value, fin, group, shard⟩ = Call.groupI c ⟨op, key, time, value, fin, group, shard⟩) :=
    Lib.hid (fun h1 h2 => by unfold Call.groupI; rw [h1, h2]; rfl)
  simp only [Call.cells, Config.cells] at ax ac kk c1 c2 c3 c4 c5 c6 c7 ⊢
  have hks := hx.2.1
  generalize Call.groupI c ⟨op, key, time, value, fin, group, shard⟩ = g at *
  generalize Call.groupI c ⟨o, key, time, value, fin, group, shard⟩ = gy at *
  generalize Call.mayB c ⟨op, key, time, value, fin, group, shard⟩ = m at *
  generalize Call.keyedB ⟨op, key, time, value, fin, group, shard⟩ = kx at *
  generalize Call.keyedB ⟨o, key, time, value, fin, group, shard⟩ = ky at *
  generalize c.mayB = cm at *
  simp only at hgi hks
  unfold maxLen at hks
  clear hx hy hz hc
  go_enter Try.func7, Try.ntmps7
  go_wp2_with fail
  refine (callUp _).mono ?_
  rintro e w1 ⟨rfl, k⟩
  replace ax := Keep.at k ax (fun e => e)
  replace ac := Keep.at k ac (fun e => e)
  replace kk := kk.trans k
  have cx := At.cell ax
  have cc := At.cell ac
  clear k
  by_cases hsz : 1000 < key.size
  · go_wp2_with fail
    go_ret
    exact ⟨rfl, kk.below (Nat.le_refl _) not_none⟩
  have hp := At.lt ax
  have hp0 := At.lt ac
  have ax3 := At.alloc (At.alloc ax (.cells #[.int .i64 o, .string key, .int .i64 time, .int .i64 value, .int .i64 fin, .int .i64 group, .int .i64 shard] 65)) (.cells #[.int .i64 op, .string key, .int .i64 time, .int .i64 v, .int .i64 fin, .int .i64 group, .int .i64 shard] 65)
  have ac3 := At.alloc (At.alloc ac (.cells #[.int .i64 o, .string key, .int .i64 time, .int .i64 value, .int .i64 fin, .int .i64 group, .int .i64 shard] 65)) (.cells #[.int .i64 op, .string key, .int .i64 time, .int .i64 v, .int .i64 fin, .int .i64 group, .int .i64 shard] 65)
  have ay3 := At.alloc (At.new w1 #[.int .i64 o, .string key, .int .i64 time, .int .i64 value, .int .i64 fin, .int .i64 group, .int .i64 shard] 65) (.cells #[.int .i64 op, .string key, .int .i64 time, .int .i64 v, .int .i64 fin, .int .i64 group, .int .i64 shard] 65)
  have az3 := At.newAt (w := w1.alloc (.cells #[.int .i64 o, .string key, .int .i64 time, .int .i64 value, .int .i64 fin, .int .i64 group, .int .i64 shard] 65)) (n := w1.heap.size + 1) (by simp) #[.int .i64 op, .string key, .int .i64 time, .int .i64 v, .int .i64 fin, .int .i64 group, .int .i64 shard] 65
  have kk3 := Keep.alloc (Keep.alloc kk (.cells #[.int .i64 o, .string key, .int .i64 time, .int .i64 value, .int .i64 fin, .int .i64 group, .int .i64 shard] 65)) (.cells #[.int .i64 op, .string key, .int .i64 time, .int .i64 v, .int .i64 fin, .int .i64 group, .int .i64 shard] 65)
  have cx3 := At.cell ax3
  have cc3 := At.cell ac3
  go_wp2_with fail
  generalize World.alloc _ _ = w2 at ax3 ac3 ay3 az3 kk3 ⊢
  generalize w1.heap.size = p at ay3 az3 ⊢
  clear cx3 cc3 ax ac kk cx cc hp hp0
  refine (c1.out _).mono ?_
  rintro e w3 ⟨rfl, k⟩
  replace ax3 := Keep.at k ax3 (fun e => e)
  replace ac3 := Keep.at k ac3 (fun e => e)
  replace ay3 := Keep.at k ay3 (fun e => e)
  replace az3 := Keep.at k az3 (fun e => e)
  replace kk3 := kk3.trans k
  clear k
  obtain ⟨ι, hne, f, hf0, hfk, hfa⟩ := class_of none_ w3
  have xx : ∀ n i, (f n).cell? ⟨W.heap.size + 1, i, none⟩ = _ := fun n => At.cell (Keep.at (hfk n) ax3 (fun e => e))
  have xc : ∀ n i, (f n).cell? ⟨W.heap.size, i, none⟩ = _ := fun n => At.cell (Keep.at (hfk n) ac3 (fun e => e))
  have xy : ∀ n i, (f n).cell? ⟨p, i, none⟩ = _ := fun n => At.cell (Keep.at (hfk n) ay3 (fun e => e))
  have xz : ∀ n i, (f n).cell? ⟨p + 1, i, none⟩ = _ := fun n => At.cell (Keep.at (hfk n) az3 (fun e => e))
  have fin : ∀ n, Below W.heap.size W (f n) := fun n => (kk3.trans (hfk n)).below (Nat.le_refl _) not_none
  go_wp2_with fail
  have key9 : (kx = true → ky = true → gy = g) := fun a b => hg2.out a b
  replace key9 := Lib.hid key9
  cases kx <;> cases ky <;> cases m
  all_goals
    try (obtain rfl : gy = g := key9.out rfl rfl)
    refine wp_region_class f (by kernel_rfl) (by kernel_rfl) hf0 ?_
    repeat (go_big_quiet_step (first
      | (go_at_call 36; with_reducible exact Calls.class_of hfa (c2.out _))
      | (go_at_call 36; with_reducible exact Calls.class_of hfa (c3.out _))
      | (go_at_call 37; with_reducible exact Calls.class_of hfa (c4.out _))
      | (go_at_call 37; with_reducible exact Calls.class_of hfa (c5.out _))
      | (go_at_call 35; with_reducible exact Calls.class_of hfa (c6.out _))))
    refine wpQuiet_nil ?_
    rintro _ ⟨n, rfl⟩
    have ax := Keep.at (hfk n) ax3 (fun e => e)
    have ac := Keep.at (hfk n) ac3 (fun e => e)
    have kk := kk3.trans (hfk n)
    clear xx xc xy xz hf0 hfk hfa ax3 ac3 ay3 az3 kk3 fin hg2 key9 c1 c3 c5 c6
    generalize f n = w4 at ax ac kk ⊢
    have cx := At.cell ax
    have cc := At.cell ac
  · go_wp2_with (first
      | (go_at_call 36; (with_reducible refine (c2.out _).mono ?_); rintro e w' ⟨rfl, k⟩; replace kk := Keep.trans kk k; replace ax := Keep.at k ax (fun e => e); replace ac := Keep.at k ac (fun e => e); have cx := At.cell ax; have cc := At.cell ac; clear k)
      | (go_at_call 37; (with_reducible refine (c4.out _).mono ?_); rintro e w' ⟨rfl, k⟩; replace kk := Keep.trans kk k; replace ax := Keep.at k ax (fun e => e); replace ac := Keep.at k ac (fun e => e); have cx := At.cell ax; have cc := At.cell ac; clear k)
      | (go_at_call 38; (with_reducible refine (c7.out _).mono ?_); rintro e w' ⟨rfl, k⟩; replace kk := Keep.trans kk k; replace ax := Keep.at k ax (fun e => e); replace ac := Keep.at k ac (fun e => e); have cx := At.cell ax; have cc := At.cell ac; clear k))
    go_ret
    exact ⟨rfl, kk.below (Nat.le_refl _) not_none⟩
  · obtain rfl : cm = true := hmc.out rfl
    have hg := hgi.out rfl
    clear hgi
    by_cases h6 : op = 6
    · have b6 : (op == 6) = true := by simp [h6]
      rw [b6] at hg
      simp only [Bool.false_or, Bool.and_eq_true, decide_eq_true_eq] at hg
      obtain ⟨hg0, hg1⟩ := hg
      clear h6
      go_wp2_with (first
        | (go_at_call 36; (with_reducible refine (c2.out _).mono ?_); rintro e w' ⟨rfl, k⟩; replace kk := Keep.trans kk k; replace ax := Keep.at k ax (fun e => e); replace ac := Keep.at k ac (fun e => e); have cx := At.cell ax; have cc := At.cell ac; clear k)
        | (go_at_call 37; (with_reducible refine (c4.out _).mono ?_); rintro e w' ⟨rfl, k⟩; replace kk := Keep.trans kk k; replace ax := Keep.at k ax (fun e => e); replace ac := Keep.at k ac (fun e => e); have cx := At.cell ax; have cc := At.cell ac; clear k)
        | (go_at_call 38; (with_reducible refine (c7.out _).mono ?_); rintro e w' ⟨rfl, k⟩; replace kk := Keep.trans kk k; replace ax := Keep.at k ax (fun e => e); replace ac := Keep.at k ac (fun e => e); have cx := At.cell ax; have cc := At.cell ac; clear k))
      go_ret
      exact ⟨rfl, kk.below (Nat.le_refl _) not_none⟩
    · have b6 : (op == 6) = false := by simp [h6]
      rw [b6] at hg
      by_cases hg0 : 0 ≤ g
      · have hg1 : decide (g < c.groups) = false := by simpa [hg0] using hg
        clear hg
        go_wp2_with (first
          | (go_at_call 36; (with_reducible refine (c2.out _).mono ?_); rintro e w' ⟨rfl, k⟩; replace kk := Keep.trans kk k; replace ax := Keep.at k ax (fun e => e); replace ac := Keep.at k ac (fun e => e); have cx := At.cell ax; have cc := At.cell ac; clear k)
          | (go_at_call 37; (with_reducible refine (c4.out _).mono ?_); rintro e w' ⟨rfl, k⟩; replace kk := Keep.trans kk k; replace ax := Keep.at k ax (fun e => e); replace ac := Keep.at k ac (fun e => e); have cx := At.cell ax; have cc := At.cell ac; clear k)
          | (go_at_call 38; (with_reducible refine (c7.out _).mono ?_); rintro e w' ⟨rfl, k⟩; replace kk := Keep.trans kk k; replace ax := Keep.at k ax (fun e => e); replace ac := Keep.at k ac (fun e => e); have cx := At.cell ax; have cc := At.cell ac; clear k))
        go_ret
        exact ⟨rfl, kk.below (Nat.le_refl _) not_none⟩
      · clear hg
        go_wp2_with (first
          | (go_at_call 36; (with_reducible refine (c2.out _).mono ?_); rintro e w' ⟨rfl, k⟩; replace kk := Keep.trans kk k; replace ax := Keep.at k ax (fun e => e); replace ac := Keep.at k ac (fun e => e); have cx := At.cell ax; have cc := At.cell ac; clear k)
          | (go_at_call 37; (with_reducible refine (c4.out _).mono ?_); rintro e w' ⟨rfl, k⟩; replace kk := Keep.trans kk k; replace ax := Keep.at k ax (fun e => e); replace ac := Keep.at k ac (fun e => e); have cx := At.cell ax; have cc := At.cell ac; clear k)
          | (go_at_call 38; (with_reducible refine (c7.out _).mono ?_); rintro e w' ⟨rfl, k⟩; replace kk := Keep.trans kk k; replace ax := Keep.at k ax (fun e => e); replace ac := Keep.at k ac (fun e => e); have cx := At.cell ax; have cc := At.cell ac; clear k))
        go_ret
        exact ⟨rfl, kk.below (Nat.le_refl _) not_none⟩
  · go_wp2_with (first
      | (go_at_call 36; (with_reducible refine (c2.out _).mono ?_); rintro e w' ⟨rfl, k⟩; replace kk := Keep.trans kk k; replace ax := Keep.at k ax (fun e => e); replace ac := Keep.at k ac (fun e => e); have cx := At.cell ax; have cc := At.cell ac; clear k)
      | (go_at_call 37; (with_reducible refine (c4.out _).mono ?_); rintro e w' ⟨rfl, k⟩; replace kk := Keep.trans kk k; replace ax := Keep.at k ax (fun e => e); replace ac := Keep.at k ac (fun e => e); have cx := At.cell ax; have cc := At.cell ac; clear k)
      | (go_at_call 38; (with_reducible refine (c7.out _).mono ?_); rintro e w' ⟨rfl, k⟩; replace kk := Keep.trans kk k; replace ax := Keep.at k ax (fun e => e); replace ac := Keep.at k ac (fun e => e); have cx := At.cell ax; have cc := At.cell ac; clear k))
    go_ret
    exact ⟨rfl, kk.below (Nat.le_refl _) not_none⟩
  · obtain rfl : cm = true := hmc.out rfl
    have hg := hgi.out rfl
    clear hgi
    by_cases h6 : op = 6
    · have b6 : (op == 6) = true := by simp [h6]
      rw [b6] at hg
      simp only [Bool.false_or, Bool.and_eq_true, decide_eq_true_eq] at hg
      obtain ⟨hg0, hg1⟩ := hg
      clear h6
      go_wp2_with (first
        | (go_at_call 36; (with_reducible refine (c2.out _).mono ?_); rintro e w' ⟨rfl, k⟩; replace kk := Keep.trans kk k; replace ax := Keep.at k ax (fun e => e); replace ac := Keep.at k ac (fun e => e); have cx := At.cell ax; have cc := At.cell ac; clear k)
        | (go_at_call 37; (with_reducible refine (c4.out _).mono ?_); rintro e w' ⟨rfl, k⟩; replace kk := Keep.trans kk k; replace ax := Keep.at k ax (fun e => e); replace ac := Keep.at k ac (fun e => e); have cx := At.cell ax; have cc := At.cell ac; clear k)
        | (go_at_call 38; (with_reducible refine (c7.out _).mono ?_); rintro e w' ⟨rfl, k⟩; replace kk := Keep.trans kk k; replace ax := Keep.at k ax (fun e => e); replace ac := Keep.at k ac (fun e => e); have cx := At.cell ax; have cc := At.cell ac; clear k))
      go_ret
      exact ⟨rfl, kk.below (Nat.le_refl _) not_none⟩
    · have b6 : (op == 6) = false := by simp [h6]
      rw [b6] at hg
      by_cases hg0 : 0 ≤ g
      · have hg1 : decide (g < c.groups) = false := by simpa [hg0] using hg
        clear hg
        go_wp2_with (first
          | (go_at_call 36; (with_reducible refine (c2.out _).mono ?_); rintro e w' ⟨rfl, k⟩; replace kk := Keep.trans kk k; replace ax := Keep.at k ax (fun e => e); replace ac := Keep.at k ac (fun e => e); have cx := At.cell ax; have cc := At.cell ac; clear k)
          | (go_at_call 37; (with_reducible refine (c4.out _).mono ?_); rintro e w' ⟨rfl, k⟩; replace kk := Keep.trans kk k; replace ax := Keep.at k ax (fun e => e); replace ac := Keep.at k ac (fun e => e); have cx := At.cell ax; have cc := At.cell ac; clear k)
          | (go_at_call 38; (with_reducible refine (c7.out _).mono ?_); rintro e w' ⟨rfl, k⟩; replace kk := Keep.trans kk k; replace ax := Keep.at k ax (fun e => e); replace ac := Keep.at k ac (fun e => e); have cx := At.cell ax; have cc := At.cell ac; clear k))
        go_ret
        exact ⟨rfl, kk.below (Nat.le_refl _) not_none⟩
      · clear hg
        go_wp2_with (first
          | (go_at_call 36; (with_reducible refine (c2.out _).mono ?_); rintro e w' ⟨rfl, k⟩; replace kk := Keep.trans kk k; replace ax := Keep.at k ax (fun e => e); replace ac := Keep.at k ac (fun e => e); have cx := At.cell ax; have cc := At.cell ac; clear k)
          | (go_at_call 37; (with_reducible refine (c4.out _).mono ?_); rintro e w' ⟨rfl, k⟩; replace kk := Keep.trans kk k; replace ax := Keep.at k ax (fun e => e); replace ac := Keep.at k ac (fun e => e); have cx := At.cell ax; have cc := At.cell ac; clear k)
          | (go_at_call 38; (with_reducible refine (c7.out _).mono ?_); rintro e w' ⟨rfl, k⟩; replace kk := Keep.trans kk k; replace ax := Keep.at k ax (fun e => e); replace ac := Keep.at k ac (fun e => e); have cx := At.cell ax; have cc := At.cell ac; clear k))
        go_ret
        exact ⟨rfl, kk.below (Nat.le_refl _) not_none⟩
  · go_wp2_with (first
      | (go_at_call 36; (with_reducible refine (c2.out _).mono ?_); rintro e w' ⟨rfl, k⟩; replace kk := Keep.trans kk k; replace ax := Keep.at k ax (fun e => e); replace ac := Keep.at k ac (fun e => e); have cx := At.cell ax; have cc := At.cell ac; clear k)
      | (go_at_call 37; (with_reducible refine (c4.out _).mono ?_); rintro e w' ⟨rfl, k⟩; replace kk := Keep.trans kk k; replace ax := Keep.at k ax (fun e => e); replace ac := Keep.at k ac (fun e => e); have cx := At.cell ax; have cc := At.cell ac; clear k)
      | (go_at_call 38; (with_reducible refine (c7.out _).mono ?_); rintro e w' ⟨rfl, k⟩; replace kk := Keep.trans kk k; replace ax := Keep.at k ax (fun e => e); replace ac := Keep.at k ac (fun e => e); have cx := At.cell ax; have cc := At.cell ac; clear k))
    go_ret
    exact ⟨rfl, kk.below (Nat.le_refl _) not_none⟩
  · obtain rfl : cm = true := hmc.out rfl
    have hg := hgi.out rfl
    simp only [Bool.true_or, Bool.and_eq_true, decide_eq_true_eq] at hg
    obtain ⟨hg0, hg1⟩ := hg
    clear hgi
    go_wp2_with (first
      | (go_at_call 36; (with_reducible refine (c2.out _).mono ?_); rintro e w' ⟨rfl, k⟩; replace kk := Keep.trans kk k; replace ax := Keep.at k ax (fun e => e); replace ac := Keep.at k ac (fun e => e); have cx := At.cell ax; have cc := At.cell ac; clear k)
      | (go_at_call 37; (with_reducible refine (c4.out _).mono ?_); rintro e w' ⟨rfl, k⟩; replace kk := Keep.trans kk k; replace ax := Keep.at k ax (fun e => e); replace ac := Keep.at k ac (fun e => e); have cx := At.cell ax; have cc := At.cell ac; clear k)
      | (go_at_call 38; (with_reducible refine (c7.out _).mono ?_); rintro e w' ⟨rfl, k⟩; replace kk := Keep.trans kk k; replace ax := Keep.at k ax (fun e => e); replace ac := Keep.at k ac (fun e => e); have cx := At.cell ax; have cc := At.cell ac; clear k))
    go_ret
    exact ⟨rfl, kk.below (Nat.le_refl _) not_none⟩
  · go_wp2_with (first
      | (go_at_call 36; (with_reducible refine (c2.out _).mono ?_); rintro e w' ⟨rfl, k⟩; replace kk := Keep.trans kk k; replace ax := Keep.at k ax (fun e => e); replace ac := Keep.at k ac (fun e => e); have cx := At.cell ax; have cc := At.cell ac; clear k)
      | (go_at_call 37; (with_reducible refine (c4.out _).mono ?_); rintro e w' ⟨rfl, k⟩; replace kk := Keep.trans kk k; replace ax := Keep.at k ax (fun e => e); replace ac := Keep.at k ac (fun e => e); have cx := At.cell ax; have cc := At.cell ac; clear k)
      | (go_at_call 38; (with_reducible refine (c7.out _).mono ?_); rintro e w' ⟨rfl, k⟩; replace kk := Keep.trans kk k; replace ax := Keep.at k ax (fun e => e); replace ac := Keep.at k ac (fun e => e); have cx := At.cell ax; have cc := At.cell ac; clear k))
    go_ret
    exact ⟨rfl, kk.below (Nat.le_refl _) not_none⟩
  · obtain rfl : cm = true := hmc.out rfl
    have hg := hgi.out rfl
    simp only [Bool.true_or, Bool.and_eq_true, decide_eq_true_eq] at hg
    obtain ⟨hg0, hg1⟩ := hg
    clear hgi
    go_wp2_with (first
      | (go_at_call 36; (with_reducible refine (c2.out _).mono ?_); rintro e w' ⟨rfl, k⟩; replace kk := Keep.trans kk k; replace ax := Keep.at k ax (fun e => e); replace ac := Keep.at k ac (fun e => e); have cx := At.cell ax; have cc := At.cell ac; clear k)
      | (go_at_call 37; (with_reducible refine (c4.out _).mono ?_); rintro e w' ⟨rfl, k⟩; replace kk := Keep.trans kk k; replace ax := Keep.at k ax (fun e => e); replace ac := Keep.at k ac (fun e => e); have cx := At.cell ax; have cc := At.cell ac; clear k)
      | (go_at_call 38; (with_reducible refine (c7.out _).mono ?_); rintro e w' ⟨rfl, k⟩; replace kk := Keep.trans kk k; replace ax := Keep.at k ax (fun e => e); replace ac := Keep.at k ac (fun e => e); have cx := At.cell ax; have cc := At.cell ac; clear k))
    go_ret
    exact ⟨rfl, kk.below (Nat.le_refl _) not_none⟩
end Go.Proofs.Ytlnlbegcnhelmaa
