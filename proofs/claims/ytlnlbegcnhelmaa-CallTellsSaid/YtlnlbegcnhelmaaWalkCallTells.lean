/-
  The walk of the law CallTells.
-/
import Derived.Test.YtlnlbegcnhelmaaWalkCallGroup
import Derived.Test.YtlnlbegcnhelmaaRef12
import Derived.Test.YtlnlbegcnhelmaaReply
namespace Go.Proofs.Ytlnlbegcnhelmaa
open Go.RowKit

def SomeBool (w : World) (e : Ending) (w' : World) : Prop := ∃ q, e = .returned (.bool q) ∧ Keep none_ w w'
theorem few12 (w : World) (x : Int) {A : Option Addr} {n c : Nat} {a : List Pane} (h : Sl Pane.cells 7 w A n c a) (hok : ∀ p ∈ a, p.ok) :
    Calls Try.prog 39 #[.agg #[.int .i64 x, .slice A n c]] w (SomeBool w) := by
  obtain rfl := h.len
  have hnc := h.2.2.1
  have hlc := h.2.1
  unfold maxLen at hnc
  have k1 : Keep none_ w (w.alloc (.cells #[.int .i64 x, .slice A a.length c] 73)) := (by repeat' (first | assumption | with_reducible exact Keep.refl _ _ | with_reducible refine Keep.alloc ?_ _ | with_reducible refine Keep.drew ?_))
  have hx := At.new w #[.int .i64 x, .slice A a.length c] 73
  have h1 := h.keep k1 Off.none_
  clear h
  go_enter Try.func39, Try.ntmps39
  go_wp2_with fail
  generalize w.alloc _ = w1 at *
  have cx := At.cell hx
  go_loopw [3] (fun i wr => ∃ k : Nat, k ≤ a.length ∧ i = .int .i64 k ∧ wr = w1) (fun i _ => a.length - (intOf i).toNat)
  case atStart => exact ⟨0, Nat.zero_le _, rfl, rfl⟩
  case round =>
    obtain ⟨k, hk, rfl, rfl⟩ := hrel
    by_cases hlt : k < a.length
    · obtain ⟨b, off, rfl, hb, -⟩ := h1.at_ (by omega)
      have p1 := (h1.pane hlt).c0
      have hks := (hok a[k] (List.getElem_mem _)).1
      unfold maxLen at hks
      generalize a[k].key = key at *
      clear h1
      by_cases h30 : k < 30
      · by_cases h100 : 100 < key.size
        · go_wp2_with fail
          go_ret
          exact ⟨false, rfl, k1⟩
        · go_wp2_with fail
          go_roundw
          case rel => exact ⟨k + 1, by omega, by go_num, by trivial⟩
          case measure => simp [intOf]; omega
      · go_wp2_with fail
        go_ret
        exact ⟨_, rfl, k1⟩
    · go_wp2_with fail
      go_ret
      exact ⟨_, rfl, k1⟩

set_option maxHeartbeats 4000000 in
set_option maxRecDepth 100000 in
theorem law_CallTells (c : Config) (x : Call) (a : Reply) (va : Array Value) (b : Reply) (vb : Array Value) (W : World) (hc : c.ok) (hx : x.ok) (ha : rReply W a va.toList) (hb : rReply W b vb.toList) :
    Calls Try.prog 8 #[.agg c.cells.toArray, .agg x.cells.toArray, .agg va, .agg vb] W fun e W' => e = .returned (.bool true) ∧ Below W.heap.size W W' := by
  obtain ⟨A, n, ca, ea, -, hsa, hoka⟩ := ha
  obtain ⟨B, m, cb, eb, -, hsb, hokb⟩ := hb
  obtain ⟨ac, ap⟩ := a
  obtain ⟨bc, bp⟩ := b
  simp only at ea eb hsa hsb hoka hokb
  obtain rfl : va = #[.int .i64 ac, .slice A n ca] := by rw [← ea]
  obtain rfl : vb = #[.int .i64 bc, .slice B m cb] := by rw [← eb]
  clear ea eb
  have hks := hx.2.1
  unfold maxLen at hks
  have c1 := Lib.hid (fun w => call_may w c x hc hx)
  have c2 := Lib.hid (fun w => ref12_may w c x hc hx)
  have c3 := Lib.hid (fun w => call_keyed w x)
  have c4 := Lib.hid (fun w => ref12_keyed w x)
  have c5 := Lib.hid (fun w => call_group w c x hc hx)
  have c6 := Lib.hid (fun w => ref12_group w c x hc hx)
  have c7 := Lib.hid (fun w (k : Keep none_ W w) => call_same w ac bc (hsa.keep k Off.none_) (hsb.keep k Off.none_))
  have c8 := Lib.hid (fun w (k : Keep none_ W w) => ref12_same w ac bc (hsa.keep k Off.none_) (hsb.keep k Off.none_))
  have c9 := fun w (k : Keep none_ W w) => call_same w ac ac (hsa.keep k Off.none_) (hsa.keep k Off.none_)
  simp only [panesB_self, beq_self_eq_true, Bool.and_true] at c9
  replace c9 := Lib.hid c9
  have ca1 := Lib.hid (fun w (k : Keep none_ W w) => few12 w ac (hsa.keep k Off.none_) hoka)
  have ca2 := Lib.hid (fun w (k : Keep none_ W w) => few12 w bc (hsb.keep k Off.none_) hokb)
  generalize x.mayB c = z1 at *
  generalize x.keyedB = z2 at *
  generalize x.groupI c = z3 at *
  generalize (ac == bc && panesB ap bp) = z4 at *
  obtain ⟨w0, hw0⟩ : ∃ w0, w0 = (((W.alloc (.cells c.cells.toArray 63)).alloc (.cells x.cells.toArray 65)).alloc (.cells #[.int .i64 ac, .slice A n ca] 73)).alloc (.cells #[.int .i64 bc, .slice B m cb] 73) := ⟨_, rfl⟩
  have kk : Keep none_ W w0 := by rw [hw0]; exact (by repeat' (first | assumption | with_reducible exact Keep.refl _ _ | with_reducible refine Keep.alloc ?_ _ | with_reducible refine Keep.drew ?_))
  have hc0 : At w0 W.heap.size c.cells.toArray 63 := by rw [hw0]; exact (by repeat' (first | with_reducible exact At.newAt (by simp) _ _ | with_reducible refine At.drew ?_ | with_reducible refine At.alloc ?_ _))
  have hx0 : At w0 (W.heap.size + 1) x.cells.toArray 65 := by rw [hw0]; exact (by repeat' (first | with_reducible exact At.newAt (by simp) _ _ | with_reducible refine At.drew ?_ | with_reducible refine At.alloc ?_ _))
  have ha0 : At w0 (W.heap.size + 1 + 1) #[.int .i64 ac, .slice A n ca] 73 := by rw [hw0]; exact (by repeat' (first | with_reducible exact At.newAt (by simp) _ _ | with_reducible refine At.drew ?_ | with_reducible refine At.alloc ?_ _))
  have hb0 : At w0 (W.heap.size + 1 + 1 + 1) #[.int .i64 bc, .slice B m cb] 73 := by rw [hw0]; exact (by repeat' (first | with_reducible exact At.newAt (by simp) _ _ | with_reducible refine At.drew ?_ | with_reducible refine At.alloc ?_ _))
  simp only [Config.cells, Call.cells] at hw0 hc0 hx0
  clear hsa hsb hoka hokb hc hx
  go_enter Try.func8, Try.ntmps8
  go_wp2_with fail
  rw [← hw0]
  clear hw0
  refine (callUp _).mono ?_
  rintro e w1 ⟨rfl, k1⟩
  replace kk := kk.trans k1
  replace hc0 := Keep.at k1 hc0 (fun e => e)
  replace hx0 := Keep.at k1 hx0 (fun e => e)
  replace ha0 := Keep.at k1 ha0 (fun e => e)
  replace hb0 := Keep.at k1 hb0 (fun e => e)
  have cc := At.cell hc0
  have cx := At.cell hx0
  have ca0 := At.cell ha0
  have cb0 := At.cell hb0
  clear k1
  by_cases hk1 : 1000 < x.key.size
  · go_wp2_with fail
    go_ret
    exact ⟨rfl, kk.below (Nat.le_refl _) not_none⟩
  · go_wp2_with fail
    refine (ca1.out _ kk).mono ?_
    rintro e w2 ⟨q1, rfl, k2⟩
    replace kk := kk.trans k2
    replace hc0 := Keep.at k2 hc0 (fun e => e)
    replace hx0 := Keep.at k2 hx0 (fun e => e)
    replace ha0 := Keep.at k2 ha0 (fun e => e)
    replace hb0 := Keep.at k2 hb0 (fun e => e)
    have cc := At.cell hc0
    have cx := At.cell hx0
    have ca0 := At.cell ha0
    have cb0 := At.cell hb0
    clear k2
    cases q1
    · go_wp2_with fail
      go_ret
      exact ⟨rfl, kk.below (Nat.le_refl _) not_none⟩
    · go_wp2_with fail
      refine (ca2.out _ kk).mono ?_
      rintro e w3 ⟨q2, rfl, k3⟩
      replace kk := kk.trans k3
      replace hc0 := Keep.at k3 hc0 (fun e => e)
      replace hx0 := Keep.at k3 hx0 (fun e => e)
      replace ha0 := Keep.at k3 ha0 (fun e => e)
      replace hb0 := Keep.at k3 hb0 (fun e => e)
      have cc := At.cell hc0
      have cx := At.cell hx0
      have ca0 := At.cell ha0
      have cb0 := At.cell hb0
      clear k3
      cases q2
      · go_wp2_with fail
        go_ret
        exact ⟨rfl, kk.below (Nat.le_refl _) not_none⟩
      · clear ca1 ca2 cc cx ca0 cb0
        go_wp2_with fail
        obtain ⟨ι, hne, f, hf0, hfk, hfa⟩ := class_of none_ w3
        have f1 : ∀ n i, (f n).cell? ⟨_, i, none⟩ = _ := fun n => At.cell (Keep.at (hfk n) hc0 (fun e => e))
        have f2 : ∀ n i, (f n).cell? ⟨_, i, none⟩ = _ := fun n => At.cell (Keep.at (hfk n) hx0 (fun e => e))
        have f3 : ∀ n i, (f n).cell? ⟨_, i, none⟩ = _ := fun n => At.cell (Keep.at (hfk n) ha0 (fun e => e))
        have f4 : ∀ n i, (f n).cell? ⟨_, i, none⟩ = _ := fun n => At.cell (Keep.at (hfk n) hb0 (fun e => e))
        have kf := fun n => kk.trans (hfk n)
        refine wp_region_class f (by kernel_rfl) (by kernel_rfl) hf0 ?_
        repeat (go_big_quiet_step (first
          | (go_at_call 36; exact Calls.class_of hfa (c1.out _))
          | (go_at_call 40; exact Calls.class_of hfa (c2.out _))
          | (go_at_call 37; exact Calls.class_of hfa (c3.out _))
          | (go_at_call 41; exact Calls.class_of hfa (c4.out _))
          | (go_at_call 35; exact Calls.class_of hfa (c5.out _))
          | (go_at_call 42; exact Calls.class_of hfa (c6.out _))
          | (go_at_call 43; with_reducible exact Calls.class_of hfa (c9.out _ (kf _)))
          | (go_at_call 43; with_reducible exact Calls.class_of hfa (c7.out _ (kf _)))
          | (go_at_call 44; exact Calls.class_of hfa (c8.out _ (kf _)))))
        refine wpQuiet_nil ?_
        rintro _ ⟨nn, rfl⟩
        go_wp2_with fail
        go_ret
        exact ⟨rfl, (kf nn).below (Nat.le_refl _) not_none⟩
end Go.Proofs.Ytlnlbegcnhelmaa
