/-
  The walk of the law SpanTells.
-/
import Derived.Test.YtkbaijdamddipaaSpanRef
namespace Go.Proofs.Ytkbaijdamddipaa
open Go.RowKit

theorem spanUp (w : World) : Calls Try.prog 47 #[] w fun e w' => e = .returned (.bool true) ∧ Keep none_ w w' := by
  have c1 : Hid (∀ w, Calls Try.prog 51 #[.agg (Span.mk 0 10).cells.toArray, .agg (Span.mk 10 20).cells.toArray] w fun e w' => e = .returned (.bool false) ∧ Keep none_ w w') := Lib.hid (fun w => span_meet w ⟨0, 10⟩ ⟨10, 20⟩)
  have c2 : Hid (∀ w, Calls Try.prog 48 #[.agg (Span.mk 0 10).cells.toArray] w fun e w' => e = .returned (.bool true) ∧ Keep none_ w w') := Lib.hid (fun w => span_may w ⟨0, 10⟩)
  have c3 : Hid (∀ w, Calls Try.prog 48 #[.agg (Span.mk 0 0).cells.toArray] w fun e w' => e = .returned (.bool false) ∧ Keep none_ w w') := Lib.hid (fun w => span_may w ⟨0, 0⟩)
  have c4 : Hid (∀ w, Calls Try.prog 49 #[.agg (Span.mk 0 10).cells.toArray, .int .i64 0] w fun e w' => e = .returned (.bool true) ∧ Keep none_ w w') := Lib.hid (fun w => span_has w ⟨0, 10⟩ 0)
  have c5 : Hid (∀ w, Calls Try.prog 49 #[.agg (Span.mk 0 10).cells.toArray, .int .i64 10] w fun e w' => e = .returned (.bool false) ∧ Keep none_ w w') := Lib.hid (fun w => span_has w ⟨0, 10⟩ 10)
  have c6 : Hid (∀ w, Calls Try.prog 52 #[.agg (Span.mk 0 10).cells.toArray, .agg (Span.mk 10 20).cells.toArray] w fun e w' => e = .returned (.agg (Span.mk 0 20).cells.toArray) ∧ Keep none_ w w') := Lib.hid (fun w => span_join w ⟨0, 10⟩ ⟨10, 20⟩)
  have c7 : Hid (∀ w, Calls Try.prog 54 #[.agg (Span.mk 0 10).cells.toArray, .int .i64 0, .int .i64 10] w fun e w' => e = .returned (.bool true) ∧ Keep none_ w w') := Lib.hid (fun w => span_over w ⟨0, 10⟩ 0 10 (by simp [Span.ok, I64]) (by simp [I64]) (by simp [I64]))
  have c8 : Hid (∀ w, Calls Try.prog 54 #[.agg (Span.mk 0 10).cells.toArray, .int .i64 1, .int .i64 10] w fun e w' => e = .returned (.bool false) ∧ Keep none_ w w') := Lib.hid (fun w => span_over w ⟨0, 10⟩ 1 10 (by simp [Span.ok, I64]) (by simp [I64]) (by simp [I64]))
  have hx := At.alloc (At.new w #[.int .i64 0, .int .i64 10] 62) (.cells #[.int .i64 10, .int .i64 20] 62)
  have hy : At ((w.alloc (.cells #[.int .i64 0, .int .i64 10] 62)).alloc (.cells #[.int .i64 10, .int .i64 20] 62)) (w.heap.size + 1) #[.int .i64 10, .int .i64 20] 62 := At.newAt (by simp) _ _
  have kk : Keep none_ w ((w.alloc (.cells #[.int .i64 0, .int .i64 10] 62)).alloc (.cells #[.int .i64 10, .int .i64 20] 62)) := (by repeat' (first | exact Keep.refl _ _ | refine Keep.set1 ?_ _ | refine Keep.alloc ?_ _ | refine Keep.drew ?_ | refine Keep.setNew ?_ (by simp) _))
  go_enter Try.func47, Try.ntmps47
  go_wp2_with (first
    | (go_at_call 51; (with_reducible refine (c1.out _).mono ?_); rintro e w' ⟨rfl, k⟩; replace kk := Keep.trans kk k; replace hx := Keep.at k hx (fun e => e); replace hy := Keep.at k hy (fun e => e); have cx := At.cell hx; have cy := At.cell hy; clear k)
    | (go_at_call 48; (with_reducible refine (c2.out _).mono ?_); rintro e w' ⟨rfl, k⟩; replace kk := Keep.trans kk k; replace hx := Keep.at k hx (fun e => e); replace hy := Keep.at k hy (fun e => e); have cx := At.cell hx; have cy := At.cell hy; clear k)
    | (go_at_call 48; (with_reducible refine (c3.out _).mono ?_); rintro e w' ⟨rfl, k⟩; replace kk := Keep.trans kk k; replace hx := Keep.at k hx (fun e => e); replace hy := Keep.at k hy (fun e => e); have cx := At.cell hx; have cy := At.cell hy; clear k)
    | (go_at_call 49; (with_reducible refine (c4.out _).mono ?_); rintro e w' ⟨rfl, k⟩; replace kk := Keep.trans kk k; replace hx := Keep.at k hx (fun e => e); replace hy := Keep.at k hy (fun e => e); have cx := At.cell hx; have cy := At.cell hy; clear k)
    | (go_at_call 49; (with_reducible refine (c5.out _).mono ?_); rintro e w' ⟨rfl, k⟩; replace kk := Keep.trans kk k; replace hx := Keep.at k hx (fun e => e); replace hy := Keep.at k hy (fun e => e); have cx := At.cell hx; have cy := At.cell hy; clear k)
    | (go_at_call 52; (with_reducible refine (c6.out _).mono ?_); rintro e w' ⟨rfl, k⟩; replace kk := Keep.trans kk k; replace hx := Keep.at k hx (fun e => e); replace hy := Keep.at k hy (fun e => e); have cx := At.cell hx; have cy := At.cell hy; clear k)
    | (go_at_call 54; (with_reducible refine (c7.out _).mono ?_); rintro e w' ⟨rfl, k⟩; replace kk := Keep.trans kk k; replace hx := Keep.at k hx (fun e => e); replace hy := Keep.at k hy (fun e => e); have cx := At.cell hx; have cy := At.cell hy; clear k)
    | (go_at_call 54; (with_reducible refine (c8.out _).mono ?_); rintro e w' ⟨rfl, k⟩; replace kk := Keep.trans kk k; replace hx := Keep.at k hx (fun e => e); replace hy := Keep.at k hy (fun e => e); have cx := At.cell hx; have cy := At.cell hy; clear k))
  go_ret
  exact ⟨rfl, kk⟩

theorem has_eq (a : Span) (t : Int) : a.hasB t = (a.mayB && decide (a.s ≤ t) && decide (t < a.e)) := by
  unfold Span.hasB Span.mayB; rw [Bool.eq_iff_iff]; simp; omega
theorem meet_eq (a b : Span) : a.meetB b = (a.mayB && b.mayB && a.meetR b) := by
  unfold Span.meetB Span.meetR Span.mayB; rw [Bool.eq_iff_iff]; simp; split <;> omega

set_option maxHeartbeats 2000000 in
set_option maxRecDepth 100000 in
theorem law_SpanTells (a b : Span) (t late mark : Int) (W : World) (ha : a.ok) (hb : b.ok) (ht : I64 t) (hl : I64 late) (hm : I64 mark) :
    Calls Try.prog 11 #[.agg a.cells.toArray, .agg b.cells.toArray, .int .i64 t, .int .i64 late, .int .i64 mark] W fun e W' => e = .returned (.bool true) ∧ Below W.heap.size W W' := by
  have c1 := fun w => span_may w a
  have c2 := fun w => span_has w a t
  have c3 := Lib.hid (fun w => ref_meet w a b)
  have c4 := fun w => span_meet w a b
  have c5 := Lib.hid (fun w => span_join w a b)
  have c6 := Lib.hid (fun w => ref_join w a b)
  have c7 := Lib.hid (fun w => span_over w a late mark ha hl hm)
  have c8 := Lib.hid (fun w => ref_over w a late mark ha hl hm)
  have c9 := Lib.hid (fun w => span_compare w a b)
  have c10 := Lib.hid (fun w => ref_compare w a b)
  have hx := At.alloc (At.new W a.cells.toArray 62) (.cells b.cells.toArray 62)
  have hy : At ((W.alloc (.cells a.cells.toArray 62)).alloc (.cells b.cells.toArray 62)) (W.heap.size + 1) b.cells.toArray 62 := At.newAt (by simp) _ _
  have kk : Keep none_ W ((W.alloc (.cells a.cells.toArray 62)).alloc (.cells b.cells.toArray 62)) := (by repeat' (first | exact Keep.refl _ _ | refine Keep.set1 ?_ _ | refine Keep.alloc ?_ _ | refine Keep.drew ?_ | refine Keep.setNew ?_ (by simp) _))
  simp only [Span.cells] at hx hy kk
  have hmb : b.mayB = decide (b.s < b.e) := rfl
  have hma : a.mayB = decide (a.s < a.e) := rfl
  simp only [has_eq] at c2
  simp only [meet_eq] at c4
  rw [hma] at c1
  simp only [hma, hmb] at c2 c4
  clear ha hb ht hl hm hma hmb
  have hcases : (decide (a.s < a.e) = true ∧ decide (b.s < b.e) = true) ∨ (decide (a.s < a.e) = true ∧ decide (b.s < b.e) = false) ∨ (decide (a.s < a.e) = false) := by
    cases decide (a.s < a.e) <;> cases decide (b.s < b.e) <;> simp
  rcases hcases with ⟨h1, h2⟩ | ⟨h1, h2⟩ | h1
  · simp only [h1, h2, Bool.true_and] at c1 c2 c4
    have c1 := Lib.hid c1
    have c4 := Lib.hid c4
    by_cases h3 : a.s ≤ t
    · simp only [h3, decide_true, Bool.true_and] at c2
      have c2 := Lib.hid c2
      go_enter Try.func11, Try.ntmps11
      go_wp2_with (first
        | (go_at_call 47; (with_reducible refine (spanUp _).mono ?_); rintro e w' ⟨rfl, k⟩; replace kk := Keep.trans kk k; replace hx := Keep.at k hx (fun e => e); replace hy := Keep.at k hy (fun e => e); have cx := At.cell hx; have cy := At.cell hy; clear k)
        | (go_at_call 48; (with_reducible refine (c1.out _).mono ?_); rintro e w' ⟨rfl, k⟩; replace kk := Keep.trans kk k; replace hx := Keep.at k hx (fun e => e); replace hy := Keep.at k hy (fun e => e); have cx := At.cell hx; have cy := At.cell hy; clear k)
        | (go_at_call 49; (with_reducible refine (c2.out _).mono ?_); rintro e w' ⟨rfl, k⟩; replace kk := Keep.trans kk k; replace hx := Keep.at k hx (fun e => e); replace hy := Keep.at k hy (fun e => e); have cx := At.cell hx; have cy := At.cell hy; clear k)
        | (go_at_call 50; (with_reducible refine (c3.out _).mono ?_); rintro e w' ⟨rfl, k⟩; replace kk := Keep.trans kk k; replace hx := Keep.at k hx (fun e => e); replace hy := Keep.at k hy (fun e => e); have cx := At.cell hx; have cy := At.cell hy; clear k))
      rename World => w1
      obtain ⟨ι, hne, f, hf0, hfk, hfa⟩ := class_of none_ w1
      have cfx : ∀ n i, (f n).cell? ⟨W.heap.size, i, none⟩ = _ := fun n => At.cell (Keep.at (hfk n) hx (fun e => e))
      have cfy : ∀ n i, (f n).cell? ⟨W.heap.size + 1, i, none⟩ = _ := fun n => At.cell (Keep.at (hfk n) hy (fun e => e))
      refine wp_region_class f (by kernel_rfl) (by kernel_rfl) hf0 ?_
      repeat (go_big_quiet_step (first
        | (go_at_call 51; exact Calls.class_of hfa (c4.out _))
        | (go_at_call 52; exact Calls.class_of hfa (c5.out _))
        | (go_at_call 53; exact Calls.class_of hfa (c6.out _))
        | (go_at_call 54; exact Calls.class_of hfa (c7.out _))
        | (go_at_call 55; exact Calls.class_of hfa (c8.out _))
        | (go_at_call 56; exact Calls.class_of hfa (c9.out _))
        | (go_at_call 57; exact Calls.class_of hfa (c10.out _))))
      refine wpQuiet_nil ?_
      rintro _ ⟨n, rfl⟩
      go_wp2
      go_ret
      exact ⟨rfl, (kk.trans (hfk n)).below (Nat.le_refl _) not_none⟩
    · have h4 : decide (a.s ≤ t) = false := by simpa using h3
      simp only [h4, Bool.false_and] at c2
      have c2 := Lib.hid c2
      go_enter Try.func11, Try.ntmps11
      go_wp2_with (first
        | (go_at_call 47; (with_reducible refine (spanUp _).mono ?_); rintro e w' ⟨rfl, k⟩; replace kk := Keep.trans kk k; replace hx := Keep.at k hx (fun e => e); replace hy := Keep.at k hy (fun e => e); have cx := At.cell hx; have cy := At.cell hy; clear k)
        | (go_at_call 48; (with_reducible refine (c1.out _).mono ?_); rintro e w' ⟨rfl, k⟩; replace kk := Keep.trans kk k; replace hx := Keep.at k hx (fun e => e); replace hy := Keep.at k hy (fun e => e); have cx := At.cell hx; have cy := At.cell hy; clear k)
        | (go_at_call 49; (with_reducible refine (c2.out _).mono ?_); rintro e w' ⟨rfl, k⟩; replace kk := Keep.trans kk k; replace hx := Keep.at k hx (fun e => e); replace hy := Keep.at k hy (fun e => e); have cx := At.cell hx; have cy := At.cell hy; clear k)
        | (go_at_call 50; (with_reducible refine (c3.out _).mono ?_); rintro e w' ⟨rfl, k⟩; replace kk := Keep.trans kk k; replace hx := Keep.at k hx (fun e => e); replace hy := Keep.at k hy (fun e => e); have cx := At.cell hx; have cy := At.cell hy; clear k))
      rename World => w1
      obtain ⟨ι, hne, f, hf0, hfk, hfa⟩ := class_of none_ w1
      have cfx : ∀ n i, (f n).cell? ⟨W.heap.size, i, none⟩ = _ := fun n => At.cell (Keep.at (hfk n) hx (fun e => e))
      have cfy : ∀ n i, (f n).cell? ⟨W.heap.size + 1, i, none⟩ = _ := fun n => At.cell (Keep.at (hfk n) hy (fun e => e))
      refine wp_region_class f (by kernel_rfl) (by kernel_rfl) hf0 ?_
      repeat (go_big_quiet_step (first
        | (go_at_call 51; exact Calls.class_of hfa (c4.out _))
        | (go_at_call 52; exact Calls.class_of hfa (c5.out _))
        | (go_at_call 53; exact Calls.class_of hfa (c6.out _))
        | (go_at_call 54; exact Calls.class_of hfa (c7.out _))
        | (go_at_call 55; exact Calls.class_of hfa (c8.out _))
        | (go_at_call 56; exact Calls.class_of hfa (c9.out _))
        | (go_at_call 57; exact Calls.class_of hfa (c10.out _))))
      refine wpQuiet_nil ?_
      rintro _ ⟨n, rfl⟩
      go_wp2
      go_ret
      exact ⟨rfl, (kk.trans (hfk n)).below (Nat.le_refl _) not_none⟩
  · simp only [h1, h2, Bool.true_and, Bool.false_and] at c1 c2 c4
    have c1 := Lib.hid c1
    have c4 := Lib.hid c4
    by_cases h3 : a.s ≤ t
    · simp only [h3, decide_true, Bool.true_and] at c2
      have c2 := Lib.hid c2
      go_enter Try.func11, Try.ntmps11
      go_wp2_with (first
        | (go_at_call 47; (with_reducible refine (spanUp _).mono ?_); rintro e w' ⟨rfl, k⟩; replace kk := Keep.trans kk k; replace hx := Keep.at k hx (fun e => e); replace hy := Keep.at k hy (fun e => e); have cx := At.cell hx; have cy := At.cell hy; clear k)
        | (go_at_call 48; (with_reducible refine (c1.out _).mono ?_); rintro e w' ⟨rfl, k⟩; replace kk := Keep.trans kk k; replace hx := Keep.at k hx (fun e => e); replace hy := Keep.at k hy (fun e => e); have cx := At.cell hx; have cy := At.cell hy; clear k)
        | (go_at_call 49; (with_reducible refine (c2.out _).mono ?_); rintro e w' ⟨rfl, k⟩; replace kk := Keep.trans kk k; replace hx := Keep.at k hx (fun e => e); replace hy := Keep.at k hy (fun e => e); have cx := At.cell hx; have cy := At.cell hy; clear k)
        | (go_at_call 50; (with_reducible refine (c3.out _).mono ?_); rintro e w' ⟨rfl, k⟩; replace kk := Keep.trans kk k; replace hx := Keep.at k hx (fun e => e); replace hy := Keep.at k hy (fun e => e); have cx := At.cell hx; have cy := At.cell hy; clear k))
      rename World => w1
      obtain ⟨ι, hne, f, hf0, hfk, hfa⟩ := class_of none_ w1
      have cfx : ∀ n i, (f n).cell? ⟨W.heap.size, i, none⟩ = _ := fun n => At.cell (Keep.at (hfk n) hx (fun e => e))
      have cfy : ∀ n i, (f n).cell? ⟨W.heap.size + 1, i, none⟩ = _ := fun n => At.cell (Keep.at (hfk n) hy (fun e => e))
      refine wp_region_class f (by kernel_rfl) (by kernel_rfl) hf0 ?_
      repeat (go_big_quiet_step (first
        | (go_at_call 51; exact Calls.class_of hfa (c4.out _))
        | (go_at_call 52; exact Calls.class_of hfa (c5.out _))
        | (go_at_call 53; exact Calls.class_of hfa (c6.out _))
        | (go_at_call 54; exact Calls.class_of hfa (c7.out _))
        | (go_at_call 55; exact Calls.class_of hfa (c8.out _))
        | (go_at_call 56; exact Calls.class_of hfa (c9.out _))
        | (go_at_call 57; exact Calls.class_of hfa (c10.out _))))
      refine wpQuiet_nil ?_
      rintro _ ⟨n, rfl⟩
      go_wp2
      go_ret
      exact ⟨rfl, (kk.trans (hfk n)).below (Nat.le_refl _) not_none⟩
    · have h4 : decide (a.s ≤ t) = false := by simpa using h3
      simp only [h4, Bool.false_and] at c2
      have c2 := Lib.hid c2
      go_enter Try.func11, Try.ntmps11
      go_wp2_with (first
        | (go_at_call 47; (with_reducible refine (spanUp _).mono ?_); rintro e w' ⟨rfl, k⟩; replace kk := Keep.trans kk k; replace hx := Keep.at k hx (fun e => e); replace hy := Keep.at k hy (fun e => e); have cx := At.cell hx; have cy := At.cell hy; clear k)
        | (go_at_call 48; (with_reducible refine (c1.out _).mono ?_); rintro e w' ⟨rfl, k⟩; replace kk := Keep.trans kk k; replace hx := Keep.at k hx (fun e => e); replace hy := Keep.at k hy (fun e => e); have cx := At.cell hx; have cy := At.cell hy; clear k)
        | (go_at_call 49; (with_reducible refine (c2.out _).mono ?_); rintro e w' ⟨rfl, k⟩; replace kk := Keep.trans kk k; replace hx := Keep.at k hx (fun e => e); replace hy := Keep.at k hy (fun e => e); have cx := At.cell hx; have cy := At.cell hy; clear k)
        | (go_at_call 50; (with_reducible refine (c3.out _).mono ?_); rintro e w' ⟨rfl, k⟩; replace kk := Keep.trans kk k; replace hx := Keep.at k hx (fun e => e); replace hy := Keep.at k hy (fun e => e); have cx := At.cell hx; have cy := At.cell hy; clear k))
      rename World => w1
      obtain ⟨ι, hne, f, hf0, hfk, hfa⟩ := class_of none_ w1
      have cfx : ∀ n i, (f n).cell? ⟨W.heap.size, i, none⟩ = _ := fun n => At.cell (Keep.at (hfk n) hx (fun e => e))
      have cfy : ∀ n i, (f n).cell? ⟨W.heap.size + 1, i, none⟩ = _ := fun n => At.cell (Keep.at (hfk n) hy (fun e => e))
      refine wp_region_class f (by kernel_rfl) (by kernel_rfl) hf0 ?_
      repeat (go_big_quiet_step (first
        | (go_at_call 51; exact Calls.class_of hfa (c4.out _))
        | (go_at_call 52; exact Calls.class_of hfa (c5.out _))
        | (go_at_call 53; exact Calls.class_of hfa (c6.out _))
        | (go_at_call 54; exact Calls.class_of hfa (c7.out _))
        | (go_at_call 55; exact Calls.class_of hfa (c8.out _))
        | (go_at_call 56; exact Calls.class_of hfa (c9.out _))
        | (go_at_call 57; exact Calls.class_of hfa (c10.out _))))
      refine wpQuiet_nil ?_
      rintro _ ⟨n, rfl⟩
      go_wp2
      go_ret
      exact ⟨rfl, (kk.trans (hfk n)).below (Nat.le_refl _) not_none⟩
  · simp only [h1, Bool.false_and] at c1 c2 c4
    have c1 := Lib.hid c1
    have c4 := Lib.hid c4
    have c2 := Lib.hid c2
    go_enter Try.func11, Try.ntmps11
    go_wp2_with (first
      | (go_at_call 47; (with_reducible refine (spanUp _).mono ?_); rintro e w' ⟨rfl, k⟩; replace kk := Keep.trans kk k; replace hx := Keep.at k hx (fun e => e); replace hy := Keep.at k hy (fun e => e); have cx := At.cell hx; have cy := At.cell hy; clear k)
      | (go_at_call 48; (with_reducible refine (c1.out _).mono ?_); rintro e w' ⟨rfl, k⟩; replace kk := Keep.trans kk k; replace hx := Keep.at k hx (fun e => e); replace hy := Keep.at k hy (fun e => e); have cx := At.cell hx; have cy := At.cell hy; clear k)
      | (go_at_call 49; (with_reducible refine (c2.out _).mono ?_); rintro e w' ⟨rfl, k⟩; replace kk := Keep.trans kk k; replace hx := Keep.at k hx (fun e => e); replace hy := Keep.at k hy (fun e => e); have cx := At.cell hx; have cy := At.cell hy; clear k)
      | (go_at_call 50; (with_reducible refine (c3.out _).mono ?_); rintro e w' ⟨rfl, k⟩; replace kk := Keep.trans kk k; replace hx := Keep.at k hx (fun e => e); replace hy := Keep.at k hy (fun e => e); have cx := At.cell hx; have cy := At.cell hy; clear k))
    rename World => w1
    obtain ⟨ι, hne, f, hf0, hfk, hfa⟩ := class_of none_ w1
    have cfx : ∀ n i, (f n).cell? ⟨W.heap.size, i, none⟩ = _ := fun n => At.cell (Keep.at (hfk n) hx (fun e => e))
    have cfy : ∀ n i, (f n).cell? ⟨W.heap.size + 1, i, none⟩ = _ := fun n => At.cell (Keep.at (hfk n) hy (fun e => e))
    refine wp_region_class f (by kernel_rfl) (by kernel_rfl) hf0 ?_
    repeat (go_big_quiet_step (first
      | (go_at_call 51; exact Calls.class_of hfa (c4.out _))
      | (go_at_call 52; exact Calls.class_of hfa (c5.out _))
      | (go_at_call 53; exact Calls.class_of hfa (c6.out _))
      | (go_at_call 54; exact Calls.class_of hfa (c7.out _))
      | (go_at_call 55; exact Calls.class_of hfa (c8.out _))
      | (go_at_call 56; exact Calls.class_of hfa (c9.out _))
      | (go_at_call 57; exact Calls.class_of hfa (c10.out _))))
    refine wpQuiet_nil ?_
    rintro _ ⟨n, rfl⟩
    go_wp2
    go_ret
    exact ⟨rfl, (kk.trans (hfk n)).below (Nat.le_refl _) not_none⟩
end Go.Proofs.Ytkbaijdamddipaa
