/-
  The walks of the law SpanJoins, case by case.
-/
import Derived.Test.YtkbaijdamddipaaWalkSpanTells
import Derived.Outline
namespace Go.Proofs.Ytkbaijdamddipaa
open Go.RowKit

theorem cmp_facts (a b : Span) : (a.s = b.s ∧ a.e = b.e ∧ a.cmp b = 0 ∧ b.cmp a = 0) ∨ (a.s ≠ b.s ∧ (a.cmp b = 1 ∧ b.cmp a = -1 ∨ a.cmp b = -1 ∧ b.cmp a = 1)) ∨
    (a.s = b.s ∧ a.e ≠ b.e ∧ (a.cmp b = 1 ∧ b.cmp a = -1 ∨ a.cmp b = -1 ∧ b.cmp a = 1)) := by
  unfold Span.cmp orI orI orI cmpI
  by_cases h1 : a.s < b.s
  · right; left; refine ⟨by omega, Or.inr ⟨by simp [h1], ?_⟩⟩
    have h2 : ¬ b.s < a.s := by omega
    simp [h1, h2]
  · by_cases h2 : b.s < a.s
    · right; left; exact ⟨by omega, Or.inl ⟨by simp [h1, h2], by simp [h2]⟩⟩
    · have h3 : a.s = b.s := by omega
      by_cases h4 : a.e < b.e
      · right; right
        have h5 : ¬ b.e < a.e := by omega
        exact ⟨h3, by omega, Or.inr ⟨by simp [h1, h2, h4], by simp [h1, h2, h4, h5]⟩⟩
      · by_cases h5 : b.e < a.e
        · right; right; exact ⟨h3, by omega, Or.inl ⟨by simp [h1, h2, h4, h5], by simp [h1, h2, h5]⟩⟩
        · left; exact ⟨h3, by omega, by simp [h1, h2, h4, h5], by simp [h1, h2, h4, h5]⟩

def OvFacts (a : Span) (late mark more : Int) : Prop := (decide (mark ≤ more) = true ∧ Hid (∀ w, Calls Try.prog 54 #[.agg a.cells.toArray, .int .i64 late, .int .i64 mark] w fun e w' => e = .returned (.bool true) ∧ Keep none_ w w') ∧
      Hid (∀ w, Calls Try.prog 54 #[.agg a.cells.toArray, .int .i64 late, .int .i64 more] w fun e w' => e = .returned (.bool true) ∧ Keep none_ w w')) ∨
      (decide (mark ≤ more) = false ∧ Hid (∀ w, Calls Try.prog 54 #[.agg a.cells.toArray, .int .i64 late, .int .i64 mark] w fun e w' => e = .returned (.bool true) ∧ Keep none_ w w') ∧ Hid (∀ _ : World, True)) ∨
      (Hid (∀ w, Calls Try.prog 54 #[.agg a.cells.toArray, .int .i64 late, .int .i64 mark] w fun e w' => e = .returned (.bool false) ∧ Keep none_ w w') ∧ Hid (∀ _ : World, True))
def CmFacts (a b : Span) : Prop :=
  ((a.s == b.s) = true ∧ (a.e == b.e) = true ∧ Hid (∀ w, Calls Try.prog 56 #[.agg a.cells.toArray, .agg b.cells.toArray] w fun e w' => e = .returned (.int .i64 0) ∧ Keep none_ w w') ∧
        Hid (∀ w, Calls Try.prog 56 #[.agg b.cells.toArray, .agg a.cells.toArray] w fun e w' => e = .returned (.int .i64 0) ∧ Keep none_ w w')) ∨
      ((a.s == b.s) = false ∧ Hid (∀ w, Calls Try.prog 56 #[.agg a.cells.toArray, .agg b.cells.toArray] w fun e w' => e = .returned (.int .i64 1) ∧ Keep none_ w w') ∧
        Hid (∀ w, Calls Try.prog 56 #[.agg b.cells.toArray, .agg a.cells.toArray] w fun e w' => e = .returned (.int .i64 (-1)) ∧ Keep none_ w w')) ∨
      ((a.s == b.s) = false ∧ Hid (∀ w, Calls Try.prog 56 #[.agg a.cells.toArray, .agg b.cells.toArray] w fun e w' => e = .returned (.int .i64 (-1)) ∧ Keep none_ w w') ∧
        Hid (∀ w, Calls Try.prog 56 #[.agg b.cells.toArray, .agg a.cells.toArray] w fun e w' => e = .returned (.int .i64 1) ∧ Keep none_ w w')) ∨
      ((a.s == b.s) = true ∧ (a.e == b.e) = false ∧ Hid (∀ w, Calls Try.prog 56 #[.agg a.cells.toArray, .agg b.cells.toArray] w fun e w' => e = .returned (.int .i64 1) ∧ Keep none_ w w') ∧
        Hid (∀ w, Calls Try.prog 56 #[.agg b.cells.toArray, .agg a.cells.toArray] w fun e w' => e = .returned (.int .i64 (-1)) ∧ Keep none_ w w')) ∨
      ((a.s == b.s) = true ∧ (a.e == b.e) = false ∧ Hid (∀ w, Calls Try.prog 56 #[.agg a.cells.toArray, .agg b.cells.toArray] w fun e w' => e = .returned (.int .i64 (-1)) ∧ Keep none_ w w') ∧
        Hid (∀ w, Calls Try.prog 56 #[.agg b.cells.toArray, .agg a.cells.toArray] w fun e w' => e = .returned (.int .i64 1) ∧ Keep none_ w w'))
theorem cm_facts (a b : Span) : CmFacts a b := by
  have o1 := fun w => span_compare w a b
  have o2 := fun w => span_compare w b a
  unfold CmFacts
  rcases cmp_facts a b with ⟨h1, h2, h3, h4⟩ | ⟨h1, ⟨h3, h4⟩ | ⟨h3, h4⟩⟩ | ⟨h1, h2, ⟨h3, h4⟩ | ⟨h3, h4⟩⟩
  all_goals
    rw [h3] at o1
    rw [h4] at o2
  · exact Or.inl ⟨by simpa using h1, by simpa using h2, Lib.hid o1, Lib.hid o2⟩
  · exact Or.inr (Or.inl ⟨by simpa using h1, Lib.hid o1, Lib.hid o2⟩)
  · exact Or.inr (Or.inr (Or.inl ⟨by simpa using h1, Lib.hid o1, Lib.hid o2⟩))
  · exact Or.inr (Or.inr (Or.inr (Or.inl ⟨by simpa using h1, by simpa using h2, Lib.hid o1, Lib.hid o2⟩)))
  · exact Or.inr (Or.inr (Or.inr (Or.inr ⟨by simpa using h1, by simpa using h2, Lib.hid o1, Lib.hid o2⟩)))

set_option maxHeartbeats 4000000 in
set_option maxRecDepth 100000 in
theorem j1 (a b : Span) (t late mark more : Int) (B : Bool) (W : World) (c1 : Hid (∀ w, Calls Try.prog 49 #[.agg a.cells.toArray, .int .i64 t] w fun e w' => e = .returned (.bool true) ∧ Keep none_ w w'))
    (c2 : Hid (∀ w, Calls Try.prog 49 #[.agg b.cells.toArray, .int .i64 t] w fun e w' => e = .returned (.bool B) ∧ Keep none_ w w'))
    (c3 : Hid (∀ w, Calls Try.prog 49 #[.agg (a.join b).cells.toArray, .int .i64 t] w fun e w' => e = .returned (.bool true) ∧ Keep none_ w w'))
    (c4 : Hid (∀ w, Calls Try.prog 51 #[.agg a.cells.toArray, .agg b.cells.toArray] w fun e w' => e = .returned (.bool false) ∧ Keep none_ w w'))
    (c5 : Hid (∀ w, Calls Try.prog 51 #[.agg b.cells.toArray, .agg a.cells.toArray] w fun e w' => e = .returned (.bool false) ∧ Keep none_ w w'))
    (cj : Hid (∀ w, Calls Try.prog 52 #[.agg a.cells.toArray, .agg b.cells.toArray] w fun e w' => e = .returned (.agg (a.join b).cells.toArray) ∧ Keep none_ w w'))
    (cj2 : Hid (∀ w, Calls Try.prog 52 #[.agg b.cells.toArray, .agg a.cells.toArray] w fun e w' => e = .returned (.agg (a.join b).cells.toArray) ∧ Keep none_ w w'))
    (hov : OvFacts a late mark more) :
    Calls Try.prog 12 #[.agg a.cells.toArray, .agg b.cells.toArray, .int .i64 t, .int .i64 late, .int .i64 mark, .int .i64 more] W fun e W' => e = .returned (.bool true) ∧ Below W.heap.size W W' := by
  unfold OvFacts at hov
  have hcm := cm_facts a b
  unfold CmFacts at hcm
  have hx := At.alloc (At.new W a.cells.toArray 62) (.cells b.cells.toArray 62)
  have hy : At ((W.alloc (.cells a.cells.toArray 62)).alloc (.cells b.cells.toArray 62)) (W.heap.size + 1) b.cells.toArray 62 := At.newAt (by simp) _ _
  have kk : Keep none_ W ((W.alloc (.cells a.cells.toArray 62)).alloc (.cells b.cells.toArray 62)) := (by repeat' (first | exact Keep.refl _ _ | refine Keep.set1 ?_ _ | refine Keep.alloc ?_ _ | refine Keep.drew ?_ | refine Keep.setNew ?_ (by simp) _))
  simp only [Span.cells] at hx hy kk
  go_enter Try.func12, Try.ntmps12
  go_wp2_with (first
    | (go_at_call 47; (with_reducible refine (spanUp _).mono ?_); rintro e w' ⟨rfl, k⟩; replace kk := Keep.trans kk k; replace hx := Keep.at k hx (fun e => e); replace hy := Keep.at k hy (fun e => e); have cx := At.cell hx; have cy := At.cell hy; clear k)
    | (go_at_call 52; (with_reducible refine (cj.out _).mono ?_); rintro e w' ⟨rfl, k⟩; have ex := Keep.at k hx (fun e => e); have ey := Keep.at k hy (fun e => e); have cx := At.cell ex; have cy := At.cell ey; have lx := At.lt ex; have ly := At.lt ey; replace kk := Keep.alloc (Keep.trans kk k) (.cells #[.int .i64 (a.join b).s, .int .i64 (a.join b).e] 62); replace hx := At.alloc ex (.cells #[.int .i64 (a.join b).s, .int .i64 (a.join b).e] 62); replace hy := At.alloc ey (.cells #[.int .i64 (a.join b).s, .int .i64 (a.join b).e] 62); have hz := At.new w' #[.int .i64 (a.join b).s, .int .i64 (a.join b).e] 62; clear k ex ey)
    | (go_at_call 49; (with_reducible refine (c1.out _).mono ?_); rintro e w' ⟨rfl, k⟩; replace kk := Keep.trans kk k; replace hx := Keep.at k hx (fun e => e); replace hy := Keep.at k hy (fun e => e); replace hz := Keep.at k hz (fun e => e); have cx := At.cell hx; have cy := At.cell hy; have cz := At.cell hz; clear k)
    | (go_at_call 49; (with_reducible refine (c2.out _).mono ?_); rintro e w' ⟨rfl, k⟩; replace kk := Keep.trans kk k; replace hx := Keep.at k hx (fun e => e); replace hy := Keep.at k hy (fun e => e); replace hz := Keep.at k hz (fun e => e); have cx := At.cell hx; have cy := At.cell hy; have cz := At.cell hz; clear k))
  rename World => w1
  obtain ⟨ι, hne, f, hf0, hfk, hfa⟩ := class_of none_ w1
  have cfx : ∀ n i, (f n).cell? ⟨W.heap.size, i, none⟩ = _ := fun n => At.cell (Keep.at (hfk n) hx (fun e => e))
  have cfy : ∀ n i, (f n).cell? ⟨W.heap.size + 1, i, none⟩ = _ := fun n => At.cell (Keep.at (hfk n) hy (fun e => e))
  have cfz : ∀ n i, (f n).cell? ⟨_, i, none⟩ = _ := fun n => At.cell (Keep.at (hfk n) hz (fun e => e))
  refine wp_region_class f (by kernel_rfl) (by kernel_rfl) hf0 ?_
  repeat (go_big_quiet_step (first
    | (go_at_call 49; exact Calls.class_of hfa (c3.out _))
    | (go_at_call 51; with_reducible exact Calls.class_of hfa (c4.out _))
    | (go_at_call 51; with_reducible exact Calls.class_of hfa (c5.out _))
    | (go_at_call 52; exact Calls.class_of hfa (cj2.out _))))
  refine wpQuiet_nil ?_
  rintro _ ⟨n, rfl⟩
  replace hx := Keep.at (hfk n) hx (fun e => e)
  replace hy := Keep.at (hfk n) hy (fun e => e)
  replace hz := Keep.at (hfk n) hz (fun e => e)
  replace kk := kk.trans (hfk n)
  clear cfx cfy cfz hf0 hfk hfa
  generalize f n = w2 at hx hy hz kk ⊢
  have cx := At.cell hx
  have cy := At.cell hy
  have cz := At.cell hz
  go_wp2_with (first
    | (go_at_call 51; (with_reducible refine (c4.out _).mono ?_); rintro e w' ⟨rfl, k⟩; replace kk := Keep.trans kk k; replace hx := Keep.at k hx (fun e => e); replace hy := Keep.at k hy (fun e => e); replace hz := Keep.at k hz (fun e => e); have cx := At.cell hx; have cy := At.cell hy; have cz := At.cell hz; clear k)
    | (go_at_call 49; (with_reducible refine (c3.out _).mono ?_); rintro e w' ⟨rfl, k⟩; replace kk := Keep.trans kk k; replace hx := Keep.at k hx (fun e => e); replace hy := Keep.at k hy (fun e => e); replace hz := Keep.at k hz (fun e => e); have cx := At.cell hx; have cy := At.cell hy; have cz := At.cell hz; clear k))
  rcases hov with ⟨hov, c6, c7⟩ | ⟨hov, c6, c7⟩ | ⟨c6, c7⟩
  all_goals
    go_wp2_with (first
      | (go_at_call 54; (with_reducible refine (c6.out _).mono ?_); rintro e w' ⟨rfl, k⟩; replace kk := Keep.trans kk k; replace hx := Keep.at k hx (fun e => e); replace hy := Keep.at k hy (fun e => e); replace hz := Keep.at k hz (fun e => e); have cx := At.cell hx; have cy := At.cell hy; have cz := At.cell hz; clear k)
      | (go_at_call 54; (with_reducible refine (c7.out _).mono ?_); rintro e w' ⟨rfl, k⟩; replace kk := Keep.trans kk k; replace hx := Keep.at k hx (fun e => e); replace hy := Keep.at k hy (fun e => e); replace hz := Keep.at k hz (fun e => e); have cx := At.cell hx; have cy := At.cell hy; have cz := At.cell hz; clear k))
    rename World => w3
    obtain ⟨ι2, hne2, f2, hf02, hfk2, hfa2⟩ := class_of none_ w3
    have cfx : ∀ n i, (f2 n).cell? ⟨W.heap.size, i, none⟩ = _ := fun n => At.cell (Keep.at (hfk2 n) hx (fun e => e))
    have cfy : ∀ n i, (f2 n).cell? ⟨W.heap.size + 1, i, none⟩ = _ := fun n => At.cell (Keep.at (hfk2 n) hy (fun e => e))
    rcases hcm with ⟨e1, e2, c8, c9⟩ | ⟨e1, c8, c9⟩ | ⟨e1, c8, c9⟩ | ⟨e1, e2, c8, c9⟩ | ⟨e1, e2, c8, c9⟩
    all_goals
      refine wp_region_class f2 (by kernel_rfl) (by kernel_rfl) hf02 ?_
      repeat (go_big_quiet_step (first
        | (go_at_call 56; with_reducible exact Calls.class_of hfa2 (c8.out _))
        | (go_at_call 56; with_reducible exact Calls.class_of hfa2 (c9.out _))))
      refine wpQuiet_nil ?_
      rintro _ ⟨n, rfl⟩
      go_wp2
      go_ret
      exact ⟨rfl, (kk.trans (hfk2 n)).below (Nat.le_refl _) not_none⟩

set_option maxHeartbeats 4000000 in
set_option maxRecDepth 100000 in
theorem j2 (a b : Span) (t late mark more : Int) (B : Bool) (W : World) (c1 : Hid (∀ w, Calls Try.prog 49 #[.agg a.cells.toArray, .int .i64 t] w fun e w' => e = .returned (.bool true) ∧ Keep none_ w w'))
    (c2 : Hid (∀ w, Calls Try.prog 49 #[.agg b.cells.toArray, .int .i64 t] w fun e w' => e = .returned (.bool B) ∧ Keep none_ w w'))
    (c3 : Hid (∀ w, Calls Try.prog 49 #[.agg (a.join b).cells.toArray, .int .i64 t] w fun e w' => e = .returned (.bool true) ∧ Keep none_ w w'))
    (c4 : Hid (∀ w, Calls Try.prog 51 #[.agg a.cells.toArray, .agg b.cells.toArray] w fun e w' => e = .returned (.bool true) ∧ Keep none_ w w'))
    (c5 : Hid (∀ w, Calls Try.prog 51 #[.agg b.cells.toArray, .agg a.cells.toArray] w fun e w' => e = .returned (.bool true) ∧ Keep none_ w w'))
    (cj : Hid (∀ w, Calls Try.prog 52 #[.agg a.cells.toArray, .agg b.cells.toArray] w fun e w' => e = .returned (.agg (a.join b).cells.toArray) ∧ Keep none_ w w'))
    (cj2 : Hid (∀ w, Calls Try.prog 52 #[.agg b.cells.toArray, .agg a.cells.toArray] w fun e w' => e = .returned (.agg (a.join b).cells.toArray) ∧ Keep none_ w w'))
    (hov : OvFacts a late mark more) :
    Calls Try.prog 12 #[.agg a.cells.toArray, .agg b.cells.toArray, .int .i64 t, .int .i64 late, .int .i64 mark, .int .i64 more] W fun e W' => e = .returned (.bool true) ∧ Below W.heap.size W W' := by
  unfold OvFacts at hov
  have hcm := cm_facts a b
  unfold CmFacts at hcm
  have hx := At.alloc (At.new W a.cells.toArray 62) (.cells b.cells.toArray 62)
  have hy : At ((W.alloc (.cells a.cells.toArray 62)).alloc (.cells b.cells.toArray 62)) (W.heap.size + 1) b.cells.toArray 62 := At.newAt (by simp) _ _
  have kk : Keep none_ W ((W.alloc (.cells a.cells.toArray 62)).alloc (.cells b.cells.toArray 62)) := (by repeat' (first | exact Keep.refl _ _ | refine Keep.set1 ?_ _ | refine Keep.alloc ?_ _ | refine Keep.drew ?_ | refine Keep.setNew ?_ (by simp) _))
  simp only [Span.cells] at hx hy kk
  go_enter Try.func12, Try.ntmps12
  go_wp2_with (first
    | (go_at_call 47; (with_reducible refine (spanUp _).mono ?_); rintro e w' ⟨rfl, k⟩; replace kk := Keep.trans kk k; replace hx := Keep.at k hx (fun e => e); replace hy := Keep.at k hy (fun e => e); have cx := At.cell hx; have cy := At.cell hy; clear k)
    | (go_at_call 52; (with_reducible refine (cj.out _).mono ?_); rintro e w' ⟨rfl, k⟩; have ex := Keep.at k hx (fun e => e); have ey := Keep.at k hy (fun e => e); have cx := At.cell ex; have cy := At.cell ey; have lx := At.lt ex; have ly := At.lt ey; replace kk := Keep.alloc (Keep.trans kk k) (.cells #[.int .i64 (a.join b).s, .int .i64 (a.join b).e] 62); replace hx := At.alloc ex (.cells #[.int .i64 (a.join b).s, .int .i64 (a.join b).e] 62); replace hy := At.alloc ey (.cells #[.int .i64 (a.join b).s, .int .i64 (a.join b).e] 62); have hz := At.new w' #[.int .i64 (a.join b).s, .int .i64 (a.join b).e] 62; clear k ex ey)
    | (go_at_call 49; (with_reducible refine (c1.out _).mono ?_); rintro e w' ⟨rfl, k⟩; replace kk := Keep.trans kk k; replace hx := Keep.at k hx (fun e => e); replace hy := Keep.at k hy (fun e => e); replace hz := Keep.at k hz (fun e => e); have cx := At.cell hx; have cy := At.cell hy; have cz := At.cell hz; clear k)
    | (go_at_call 49; (with_reducible refine (c2.out _).mono ?_); rintro e w' ⟨rfl, k⟩; replace kk := Keep.trans kk k; replace hx := Keep.at k hx (fun e => e); replace hy := Keep.at k hy (fun e => e); replace hz := Keep.at k hz (fun e => e); have cx := At.cell hx; have cy := At.cell hy; have cz := At.cell hz; clear k))
  rename World => w1
  obtain ⟨ι, hne, f, hf0, hfk, hfa⟩ := class_of none_ w1
  have cfx : ∀ n i, (f n).cell? ⟨W.heap.size, i, none⟩ = _ := fun n => At.cell (Keep.at (hfk n) hx (fun e => e))
  have cfy : ∀ n i, (f n).cell? ⟨W.heap.size + 1, i, none⟩ = _ := fun n => At.cell (Keep.at (hfk n) hy (fun e => e))
  have cfz : ∀ n i, (f n).cell? ⟨_, i, none⟩ = _ := fun n => At.cell (Keep.at (hfk n) hz (fun e => e))
  refine wp_region_class f (by kernel_rfl) (by kernel_rfl) hf0 ?_
  repeat (go_big_quiet_step (first
    | (go_at_call 49; exact Calls.class_of hfa (c3.out _))
    | (go_at_call 51; with_reducible exact Calls.class_of hfa (c4.out _))
    | (go_at_call 51; with_reducible exact Calls.class_of hfa (c5.out _))
    | (go_at_call 52; exact Calls.class_of hfa (cj2.out _))))
  refine wpQuiet_nil ?_
  rintro _ ⟨n, rfl⟩
  replace hx := Keep.at (hfk n) hx (fun e => e)
  replace hy := Keep.at (hfk n) hy (fun e => e)
  replace hz := Keep.at (hfk n) hz (fun e => e)
  replace kk := kk.trans (hfk n)
  clear cfx cfy cfz hf0 hfk hfa
  generalize f n = w2 at hx hy hz kk ⊢
  have cx := At.cell hx
  have cy := At.cell hy
  have cz := At.cell hz
  go_wp2_with (first
    | (go_at_call 51; (with_reducible refine (c4.out _).mono ?_); rintro e w' ⟨rfl, k⟩; replace kk := Keep.trans kk k; replace hx := Keep.at k hx (fun e => e); replace hy := Keep.at k hy (fun e => e); replace hz := Keep.at k hz (fun e => e); have cx := At.cell hx; have cy := At.cell hy; have cz := At.cell hz; clear k)
    | (go_at_call 49; (with_reducible refine (c3.out _).mono ?_); rintro e w' ⟨rfl, k⟩; replace kk := Keep.trans kk k; replace hx := Keep.at k hx (fun e => e); replace hy := Keep.at k hy (fun e => e); replace hz := Keep.at k hz (fun e => e); have cx := At.cell hx; have cy := At.cell hy; have cz := At.cell hz; clear k))
  rcases hov with ⟨hov, c6, c7⟩ | ⟨hov, c6, c7⟩ | ⟨c6, c7⟩
  all_goals
    go_wp2_with (first
      | (go_at_call 54; (with_reducible refine (c6.out _).mono ?_); rintro e w' ⟨rfl, k⟩; replace kk := Keep.trans kk k; replace hx := Keep.at k hx (fun e => e); replace hy := Keep.at k hy (fun e => e); replace hz := Keep.at k hz (fun e => e); have cx := At.cell hx; have cy := At.cell hy; have cz := At.cell hz; clear k)
      | (go_at_call 54; (with_reducible refine (c7.out _).mono ?_); rintro e w' ⟨rfl, k⟩; replace kk := Keep.trans kk k; replace hx := Keep.at k hx (fun e => e); replace hy := Keep.at k hy (fun e => e); replace hz := Keep.at k hz (fun e => e); have cx := At.cell hx; have cy := At.cell hy; have cz := At.cell hz; clear k))
    rename World => w3
    obtain ⟨ι2, hne2, f2, hf02, hfk2, hfa2⟩ := class_of none_ w3
    have cfx : ∀ n i, (f2 n).cell? ⟨W.heap.size, i, none⟩ = _ := fun n => At.cell (Keep.at (hfk2 n) hx (fun e => e))
    have cfy : ∀ n i, (f2 n).cell? ⟨W.heap.size + 1, i, none⟩ = _ := fun n => At.cell (Keep.at (hfk2 n) hy (fun e => e))
    rcases hcm with ⟨e1, e2, c8, c9⟩ | ⟨e1, c8, c9⟩ | ⟨e1, c8, c9⟩ | ⟨e1, e2, c8, c9⟩ | ⟨e1, e2, c8, c9⟩
    all_goals
      refine wp_region_class f2 (by kernel_rfl) (by kernel_rfl) hf02 ?_
      repeat (go_big_quiet_step (first
        | (go_at_call 56; with_reducible exact Calls.class_of hfa2 (c8.out _))
        | (go_at_call 56; with_reducible exact Calls.class_of hfa2 (c9.out _))))
      refine wpQuiet_nil ?_
      rintro _ ⟨n, rfl⟩
      go_wp2
      go_ret
      exact ⟨rfl, (kk.trans (hfk2 n)).below (Nat.le_refl _) not_none⟩

set_option maxHeartbeats 4000000 in
set_option maxRecDepth 100000 in
theorem j3 (a b : Span) (t late mark more : Int) (W : World) (c1 : Hid (∀ w, Calls Try.prog 49 #[.agg a.cells.toArray, .int .i64 t] w fun e w' => e = .returned (.bool false) ∧ Keep none_ w w'))
    (c2 : Hid (∀ w, Calls Try.prog 49 #[.agg b.cells.toArray, .int .i64 t] w fun e w' => e = .returned (.bool true) ∧ Keep none_ w w'))
    (c3 : Hid (∀ w, Calls Try.prog 49 #[.agg (a.join b).cells.toArray, .int .i64 t] w fun e w' => e = .returned (.bool true) ∧ Keep none_ w w'))
    (c4 : Hid (∀ w, Calls Try.prog 51 #[.agg a.cells.toArray, .agg b.cells.toArray] w fun e w' => e = .returned (.bool false) ∧ Keep none_ w w'))
    (c5 : Hid (∀ w, Calls Try.prog 51 #[.agg b.cells.toArray, .agg a.cells.toArray] w fun e w' => e = .returned (.bool false) ∧ Keep none_ w w'))
    (cj : Hid (∀ w, Calls Try.prog 52 #[.agg a.cells.toArray, .agg b.cells.toArray] w fun e w' => e = .returned (.agg (a.join b).cells.toArray) ∧ Keep none_ w w'))
    (cj2 : Hid (∀ w, Calls Try.prog 52 #[.agg b.cells.toArray, .agg a.cells.toArray] w fun e w' => e = .returned (.agg (a.join b).cells.toArray) ∧ Keep none_ w w'))
    (hov : OvFacts a late mark more) :
    Calls Try.prog 12 #[.agg a.cells.toArray, .agg b.cells.toArray, .int .i64 t, .int .i64 late, .int .i64 mark, .int .i64 more] W fun e W' => e = .returned (.bool true) ∧ Below W.heap.size W W' := by
  unfold OvFacts at hov
  have hcm := cm_facts a b
  unfold CmFacts at hcm
  have hx := At.alloc (At.new W a.cells.toArray 62) (.cells b.cells.toArray 62)
  have hy : At ((W.alloc (.cells a.cells.toArray 62)).alloc (.cells b.cells.toArray 62)) (W.heap.size + 1) b.cells.toArray 62 := At.newAt (by simp) _ _
  have kk : Keep none_ W ((W.alloc (.cells a.cells.toArray 62)).alloc (.cells b.cells.toArray 62)) := (by repeat' (first | exact Keep.refl _ _ | refine Keep.set1 ?_ _ | refine Keep.alloc ?_ _ | refine Keep.drew ?_ | refine Keep.setNew ?_ (by simp) _))
  simp only [Span.cells] at hx hy kk
  go_enter Try.func12, Try.ntmps12
  go_wp2_with (first
    | (go_at_call 47; (with_reducible refine (spanUp _).mono ?_); rintro e w' ⟨rfl, k⟩; replace kk := Keep.trans kk k; replace hx := Keep.at k hx (fun e => e); replace hy := Keep.at k hy (fun e => e); have cx := At.cell hx; have cy := At.cell hy; clear k)
    | (go_at_call 52; (with_reducible refine (cj.out _).mono ?_); rintro e w' ⟨rfl, k⟩; have ex := Keep.at k hx (fun e => e); have ey := Keep.at k hy (fun e => e); have cx := At.cell ex; have cy := At.cell ey; have lx := At.lt ex; have ly := At.lt ey; replace kk := Keep.alloc (Keep.trans kk k) (.cells #[.int .i64 (a.join b).s, .int .i64 (a.join b).e] 62); replace hx := At.alloc ex (.cells #[.int .i64 (a.join b).s, .int .i64 (a.join b).e] 62); replace hy := At.alloc ey (.cells #[.int .i64 (a.join b).s, .int .i64 (a.join b).e] 62); have hz := At.new w' #[.int .i64 (a.join b).s, .int .i64 (a.join b).e] 62; clear k ex ey)
    | (go_at_call 49; (with_reducible refine (c1.out _).mono ?_); rintro e w' ⟨rfl, k⟩; replace kk := Keep.trans kk k; replace hx := Keep.at k hx (fun e => e); replace hy := Keep.at k hy (fun e => e); replace hz := Keep.at k hz (fun e => e); have cx := At.cell hx; have cy := At.cell hy; have cz := At.cell hz; clear k)
    | (go_at_call 49; (with_reducible refine (c2.out _).mono ?_); rintro e w' ⟨rfl, k⟩; replace kk := Keep.trans kk k; replace hx := Keep.at k hx (fun e => e); replace hy := Keep.at k hy (fun e => e); replace hz := Keep.at k hz (fun e => e); have cx := At.cell hx; have cy := At.cell hy; have cz := At.cell hz; clear k))
  rename World => w1
  obtain ⟨ι, hne, f, hf0, hfk, hfa⟩ := class_of none_ w1
  have cfx : ∀ n i, (f n).cell? ⟨W.heap.size, i, none⟩ = _ := fun n => At.cell (Keep.at (hfk n) hx (fun e => e))
  have cfy : ∀ n i, (f n).cell? ⟨W.heap.size + 1, i, none⟩ = _ := fun n => At.cell (Keep.at (hfk n) hy (fun e => e))
  have cfz : ∀ n i, (f n).cell? ⟨_, i, none⟩ = _ := fun n => At.cell (Keep.at (hfk n) hz (fun e => e))
  refine wp_region_class f (by kernel_rfl) (by kernel_rfl) hf0 ?_
  repeat (go_big_quiet_step (first
    | (go_at_call 49; exact Calls.class_of hfa (c3.out _))
    | (go_at_call 51; with_reducible exact Calls.class_of hfa (c4.out _))
    | (go_at_call 51; with_reducible exact Calls.class_of hfa (c5.out _))
    | (go_at_call 52; exact Calls.class_of hfa (cj2.out _))))
  refine wpQuiet_nil ?_
  rintro _ ⟨n, rfl⟩
  replace hx := Keep.at (hfk n) hx (fun e => e)
  replace hy := Keep.at (hfk n) hy (fun e => e)
  replace hz := Keep.at (hfk n) hz (fun e => e)
  replace kk := kk.trans (hfk n)
  clear cfx cfy cfz hf0 hfk hfa
  generalize f n = w2 at hx hy hz kk ⊢
  have cx := At.cell hx
  have cy := At.cell hy
  have cz := At.cell hz
  go_wp2_with (first
    | (go_at_call 51; (with_reducible refine (c4.out _).mono ?_); rintro e w' ⟨rfl, k⟩; replace kk := Keep.trans kk k; replace hx := Keep.at k hx (fun e => e); replace hy := Keep.at k hy (fun e => e); replace hz := Keep.at k hz (fun e => e); have cx := At.cell hx; have cy := At.cell hy; have cz := At.cell hz; clear k)
    | (go_at_call 49; (with_reducible refine (c3.out _).mono ?_); rintro e w' ⟨rfl, k⟩; replace kk := Keep.trans kk k; replace hx := Keep.at k hx (fun e => e); replace hy := Keep.at k hy (fun e => e); replace hz := Keep.at k hz (fun e => e); have cx := At.cell hx; have cy := At.cell hy; have cz := At.cell hz; clear k))
  rcases hov with ⟨hov, c6, c7⟩ | ⟨hov, c6, c7⟩ | ⟨c6, c7⟩
  all_goals
    go_wp2_with (first
      | (go_at_call 54; (with_reducible refine (c6.out _).mono ?_); rintro e w' ⟨rfl, k⟩; replace kk := Keep.trans kk k; replace hx := Keep.at k hx (fun e => e); replace hy := Keep.at k hy (fun e => e); replace hz := Keep.at k hz (fun e => e); have cx := At.cell hx; have cy := At.cell hy; have cz := At.cell hz; clear k)
      | (go_at_call 54; (with_reducible refine (c7.out _).mono ?_); rintro e w' ⟨rfl, k⟩; replace kk := Keep.trans kk k; replace hx := Keep.at k hx (fun e => e); replace hy := Keep.at k hy (fun e => e); replace hz := Keep.at k hz (fun e => e); have cx := At.cell hx; have cy := At.cell hy; have cz := At.cell hz; clear k))
    rename World => w3
    obtain ⟨ι2, hne2, f2, hf02, hfk2, hfa2⟩ := class_of none_ w3
    have cfx : ∀ n i, (f2 n).cell? ⟨W.heap.size, i, none⟩ = _ := fun n => At.cell (Keep.at (hfk2 n) hx (fun e => e))
    have cfy : ∀ n i, (f2 n).cell? ⟨W.heap.size + 1, i, none⟩ = _ := fun n => At.cell (Keep.at (hfk2 n) hy (fun e => e))
    rcases hcm with ⟨e1, e2, c8, c9⟩ | ⟨e1, c8, c9⟩ | ⟨e1, c8, c9⟩ | ⟨e1, e2, c8, c9⟩ | ⟨e1, e2, c8, c9⟩
    all_goals
      refine wp_region_class f2 (by kernel_rfl) (by kernel_rfl) hf02 ?_
      repeat (go_big_quiet_step (first
        | (go_at_call 56; with_reducible exact Calls.class_of hfa2 (c8.out _))
        | (go_at_call 56; with_reducible exact Calls.class_of hfa2 (c9.out _))))
      refine wpQuiet_nil ?_
      rintro _ ⟨n, rfl⟩
      go_wp2
      go_ret
      exact ⟨rfl, (kk.trans (hfk2 n)).below (Nat.le_refl _) not_none⟩

set_option maxHeartbeats 4000000 in
set_option maxRecDepth 100000 in
theorem j4 (a b : Span) (t late mark more : Int) (W : World) (c1 : Hid (∀ w, Calls Try.prog 49 #[.agg a.cells.toArray, .int .i64 t] w fun e w' => e = .returned (.bool false) ∧ Keep none_ w w'))
    (c2 : Hid (∀ w, Calls Try.prog 49 #[.agg b.cells.toArray, .int .i64 t] w fun e w' => e = .returned (.bool true) ∧ Keep none_ w w'))
    (c3 : Hid (∀ w, Calls Try.prog 49 #[.agg (a.join b).cells.toArray, .int .i64 t] w fun e w' => e = .returned (.bool true) ∧ Keep none_ w w'))
    (c4 : Hid (∀ w, Calls Try.prog 51 #[.agg a.cells.toArray, .agg b.cells.toArray] w fun e w' => e = .returned (.bool true) ∧ Keep none_ w w'))
    (c5 : Hid (∀ w, Calls Try.prog 51 #[.agg b.cells.toArray, .agg a.cells.toArray] w fun e w' => e = .returned (.bool true) ∧ Keep none_ w w'))
    (cj : Hid (∀ w, Calls Try.prog 52 #[.agg a.cells.toArray, .agg b.cells.toArray] w fun e w' => e = .returned (.agg (a.join b).cells.toArray) ∧ Keep none_ w w'))
    (cj2 : Hid (∀ w, Calls Try.prog 52 #[.agg b.cells.toArray, .agg a.cells.toArray] w fun e w' => e = .returned (.agg (a.join b).cells.toArray) ∧ Keep none_ w w'))
    (hov : OvFacts a late mark more) :
    Calls Try.prog 12 #[.agg a.cells.toArray, .agg b.cells.toArray, .int .i64 t, .int .i64 late, .int .i64 mark, .int .i64 more] W fun e W' => e = .returned (.bool true) ∧ Below W.heap.size W W' := by
  unfold OvFacts at hov
  have hcm := cm_facts a b
  unfold CmFacts at hcm
  have hx := At.alloc (At.new W a.cells.toArray 62) (.cells b.cells.toArray 62)
  have hy : At ((W.alloc (.cells a.cells.toArray 62)).alloc (.cells b.cells.toArray 62)) (W.heap.size + 1) b.cells.toArray 62 := At.newAt (by simp) _ _
  have kk : Keep none_ W ((W.alloc (.cells a.cells.toArray 62)).alloc (.cells b.cells.toArray 62)) := (by repeat' (first | exact Keep.refl _ _ | refine Keep.set1 ?_ _ | refine Keep.alloc ?_ _ | refine Keep.drew ?_ | refine Keep.setNew ?_ (by simp) _))
  simp only [Span.cells] at hx hy kk
  go_enter Try.func12, Try.ntmps12
  go_wp2_with (first
    | (go_at_call 47; (with_reducible refine (spanUp _).mono ?_); rintro e w' ⟨rfl, k⟩; replace kk := Keep.trans kk k; replace hx := Keep.at k hx (fun e => e); replace hy := Keep.at k hy (fun e => e); have cx := At.cell hx; have cy := At.cell hy; clear k)
    | (go_at_call 52; (with_reducible refine (cj.out _).mono ?_); rintro e w' ⟨rfl, k⟩; have ex := Keep.at k hx (fun e => e); have ey := Keep.at k hy (fun e => e); have cx := At.cell ex; have cy := At.cell ey; have lx := At.lt ex; have ly := At.lt ey; replace kk := Keep.alloc (Keep.trans kk k) (.cells #[.int .i64 (a.join b).s, .int .i64 (a.join b).e] 62); replace hx := At.alloc ex (.cells #[.int .i64 (a.join b).s, .int .i64 (a.join b).e] 62); replace hy := At.alloc ey (.cells #[.int .i64 (a.join b).s, .int .i64 (a.join b).e] 62); have hz := At.new w' #[.int .i64 (a.join b).s, .int .i64 (a.join b).e] 62; clear k ex ey)
    | (go_at_call 49; (with_reducible refine (c1.out _).mono ?_); rintro e w' ⟨rfl, k⟩; replace kk := Keep.trans kk k; replace hx := Keep.at k hx (fun e => e); replace hy := Keep.at k hy (fun e => e); replace hz := Keep.at k hz (fun e => e); have cx := At.cell hx; have cy := At.cell hy; have cz := At.cell hz; clear k)
    | (go_at_call 49; (with_reducible refine (c2.out _).mono ?_); rintro e w' ⟨rfl, k⟩; replace kk := Keep.trans kk k; replace hx := Keep.at k hx (fun e => e); replace hy := Keep.at k hy (fun e => e); replace hz := Keep.at k hz (fun e => e); have cx := At.cell hx; have cy := At.cell hy; have cz := At.cell hz; clear k))
  rename World => w1
  obtain ⟨ι, hne, f, hf0, hfk, hfa⟩ := class_of none_ w1
  have cfx : ∀ n i, (f n).cell? ⟨W.heap.size, i, none⟩ = _ := fun n => At.cell (Keep.at (hfk n) hx (fun e => e))
  have cfy : ∀ n i, (f n).cell? ⟨W.heap.size + 1, i, none⟩ = _ := fun n => At.cell (Keep.at (hfk n) hy (fun e => e))
  have cfz : ∀ n i, (f n).cell? ⟨_, i, none⟩ = _ := fun n => At.cell (Keep.at (hfk n) hz (fun e => e))
  refine wp_region_class f (by kernel_rfl) (by kernel_rfl) hf0 ?_
  repeat (go_big_quiet_step (first
    | (go_at_call 49; exact Calls.class_of hfa (c3.out _))
    | (go_at_call 51; with_reducible exact Calls.class_of hfa (c4.out _))
    | (go_at_call 51; with_reducible exact Calls.class_of hfa (c5.out _))
    | (go_at_call 52; exact Calls.class_of hfa (cj2.out _))))
  refine wpQuiet_nil ?_
  rintro _ ⟨n, rfl⟩
  replace hx := Keep.at (hfk n) hx (fun e => e)
  replace hy := Keep.at (hfk n) hy (fun e => e)
  replace hz := Keep.at (hfk n) hz (fun e => e)
  replace kk := kk.trans (hfk n)
  clear cfx cfy cfz hf0 hfk hfa
  generalize f n = w2 at hx hy hz kk ⊢
  have cx := At.cell hx
  have cy := At.cell hy
  have cz := At.cell hz
  go_wp2_with (first
    | (go_at_call 51; (with_reducible refine (c4.out _).mono ?_); rintro e w' ⟨rfl, k⟩; replace kk := Keep.trans kk k; replace hx := Keep.at k hx (fun e => e); replace hy := Keep.at k hy (fun e => e); replace hz := Keep.at k hz (fun e => e); have cx := At.cell hx; have cy := At.cell hy; have cz := At.cell hz; clear k)
    | (go_at_call 49; (with_reducible refine (c3.out _).mono ?_); rintro e w' ⟨rfl, k⟩; replace kk := Keep.trans kk k; replace hx := Keep.at k hx (fun e => e); replace hy := Keep.at k hy (fun e => e); replace hz := Keep.at k hz (fun e => e); have cx := At.cell hx; have cy := At.cell hy; have cz := At.cell hz; clear k))
  rcases hov with ⟨hov, c6, c7⟩ | ⟨hov, c6, c7⟩ | ⟨c6, c7⟩
  all_goals
    go_wp2_with (first
      | (go_at_call 54; (with_reducible refine (c6.out _).mono ?_); rintro e w' ⟨rfl, k⟩; replace kk := Keep.trans kk k; replace hx := Keep.at k hx (fun e => e); replace hy := Keep.at k hy (fun e => e); replace hz := Keep.at k hz (fun e => e); have cx := At.cell hx; have cy := At.cell hy; have cz := At.cell hz; clear k)
      | (go_at_call 54; (with_reducible refine (c7.out _).mono ?_); rintro e w' ⟨rfl, k⟩; replace kk := Keep.trans kk k; replace hx := Keep.at k hx (fun e => e); replace hy := Keep.at k hy (fun e => e); replace hz := Keep.at k hz (fun e => e); have cx := At.cell hx; have cy := At.cell hy; have cz := At.cell hz; clear k))
    rename World => w3
    obtain ⟨ι2, hne2, f2, hf02, hfk2, hfa2⟩ := class_of none_ w3
    have cfx : ∀ n i, (f2 n).cell? ⟨W.heap.size, i, none⟩ = _ := fun n => At.cell (Keep.at (hfk2 n) hx (fun e => e))
    have cfy : ∀ n i, (f2 n).cell? ⟨W.heap.size + 1, i, none⟩ = _ := fun n => At.cell (Keep.at (hfk2 n) hy (fun e => e))
    rcases hcm with ⟨e1, e2, c8, c9⟩ | ⟨e1, c8, c9⟩ | ⟨e1, c8, c9⟩ | ⟨e1, e2, c8, c9⟩ | ⟨e1, e2, c8, c9⟩
    all_goals
      refine wp_region_class f2 (by kernel_rfl) (by kernel_rfl) hf02 ?_
      repeat (go_big_quiet_step (first
        | (go_at_call 56; with_reducible exact Calls.class_of hfa2 (c8.out _))
        | (go_at_call 56; with_reducible exact Calls.class_of hfa2 (c9.out _))))
      refine wpQuiet_nil ?_
      rintro _ ⟨n, rfl⟩
      go_wp2
      go_ret
      exact ⟨rfl, (kk.trans (hfk2 n)).below (Nat.le_refl _) not_none⟩

set_option maxHeartbeats 4000000 in
set_option maxRecDepth 100000 in
theorem j5 (a b : Span) (t late mark more : Int) (W : World) (c1 : Hid (∀ w, Calls Try.prog 49 #[.agg a.cells.toArray, .int .i64 t] w fun e w' => e = .returned (.bool false) ∧ Keep none_ w w'))
    (c2 : Hid (∀ w, Calls Try.prog 49 #[.agg b.cells.toArray, .int .i64 t] w fun e w' => e = .returned (.bool false) ∧ Keep none_ w w'))
    (c3 : Hid (∀ w, Calls Try.prog 49 #[.agg (a.join b).cells.toArray, .int .i64 t] w fun e w' => e = .returned (.bool false) ∧ Keep none_ w w'))
    (c4 : Hid (∀ w, Calls Try.prog 51 #[.agg a.cells.toArray, .agg b.cells.toArray] w fun e w' => e = .returned (.bool false) ∧ Keep none_ w w'))
    (c5 : Hid (∀ w, Calls Try.prog 51 #[.agg b.cells.toArray, .agg a.cells.toArray] w fun e w' => e = .returned (.bool false) ∧ Keep none_ w w'))
    (cj : Hid (∀ w, Calls Try.prog 52 #[.agg a.cells.toArray, .agg b.cells.toArray] w fun e w' => e = .returned (.agg (a.join b).cells.toArray) ∧ Keep none_ w w'))
    (cj2 : Hid (∀ w, Calls Try.prog 52 #[.agg b.cells.toArray, .agg a.cells.toArray] w fun e w' => e = .returned (.agg (a.join b).cells.toArray) ∧ Keep none_ w w'))
    (hov : OvFacts a late mark more) :
    Calls Try.prog 12 #[.agg a.cells.toArray, .agg b.cells.toArray, .int .i64 t, .int .i64 late, .int .i64 mark, .int .i64 more] W fun e W' => e = .returned (.bool true) ∧ Below W.heap.size W W' := by
  unfold OvFacts at hov
  have hcm := cm_facts a b
  unfold CmFacts at hcm
  have hx := At.alloc (At.new W a.cells.toArray 62) (.cells b.cells.toArray 62)
  have hy : At ((W.alloc (.cells a.cells.toArray 62)).alloc (.cells b.cells.toArray 62)) (W.heap.size + 1) b.cells.toArray 62 := At.newAt (by simp) _ _
  have kk : Keep none_ W ((W.alloc (.cells a.cells.toArray 62)).alloc (.cells b.cells.toArray 62)) := (by repeat' (first | exact Keep.refl _ _ | refine Keep.set1 ?_ _ | refine Keep.alloc ?_ _ | refine Keep.drew ?_ | refine Keep.setNew ?_ (by simp) _))
  simp only [Span.cells] at hx hy kk
  go_enter Try.func12, Try.ntmps12
  go_wp2_with (first
    | (go_at_call 47; (with_reducible refine (spanUp _).mono ?_); rintro e w' ⟨rfl, k⟩; replace kk := Keep.trans kk k; replace hx := Keep.at k hx (fun e => e); replace hy := Keep.at k hy (fun e => e); have cx := At.cell hx; have cy := At.cell hy; clear k)
    | (go_at_call 52; (with_reducible refine (cj.out _).mono ?_); rintro e w' ⟨rfl, k⟩; have ex := Keep.at k hx (fun e => e); have ey := Keep.at k hy (fun e => e); have cx := At.cell ex; have cy := At.cell ey; have lx := At.lt ex; have ly := At.lt ey; replace kk := Keep.alloc (Keep.trans kk k) (.cells #[.int .i64 (a.join b).s, .int .i64 (a.join b).e] 62); replace hx := At.alloc ex (.cells #[.int .i64 (a.join b).s, .int .i64 (a.join b).e] 62); replace hy := At.alloc ey (.cells #[.int .i64 (a.join b).s, .int .i64 (a.join b).e] 62); have hz := At.new w' #[.int .i64 (a.join b).s, .int .i64 (a.join b).e] 62; clear k ex ey)
    | (go_at_call 49; (with_reducible refine (c1.out _).mono ?_); rintro e w' ⟨rfl, k⟩; replace kk := Keep.trans kk k; replace hx := Keep.at k hx (fun e => e); replace hy := Keep.at k hy (fun e => e); replace hz := Keep.at k hz (fun e => e); have cx := At.cell hx; have cy := At.cell hy; have cz := At.cell hz; clear k)
    | (go_at_call 49; (with_reducible refine (c2.out _).mono ?_); rintro e w' ⟨rfl, k⟩; replace kk := Keep.trans kk k; replace hx := Keep.at k hx (fun e => e); replace hy := Keep.at k hy (fun e => e); replace hz := Keep.at k hz (fun e => e); have cx := At.cell hx; have cy := At.cell hy; have cz := At.cell hz; clear k))
  rename World => w1
  obtain ⟨ι, hne, f, hf0, hfk, hfa⟩ := class_of none_ w1
  have cfx : ∀ n i, (f n).cell? ⟨W.heap.size, i, none⟩ = _ := fun n => At.cell (Keep.at (hfk n) hx (fun e => e))
  have cfy : ∀ n i, (f n).cell? ⟨W.heap.size + 1, i, none⟩ = _ := fun n => At.cell (Keep.at (hfk n) hy (fun e => e))
  have cfz : ∀ n i, (f n).cell? ⟨_, i, none⟩ = _ := fun n => At.cell (Keep.at (hfk n) hz (fun e => e))
  refine wp_region_class f (by kernel_rfl) (by kernel_rfl) hf0 ?_
  repeat (go_big_quiet_step (first
    | (go_at_call 49; exact Calls.class_of hfa (c3.out _))
    | (go_at_call 51; with_reducible exact Calls.class_of hfa (c4.out _))
    | (go_at_call 51; with_reducible exact Calls.class_of hfa (c5.out _))
    | (go_at_call 52; exact Calls.class_of hfa (cj2.out _))))
  refine wpQuiet_nil ?_
  rintro _ ⟨n, rfl⟩
  replace hx := Keep.at (hfk n) hx (fun e => e)
  replace hy := Keep.at (hfk n) hy (fun e => e)
  replace hz := Keep.at (hfk n) hz (fun e => e)
  replace kk := kk.trans (hfk n)
  clear cfx cfy cfz hf0 hfk hfa
  generalize f n = w2 at hx hy hz kk ⊢
  have cx := At.cell hx
  have cy := At.cell hy
  have cz := At.cell hz
  go_wp2_with (first
    | (go_at_call 51; (with_reducible refine (c4.out _).mono ?_); rintro e w' ⟨rfl, k⟩; replace kk := Keep.trans kk k; replace hx := Keep.at k hx (fun e => e); replace hy := Keep.at k hy (fun e => e); replace hz := Keep.at k hz (fun e => e); have cx := At.cell hx; have cy := At.cell hy; have cz := At.cell hz; clear k)
    | (go_at_call 49; (with_reducible refine (c3.out _).mono ?_); rintro e w' ⟨rfl, k⟩; replace kk := Keep.trans kk k; replace hx := Keep.at k hx (fun e => e); replace hy := Keep.at k hy (fun e => e); replace hz := Keep.at k hz (fun e => e); have cx := At.cell hx; have cy := At.cell hy; have cz := At.cell hz; clear k))
  rcases hov with ⟨hov, c6, c7⟩ | ⟨hov, c6, c7⟩ | ⟨c6, c7⟩
  all_goals
    go_wp2_with (first
      | (go_at_call 54; (with_reducible refine (c6.out _).mono ?_); rintro e w' ⟨rfl, k⟩; replace kk := Keep.trans kk k; replace hx := Keep.at k hx (fun e => e); replace hy := Keep.at k hy (fun e => e); replace hz := Keep.at k hz (fun e => e); have cx := At.cell hx; have cy := At.cell hy; have cz := At.cell hz; clear k)
      | (go_at_call 54; (with_reducible refine (c7.out _).mono ?_); rintro e w' ⟨rfl, k⟩; replace kk := Keep.trans kk k; replace hx := Keep.at k hx (fun e => e); replace hy := Keep.at k hy (fun e => e); replace hz := Keep.at k hz (fun e => e); have cx := At.cell hx; have cy := At.cell hy; have cz := At.cell hz; clear k))
    rename World => w3
    obtain ⟨ι2, hne2, f2, hf02, hfk2, hfa2⟩ := class_of none_ w3
    have cfx : ∀ n i, (f2 n).cell? ⟨W.heap.size, i, none⟩ = _ := fun n => At.cell (Keep.at (hfk2 n) hx (fun e => e))
    have cfy : ∀ n i, (f2 n).cell? ⟨W.heap.size + 1, i, none⟩ = _ := fun n => At.cell (Keep.at (hfk2 n) hy (fun e => e))
    rcases hcm with ⟨e1, e2, c8, c9⟩ | ⟨e1, c8, c9⟩ | ⟨e1, c8, c9⟩ | ⟨e1, e2, c8, c9⟩ | ⟨e1, e2, c8, c9⟩
    all_goals
      refine wp_region_class f2 (by kernel_rfl) (by kernel_rfl) hf02 ?_
      repeat (go_big_quiet_step (first
        | (go_at_call 56; with_reducible exact Calls.class_of hfa2 (c8.out _))
        | (go_at_call 56; with_reducible exact Calls.class_of hfa2 (c9.out _))))
      refine wpQuiet_nil ?_
      rintro _ ⟨n, rfl⟩
      go_wp2
      go_ret
      exact ⟨rfl, (kk.trans (hfk2 n)).below (Nat.le_refl _) not_none⟩

set_option maxHeartbeats 4000000 in
set_option maxRecDepth 100000 in
theorem j6 (a b : Span) (t late mark more : Int) (W : World) (c1 : Hid (∀ w, Calls Try.prog 49 #[.agg a.cells.toArray, .int .i64 t] w fun e w' => e = .returned (.bool false) ∧ Keep none_ w w'))
    (c2 : Hid (∀ w, Calls Try.prog 49 #[.agg b.cells.toArray, .int .i64 t] w fun e w' => e = .returned (.bool false) ∧ Keep none_ w w'))
    (c3 : Hid (∀ w, Calls Try.prog 49 #[.agg (a.join b).cells.toArray, .int .i64 t] w fun e w' => e = .returned (.bool false) ∧ Keep none_ w w'))
    (c4 : Hid (∀ w, Calls Try.prog 51 #[.agg a.cells.toArray, .agg b.cells.toArray] w fun e w' => e = .returned (.bool true) ∧ Keep none_ w w'))
    (c5 : Hid (∀ w, Calls Try.prog 51 #[.agg b.cells.toArray, .agg a.cells.toArray] w fun e w' => e = .returned (.bool true) ∧ Keep none_ w w'))
    (cj : Hid (∀ w, Calls Try.prog 52 #[.agg a.cells.toArray, .agg b.cells.toArray] w fun e w' => e = .returned (.agg (a.join b).cells.toArray) ∧ Keep none_ w w'))
    (cj2 : Hid (∀ w, Calls Try.prog 52 #[.agg b.cells.toArray, .agg a.cells.toArray] w fun e w' => e = .returned (.agg (a.join b).cells.toArray) ∧ Keep none_ w w'))
    (hov : OvFacts a late mark more) :
    Calls Try.prog 12 #[.agg a.cells.toArray, .agg b.cells.toArray, .int .i64 t, .int .i64 late, .int .i64 mark, .int .i64 more] W fun e W' => e = .returned (.bool true) ∧ Below W.heap.size W W' := by
  unfold OvFacts at hov
  have hcm := cm_facts a b
  unfold CmFacts at hcm
  have hx := At.alloc (At.new W a.cells.toArray 62) (.cells b.cells.toArray 62)
  have hy : At ((W.alloc (.cells a.cells.toArray 62)).alloc (.cells b.cells.toArray 62)) (W.heap.size + 1) b.cells.toArray 62 := At.newAt (by simp) _ _
  have kk : Keep none_ W ((W.alloc (.cells a.cells.toArray 62)).alloc (.cells b.cells.toArray 62)) := (by repeat' (first | exact Keep.refl _ _ | refine Keep.set1 ?_ _ | refine Keep.alloc ?_ _ | refine Keep.drew ?_ | refine Keep.setNew ?_ (by simp) _))
  simp only [Span.cells] at hx hy kk
  go_enter Try.func12, Try.ntmps12
  go_wp2_with (first
    | (go_at_call 47; (with_reducible refine (spanUp _).mono ?_); rintro e w' ⟨rfl, k⟩; replace kk := Keep.trans kk k; replace hx := Keep.at k hx (fun e => e); replace hy := Keep.at k hy (fun e => e); have cx := At.cell hx; have cy := At.cell hy; clear k)
    | (go_at_call 52; (with_reducible refine (cj.out _).mono ?_); rintro e w' ⟨rfl, k⟩; have ex := Keep.at k hx (fun e => e); have ey := Keep.at k hy (fun e => e); have cx := At.cell ex; have cy := At.cell ey; have lx := At.lt ex; have ly := At.lt ey; replace kk := Keep.alloc (Keep.trans kk k) (.cells #[.int .i64 (a.join b).s, .int .i64 (a.join b).e] 62); replace hx := At.alloc ex (.cells #[.int .i64 (a.join b).s, .int .i64 (a.join b).e] 62); replace hy := At.alloc ey (.cells #[.int .i64 (a.join b).s, .int .i64 (a.join b).e] 62); have hz := At.new w' #[.int .i64 (a.join b).s, .int .i64 (a.join b).e] 62; clear k ex ey)
    | (go_at_call 49; (with_reducible refine (c1.out _).mono ?_); rintro e w' ⟨rfl, k⟩; replace kk := Keep.trans kk k; replace hx := Keep.at k hx (fun e => e); replace hy := Keep.at k hy (fun e => e); replace hz := Keep.at k hz (fun e => e); have cx := At.cell hx; have cy := At.cell hy; have cz := At.cell hz; clear k)
    | (go_at_call 49; (with_reducible refine (c2.out _).mono ?_); rintro e w' ⟨rfl, k⟩; replace kk := Keep.trans kk k; replace hx := Keep.at k hx (fun e => e); replace hy := Keep.at k hy (fun e => e); replace hz := Keep.at k hz (fun e => e); have cx := At.cell hx; have cy := At.cell hy; have cz := At.cell hz; clear k))
  rename World => w1
  obtain ⟨ι, hne, f, hf0, hfk, hfa⟩ := class_of none_ w1
  have cfx : ∀ n i, (f n).cell? ⟨W.heap.size, i, none⟩ = _ := fun n => At.cell (Keep.at (hfk n) hx (fun e => e))
  have cfy : ∀ n i, (f n).cell? ⟨W.heap.size + 1, i, none⟩ = _ := fun n => At.cell (Keep.at (hfk n) hy (fun e => e))
  have cfz : ∀ n i, (f n).cell? ⟨_, i, none⟩ = _ := fun n => At.cell (Keep.at (hfk n) hz (fun e => e))
  refine wp_region_class f (by kernel_rfl) (by kernel_rfl) hf0 ?_
  repeat (go_big_quiet_step (first
    | (go_at_call 49; exact Calls.class_of hfa (c3.out _))
    | (go_at_call 51; with_reducible exact Calls.class_of hfa (c4.out _))
    | (go_at_call 51; with_reducible exact Calls.class_of hfa (c5.out _))
    | (go_at_call 52; exact Calls.class_of hfa (cj2.out _))))
  refine wpQuiet_nil ?_
  rintro _ ⟨n, rfl⟩
  replace hx := Keep.at (hfk n) hx (fun e => e)
  replace hy := Keep.at (hfk n) hy (fun e => e)
  replace hz := Keep.at (hfk n) hz (fun e => e)
  replace kk := kk.trans (hfk n)
  clear cfx cfy cfz hf0 hfk hfa
  generalize f n = w2 at hx hy hz kk ⊢
  have cx := At.cell hx
  have cy := At.cell hy
  have cz := At.cell hz
  go_wp2_with (first
    | (go_at_call 51; (with_reducible refine (c4.out _).mono ?_); rintro e w' ⟨rfl, k⟩; replace kk := Keep.trans kk k; replace hx := Keep.at k hx (fun e => e); replace hy := Keep.at k hy (fun e => e); replace hz := Keep.at k hz (fun e => e); have cx := At.cell hx; have cy := At.cell hy; have cz := At.cell hz; clear k)
    | (go_at_call 49; (with_reducible refine (c3.out _).mono ?_); rintro e w' ⟨rfl, k⟩; replace kk := Keep.trans kk k; replace hx := Keep.at k hx (fun e => e); replace hy := Keep.at k hy (fun e => e); replace hz := Keep.at k hz (fun e => e); have cx := At.cell hx; have cy := At.cell hy; have cz := At.cell hz; clear k))
  rcases hov with ⟨hov, c6, c7⟩ | ⟨hov, c6, c7⟩ | ⟨c6, c7⟩
  all_goals
    go_wp2_with (first
      | (go_at_call 54; (with_reducible refine (c6.out _).mono ?_); rintro e w' ⟨rfl, k⟩; replace kk := Keep.trans kk k; replace hx := Keep.at k hx (fun e => e); replace hy := Keep.at k hy (fun e => e); replace hz := Keep.at k hz (fun e => e); have cx := At.cell hx; have cy := At.cell hy; have cz := At.cell hz; clear k)
      | (go_at_call 54; (with_reducible refine (c7.out _).mono ?_); rintro e w' ⟨rfl, k⟩; replace kk := Keep.trans kk k; replace hx := Keep.at k hx (fun e => e); replace hy := Keep.at k hy (fun e => e); replace hz := Keep.at k hz (fun e => e); have cx := At.cell hx; have cy := At.cell hy; have cz := At.cell hz; clear k))
    rename World => w3
    obtain ⟨ι2, hne2, f2, hf02, hfk2, hfa2⟩ := class_of none_ w3
    have cfx : ∀ n i, (f2 n).cell? ⟨W.heap.size, i, none⟩ = _ := fun n => At.cell (Keep.at (hfk2 n) hx (fun e => e))
    have cfy : ∀ n i, (f2 n).cell? ⟨W.heap.size + 1, i, none⟩ = _ := fun n => At.cell (Keep.at (hfk2 n) hy (fun e => e))
    rcases hcm with ⟨e1, e2, c8, c9⟩ | ⟨e1, c8, c9⟩ | ⟨e1, c8, c9⟩ | ⟨e1, e2, c8, c9⟩ | ⟨e1, e2, c8, c9⟩
    all_goals
      refine wp_region_class f2 (by kernel_rfl) (by kernel_rfl) hf02 ?_
      repeat (go_big_quiet_step (first
        | (go_at_call 56; with_reducible exact Calls.class_of hfa2 (c8.out _))
        | (go_at_call 56; with_reducible exact Calls.class_of hfa2 (c9.out _))))
      refine wpQuiet_nil ?_
      rintro _ ⟨n, rfl⟩
      go_wp2
      go_ret
      exact ⟨rfl, (kk.trans (hfk2 n)).below (Nat.le_refl _) not_none⟩

set_option maxHeartbeats 4000000 in
set_option maxRecDepth 100000 in
theorem j7 (a b : Span) (t late mark more : Int) (W : World) (c1 : Hid (∀ w, Calls Try.prog 49 #[.agg a.cells.toArray, .int .i64 t] w fun e w' => e = .returned (.bool false) ∧ Keep none_ w w'))
    (c2 : Hid (∀ w, Calls Try.prog 49 #[.agg b.cells.toArray, .int .i64 t] w fun e w' => e = .returned (.bool false) ∧ Keep none_ w w'))
    (c3 : Hid (∀ w, Calls Try.prog 49 #[.agg (a.join b).cells.toArray, .int .i64 t] w fun e w' => e = .returned (.bool true) ∧ Keep none_ w w'))
    (c4 : Hid (∀ w, Calls Try.prog 51 #[.agg a.cells.toArray, .agg b.cells.toArray] w fun e w' => e = .returned (.bool false) ∧ Keep none_ w w'))
    (c5 : Hid (∀ w, Calls Try.prog 51 #[.agg b.cells.toArray, .agg a.cells.toArray] w fun e w' => e = .returned (.bool false) ∧ Keep none_ w w'))
    (cj : Hid (∀ w, Calls Try.prog 52 #[.agg a.cells.toArray, .agg b.cells.toArray] w fun e w' => e = .returned (.agg (a.join b).cells.toArray) ∧ Keep none_ w w'))
    (cj2 : Hid (∀ w, Calls Try.prog 52 #[.agg b.cells.toArray, .agg a.cells.toArray] w fun e w' => e = .returned (.agg (a.join b).cells.toArray) ∧ Keep none_ w w'))
    (hov : OvFacts a late mark more) :
    Calls Try.prog 12 #[.agg a.cells.toArray, .agg b.cells.toArray, .int .i64 t, .int .i64 late, .int .i64 mark, .int .i64 more] W fun e W' => e = .returned (.bool true) ∧ Below W.heap.size W W' := by
  unfold OvFacts at hov
  have hcm := cm_facts a b
  unfold CmFacts at hcm
  have hx := At.alloc (At.new W a.cells.toArray 62) (.cells b.cells.toArray 62)
  have hy : At ((W.alloc (.cells a.cells.toArray 62)).alloc (.cells b.cells.toArray 62)) (W.heap.size + 1) b.cells.toArray 62 := At.newAt (by simp) _ _
  have kk : Keep none_ W ((W.alloc (.cells a.cells.toArray 62)).alloc (.cells b.cells.toArray 62)) := (by repeat' (first | exact Keep.refl _ _ | refine Keep.set1 ?_ _ | refine Keep.alloc ?_ _ | refine Keep.drew ?_ | refine Keep.setNew ?_ (by simp) _))
  simp only [Span.cells] at hx hy kk
  go_enter Try.func12, Try.ntmps12
  go_wp2_with (first
    | (go_at_call 47; (with_reducible refine (spanUp _).mono ?_); rintro e w' ⟨rfl, k⟩; replace kk := Keep.trans kk k; replace hx := Keep.at k hx (fun e => e); replace hy := Keep.at k hy (fun e => e); have cx := At.cell hx; have cy := At.cell hy; clear k)
    | (go_at_call 52; (with_reducible refine (cj.out _).mono ?_); rintro e w' ⟨rfl, k⟩; have ex := Keep.at k hx (fun e => e); have ey := Keep.at k hy (fun e => e); have cx := At.cell ex; have cy := At.cell ey; have lx := At.lt ex; have ly := At.lt ey; replace kk := Keep.alloc (Keep.trans kk k) (.cells #[.int .i64 (a.join b).s, .int .i64 (a.join b).e] 62); replace hx := At.alloc ex (.cells #[.int .i64 (a.join b).s, .int .i64 (a.join b).e] 62); replace hy := At.alloc ey (.cells #[.int .i64 (a.join b).s, .int .i64 (a.join b).e] 62); have hz := At.new w' #[.int .i64 (a.join b).s, .int .i64 (a.join b).e] 62; clear k ex ey)
    | (go_at_call 49; (with_reducible refine (c1.out _).mono ?_); rintro e w' ⟨rfl, k⟩; replace kk := Keep.trans kk k; replace hx := Keep.at k hx (fun e => e); replace hy := Keep.at k hy (fun e => e); replace hz := Keep.at k hz (fun e => e); have cx := At.cell hx; have cy := At.cell hy; have cz := At.cell hz; clear k)
    | (go_at_call 49; (with_reducible refine (c2.out _).mono ?_); rintro e w' ⟨rfl, k⟩; replace kk := Keep.trans kk k; replace hx := Keep.at k hx (fun e => e); replace hy := Keep.at k hy (fun e => e); replace hz := Keep.at k hz (fun e => e); have cx := At.cell hx; have cy := At.cell hy; have cz := At.cell hz; clear k))
  rename World => w1
  obtain ⟨ι, hne, f, hf0, hfk, hfa⟩ := class_of none_ w1
  have cfx : ∀ n i, (f n).cell? ⟨W.heap.size, i, none⟩ = _ := fun n => At.cell (Keep.at (hfk n) hx (fun e => e))
  have cfy : ∀ n i, (f n).cell? ⟨W.heap.size + 1, i, none⟩ = _ := fun n => At.cell (Keep.at (hfk n) hy (fun e => e))
  have cfz : ∀ n i, (f n).cell? ⟨_, i, none⟩ = _ := fun n => At.cell (Keep.at (hfk n) hz (fun e => e))
  refine wp_region_class f (by kernel_rfl) (by kernel_rfl) hf0 ?_
  repeat (go_big_quiet_step (first
    | (go_at_call 49; exact Calls.class_of hfa (c3.out _))
    | (go_at_call 51; with_reducible exact Calls.class_of hfa (c4.out _))
    | (go_at_call 51; with_reducible exact Calls.class_of hfa (c5.out _))
    | (go_at_call 52; exact Calls.class_of hfa (cj2.out _))))
  refine wpQuiet_nil ?_
  rintro _ ⟨n, rfl⟩
  replace hx := Keep.at (hfk n) hx (fun e => e)
  replace hy := Keep.at (hfk n) hy (fun e => e)
  replace hz := Keep.at (hfk n) hz (fun e => e)
  replace kk := kk.trans (hfk n)
  clear cfx cfy cfz hf0 hfk hfa
  generalize f n = w2 at hx hy hz kk ⊢
  have cx := At.cell hx
  have cy := At.cell hy
  have cz := At.cell hz
  go_wp2_with (first
    | (go_at_call 51; (with_reducible refine (c4.out _).mono ?_); rintro e w' ⟨rfl, k⟩; replace kk := Keep.trans kk k; replace hx := Keep.at k hx (fun e => e); replace hy := Keep.at k hy (fun e => e); replace hz := Keep.at k hz (fun e => e); have cx := At.cell hx; have cy := At.cell hy; have cz := At.cell hz; clear k)
    | (go_at_call 49; (with_reducible refine (c3.out _).mono ?_); rintro e w' ⟨rfl, k⟩; replace kk := Keep.trans kk k; replace hx := Keep.at k hx (fun e => e); replace hy := Keep.at k hy (fun e => e); replace hz := Keep.at k hz (fun e => e); have cx := At.cell hx; have cy := At.cell hy; have cz := At.cell hz; clear k))
  rcases hov with ⟨hov, c6, c7⟩ | ⟨hov, c6, c7⟩ | ⟨c6, c7⟩
  all_goals
    go_wp2_with (first
      | (go_at_call 54; (with_reducible refine (c6.out _).mono ?_); rintro e w' ⟨rfl, k⟩; replace kk := Keep.trans kk k; replace hx := Keep.at k hx (fun e => e); replace hy := Keep.at k hy (fun e => e); replace hz := Keep.at k hz (fun e => e); have cx := At.cell hx; have cy := At.cell hy; have cz := At.cell hz; clear k)
      | (go_at_call 54; (with_reducible refine (c7.out _).mono ?_); rintro e w' ⟨rfl, k⟩; replace kk := Keep.trans kk k; replace hx := Keep.at k hx (fun e => e); replace hy := Keep.at k hy (fun e => e); replace hz := Keep.at k hz (fun e => e); have cx := At.cell hx; have cy := At.cell hy; have cz := At.cell hz; clear k))
    rename World => w3
    obtain ⟨ι2, hne2, f2, hf02, hfk2, hfa2⟩ := class_of none_ w3
    have cfx : ∀ n i, (f2 n).cell? ⟨W.heap.size, i, none⟩ = _ := fun n => At.cell (Keep.at (hfk2 n) hx (fun e => e))
    have cfy : ∀ n i, (f2 n).cell? ⟨W.heap.size + 1, i, none⟩ = _ := fun n => At.cell (Keep.at (hfk2 n) hy (fun e => e))
    rcases hcm with ⟨e1, e2, c8, c9⟩ | ⟨e1, c8, c9⟩ | ⟨e1, c8, c9⟩ | ⟨e1, e2, c8, c9⟩ | ⟨e1, e2, c8, c9⟩
    all_goals
      refine wp_region_class f2 (by kernel_rfl) (by kernel_rfl) hf02 ?_
      repeat (go_big_quiet_step (first
        | (go_at_call 56; with_reducible exact Calls.class_of hfa2 (c8.out _))
        | (go_at_call 56; with_reducible exact Calls.class_of hfa2 (c9.out _))))
      refine wpQuiet_nil ?_
      rintro _ ⟨n, rfl⟩
      go_wp2
      go_ret
      exact ⟨rfl, (kk.trans (hfk2 n)).below (Nat.le_refl _) not_none⟩

end Go.Proofs.Ytkbaijdamddipaa
