/-
  Texts of one kind, one behind the other.
-/
import Derived.Test.YtmioichjhiengaaGreatBaseA
import Derived.Outline
set_option linter.unusedSimpArgs false
set_option linter.unusedVariables false
/-
  The contracts of package agg and of the reference's aggregates.
-/
namespace Go.Proofs.YtmioichjhiengaaGreat
open Go.RowKit

def Agg.one (v : Int) : Agg := ⟨1, v, v, v⟩
def Agg.merge (a b : Agg) : Agg :=
  if a.count < 1 then b else if b.count < 1 then a else
    ⟨wrap64 (a.count + b.count), wrap64 (a.sum + b.sum), if b.lo < a.lo then b.lo else a.lo, if a.hi < b.hi then b.hi else a.hi⟩

theorem agg_of (w : World) (v : Int) : Calls Tryz.prog 114 #[.int .i64 v] w fun e w' =>
    e = .returned (.agg (Agg.one v).cells.toArray) ∧ Keep none_ w w' := by
  simp only [Agg.cells, Agg.one]
  go_enter Tryz.func114, Tryz.ntmps114
  go_wp2
  exact bodyPost_ret (v := .agg #[.int .i64 1, .int .i64 v, .int .i64 v, .int .i64 v]) (by simp [results, Tryz.results114, go_sem]) rfl ⟨rfl, (by repeat' (first | exact Keep.refl _ _ | refine Keep.set1 ?_ _ | refine Keep.alloc ?_ _ | refine Keep.drew ?_ | refine Keep.setNew ?_ (by simp) _))⟩

theorem agg_merge (w : World) (a b : Agg) (ha : a.ok) (hb : b.ok) : Calls Tryz.prog 119 #[.agg a.cells.toArray, .agg b.cells.toArray] w fun e w' =>
    e = .returned (.agg (Agg.merge a b).cells.toArray) ∧ Keep none_ w w' := by
  by_cases h1 : a.count < 1
  · rw [show a.merge b = b by simp [Agg.merge, h1]]
    simp only [Agg.cells]
    go_enter Tryz.func119, Tryz.ntmps119
    go_wp2
    exact bodyPost_ret (v := .agg #[.int .i64 b.count, .int .i64 b.sum, .int .i64 b.lo, .int .i64 b.hi]) (by simp [results, Tryz.results119, go_sem]) rfl ⟨rfl, (by repeat' (first | exact Keep.refl _ _ | refine Keep.set1 ?_ _ | refine Keep.alloc ?_ _ | refine Keep.drew ?_ | refine Keep.setNew ?_ (by simp) _))⟩
  · by_cases h2 : b.count < 1
    · rw [show a.merge b = a by simp [Agg.merge, h1, h2]]
      simp only [Agg.cells]
      go_enter Tryz.func119, Tryz.ntmps119
      go_wp2
      exact bodyPost_ret (v := .agg #[.int .i64 a.count, .int .i64 a.sum, .int .i64 a.lo, .int .i64 a.hi]) (by simp [results, Tryz.results119, go_sem]) rfl ⟨rfl, (by repeat' (first | exact Keep.refl _ _ | refine Keep.set1 ?_ _ | refine Keep.alloc ?_ _ | refine Keep.drew ?_ | refine Keep.setNew ?_ (by simp) _))⟩
    · by_cases h3 : b.lo < a.lo <;> by_cases h4 : a.hi < b.hi
      all_goals
        rw [show a.merge b = _ by unfold Agg.merge; rw [if_neg h1, if_neg h2]]
        simp only [Agg.cells, h3, h4, if_true, if_false]
        go_enter Tryz.func119, Tryz.ntmps119
        go_wp2
        exact bodyPost_ret (v := .agg #[.int .i64 (wrap64 (a.count + b.count)), .int .i64 (wrap64 (a.sum + b.sum)), .int .i64 _, .int .i64 _]) (by simp [results, Tryz.results119, go_sem]) rfl ⟨rfl, (by repeat' (first | exact Keep.refl _ _ | refine Keep.set1 ?_ _ | refine Keep.alloc ?_ _ | refine Keep.drew ?_ | refine Keep.setNew ?_ (by simp) _))⟩

theorem one_ok {v : Int} (h : I64 v) : (Agg.one v).ok := ⟨by unfold I64; simp [Agg.one], h, h, h⟩
theorem ref_one (w : World) (v : Int) : Calls Tryz.prog 91 #[.int .i64 v] w fun e w' =>
    e = .returned (.agg (Agg.one v).cells.toArray) ∧ Keep none_ w w' := by
  simp only [Agg.cells, Agg.one]
  go_enter Tryz.func91, Tryz.ntmps91
  go_wp2
  exact bodyPost_ret (v := .agg #[.int .i64 1, .int .i64 v, .int .i64 v, .int .i64 v]) (by simp [results, Tryz.results91, go_sem]) rfl ⟨rfl, (by repeat' (first | exact Keep.refl _ _ | refine Keep.set1 ?_ _ | refine Keep.alloc ?_ _ | refine Keep.drew ?_ | refine Keep.setNew ?_ (by simp) _))⟩

theorem ref_merge (w : World) (a b : Agg) (ha : a.ok) (hb : b.ok) : Calls Tryz.prog 94 #[.agg a.cells.toArray, .agg b.cells.toArray] w fun e w' =>
    e = .returned (.agg (Agg.merge a b).cells.toArray) ∧ Keep none_ w w' := by
  by_cases h1 : a.count < 1
  · rw [show a.merge b = b by simp [Agg.merge, h1]]
    simp only [Agg.cells]
    go_enter Tryz.func94, Tryz.ntmps94
    go_wp2
    exact bodyPost_ret (v := .agg #[.int .i64 b.count, .int .i64 b.sum, .int .i64 b.lo, .int .i64 b.hi]) (by simp [results, Tryz.results94, go_sem]) rfl ⟨rfl, (by repeat' (first | exact Keep.refl _ _ | refine Keep.set1 ?_ _ | refine Keep.alloc ?_ _ | refine Keep.drew ?_ | refine Keep.setNew ?_ (by simp) _))⟩
  · by_cases h2 : b.count < 1
    · rw [show a.merge b = a by simp [Agg.merge, h1, h2]]
      simp only [Agg.cells]
      go_enter Tryz.func94, Tryz.ntmps94
      go_wp2
      exact bodyPost_ret (v := .agg #[.int .i64 a.count, .int .i64 a.sum, .int .i64 a.lo, .int .i64 a.hi]) (by simp [results, Tryz.results94, go_sem]) rfl ⟨rfl, (by repeat' (first | exact Keep.refl _ _ | refine Keep.set1 ?_ _ | refine Keep.alloc ?_ _ | refine Keep.drew ?_ | refine Keep.setNew ?_ (by simp) _))⟩
    · by_cases h3 : b.lo < a.lo <;> by_cases h4 : a.hi < b.hi
      all_goals
        rw [show a.merge b = _ by unfold Agg.merge; rw [if_neg h1, if_neg h2]]
        simp only [Agg.cells, h3, h4, if_true, if_false]
        go_enter Tryz.func94, Tryz.ntmps94
        go_wp2
        exact bodyPost_ret (v := .agg #[.int .i64 (wrap64 (a.count + b.count)), .int .i64 (wrap64 (a.sum + b.sum)), .int .i64 _, .int .i64 _]) (by simp [results, Tryz.results94, go_sem, wrap_u64_add]) rfl ⟨rfl, (by repeat' (first | exact Keep.refl _ _ | refine Keep.set1 ?_ _ | refine Keep.alloc ?_ _ | refine Keep.drew ?_ | refine Keep.setNew ?_ (by simp) _))⟩
end Go.Proofs.YtmioichjhiengaaGreat

/-
  The contract of agg.Add.
-/
namespace Go.Proofs.YtmioichjhiengaaGreat
open Go.RowKit

theorem agg_add (w : World) (a : Agg) (v : Int) (ha : a.ok) (hv : I64 v) : Calls Tryz.prog 112 #[.agg a.cells.toArray, .int .i64 v] w fun e w' =>
    e = .returned (.agg (Agg.merge a (Agg.one v)).cells.toArray) ∧ Keep none_ w w' := by
  have hx := At.alloc (At.new w a.cells.toArray 86) (.cells #[.int .i64 0, .int .i64 0, .int .i64 0, .int .i64 0] 86)
  have hr : At ((w.alloc (.cells a.cells.toArray 86)).alloc (.cells #[.int .i64 0, .int .i64 0, .int .i64 0, .int .i64 0] 86)) (w.heap.size + 1) #[.int .i64 0, .int .i64 0, .int .i64 0, .int .i64 0] 86 := At.newAt (by simp) _ _
  have hk : Keep none_ w ((w.alloc (.cells a.cells.toArray 86)).alloc (.cells #[.int .i64 0, .int .i64 0, .int .i64 0, .int .i64 0] 86)) := (by repeat' (first | exact Keep.refl _ _ | refine Keep.set1 ?_ _ | refine Keep.alloc ?_ _ | refine Keep.drew ?_ | refine Keep.setNew ?_ (by simp) _))
  simp only [Agg.cells] at hx hr hk ⊢
  go_enter Tryz.func112, Tryz.ntmps112
  go_wp2_with fail
  generalize hw0 : (World.alloc (World.alloc w _) _) = w0 at hx hr hk ⊢
  obtain ⟨ι, hne, f, hf0, hfk, hfa⟩ := class_of none_ w0
  have cx : ∀ n i, (f n).cell? ⟨w.heap.size, i, none⟩ = _ := fun n => At.cell (Keep.at (hfk n) hx (fun e => e))
  clear hw0
  refine wp_region_class_tail f 4 (by kernel_rfl) (by kernel_rfl) hf0 ?_
  simp only [List.take_succ_cons, List.take_zero, List.drop_succ_cons, List.drop_zero]
  repeat (go_big_quiet_step (first
    | (go_at_call 114; exact Calls.class_of hfa (agg_of _ _))
    | (go_at_call 119; exact Calls.class_of hfa (agg_merge _ a (Agg.one v) ha (one_ok hv)))))
  refine wpQuiet_nil ?_
  intro n
  have h1 := Keep.at (hfk n) hr (fun e => e)
  have cr := At.cell h1
  have fr := At.frozen h1
  go_wp2
  exact bodyPost_ret (v := .agg #[.int .i64 (a.merge (Agg.one v)).count, .int .i64 (a.merge (Agg.one v)).sum, .int .i64 (a.merge (Agg.one v)).lo, .int .i64 (a.merge (Agg.one v)).hi])
    (by simp [results, Tryz.results112, go_sem, cr, fr]) rfl ⟨rfl, by
      refine Keep.setNew (Keep.setNew (Keep.setNew (Keep.setNew (hk.trans (hfk n)) ?_ _) ?_ _) ?_ _) ?_ _ <;> simp⟩
end Go.Proofs.YtmioichjhiengaaGreat

/-
  The plain law of aggregates: what values come to hangs on no order.
-/
namespace Go.Proofs.YtmioichjhiengaaGreat
open Go.RowKit

def Agg.zero : Agg := ⟨0, 0, 0, 0⟩
/-- All of it is int64s, and it is the empty one, or counts from 1 on to N. -/
def Agg.nice (N : Int) (a : Agg) : Prop := a.ok ∧ 0 ≤ a.count ∧ a.count ≤ N ∧ (a.count = 0 → a = Agg.zero)
def Agg.of : List Int → Agg
  | [] => Agg.zero
  | x :: l => (Agg.one x).merge (Agg.of l)

theorem Agg.merge_zero {N : Int} {a : Agg} (h : a.nice N) : a.merge Agg.zero = a := by
  by_cases h1 : a.count < 1
  · have : a = Agg.zero := h.2.2.2 (by have := h.2.1; omega)
    subst this; rfl
  · unfold Agg.merge; rw [if_neg h1, if_pos (by decide)]
theorem Agg.zero_merge (a : Agg) : Agg.zero.merge a = a := by unfold Agg.merge; rw [if_pos (by decide)]
theorem Agg.merge_eq {a b : Agg} (ha : 1 ≤ a.count) (hb : 1 ≤ b.count) : a.merge b =
    ⟨wrap64 (a.count + b.count), wrap64 (a.sum + b.sum), if b.lo < a.lo then b.lo else a.lo, if a.hi < b.hi then b.hi else a.hi⟩ := by
  unfold Agg.merge; rw [if_neg (by omega), if_neg (by omega)]
theorem wrap64_I64 (n : Int) : I64 (wrap64 n) := by unfold I64 wrap64; omega
theorem wrap64_id {n : Int} (h : I64 n) : wrap64 n = n := by unfold I64 at h; unfold wrap64; omega
theorem Agg.merge_count {N M : Int} {a b : Agg} (ha : a.nice N) (hb : b.nice M) (hNM : N + M ≤ 9223372036854775807) : (a.merge b).count = a.count + b.count := by
  obtain ⟨-, a1, a2, a3⟩ := ha
  obtain ⟨-, b1, b2, b3⟩ := hb
  by_cases h1 : a.count < 1
  · rw [a3 (by omega), Agg.zero_merge]; simp [Agg.zero]
  · by_cases h2 : b.count < 1
    · unfold Agg.merge; rw [if_neg h1, if_pos h2]; omega
    · rw [Agg.merge_eq (by omega) (by omega)]
      exact wrap64_id ⟨by omega, by omega⟩
theorem Agg.merge_ok {a b : Agg} (ha : a.ok) (hb : b.ok) : (a.merge b).ok := by
  obtain ⟨a1, a2, a3, a4⟩ := ha
  obtain ⟨b1, b2, b3, b4⟩ := hb
  unfold Agg.merge
  split
  · exact ⟨b1, b2, b3, b4⟩
  · split
    · exact ⟨a1, a2, a3, a4⟩
    · refine ⟨wrap64_I64 _, wrap64_I64 _, ?_, ?_⟩
      · show I64 (if b.lo < a.lo then b.lo else a.lo); split <;> assumption
      · show I64 (if a.hi < b.hi then b.hi else a.hi); split <;> assumption
theorem Agg.merge_nice {N M : Int} {a b : Agg} (ha : a.nice N) (hb : b.nice M) (hNM : N + M ≤ 9223372036854775807) : (a.merge b).nice (N + M) := by
  have hc := Agg.merge_count ha hb hNM
  obtain ⟨a0, a1, a2, a3⟩ := ha
  obtain ⟨b0, b1, b2, b3⟩ := hb
  refine ⟨Agg.merge_ok a0 b0, by omega, by omega, fun h => ?_⟩
  rw [a3 (by omega), Agg.zero_merge]
  exact b3 (by omega)
theorem wrap_l (x y z : Int) : wrap64 (wrap64 (x + y) + z) = wrap64 (x + wrap64 (y + z)) := by unfold wrap64; omega
theorem Agg.merge_assoc {N M K : Int} {a b c : Agg} (ha : a.nice N) (hb : b.nice M) (hc : c.nice K) (h : N + M + K ≤ 9223372036854775807) : (a.merge b).merge c = a.merge (b.merge c) := by
  have hN : 0 ≤ N := by have := ha.2.1; have := ha.2.2.1; omega
  have hM : 0 ≤ M := by have := hb.2.1; have := hb.2.2.1; omega
  have hK : 0 ≤ K := by have := hc.2.1; have := hc.2.2.1; omega
  by_cases h1 : a.count < 1
  · rw [ha.2.2.2 (by have := ha.2.1; omega), Agg.zero_merge, Agg.zero_merge]
  by_cases h2 : b.count < 1
  · rw [hb.2.2.2 (by have := hb.2.1; omega), Agg.zero_merge, Agg.merge_zero ha]
  by_cases h3 : c.count < 1
  · rw [hc.2.2.2 (by have := hc.2.1; omega), Agg.merge_zero (Agg.merge_nice ha hb (by omega)), Agg.merge_zero hb]
  have c1 := Agg.merge_count ha hb (by omega)
  have c2 := Agg.merge_count hb hc (by omega)
  rw [Agg.merge_eq (a := a.merge b) (by omega) (by omega), Agg.merge_eq (a := a) (b := b.merge c) (by omega) (by omega)]
  rw [c1, c2, Agg.merge_eq (a := a) (b := b) (by omega) (by omega), Agg.merge_eq (a := b) (b := c) (by omega) (by omega)]
  have e1 : wrap64 (a.count + b.count + c.count) = wrap64 (a.count + (b.count + c.count)) := by congr 1; omega
  simp only [e1, wrap_l]
  congr 1
  · split <;> split <;> (try split) <;> omega
  · split <;> split <;> (try split) <;> omega
theorem Agg.merge_comm {N M : Int} {a b : Agg} (ha : a.nice N) (hb : b.nice M) : a.merge b = b.merge a := by
  by_cases h1 : a.count < 1
  · rw [ha.2.2.2 (by have := ha.2.1; omega), Agg.zero_merge, Agg.merge_zero hb]
  by_cases h2 : b.count < 1
  · rw [hb.2.2.2 (by have := hb.2.1; omega), Agg.zero_merge, Agg.merge_zero ha]
  rw [Agg.merge_eq (by omega) (by omega), Agg.merge_eq (by omega) (by omega)]
  have e1 : a.count + b.count = b.count + a.count := by omega
  have e2 : a.sum + b.sum = b.sum + a.sum := by omega
  rw [e1, e2]
  congr 1
  · split <;> split <;> omega
  · split <;> split <;> omega
theorem Agg.one_nice {x : Int} (h : I64 x) : (Agg.one x).nice 1 := ⟨one_ok h, by simp [Agg.one], by simp [Agg.one], fun e => by simp [Agg.one] at e⟩
theorem Agg.zero_nice : Agg.zero.nice 0 := ⟨by simp [Agg.ok, Agg.zero, I64], by decide, by decide, fun _ => rfl⟩
def MaxI : Int := 9223372036854775807
theorem Agg.of_nice {l : List Int} (h : ∀ x ∈ l, I64 x) (hl : (l.length : Int) ≤ MaxI) : (Agg.of l).nice l.length := by
  induction l with
  | nil => exact Agg.zero_nice
  | cons x l ih =>
    rw [List.length_cons] at hl ⊢
    have h1 := ih (fun y hy => h y (List.mem_cons_of_mem _ hy)) (by omega)
    have h2 := Agg.merge_nice (Agg.one_nice (h x (List.mem_cons_self ..))) h1 (by unfold MaxI at hl; omega)
    rw [show ((l.length + 1 : Nat) : Int) = 1 + (l.length : Int) by omega]
    exact h2
theorem Agg.of_append {l m : List Int} (h : ∀ x ∈ l, I64 x) (hm : ∀ x ∈ m, I64 x) (hl : (l.length : Int) + m.length ≤ MaxI) : (Agg.of l).merge (Agg.of m) = Agg.of (l ++ m) := by
  induction l with
  | nil => exact Agg.zero_merge _
  | cons x l ih =>
    have h0 : ∀ y ∈ l, I64 y := fun y hy => h y (List.mem_cons_of_mem _ hy)
    rw [List.length_cons] at hl
    have h1 := Agg.of_nice h0 (by omega)
    have h2 := Agg.of_nice hm (by omega)
    simp only [List.cons_append, Agg.of]
    rw [Agg.merge_assoc (Agg.one_nice (h x (List.mem_cons_self ..))) h1 h2 (by unfold MaxI at hl; omega), ih h0 (by omega)]
theorem Agg.of_one {x : Int} (h : I64 x) : Agg.of [x] = Agg.one x := Agg.merge_zero (Agg.one_nice h)
theorem Agg.of_perm {l m : List Int} (p : l.Perm m) : (∀ x ∈ l, I64 x) → (l.length : Int) ≤ MaxI → Agg.of l = Agg.of m := by
  induction p with
  | nil => intros; rfl
  | cons x p ih =>
    intro h hl
    simp only [Agg.of]
    rw [List.length_cons] at hl
    rw [ih (fun y hy => h y (List.mem_cons_of_mem _ hy)) (by omega)]
  | swap x y l =>
    intro h hl
    have hx := Agg.one_nice (h x (by simp))
    have hy := Agg.one_nice (h y (by simp))
    rw [List.length_cons, List.length_cons] at hl
    have h1 := Agg.of_nice (l := l) (fun z hz => h z (by simp [hz])) (by omega)
    unfold MaxI at hl
    simp only [Agg.of]
    rw [← Agg.merge_assoc hy hx h1 (by omega), Agg.merge_comm hy hx, Agg.merge_assoc hx hy h1 (by omega)]
  | trans p q ih1 ih2 =>
    intro h hl
    rw [ih1 h hl]
    exact ih2 (fun x hx => h x (p.mem_iff.2 hx)) (by rw [← p.length_eq]; exact hl)
theorem Agg.of_snoc {l : List Int} {x : Int} (h : ∀ y ∈ l, I64 y) (hx : I64 x) (hl : (l.length : Int) + 1 ≤ MaxI) : (Agg.of l).merge (Agg.one x) = Agg.of (l ++ [x]) := by
  rw [← Agg.of_one hx]
  exact Agg.of_append h (by intro y hy; simp at hy; subst hy; exact hx) (by simp; omega)
theorem Agg.of_count {l : List Int} (h : ∀ x ∈ l, I64 x) (hl : (l.length : Int) ≤ MaxI) : (Agg.of l).count = l.length := by
  induction l with
  | nil => rfl
  | cons x l ih =>
    have h0 : ∀ y ∈ l, I64 y := fun y hy => h y (List.mem_cons_of_mem _ hy)
    rw [List.length_cons] at hl
    have := Agg.merge_count (Agg.one_nice (h x (by simp))) (Agg.of_nice h0 (by omega)) (by unfold MaxI at hl; omega)
    have ih := ih h0 (by omega)
    simp only [Agg.of]
    rw [this, ih, List.length_cons]
    show (1 : Int) + _ = _
    omega
theorem Agg.of_lohi {l : List Int} (hne : l ≠ []) (h : ∀ x ∈ l, I64 x) (hl : (l.length : Int) ≤ MaxI) : (Agg.of l).lo ≤ (Agg.of l).hi := by
  induction l with
  | nil => exact absurd rfl hne
  | cons x l ih =>
    have h0 : ∀ y ∈ l, I64 y := fun y hy => h y (List.mem_cons_of_mem _ hy)
    rw [List.length_cons] at hl
    by_cases hn : l = []
    · subst hn
      rw [Agg.of_one (h x (by simp))]; exact Int.le_refl _
    · have ih := ih hn h0 (by omega)
      have hc := Agg.of_count h0 (by omega)
      have hp : 0 < l.length := List.length_pos_iff.2 hn
      rw [Agg.of, Agg.merge_eq (by simp [Agg.one]) (by omega)]
      simp only [Agg.one]
      by_cases c1 : (Agg.of l).lo < x <;> by_cases c2 : x < (Agg.of l).hi <;> simp only [c1, c2, if_true, if_false] <;> omega
end Go.Proofs.YtmioichjhiengaaGreat
