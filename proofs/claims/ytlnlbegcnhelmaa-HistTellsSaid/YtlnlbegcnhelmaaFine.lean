/-
  When a history is fine (plain): event by event.
-/
import Derived.Test.YtlnlbegcnhelmaaHistOne
namespace Go.Proofs.Ytlnlbegcnhelmaa
open Go.RowKit

/-- How many of a client there are; how many have a point. -/
def cntC (l : List Event) (c : Int) : Nat := (l.filter (fun e => e.client == c)).length
def cntP (l : List Event) (p : Int) : Nat := (l.filter (fun e => e.point == p)).length
def lastOf (l : List Event) (c : Int) : Option Event := (l.filter (fun e => e.client == c)).getLast?
/-- An event is fine behind some. -/
def fineAt (l : List Event) (e : Event) : Prop :=
  (0 ≤ e.client ∧ 0 ≤ e.n ∧ 1 ≤ e.begin_ ∧ 0 ≤ e.point ∧ 0 ≤ e.end_) ∧ ¬ (0 < e.point ∧ e.point < e.begin_) ∧ ¬ (0 < e.end_ ∧ (e.point = 0 ∨ e.end_ < e.point)) ∧
  (∀ k ∈ l, ¬ (0 < e.point ∧ k.point = e.point)) ∧ (∀ k ∈ l, k.client = e.client → ¬ (k.end_ = 0 ∨ e.begin_ ≤ k.end_)) ∧ e.n = cntC l e.client
inductive FineE : List Event → Prop
  | nil : FineE []
  | snoc (l : List Event) (e : Event) : FineE l → fineAt l e → FineE (l ++ [e])
theorem cntC_snoc (l : List Event) (e : Event) (c : Int) : cntC (l ++ [e]) c = if e.client = c then cntC l c + 1 else cntC l c := by
  unfold cntC
  rw [List.filter_append, List.length_append]
  by_cases h : e.client = c
  · rw [if_pos h]; simp [h]
  · rw [if_neg h]; simp [h]
theorem cntP_snoc (l : List Event) (e : Event) (p : Int) : cntP (l ++ [e]) p = if e.point = p then cntP l p + 1 else cntP l p := by
  unfold cntP
  rw [List.filter_append, List.length_append]
  by_cases h : e.point = p
  · rw [if_pos h]; simp [h]
  · rw [if_neg h]; simp [h]
theorem lastOf_snoc (l : List Event) (e : Event) (c : Int) : lastOf (l ++ [e]) c = if e.client = c then some e else lastOf l c := by
  unfold lastOf
  rw [List.filter_append]
  by_cases h : e.client = c
  · rw [if_pos h]; simp [h]
  · rw [if_neg h]; simp [h]
theorem cntP_pos {l : List Event} {p : Int} : 0 < cntP l p ↔ ∃ k ∈ l, k.point = p := by
  unfold cntP
  rw [List.length_pos_iff_exists_mem]
  constructor
  · rintro ⟨a, ha⟩
    have := List.mem_filter.1 ha
    exact ⟨a, this.1, by simpa using this.2⟩
  · rintro ⟨k, hk, rfl⟩
    exact ⟨k, List.mem_filter.2 ⟨hk, by simp⟩⟩
theorem FineE.inv {l : List Event} {e : Event} (h : FineE (l ++ [e])) : FineE l ∧ fineAt l e := by
  generalize hm : l ++ [e] = m at h
  cases h with
  | nil => simp at hm
  | snoc l' e' h1 h2 =>
    obtain ⟨rfl, he⟩ := List.append_inj' hm rfl
    obtain rfl : e = e' := by simpa using he
    exact ⟨h1, h2⟩
theorem FineE.take {l : List Event} (h : FineE l) (k : Nat) : FineE (l.take k) := by
  induction h with
  | nil => simp; exact .nil
  | snoc l e h1 h2 ih =>
    by_cases hk : k ≤ l.length
    · rw [List.take_append_of_le_length hk]; exact ih
    · rw [List.take_of_length_le (by simp; omega)]; exact .snoc l e h1 h2
theorem lastOf_none {l : List Event} {c : Int} (h : lastOf l c = none) : cntC l c = 0 ∧ ∀ k ∈ l, k.client ≠ c := by
  unfold lastOf at h
  rw [List.getLast?_eq_none_iff] at h
  refine ⟨by unfold cntC; rw [h]; rfl, fun k hk e => ?_⟩
  have : k ∈ l.filter (fun e => e.client == c) := List.mem_filter.2 ⟨hk, by simp [e]⟩
  rw [h] at this; cases this
/-- The last one of a client, in a fine history. -/
theorem FineE.last {l : List Event} (h : FineE l) {c : Int} {x : Event} (hx : lastOf l c = some x) :
    x ∈ l ∧ x.client = c ∧ (cntC l c : Int) = x.n + 1 ∧ (x.end_ ≠ 0 → x.begin_ ≤ x.end_) ∧ 0 ≤ x.end_ ∧ ∀ k ∈ l, k.client = c → k = x ∨ (k.end_ ≠ 0 ∧ k.end_ < x.begin_) := by
  induction h with
  | nil => simp [lastOf] at hx
  | snoc l e h1 h2 ih =>
    rw [lastOf_snoc] at hx
    rw [cntC_snoc]
    by_cases hc : e.client = c
    · rw [if_pos hc] at hx ⊢
      obtain rfl : e = x := by simpa using hx
      obtain ⟨a1, a2, a3, a4, a5, a6⟩ := h2
      refine ⟨by simp, hc, by rw [a6, hc]; simp, fun hne => by omega, by omega, fun k hk hkc => ?_⟩
      rcases List.mem_append.1 hk with hk | hk
      · right
        have := a5 k hk (hkc.trans hc.symm)
        omega
      · left; simpa using hk
    · rw [if_neg hc] at hx ⊢
      obtain ⟨b1, b2, b3, b4, b5, b6⟩ := ih hx
      refine ⟨List.mem_append_left _ b1, b2, b3, b4, b5, fun k hk hkc => ?_⟩
      rcases List.mem_append.1 hk with hk | hk
      · exact b6 k hk hkc
      · obtain rfl : k = e := by simpa using hk
        exact absurd hkc hc
/-- What the code asks of an event. -/
def codeAt (l : List Event) (e : Event) : Prop :=
  e.one = true ∧ e.n = (match lastOf l e.client with | some x => x.n + 1 | none => 0) ∧ (∀ x, lastOf l e.client = some x → x.ahead e = true) ∧ (e.point ≠ 0 → cntP l e.point = 0)
theorem codeAt_iff {l : List Event} (h : FineE l) (e : Event) : codeAt l e ↔ fineAt l e := by
  unfold codeAt fineAt Event.one
  rw [decide_eq_true_eq]
  have hp : (∀ k ∈ l, ¬ (0 < e.point ∧ k.point = e.point)) ↔ (0 < e.point → cntP l e.point = 0) := by
    constructor
    · intro h1 h0
      rcases Nat.eq_zero_or_pos (cntP l e.point) with h2 | h2
      · exact h2
      · obtain ⟨k, hk, he⟩ := cntP_pos.1 h2
        exact absurd ⟨h0, he⟩ (h1 k hk)
    · intro h1 k hk ⟨h0, he⟩
      have := h1 h0
      have h3 := cntP_pos.2 ⟨k, hk, he⟩
      omega
  rw [hp]
  cases hl : lastOf l e.client with
  | none =>
    obtain ⟨h0, hn⟩ := lastOf_none hl
    rw [h0]
    constructor
    · rintro ⟨a, b, -, d⟩
      refine ⟨by omega, by omega, by omega, fun h => d (by omega), fun k hk hc => absurd hc (hn k hk), by simpa using b⟩
    · rintro ⟨a, b, c, d, -, f⟩
      refine ⟨by omega, by simpa using f, ?_, fun h => d (by omega)⟩
      intro x hx
      cases hx
  | some x =>
    obtain ⟨b1, b2, b3, b4, b5, b6⟩ := h.last hl
    constructor
    · rintro ⟨a, b, c, d⟩
      have hx := c x rfl
      unfold Event.ahead at hx
      rw [decide_eq_true_eq] at hx
      refine ⟨by omega, by omega, by omega, fun h => d (by omega), fun k hk hc => ?_, by simp only at b; omega⟩
      rcases b6 k hk hc with rfl | h9
      · omega
      · have := b4 (by omega)
        omega
    · rintro ⟨a, b, c, d, f, g⟩
      refine ⟨by omega, by simp only; omega, fun y hy => ?_, fun h => d (by omega)⟩
      obtain rfl : x = y := by simpa using hy
      have := f x b1 b2
      unfold Event.ahead
      rw [decide_eq_true_eq]
      omega
end Go.Proofs.Ytlnlbegcnhelmaa
