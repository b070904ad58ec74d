/-
  Stable sorting, plain: the order with tags; what an insertion and a merge come to; blocks that change places.
-/
import Derived.Lib.Hide
namespace Go.Proofs.Ytmioichjhiengaa

section
variable {τ : Type} (lt : τ → τ → Bool) (tg : τ → Nat)
/-- By lt, and, where neither is ahead, by tags. -/
def lL (x y : τ) : Prop := lt x y = true ∨ (lt y x = false ∧ tg x < tg y)
/-- A strict weak order. -/
structure Weak : Prop where
  irr : ∀ a, lt a a = false
  tra : ∀ a b c, lt a b = true → lt b c = true → lt a c = true
  neg : ∀ a b c, lt a b = false → lt b c = false → lt a c = false
variable {lt} {tg}
theorem Weak.asy (W : Weak lt) {a b : τ} (h : lt a b = true) : lt b a = false := by
  cases e : lt b a
  · rfl
  · have := W.tra _ _ _ h e; rw [W.irr] at this; cases this
theorem Weak.lt_of (W : Weak lt) {a b c : τ} (h1 : lt a b = true) (h2 : lt c b = false) : lt a c = true := by
  cases e : lt a c
  · rw [W.neg _ _ _ e h2] at h1; cases h1
  · rfl
theorem Weak.of_lt (W : Weak lt) {a b c : τ} (h1 : lt b a = false) (h2 : lt b c = true) : lt a c = true := by
  cases e : lt a c
  · rw [W.neg _ _ _ h1 e] at h2; cases h2
  · rfl
theorem lL_le (W : Weak lt) {x y : τ} (h : lL lt tg x y) : lt y x = false := by
  rcases h with h | h
  · exact W.asy h
  · exact h.1
theorem lL_trans (W : Weak lt) {x y z : τ} (h1 : lL lt tg x y) (h2 : lL lt tg y z) : lL lt tg x z := by
  rcases h1 with h1 | ⟨h1, t1⟩
  · rcases h2 with h2 | ⟨h2, t2⟩
    · exact .inl (W.tra _ _ _ h1 h2)
    · exact .inl (W.lt_of h1 h2)
  · rcases h2 with h2 | ⟨h2, t2⟩
    · exact .inl (W.of_lt h1 h2)
    · exact .inr ⟨W.neg _ _ _ h2 h1, by omega⟩
theorem lL_asy (W : Weak lt) {x y : τ} (h1 : lL lt tg x y) (h2 : lL lt tg y x) : False := by
  have a := lL_le W h1
  have b := lL_le W h2
  rcases h1 with h1 | ⟨-, t1⟩
  · rw [h1] at b; cases b
  · rcases h2 with h2 | ⟨-, t2⟩
    · rw [h2] at a; cases a
    · omega
abbrev Sorted (lt : τ → τ → Bool) (tg : τ → Nat) (l : List τ) : Prop := l.Pairwise (lL lt tg)
/-- All of the one are ahead of all of the other one. -/
def Before (lt : τ → τ → Bool) (tg : τ → Nat) (a b : List τ) : Prop := ∀ x ∈ a, ∀ y ∈ b, lL lt tg x y
theorem Before.of_mem {a b a' b' : List τ} (h : Before lt tg a b) (ha : ∀ x ∈ a', x ∈ a) (hb : ∀ x ∈ b', x ∈ b) : Before lt tg a' b' := fun x hx y hy => h x (ha x hx) y (hb y hy)
theorem Before.append {a b c : List τ} (h1 : Before lt tg a c) (h2 : Before lt tg b c) : Before lt tg (a ++ b) c := fun x hx y hy => by
  rcases List.mem_append.1 hx with hx | hx
  · exact h1 x hx y hy
  · exact h2 x hx y hy
theorem Before.appendR {a b c : List τ} (h1 : Before lt tg a b) (h2 : Before lt tg a c) : Before lt tg a (b ++ c) := fun x hx y hy => by
  rcases List.mem_append.1 hy with hy | hy
  · exact h1 x hx y hy
  · exact h2 x hx y hy
theorem sorted_append {a b : List τ} : Sorted lt tg (a ++ b) ↔ Sorted lt tg a ∧ Sorted lt tg b ∧ Before lt tg a b := List.pairwise_append
/-- The last one of a sorted list is ahead of the first one of another: all are. -/
theorem before_of_ends (W : Weak lt) {a b : List τ} (ha : Sorted lt tg a) (hb : Sorted lt tg b) {x y : τ} (hx : a.getLast? = some x) (hy : b.head? = some y) (h : lL lt tg x y) : Before lt tg a b := by
  obtain ⟨a', rfl⟩ := List.getLast?_eq_some_iff.1 hx
  cases b with
  | nil => simp at hy
  | cons y' b =>
    obtain rfl : y' = y := by simpa using hy
    intro u hu z hz
    have h1 : u = x ∨ lL lt tg u x := by
      rcases List.mem_append.1 hu with hu | hu
      · exact .inr ((sorted_append.1 ha).2.2 u hu x (by simp))
      · exact .inl (by simpa using hu)
    have h2 : lL lt tg u y' := by
      rcases h1 with rfl | h1
      · exact h
      · exact lL_trans W h1 h
    rcases List.mem_cons.1 hz with rfl | hz
    · exact h2
    · exact lL_trans W h2 (List.rel_of_pairwise_cons hb hz)
theorem before_nil_left {b : List τ} : Before lt tg [] b := fun x hx => by cases hx
theorem before_nil_right {a : List τ} : Before lt tg a [] := fun x _ y hy => by cases hy
/-- An insertion: what is behind is what it is ahead of. -/
theorem insert_ok (W : Weak lt) {p1 p2 : List τ} {e : τ} (hp : Sorted lt tg (p1 ++ p2)) (ht : ∀ x ∈ p1, tg x < tg e) (h2 : ∀ x ∈ p2, lt e x = true) (h1 : ∀ y, p1.getLast? = some y → lt e y = false) : Sorted lt tg (p1 ++ e :: p2) := by
  obtain ⟨s1, s2, s12⟩ := sorted_append.1 hp
  refine sorted_append.2 ⟨s1, List.pairwise_cons.2 ⟨fun x hx => .inl (h2 x hx), s2⟩, ?_⟩
  have hb : Before lt tg p1 [e] := by
    cases hl : p1.getLast? with
    | none =>
      rw [List.getLast?_eq_none_iff] at hl
      rw [hl]; exact before_nil_left
    | some y => exact before_of_ends W s1 (List.pairwise_singleton _ _) hl (by rfl) (.inr ⟨h1 y hl, ht y (List.mem_of_getLast? hl)⟩)
  intro x hx z hz
  rcases List.mem_cons.1 hz with rfl | hz
  · exact hb x hx z (by simp)
  · exact s12 x hx z hz
/-- Of two sorted rows of different tags the first parts, merged, and the last parts, merged. -/
theorem halves_ok {u1 u2 v1 v2 s1 s2 : List τ} (h1 : Sorted lt tg s1) (h2 : Sorted lt tg s2) (p1 : s1.Perm (u1 ++ v1)) (p2 : s2.Perm (u2 ++ v2))
    (huu : Before lt tg u1 u2) (huv : Before lt tg u1 v2) (hvu : Before lt tg v1 u2) (hvv : Before lt tg v1 v2) : Sorted lt tg (s1 ++ s2) :=
  sorted_append.2 ⟨h1, h2, fun x hx y hy => (Before.append (huu.appendR huv) (hvu.appendR hvv)) x (p1.mem_iff.1 hx) y (p2.mem_iff.1 hy)⟩
/-- Two sorted rows of the same elements are the same. -/
theorem sorted_unique (W : Weak lt) : ∀ {a b : List τ}, Sorted lt tg a → Sorted lt tg b → a.Perm b → a = b
  | [], b, _, _, p => by rw [List.nil_perm.1 p]
  | x :: a, [], _, _, p => by have := p.length_eq; simp at this
  | x :: a, y :: b, ha, hb, p => by
    have hxy : x = y := by
      have hx : x ∈ y :: b := p.mem_iff.1 (by simp)
      have hy : y ∈ x :: a := p.mem_iff.2 (by simp)
      rcases List.mem_cons.1 hx with h | h
      · exact h
      · rcases List.mem_cons.1 hy with h' | h'
        · exact h'.symm
        · exact (lL_asy W (List.rel_of_pairwise_cons hb h) (List.rel_of_pairwise_cons ha h')).elim
    subst hxy
    rw [sorted_unique W (List.pairwise_cons.1 ha).2 (List.pairwise_cons.1 hb).2 (List.Perm.cons_inv p)]

/-! Lists in pieces: what stands where, and what a store there makes of it. -/
theorem at_piece (a : List τ) (x : τ) (b : List τ) : (a ++ x :: b)[a.length]? = some x := by simp
theorem set_piece (a : List τ) (x y : τ) (b : List τ) : (a ++ x :: b).set a.length y = a ++ y :: b := by simp
end
end Go.Proofs.Ytmioichjhiengaa
