/-
  A list in sorted chunks of one size (plain).
-/
import Derived.Test.YtmioichjhiengaaStable
namespace Go.Proofs.Ytmioichjhiengaa

section
variable {τ : Type} {lt : τ → τ → Bool} {tg : τ → Nat}
/-- The first list is the second one, chunk by chunk sorted. -/
inductive Chunks (lt : τ → τ → Bool) (tg : τ → Nat) (bs : Nat) : List τ → List τ → Prop
  | nil : Chunks lt tg bs [] []
  | last (x x0 : List τ) : x.Perm x0 → Sorted lt tg x → 0 < x.length → x.length ≤ bs → Chunks lt tg bs x x0
  | cons (x x0 y y0 : List τ) : x.length = bs → x.Perm x0 → Sorted lt tg x → Chunks lt tg bs y y0 → Chunks lt tg bs (x ++ y) (x0 ++ y0)
/-- Full chunks. -/
inductive Fulls (lt : τ → τ → Bool) (tg : τ → Nat) (bs : Nat) : List τ → List τ → Prop
  | nil : Fulls lt tg bs [] []
  | snoc (d d0 x x0 : List τ) : Fulls lt tg bs d d0 → x.length = bs → x.Perm x0 → Sorted lt tg x → Fulls lt tg bs (d ++ x) (d0 ++ x0)
variable {bs : Nat} {l l0 d d0 m m0 : List τ}
theorem Chunks.perm (h : Chunks lt tg bs l l0) : l.Perm l0 := by
  induction h with
  | nil => exact List.Perm.refl _
  | last x x0 hp => exact hp
  | cons x x0 y y0 _ hp _ _ ih => exact hp.append ih
theorem Fulls.perm (h : Fulls lt tg bs d d0) : d.Perm d0 := by
  induction h with
  | nil => exact List.Perm.refl _
  | snoc d d0 x x0 _ _ hp _ ih => exact ih.append hp
theorem Fulls.chunks (h : Fulls lt tg bs d d0) : ∀ {m m0 : List τ}, Chunks lt tg bs m m0 → Chunks lt tg bs (d ++ m) (d0 ++ m0) := by
  induction h with
  | nil => intro m m0 hm; exact hm
  | snoc d d0 x x0 _ hl hp hs ih =>
    intro m m0 hm
    rw [List.append_assoc, List.append_assoc]
    exact ih (.cons x x0 m m0 hl hp hs hm)
/-- No more than one chunk. -/
theorem Chunks.one (hb : 0 < bs) (h : Chunks lt tg bs l l0) (hl : l.length ≤ bs) : Sorted lt tg l := by
  cases h with
  | nil => exact List.Pairwise.nil
  | last x x0 _ hs => exact hs
  | cons x x0 y y0 hx hp hs hy =>
    rw [List.length_append] at hl
    have : y = [] := List.length_eq_zero_iff.1 (by omega)
    subst this
    rw [List.append_nil]; exact hs
theorem Chunks.single (hs : Sorted lt tg l) (hp : l.Perm l0) (hl : l.length ≤ bs) : Chunks lt tg bs l l0 := by
  cases l with
  | nil => rw [List.nil_perm.1 hp]; exact .nil
  | cons x l => exact .last _ _ hp hs (by simp) hl
/-- More than one chunk: a full one ahead. -/
theorem Chunks.more (h : Chunks lt tg bs l l0) (hl : bs < l.length) : ∃ x x0 y y0, l = x ++ y ∧ l0 = x0 ++ y0 ∧ x.length = bs ∧ x.Perm x0 ∧ Sorted lt tg x ∧ Chunks lt tg bs y y0 := by
  cases h with
  | nil => simp at hl
  | last x x0 _ _ _ hx => omega
  | cons x x0 y y0 hx hp hs hy => exact ⟨x, x0, y, y0, rfl, rfl, hx, hp, hs, hy⟩
/-- At least one chunk, if it is full. -/
theorem Chunks.full (hb : 0 < bs) (h : Chunks lt tg bs l l0) (hl : bs ≤ l.length) : ∃ x x0 y y0, l = x ++ y ∧ l0 = x0 ++ y0 ∧ x.length = bs ∧ x.Perm x0 ∧ Sorted lt tg x ∧ Chunks lt tg bs y y0 := by
  rcases Nat.lt_or_ge bs l.length with h1 | h1
  · exact h.more h1
  · exact ⟨l, l0, [], [], by simp, by simp, by omega, h.perm, h.one hb h1, .nil⟩
end
end Go.Proofs.Ytmioichjhiengaa
