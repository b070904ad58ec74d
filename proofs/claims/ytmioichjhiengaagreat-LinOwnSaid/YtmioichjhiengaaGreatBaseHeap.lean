/-
  Texts of one kind, one behind the other.
-/
import Derived.Test.YtmioichjhiengaaGreatCmp
import Derived.Test.YtmioichjhiengaaGreatBaseA
import Derived.Lib.Hide
import Derived.Handy
import Derived.Deep.RegionLaw
set_option linter.unusedSimpArgs false
set_option linter.unusedVariables false
/-
  A binary heap in a list: what container/heap's up and down do to it (plain, no program).
-/
namespace Go.Proofs.YtmioichjhiengaaGreat

section
variable {α : Type} (lt : α → α → Bool)

def swapL (l : List α) (i j : Nat) : List α :=
  match l[i]?, l[j]? with
  | some x, some y => (l.set i y).set j x
  | _, _ => l
theorem swapL_len (l : List α) (i j : Nat) : (swapL l i j).length = l.length := by
  unfold swapL; split <;> simp
theorem swapL_get (l : List α) (i j k : Nat) (hi : i < l.length) (hj : j < l.length) (hk : k < l.length) :
    (swapL l i j)[k]'(by rw [swapL_len]; exact hk) = if k = j then l[i] else if k = i then l[j] else l[k] := by
  unfold swapL
  simp only [List.getElem?_eq_getElem hi, List.getElem?_eq_getElem hj]
  by_cases h1 : k = j
  · subst h1; simp
  · rw [List.getElem_set_ne (by omega), if_neg h1]
    by_cases h2 : k = i
    · subst h2; simp
    · rw [List.getElem_set_ne (by omega), if_neg h2]
theorem swapL_perm (l : List α) (i j : Nat) (hi : i < l.length) (hj : j < l.length) : (swapL l i j).Perm l := by
  have h := Array.swap_perm (xs := l.toArray) (i := i) (j := j) (by simpa using hi) (by simpa using hj)
  have e : (l.toArray.swap i j (by simpa using hi) (by simpa using hj)).toList = swapL l i j := by
    unfold swapL
    simp only [List.getElem?_eq_getElem hi, List.getElem?_eq_getElem hj]
    simp [Array.swap]
  have := Array.perm_iff_toList_perm.1 h
  rw [e] at this
  simpa using this

/-- up: an element rises while it is ahead of the one above it. -/
def upL : Nat → List α → Nat → List α
  | 0, l, _ => l
  | k + 1, l, j =>
    match l[j]?, l[(j - 1) / 2]? with
    | some x, some y => if (j - 1) / 2 = j ∨ lt x y = false then l else upL k (swapL l ((j - 1) / 2) j) ((j - 1) / 2)
    | _, _ => l
/-- The lesser one of the two below i, of the first n; none: there is none. -/
def lessOf (l : List α) (i n : Nat) : Nat :=
  match l[2 * i + 1 + 1]?, l[2 * i + 1]? with
  | some x, some y => if 2 * i + 1 + 1 < n ∧ lt x y = true then 2 * i + 1 + 1 else 2 * i + 1
  | _, _ => 2 * i + 1
/-- down: an element sinks below the lesser one below it while that is ahead of it; and where it came to. -/
def downH : Nat → List α → Nat → Nat → List α × Nat
  | 0, l, i, _ => (l, i)
  | k + 1, l, i, n =>
    if n ≤ 2 * i + 1 then (l, i) else
      match l[lessOf lt l i n]?, l[i]? with
      | some x, some y => if lt x y = false then (l, i) else downH k (swapL l i (lessOf lt l i n)) (lessOf lt l i n) n
      | _, _ => (l, i)

/-- lt is a strict order in which any two can be compared. -/
structure Strict : Prop where
  irr : ∀ a, lt a a = false
  tra : ∀ a b c, lt a b = true → lt b c = true → lt a c = true
  tot : ∀ a b, lt a b = false → lt b a = false → a = b
variable {lt}
theorem Strict.asy (S : Strict lt) {a b : α} (h : lt a b = true) : lt b a = false := by
  cases e : lt b a
  · rfl
  · have := S.tra _ _ _ h e; rw [S.irr] at this; cases this
/-- Not ahead, and not ahead: not ahead. -/
theorem Strict.le_trans (S : Strict lt) {a b c : α} (h1 : lt b a = false) (h2 : lt c b = false) : lt c a = false := by
  cases e : lt c a
  · rfl
  · cases e2 : lt a b
    · have := S.tot _ _ h1 e2; subst this; rw [h2] at e; cases e
    · have := S.tra _ _ _ e e2; rw [h2] at this; cases this
theorem Strict.lt_le (S : Strict lt) {a b c : α} (h1 : lt a b = true) (h2 : lt c b = false) : lt c a = false := S.le_trans (S.asy h1) h2

def par (j : Nat) : Nat := (j - 1) / 2
/-- Of the first n, none but j is ahead of the one above it. -/
def HeapBut (lt : α → α → Bool) (l : List α) (n : Nat) (j : Nat) : Prop :=
  ∀ k (h0 : 0 < k) (h : k < n) (hn : n ≤ l.length), k ≠ j → lt (l[k]'(by omega)) (l[par k]'(by unfold par; omega)) = false
def HeapOK (lt : α → α → Bool) (l : List α) (n : Nat) : Prop :=
  ∀ k (h0 : 0 < k) (h : k < n) (hn : n ≤ l.length), lt (l[k]'(by omega)) (l[par k]'(by unfold par; omega)) = false
/-- What is below j is not ahead of what is above j. -/
def Over (lt : α → α → Bool) (l : List α) (n : Nat) (j : Nat) : Prop :=
  ∀ k (h0 : 0 < j) (h : k < n) (hn : n ≤ l.length) (hj : j < n), par k = j → 0 < k → lt (l[k]'(by omega)) (l[par j]'(by unfold par; omega)) = false
theorem par_lt {k : Nat} (h : 0 < k) : par k < k := by unfold par; omega
theorem HeapOK.less {l : List α} {n m : Nat} (h : HeapOK lt l n) (hm : m ≤ n) (hn : n ≤ l.length) : HeapOK lt l m := fun k h0 hk _ => h k h0 (by omega) hn

theorem upL_ok (S : Strict lt) (n : Nat) : ∀ (f : Nat) (l : List α) (j : Nat), n ≤ l.length → j < f → j < n → HeapBut lt l n j → Over lt l n j → HeapOK lt (upL lt f l j) n ∧ (upL lt f l j).Perm l ∧ (upL lt f l j).length = l.length ∧ (∀ k, n ≤ k → (upL lt f l j)[k]? = l[k]?) := by
  intro f
  induction f with
  | zero => intro l j _ h; omega
  | succ f ih =>
    intro l j hn hf hj hb ho
    have hp : (j - 1) / 2 < l.length := by omega
    have hjl : j < l.length := by omega
    rw [upL, List.getElem?_eq_getElem hjl, List.getElem?_eq_getElem hp]
    simp only
    by_cases hc : (j - 1) / 2 = j ∨ lt l[j] l[(j - 1) / 2] = false
    · rw [if_pos hc]
      refine ⟨fun k h0 h hn2 => ?_, List.Perm.refl _, rfl, fun _ _ => rfl⟩
      by_cases hk : k = j
      · subst hk
        rcases hc with hc | hc
        · omega
        · exact hc
      · exact hb k h0 h hn2 hk
    · rw [if_neg hc]
      have h1 : (j - 1) / 2 ≠ j := fun e => hc (.inl e)
      have hlt : lt l[j] l[(j - 1) / 2] = true := by
        cases e : lt l[j] l[(j - 1) / 2]
        · exact absurd (.inr e) hc
        · rfl
      have hj0 : 0 < j := by omega
      have hpj : (j - 1) / 2 = par j := rfl
      have hl2 : (swapL l ((j - 1) / 2) j).length = l.length := swapL_len _ _ _
      have hget := fun k (hk : k < l.length) => swapL_get l ((j - 1) / 2) j k hp hjl hk
      have hbnew : HeapBut lt (swapL l ((j - 1) / 2) j) n ((j - 1) / 2) := by
        intro k h0 h hn2 hk
        have hpk : par k < l.length := by have := par_lt h0; omega
        rw [hget k (by omega), hget (par k) hpk]
        by_cases e1 : k = j
        · subst e1
          rw [if_pos rfl]
          rw [if_neg (show par k ≠ k by have := par_lt h0; omega), if_pos hpj.symm]
          exact S.asy hlt
        · rw [if_neg e1, if_neg hk]
          by_cases e2 : par k = j
          · rw [if_pos e2]
            have := ho k hj0 (by omega) (by omega) hj e2 h0
            exact this
          · rw [if_neg e2]
            by_cases e3 : par k = (j - 1) / 2
            · rw [if_pos e3]
              have := hb k h0 (by omega) (by omega) e1
              have e4 : l[par k]'hpk = l[(j - 1) / 2] := by congr 1
              rw [e4] at this
              exact S.lt_le hlt this
            · rw [if_neg e3]
              exact hb k h0 (by omega) (by omega) e1
      have honew : Over lt (swapL l ((j - 1) / 2) j) n ((j - 1) / 2) := by
        intro k h0 h hn2 hj2 hk hk0
        have hpp : par ((j - 1) / 2) < l.length := by have := par_lt h0; omega
        have hppn : par ((j - 1) / 2) ≠ j := by have := par_lt h0; omega
        have hppn2 : par ((j - 1) / 2) ≠ (j - 1) / 2 := by have := par_lt h0; omega
        rw [hget k (by omega), hget _ hpp, if_neg hppn, if_neg hppn2]
        have hpok : lt l[(j - 1) / 2] (l[par ((j - 1) / 2)]'hpp) = false := hb _ h0 (by omega) (by omega) h1
        by_cases e1 : k = j
        · subst e1
          rw [if_pos rfl]; exact hpok
        · have e2 : k ≠ (j - 1) / 2 := by rw [← hk]; have := par_lt hk0; omega
          rw [if_neg e1, if_neg e2]
          have h5 := hb k hk0 (by omega) (by omega) e1
          have e4 : l[par k]'(by have := par_lt hk0; omega) = l[(j - 1) / 2] := by congr 1
          rw [e4] at h5
          exact S.le_trans hpok h5
      obtain ⟨r1, r2, r3, r4⟩ := ih (swapL l ((j - 1) / 2) j) ((j - 1) / 2) (by rw [hl2]; exact hn) (by omega) (by omega) hbnew honew
      refine ⟨r1, r2.trans (swapL_perm l _ _ hp hjl), by rw [r3, hl2], fun k hk => ?_⟩
      rw [r4 k hk]
      by_cases hkl : k < l.length
      · rw [List.getElem?_eq_getElem (by rw [hl2]; exact hkl), List.getElem?_eq_getElem hkl, hget k hkl, if_neg (by omega), if_neg (by omega)]
      · rw [List.getElem?_eq_none (by rw [hl2]; omega), List.getElem?_eq_none (by omega)]

theorem lessOf_at (S : Strict lt) (l : List α) (i n : Nat) (hn : n ≤ l.length) (h : 2 * i + 1 < n) :
    ∃ hj : lessOf lt l i n < n, par (lessOf lt l i n) = i ∧ 0 < lessOf lt l i n ∧ i < lessOf lt l i n ∧ ∀ k (hk : k < n), 0 < k → par k = i → lt (l[k]'(by omega)) (l[lessOf lt l i n]'(by omega)) = false := by
  unfold lessOf
  have h1 : 2 * i + 1 < l.length := by omega
  have two : ∀ k, 0 < k → par k = i → k = 2 * i + 1 ∨ k = 2 * i + 1 + 1 := fun k h0 hk => by unfold par at hk; omega
  by_cases h2 : 2 * i + 1 + 1 < l.length
  · simp only [List.getElem?_eq_getElem h1, List.getElem?_eq_getElem h2]
    by_cases hc : 2 * i + 1 + 1 < n ∧ lt l[2 * i + 1 + 1] l[2 * i + 1] = true
    · simp only [if_pos hc]
      refine ⟨hc.1, by unfold par; omega, by omega, by omega, fun k hk h0 hp => ?_⟩
      rcases two k h0 hp with rfl | rfl
      · exact S.asy hc.2
      · exact S.irr _
    · simp only [if_neg hc]
      refine ⟨h, by unfold par; omega, by omega, by omega, fun k hk h0 hp => ?_⟩
      rcases two k h0 hp with rfl | rfl
      · exact S.irr _
      · cases e : lt l[2 * i + 1 + 1] l[2 * i + 1]
        · rfl
        · exact absurd ⟨hk, e⟩ hc
  · simp only [List.getElem?_eq_getElem h1, List.getElem?_eq_none (Nat.le_of_not_lt h2)]
    refine ⟨h, by unfold par; omega, by omega, by omega, fun k hk h0 hp => ?_⟩
    rcases two k h0 hp with rfl | rfl
    · exact S.irr _
    · omega

theorem lessOf_ex (S : Strict lt) (l : List α) (i n : Nat) (hn : n ≤ l.length) (h : 2 * i + 1 < n) :
    ∃ j, j = lessOf lt l i n ∧ ∃ hj : j < n, par j = i ∧ 0 < j ∧ i < j ∧ ∀ k (hk : k < n), 0 < k → par k = i → lt (l[k]'(by omega)) (l[j]'(by omega)) = false :=
  ⟨_, rfl, lessOf_at S l i n hn h⟩
/-- Of the first n, none is ahead of the one above it but, it may be, those below i. -/
def DownPre (lt : α → α → Bool) (l : List α) (n i : Nat) : Prop :=
  ∀ k (h0 : 0 < k) (h : k < n) (hn : n ≤ l.length), par k ≠ i → lt (l[k]'(by omega)) (l[par k]'(by have := par_lt h0; omega)) = false

theorem downH_ok (S : Strict lt) (n : Nat) : ∀ (f : Nat) (l : List α) (i : Nat), n ≤ l.length → n < f + i → i < n → DownPre lt l n i → Over lt l n i →
    HeapOK lt (downH lt f l i n).1 n ∧ (downH lt f l i n).1.Perm l ∧ (downH lt f l i n).1.length = l.length ∧ (∀ k, n ≤ k → (downH lt f l i n).1[k]? = l[k]?) ∧ i ≤ (downH lt f l i n).2 ∧ ((downH lt f l i n).2 = i → (downH lt f l i n).1 = l) := by
  intro f
  induction f with
  | zero => intro l i hn hf hi; omega
  | succ f ih =>
    intro l i hn hf hi hd ho
    rw [downH]
    by_cases h2 : n ≤ 2 * i + 1
    · rw [if_pos h2]
      refine ⟨fun k h0 h hn2 => hd k h0 h hn2 (by unfold par; omega), List.Perm.refl _, rfl, fun _ _ => rfl, Nat.le_refl _, fun _ => rfl⟩
    · rw [if_neg h2]
      obtain ⟨j, hje, hj, hpj, hj0, hij, hless⟩ := lessOf_ex S l i n hn (by omega)
      rw [← hje]
      clear hje
      have hjl : j < l.length := by omega
      have hil : i < l.length := by omega
      simp only [List.getElem?_eq_getElem hjl, List.getElem?_eq_getElem hil]
      by_cases hc : lt l[j] l[i] = false
      · rw [if_pos hc]
        refine ⟨fun k h0 h hn2 => ?_, List.Perm.refl _, rfl, fun _ _ => rfl, Nat.le_refl _, fun _ => rfl⟩
        by_cases hk : par k = i
        · have h5 := hless k h h0 hk
          have e4 : l[par k]'(by have := par_lt h0; omega) = l[i] := by congr 1
          rw [e4]
          exact S.le_trans hc h5
        · exact hd k h0 h hn2 hk
      · rw [if_neg hc]
        have hlt : lt l[j] l[i] = true := by simpa using hc
        have hl2 : (swapL l i j).length = l.length := swapL_len _ _ _
        have hget := fun k (hk : k < l.length) => swapL_get l i j k hil hjl hk
        have hd2 : DownPre lt (swapL l i j) n j := by
          intro k h0 h hn2 hk
          have hpk := par_lt h0
          rw [hget k (by omega), hget (par k) (by omega), if_neg hk]
          by_cases e1 : k = j
          · subst e1
            rw [if_pos rfl, if_pos hpj]
            exact S.asy hlt
          · rw [if_neg e1]
            by_cases e2 : k = i
            · subst e2
              rw [if_pos rfl, if_neg (by omega)]
              exact ho j (by omega) hj hn hi hpj hj0
            · rw [if_neg e2]
              by_cases e3 : par k = i
              · rw [if_pos e3]
                exact hless k h h0 e3
              · rw [if_neg e3]
                exact hd k h0 h hn e3
        have ho2 : Over lt (swapL l i j) n j := by
          intro k h0 h hn2 hj2 hk hk0
          have hpk := par_lt hk0
          have e1 : k ≠ j := by omega
          have e2 : k ≠ i := by omega
          rw [hget k (by omega), hget (par j) (by have := par_lt hj0; omega), if_neg e1, if_neg e2, if_neg (by have := par_lt hj0; omega), if_pos hpj]
          have h5 := hd k hk0 h hn (by omega)
          have e4 : l[par k]'(by omega) = l[j] := by congr 1
          rw [e4] at h5
          exact h5
        obtain ⟨r1, r2, r3, r4, r5, r6⟩ := ih (swapL l i j) j (by rw [hl2]; exact hn) (by omega) hj hd2 ho2
        refine ⟨r1, r2.trans (swapL_perm l _ _ hil hjl), by rw [r3, hl2], fun k hk => ?_, by omega, fun e => by omega⟩
        rw [r4 k hk]
        by_cases hkl : k < l.length
        · rw [List.getElem?_eq_getElem (by rw [hl2]; exact hkl), List.getElem?_eq_getElem hkl, hget k hkl, if_neg (by omega), if_neg (by omega)]
        · rw [List.getElem?_eq_none (by rw [hl2]; omega), List.getElem?_eq_none (by omega)]

/-- The first of a heap is the least. -/
theorem heap_min (S : Strict lt) (l : List α) (n : Nat) (hn : n ≤ l.length) (h0 : 0 < n) (h : HeapOK lt l n) : ∀ k (hk : k < n), lt (l[k]'(by omega)) (l[0]'(by omega)) = false := by
  intro k
  induction k using Nat.strongRecOn with
  | _ k ih =>
    intro hk
    by_cases hk0 : k = 0
    · subst hk0; exact S.irr _
    · have h1 := par_lt (show 0 < k by omega)
      exact S.le_trans (ih (par k) h1 (by omega)) (h k (by omega) hk hn)
end
end Go.Proofs.YtmioichjhiengaaGreat

/-
  The order of timers: the code's compare, and the reference's order.
-/
namespace Go.Proofs.YtmioichjhiengaaGreat
open Go.RowKit

def Timer.cmp (a b : Timer) : Int := orI [cmpI a.span.e b.span.e, cmpI a.span.s b.span.s, cmpS a.key b.key]
def tlt (a b : Timer) : Bool := decide (a.cmp b < 0)
/-- The reference's order, in full. -/
theorem orI_pos {a : Int} {l : List Int} (h : a ≠ 0) : orI (a :: l) = a := by simp [orI, h]
theorem orI_zero {a : Int} {l : List Int} (h : a = 0) : orI (a :: l) = orI l := by simp [orI, h]
theorem tlt_eq (a b : Timer) : tlt a b = if a.span.e ≠ b.span.e then decide (a.span.e < b.span.e) else if a.span.s ≠ b.span.s then decide (a.span.s < b.span.s) else ltB a.key b.key := by
  unfold tlt Timer.cmp
  by_cases h1 : a.span.e = b.span.e
  · have e1 : cmpI a.span.e b.span.e = 0 := by unfold cmpI; split <;> (try split) <;> omega
    rw [orI_zero e1, if_neg (by omega)]
    by_cases h2 : a.span.s = b.span.s
    · have e2 : cmpI a.span.s b.span.s = 0 := by unfold cmpI; split <;> (try split) <;> omega
      rw [orI_zero e2, if_neg (by omega)]
      unfold cmpS
      cases h3 : ltB a.key b.key <;> cases h4 : eqS a.key b.key <;> simp [orI]
    · have e2 : cmpI a.span.s b.span.s ≠ 0 := by unfold cmpI; split <;> (try split) <;> omega
      rw [orI_pos e2, if_pos h2]
      rw [decide_eq_decide]
      unfold cmpI; split <;> (try split) <;> omega
  · have e1 : cmpI a.span.e b.span.e ≠ 0 := by unfold cmpI; split <;> (try split) <;> omega
    rw [orI_pos e1, if_pos h1]
    rw [decide_eq_decide]
    unfold cmpI; split <;> (try split) <;> omega
theorem tlt_strict : Strict tlt where
  irr a := by rw [tlt_eq]; simp [ltB_irr]
  tra a b c h1 h2 := by
    rw [tlt_eq] at h1 h2 ⊢
    by_cases e1 : a.span.e = b.span.e
    · rw [if_neg (by omega)] at h1
      rw [e1]
      by_cases e2 : b.span.e = c.span.e
      · rw [if_neg (by omega)] at h2 ⊢
        by_cases s1 : a.span.s = b.span.s
        · rw [if_neg (by omega)] at h1
          rw [s1]
          by_cases s2 : b.span.s = c.span.s
          · rw [if_neg (by omega)] at h2 ⊢
            exact ltB_trans h1 h2
          · rw [if_pos s2] at h2 ⊢; exact h2
        · rw [if_pos s1] at h1
          simp only [decide_eq_true_eq] at h1
          by_cases s2 : b.span.s = c.span.s
          · rw [if_pos (by omega)]; simp; omega
          · rw [if_pos s2] at h2
            simp only [decide_eq_true_eq] at h2
            rw [if_pos (by omega)]; simp; omega
      · rw [if_pos e2] at h2 ⊢; exact h2
    · rw [if_pos e1] at h1
      simp only [decide_eq_true_eq] at h1
      by_cases e2 : b.span.e = c.span.e
      · rw [if_pos (by omega)]; simp; omega
      · rw [if_pos e2] at h2
        simp only [decide_eq_true_eq] at h2
        rw [if_pos (by omega)]; simp; omega
  tot a b h1 h2 := by
    rw [tlt_eq] at h1 h2
    obtain ⟨ka, sa, ea⟩ := a
    obtain ⟨kb, sb, eb⟩ := b
    simp only at h1 h2
    by_cases e1 : ea = eb
    · subst e1
      by_cases s1 : sa = sb
      · subst s1
        simp only [ne_eq, not_true, if_false] at h1 h2
        rw [ltB_tri h1 h2]
      · rw [if_neg (by simp), if_pos s1] at h1
        rw [if_neg (by simp), if_pos (fun e => s1 e.symm)] at h2
        simp only [decide_eq_false_iff_not] at h1 h2
        omega
    · rw [if_pos e1] at h1
      rw [if_pos (fun e => e1 e.symm)] at h2
      simp only [decide_eq_false_iff_not] at h1 h2
      omega

theorem timer_compare (w : World) (a b : Timer) : Calls Tryz.prog 184 #[.agg a.cells.toArray, .agg b.cells.toArray] w fun e w' => e = .returned (.int .i64 (a.cmp b)) ∧ Keep none_ w w' := by
  have hx := At.alloc (At.new w a.cells.toArray 95) (.cells b.cells.toArray 95)
  have hy : At ((w.alloc (.cells a.cells.toArray 95)).alloc (.cells b.cells.toArray 95)) (w.heap.size + 1) b.cells.toArray 95 := At.newAt (by simp) _ _
  have kk : Keep none_ w ((w.alloc (.cells a.cells.toArray 95)).alloc (.cells b.cells.toArray 95)) := (by repeat' (first | exact Keep.refl _ _ | refine Keep.set1 ?_ _ | refine Keep.alloc ?_ _ | refine Keep.drew ?_ | refine Keep.setNew ?_ (by simp) _))
  simp only [Timer.cells] at hx hy kk ⊢
  go_enter Tryz.func184, Tryz.ntmps184
  go_wp2_with fail
  generalize hw0 : (World.alloc (World.alloc w _) _) = w0 at hx hy kk ⊢
  obtain ⟨ι, hne, f, hf0, hfk, hfa⟩ := class_of none_ (w0)
  have cx : ∀ n i, (f n).cell? ⟨w.heap.size, i, none⟩ = _ := fun n => At.cell (Keep.at (hfk n) hx (fun e => e))
  have cy : ∀ n i, (f n).cell? ⟨w.heap.size + 1, i, none⟩ = _ := fun n => At.cell (Keep.at (hfk n) hy (fun e => e))
  clear hw0
  refine wp_region_class_tail f 19 (by kernel_rfl) (by kernel_rfl) hf0 ?_
  simp only [List.take_succ_cons, List.take_zero, List.drop_succ_cons, List.drop_zero]
  repeat (go_big_quiet_step (first | (go_at_call 132; exact Calls.class_of hfa ((cmp_int64 _ _ _).mono fun e w' h => ⟨h.1, h.2 ▸ Keep.refl _ _⟩)) | (go_at_call 185; exact Calls.class_of hfa ((cmp_str _ _ _).mono fun e w' h => ⟨h.1, h.2 ▸ Keep.refl _ _⟩))))
  refine wpQuiet_nil ?_
  intro n
  go_wp2_with fail
  refine (cmp_or _ _ _ [cmpI a.span.e b.span.e, cmpI a.span.s b.span.s, cmpS a.key b.key] (by simp) (by
    intro j hj
    match j, hj with
    | 0, _ => simp
    | 1, _ => simp
    | 2, _ => simp)).mono ?_
  rintro e w1 ⟨rfl, rfl⟩
  go_wp2_with fail
  go_ret
  exact ⟨rfl, (kk.trans (hfk n)).alloc _⟩
end Go.Proofs.YtmioichjhiengaaGreat

/-
  The queue of timers: Len, Less, Swap.
-/
namespace Go.Proofs.YtmioichjhiengaaGreat
open Go.RowKit

abbrev TS (w : World) (A : Option Addr) (c : Nat) (l : List Timer) : Prop := Sl Timer.cells 3 w A l.length c l

theorem queue_len (w : World) (A : Option Addr) (n c : Nat) : Calls Tryz.prog 181 #[.slice A n c] w fun e w' => e = .returned (.int .i64 n) ∧ w = w' := by
  go_enter Tryz.func181, Tryz.ntmps181
  go_wp2_with fail
  go_ret
  exact ⟨rfl, rfl⟩

theorem queue_less {w : World} {A : Option Addr} {c : Nat} {l : List Timer} (h : TS w A c l) (i j : Nat) (hi : i < l.length) (hj : j < l.length) :
    Calls Tryz.prog 182 #[.slice A l.length c, .int .i64 i, .int .i64 j] w fun e w' => e = .returned (.bool (tlt l[i] l[j])) ∧ Keep none_ w w' := by
  obtain ⟨b, off, rfl, hbl, -⟩ := h.at_ (by omega)
  have hlc := h.2.1
  have hnc := h.2.2.1
  unfold maxLen at hnc
  obtain ⟨ι, hne, f, hf0, hfk, hfa⟩ := class_of none_ (w)
  have i0 : ∀ n, (f n).cell? ⟨b, off + i * 3, none⟩ = _ := fun n => (h.keep (hfk n) Off.none_).cellk hi 0 (by omega)
  have i1 : ∀ n, (f n).cell? ⟨b, off + i * 3 + 1, none⟩ = _ := fun n => (h.keep (hfk n) Off.none_).cellk hi 1 (by omega)
  have i2 : ∀ n, (f n).cell? ⟨b, off + i * 3 + 2, none⟩ = _ := fun n => (h.keep (hfk n) Off.none_).cellk hi 2 (by omega)
  have j0 : ∀ n, (f n).cell? ⟨b, off + j * 3, none⟩ = _ := fun n => (h.keep (hfk n) Off.none_).cellk hj 0 (by omega)
  have j1 : ∀ n, (f n).cell? ⟨b, off + j * 3 + 1, none⟩ = _ := fun n => (h.keep (hfk n) Off.none_).cellk hj 1 (by omega)
  have j2 : ∀ n, (f n).cell? ⟨b, off + j * 3 + 2, none⟩ = _ := fun n => (h.keep (hfk n) Off.none_).cellk hj 2 (by omega)
  clear h
  simp only [Timer.cells] at i0 i1 i2 j0 j1 j2
  have cc := Lib.hid (fun w => timer_compare w l[i] l[j])
  unfold tlt
  generalize l[i] = x at *
  generalize l[j] = y at *
  obtain ⟨xk, xs, xe⟩ := x
  obtain ⟨yk, ys, ye⟩ := y
  go_enter Tryz.func182, Tryz.ntmps182
  go_wp2_with fail
  refine wp_region_class f (by kernel_rfl) (by kernel_rfl) hf0 ?_
  repeat (go_big_quiet_step ((go_at_call 184; exact Calls.class_of hfa (cc.out _))))
  refine wpQuiet_nil ?_
  rintro _ ⟨n, rfl⟩
  go_wp2_with fail
  go_ret
  exact ⟨rfl, hfk n⟩

/-- The queue's list, in a row of its own. -/
def QAt (w : World) (base : Nat) (v : Value) (l : List Timer) : Prop := w.ownsRow base 95 3 v l.length (flat Timer.cells l)
theorem timer_len3 (x : Timer) : (Timer.cells x).length = 3 := rfl
theorem queue_swap {w : World} {base g cap : Nat} {l : List Timer} (h : QAt w base (.slice (some ⟨g, 0, none⟩) l.length cap) l) (i j : Nat) (hi : i < l.length) (hj : j < l.length) :
    Calls Tryz.prog 183 #[.slice (some ⟨g, 0, none⟩) l.length cap, .int .i64 i, .int .i64 j] w fun e w' => e = .returned (.tuple #[]) ∧ QAt w' base (.slice (some ⟨g, 0, none⟩) l.length cap) (swapL l i j) ∧ Keep (one g) w w' := by
  have hs : TS w (some ⟨g, 0, none⟩) cap l := Sl.of_own (enc := Timer.cells) timer_len3 (by decide) h
  have hlc := hs.2.1
  have hnc := hs.2.2.1
  unfold maxLen at hnc
  have ci := hs.cellk hi
  have cj := hs.cellk hj
  have i0 := ci 0 (by omega)
  have i1 := ci 1 (by omega)
  have i2 := ci 2 (by omega)
  have j0 := cj 0 (by omega)
  have j1 := cj 1 (by omega)
  have j2 := cj 2 (by omega)
  clear ci cj
  simp only [Timer.cells, Nat.zero_add, Nat.add_zero] at i0 i1 i2 j0 j1 j2
  obtain ⟨cur, ha⟩ : ∃ cur, At w g cur 95 := by
    rcases h.2 with ⟨h0, -⟩ | ⟨g', cap', cur, he, hb, hg, -⟩
    · cases h0
    · obtain ⟨rfl, rfl⟩ : g = g' ∧ cap = cap' := by simpa using he
      exact ⟨cur, hg⟩
  have fz := ha.frozen
  have q1 := own_stores timer_len3 (by decide) h i hi l[j]
  have q2 := own_stores timer_len3 (by decide) q1 j (by simpa using hj) l[i]
  have e1 : (l.set i l[j])[j]'(by simpa using hj) = l[j] := by
    by_cases hij : i = j
    · subst hij; simp
    · rw [List.getElem_set_ne hij]
  have s1 : Sl Timer.cells 3 (stores w g (i * 3) l[j].cells) (some ⟨g, 0, none⟩) l.length cap (l.set i l[j]) := Sl.of_own (enc := Timer.cells) timer_len3 (by decide) q1
  have ck := s1.cellk (i := j) (by simpa using hj)
  rw [e1] at ck
  have k0 := ck 0 (by omega)
  have k1 := ck 1 (by omega)
  have k2 := ck 2 (by omega)
  have f2 := (At.setL (w := w) l[j].cells (o := i * 3) ha).frozen
  have kk := Keep.setL (S := one g) (fun _ => rfl) l[i].cells (o := j * 3) (Keep.setL (S := one g) (fun _ => rfl) l[j].cells (o := i * 3) (Keep.refl (one g) w))
  have hsw : swapL l i j = (l.set i l[j]).set j l[i] := by
    unfold swapL
    simp only [List.getElem?_eq_getElem hi, List.getElem?_eq_getElem hj]
  rw [hsw]
  clear q1 hs s1 ck e1 hsw ha h
  simp only [Timer.cells, stores, Nat.zero_add, Nat.add_zero, Nat.add_assoc, Nat.reduceAdd, List.getElem?_cons_zero, List.getElem?_cons_succ] at i0 i1 i2 j0 j1 j2 k0 k1 k2 q2 f2 kk
  go_enter Tryz.func183, Tryz.ntmps183
  go_region
  refine bodyPost_end (v := .tuple #[]) ?_ ?_ ?_
  · simp [results, Tryz.results183, go_sem]
  · rfl
  · refine ⟨rfl, ?_, ?_⟩
    · unfold QAt
      simp only [List.length_set]
      exact own_drew q2
    · exact Keep.drew kk
end Go.Proofs.YtmioichjhiengaaGreat

/-
  The queue of timers: Push, Pop.
-/
namespace Go.Proofs.YtmioichjhiengaaGreat
open Go.RowKit

theorem row_timer : Row Tryz.prog 126 95 3 := row_of (b := 32) (z := .agg #[.string ⟨#[]⟩, .int .i64 0, .int .i64 0]) Tryz.underlying126 (by kernel_rfl) rfl (by decide) (by decide)
theorem timer_one (x : Timer) : ∀ u ∈ Timer.cells x, u.oneCell' = true := by
  intro u hu
  simp [Timer.cells] at hu
  rcases hu with rfl | rfl | rfl <;> rfl
theorem assert_timer (w : World) (xT : TypeId) (v : Value) : (Instr.typeAssert (.iface 95 v) xT 95 true).run Tryz.prog w = .ok (.tuple #[v, .bool true]) w := by
  have h : Tryz.prog.underlying 95 = some (.struct (Tryz.prog.fieldsOf 95)) := by kernel_rfl
  simp [Instr.typeAssert, run_underlying h]
set_option maxRecDepth 100000 in
theorem queue_push {w : World} {p : Nat} {v : Value} {l : List Timer} (hp : At w p #[v] 128) (h : QAt w (p + 1) v l) (hlen : l.length ≤ 100000) (x : Timer) :
    Calls Tryz.prog 187 #[.pointer (some ⟨p, 0, none⟩), .iface 95 (.agg x.cells.toArray)] w fun e w' => e = .returned (.tuple #[]) ∧
      ∃ v', At w' p #[v'] 128 ∧ QAt w' (p + 1) v' (l ++ [x]) ∧ Keep (fun z => z = p ∨ v.ownBlock = some z) w w' ∧ (v'.ownBlock = v.ownBlock ∨ ∃ g, v'.ownBlock = some g ∧ w.heap.size ≤ g) := by
  obtain ⟨xk, xs, xe⟩ := x
  have cp := At.cell hp
  have hpl := hp.lt
  have ht := fun w xT v => assert_timer w xT v
  have hx := At.new w #[.string xk, .int .i64 xs, .int .i64 xe] 95
  have k1 : Keep none_ w (w.alloc (.cells #[.string xk, .int .i64 xs, .int .i64 xe] 95)) := (by repeat' (first | assumption | with_reducible exact Keep.refl _ _ | with_reducible refine Keep.alloc ?_ _ | with_reducible refine Keep.drew ?_))
  have hn : w.heap.size < (w.alloc (.cells #[.string xk, .int .i64 xs, .int .i64 xe] 95)).heap.size := by simp
  simp only [Timer.cells]
  go_enter Tryz.func187, Tryz.ntmps187
  go_wp2_with fail
  generalize w.alloc _ = w1 at *
  have hp1 := Keep.at k1 hp (fun e => e)
  have h1 : QAt w1 (p + 1) v l := own_keep h k1 (fun _ _ e => e)
  have cells : ∀ w', Keep none_ w1 w' → w'.cell? ⟨p, 0, none⟩ = some v ∧ w'.cell? ⟨w.heap.size, 0, none⟩ = some (.string xk) ∧ w'.cell? ⟨w.heap.size, 1, none⟩ = some (.int .i64 xs) ∧ w'.cell? ⟨w.heap.size, 2, none⟩ = some (.int .i64 xe) := fun w' k =>
    ⟨At.cell (Keep.at k hp1 (fun e => e)) 0, At.cell (Keep.at k hx (fun e => e)) 0, At.cell (Keep.at k hx (fun e => e)) 1, At.cell (Keep.at k hx (fun e => e)) 2⟩
  have hvp : v.ownBlock ≠ some p := fun e => by have := (h1.lt p e).1; omega
  clear cp ht hp h
  have c0 := cells w1 (Keep.refl _ _)
  obtain ⟨c0, c1, c2, c3⟩ := c0
  have hpl1 := hp1.lt
  have hxl := hx.lt
  have fz := hp1.frozen
  clear cells
  go_region_law (first
      | (refine step_append_sl _ (by rfl) _ _ _ (by rfl) (p + 1) 95 row_timer timer_len3 timer_one v l.length l (by rfl) ?_ (some ⟨_, 0, none⟩) 1 1 [⟨xk, xs, xe⟩] (by rfl) (Sl.of_at (cs := #[.string xk, .int .i64 xs, .int .i64 xe]) (e := 95) ?_ timer_len3 (by decide) rfl rfl (by unfold maxLen; omega)) (by omega) ?_ ?_
         · exact own_keep h1 (S := none_) (by repeat' (first | assumption | with_reducible exact Keep.refl _ _ | with_reducible refine Keep.alloc ?_ _ | with_reducible refine Keep.drew ?_)) (fun _ _ e => e)
         · exact (by repeat' (first | ((with_reducible refine At.newAt ?_ _ _); (first | (simp; done) | rfl)) | with_reducible refine At.drew ?_ | with_reducible refine At.alloc ?_ _))
         · (simp only [World.size_drew, World.size_alloc]; omega)
         intro v' wA own1 grow1 loc1
         have kA : Keep (fun z => z = p ∨ v.ownBlock = some z) w1 wA := Keep.grown (by repeat' (first | assumption | with_reducible exact Keep.refl _ _ | with_reducible refine Keep.alloc ?_ _ | with_reducible refine Keep.drew ?_)) grow1 (fun z hz _ => .inr hz)
         have hpA := At.grown (Keep.at (S := none_) (by repeat' (first | assumption | with_reducible exact Keep.refl _ _ | with_reducible refine Keep.alloc ?_ _ | with_reducible refine Keep.drew ?_)) hp1 (fun e => e)) grow1 hvp
         have cA := At.cell hpA 0
         have fA := At.frozen hpA 0
         simp only [List.getElem?_toArray, List.getElem?_cons_zero] at cA
         obtain ⟨A', c', rfl⟩ := own_form own1))
  all_goals
    have kp : ∀ u, Keep (one p) wA (wA.setCell ⟨p, 0, none⟩ u) := fun u => Keep.setCell (p := ⟨p, 0, none⟩) (Keep.refl (one p) wA) (fun _ => rfl) u
    have kk : ∀ u, Keep (fun z => z = p ∨ v.ownBlock = some z) w (wA.setCell ⟨p, 0, none⟩ u) := fun u => Keep.setCell (p := ⟨p, 0, none⟩) ((k1.mono (fun _ _ e => e.elim)).trans kA) (fun _ => .inl rfl) u
    simp only [Exit.inBlock]
    refine bodyPost_end (v := .tuple #[]) ?_ ?_ ?_
    · simp [results, Tryz.results187, go_sem]
    · rfl
    · refine ⟨rfl, .slice A' (l.length + 1) c', ?_, ?_, ?_, ?_⟩
      · exact At.set hpA 0 _
      · have := own_keep own1 (kp (.slice A' (l.length + 1) c')) (fun g hg e => by have := (own1.lt g hg).1; unfold one at e; omega)
        unfold QAt
        rw [List.length_append]
        exact this
      · exact kk _
      · rcases loc1 with h | h
        · exact .inl h
        · exact .inr ⟨_, h, (show Keep none_ w _ from (by repeat' (first | assumption | with_reducible exact Keep.refl _ _ | with_reducible refine Keep.alloc ?_ _ | with_reducible refine Keep.drew ?_))).size⟩

set_option maxRecDepth 100000 in
theorem queue_pop {w : World} {p : Nat} {v : Value} {l : List Timer} (hp : At w p #[v] 128) (h : QAt w (p + 1) v l) (h0 : 0 < l.length) :
    Calls Tryz.prog 186 #[.pointer (some ⟨p, 0, none⟩)] w fun e w' => e = .returned (.iface 95 (.agg (l[l.length - 1]).cells.toArray)) ∧
      ∃ v', At w' p #[v'] 128 ∧ QAt w' (p + 1) v' (l.take (l.length - 1)) ∧ Keep (one p) w w' ∧ v'.ownBlock = v.ownBlock := by
  obtain ⟨g, cap, rfl, hbg, hgl, hlc, hnc⟩ := own_some h h0
  have hs : TS w (some ⟨g, 0, none⟩) cap l := Sl.of_own (enc := Timer.cells) timer_len3 (by decide) h
  have hsh := own_shrink timer_len3 (by decide) h (Nat.sub_le l.length 1)
  have hsl := hs.len
  have cp := At.cell hp
  have fp := At.frozen hp
  have ci := hs.cellk (i := l.length - 1) (by omega)
  have i0 := ci 0 (by omega)
  have i1 := ci 1 (by omega)
  have i2 := ci 2 (by omega)
  have hpl := hp.lt
  have e1 : (l.length : Int) - 1 = ((l.length - 1 : Nat) : Int) := by omega
  unfold maxLen at hnc
  generalize l[l.length - 1] = x at *
  obtain ⟨xk, xs, xe⟩ := x
  clear ci hs
  simp only [Timer.cells, Nat.zero_add, Nat.add_zero] at i0 i1 i2 ⊢
  go_enter Tryz.func186, Tryz.ntmps186
  go_wp2_with fail
  go_ret
  have kp := Keep.setCell (p := ⟨p, 0, none⟩) (Keep.refl (one p) w) (fun _ => rfl) (.slice (some ⟨g, 0, none⟩) (l.length - 1) cap)
  have ka := Keep.alloc kp (.cells #[.string xk, .int .i64 xs, .int .i64 xe] 95)
  have hq := own_keep hsh ka (fun z hz e => by
    have : g = z := by simpa [Value.ownBlock] using hz
    unfold one at e; omega)
  refine ⟨rfl, .slice (some ⟨g, 0, none⟩) (l.length - 1) cap, At.alloc (At.set hp 0 _) _, ?_, ka, rfl⟩
  unfold QAt
  rw [List.length_take, Nat.min_eq_left (Nat.sub_le _ _)]
  exact hq
end Go.Proofs.YtmioichjhiengaaGreat

/-
  Which function a call through heap.Interface comes to, for the queue of timers.
-/
namespace Go.Proofs.YtmioichjhiengaaGreat
open Go.RowKit

theorem meth_push (p : Addr) (w : World) : (method 339 131 (.pointer (some p)) "Push").run Tryz.prog w = .ok (187, .pointer (some p)) w := by kernel_rfl
theorem meth_pop (p : Addr) (w : World) : (method 339 131 (.pointer (some p)) "Pop").run Tryz.prog w = .ok (186, .pointer (some p)) w := by kernel_rfl
theorem meth_less0 (p : Addr) (w : World) : (method 339 131 (.pointer (some p)) "Less").run Tryz.prog w = ((do pure (182, ← loadVar 126 p)) : Sem (FuncId × Value)).run Tryz.prog w := by kernel_rfl
theorem meth_swap0 (p : Addr) (w : World) : (method 339 131 (.pointer (some p)) "Swap").run Tryz.prog w = ((do pure (183, ← loadVar 126 p)) : Sem (FuncId × Value)).run Tryz.prog w := by kernel_rfl
theorem meth_len0 (p : Addr) (w : World) : (method 339 131 (.pointer (some p)) "Len").run Tryz.prog w = ((do pure (181, ← loadVar 126 p)) : Sem (FuncId × Value)).run Tryz.prog w := by kernel_rfl
theorem load_queue {p : Nat} {w : World} {A : Option Addr} {n c : Nat} (h : w.cell? ⟨p, 0, none⟩ = some (.slice A n c)) : (loadVar 126 ⟨p, 0, none⟩).run Tryz.prog w = .ok (.slice A n c) w := by
  simp [loadVar, h, go_sem]
theorem meth_less {p : Nat} {w : World} {A : Option Addr} {n c : Nat} (h : w.cell? ⟨p, 0, none⟩ = some (.slice A n c)) : (method 339 131 (.pointer (some ⟨p, 0, none⟩)) "Less").run Tryz.prog w = .ok (182, .slice A n c) w := by
  rw [meth_less0, Sem.run_bind, load_queue h]; rfl
theorem meth_swap {p : Nat} {w : World} {A : Option Addr} {n c : Nat} (h : w.cell? ⟨p, 0, none⟩ = some (.slice A n c)) : (method 339 131 (.pointer (some ⟨p, 0, none⟩)) "Swap").run Tryz.prog w = .ok (183, .slice A n c) w := by
  rw [meth_swap0, Sem.run_bind, load_queue h]; rfl
theorem meth_len {p : Nat} {w : World} {A : Option Addr} {n c : Nat} (h : w.cell? ⟨p, 0, none⟩ = some (.slice A n c)) : (method 339 131 (.pointer (some ⟨p, 0, none⟩)) "Len").run Tryz.prog w = .ok (181, .slice A n c) w := by
  rw [meth_len0, Sem.run_bind, load_queue h]; rfl
end Go.Proofs.YtmioichjhiengaaGreat

/-
  container/heap's up and down over the queue of timers.
-/
namespace Go.Proofs.YtmioichjhiengaaGreat
open Go.RowKit

theorem upL_stop {m : List Timer} {k i : Nat} (hi : i = (k - 1) / 2) (hk : k < m.length) (him : i < m.length) (h : i = k ∨ tlt (m[k]) (m[i]) = false) (f : Nat) : upL tlt (f + 1) m k = m := by
  subst hi
  simp only [upL, List.getElem?_eq_getElem hk, List.getElem?_eq_getElem him]
  rw [if_pos h]
theorem upL_go {m : List Timer} {k i : Nat} (hi : i = (k - 1) / 2) (hk : k < m.length) (him : i < m.length) (hne : i ≠ k) (h : tlt (m[k]) (m[i]) = true) (f : Nat) : upL tlt (f + 1) m k = upL tlt f (swapL m i k) i := by
  subst hi
  simp only [upL, List.getElem?_eq_getElem hk, List.getElem?_eq_getElem him]
  rw [if_neg (by rw [h]; simp [hne])]
theorem upL_fuel (f : Nat) : ∀ (g : Nat) (m : List Timer) (k : Nat), k < f → k < g → k < m.length → upL tlt f m k = upL tlt g m k := by
  induction f with
  | zero => intro g m k h; omega
  | succ f ih =>
    intro g m k h1 h2 h3
    match g, h2 with
    | g + 1, h2 =>
      have him : (k - 1) / 2 < m.length := by omega
      by_cases h : (k - 1) / 2 = k ∨ tlt (m[k]) (m[(k - 1) / 2]) = false
      · rw [upL_stop rfl h3 him h, upL_stop rfl h3 him h]
      · have hne : (k - 1) / 2 ≠ k := fun e => h (.inl e)
        have hlt : tlt (m[k]) (m[(k - 1) / 2]) = true := by
          cases e : tlt (m[k]) (m[(k - 1) / 2])
          · exact absurd (.inr e) h
          · rfl
        rw [upL_go rfl h3 him hne hlt, upL_go rfl h3 him hne hlt]
        exact ih g _ _ (by omega) (by omega) (by rw [swapL_len]; omega)
/-- The queue's own block. -/
def own (v : Value) : Nat → Prop := fun z => v.ownBlock = some z
set_option maxRecDepth 100000 in
theorem heap_up {w : World} {p : Nat} {v : Value} {l : List Timer} (hp : At w p #[v] 128) (h : QAt w (p + 1) v l) (hlen : l.length ≤ 100000) (j : Nat) (hj : j < l.length) :
    Calls Tryz.prog 136 #[.iface 131 (.pointer (some ⟨p, 0, none⟩)), .int .i64 j] w fun e w' => e = .returned (.tuple #[]) ∧
      QAt w' (p + 1) v (upL tlt (j + 1) l j) ∧ Keep (own v) w w' := by
  obtain ⟨g, cap, rfl, hbg, hgl, hlc, hnc⟩ := own_some h (by omega)
  have cp := At.cell hp
  have hpl := hp.lt
  go_enter Tryz.func136, Tryz.ntmps136
  go_wp2_with fail
  go_loopw [1] (fun ji wr => ∃ (k : Nat) (m : List Timer), ji = .int .i64 k ∧ At wr p #[.slice (some ⟨g, 0, none⟩) l.length cap] 128 ∧ wr.ownsRow (p + 1) 95 3 (.slice (some ⟨g, 0, none⟩) l.length cap) l.length (flat Timer.cells m) ∧ Hid (m.length = l.length) ∧ k < l.length ∧ Hid (upL tlt (k + 1) m k = upL tlt (j + 1) l j) ∧ Keep (one g) w wr)
    (fun ji _ => (intOf ji).toNat)
  case atStart => exact ⟨j, l, rfl, hp, h, Lib.hid rfl, hj, Lib.hid rfl, Keep.refl _ _⟩
  case round =>
    obtain ⟨k, m, rfl, hp, h, hml, hk, hup, kk⟩ := hrel
    have cp := At.cell hp
    have hpl := hp.lt
    have c0 : wr.cell? ⟨p, 0, none⟩ = some (.slice (some ⟨g, 0, none⟩) l.length cap) := cp 0
    have ml := meth_less c0
    have ms := fun (w' : World) (h : w'.cell? ⟨p, 0, none⟩ = some (.slice (some ⟨g, 0, none⟩) l.length cap)) => meth_swap h
    obtain ⟨i, hi⟩ : ∃ i, i = (k - 1) / 2 := ⟨_, rfl⟩
    by_cases hk0 : k = 0
    · subst hk0
      have : i = 0 := by omega
      subst this
      clear hi
      go_wp2_with fail
      refine bodyPost_end (v := .tuple #[]) ?_ ?_ ?_
      · exact results_none Tryz.results136 _ _ _
      · rfl
      · refine ⟨rfl, ?_, kk.mono (fun z _ e => by unfold one at e; simp [own, Value.ownBlock, e])⟩
        have e := hup.out
        rw [upL_stop (i := 0) rfl (by rw [hml.out]; exact hk) (by rw [hml.out]; exact hk) (.inl rfl)] at e
        unfold QAt
        rw [← e, hml.out]
        exact h
    · have e1 : ((k : Int) - 1).tdiv 2 = (i : Int) := by
        rw [Int.tdiv_eq_ediv_of_nonneg (by omega)]; omega
      have e2 : ((i : Int) == (k : Int)) = false := by simp; omega
      have hik : i < k := by omega
      replace hi := Lib.hid hi
      have hkm : k < m.length := by rw [hml.out]; exact hk
      have him : i < m.length := by omega
      have cl := queue_less (w := wr) (A := some ⟨g, 0, none⟩) (c := cap) (l := m) (Sl.of_own (enc := Timer.cells) timer_len3 (by decide) (by rw [hml.out]; exact h)) k i hkm him
      rw [hml.out] at cl
      replace cl := Lib.hid cl
      replace hkm := Lib.hid hkm
      replace him := Lib.hid him
      go_wp2_with fail
      refine cl.out.mono ?_
      rintro e w1 ⟨rfl, k1⟩
      have c1 : w1.cell? ⟨p, 0, none⟩ = some (.slice (some ⟨g, 0, none⟩) l.length cap) := At.cell (Keep.at k1 hp (fun e => e)) 0
      have m1 := meth_swap c1
      have h1 : w1.ownsRow (p + 1) 95 3 (.slice (some ⟨g, 0, none⟩) l.length cap) l.length (flat Timer.cells m) := own_keep h k1 (fun _ _ e => e)
      clear cl ml ms
      cases hlt : tlt (m[k]'hkm.out) (m[i]'him.out)
      · go_wp2_with fail
        refine bodyPost_end (v := .tuple #[]) ?_ ?_ ?_
        · exact results_none Tryz.results136 _ _ _
        · rfl
        · refine ⟨rfl, ?_, (kk.trans (k1.mono (fun _ _ e => e.elim))).mono (fun z _ e => by unfold one at e; simp [own, Value.ownBlock, e])⟩
          have e := hup.out
          rw [upL_stop hi.out hkm.out him.out (.inr hlt)] at e
          unfold QAt
          rw [← e, hml.out]
          exact h1
      · have cs := queue_swap (w := w1) (base := p + 1) (g := g) (cap := cap) (l := m) (by unfold QAt; rw [hml.out]; exact h1) i k him.out hkm.out
        rw [hml.out] at cs
        replace cs := Lib.hid cs
        go_wp2_with fail
        refine cs.out.mono ?_
        rintro e w2 ⟨rfl, h2, k2⟩
        have hp2 := Keep.at k2 (Keep.at k1 hp (fun e => e)) (fun e => by unfold one at e; omega)
        clear cs m1 c1
        go_wp2_with fail
        go_round
        case rel =>
          refine ⟨i, swapL m i k, rfl, hp2, ?_, Lib.hid (by rw [swapL_len]; exact hml.out), by omega, Lib.hid ?_, (kk.trans (k1.mono (fun _ _ e => e.elim))).trans k2⟩
          · have := h2
            unfold QAt at this
            rw [swapL_len, hml.out] at this
            exact this
          · rw [← hup.out, upL_go hi.out hkm.out him.out (by omega) hlt]
            exact upL_fuel _ _ _ _ (by omega) (by omega) (by rw [swapL_len]; exact him.out)
        case measure => simp [intOf]; omega
end Go.Proofs.YtmioichjhiengaaGreat

/-
  container/heap's down over the queue of timers.
-/
namespace Go.Proofs.YtmioichjhiengaaGreat
open Go.RowKit

theorem downH_end {m : List Timer} {k n f : Nat} (h : n ≤ 2 * k + 1) : downH tlt f m k n = (m, k) := by
  cases f with
  | zero => rfl
  | succ f => simp only [downH]; rw [if_pos h]
theorem downH_stop {m : List Timer} {k n j f : Nat} (h : ¬ n ≤ 2 * k + 1) (hj : lessOf tlt m k n = j) (hk : k < m.length) (hjm : j < m.length) (hl : tlt (m[j]) (m[k]) = false) : downH tlt f m k n = (m, k) := by
  cases f with
  | zero => rfl
  | succ f =>
    simp only [downH]
    rw [if_neg h]
    simp only [hj, List.getElem?_eq_getElem hjm, List.getElem?_eq_getElem hk]
    rw [if_pos hl]
theorem downH_go {m : List Timer} {k n j f : Nat} (h : ¬ n ≤ 2 * k + 1) (hj : lessOf tlt m k n = j) (hk : k < m.length) (hjm : j < m.length) (hl : tlt (m[j]) (m[k]) = true) : downH tlt (f + 1) m k n = downH tlt f (swapL m k j) j n := by
  simp only [downH]
  rw [if_neg h]
  simp only [hj, List.getElem?_eq_getElem hjm, List.getElem?_eq_getElem hk]
  rw [if_neg (by rw [hl]; simp)]
theorem lessOf_two {m : List Timer} {k n : Nat} (h1 : 2 * k + 1 < m.length) (h2 : 2 * k + 1 + 1 < m.length) (hn : 2 * k + 1 + 1 < n) (h : tlt (m[2 * k + 1 + 1]) (m[2 * k + 1]) = true) : lessOf tlt m k n = 2 * k + 1 + 1 := by
  simp only [lessOf, List.getElem?_eq_getElem h1, List.getElem?_eq_getElem h2]
  rw [if_pos ⟨hn, h⟩]
theorem lessOf_one {m : List Timer} {k n : Nat} (h1 : 2 * k + 1 < m.length) (h2 : 2 * k + 1 + 1 < m.length) (h : tlt (m[2 * k + 1 + 1]) (m[2 * k + 1]) = false) : lessOf tlt m k n = 2 * k + 1 := by
  simp only [lessOf, List.getElem?_eq_getElem h1, List.getElem?_eq_getElem h2]
  rw [if_neg (by rw [h]; simp)]
theorem lessOf_last {m : List Timer} {k n : Nat} (hn : ¬ 2 * k + 1 + 1 < n) : lessOf tlt m k n = 2 * k + 1 := by
  simp only [lessOf]
  split
  · rw [if_neg (fun h => hn h.1)]
  · rfl

theorem queue_less_n {w : World} {base N g cap : Nat} {l : List Timer} (hN : l.length = N) (h : w.ownsRow base 95 3 (.slice (some ⟨g, 0, none⟩) N cap) N (flat Timer.cells l)) (i j : Nat) (hi : i < l.length) (hj : j < l.length) :
    Calls Tryz.prog 182 #[.slice (some ⟨g, 0, none⟩) N cap, .int .i64 i, .int .i64 j] w fun e w' => e = .returned (.bool (tlt l[i] l[j])) ∧ Keep none_ w w' := by
  subst hN
  exact queue_less (Sl.of_own (enc := Timer.cells) timer_len3 (by decide) h) i j hi hj
set_option maxHeartbeats 4000000 in
set_option maxRecDepth 100000 in
theorem heap_down {w : World} {p : Nat} {v : Value} {l : List Timer} (hp : At w p #[v] 128) (h : QAt w (p + 1) v l) (hlen : l.length ≤ 100000) (i n : Nat) (hi : i < l.length) (hn : n ≤ l.length) :
    Calls Tryz.prog 106 #[.iface 131 (.pointer (some ⟨p, 0, none⟩)), .int .i64 i, .int .i64 n] w fun e w' =>
      e = .returned (.bool (decide (i < (downH tlt (n + 1) l i n).2))) ∧
      QAt w' (p + 1) v (downH tlt (n + 1) l i n).1 ∧ Keep (own v) w w' := by
  obtain ⟨g, cap, rfl, hbg, hgl, hlc, hnc⟩ := own_some h (by omega)
  go_enter Tryz.func106, Tryz.ntmps106
  go_wp2_with fail
  go_loopw [7] (fun ki wr => ∃ (k f : Nat) (m : List Timer), ki = .int .i64 k ∧ At wr p #[.slice (some ⟨g, 0, none⟩) l.length cap] 128 ∧ wr.ownsRow (p + 1) 95 3 (.slice (some ⟨g, 0, none⟩) l.length cap) l.length (flat Timer.cells m) ∧ Hid (m.length = l.length) ∧ k < l.length ∧ i ≤ k ∧ Hid (n < f + k) ∧ Hid (downH tlt f m k n = downH tlt (n + 1) l i n) ∧ Keep (one g) w wr)
    (fun ki _ => l.length - (intOf ki).toNat)
  case atStart => exact ⟨i, n + 1, l, rfl, hp, h, Lib.hid rfl, hi, Nat.le_refl _, Lib.hid (by omega), Lib.hid rfl, Keep.refl _ _⟩
  case round =>
    clear hp h
    obtain ⟨k, f, m, rfl, hp, h, hml, hk, hik, hf, hdn, kk⟩ := hrel
    have hpl := hp.lt
    have c0 : wr.cell? ⟨p, 0, none⟩ = some (.slice (some ⟨g, 0, none⟩) l.length cap) := At.cell hp 0
    have ml := meth_less c0
    obtain ⟨j1, hj1⟩ : ∃ j1, j1 = 2 * k + 1 := ⟨_, rfl⟩
    have e1 : 2 * (k : Int) + 1 = (j1 : Int) := by omega
    have hd0 := decide_eq_false (show ¬ (j1 : Int) < 0 by omega)
    by_cases hend : n ≤ j1
    · have hd1 : decide ((n : Int) ≤ (j1 : Int)) = true := by simp; omega
      replace hj1 := Lib.hid hj1
      go_wp2_with fail
      go_ret
      have hr : downH tlt (n + 1) l i n = (m, k) := by rw [← hdn.out]; exact downH_end (by have := hj1.out; omega)
      rw [hr]
      refine ⟨rfl, ?_, kk.mono (fun z _ e => by unfold one at e; simp [own, Value.ownBlock, e])⟩
      unfold QAt
      rw [hml.out]
      exact h
    · obtain ⟨j2, hj2⟩ : ∃ j2, j2 = 2 * k + 1 + 1 := ⟨_, rfl⟩
      have e2 : (j1 : Int) + 1 = (j2 : Int) := by omega
      have hd1 : decide ((n : Int) ≤ (j1 : Int)) = false := by simp; omega
      have hmk := hml.out
      have hkm : Hid (k < m.length) := Lib.hid (by omega)
      have j1m : Hid (j1 < m.length) := Lib.hid (by omega)
      have j1l : Hid (j1 < l.length) := Lib.hid (by omega)
      have j1k : Hid (k < j1) := Lib.hid (by omega)
      have j2k : Hid (k < j2) := Lib.hid (by omega)
      have hnk : Hid (k < n) := Lib.hid (by omega)
      have j2b : j2 ≤ 100001 := by omega
      have hend : Hid (¬ n ≤ 2 * k + 1) := Lib.hid (by omega)
      clear hmk
      by_cases h2 : j2 < n
      · have hd2 : decide ((j2 : Int) < (n : Int)) = true := by simp; omega
        have j2m : Hid (j2 < m.length) := Lib.hid (by have := hml.out; omega)
        have j2l : Hid (j2 < l.length) := Lib.hid (by omega)
        have cl := queue_less_n (w := wr) (l := m) hml.out h j2 j1 j2m.out j1m.out
        replace cl := Lib.hid cl
        replace hj1 := Lib.hid hj1
        replace hj2 := Lib.hid hj2
        go_wp2_with fail
        refine cl.out.mono ?_
        rintro e w1 ⟨rfl, k1⟩
        have hp1 := Keep.at k1 hp (fun e => e)
        have c1 : w1.cell? ⟨p, 0, none⟩ = some (.slice (some ⟨g, 0, none⟩) l.length cap) := At.cell hp1 0
        have m1 := meth_less c1
        have h1 : w1.ownsRow (p + 1) 95 3 (.slice (some ⟨g, 0, none⟩) l.length cap) l.length (flat Timer.cells m) := own_keep h k1 (fun _ _ e => e)
        have kk1 := kk.trans (k1.mono (S' := one g) (fun _ _ e => e.elim))
        clear cl ml
        cases hl2 : tlt (m[j2]'j2m.out) (m[j1]'j1m.out)
        · have les : Hid (lessOf tlt m k n = j1) := Lib.hid (by
            have a1 := hj1.out; have a2 := hj2.out
            subst a1; subst a2
            exact lessOf_one j1m.out j2m.out hl2)
          have cl2 := queue_less_n (w := w1) (l := m) hml.out h1 j1 k j1m.out hkm.out
          replace cl2 := Lib.hid cl2
          go_wp2_with fail
          refine cl2.out.mono ?_
          rintro e w3 ⟨rfl, k3⟩
          have h3 : w3.ownsRow (p + 1) 95 3 (.slice (some ⟨g, 0, none⟩) l.length cap) l.length (flat Timer.cells m) := own_keep h1 k3 (fun _ _ e => e)
          have hp3 := Keep.at k3 (show At w1 p _ _ from ‹_›) (fun e => e)
          have c3 : w3.cell? ⟨p, 0, none⟩ = some (.slice (some ⟨g, 0, none⟩) l.length cap) := At.cell hp3 0
          have m3 := meth_swap c3
          have kk3 := kk1.trans (k3.mono (S' := one g) (fun _ _ e => e.elim))
          clear cl2
          cases hlt : tlt (m[j1]'j1m.out) (m[k]'hkm.out)
          · go_wp2_with fail
            go_ret
            have hr : downH tlt (n + 1) l i n = (m, k) := by rw [← hdn.out]; exact downH_stop hend.out les.out hkm.out j1m.out hlt
            rw [hr]
            refine ⟨rfl, ?_, kk3.mono (fun z _ e => by unfold one at e; simp [own, Value.ownBlock, e])⟩
            unfold QAt
            rw [hml.out]
            exact h3
          · have cs := queue_swap (w := w3) (base := p + 1) (g := g) (cap := cap) (l := m) (by unfold QAt; rw [hml.out]; exact h3) k j1 hkm.out j1m.out
            rw [hml.out] at cs
            replace cs := Lib.hid cs
            go_wp2_with fail
            refine cs.out.mono ?_
            rintro e w4 ⟨rfl, h4, k4⟩
            have hp4 := Keep.at k4 hp3 (fun e => by unfold one at e; omega)
            clear cs m3 c3
            go_wp2_with fail
            go_round
            case rel =>
              have hfk := hf.out
              obtain ⟨f', rfl⟩ : ∃ f', f = f' + 1 := ⟨f - 1, by have := hnk.out; omega⟩
              have hjk : k < j1 := by have := j1k.out; omega
              refine ⟨j1, f', swapL m k j1, rfl, hp4, ?_, Lib.hid (by rw [swapL_len]; exact hml.out), j1l.out, by omega, Lib.hid (by omega), Lib.hid ?_, kk3.trans k4⟩
              · have := h4
                unfold QAt at this
                rw [swapL_len, hml.out] at this
                exact this
              · rw [← hdn.out, downH_go hend.out les.out hkm.out j1m.out hlt]
            case measure => have := j1k.out; have := j1l.out; simp [intOf]; omega
        · have les : Hid (lessOf tlt m k n = j2) := Lib.hid (by
            have a1 := hj1.out; have a2 := hj2.out
            subst a1; subst a2
            exact lessOf_two j1m.out j2m.out h2 hl2)
          have cl2 := queue_less_n (w := w1) (l := m) hml.out h1 j2 k j2m.out hkm.out
          replace cl2 := Lib.hid cl2
          go_wp2_with fail
          refine cl2.out.mono ?_
          rintro e w3 ⟨rfl, k3⟩
          have h3 : w3.ownsRow (p + 1) 95 3 (.slice (some ⟨g, 0, none⟩) l.length cap) l.length (flat Timer.cells m) := own_keep h1 k3 (fun _ _ e => e)
          have hp3 := Keep.at k3 (show At w1 p _ _ from ‹_›) (fun e => e)
          have c3 : w3.cell? ⟨p, 0, none⟩ = some (.slice (some ⟨g, 0, none⟩) l.length cap) := At.cell hp3 0
          have m3 := meth_swap c3
          have kk3 := kk1.trans (k3.mono (S' := one g) (fun _ _ e => e.elim))
          clear cl2
          cases hlt : tlt (m[j2]'j2m.out) (m[k]'hkm.out)
          · go_wp2_with fail
            go_ret
            have hr : downH tlt (n + 1) l i n = (m, k) := by rw [← hdn.out]; exact downH_stop hend.out les.out hkm.out j2m.out hlt
            rw [hr]
            refine ⟨rfl, ?_, kk3.mono (fun z _ e => by unfold one at e; simp [own, Value.ownBlock, e])⟩
            unfold QAt
            rw [hml.out]
            exact h3
          · have cs := queue_swap (w := w3) (base := p + 1) (g := g) (cap := cap) (l := m) (by unfold QAt; rw [hml.out]; exact h3) k j2 hkm.out j2m.out
            rw [hml.out] at cs
            replace cs := Lib.hid cs
            go_wp2_with fail
            refine cs.out.mono ?_
            rintro e w4 ⟨rfl, h4, k4⟩
            have hp4 := Keep.at k4 hp3 (fun e => by unfold one at e; omega)
            clear cs m3 c3
            go_wp2_with fail
            go_round
            case rel =>
              have hfk := hf.out
              obtain ⟨f', rfl⟩ : ∃ f', f = f' + 1 := ⟨f - 1, by have := hnk.out; omega⟩
              have hjk : k < j2 := by have := j2k.out; omega
              refine ⟨j2, f', swapL m k j2, rfl, hp4, ?_, Lib.hid (by rw [swapL_len]; exact hml.out), j2l.out, by omega, Lib.hid (by omega), Lib.hid ?_, kk3.trans k4⟩
              · have := h4
                unfold QAt at this
                rw [swapL_len, hml.out] at this
                exact this
              · rw [← hdn.out, downH_go hend.out les.out hkm.out j2m.out hlt]
            case measure => have := j2k.out; have := j2l.out; simp [intOf]; omega
      · have hd2 : decide ((j2 : Int) < (n : Int)) = false := by simp; omega
        have les : Hid (lessOf tlt m k n = j1) := Lib.hid (by rw [hj1]; exact lessOf_last (by omega))
        replace hj1 := Lib.hid hj1
        replace hj2 := Lib.hid hj2
        have cl2 := queue_less_n (w := wr) (l := m) hml.out h j1 k j1m.out hkm.out
        replace cl2 := Lib.hid cl2
        go_wp2_with fail
        refine cl2.out.mono ?_
        rintro e w3 ⟨rfl, k3⟩
        have h3 : w3.ownsRow (p + 1) 95 3 (.slice (some ⟨g, 0, none⟩) l.length cap) l.length (flat Timer.cells m) := own_keep h k3 (fun _ _ e => e)
        have hp3 := Keep.at k3 (show At wr p _ _ from ‹_›) (fun e => e)
        have c3 : w3.cell? ⟨p, 0, none⟩ = some (.slice (some ⟨g, 0, none⟩) l.length cap) := At.cell hp3 0
        have m3 := meth_swap c3
        have kk3 := kk.trans (k3.mono (S' := one g) (fun _ _ e => e.elim))
        clear cl2
        cases hlt : tlt (m[j1]'j1m.out) (m[k]'hkm.out)
        · go_wp2_with fail
          go_ret
          have hr : downH tlt (n + 1) l i n = (m, k) := by rw [← hdn.out]; exact downH_stop hend.out les.out hkm.out j1m.out hlt
          rw [hr]
          refine ⟨rfl, ?_, kk3.mono (fun z _ e => by unfold one at e; simp [own, Value.ownBlock, e])⟩
          unfold QAt
          rw [hml.out]
          exact h3
        · have cs := queue_swap (w := w3) (base := p + 1) (g := g) (cap := cap) (l := m) (by unfold QAt; rw [hml.out]; exact h3) k j1 hkm.out j1m.out
          rw [hml.out] at cs
          replace cs := Lib.hid cs
          go_wp2_with fail
          refine cs.out.mono ?_
          rintro e w4 ⟨rfl, h4, k4⟩
          have hp4 := Keep.at k4 hp3 (fun e => by unfold one at e; omega)
          clear cs m3 c3
          go_wp2_with fail
          go_round
          case rel =>
            have hfk := hf.out
            obtain ⟨f', rfl⟩ : ∃ f', f = f' + 1 := ⟨f - 1, by have := hnk.out; omega⟩
            have hjk : k < j1 := by have := j1k.out; omega
            refine ⟨j1, f', swapL m k j1, rfl, hp4, ?_, Lib.hid (by rw [swapL_len]; exact hml.out), j1l.out, by omega, Lib.hid (by omega), Lib.hid ?_, kk3.trans k4⟩
            · have := h4
              unfold QAt at this
              rw [swapL_len, hml.out] at this
              exact this
            · rw [← hdn.out, downH_go hend.out les.out hkm.out j1m.out hlt]
          case measure => have := j1k.out; have := j1l.out; simp [intOf]; omega
end Go.Proofs.YtmioichjhiengaaGreat

/-
  What container/heap's Push, Pop and Remove do to a heap in a list (plain, no program).
-/
namespace Go.Proofs.YtmioichjhiengaaGreat

section
variable {α : Type} {lt : α → α → Bool}
theorem get_same {l m : List α} {n k : Nat} (h : ∀ k, n ≤ k → m[k]? = l[k]?) (hk : n ≤ k) {x : α} (hx : l[k]? = some x) : m[k]? = some x := by rw [h k hk, hx]
theorem HeapOK.take {l : List α} {n : Nat} (h : HeapOK lt l n) : HeapOK lt (l.take n) n := by
  intro k h0 hk hn
  rw [List.length_take] at hn
  have hnl : n ≤ l.length := by omega
  have h1 := h k h0 hk hnl
  rw [List.getElem_take, List.getElem_take]
  exact h1
theorem perm_last {l m : List α} {n : Nat} {x : α} (hp : m.Perm l) (hl : m.length = n + 1) (hx : m[n]? = some x) : l.Perm (x :: m.take n) := by
  have hn : n < m.length := by omega
  have e1 : m[n] = x := by
    rw [List.getElem?_eq_getElem hn] at hx
    exact Option.some.inj hx
  have e : m = m.take n ++ [x] := by
    have := (List.take_append_getElem (l := m) (i := n) hn)
    rw [e1, List.take_of_length_le (i := n + 1) (by omega)] at this
    exact this.symm
  refine hp.symm.trans ?_
  rw [e]
  have : (m.take n ++ [x]).take n = m.take n := by
    rw [← e]
  rw [this]
  exact List.perm_append_comm

theorem push_ok (S : Strict lt) (l : List α) (x : α) (h : HeapOK lt l l.length) :
    HeapOK lt (upL lt (l.length + 1) (l ++ [x]) l.length) (l.length + 1) ∧ (upL lt (l.length + 1) (l ++ [x]) l.length).Perm (l ++ [x]) ∧ (upL lt (l.length + 1) (l ++ [x]) l.length).length = l.length + 1 := by
  have hl : (l ++ [x]).length = l.length + 1 := by simp
  obtain ⟨r1, r2, r3, -⟩ := upL_ok S (l.length + 1) (l.length + 1) (l ++ [x]) l.length (by omega) (by omega) (by omega)
    (fun k h0 hk hn hne => by
      have hpk := par_lt h0
      rw [List.getElem_append_left (by omega), List.getElem_append_left (by omega)]
      exact h k h0 (by omega) (Nat.le_refl _))
    (fun k h0 hk hn hj hp h00 => by have := par_lt h00; omega)
  exact ⟨r1, r2, by rw [r3, hl]⟩

theorem swap_last {l : List α} {n i : Nat} (hl : l.length = n + 1) (hi : i ≤ n) : (swapL l i n)[n]? = some (l[i]'(by omega)) := by
  rw [List.getElem?_eq_getElem (by rw [swapL_len]; omega), swapL_get l i n n (by omega) (by omega) (by omega), if_pos rfl]

/-- Pop: the first one and the last one swapped, the first one sinks. -/
theorem pop_ok (S : Strict lt) (l : List α) (n : Nat) (hl : l.length = n + 1) (h : HeapOK lt l l.length) :
    HeapOK lt ((downH lt (n + 1) (swapL l 0 n) 0 n).1.take n) n ∧ l.Perm (l[0]'(by omega) :: (downH lt (n + 1) (swapL l 0 n) 0 n).1.take n) ∧
    (downH lt (n + 1) (swapL l 0 n) 0 n).1.length = n + 1 ∧ (downH lt (n + 1) (swapL l 0 n) 0 n).1[n]? = some (l[0]'(by omega)) := by
  have hl2 : (swapL l 0 n).length = n + 1 := by rw [swapL_len, hl]
  have hlast := swap_last hl (Nat.zero_le n)
  by_cases h0 : n = 0
  · subst h0
    have e : downH lt (0 + 1) (swapL l 0 0) 0 0 = (swapL l 0 0, 0) := by rw [downH]; rw [if_pos (by omega)]
    rw [e]
    exact ⟨fun k h0 hk => by omega, perm_last (swapL_perm l 0 0 (by omega) (by omega)) hl2 hlast, hl2, hlast⟩
  · have hget := fun k (hk : k < l.length) => swapL_get l 0 n k (by omega) (by omega) hk
    obtain ⟨r1, r2, r3, r4, -, -⟩ := downH_ok S n (n + 1) (swapL l 0 n) 0 (by omega) (by omega) (by omega)
      (fun k h0 hk hn hne => by
        have hpk := par_lt h0
        rw [hget k (by omega), hget (par k) (by omega), if_neg (by omega), if_neg (by omega), if_neg (by omega), if_neg hne]
        exact h k h0 (by omega) (Nat.le_refl _))
      (fun k h0 => by omega)
    have hx : (downH lt (n + 1) (swapL l 0 n) 0 n).1[n]? = some (l[0]'(by omega)) := by rw [r4 n (Nat.le_refl n)]; exact hlast
    refine ⟨r1.take, perm_last (r2.trans (swapL_perm l 0 n (by omega) (by omega))) (by rw [r3, hl2]) hx, by rw [r3, hl2], hx⟩

/-- Remove, of one that is not the last. -/
def remL (lt : α → α → Bool) (l : List α) (i n : Nat) : List α :=
  if i < (downH lt (n + 1) (swapL l i n) i n).2 then (downH lt (n + 1) (swapL l i n) i n).1 else upL lt (i + 1) (downH lt (n + 1) (swapL l i n) i n).1 i
theorem rem_ok (S : Strict lt) (l : List α) (i n : Nat) (hl : l.length = n + 1) (hi : i < n) (h : HeapOK lt l l.length) :
    HeapOK lt ((remL lt l i n).take n) n ∧ l.Perm (l[i]'(by omega) :: (remL lt l i n).take n) ∧ (remL lt l i n).length = n + 1 ∧ (remL lt l i n)[n]? = some (l[i]'(by omega)) := by
  have hl2 : (swapL l i n).length = n + 1 := by rw [swapL_len, hl]
  have hlast := swap_last hl (show i ≤ n by omega)
  have hperm := swapL_perm l i n (by omega) (by omega)
  have hget := fun k (hk : k < l.length) => swapL_get l i n k (by omega) (by omega) hk
  have hover : Over lt (swapL l i n) n i := by
    intro k h0 hk hn hj hp h00
    have hpk := par_lt h00
    have hpi := par_lt h0
    rw [hget k (by omega), hget (par i) (by omega), if_neg (by omega), if_neg (by omega), if_neg (by omega), if_neg (by omega)]
    have a1 := h k h00 (by omega) (Nat.le_refl _)
    have a2 := h i h0 (by omega) (Nat.le_refl _)
    have e4 : l[par k]'(by omega) = l[i]'(by omega) := by congr 1
    rw [e4] at a1
    exact S.le_trans a2 a1
  have done : ∀ m : List α, HeapOK lt m n → m.Perm (swapL l i n) → m.length = (swapL l i n).length → (∀ k, n ≤ k → m[k]? = (swapL l i n)[k]?) →
      HeapOK lt (m.take n) n ∧ l.Perm (l[i]'(by omega) :: m.take n) ∧ m.length = n + 1 ∧ m[n]? = some (l[i]'(by omega)) := fun m r1 r2 r3 r4 => by
    have hx : m[n]? = some (l[i]'(by omega)) := by rw [r4 n (Nat.le_refl n)]; exact hlast
    exact ⟨r1.take, perm_last (r2.trans hperm) (by rw [r3, hl2]) hx, by rw [r3, hl2], hx⟩
  have rest : ∀ k (h0 : 0 < k) (hk : k < n), k ≠ i → par k ≠ i → lt ((swapL l i n)[k]'(by omega)) ((swapL l i n)[par k]'(by have := par_lt h0; omega)) = false := fun k h0 hk h1 h2 => by
    have hpk := par_lt h0
    rw [hget k (by omega), hget (par k) (by omega), if_neg (by omega), if_neg h1, if_neg (by omega), if_neg h2]
    exact h k h0 (by omega) (Nat.le_refl _)
  by_cases hcase : i = 0 ∨ lt (l[n]'(by omega)) (l[par i]'(by unfold par; omega)) = false
  · have hpre : DownPre lt (swapL l i n) n i := by
      intro k h0 hk hn hne
      by_cases hki : k = i
      · subst hki
        have hpk := par_lt h0
        rw [hget k (by omega), hget (par k) (by omega), if_neg (by omega), if_pos rfl, if_neg (by omega), if_neg hne]
        rcases hcase with h5 | h5
        · omega
        · exact h5
      · exact rest k h0 hk hki hne
    obtain ⟨r1, r2, r3, r4, r5, r6⟩ := downH_ok S n (n + 1) (swapL l i n) i (by omega) (by omega) hi hpre hover
    unfold remL
    by_cases hm : i < (downH lt (n + 1) (swapL l i n) i n).2
    · rw [if_pos hm]
      exact done _ r1 r2 r3 r4
    · rw [if_neg hm]
      have e := r6 (by omega)
      rw [e] at r1 ⊢
      obtain ⟨u1, u2, u3, u4⟩ := upL_ok S n (i + 1) (swapL l i n) i (by omega) (by omega) hi (fun k h0 hk hn _ => r1 k h0 hk hn) hover
      exact done _ u1 u2 u3 u4
  · have hi0 : 0 < i := by
      rcases Nat.eq_zero_or_pos i with h0 | h0
      · exact absurd (.inl h0) hcase
      · exact h0
    have hlt : lt (l[n]'(by omega)) (l[par i]'(by unfold par; omega)) = true := by
      cases e : lt (l[n]'(by omega)) (l[par i]'(by unfold par; omega))
      · exact absurd (.inr e) hcase
      · rfl
    have hch : ∀ k (h0 : 0 < k) (hk : k < n), par k = i → lt ((swapL l i n)[k]'(by omega)) ((swapL l i n)[i]'(by omega)) = false := fun k h0 hk hp => by
      have hpk := par_lt h0
      have hpi := par_lt hi0
      rw [hget k (by omega), hget i (by omega), if_neg (by omega), if_neg (by omega), if_neg (by omega), if_pos rfl]
      have a1 := h k h0 (by omega) (Nat.le_refl _)
      have a2 := h i hi0 (by omega) (Nat.le_refl _)
      have e4 : l[par k]'(by omega) = l[i]'(by omega) := by congr 1
      rw [e4] at a1
      exact S.lt_le hlt (S.le_trans a2 a1)
    have hd : downH lt (n + 1) (swapL l i n) i n = (swapL l i n, i) := by
      rw [downH]
      by_cases h2 : n ≤ 2 * i + 1
      · rw [if_pos h2]
      · rw [if_neg h2]
        obtain ⟨j, hje, hj, hpj, hj0, hij, -⟩ := lessOf_ex S (swapL l i n) i n (by omega) (by omega)
        rw [← hje]
        simp only [List.getElem?_eq_getElem (show j < (swapL l i n).length by omega), List.getElem?_eq_getElem (show i < (swapL l i n).length by omega)]
        rw [if_pos (hch j hj0 hj hpj)]
    have hbut : HeapBut lt (swapL l i n) n i := fun k h0 hk hn hne => by
      by_cases hp : par k = i
      · have e4 : (swapL l i n)[par k]'(by have := par_lt h0; omega) = (swapL l i n)[i]'(by omega) := by congr 1
        rw [e4]
        exact hch k h0 hk hp
      · exact rest k h0 hk hne hp
    unfold remL
    rw [hd, if_neg (by simp)]
    obtain ⟨u1, u2, u3, u4⟩ := upL_ok S n (i + 1) (swapL l i n) i (by omega) (by omega) hi hbut hover
    exact done _ u1 u2 u3 u4
end
end Go.Proofs.YtmioichjhiengaaGreat

/-
  container/heap's Push, Pop and Remove over the queue of timers.
-/
namespace Go.Proofs.YtmioichjhiengaaGreat
open Go.RowKit

theorem Keep.comb {S S' : Nat → Prop} {a b c : World} (h : Keep S a b) (k : Keep S' b c) (hs : ∀ q, q < a.heap.size → S' q → S q) : Keep S a c :=
  ⟨k.os.trans h.os, k.tape.trans h.tape, k.output.trans h.output, Nat.le_trans h.size k.size,
    fun i hi hn => (k.block i (Nat.lt_of_lt_of_le hi h.size) (fun e => hn (hs i hi e))).trans (h.block i hi hn)⟩
/-- The cell of the timers, and their row. -/
def tset (p : Nat) (v : Value) : Nat → Prop := fun z => z = p ∨ v.ownBlock = some z
/-- The same row, or one of the call's own. -/
def SameOwn (w : World) (v v' : Value) : Prop := v'.ownBlock = v.ownBlock ∨ ∃ g, v'.ownBlock = some g ∧ w.heap.size ≤ g
theorem SameOwn.set {w : World} {v v' : Value} {p : Nat} (h : SameOwn w v v') : ∀ q, q < w.heap.size → tset p v' q → tset p v q := by
  intro q hq e
  rcases e with e | e
  · exact .inl e
  · rcases h with h | ⟨g, h, hg⟩
    · exact .inr (h ▸ e)
    · rw [h] at e
      have : g = q := by simpa using e
      omega
theorem own_tset {p : Nat} {v : Value} : ∀ q, own v q → tset p v q := fun q e => .inr e
theorem SameOwn.trans {w w' : World} {v v' v2 : Value} (h : SameOwn w v v') (h2 : SameOwn w' v' v2) (hs : w.heap.size ≤ w'.heap.size) : SameOwn w v v2 := by
  rcases h2 with h2 | ⟨g, h2, hg⟩
  · rcases h with h | ⟨g, h, hg⟩
    · exact .inl (h2.trans h)
    · exact .inr ⟨g, h2.trans h, hg⟩
  · exact .inr ⟨g, h2, by omega⟩

theorem SameOwn.up {w w' : World} {v v' : Value} (h : SameOwn w' v v') (hs : w.heap.size ≤ w'.heap.size) : SameOwn w v v' := by
  rcases h with h | ⟨g, h, hg⟩
  · exact .inl h
  · exact .inr ⟨g, h, by omega⟩

theorem heap_push {w : World} {p : Nat} {v : Value} {l : List Timer} (hp : At w p #[v] 128) (h : QAt w (p + 1) v l) (hlen : l.length ≤ 99999) (x : Timer) :
    Calls Tryz.prog 116 #[.iface 131 (.pointer (some ⟨p, 0, none⟩)), .iface 95 (.agg x.cells.toArray)] w fun e w' => e = .returned (.tuple #[]) ∧
      ∃ v', At w' p #[v'] 128 ∧ QAt w' (p + 1) v' (upL tlt (l.length + 1) (l ++ [x]) l.length) ∧ Keep (tset p v) w w' ∧ SameOwn w v v' := by
  have mp := fun w => meth_push ⟨p, 0, none⟩ w
  have c1 := Lib.hid (queue_push hp h (by omega) x)
  have hpl := hp.lt
  generalize hX : Value.agg x.cells.toArray = X at *
  go_enter Tryz.func116, Tryz.ntmps116
  go_wp2_with fail
  refine c1.out.mono ?_
  rintro e w1 ⟨rfl, v1, hp1, h1, k1, own1⟩
  clear c1 mp hp h
  have hl1 : (l ++ [x]).length = l.length + 1 := by simp
  obtain ⟨A, c, hv1⟩ := own_form h1
  have hv1' := hv1
  rw [hl1] at hv1
  have c0 : w1.cell? ⟨p, 0, none⟩ = some (.slice A (l.length + 1) c) := by rw [← hv1]; exact At.cell hp1 0
  have ml := meth_len c0
  have c2 := Lib.hid (fun w => queue_len w A (l.length + 1) c)
  have e1 : ((l.length + 1 : Nat) : Int) - 1 = (l.length : Int) := by omega
  have c3 := Lib.hid (heap_up hp1 h1 (by omega) l.length (by omega))
  go_wp2_with fail
  refine (c2.out _).mono ?_
  rintro e w2 ⟨rfl, rfl⟩
  go_wp2_with fail
  refine c3.out.mono ?_
  rintro e w3 ⟨rfl, h3, k3⟩
  have hp3 : At w3 p #[v1] 128 := Keep.at k3 hp1 (fun e => by have := (h1.lt p e).1; omega)
  go_wp2_with fail
  refine bodyPost_end (v := .tuple #[]) ?_ ?_ ?_
  · exact results_none Tryz.results116 _ _ _
  · rfl
  · refine ⟨rfl, v1, hp3, h3, Keep.comb (S := tset p v) k1 k3 (fun z hz e => SameOwn.set own1 z hz (own_tset z e)), own1⟩

theorem heap_pop {w : World} {p : Nat} {v : Value} {l : List Timer} (hp : At w p #[v] 128) (h : QAt w (p + 1) v l) (hlen : l.length ≤ 100000) (hh : HeapOK tlt l l.length) (x : Timer) (hx : l[0]? = some x) :
    Calls Tryz.prog 74 #[.iface 131 (.pointer (some ⟨p, 0, none⟩))] w fun e w' => e = .returned (.iface 95 (.agg x.cells.toArray)) ∧
      ∃ v' l', At w' p #[v'] 128 ∧ QAt w' (p + 1) v' l' ∧ HeapOK tlt l' l'.length ∧ l.Perm (x :: l') ∧ Keep (tset p v) w w' ∧ v'.ownBlock = v.ownBlock := by
  obtain ⟨h0, hx0⟩ := List.getElem?_eq_some_iff.1 hx
  obtain ⟨n, hn⟩ : ∃ n, l.length = n + 1 := ⟨l.length - 1, by omega⟩
  obtain ⟨q1, q2, q3, q4⟩ := pop_ok tlt_strict l n hn hh
  rw [hx0] at q2 q4
  obtain ⟨g, cap, rfl, hbg, hgl, hlc, hnc⟩ := own_some h (by omega)
  have hpl := hp.lt
  have c0 : w.cell? ⟨p, 0, none⟩ = some (.slice (some ⟨g, 0, none⟩) l.length cap) := At.cell hp 0
  have ml := meth_len c0
  have ms := meth_swap c0
  have c1 := Lib.hid (fun w => queue_len w (some ⟨g, 0, none⟩) l.length cap)
  have c2 := Lib.hid (queue_swap h 0 n (by omega) (by omega))
  have e1 : (l.length : Int) - 1 = (n : Int) := by omega
  have mpp := meth_pop ⟨p, 0, none⟩
  replace hn := Lib.hid hn
  clear hx hx0 hh
  go_enter Tryz.func74, Tryz.ntmps74
  go_wp2_with fail
  refine (c1.out _).mono ?_
  rintro e w1 ⟨rfl, rfl⟩
  go_wp2_with fail
  refine c2.out.mono ?_
  rintro e w2 ⟨rfl, h2, k2⟩
  have hp2 := Keep.at k2 hp (fun e => by unfold one at e; omega)
  clear c1 c2 ml ms
  have hsw : (swapL l 0 n).length = l.length := swapL_len _ _ _
  have c3 := Lib.hid (heap_down hp2 (by unfold QAt at h2 ⊢; rw [hsw] at h2 ⊢; exact h2) (by omega) 0 n (by rw [hsw]; exact h0) (by rw [hsw, hn.out]; omega))
  have hq3 := Lib.hid q3
  clear q3 hsw
  go_wp2_with fail
  refine c3.out.mono ?_
  rintro e w3 ⟨rfl, h3, k3⟩
  have hp3 := Keep.at k3 hp2 (fun e => by simp [own, Value.ownBlock] at e; omega)
  have c4 := queue_pop hp3 h3 (by rw [hq3.out]; omega)
  have hx4 : (downH tlt (n + 1) (swapL l 0 n) 0 n).1[(downH tlt (n + 1) (swapL l 0 n) 0 n).1.length - 1]'(by rw [hq3.out]; omega) = x := by
    have : (downH tlt (n + 1) (swapL l 0 n) 0 n).1[n]'(by rw [hq3.out]; omega) = x := by
      rw [List.getElem?_eq_getElem (by rw [hq3.out]; omega)] at q4
      exact Option.some.inj q4
    rw [← this]
    congr 1
    rw [hq3.out]; omega
  rw [hx4] at c4
  rw [show (downH tlt (n + 1) (swapL l 0 n) 0 n).1.length - 1 = n by rw [hq3.out]; omega] at c4
  replace c4 := Lib.hid c4
  clear hx4 c3
  generalize downH tlt (n + 1) (swapL l 0 n) 0 n = r at *
  go_wp2_with fail
  refine c4.out.mono ?_
  rintro e w4 ⟨rfl, v4, hp4, h4, k4, ow4⟩
  go_wp2_with fail
  go_ret
  have kk := Keep.comb (S := tset p (.slice (some ⟨g, 0, none⟩) l.length cap)) (Keep.comb (S := tset p (.slice (some ⟨g, 0, none⟩) l.length cap)) (k2.mono (fun z _ e => .inr (by unfold one at e; simp [Value.ownBlock, e]))) k3 (fun z _ e => .inr e)) k4 (fun z _ e => .inl e)
  have hl4 : (r.1.take n).length = n := by rw [List.length_take, hq3.out]; omega
  exact ⟨rfl, v4, r.1.take n, hp4, h4, by rw [hl4]; exact q1, q2, kk, ow4⟩
end Go.Proofs.YtmioichjhiengaaGreat

/-
  container/heap's Remove over the queue of timers.
-/
namespace Go.Proofs.YtmioichjhiengaaGreat
open Go.RowKit

set_option maxRecDepth 100000 in
theorem heap_rem_last {w : World} {p : Nat} {v : Value} {l : List Timer} (hp : At w p #[v] 128) (h : QAt w (p + 1) v l) (hlen : l.length ≤ 100000) (hh : HeapOK tlt l l.length) (n : Nat) (hn : l.length = n + 1) (x : Timer) (hx : l[n]? = some x) :
    Calls Tryz.prog 122 #[.iface 131 (.pointer (some ⟨p, 0, none⟩)), .int .i64 n] w fun e w' => e = .returned (.iface 95 (.agg x.cells.toArray)) ∧
      ∃ v' l', At w' p #[v'] 128 ∧ QAt w' (p + 1) v' l' ∧ HeapOK tlt l' l'.length ∧ l.Perm (x :: l') ∧ Keep (tset p v) w w' ∧ v'.ownBlock = v.ownBlock := by
  have hperm := perm_last (List.Perm.refl l) hn hx
  obtain ⟨g, cap, rfl, hbg, hgl, hlc, hnc⟩ := own_some h (by omega)
  have hpl := hp.lt
  have c0 : w.cell? ⟨p, 0, none⟩ = some (.slice (some ⟨g, 0, none⟩) l.length cap) := At.cell hp 0
  have ml := meth_len c0
  have c1 := Lib.hid (fun w => queue_len w (some ⟨g, 0, none⟩) l.length cap)
  have e1 : (l.length : Int) - 1 = (n : Int) := by omega
  have mpp := meth_pop ⟨p, 0, none⟩
  have c4 := queue_pop hp h (by omega)
  have hx4 : l[l.length - 1]'(by omega) = x := by
    have h2 : l[n]'(by omega) = x := by
      rw [List.getElem?_eq_getElem (by omega)] at hx
      exact Option.some.inj hx
    rw [← h2]
    congr 1
    omega
  rw [hx4, show l.length - 1 = n by omega] at c4
  replace c4 := Lib.hid c4
  have hh2 := hh.less (m := n) (by omega) (Nat.le_refl _)
  clear hx hx4 hh
  replace hn := Lib.hid hn
  go_enter Tryz.func122, Tryz.ntmps122
  go_wp2_with fail
  refine (c1.out _).mono ?_
  rintro e w1 ⟨rfl, rfl⟩
  go_wp2_with fail
  refine c4.out.mono ?_
  rintro e w4 ⟨rfl, v4, hp4, h4, k4, ow4⟩
  go_wp2_with fail
  go_ret
  have hl4 : (l.take n).length = n := by rw [List.length_take, hn.out]; omega
  exact ⟨rfl, v4, l.take n, hp4, h4, by rw [hl4]; exact hh2.take, hperm, k4.mono (fun z _ e => .inl e), ow4⟩

set_option maxHeartbeats 4000000 in
set_option maxRecDepth 100000 in
theorem heap_rem {w : World} {p : Nat} {v : Value} {l : List Timer} (hp : At w p #[v] 128) (h : QAt w (p + 1) v l) (hlen : l.length ≤ 100000) (hh : HeapOK tlt l l.length) (i n : Nat) (hn : l.length = n + 1) (hi : i < n) (x : Timer) (hx : l[i]? = some x) :
    Calls Tryz.prog 122 #[.iface 131 (.pointer (some ⟨p, 0, none⟩)), .int .i64 i] w fun e w' => e = .returned (.iface 95 (.agg x.cells.toArray)) ∧
      ∃ v' l', At w' p #[v'] 128 ∧ QAt w' (p + 1) v' l' ∧ HeapOK tlt l' l'.length ∧ l.Perm (x :: l') ∧ Keep (tset p v) w w' ∧ v'.ownBlock = v.ownBlock := by
  obtain ⟨h0, hx0⟩ := List.getElem?_eq_some_iff.1 hx
  obtain ⟨q1, q2, q3, q4⟩ := rem_ok tlt_strict l i n hn hi hh
  rw [hx0] at q2 q4
  obtain ⟨g, cap, rfl, hbg, hgl, hlc, hnc⟩ := own_some h (by omega)
  have hpl := hp.lt
  have c0 : w.cell? ⟨p, 0, none⟩ = some (.slice (some ⟨g, 0, none⟩) l.length cap) := At.cell hp 0
  have ml := meth_len c0
  have ms := meth_swap c0
  have c1 := Lib.hid (fun w => queue_len w (some ⟨g, 0, none⟩) l.length cap)
  have c2 := Lib.hid (queue_swap h i n h0 (by omega))
  have e1 : (l.length : Int) - 1 = (n : Int) := by omega
  have e2 : ((n : Int) != (i : Int)) = true := by simp; omega
  have mpp := meth_pop ⟨p, 0, none⟩
  have hlr : (remL tlt l i n).length = l.length := by rw [q3, hn]
  clear hx hx0 hh
  have hi1000 : n ≤ 100000 := by omega
  replace hn := Lib.hid hn
  have fin : ∀ w3 (hp3 : At w3 p #[.slice (some ⟨g, 0, none⟩) l.length cap] 128) (h3 : QAt w3 (p + 1) (.slice (some ⟨g, 0, none⟩) l.length cap) (remL tlt l i n)) (k3 : Keep (tset p (.slice (some ⟨g, 0, none⟩) l.length cap)) w w3),
      Calls Tryz.prog 186 #[.pointer (some ⟨p, 0, none⟩)] w3 fun e w' => e = .returned (.iface 95 (.agg x.cells.toArray)) ∧
      ∃ v' l', At w' p #[v'] 128 ∧ QAt w' (p + 1) v' l' ∧ HeapOK tlt l' l'.length ∧ l.Perm (x :: l') ∧ Keep (tset p (.slice (some ⟨g, 0, none⟩) l.length cap)) w w' ∧ v'.ownBlock = (Value.slice (some ⟨g, 0, none⟩) l.length cap).ownBlock := fun w3 hp3 h3 k3 => by
    have c4 := queue_pop hp3 h3 (by rw [hlr]; omega)
    have hx4 : (remL tlt l i n)[(remL tlt l i n).length - 1]'(by rw [hlr]; omega) = x := by
      have : (remL tlt l i n)[n]'(by rw [hlr, hn.out]; omega) = x := by
        rw [List.getElem?_eq_getElem (by rw [hlr, hn.out]; omega)] at q4
        exact Option.some.inj q4
      rw [← this]
      congr 1
      rw [hlr, hn.out]; omega
    rw [hx4, show (remL tlt l i n).length - 1 = n by rw [hlr, hn.out]; omega] at c4
    refine c4.mono ?_
    rintro e w4 ⟨rfl, v4, hp4, h4, k4, ow4⟩
    have hl4 : ((remL tlt l i n).take n).length = n := by rw [List.length_take, hlr, hn.out]; omega
    exact ⟨rfl, v4, (remL tlt l i n).take n, hp4, h4, by rw [hl4]; exact q1, q2, Keep.comb k3 k4 (fun z _ e => .inl e), ow4⟩
  clear q1 q2 q3 q4
  go_enter Tryz.func122, Tryz.ntmps122
  go_wp2_with fail
  refine (c1.out _).mono ?_
  rintro e w1 ⟨rfl, rfl⟩
  go_wp2_with fail
  refine c2.out.mono ?_
  rintro e w2 ⟨rfl, h2, k2⟩
  have hp2 := Keep.at k2 hp (fun e => by unfold one at e; omega)
  clear c1 c2 ml ms
  have hsw : (swapL l i n).length = l.length := swapL_len _ _ _
  have c3 := Lib.hid (heap_down hp2 (by unfold QAt at h2 ⊢; rw [hsw] at h2 ⊢; exact h2) (by omega) i n (by rw [hsw]; exact h0) (by rw [hsw, hn.out]; omega))
  clear hsw
  have k2' := k2.mono (S' := tset p (.slice (some ⟨g, 0, none⟩) l.length cap)) (fun z _ e => .inr (by unfold one at e; simp [Value.ownBlock, e]))
  clear k2
  go_wp2_with fail
  refine c3.out.mono ?_
  rintro e w3 ⟨rfl, h3, k3⟩
  have hp3 := Keep.at k3 hp2 (fun e => by simp [own, Value.ownBlock] at e; omega)
  have k3' := Keep.comb k2' k3 (fun z _ e => .inr e)
  clear c3 k3 k2'
  replace hlr := Lib.hid hlr
  by_cases hm : i < (downH tlt (n + 1) (swapL l i n) i n).2
  · have hd : decide (i < (downH tlt (n + 1) (swapL l i n) i n).2) = true := by simp; exact hm
    have hr : remL tlt l i n = (downH tlt (n + 1) (swapL l i n) i n).1 := by unfold remL; rw [if_pos hm]
    rw [← hr] at h3
    rw [hd]
    clear hm hr hd
    replace c4 := Lib.hid (fin w3 hp3 h3 k3')
    clear fin
    go_wp2_with fail
    refine c4.out.mono ?_
    rintro e w4 ⟨rfl, rest⟩
    go_wp2_with fail
    go_ret
    exact ⟨rfl, rest⟩
  · have hd : decide (i < (downH tlt (n + 1) (swapL l i n) i n).2) = false := by simp; omega
    have hr : remL tlt l i n = upL tlt (i + 1) (downH tlt (n + 1) (swapL l i n) i n).1 i := by unfold remL; rw [if_neg hm]
    have hlen3 : (downH tlt (n + 1) (swapL l i n) i n).1.length = l.length := by
      have := own_len (k := 3) (enc := Timer.cells) timer_len3 (by decide) h3
      have hq := h3.1
      rcases h3.2 with ⟨h9, -⟩ | ⟨g', cap', cur, he, -⟩
      · cases h9
      · injection he with _ h9 _
        exact h9.symm
    have c5 := heap_up hp3 h3 (by rw [hlen3]; exact hlen) i (by rw [hlen3]; exact h0)
    rw [← hr] at c5
    rw [hd]
    clear hm hr hd hlen3 h3
    replace c5 := Lib.hid c5
    go_wp2_with fail
    refine c5.out.mono ?_
    rintro e w4 ⟨rfl, h4, k4⟩
    have hp4 := Keep.at k4 hp3 (fun e => by simp [own, Value.ownBlock] at e; omega)
    replace c4 := Lib.hid (fin w4 hp4 h4 (Keep.comb k3' k4 (fun z _ e => .inr e)))
    clear fin c5
    go_wp2_with fail
    refine c4.out.mono ?_
    rintro e w5 ⟨rfl, rest⟩
    go_wp2_with fail
    go_ret
    exact ⟨rfl, rest⟩
end Go.Proofs.YtmioichjhiengaaGreat
