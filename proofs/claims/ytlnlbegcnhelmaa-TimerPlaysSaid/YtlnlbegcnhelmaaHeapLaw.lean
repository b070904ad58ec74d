/-
  A binary heap in a list: what container/heap's up and down do to it (plain, no program).
-/
import Derived.Lib.Hide
namespace Go.Proofs.Ytlnlbegcnhelmaa

section
variable {α : Type} (lt : α → α → Bool)

def swapL (l : List α) (i j : Nat) : List α :=
  match l[i]?, l[j]? with
  | some x, some y => (l.set i y).set j x
  | _, _ => l
theorem swapL_len (l : List α) (i j : Nat) : (swapL l i j).length = l.length := by
  unfold swapL; split <;> simp
theorem swapL_get (l : List α) (i j k : Nat) (hi : i < l.length) (hj : j < l.length) (hk : k < l.length) :
    (swapL l i j)[k]'(by rw [swapL_len]; exact hk) = if k = j then l[i] else if k = i then l[j] else l[k] := by
  unfold swapL
  simp only [List.getElem?_eq_getElem hi, List.getElem?_eq_getElem hj]
  by_cases h1 : k = j
  · subst h1; simp
  · rw [List.getElem_set_ne (by omega), if_neg h1]
    by_cases h2 : k = i
    · subst h2; simp
    · rw [List.getElem_set_ne (by omega), if_neg h2]
theorem swapL_perm (l : List α) (i j : Nat) (hi : i < l.length) (hj : j < l.length) : (swapL l i j).Perm l := by
  have h := Array.swap_perm (xs := l.toArray) (i := i) (j := j) (by simpa using hi) (by simpa using hj)
  have e : (l.toArray.swap i j (by simpa using hi) (by simpa using hj)).toList = swapL l i j := by
    unfold swapL
    simp only [List.getElem?_eq_getElem hi, List.getElem?_eq_getElem hj]
    simp [Array.swap]
  have := Array.perm_iff_toList_perm.1 h
  rw [e] at this
  simpa using this

/-- up: an element rises while it is ahead of the one above it. -/
def upL : Nat → List α → Nat → List α
  | 0, l, _ => l
  | k + 1, l, j =>
    match l[j]?, l[(j - 1) / 2]? with
    | some x, some y => if (j - 1) / 2 = j ∨ lt x y = false then l else upL k (swapL l ((j - 1) / 2) j) ((j - 1) / 2)
    | _, _ => l
/-- The lesser one of the two below i, of the first n; none: there is none. -/
def lessOf (l : List α) (i n : Nat) : Nat :=
  match l[2 * i + 1 + 1]?, l[2 * i + 1]? with
  | some x, some y => if 2 * i + 1 + 1 < n ∧ lt x y = true then 2 * i + 1 + 1 else 2 * i + 1
  | _, _ => 2 * i + 1
/-- down: an element sinks below the lesser one below it while that is ahead of it; and where it came to. -/
def downH : Nat → List α → Nat → Nat → List α × Nat
  | 0, l, i, _ => (l, i)
  | k + 1, l, i, n =>
    if n ≤ 2 * i + 1 then (l, i) else
      match l[lessOf lt l i n]?, l[i]? with
      | some x, some y => if lt x y = false then (l, i) else downH k (swapL l i (lessOf lt l i n)) (lessOf lt l i n) n
      | _, _ => (l, i)

/-- lt is a strict order in which any two can be compared. -/
structure Strict : Prop where
  irr : ∀ a, lt a a = false
  tra : ∀ a b c, lt a b = true → lt b c = true → lt a c = true
  tot : ∀ a b, lt a b = false → lt b a = false → a = b
variable {lt}
theorem Strict.asy (S : Strict lt) {a b : α} (h : lt a b = true) : lt b a = false := by
  cases e : lt b a
  · rfl
  · have := S.tra _ _ _ h e; rw [S.irr] at this; cases this
/-- Not ahead, and not ahead: not ahead. -/
theorem Strict.le_trans (S : Strict lt) {a b c : α} (h1 : lt b a = false) (h2 : lt c b = false) : lt c a = false := by
  cases e : lt c a
  · rfl
  · cases e2 : lt a b
    · have := S.tot _ _ h1 e2; subst this; rw [h2] at e; cases e
    · have := S.tra _ _ _ e e2; rw [h2] at this; cases this
theorem Strict.lt_le (S : Strict lt) {a b c : α} (h1 : lt a b = true) (h2 : lt c b = false) : lt c a = false := S.le_trans (S.asy h1) h2

def par (j : Nat) : Nat := (j - 1) / 2
/-- Of the first n, none but j is ahead of the one above it. -/
def HeapBut (lt : α → α → Bool) (l : List α) (n : Nat) (j : Nat) : Prop :=
  ∀ k (h0 : 0 < k) (h : k < n) (hn : n ≤ l.length), k ≠ j → lt (l[k]'(by omega)) (l[par k]'(by unfold par; omega)) = false
def HeapOK (lt : α → α → Bool) (l : List α) (n : Nat) : Prop :=
  ∀ k (h0 : 0 < k) (h : k < n) (hn : n ≤ l.length), lt (l[k]'(by omega)) (l[par k]'(by unfold par; omega)) = false
/-- What is below j is not ahead of what is above j. -/
def Over (lt : α → α → Bool) (l : List α) (n : Nat) (j : Nat) : Prop :=
  ∀ k (h0 : 0 < j) (h : k < n) (hn : n ≤ l.length) (hj : j < n), par k = j → 0 < k → lt (l[k]'(by omega)) (l[par j]'(by unfold par; omega)) = false
theorem par_lt {k : Nat} (h : 0 < k) : par k < k := by unfold par; omega
theorem HeapOK.less {l : List α} {n m : Nat} (h : HeapOK lt l n) (hm : m ≤ n) (hn : n ≤ l.length) : HeapOK lt l m := fun k h0 hk _ => h k h0 (by omega) hn

theorem upL_ok (S : Strict lt) (n : Nat) : ∀ (f : Nat) (l : List α) (j : Nat), n ≤ l.length → j < f → j < n → HeapBut lt l n j → Over lt l n j → HeapOK lt (upL lt f l j) n ∧ (upL lt f l j).Perm l ∧ (upL lt f l j).length = l.length ∧ (∀ k, n ≤ k → (upL lt f l j)[k]? = l[k]?) := by
  intro f
  induction f with
  | zero => intro l j _ h; omega
  | succ f ih =>
    intro l j hn hf hj hb ho
    have hp : (j - 1) / 2 < l.length := by omega
    have hjl : j < l.length := by omega
    rw [upL, List.getElem?_eq_getElem hjl, List.getElem?_eq_getElem hp]
    simp only
    by_cases hc : (j - 1) / 2 = j ∨ lt l[j] l[(j - 1) / 2] = false
    · rw [if_pos hc]
      refine ⟨fun k h0 h hn2 => ?_, List.Perm.refl _, rfl, fun _ _ => rfl⟩
      by_cases hk : k = j
      · subst hk
        rcases hc with hc | hc
        · omega
        · exact hc
      · exact hb k h0 h hn2 hk
    · rw [if_neg hc]
      have h1 : (j - 1) / 2 ≠ j := fun e => hc (.inl e)
      have hlt : lt l[j] l[(j - 1) / 2] = true := by
        cases e : lt l[j] l[(j - 1) / 2]
        · exact absurd (.inr e) hc
        · rfl
      have hj0 : 0 < j := by omega
      have hpj : (j - 1) / 2 = par j := rfl
      have hl2 : (swapL l ((j - 1) / 2) j).length = l.length := swapL_len _ _ _
      have hget := fun k (hk : k < l.length) => swapL_get l ((j - 1) / 2) j k hp hjl hk
      have hbnew : HeapBut lt (swapL l ((j - 1) / 2) j) n ((j - 1) / 2) := by
        intro k h0 h hn2 hk
        have hpk : par k < l.length := by have := par_lt h0; omega
        rw [hget k (by omega), hget (par k) hpk]
        by_cases e1 : k = j
        · subst e1
          rw [if_pos rfl]
          rw [if_neg (show par k ≠ k by have := par_lt h0; omega), if_pos hpj.symm]
          exact S.asy hlt
        · rw [if_neg e1, if_neg hk]
          by_cases e2 : par k = j
          · rw [if_pos e2]
            have := ho k hj0 (by omega) (by omega) hj e2 h0
            exact this
          · rw [if_neg e2]
            by_cases e3 : par k = (j - 1) / 2
            · rw [if_pos e3]
              have := hb k h0 (by omega) (by omega) e1
              have e4 : l[par k]'hpk = l[(j - 1) / 2] := by congr 1
              rw [e4] at this
              exact S.lt_le hlt this
            · rw [if_neg e3]
              exact hb k h0 (by omega) (by omega) e1
      have honew : Over lt (swapL l ((j - 1) / 2) j) n ((j - 1) / 2) := by
        intro k h0 h hn2 hj2 hk hk0
        have hpp : par ((j - 1) / 2) < l.length := by have := par_lt h0; omega
        have hppn : par ((j - 1) / 2) ≠ j := by have := par_lt h0; omega
        have hppn2 : par ((j - 1) / 2) ≠ (j - 1) / 2 := by have := par_lt h0; omega
        rw [hget k (by omega), hget _ hpp, if_neg hppn, if_neg hppn2]
        have hpok : lt l[(j - 1) / 2] (l[par ((j - 1) / 2)]'hpp) = false := hb _ h0 (by omega) (by omega) h1
        by_cases e1 : k = j
        · subst e1
          rw [if_pos rfl]; exact hpok
        · have e2 : k ≠ (j - 1) / 2 := by rw [← hk]; have := par_lt hk0; omega
          rw [if_neg e1, if_neg e2]
          have h5 := hb k hk0 (by omega) (by omega) e1
          have e4 : l[par k]'(by have := par_lt hk0; omega) = l[(j - 1) / 2] := by congr 1
          rw [e4] at h5
          exact S.le_trans hpok h5
      obtain ⟨r1, r2, r3, r4⟩ := ih (swapL l ((j - 1) / 2) j) ((j - 1) / 2) (by rw [hl2]; exact hn) (by omega) (by omega) hbnew honew
      refine ⟨r1, r2.trans (swapL_perm l _ _ hp hjl), by rw [r3, hl2], fun k hk => ?_⟩
      rw [r4 k hk]
      by_cases hkl : k < l.length
      · rw [List.getElem?_eq_getElem (by rw [hl2]; exact hkl), List.getElem?_eq_getElem hkl, hget k hkl, if_neg (by omega), if_neg (by omega)]
      · rw [List.getElem?_eq_none (by rw [hl2]; omega), List.getElem?_eq_none (by omega)]

theorem lessOf_at (S : Strict lt) (l : List α) (i n : Nat) (hn : n ≤ l.length) (h : 2 * i + 1 < n) :
    ∃ hj : lessOf lt l i n < n, par (lessOf lt l i n) = i ∧ 0 < lessOf lt l i n ∧ i < lessOf lt l i n ∧ ∀ k (hk : k < n), 0 < k → par k = i → lt (l[k]'(by omega)) (l[lessOf lt l i n]'(by omega)) = false := by
  unfold lessOf
  have h1 : 2 * i + 1 < l.length := by omega
  have two : ∀ k, 0 < k → par k = i → k = 2 * i + 1 ∨ k = 2 * i + 1 + 1 := fun k h0 hk => by unfold par at hk; omega
  by_cases h2 : 2 * i + 1 + 1 < l.length
  · simp only [List.getElem?_eq_getElem h1, List.getElem?_eq_getElem h2]
    by_cases hc : 2 * i + 1 + 1 < n ∧ lt l[2 * i + 1 + 1] l[2 * i + 1] = true
    · simp only [if_pos hc]
      refine ⟨hc.1, by unfold par; omega, by omega, by omega, fun k hk h0 hp => ?_⟩
      rcases two k h0 hp with rfl | rfl
      · exact S.asy hc.2
      · exact S.irr _
    · simp only [if_neg hc]
      refine ⟨h, by unfold par; omega, by omega, by omega, fun k hk h0 hp => ?_⟩
      rcases two k h0 hp with rfl | rfl
      · exact S.irr _
      · cases e : lt l[2 * i + 1 + 1] l[2 * i + 1]
        · rfl
        · exact absurd ⟨hk, e⟩ hc
  · simp only [List.getElem?_eq_getElem h1, List.getElem?_eq_none (Nat.le_of_not_lt h2)]
    refine ⟨h, by unfold par; omega, by omega, by omega, fun k hk h0 hp => ?_⟩
    rcases two k h0 hp with rfl | rfl
    · exact S.irr _
    · omega

theorem lessOf_ex (S : Strict lt) (l : List α) (i n : Nat) (hn : n ≤ l.length) (h : 2 * i + 1 < n) :
    ∃ j, j = lessOf lt l i n ∧ ∃ hj : j < n, par j = i ∧ 0 < j ∧ i < j ∧ ∀ k (hk : k < n), 0 < k → par k = i → lt (l[k]'(by omega)) (l[j]'(by omega)) = false :=
  ⟨_, rfl, lessOf_at S l i n hn h⟩
/-- Of the first n, none is ahead of the one above it but, it may be, those below i. -/
def DownPre (lt : α → α → Bool) (l : List α) (n i : Nat) : Prop :=
  ∀ k (h0 : 0 < k) (h : k < n) (hn : n ≤ l.length), par k ≠ i → lt (l[k]'(by omega)) (l[par k]'(by have := par_lt h0; omega)) = false

theorem downH_ok (S : Strict lt) (n : Nat) : ∀ (f : Nat) (l : List α) (i : Nat), n ≤ l.length → n < f + i → i < n → DownPre lt l n i → Over lt l n i →
    HeapOK lt (downH lt f l i n).1 n ∧ (downH lt f l i n).1.Perm l ∧ (downH lt f l i n).1.length = l.length ∧ (∀ k, n ≤ k → (downH lt f l i n).1[k]? = l[k]?) ∧ i ≤ (downH lt f l i n).2 ∧ ((downH lt f l i n).2 = i → (downH lt f l i n).1 = l) := by
  intro f
  induction f with
  | zero => intro l i hn hf hi; omega
  | succ f ih =>
    intro l i hn hf hi hd ho
    rw [downH]
    by_cases h2 : n ≤ 2 * i + 1
    · rw [if_pos h2]
      refine ⟨fun k h0 h hn2 => hd k h0 h hn2 (by unfold par; omega), List.Perm.refl _, rfl, fun _ _ => rfl, Nat.le_refl _, fun _ => rfl⟩
    · rw [if_neg h2]
      obtain ⟨j, hje, hj, hpj, hj0, hij, hless⟩ := lessOf_ex S l i n hn (by omega)
      rw [← hje]
      clear hje
      have hjl : j < l.length := by omega
      have hil : i < l.length := by omega
      simp only [List.getElem?_eq_getElem hjl, List.getElem?_eq_getElem hil]
      by_cases hc : lt l[j] l[i] = false
      · rw [if_pos hc]
        refine ⟨fun k h0 h hn2 => ?_, List.Perm.refl _, rfl, fun _ _ => rfl, Nat.le_refl _, fun _ => rfl⟩
        by_cases hk : par k = i
        · have h5 := hless k h h0 hk
          have e4 : l[par k]'(by have := par_lt h0; omega) = l[i] := by congr 1
          rw [e4]
          exact S.le_trans hc h5
        · exact hd k h0 h hn2 hk
      · rw [if_neg hc]
        have hlt : lt l[j] l[i] = true := by simpa using hc
        have hl2 : (swapL l i j).length = l.length := swapL_len _ _ _
        have hget := fun k (hk : k < l.length) => swapL_get l i j k hil hjl hk
        have hd2 : DownPre lt (swapL l i j) n j := by
          intro k h0 h hn2 hk
          have hpk := par_lt h0
          rw [hget k (by omega), hget (par k) (by omega), if_neg hk]
          by_cases e1 : k = j
          · subst e1
            rw [if_pos rfl, if_pos hpj]
            exact S.asy hlt
          · rw [if_neg e1]
            by_cases e2 : k = i
            · subst e2
              rw [if_pos rfl, if_neg (by omega)]
              exact ho j (by omega) hj hn hi hpj hj0
            · rw [if_neg e2]
              by_cases e3 : par k = i
              · rw [if_pos e3]
                exact hless k h h0 e3
              · rw [if_neg e3]
                exact hd k h0 h hn e3
        have ho2 : Over lt (swapL l i j) n j := by
          intro k h0 h hn2 hj2 hk hk0
          have hpk := par_lt hk0
          have e1 : k ≠ j := by omega
          have e2 : k ≠ i := by omega
          rw [hget k (by omega), hget (par j) (by have := par_lt hj0; omega), if_neg e1, if_neg e2, if_neg (by have := par_lt hj0; omega), if_pos hpj]
          have h5 := hd k hk0 h hn (by omega)
          have e4 : l[par k]'(by omega) = l[j] := by congr 1
          rw [e4] at h5
          exact h5
        obtain ⟨r1, r2, r3, r4, r5, r6⟩ := ih (swapL l i j) j (by rw [hl2]; exact hn) (by omega) hj hd2 ho2
        refine ⟨r1, r2.trans (swapL_perm l _ _ hil hjl), by rw [r3, hl2], fun k hk => ?_, by omega, fun e => by omega⟩
        rw [r4 k hk]
        by_cases hkl : k < l.length
        · rw [List.getElem?_eq_getElem (by rw [hl2]; exact hkl), List.getElem?_eq_getElem hkl, hget k hkl, if_neg (by omega), if_neg (by omega)]
        · rw [List.getElem?_eq_none (by rw [hl2]; omega), List.getElem?_eq_none (by omega)]

/-- The first of a heap is the least. -/
theorem heap_min (S : Strict lt) (l : List α) (n : Nat) (hn : n ≤ l.length) (h0 : 0 < n) (h : HeapOK lt l n) : ∀ k (hk : k < n), lt (l[k]'(by omega)) (l[0]'(by omega)) = false := by
  intro k
  induction k using Nat.strongRecOn with
  | _ k ih =>
    intro hk
    by_cases hk0 : k = 0
    · subst hk0; exact S.irr _
    · have h1 := par_lt (show 0 < k by omega)
      exact S.le_trans (ih (par k) h1 (by omega)) (h k (by omega) hk hn)
end
end Go.Proofs.Ytlnlbegcnhelmaa
