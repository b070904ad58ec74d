/-
  What container/heap's Push, Pop and Remove do to a heap in a list (plain, no program).
-/
import Derived.Test.YtlnlbegcnhelmaaHeapLaw
namespace Go.Proofs.Ytlnlbegcnhelmaa

section
variable {α : Type} {lt : α → α → Bool}
theorem get_same {l m : List α} {n k : Nat} (h : ∀ k, n ≤ k → m[k]? = l[k]?) (hk : n ≤ k) {x : α} (hx : l[k]? = some x) : m[k]? = some x := by rw [h k hk, hx]
theorem HeapOK.take {l : List α} {n : Nat} (h : HeapOK lt l n) : HeapOK lt (l.take n) n := by
  intro k h0 hk hn
  rw [List.length_take] at hn
  have hnl : n ≤ l.length := by omega
  have h1 := h k h0 hk hnl
  rw [List.getElem_take, List.getElem_take]
  exact h1
theorem perm_last {l m : List α} {n : Nat} {x : α} (hp : m.Perm l) (hl : m.length = n + 1) (hx : m[n]? = some x) : l.Perm (x :: m.take n) := by
  have hn : n < m.length := by omega
  have e1 : m[n] = x := by
    rw [List.getElem?_eq_getElem hn] at hx
    exact Option.some.inj hx
  have e : m = m.take n ++ [x] := by
    have := (List.take_append_getElem (l := m) (i := n) hn)
    rw [e1, List.take_of_length_le (i := n + 1) (by omega)] at this
    exact this.symm
  refine hp.symm.trans ?_
  rw [e]
  have : (m.take n ++ [x]).take n = m.take n := by
    rw [← e]
  rw [this]
  exact List.perm_append_comm

theorem push_ok (S : Strict lt) (l : List α) (x : α) (h : HeapOK lt l l.length) :
    HeapOK lt (upL lt (l.length + 1) (l ++ [x]) l.length) (l.length + 1) ∧ (upL lt (l.length + 1) (l ++ [x]) l.length).Perm (l ++ [x]) ∧ (upL lt (l.length + 1) (l ++ [x]) l.length).length = l.length + 1 := by
  have hl : (l ++ [x]).length = l.length + 1 := by simp
  obtain ⟨r1, r2, r3, -⟩ := upL_ok S (l.length + 1) (l.length + 1) (l ++ [x]) l.length (by omega) (by omega) (by omega)
    (fun k h0 hk hn hne => by
      have hpk := par_lt h0
      rw [List.getElem_append_left (by omega), List.getElem_append_left (by omega)]
      exact h k h0 (by omega) (Nat.le_refl _))
    (fun k h0 hk hn hj hp h00 => by have := par_lt h00; omega)
  exact ⟨r1, r2, by rw [r3, hl]⟩

theorem swap_last {l : List α} {n i : Nat} (hl : l.length = n + 1) (hi : i ≤ n) : (swapL l i n)[n]? = some (l[i]'(by omega)) := by
  rw [List.getElem?_eq_getElem (by rw [swapL_len]; omega), swapL_get l i n n (by omega) (by omega) (by omega), if_pos rfl]

/-- Pop: the first one and the last one swapped, the first one sinks. -/
theorem pop_ok (S : Strict lt) (l : List α) (n : Nat) (hl : l.length = n + 1) (h : HeapOK lt l l.length) :
    HeapOK lt ((downH lt (n + 1) (swapL l 0 n) 0 n).1.take n) n ∧ l.Perm (l[0]'(by omega) :: (downH lt (n + 1) (swapL l 0 n) 0 n).1.take n) ∧
    (downH lt (n + 1) (swapL l 0 n) 0 n).1.length = n + 1 ∧ (downH lt (n + 1) (swapL l 0 n) 0 n).1[n]? = some (l[0]'(by omega)) := by
  have hl2 : (swapL l 0 n).length = n + 1 := by rw [swapL_len, hl]
  have hlast := swap_last hl (Nat.zero_le n)
  by_cases h0 : n = 0
  · subst h0
    have e : downH lt (0 + 1) (swapL l 0 0) 0 0 = (swapL l 0 0, 0) := by rw [downH]; rw [if_pos (by omega)]
    rw [e]
    exact ⟨fun k h0 hk => by omega, perm_last (swapL_perm l 0 0 (by omega) (by omega)) hl2 hlast, hl2, hlast⟩
  · have hget := fun k (hk : k < l.length) => swapL_get l 0 n k (by omega) (by omega) hk
    obtain ⟨r1, r2, r3, r4, -, -⟩ := downH_ok S n (n + 1) (swapL l 0 n) 0 (by omega) (by omega) (by omega)
      (fun k h0 hk hn hne => by
        have hpk := par_lt h0
        rw [hget k (by omega), hget (par k) (by omega), if_neg (by omega), if_neg (by omega), if_neg (by omega), if_neg hne]
        exact h k h0 (by omega) (Nat.le_refl _))
      (fun k h0 => by omega)
    have hx : (downH lt (n + 1) (swapL l 0 n) 0 n).1[n]? = some (l[0]'(by omega)) := by rw [r4 n (Nat.le_refl n)]; exact hlast
    refine ⟨r1.take, perm_last (r2.trans (swapL_perm l 0 n (by omega) (by omega))) (by rw [r3, hl2]) hx, by rw [r3, hl2], hx⟩

/-- Remove, of one that is not the last. -/
def remL (lt : α → α → Bool) (l : List α) (i n : Nat) : List α :=
  if i < (downH lt (n + 1) (swapL l i n) i n).2 then (downH lt (n + 1) (swapL l i n) i n).1 else upL lt (i + 1) (downH lt (n + 1) (swapL l i n) i n).1 i
theorem rem_ok (S : Strict lt) (l : List α) (i n : Nat) (hl : l.length = n + 1) (hi : i < n) (h : HeapOK lt l l.length) :
    HeapOK lt ((remL lt l i n).take n) n ∧ l.Perm (l[i]'(by omega) :: (remL lt l i n).take n) ∧ (remL lt l i n).length = n + 1 ∧ (remL lt l i n)[n]? = some (l[i]'(by omega)) := by
  have hl2 : (swapL l i n).length = n + 1 := by rw [swapL_len, hl]
  have hlast := swap_last hl (show i ≤ n by omega)
  have hperm := swapL_perm l i n (by omega) (by omega)
  have hget := fun k (hk : k < l.length) => swapL_get l i n k (by omega) (by omega) hk
  have hover : Over lt (swapL l i n) n i := by
    intro k h0 hk hn hj hp h00
    have hpk := par_lt h00
    have hpi := par_lt h0
    rw [hget k (by omega), hget (par i) (by omega), if_neg (by omega), if_neg (by omega), if_neg (by omega), if_neg (by omega)]
    have a1 := h k h00 (by omega) (Nat.le_refl _)
    have a2 := h i h0 (by omega) (Nat.le_refl _)
    have e4 : l[par k]'(by omega) = l[i]'(by omega) := by congr 1
    rw [e4] at a1
    exact S.le_trans a2 a1
  have done : ∀ m : List α, HeapOK lt m n → m.Perm (swapL l i n) → m.length = (swapL l i n).length → (∀ k, n ≤ k → m[k]? = (swapL l i n)[k]?) →
      HeapOK lt (m.take n) n ∧ l.Perm (l[i]'(by omega) :: m.take n) ∧ m.length = n + 1 ∧ m[n]? = some (l[i]'(by omega)) := fun m r1 r2 r3 r4 => by
    have hx : m[n]? = some (l[i]'(by omega)) := by rw [r4 n (Nat.le_refl n)]; exact hlast
    exact ⟨r1.take, perm_last (r2.trans hperm) (by rw [r3, hl2]) hx, by rw [r3, hl2], hx⟩
  have rest : ∀ k (h0 : 0 < k) (hk : k < n), k ≠ i → par k ≠ i → lt ((swapL l i n)[k]'(by omega)) ((swapL l i n)[par k]'(by have := par_lt h0; omega)) = false := fun k h0 hk h1 h2 => by
    have hpk := par_lt h0
    rw [hget k (by omega), hget (par k) (by omega), if_neg (by omega), if_neg h1, if_neg (by omega), if_neg h2]
    exact h k h0 (by omega) (Nat.le_refl _)
  by_cases hcase : i = 0 ∨ lt (l[n]'(by omega)) (l[par i]'(by unfold par; omega)) = false
  · have hpre : DownPre lt (swapL l i n) n i := by
      intro k h0 hk hn hne
      by_cases hki : k = i
      · subst hki
        have hpk := par_lt h0
        rw [hget k (by omega), hget (par k) (by omega), if_neg (by omega), if_pos rfl, if_neg (by omega), if_neg hne]
        rcases hcase with h5 | h5
        · omega
        · exact h5
      · exact rest k h0 hk hki hne
    obtain ⟨r1, r2, r3, r4, r5, r6⟩ := downH_ok S n (n + 1) (swapL l i n) i (by omega) (by omega) hi hpre hover
    unfold remL
    by_cases hm : i < (downH lt (n + 1) (swapL l i n) i n).2
    · rw [if_pos hm]
      exact done _ r1 r2 r3 r4
    · rw [if_neg hm]
      have e := r6 (by omega)
      rw [e] at r1 ⊢
      obtain ⟨u1, u2, u3, u4⟩ := upL_ok S n (i + 1) (swapL l i n) i (by omega) (by omega) hi (fun k h0 hk hn _ => r1 k h0 hk hn) hover
      exact done _ u1 u2 u3 u4
  · have hi0 : 0 < i := by
      rcases Nat.eq_zero_or_pos i with h0 | h0
      · exact absurd (.inl h0) hcase
      · exact h0
    have hlt : lt (l[n]'(by omega)) (l[par i]'(by unfold par; omega)) = true := by
      cases e : lt (l[n]'(by omega)) (l[par i]'(by unfold par; omega))
      · exact absurd (.inr e) hcase
      · rfl
    have hch : ∀ k (h0 : 0 < k) (hk : k < n), par k = i → lt ((swapL l i n)[k]'(by omega)) ((swapL l i n)[i]'(by omega)) = false := fun k h0 hk hp => by
      have hpk := par_lt h0
      have hpi := par_lt hi0
      rw [hget k (by omega), hget i (by omega), if_neg (by omega), if_neg (by omega), if_neg (by omega), if_pos rfl]
      have a1 := h k h0 (by omega) (Nat.le_refl _)
      have a2 := h i hi0 (by omega) (Nat.le_refl _)
      have e4 : l[par k]'(by omega) = l[i]'(by omega) := by congr 1
      rw [e4] at a1
      exact S.lt_le hlt (S.le_trans a2 a1)
    have hd : downH lt (n + 1) (swapL l i n) i n = (swapL l i n, i) := by
      rw [downH]
      by_cases h2 : n ≤ 2 * i + 1
      · rw [if_pos h2]
      · rw [if_neg h2]
        obtain ⟨j, hje, hj, hpj, hj0, hij, -⟩ := lessOf_ex S (swapL l i n) i n (by omega) (by omega)
        rw [← hje]
        simp only [List.getElem?_eq_getElem (show j < (swapL l i n).length by omega), List.getElem?_eq_getElem (show i < (swapL l i n).length by omega)]
        rw [if_pos (hch j hj0 hj hpj)]
    have hbut : HeapBut lt (swapL l i n) n i := fun k h0 hk hn hne => by
      by_cases hp : par k = i
      · have e4 : (swapL l i n)[par k]'(by have := par_lt h0; omega) = (swapL l i n)[i]'(by omega) := by congr 1
        rw [e4]
        exact hch k h0 hk hp
      · exact rest k h0 hk hne hp
    unfold remL
    rw [hd, if_neg (by simp)]
    obtain ⟨u1, u2, u3, u4⟩ := upL_ok S n (i + 1) (swapL l i n) i (by omega) (by omega) hi hbut hover
    exact done _ u1 u2 u3 u4
end
end Go.Proofs.Ytlnlbegcnhelmaa
