/-
  What Of, Freeze, Publish come to at any group and shard.
-/
import Derived.Test.YtlnlbegcnhelmaaOwner
namespace Go.Proofs.Ytlnlbegcnhelmaa
open Go.RowKit

def look (T : List Own) (i : Int) : Own := if 0 ≤ i then T.getD i.toNat Own.zero else Own.zero
theorem look_in (T : List Own) (i : Nat) (hi : i < T.length) : look T i = T[i] := by
  unfold look; rw [if_pos (by omega)]; simp [List.getD_eq_getElem?_getD, hi]
theorem look_out (T : List Own) (i : Int) (hi : i < 0 ∨ (T.length : Int) ≤ i) : look T i = Own.zero := by
  unfold look
  by_cases h : 0 ≤ i
  · rw [if_pos h, List.getD_eq_getElem?_getD, List.getElem?_eq_none (by omega)]; rfl
  · rw [if_neg h]
theorem look_set (T : List Own) (i : Nat) (hi : i < T.length) (y : Own) : look (T.set i y) i = y := by
  rw [look_in _ _ (by rw [List.length_set]; exact hi), List.getElem_set_self]

/-- Each owner is a shard that there is; versions are few. -/
def OInv (s k : Nat) (T : List Own) : Prop := ∀ i (h : i < T.length), 0 ≤ T[i].shard ∧ T[i].shard < s ∧ 0 ≤ T[i].version ∧ T[i].version ≤ k
theorem OInv.more {s k : Nat} {T : List Own} (h : OInv s k T) : OInv s (k + 1) T := fun i hi => by have := h i hi; exact ⟨this.1, this.2.1, this.2.2.1, by omega⟩
theorem OInv.set {s k : Nat} {T : List Own} (h : OInv s k T) (i : Nat) (y : Own) (hy : 0 ≤ y.shard ∧ y.shard < s ∧ 0 ≤ y.version ∧ y.version ≤ k + 1) : OInv s (k + 1) (T.set i y) := fun j hj => by
  rw [List.length_set] at hj
  by_cases e : i = j
  · subst e; rw [List.getElem_set_self]; exact ⟨hy.1, hy.2.1, hy.2.2.1, by omega⟩
  · rw [List.getElem_set_ne e]; exact h.more j hj
theorem OInv.look {s k : Nat} {T : List Own} (h : OInv s k T) (i : Int) : 0 ≤ (look T i).version ∧ (look T i).version ≤ k := by
  by_cases hi : 0 ≤ i ∧ i < T.length
  · obtain ⟨n, rfl⟩ : ∃ n : Nat, i = n := ⟨i.toNat, by omega⟩
    rw [look_in T n (by omega)]
    exact (h n (by omega)).2.2
  · rw [look_out T i (by omega)]
    exact ⟨by simp [Own.zero], by simp [Own.zero]⟩
structure OStep (s k : Nat) (T T' : List Own) (i : Int) : Prop where
  len : T'.length = T.length
  ver : (look T i).version ≤ (look T' i).version
  sh : (look T' i).shard = (look T i).shard ∨ (look T' i).version = (look T i).version + 1
  inv : OInv s (k + 1) T'
theorem OStep.same {s k : Nat} {T : List Own} (h : OInv s k T) (i : Int) : OStep s k T T i := ⟨rfl, Int.le_refl _, .inl rfl, h.more⟩

section
variable {w : World} {p g sh k : Nat} {t : List Own}
theorem owner_of_any (h : TabAt w p g t sh) (i : Int) : Calls Try.prog 31 #[.pointer (some ⟨p, 0, none⟩), .int .i64 i] w fun e w' =>
    e = .returned (.tuple #[.agg (look t i).cells.toArray, .bool (decide (0 ≤ i) && decide (i < t.length))]) ∧ Keep none_ w w' := by
  by_cases hi : 0 ≤ i ∧ i < t.length
  · obtain ⟨n, rfl⟩ : ∃ n : Nat, i = n := ⟨i.toNat, by omega⟩
    rw [look_in t n (by omega), in_yes (by omega)]
    exact owner_of h n (by omega)
  · rw [look_out t i (by omega), in_no (by omega)]
    exact owner_of_no h i (by omega)
def TabStep (p g sh k : Nat) (t : List Own) (i : Int) (w : World) (e : Ending) (w' : World) : Prop :=
  ∃ er t', e = .returned er ∧ Keep (one g) w w' ∧ TabAt w' p g t' sh ∧ OStep sh k t t' i
theorem owner_freeze_any (h : TabAt w p g t sh) (hk : OInv sh k t) (i : Int) : Calls Try.prog 30 #[.pointer (some ⟨p, 0, none⟩), .int .i64 i] w (TabStep p g sh k t i w) := by
  by_cases hi : 0 ≤ i ∧ i < t.length
  · obtain ⟨n, rfl⟩ : ∃ n : Nat, i = n := ⟨i.toNat, by omega⟩
    have hn : n < t.length := by omega
    cases hm : t[n].moving
    · refine (owner_freeze h n hn hm).mono ?_
      rintro e w' ⟨rfl, k1, h1⟩
      have := hk n hn
      refine ⟨_, _, rfl, k1, h1, ⟨by rw [List.length_set], ?_, .inl ?_, hk.set n _ ⟨this.1, this.2.1, this.2.2.1, by show t[n].version ≤ _; omega⟩⟩⟩
      · rw [look_set t n hn, look_in t n hn]; exact Int.le_refl _
      · rw [look_set t n hn, look_in t n hn]
    · refine (owner_freeze_busy h n hn hm).mono ?_
      rintro e w' ⟨rfl, rfl⟩
      exact ⟨_, _, rfl, Keep.refl _ _, h, OStep.same hk _⟩
  · refine (owner_freeze_no h i (by omega)).mono ?_
    rintro e w' ⟨rfl, rfl⟩
    exact ⟨_, _, rfl, Keep.refl _ _, h, OStep.same hk _⟩
theorem owner_publish_any (h : TabAt w p g t sh) (hk : OInv sh k t) (hk9 : k < 1000000000) (i s : Int) : Calls Try.prog 29 #[.pointer (some ⟨p, 0, none⟩), .int .i64 i, .int .i64 s] w (TabStep p g sh k t i w) := by
  by_cases hi : 0 ≤ i ∧ i < t.length
  · obtain ⟨n, rfl⟩ : ∃ n : Nat, i = n := ⟨i.toNat, by omega⟩
    have hn : n < t.length := by omega
    by_cases hs : 0 ≤ s ∧ s < sh
    · obtain ⟨a, rfl⟩ : ∃ a : Nat, s = a := ⟨s.toNat, by omega⟩
      have := hk n hn
      cases hm : t[n].moving
      · refine (owner_publish_busy h n a hn (by omega) hm).mono ?_
        rintro e w' ⟨rfl, rfl⟩
        exact ⟨_, _, rfl, Keep.refl _ _, h, OStep.same hk _⟩
      · refine (owner_publish h n a hn (by omega) hm this.2.2.1 (by omega)).mono ?_
        rintro e w' ⟨rfl, k1, h1⟩
        refine ⟨_, _, rfl, k1, h1, ⟨by rw [List.length_set], ?_, .inr ?_, hk.set n _ ⟨by show (0 : Int) ≤ a; omega, by show (a : Int) < sh; omega, by show 0 ≤ t[n].version + 1; omega, by show t[n].version + 1 ≤ _; omega⟩⟩⟩
        · rw [look_set t n hn, look_in t n hn]; show t[n].version ≤ t[n].version + 1; omega
        · rw [look_set t n hn, look_in t n hn]
    · refine (owner_publish_arg h n s hn (by omega)).mono ?_
      rintro e w' ⟨rfl, rfl⟩
      exact ⟨_, _, rfl, Keep.refl _ _, h, OStep.same hk _⟩
  · refine (owner_publish_no h i s (by omega)).mono ?_
    rintro e w' ⟨rfl, rfl⟩
    exact ⟨_, _, rfl, Keep.refl _ _, h, OStep.same hk _⟩
end

/-! How many shards of those below x, and of x itself the first so many groups, have each group. -/
def manyT (t : List Own) (x k : Nat) : List Int := (List.range t.length).map fun g => if (t.getD g Own.zero).shard < x ∨ (g : Int) ∈ (ofShard t x t.length).take k then 1 else 0
theorem mem_ofShard (t : List Own) (x : Int) (n g : Nat) : (g : Int) ∈ ofShard t x n ↔ g < n ∧ (t.getD g Own.zero).shard = x := by
  unfold ofShard
  simp only [List.mem_map, List.mem_filter, List.mem_range, beq_iff_eq]
  constructor
  · rintro ⟨a, h, e⟩
    obtain rfl : a = g := by omega
    exact h
  · intro h
    exact ⟨g, h, rfl⟩
theorem ofShard_nodup (t : List Own) (x : Int) (n : Nat) : (ofShard t x n).Nodup := by
  unfold ofShard
  refine List.Pairwise.map _ (fun a b (h : a ≠ b) => fun e => h (by omega)) ?_
  exact (List.nodup_range).filter _
theorem ofShard_at (t : List Own) (x : Int) (n k : Nat) (hk : k < (ofShard t x n).length) : ∃ g : Nat, (ofShard t x n)[k] = (g : Int) ∧ g < n ∧ (t.getD g Own.zero).shard = x := by
  have : (ofShard t x n)[k] ∈ ofShard t x n := List.getElem_mem _
  unfold ofShard at this ⊢
  obtain ⟨a, ha, e⟩ := List.mem_map.1 this
  have h := List.mem_filter.1 ha
  exact ⟨a, e.symm, List.mem_range.1 h.1, by simpa using h.2⟩
theorem manyT_len (t : List Own) (x k : Nat) : (manyT t x k).length = t.length := by simp [manyT]
theorem manyT_zero (t : List Own) (h : ∀ i (h : i < t.length), 0 ≤ t[i].shard) : manyT t 0 0 = List.replicate t.length 0 := by
  apply List.ext_getElem
  · simp [manyT]
  · intro i h1 h2
    rw [manyT_len] at h1
    simp only [manyT, List.getElem_map, List.getElem_range, List.getElem_replicate, List.take_zero, List.not_mem_nil, or_false]
    have := h i h1
    rw [if_neg]
    simp [List.getD_eq_getElem?_getD, h1]
    omega
theorem manyT_next (t : List Own) (x : Nat) : manyT t x (ofShard t x t.length).length = manyT t (x + 1) 0 := by
  apply List.ext_getElem
  · simp [manyT]
  · intro i h1 h2
    rw [manyT_len] at h1
    simp only [manyT, List.getElem_map, List.getElem_range, List.take_zero, List.not_mem_nil, or_false, List.take_length, mem_ofShard]
    by_cases h3 : (t.getD i Own.zero).shard < x
    · rw [if_pos (.inl h3), if_pos (by omega)]
    · by_cases h4 : (t.getD i Own.zero).shard = x
      · rw [if_pos (.inr ⟨h1, h4⟩), if_pos (by omega)]
      · rw [if_neg (by omega), if_neg (by omega)]
theorem manyT_step (t : List Own) (x k : Nat) (hk : k < (ofShard t x t.length).length) (g : Nat) (hg : (ofShard t x t.length)[k] = (g : Int)) (hgl : g < t.length) (hs : (t.getD g Own.zero).shard = x) :
    (manyT t x k)[g]'(by rw [manyT_len]; exact hgl) = 0 ∧ (manyT t x k).set g 1 = manyT t x (k + 1) := by
  have hnd := ofShard_nodup t x t.length
  have hnot : (g : Int) ∉ (ofShard t x t.length).take k := by
    intro hm
    obtain ⟨i, hi, e⟩ := List.mem_iff_getElem.1 hm
    rw [List.length_take] at hi
    rw [List.getElem_take, ← hg] at e
    exact List.pairwise_iff_getElem.1 hnd i k (by omega) hk (by omega) e
  constructor
  · simp only [manyT, List.getElem_map, List.getElem_range]
    rw [if_neg]
    rintro (h | h)
    · omega
    · exact hnot h
  · apply List.ext_getElem
    · simp [manyT]
    · intro i h1 h2
      rw [manyT_len] at h2
      by_cases e : g = i
      · subst e
        rw [List.getElem_set_self]
        simp only [manyT, List.getElem_map, List.getElem_range]
        have hm : (ofShard t x t.length)[k] ∈ (ofShard t x t.length).take (k + 1) := by rw [List.take_succ_eq_append_getElem hk]; exact List.mem_append_right _ (List.mem_singleton.2 rfl)
        rw [hg] at hm
        rw [if_pos (.inr hm)]
      · rw [List.getElem_set_ne e]
        simp only [manyT, List.getElem_map, List.getElem_range]
        have : ((i : Int) ∈ (ofShard t x t.length).take (k + 1)) ↔ ((i : Int) ∈ (ofShard t x t.length).take k) := by
          rw [List.take_succ_eq_append_getElem hk, List.mem_append, List.mem_singleton, hg]
          constructor
          · rintro (h | h)
            · exact h
            · omega
          · exact .inl
        simp only [this]
theorem manyT_all (t : List Own) (x : Nat) (h : ∀ i (h : i < t.length), t[i].shard < x) (i : Nat) (hi : i < t.length) : (manyT t x 0)[i]'(by rw [manyT_len]; exact hi) = 1 := by
  simp only [manyT, List.getElem_map, List.getElem_range]
  have := h i hi
  rw [if_pos (.inl (by simpa [List.getD_eq_getElem?_getD, hi] using this))]
end Go.Proofs.Ytlnlbegcnhelmaa
