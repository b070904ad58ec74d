/-
  What holds of a time's windows: plain facts about ofL.
-/
import Derived.Test.YtkbaijdamddipaaOf
namespace Go.Proofs.Ytkbaijdamddipaa
open Go.RowKit

/-- The windows of a falling list: so long, so far apart, the last one that has the time. -/
theorem downL_at (t size slide late : Int) : ∀ (k : Nat) (x : Int) (l : List Span), I64 x → downL t size slide late k x = some l →
    1 ≤ l.length ∧ l.length ≤ k ∧ (∀ i (h : i < l.length), l[i] = ⟨x - i * slide, x - i * slide + size⟩ ∧ I64 (x - i * slide) ∧ I64 (x - i * slide + size)) ∧
    size - slide ≤ t - (x - ((l.length : Int) - 1) * slide) ∧ (2 ≤ l.length → t - (x - ((l.length : Int) - 2) * slide) < size - slide) := by
  intro k
  induction k with
  | zero => intro x l hx h; simp [downL] at h
  | succ k ih =>
    intro x l hx h
    rw [downL] at h
    cases hw : winOk x size late
    · rw [hw, if_neg (by decide)] at h; cases h
    · rw [hw, if_pos rfl] at h
      have hS := (winOk_yes hw).2
      have hI : I64 (x + size) := by
        simp only [winOk, fitB, Bool.and_eq_true, decide_eq_true_eq] at hw; exact hw.1
      rw [hS] at h
      by_cases hl : size - slide ≤ t - x
      · rw [if_pos hl] at h
        obtain rfl := Option.some.inj h
        refine ⟨by simp, by simp, ?_, by simpa using hl, by simp⟩
        intro i hi
        obtain rfl : i = 0 := by simpa using hi
        simpa using ⟨hx, hI⟩
      · rw [if_neg hl] at h
        cases hf : fitB (x - slide)
        · rw [hf, if_neg (by decide)] at h; cases h
        · rw [hf, if_pos rfl] at h
          cases hr : downL t size slide late k (x - slide) with
          | none => rw [hr] at h; cases h
          | some m =>
            rw [hr] at h
            obtain rfl := Option.some.inj h
            obtain ⟨h1, h2, h3, h4, h5⟩ := ih (x - slide) m (by simpa [fitB, I64] using hf) hr
            have e1 : ∀ n : Int, x - slide - n * slide = x - (n + 1) * slide := fun n => by rw [Int.add_mul]; omega
            refine ⟨by simp, by simp; omega, ?_, ?_, ?_⟩
            · intro i hi
              match i, hi with
              | 0, hi => simpa using ⟨hx, hI⟩
              | i + 1, hi =>
                have := h3 i (by simpa using hi)
                rw [e1] at this
                simpa using this
            · rw [e1] at h4
              simpa [List.length_cons] using h4
            · intro h6
              rw [List.length_cons] at h6 ⊢
              by_cases h7 : 2 ≤ m.length
              · have := h5 h7
                rw [e1] at this
                have e2 : ((m.length : Int) - 2 + 1) = (((m.length + 1 : Nat) : Int) - 2) := by omega
                rw [e2] at this
                exact this
              · have e3 : m.length = 1 := by omega
                rw [e3]
                simp
                omega

/-- What each of the windows is, rising. -/
structure Wins (c : Config) (t : Int) (l : List Span) : Prop where
  pos : 1 ≤ l.length
  few : l.length ≤ 16
  has : ∀ k (h : k < l.length), l[k].s ≤ t ∧ t < l[k].e ∧ l[k].e - l[k].s = (if c.kind = 2 then c.gap else c.size) ∧ I64 l[k].s ∧ I64 l[k].e
  up : ∀ k (h : k + 1 < l.length), l[k + 1].s = l[k].s + c.slide ∧ 0 < c.slide
  lone : c.kind ≠ 1 → l.length = 1
  sess : c.kind = 2 → ∀ h : 0 < l.length, l[0].s = t
  tum : c.kind = 0 → 0 < c.size ∧ ∀ h : 0 < l.length, l[0].s = t - t % c.size
  sli : c.kind = 1 → 0 < c.slide ∧ c.size - c.slide ≤ t % c.slide + ((l.length : Int) - 1) * c.slide ∧ (2 ≤ l.length → t % c.slide + ((l.length : Int) - 2) * c.slide < c.size - c.slide)

theorem downAll_some {t size slide late : Int} {l : List Span} (h : downAll t size slide late = some l) : I64 (t - t % slide) ∧ downL t size slide late 16 (t - t % slide) = some l := by
  unfold downAll at h
  by_cases hf : I64 (t - t % slide)
  · rw [(fit_yes hf).2.2, if_pos rfl] at h; exact ⟨hf, h⟩
  · rw [(fit_no hf).2.2, if_neg (by decide)] at h; cases h

theorem ofL_wins (c : Config) (t : Int) (l : List Span) (hc : c.ok) (ht : I64 t) (hm : c.mayB = true) (h : ofL c t = some l) : Wins c t l := by
  have hw : c.winB = true := by simp only [Config.mayB, Bool.and_eq_true] at hm; exact hm.1.1.1.1
  unfold Config.winB at hw
  unfold ofL at h
  by_cases k2 : c.kind = 2
  · rw [if_pos k2] at h
    rw [if_neg (by omega), if_neg (by omega), if_pos k2] at hw
    have hg : 0 < c.gap := by simpa using hw
    cases hok : winOk t c.gap c.late
    · rw [hok, if_neg (by decide)] at h; cases h
    · rw [hok, if_pos rfl, (winOk_yes hok).2] at h
      obtain rfl := Option.some.inj h
      have hI : I64 (t + c.gap) := by
        simp only [winOk, fitB, Bool.and_eq_true, decide_eq_true_eq] at hok; exact hok.1
      refine ⟨by simp, by simp, ?_, by simp, by simp, by simp, by omega, by omega⟩
      intro k hk
      obtain rfl : k = 0 := by simpa using hk
      simp only [List.getElem_cons_zero, if_pos k2]
      exact ⟨by omega, by omega, by omega, ht, hI⟩
  · rw [if_neg k2] at h
    by_cases k0 : c.kind = 0
    · rw [if_pos k0] at h hw
      have h1 : 0 < c.size := by simpa using hw
      obtain ⟨hf, hd⟩ := downAll_some h
      obtain ⟨a1, a2, a3, a4, a5⟩ := downL_at _ _ _ _ _ _ _ hf hd
      have hr0 := Int.emod_nonneg t (show c.size ≠ 0 by omega)
      have hr1 := Int.emod_lt_of_pos t h1
      have hlen : l.length = 1 := by
        apply Classical.byContradiction
        intro hn
        have h2 : 2 ≤ l.length := by omega
        have := a5 h2
        have h3 : 0 ≤ ((l.length : Int) - 2) * c.size := Int.mul_nonneg (by omega) (by omega)
        omega
      have h0 := a3 0 (by omega)
      refine ⟨by omega, by omega, ?_, by omega, fun _ => hlen, by omega, fun _ => ⟨h1, fun h => by rw [h0.1]; simp⟩, by omega⟩
      intro k hk
      obtain rfl : k = 0 := by omega
      rw [h0.1, if_neg k2]
      have h4 := h0.2.2
      simp only [Int.ofNat_zero, Int.zero_mul, Int.sub_zero, Int.cast_ofNat_Int] at h4 ⊢
      exact ⟨by omega, by omega, by omega, hf, h4⟩
    · rw [if_neg k0] at h hw
      have k1 : c.kind = 1 := by
        apply Classical.byContradiction
        intro k1
        rw [if_neg k1, if_neg k2] at hw
        exact absurd hw (by decide)
      rw [if_pos k1] at hw
      simp only [Bool.and_eq_true, decide_eq_true_eq] at hw
      obtain ⟨⟨h1, h2⟩, h3⟩ := hw
      cases hd : downAll t c.size c.slide c.late with
      | none => rw [hd] at h; cases h
      | some m =>
        rw [hd] at h
        obtain rfl := Option.some.inj h
        obtain ⟨hf, hd⟩ := downAll_some hd
        obtain ⟨a1, a2, a3, a4, a5⟩ := downL_at _ _ _ _ _ _ _ hf hd
        have hr0 := Int.emod_nonneg t (show c.slide ≠ 0 by omega)
        have hr1 := Int.emod_lt_of_pos t h1
        generalize hr : t % c.slide = r at *
        have e1 : t - (t - r - ((m.length : Int) - 1) * c.slide) = r + ((m.length : Int) - 1) * c.slide := by omega
        have e2 : t - (t - r - ((m.length : Int) - 2) * c.slide) = r + ((m.length : Int) - 2) * c.slide := by omega
        rw [e1] at a4
        rw [e2] at a5
        have hrev : ∀ k (h : k < m.length), m.reverse[k]'(by simpa using h) = m[m.length - 1 - k]'(by omega) := fun k h => by rw [List.getElem_reverse]
        refine ⟨by simpa using a1, by simpa using a2, ?_, ?_, by omega, by omega, by omega, fun _ => ⟨h1, by rw [hr]; simpa using a4, by rw [hr]; simpa using a5⟩⟩
        · intro k hk
          rw [List.length_reverse] at hk
          rw [hrev k hk, (a3 _ (by omega)).1, if_neg k2]
          have h6 := (a3 (m.length - 1 - k) (by omega)).2
          generalize hj : m.length - 1 - k = j at *
          have h7 : (0 : Int) ≤ j * c.slide := Int.mul_nonneg (by omega) (by omega)
          simp only
          -- the last one that is told is the first whose distance is so great: all others have the time
          have h8 : (j : Int) * c.slide ≤ ((m.length : Int) - 1) * c.slide := Int.mul_le_mul_of_nonneg_right (by omega) (by omega)
          have h9 : r + (j : Int) * c.slide < c.size := by
            by_cases hm2 : 2 ≤ m.length
            · have := a5 hm2
              have e3 : ((m.length : Int) - 1) * c.slide = ((m.length : Int) - 2) * c.slide + c.slide := by rw [show (m.length : Int) - 1 = ((m.length : Int) - 2) + 1 by omega, Int.add_mul, Int.one_mul]
              omega
            · have : m.length = 1 := by omega
              rw [this] at h8
              simp at h8
              omega
          exact ⟨by omega, by omega, by omega, h6.1, h6.2⟩
        · intro k hk
          rw [List.length_reverse] at hk
          rw [hrev k (by omega), hrev (k + 1) hk, (a3 _ (by omega)).1, (a3 _ (by omega)).1]
          simp only
          refine ⟨?_, h1⟩
          have e4 : ((m.length - 1 - k : Nat) : Int) = ((m.length - 1 - (k + 1) : Nat) : Int) + 1 := by omega
          rw [e4, Int.add_mul]
          omega

theorem wins_two (c : Config) (t u : Int) (l m : List Span) (hl : Wins c t l) (hm : Wins c u m) (k1 : c.kind = 1) : l.length ≤ m.length + 1 ∧ m.length ≤ l.length + 1 := by
  obtain ⟨h1, h2, h3⟩ := hl.sli k1
  obtain ⟨-, g2, g3⟩ := hm.sli k1
  have hr0 := Int.emod_nonneg t (show c.slide ≠ 0 by omega)
  have hr1 := Int.emod_lt_of_pos t h1
  have hs0 := Int.emod_nonneg u (show c.slide ≠ 0 by omega)
  have hs1 := Int.emod_lt_of_pos u h1
  have hp := hl.pos
  have gp := hm.pos
  generalize t % c.slide = r at *
  generalize u % c.slide = s at *
  generalize hx : l.length = x at *
  generalize hy : m.length = y at *
  clear hx hy hl hm
  constructor
  · apply Classical.byContradiction
    intro h
    have h5 := h3 (by omega)
    have : ((y : Int) - 1) * c.slide + c.slide ≤ ((x : Int) - 2) * c.slide := by
      have h6 := Int.mul_le_mul_of_nonneg_right (a := (y : Int) - 1 + 1) (b := (x : Int) - 2) (c := c.slide) (by omega) (by omega)
      rw [Int.add_mul, Int.one_mul] at h6; exact h6
    omega
  · apply Classical.byContradiction
    intro h
    have h5 := g3 (by omega)
    have : ((x : Int) - 1) * c.slide + c.slide ≤ ((y : Int) - 2) * c.slide := by
      have h6 := Int.mul_le_mul_of_nonneg_right (a := (x : Int) - 1 + 1) (b := (y : Int) - 2) (c := c.slide) (by omega) (by omega)
      rw [Int.add_mul, Int.one_mul] at h6; exact h6
    omega

theorem mult_apart (s t u : Int) (hs : 0 < s) (h : t - t % s ≠ u - u % s) : t - t % s + s ≤ u - u % s ∨ u - u % s + s ≤ t - t % s := by
  have e1 := Int.emod_add_mul_ediv t s
  have e2 := Int.emod_add_mul_ediv u s
  have e3 : t - t % s = s * (t / s) := by omega
  have e4 : u - u % s = s * (u / s) := by omega
  rw [e3, e4] at h ⊢
  clear e1 e2 e3 e4
  rcases Int.lt_trichotomy (t / s) (u / s) with hlt | heq | hgt
  · left
    have : s * (t / s + 1) ≤ s * (u / s) := Int.mul_le_mul_of_nonneg_left (by omega) (by omega)
    rw [Int.mul_add] at this; omega
  · rw [heq] at h; exact absurd rfl h
  · right
    have : s * (u / s + 1) ≤ s * (t / s) := Int.mul_le_mul_of_nonneg_left (by omega) (by omega)
    rw [Int.mul_add] at this; omega
end Go.Proofs.Ytkbaijdamddipaa
