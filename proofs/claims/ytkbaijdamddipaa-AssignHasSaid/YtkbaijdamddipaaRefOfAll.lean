/-
  easelref01.Of, whatever the kind; two slices of windows compared.
-/
import Derived.Test.YtkbaijdamddipaaRefOf
namespace Go.Proofs.Ytkbaijdamddipaa
open Go.RowKit

theorem ref_of (w : World) (c : Config) (t : Int) (hc : c.ok) (ht : I64 t) (h : c.mayB = true) : Calls Try.prog 62 #[.agg c.cells.toArray, .int .i64 t] w (RefPost w (ofL c t)) := by
  by_cases k2 : c.kind = 2
  · exact ref_of_session w c t hc ht k2
  · have hw : c.winB = true := by simp only [Config.mayB, Bool.and_eq_true] at h; exact h.1.1.1.1
    unfold Config.winB at hw
    obtain ⟨kind, size, slide, gap, late, shards, groups, cap⟩ := c
    simp only [Config.ok] at hc
    obtain ⟨hk, hs, hl, hg, ha, -⟩ := hc
    simp only at k2 hw
    by_cases k0 : kind = 0
    · rw [if_pos k0] at hw
      have h1 : 0 < size := by simpa using hw
      have := ref_of_down w t kind size slide gap late shards groups cap size ht hs hs ha (.inl ⟨k0, rfl⟩) (by omega) (by omega) (by omega)
      rw [downAll_one _ _ _ (by omega)] at this
      unfold ofL
      simp only
      rw [if_neg k2, if_pos k0]
      exact this
    · rw [if_neg k0] at hw
      have k1 : kind = 1 := by
        apply Classical.byContradiction
        intro k1
        rw [if_neg k1, if_neg k2] at hw
        exact absurd hw (by decide)
      rw [if_pos k1] at hw
      simp only [Bool.and_eq_true, decide_eq_true_eq] at hw
      obtain ⟨⟨h1, h2⟩, h3⟩ := hw
      have h4 : size - 1 < 16 * slide := (Int.ediv_lt_iff_lt_mul h1).1 h3
      unfold ofL
      simp only
      rw [if_neg k2, if_neg k0]
      exact ref_of_down w t kind size slide gap late shards groups cap slide ht hs hl ha (.inr ⟨k1, rfl⟩) (by omega) h2 (by omega)

theorem owned_cells {w : World} {b n : Nat} {v : Value} {l : List Span} (h : w.ownsRow b 62 2 v n (flatS l)) (hl : 0 < n) :
    n = l.length ∧ ∃ g cap, v = .slice (some ⟨g, 0, none⟩) n cap ∧ n ≤ cap ∧ cap ≤ maxLen ∧ b ≤ g ∧ g < w.heap.size ∧ ∀ k (hk : k < l.length), w.cell? ⟨g, k * 2, none⟩ = some (.int .i64 l[k].s) ∧ w.cell? ⟨g, k * 2 + 1, none⟩ = some (.int .i64 l[k].e) := by
  have hn : n = l.length := by have := h.1; rw [flatS_length] at this; omega
  refine ⟨hn, ?_⟩
  rcases h.2 with ⟨rfl, h0⟩ | ⟨g, cap, cur, rfl, hb, hg, hnc, hcm, hcs, htake⟩
  · omega
  · have hat : At w g cur 62 := hg
    refine ⟨g, cap, rfl, hnc, hcm, hb, At.lt hat, fun k hk => ?_⟩
    have hc : ∀ j, j < l.length * 2 → w.cell? ⟨g, j, none⟩ = some ((l[j / 2]!).cells[j % 2]!) := fun j hj => by
      rw [At.cell hat j, ← flatS_get l j hj, ← htake, List.getElem?_take_of_lt (by omega), Array.getElem?_toList]
    constructor
    · rw [hc _ (by omega), show k * 2 / 2 = k by omega, show k * 2 % 2 = 0 by omega, getElem!_pos l k hk]; rfl
    · rw [hc _ (by omega), show (k * 2 + 1) / 2 = k by omega, show (k * 2 + 1) % 2 = 1 by omega, getElem!_pos l k hk]; rfl

theorem same_yes (w : World) (b1 b2 : Nat) (v1 v2 : Value) (l : List Span) (h1 : w.ownsRow b1 62 2 v1 l.length (flatS l)) (h2 : w.ownsRow b2 62 2 v2 l.length (flatS l)) :
    Calls Try.prog 64 #[v1, v2] w fun e w' => e = .returned (.bool true) ∧ Keep none_ w w' := by
  by_cases h0 : l.length = 0
  · have hv : ∀ {b v}, w.ownsRow b 62 2 v l.length (flatS l) → ∃ ao cap, v = .slice ao 0 cap := fun {b v} h => by
      rcases h.2 with ⟨rfl, -⟩ | ⟨g, cap, cur, rfl, -⟩
      · exact ⟨none, 0, rfl⟩
      · exact ⟨_, cap, by rw [h0]⟩
    obtain ⟨a1, c1, rfl⟩ := hv h1
    obtain ⟨a2, c2, rfl⟩ := hv h2
    clear h1 h2
    go_enter Try.func64, Try.ntmps64
    go_wp2
    go_loopw [5] (fun i wr => i = .int .i64 0 ∧ wr = w) (fun _ _ => 0)
    case atStart => exact ⟨rfl, rfl⟩
    case round =>
      obtain ⟨rfl, rfl⟩ := hrel
      go_wp2
      go_ret
      exact ⟨rfl, Keep.refl _ _⟩
  · obtain ⟨-, g1, c1, rfl, hc1, hm1, -, hg1, hx1⟩ := owned_cells h1 (by omega)
    obtain ⟨-, g2, c2, rfl, hc2, hm2, -, hg2, hx2⟩ := owned_cells h2 (by omega)
    have hlen : l.length ≤ 9223372036854775807 := by unfold maxLen at hm1; omega
    clear h1 h2
    go_enter Try.func64, Try.ntmps64
    go_wp2
    go_loopw [5] (fun i wr => ∃ k : Nat, k ≤ l.length ∧ i = .int .i64 k ∧ Keep none_ w wr) (fun i _ => l.length - (intOf i).toNat)
    case atStart => exact ⟨0, Nat.zero_le _, rfl, Keep.refl _ _⟩
    case round =>
      obtain ⟨k, hk, rfl, kk⟩ := hrel
      by_cases hlt : k < l.length
      · go_wp2_with fail
        obtain ⟨ι, hne, f, hf0, hfk, hfa⟩ := class_of none_ wr
        have e1 := fun n => (((kk.trans (hfk n)).below (Nat.le_refl _) not_none).cell hg1).trans (hx1 k hlt).1
        have e2 := fun n => (((kk.trans (hfk n)).below (Nat.le_refl _) not_none).cell hg1).trans (hx1 k hlt).2
        have e3 := fun n => (((kk.trans (hfk n)).below (Nat.le_refl _) not_none).cell hg2).trans (hx2 k hlt).1
        have e4 := fun n => (((kk.trans (hfk n)).below (Nat.le_refl _) not_none).cell hg2).trans (hx2 k hlt).2
        refine wp_region_class f (by kernel_rfl) (by kernel_rfl) hf0 ?_
        repeat (go_big_quiet_step (fail))
        refine wpQuiet_nil ?_
        rintro _ ⟨n, rfl⟩
        go_wp2
        go_roundw
        case rel => exact ⟨k + 1, by omega, by go_num, kk.trans (hfk n)⟩
        case measure => simp [intOf]; omega
      · go_wp2
        go_ret
        exact ⟨rfl, kk⟩
end Go.Proofs.Ytkbaijdamddipaa
