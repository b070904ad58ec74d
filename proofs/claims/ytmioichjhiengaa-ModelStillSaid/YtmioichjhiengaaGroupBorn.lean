/-
  A new group is one without panes.
-/
import Derived.Test.YtmioichjhiengaaGroupNew
import Derived.Test.YtmioichjhiengaaGroupAt
namespace Go.Proofs.Ytmioichjhiengaa
open Go.RowKit

theorem fit_nil {H : Type} {P : Program} {k : TypeId} {R : Value → Option (DataW H × List MemPlace)} (clock : Nat) : WideElems.Fit P k R #[] clock := by
  exact ⟨by simp, MapKept.stamped_empty clock, by simp⟩
theorem smap_has {w : World} {b clock : Nat} (h : Has w b (.map #[] clock)) : SMap w b 0 (fun _ => none) :=
  ⟨.map [], ⟨#[], clock, h, fit_nil clock, Nat.le_refl _, rfl⟩, ⟨_, rfl⟩, fun x _ => ⟨rfl, fun z => rfl⟩⟩
def Born (c : Config) (w : World) (e : Ending) (w' : World) : Prop :=
  ∃ gp mp tp, e = .returned (.tuple #[.pointer (some ⟨gp, 0, none⟩), .nilIface]) ∧ (∀ X : Nat → Prop, (∀ q, X q → q < w'.heap.size) → GrpAt w' gp mp tp 0 0 c (.slice none 0 0) X (fun _ => []) []) ∧ Keep none_ w w' ∧ w.heap.size ≤ gp ∧ w.heap.size ≤ mp ∧ w.heap.size ≤ tp
theorem has_at {w : World} {b clock : Nat} {cs : Array Value} {T : TypeId} (h : Has w b (.map #[] clock)) (h2 : At w b cs T) : False := by
  unfold Has at h
  unfold At at h2
  rw [h] at h2
  cases h2
theorem group_born (w : World) (c : Config) (hc : c.ok) (h : c.mayB = true) : Calls Try.prog 34 #[.agg c.cells.toArray] w (Born c w) := by
  refine (group_new w c hc h).mono ?_
  rintro e w1 ⟨gp, mp, tp, clock, rfl, k, l1, l2, l3, hg, hm, ht⟩
  have hgt : gp ≠ tp := by
    rintro rfl
    unfold At at hg ht
    rw [hg] at ht
    simp [Config.cells] at ht
  refine ⟨gp, mp, tp, rfl, fun X hX => ⟨hg, ⟨0, _, Nat.le_refl _, smap_has hm, fun key _ => .inl ⟨rfl, rfl⟩⟩, ⟨ht, World.ownsRow_nil _ _ _ _, fun k h0 hk => absurd hk (Nat.not_lt_zero _), List.nodup_nil⟩, ?_, ?_, ?_, fun _ k => ⟨fun p hp => (by cases hp), List.Pairwise.nil⟩, hX⟩, k, l1, l2, l3⟩
  · rintro (e | e)
    · subst e; exact has_at hm ht
    · simp [Value.ownBlock] at e
  · rintro (e | e | e)
    · subst e; exact has_at hm hg
    · exact hgt e
    · simp [Value.ownBlock] at e
  · exact ⟨fun x _ => ⟨fun h => (by cases h), fun ⟨p, hp, _⟩ => (by cases hp)⟩, fun x hx => (by cases hx), fun k => List.Pairwise.nil, fun k p hp => (by cases hp), fun k => Nat.le_refl _, Nat.le_refl _⟩
end Go.Proofs.Ytmioichjhiengaa
