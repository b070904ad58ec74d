/-
  assign.Of: a time's windows.
-/
import Derived.Test.YtkbaijdamddipaaRev
namespace Go.Proofs.Ytkbaijdamddipaa
open Go.RowKit

/-- A time's windows by a config that may be, rising; none: they can't be told. -/
def ofL (c : Config) (t : Int) : Option (List Span) :=
  if c.kind = 2 then (if winOk t c.gap c.late then some [winS t c.gap] else none)
  else if c.kind = 0 then downAll t c.size c.size c.late else (downAll t c.size c.slide c.late).map List.reverse

def OfPost (w : World) (D : Option (List Span)) (e : Ending) (w' : World) : Prop :=
  ∃ v er, e = .returned (.tuple #[v, er]) ∧ Keep none_ w w' ∧
    ((∃ l, D = some l ∧ er = .nilIface ∧ w'.ownsRow w.heap.size 62 2 v l.length (flatS l)) ∨ (D = none ∧ v = .slice none 0 0 ∧ er = errV 3))

theorem assign_of_no (w : World) (c : Config) (t : Int) (hc : c.ok) (h : c.mayB = false) : Calls Try.prog 59 #[.agg c.cells.toArray, .int .i64 t] w fun e w' =>
    e = .returned (.tuple #[.slice none 0 0, errV 2]) ∧ Keep none_ w w' := by
  have c1 := fun w => assign_may w c hc
  rw [h] at c1
  replace c1 := Lib.hid c1
  have hx := At.new w c.cells.toArray 72
  have kk : Keep none_ w (w.alloc (.cells c.cells.toArray 72)) := (by repeat' (first | exact Keep.refl _ _ | refine Keep.set1 ?_ _ | refine Keep.alloc ?_ _ | refine Keep.drew ?_ | refine Keep.setNew ?_ (by simp) _))
  simp only [Config.cells] at hx kk
  clear h hc
  go_enter Try.func59, Try.ntmps59
  go_wp2_with (first
    | (go_at_call 61; (with_reducible refine (c1.out _).mono ?_); rintro e w' ⟨rfl, k⟩; replace kk := Keep.trans kk k; replace hx := Keep.at k hx (fun e => e); have cx := At.cell hx; have fx := At.frozen hx; clear k))
  go_ret2
  exact ⟨rfl, kk⟩

theorem owns_base {w : World} {b b' : Nat} {e : TypeId} {size n : Nat} {v : Value} {xs : List Value} (hb : b' ≤ b) (h : w.ownsRow b e size v n xs) : w.ownsRow b' e size v n xs := by
  refine ⟨h.1, h.2.imp id ?_⟩
  rintro ⟨g, cap, cur, rfl, hg, rest⟩
  exact ⟨g, cap, cur, rfl, Nat.le_trans hb hg, rest⟩
theorem owns_one {w : World} {b n : Nat} (hb : b ≤ w.heap.size) (hn : n = w.heap.size) (x y : Value) : (w.alloc (.cells #[x, y] 62)).ownsRow b 62 2 (.slice (some ⟨n, 0, none⟩) 1 1) 1 [x, y] := by
  subst hn
  exact ⟨rfl, .inr ⟨w.heap.size, 1, _, rfl, hb, At.new w _ _, Nat.le_refl _, by unfold maxLen; omega, rfl, rfl⟩⟩

set_option maxHeartbeats 1000000 in
theorem assign_of (w : World) (c : Config) (t : Int) (hc : c.ok) (ht : I64 t) (h : c.mayB = true) : Calls Try.prog 59 #[.agg c.cells.toArray, .int .i64 t] w (OfPost w (ofL c t)) := by
  have c1 := fun w => assign_may w c hc
  rw [h] at c1
  replace c1 := Lib.hid c1
  have hx := At.new w c.cells.toArray 72
  have kk : Keep none_ w (w.alloc (.cells c.cells.toArray 72)) := (by repeat' (first | exact Keep.refl _ _ | refine Keep.set1 ?_ _ | refine Keep.alloc ?_ _ | refine Keep.drew ?_ | refine Keep.setNew ?_ (by simp) _))
  obtain ⟨kind, size, slide, gap, late, shards, groups, cap⟩ := c
  simp only [Config.ok] at hc
  obtain ⟨hk, hs, hl, hg, ha, -⟩ := hc
  obtain ⟨D, hD⟩ : ∃ D, D = ofL ⟨kind, size, slide, gap, late, shards, groups, cap⟩ t := ⟨_, rfl⟩
  rw [← hD]
  unfold ofL at hD
  simp only [Config.cells] at hx kk c1 ⊢
  have hw : Config.winB ⟨kind, size, slide, gap, late, shards, groups, cap⟩ = true := by
    simp only [Config.mayB, Bool.and_eq_true] at h; exact h.1.1.1.1
  unfold Config.winB at hw
  simp only at hD hw
  clear h
  by_cases k2 : kind = 2
  · subst k2
    rw [if_pos rfl] at hD
    have c2 := fun w => assign_window w t gap late ht hg ha
    cases hok : winOk t gap late
    · rw [hok, if_neg (by decide)] at hD
      rw [winOk_no hok] at c2
      generalize winS t gap = S at *
      replace hD := Lib.hid hD
      replace c2 := Lib.hid c2
      clear hok hw
      go_enter Try.func59, Try.ntmps59
      go_wp2_with (first
        | (go_at_call 61; (with_reducible refine (c1.out _).mono ?_); rintro e w' ⟨rfl, k⟩; replace kk := Keep.trans kk k; replace hx := Keep.at k hx (fun e => e); have cx := At.cell hx; have fx := At.frozen hx; clear k)
        | (go_at_call 73; (with_reducible refine (c2.out _).mono ?_); rintro e w' ⟨rfl, k⟩; replace kk := Keep.trans kk k; replace hx := Keep.at k hx (fun e => e); have cx := At.cell hx; have fx := At.frozen hx; clear k))
      go_ret2
      exact ⟨_, _, rfl, (by repeat' (first | exact kk | refine Keep.alloc ?_ _ | refine Keep.drew ?_ | refine Keep.setNew ?_ (by simp) _)), .inr ⟨hD.out, rfl, rfl⟩⟩
    · rw [hok, if_pos rfl] at hD
      rw [(winOk_yes hok).1] at c2
      generalize winS t gap = S at *
      replace hD := Lib.hid hD
      replace c2 := Lib.hid c2
      clear hok hw
      go_enter Try.func59, Try.ntmps59
      go_wp2_with (first
        | (go_at_call 61; (with_reducible refine (c1.out _).mono ?_); rintro e w' ⟨rfl, k⟩; replace kk := Keep.trans kk k; replace hx := Keep.at k hx (fun e => e); have cx := At.cell hx; have fx := At.frozen hx; clear k)
        | (go_at_call 73; (with_reducible refine (c2.out _).mono ?_); rintro e w' ⟨rfl, k⟩; replace kk := Keep.trans kk k; replace hx := Keep.at k hx (fun e => e); have cx := At.cell hx; have fx := At.frozen hx; clear k))
      go_ret2
      exact ⟨_, _, rfl, (by repeat' (first | exact kk | refine Keep.alloc ?_ _ | refine Keep.drew ?_ | refine Keep.setNew ?_ (by simp) _)), .inl ⟨[S], hD.out, rfl, owns_one (Nat.le_trans kk.size (by simp)) (by simp) _ _⟩⟩
  · rw [if_neg k2] at hD hw
    by_cases k0 : kind = 0
    · subst k0
      rw [if_pos rfl] at hD hw
      have h1 : 0 < size := by simpa using hw
      have c2 := fun w => assign_down w t size size late ht hs hs ha (by omega) (by omega) (by omega)
      rw [← hD] at c2
      replace hD := Lib.hid hD
      replace c2 := Lib.hid c2
      clear hw
      go_enter Try.func59, Try.ntmps59
      go_wp2_with (first
        | (go_at_call 61; (with_reducible refine (c1.out _).mono ?_); rintro e w' ⟨rfl, k⟩; replace kk := Keep.trans kk k; replace hx := Keep.at k hx (fun e => e); have cx := At.cell hx; have fx := At.frozen hx; clear k))
      refine (c2.out _).mono ?_
      rintro e w2 ⟨v, er, rfl, k3, h3⟩
      go_wp2_with fail
      go_ret2
      exact ⟨_, _, rfl, kk.trans k3, h3.imp (fun ⟨l, a, b, h⟩ => ⟨l, a, b, owns_base (by simpa using kk.size) h⟩) id⟩
    · rw [if_neg k0] at hD hw
      have k1 : kind = 1 := by
        apply Classical.byContradiction
        intro k1
        rw [if_neg k1] at hw
        exact absurd hw (by decide)
      subst k1
      rw [if_pos rfl] at hw
      simp only [Bool.and_eq_true, decide_eq_true_eq] at hw
      obtain ⟨⟨h1, h2⟩, h3⟩ := hw
      have h4 : size - 1 < 16 * slide := (Int.ediv_lt_iff_lt_mul h1).1 h3
      have c2 := fun w => assign_down w t size slide late ht hs hl ha (by omega) h2 (by omega)
      generalize downAll t size slide late = E at *
      replace hD := Lib.hid hD
      replace c2 := Lib.hid c2
      clear h3 h4
      go_enter Try.func59, Try.ntmps59
      go_wp2_with (first
        | (go_at_call 61; (with_reducible refine (c1.out _).mono ?_); rintro e w' ⟨rfl, k⟩; replace kk := Keep.trans kk k; replace hx := Keep.at k hx (fun e => e); have cx := At.cell hx; have fx := At.frozen hx; clear k))
      refine (c2.out _).mono ?_
      rintro e w2 ⟨v, er, rfl, k3, ⟨l, hE, rfl, hown⟩ | ⟨hE, rfl, rfl⟩⟩
      · have hlen : l.length ≤ 9223372036854775807 := by
          rcases hown.2 with ⟨-, h0⟩ | ⟨g, cp, cur, -, -, -, hnc, hcm, -⟩
          · omega
          · unfold maxLen at hcm; omega
        have c3 := Lib.hid (reverse_own w2 _ _ v l hown hlen)
        have hvb := hown.lt
        replace hE := Lib.hid hE
        go_wp2_with fail
        refine (c3.out).mono ?_
        rintro e w3 ⟨rfl, k4, hown3⟩
        go_wp2_with fail
        go_ret2
        have k5 : Keep none_ w w3 := Keep.fresh (kk.trans k3) k4 (fun q hq e => by have := (hvb q e).1; have := kk.size; simp at *; omega)
        refine ⟨_, _, rfl, k5, .inl ⟨l.reverse, by rw [hD.out, hE.out]; rfl, rfl, ?_⟩⟩
        rw [List.length_reverse]
        exact owns_base (by simpa using kk.size) hown3
      · have c3 := Lib.hid (reverse_own w2 0 0 (.slice none 0 0) [] (World.ownsRow_nil _ _ _ _) (by omega))
        replace hE := Lib.hid hE
        go_wp2_with fail
        refine (c3.out).mono ?_
        rintro e w3 ⟨rfl, k4, hown3⟩
        go_wp2_with fail
        go_ret2
        have k5 : Keep none_ w w3 := Keep.fresh (kk.trans k3) k4 (fun q hq e => by cases e)
        exact ⟨_, _, rfl, k5, .inr ⟨by rw [hD.out, hE.out]; rfl, rfl, rfl⟩⟩
end Go.Proofs.Ytkbaijdamddipaa
