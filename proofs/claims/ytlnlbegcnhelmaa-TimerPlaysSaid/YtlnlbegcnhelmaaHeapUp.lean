/-
  container/heap's up and down over the queue of timers.
-/
import Derived.Test.YtlnlbegcnhelmaaMeth
namespace Go.Proofs.Ytlnlbegcnhelmaa
open Go.RowKit

theorem upL_stop {m : List Timer} {k i : Nat} (hi : i = (k - 1) / 2) (hk : k < m.length) (him : i < m.length) (h : i = k ∨ tlt (m[k]) (m[i]) = false) (f : Nat) : upL tlt (f + 1) m k = m := by
  subst hi
  simp only [upL, List.getElem?_eq_getElem hk, List.getElem?_eq_getElem him]
  rw [if_pos h]
theorem upL_go {m : List Timer} {k i : Nat} (hi : i = (k - 1) / 2) (hk : k < m.length) (him : i < m.length) (hne : i ≠ k) (h : tlt (m[k]) (m[i]) = true) (f : Nat) : upL tlt (f + 1) m k = upL tlt f (swapL m i k) i := by
  subst hi
  simp only [upL, List.getElem?_eq_getElem hk, List.getElem?_eq_getElem him]
  rw [if_neg (by rw [h]; simp [hne])]
theorem upL_fuel (f : Nat) : ∀ (g : Nat) (m : List Timer) (k : Nat), k < f → k < g → k < m.length → upL tlt f m k = upL tlt g m k := by
  induction f with
  | zero => intro g m k h; omega
  | succ f ih =>
    intro g m k h1 h2 h3
    match g, h2 with
    | g + 1, h2 =>
      have him : (k - 1) / 2 < m.length := by omega
      by_cases h : (k - 1) / 2 = k ∨ tlt (m[k]) (m[(k - 1) / 2]) = false
      · rw [upL_stop rfl h3 him h, upL_stop rfl h3 him h]
      · have hne : (k - 1) / 2 ≠ k := fun e => h (.inl e)
        have hlt : tlt (m[k]) (m[(k - 1) / 2]) = true := by
          cases e : tlt (m[k]) (m[(k - 1) / 2])
          · exact absurd (.inr e) h
          · rfl
        rw [upL_go rfl h3 him hne hlt, upL_go rfl h3 him hne hlt]
        exact ih g _ _ (by omega) (by omega) (by rw [swapL_len]; omega)
/-- The queue's own block. -/
def own (v : Value) : Nat → Prop := fun z => v.ownBlock = some z
set_option maxRecDepth 100000 in
theorem heap_up {w : World} {p : Nat} {v : Value} {l : List Timer} (hp : At w p #[v] 141) (h : QAt w (p + 1) v l) (hlen : l.length ≤ 1000) (j : Nat) (hj : j < l.length) :
    Calls Try.prog 94 #[.iface 144 (.pointer (some ⟨p, 0, none⟩)), .int .i64 j] w fun e w' => e = .returned (.tuple #[]) ∧
      QAt w' (p + 1) v (upL tlt (j + 1) l j) ∧ Keep (own v) w w' := by
  obtain ⟨g, cap, rfl, hbg, hgl, hlc, hnc⟩ := own_some h (by omega)
  have cp := At.cell hp
  have hpl := hp.lt
  go_enter Try.func94, Try.ntmps94
  go_wp2_with fail
  go_loopw [1] (fun ji wr => ∃ (k : Nat) (m : List Timer), ji = .int .i64 k ∧ At wr p #[.slice (some ⟨g, 0, none⟩) l.length cap] 141 ∧ wr.ownsRow (p + 1) 101 3 (.slice (some ⟨g, 0, none⟩) l.length cap) l.length (flat Timer.cells m) ∧ Hid (m.length = l.length) ∧ k < l.length ∧ Hid (upL tlt (k + 1) m k = upL tlt (j + 1) l j) ∧ Keep (one g) w wr)
    (fun ji _ => (intOf ji).toNat)
  case atStart => exact ⟨j, l, rfl, hp, h, Lib.hid rfl, hj, Lib.hid rfl, Keep.refl _ _⟩
  case round =>
    obtain ⟨k, m, rfl, hp, h, hml, hk, hup, kk⟩ := hrel
    have cp := At.cell hp
    have hpl := hp.lt
    have c0 : wr.cell? ⟨p, 0, none⟩ = some (.slice (some ⟨g, 0, none⟩) l.length cap) := cp 0
    have ml := meth_less c0
    have ms := fun (w' : World) (h : w'.cell? ⟨p, 0, none⟩ = some (.slice (some ⟨g, 0, none⟩) l.length cap)) => meth_swap h
    obtain ⟨i, hi⟩ : ∃ i, i = (k - 1) / 2 := ⟨_, rfl⟩
    by_cases hk0 : k = 0
    · subst hk0
      have : i = 0 := by omega
      subst this
      clear hi
      go_wp2_with fail
      refine bodyPost_end (v := .tuple #[]) ?_ ?_ ?_
      · exact results_none Try.results94 _ _ _
      · rfl
      · refine ⟨rfl, ?_, kk.mono (fun z _ e => by unfold one at e; simp [own, Value.ownBlock, e])⟩
        have e := hup.out
        rw [upL_stop (i := 0) rfl (by rw [hml.out]; exact hk) (by rw [hml.out]; exact hk) (.inl rfl)] at e
        unfold QAt
        rw [← e, hml.out]
        exact h
    · have e1 : ((k : Int) - 1).tdiv 2 = (i : Int) := by
        rw [Int.tdiv_eq_ediv_of_nonneg (by omega)]; omega
      have e2 : ((i : Int) == (k : Int)) = false := by simp; omega
      have hik : i < k := by omega
      replace hi := Lib.hid hi
      have hkm : k < m.length := by rw [hml.out]; exact hk
      have him : i < m.length := by omega
      have cl := queue_less (w := wr) (A := some ⟨g, 0, none⟩) (c := cap) (l := m) (Sl.of_own (enc := Timer.cells) timer_len3 (by decide) (by rw [hml.out]; exact h)) k i hkm him
      rw [hml.out] at cl
      replace cl := Lib.hid cl
      replace hkm := Lib.hid hkm
      replace him := Lib.hid him
      go_wp2_with fail
      refine cl.out.mono ?_
      rintro e w1 ⟨rfl, k1⟩
      have c1 : w1.cell? ⟨p, 0, none⟩ = some (.slice (some ⟨g, 0, none⟩) l.length cap) := At.cell (Keep.at k1 hp (fun e => e)) 0
      have m1 := meth_swap c1
      have h1 : w1.ownsRow (p + 1) 101 3 (.slice (some ⟨g, 0, none⟩) l.length cap) l.length (flat Timer.cells m) := own_keep h k1 (fun _ _ e => e)
      clear cl ml ms
      cases hlt : tlt (m[k]'hkm.out) (m[i]'him.out)
      · go_wp2_with fail
        refine bodyPost_end (v := .tuple #[]) ?_ ?_ ?_
        · exact results_none Try.results94 _ _ _
        · rfl
        · refine ⟨rfl, ?_, (kk.trans (k1.mono (fun _ _ e => e.elim))).mono (fun z _ e => by unfold one at e; simp [own, Value.ownBlock, e])⟩
          have e := hup.out
          rw [upL_stop hi.out hkm.out him.out (.inr hlt)] at e
          unfold QAt
          rw [← e, hml.out]
          exact h1
      · have cs := queue_swap (w := w1) (base := p + 1) (g := g) (cap := cap) (l := m) (by unfold QAt; rw [hml.out]; exact h1) i k him.out hkm.out
        rw [hml.out] at cs
        replace cs := Lib.hid cs
        go_wp2_with fail
        refine cs.out.mono ?_
        rintro e w2 ⟨rfl, h2, k2⟩
        have hp2 := Keep.at k2 (Keep.at k1 hp (fun e => e)) (fun e => by unfold one at e; omega)
        clear cs m1 c1
        go_wp2_with fail
        go_round
        case rel =>
          refine ⟨i, swapL m i k, rfl, hp2, ?_, Lib.hid (by rw [swapL_len]; exact hml.out), by omega, Lib.hid ?_, (kk.trans (k1.mono (fun _ _ e => e.elim))).trans k2⟩
          · have := h2
            unfold QAt at this
            rw [swapL_len, hml.out] at this
            exact this
          · rw [← hup.out, upL_go hi.out hkm.out him.out (by omega) hlt]
            exact upL_fuel _ _ _ _ (by omega) (by omega) (by rw [swapL_len]; exact him.out)
        case measure => simp [intOf]; omega
end Go.Proofs.Ytlnlbegcnhelmaa
