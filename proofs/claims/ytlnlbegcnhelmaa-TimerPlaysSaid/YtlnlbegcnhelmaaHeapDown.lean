/-
  container/heap's down over the queue of timers.
-/
import Derived.Test.YtlnlbegcnhelmaaHeapUp
namespace Go.Proofs.Ytlnlbegcnhelmaa
open Go.RowKit

theorem downH_end {m : List Timer} {k n f : Nat} (h : n ≤ 2 * k + 1) : downH tlt f m k n = (m, k) := by
  cases f with
  | zero => rfl
  | succ f => simp only [downH]; rw [if_pos h]
theorem downH_stop {m : List Timer} {k n j f : Nat} (h : ¬ n ≤ 2 * k + 1) (hj : lessOf tlt m k n = j) (hk : k < m.length) (hjm : j < m.length) (hl : tlt (m[j]) (m[k]) = false) : downH tlt f m k n = (m, k) := by
  cases f with
  | zero => rfl
  | succ f =>
    simp only [downH]
    rw [if_neg h]
    simp only [hj, List.getElem?_eq_getElem hjm, List.getElem?_eq_getElem hk]
    rw [if_pos hl]
theorem downH_go {m : List Timer} {k n j f : Nat} (h : ¬ n ≤ 2 * k + 1) (hj : lessOf tlt m k n = j) (hk : k < m.length) (hjm : j < m.length) (hl : tlt (m[j]) (m[k]) = true) : downH tlt (f + 1) m k n = downH tlt f (swapL m k j) j n := by
  simp only [downH]
  rw [if_neg h]
  simp only [hj, List.getElem?_eq_getElem hjm, List.getElem?_eq_getElem hk]
  rw [if_neg (by rw [hl]; simp)]
theorem lessOf_two {m : List Timer} {k n : Nat} (h1 : 2 * k + 1 < m.length) (h2 : 2 * k + 1 + 1 < m.length) (hn : 2 * k + 1 + 1 < n) (h : tlt (m[2 * k + 1 + 1]) (m[2 * k + 1]) = true) : lessOf tlt m k n = 2 * k + 1 + 1 := by
  simp only [lessOf, List.getElem?_eq_getElem h1, List.getElem?_eq_getElem h2]
  rw [if_pos ⟨hn, h⟩]
theorem lessOf_one {m : List Timer} {k n : Nat} (h1 : 2 * k + 1 < m.length) (h2 : 2 * k + 1 + 1 < m.length) (h : tlt (m[2 * k + 1 + 1]) (m[2 * k + 1]) = false) : lessOf tlt m k n = 2 * k + 1 := by
  simp only [lessOf, List.getElem?_eq_getElem h1, List.getElem?_eq_getElem h2]
  rw [if_neg (by rw [h]; simp)]
theorem lessOf_last {m : List Timer} {k n : Nat} (hn : ¬ 2 * k + 1 + 1 < n) : lessOf tlt m k n = 2 * k + 1 := by
  simp only [lessOf]
  split
  · rw [if_neg (fun h => hn h.1)]
  · rfl

theorem queue_less_n {w : World} {base N g cap : Nat} {l : List Timer} (hN : l.length = N) (h : w.ownsRow base 101 3 (.slice (some ⟨g, 0, none⟩) N cap) N (flat Timer.cells l)) (i j : Nat) (hi : i < l.length) (hj : j < l.length) :
    Calls Try.prog 126 #[.slice (some ⟨g, 0, none⟩) N cap, .int .i64 i, .int .i64 j] w fun e w' => e = .returned (.bool (tlt l[i] l[j])) ∧ Keep none_ w w' := by
  subst hN
  exact queue_less (Sl.of_own (enc := Timer.cells) timer_len3 (by decide) h) i j hi hj
set_option maxHeartbeats 4000000 in
set_option maxRecDepth 100000 in
theorem heap_down {w : World} {p : Nat} {v : Value} {l : List Timer} (hp : At w p #[v] 141) (h : QAt w (p + 1) v l) (hlen : l.length ≤ 1000) (i n : Nat) (hi : i < l.length) (hn : n ≤ l.length) :
    Calls Try.prog 96 #[.iface 144 (.pointer (some ⟨p, 0, none⟩)), .int .i64 i, .int .i64 n] w fun e w' =>
      e = .returned (.bool (decide (i < (downH tlt (n + 1) l i n).2))) ∧
      QAt w' (p + 1) v (downH tlt (n + 1) l i n).1 ∧ Keep (own v) w w' := by
  obtain ⟨g, cap, rfl, hbg, hgl, hlc, hnc⟩ := own_some h (by omega)
  go_enter Try.func96, Try.ntmps96
  go_wp2_with fail
  go_loopw [7] (fun ki wr => ∃ (k f : Nat) (m : List Timer), ki = .int .i64 k ∧ At wr p #[.slice (some ⟨g, 0, none⟩) l.length cap] 141 ∧ wr.ownsRow (p + 1) 101 3 (.slice (some ⟨g, 0, none⟩) l.length cap) l.length (flat Timer.cells m) ∧ Hid (m.length = l.length) ∧ k < l.length ∧ i ≤ k ∧ Hid (n < f + k) ∧ Hid (downH tlt f m k n = downH tlt (n + 1) l i n) ∧ Keep (one g) w wr)
    (fun ki _ => l.length - (intOf ki).toNat)
  case atStart => exact ⟨i, n + 1, l, rfl, hp, h, Lib.hid rfl, hi, Nat.le_refl _, Lib.hid (by omega), Lib.hid rfl, Keep.refl _ _⟩
  case round =>
    clear hp h
    obtain ⟨k, f, m, rfl, hp, h, hml, hk, hik, hf, hdn, kk⟩ := hrel
    have hpl := hp.lt
    have c0 : wr.cell? ⟨p, 0, none⟩ = some (.slice (some ⟨g, 0, none⟩) l.length cap) := At.cell hp 0
    have ml := meth_less c0
    obtain ⟨j1, hj1⟩ : ∃ j1, j1 = 2 * k + 1 := ⟨_, rfl⟩
    have e1 : 2 * (k : Int) + 1 = (j1 : Int) := by omega
    have hd0 := decide_eq_false (show ¬ (j1 : Int) < 0 by omega)
    by_cases hend : n ≤ j1
    · have hd1 : decide ((n : Int) ≤ (j1 : Int)) = true := by simp; omega
      replace hj1 := Lib.hid hj1
      go_wp2_with fail
      go_ret
      have hr : downH tlt (n + 1) l i n = (m, k) := by rw [← hdn.out]; exact downH_end (by have := hj1.out; omega)
      rw [hr]
      refine ⟨rfl, ?_, kk.mono (fun z _ e => by unfold one at e; simp [own, Value.ownBlock, e])⟩
      unfold QAt
      rw [hml.out]
      exact h
    · obtain ⟨j2, hj2⟩ : ∃ j2, j2 = 2 * k + 1 + 1 := ⟨_, rfl⟩
      have e2 : (j1 : Int) + 1 = (j2 : Int) := by omega
      have hd1 : decide ((n : Int) ≤ (j1 : Int)) = false := by simp; omega
      have hmk := hml.out
      have hkm : Hid (k < m.length) := Lib.hid (by omega)
      have j1m : Hid (j1 < m.length) := Lib.hid (by omega)
      have j1l : Hid (j1 < l.length) := Lib.hid (by omega)
      have j1k : Hid (k < j1) := Lib.hid (by omega)
      have j2k : Hid (k < j2) := Lib.hid (by omega)
      have hnk : Hid (k < n) := Lib.hid (by omega)
      have j2b : j2 ≤ 1001 := by omega
      have hend : Hid (¬ n ≤ 2 * k + 1) := Lib.hid (by omega)
      clear hmk
      by_cases h2 : j2 < n
      · have hd2 : decide ((j2 : Int) < (n : Int)) = true := by simp; omega
        have j2m : Hid (j2 < m.length) := Lib.hid (by have := hml.out; omega)
        have j2l : Hid (j2 < l.length) := Lib.hid (by omega)
        have cl := queue_less_n (w := wr) (l := m) hml.out h j2 j1 j2m.out j1m.out
        replace cl := Lib.hid cl
        replace hj1 := Lib.hid hj1
        replace hj2 := Lib.hid hj2
        go_wp2_with fail
        refine cl.out.mono ?_
        rintro e w1 ⟨rfl, k1⟩
        have hp1 := Keep.at k1 hp (fun e => e)
        have c1 : w1.cell? ⟨p, 0, none⟩ = some (.slice (some ⟨g, 0, none⟩) l.length cap) := At.cell hp1 0
        have m1 := meth_less c1
        have h1 : w1.ownsRow (p + 1) 101 3 (.slice (some ⟨g, 0, none⟩) l.length cap) l.length (flat Timer.cells m) := own_keep h k1 (fun _ _ e => e)
        have kk1 := kk.trans (k1.mono (S' := one g) (fun _ _ e => e.elim))
        clear cl ml
        cases hl2 : tlt (m[j2]'j2m.out) (m[j1]'j1m.out)
        · have les : Hid (lessOf tlt m k n = j1) := Lib.hid (by
            have a1 := hj1.out; have a2 := hj2.out
            subst a1; subst a2
            exact lessOf_one j1m.out j2m.out hl2)
          have cl2 := queue_less_n (w := w1) (l := m) hml.out h1 j1 k j1m.out hkm.out
          replace cl2 := Lib.hid cl2
          go_wp2_with fail
          refine cl2.out.mono ?_
          rintro e w3 ⟨rfl, k3⟩
          have h3 : w3.ownsRow (p + 1) 101 3 (.slice (some ⟨g, 0, none⟩) l.length cap) l.length (flat Timer.cells m) := own_keep h1 k3 (fun _ _ e => e)
          have hp3 := Keep.at k3 (show At w1 p _ _ from ‹_›) (fun e => e)
          have c3 : w3.cell? ⟨p, 0, none⟩ = some (.slice (some ⟨g, 0, none⟩) l.length cap) := At.cell hp3 0
          have m3 := meth_swap c3
          have kk3 := kk1.trans (k3.mono (S' := one g) (fun _ _ e => e.elim))
          clear cl2
          cases hlt : tlt (m[j1]'j1m.out) (m[k]'hkm.out)
          · go_wp2_with fail
            go_ret
            have hr : downH tlt (n + 1) l i n = (m, k) := by rw [← hdn.out]; exact downH_stop hend.out les.out hkm.out j1m.out hlt
            rw [hr]
            refine ⟨rfl, ?_, kk3.mono (fun z _ e => by unfold one at e; simp [own, Value.ownBlock, e])⟩
            unfold QAt
            rw [hml.out]
            exact h3
          · have cs := queue_swap (w := w3) (base := p + 1) (g := g) (cap := cap) (l := m) (by unfold QAt; rw [hml.out]; exact h3) k j1 hkm.out j1m.out
            rw [hml.out] at cs
            replace cs := Lib.hid cs
            go_wp2_with fail
            refine cs.out.mono ?_
            rintro e w4 ⟨rfl, h4, k4⟩
            have hp4 := Keep.at k4 hp3 (fun e => by unfold one at e; omega)
            clear cs m3 c3
            go_wp2_with fail
            go_round
            case rel =>
              have hfk := hf.out
              obtain ⟨f', rfl⟩ : ∃ f', f = f' + 1 := ⟨f - 1, by have := hnk.out; omega⟩
              have hjk : k < j1 := by have := j1k.out; omega
              refine ⟨j1, f', swapL m k j1, rfl, hp4, ?_, Lib.hid (by rw [swapL_len]; exact hml.out), j1l.out, by omega, Lib.hid (by omega), Lib.hid ?_, kk3.trans k4⟩
              · have := h4
                unfold QAt at this
                rw [swapL_len, hml.out] at this
                exact this
              · rw [← hdn.out, downH_go hend.out les.out hkm.out j1m.out hlt]
            case measure => have := j1k.out; have := j1l.out; simp [intOf]; omega
        · have les : Hid (lessOf tlt m k n = j2) := Lib.hid (by
            have a1 := hj1.out; have a2 := hj2.out
            subst a1; subst a2
            exact lessOf_two j1m.out j2m.out h2 hl2)
          have cl2 := queue_less_n (w := w1) (l := m) hml.out h1 j2 k j2m.out hkm.out
          replace cl2 := Lib.hid cl2
          go_wp2_with fail
          refine cl2.out.mono ?_
          rintro e w3 ⟨rfl, k3⟩
          have h3 : w3.ownsRow (p + 1) 101 3 (.slice (some ⟨g, 0, none⟩) l.length cap) l.length (flat Timer.cells m) := own_keep h1 k3 (fun _ _ e => e)
          have hp3 := Keep.at k3 (show At w1 p _ _ from ‹_›) (fun e => e)
          have c3 : w3.cell? ⟨p, 0, none⟩ = some (.slice (some ⟨g, 0, none⟩) l.length cap) := At.cell hp3 0
          have m3 := meth_swap c3
          have kk3 := kk1.trans (k3.mono (S' := one g) (fun _ _ e => e.elim))
          clear cl2
          cases hlt : tlt (m[j2]'j2m.out) (m[k]'hkm.out)
          · go_wp2_with fail
            go_ret
            have hr : downH tlt (n + 1) l i n = (m, k) := by rw [← hdn.out]; exact downH_stop hend.out les.out hkm.out j2m.out hlt
            rw [hr]
            refine ⟨rfl, ?_, kk3.mono (fun z _ e => by unfold one at e; simp [own, Value.ownBlock, e])⟩
            unfold QAt
            rw [hml.out]
            exact h3
          · have cs := queue_swap (w := w3) (base := p + 1) (g := g) (cap := cap) (l := m) (by unfold QAt; rw [hml.out]; exact h3) k j2 hkm.out j2m.out
            rw [hml.out] at cs
            replace cs := Lib.hid cs
            go_wp2_with fail
            refine cs.out.mono ?_
            rintro e w4 ⟨rfl, h4, k4⟩
            have hp4 := Keep.at k4 hp3 (fun e => by unfold one at e; omega)
            clear cs m3 c3
            go_wp2_with fail
            go_round
            case rel =>
              have hfk := hf.out
              obtain ⟨f', rfl⟩ : ∃ f', f = f' + 1 := ⟨f - 1, by have := hnk.out; omega⟩
              have hjk : k < j2 := by have := j2k.out; omega
              refine ⟨j2, f', swapL m k j2, rfl, hp4, ?_, Lib.hid (by rw [swapL_len]; exact hml.out), j2l.out, by omega, Lib.hid (by omega), Lib.hid ?_, kk3.trans k4⟩
              · have := h4
                unfold QAt at this
                rw [swapL_len, hml.out] at this
                exact this
              · rw [← hdn.out, downH_go hend.out les.out hkm.out j2m.out hlt]
            case measure => have := j2k.out; have := j2l.out; simp [intOf]; omega
      · have hd2 : decide ((j2 : Int) < (n : Int)) = false := by simp; omega
        have les : Hid (lessOf tlt m k n = j1) := Lib.hid (by rw [hj1]; exact lessOf_last (by omega))
        replace hj1 := Lib.hid hj1
        replace hj2 := Lib.hid hj2
        have cl2 := queue_less_n (w := wr) (l := m) hml.out h j1 k j1m.out hkm.out
        replace cl2 := Lib.hid cl2
        go_wp2_with fail
        refine cl2.out.mono ?_
        rintro e w3 ⟨rfl, k3⟩
        have h3 : w3.ownsRow (p + 1) 101 3 (.slice (some ⟨g, 0, none⟩) l.length cap) l.length (flat Timer.cells m) := own_keep h k3 (fun _ _ e => e)
        have hp3 := Keep.at k3 (show At wr p _ _ from ‹_›) (fun e => e)
        have c3 : w3.cell? ⟨p, 0, none⟩ = some (.slice (some ⟨g, 0, none⟩) l.length cap) := At.cell hp3 0
        have m3 := meth_swap c3
        have kk3 := kk.trans (k3.mono (S' := one g) (fun _ _ e => e.elim))
        clear cl2
        cases hlt : tlt (m[j1]'j1m.out) (m[k]'hkm.out)
        · go_wp2_with fail
          go_ret
          have hr : downH tlt (n + 1) l i n = (m, k) := by rw [← hdn.out]; exact downH_stop hend.out les.out hkm.out j1m.out hlt
          rw [hr]
          refine ⟨rfl, ?_, kk3.mono (fun z _ e => by unfold one at e; simp [own, Value.ownBlock, e])⟩
          unfold QAt
          rw [hml.out]
          exact h3
        · have cs := queue_swap (w := w3) (base := p + 1) (g := g) (cap := cap) (l := m) (by unfold QAt; rw [hml.out]; exact h3) k j1 hkm.out j1m.out
          rw [hml.out] at cs
          replace cs := Lib.hid cs
          go_wp2_with fail
          refine cs.out.mono ?_
          rintro e w4 ⟨rfl, h4, k4⟩
          have hp4 := Keep.at k4 hp3 (fun e => by unfold one at e; omega)
          clear cs m3 c3
          go_wp2_with fail
          go_round
          case rel =>
            have hfk := hf.out
            obtain ⟨f', rfl⟩ : ∃ f', f = f' + 1 := ⟨f - 1, by have := hnk.out; omega⟩
            have hjk : k < j1 := by have := j1k.out; omega
            refine ⟨j1, f', swapL m k j1, rfl, hp4, ?_, Lib.hid (by rw [swapL_len]; exact hml.out), j1l.out, by omega, Lib.hid (by omega), Lib.hid ?_, kk3.trans k4⟩
            · have := h4
              unfold QAt at this
              rw [swapL_len, hml.out] at this
              exact this
            · rw [← hdn.out, downH_go hend.out les.out hkm.out j1m.out hlt]
          case measure => have := j1k.out; have := j1l.out; simp [intOf]; omega
end Go.Proofs.Ytlnlbegcnhelmaa
