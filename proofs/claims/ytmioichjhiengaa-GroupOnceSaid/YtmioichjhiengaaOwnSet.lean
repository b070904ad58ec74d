/-
  A row of the call's own: an element stored, the last one dropped.
-/
import Derived.Test.YtmioichjhiengaaRing
import Derived.Test.YtmioichjhiengaaSl
namespace Go.Proofs.Ytmioichjhiengaa
open Go.RowKit

section
variable {α : Type} {enc : α → List Value} {k : Nat}
theorem own_stores {w : World} {base g n cap : Nat} {e : TypeId} {l : List α} (hl : ∀ x, (enc x).length = k) (hk : 0 < k) (h : w.ownsRow base e k (.slice (some ⟨g, 0, none⟩) n cap) n (flat enc l))
    (i : Nat) (hi : i < l.length) (x : α) : (stores w g (i * k) (enc x)).ownsRow base e k (.slice (some ⟨g, 0, none⟩) n cap) n (flat enc (l.set i x)) := by
  have hn := own_len hl hk h
  rcases h.2 with ⟨h0, -⟩ | ⟨g', cap', cur, he, hb, hg, hc, hm, hs, ht⟩
  · cases h0
  · obtain ⟨rfl, rfl⟩ : g = g' ∧ cap = cap' := by simpa using he
    have hin : i * k + k ≤ cur.size := by
      rw [hs]
      calc i * k + k = (i + 1) * k := by rw [Nat.add_mul]; omega
        _ ≤ cap * k := Nat.mul_le_mul_right _ (by omega)
    refine ⟨by rw [flat_length hl, List.length_set, hn], .inr ⟨g, cap, putC cur (i * k) (enc x), rfl, hb, At.setL (w := w) (enc x) (c := cur) hg, hc, hm, by rw [putC_size, hs], ?_⟩⟩
    apply List.ext_getElem?
    intro j
    by_cases hj : j < n * k
    · have hq : j / k < l.length := by rw [← hn]; exact Nat.div_lt_of_lt_mul (by rw [Nat.mul_comm]; exact hj)
      have hr : j % k < k := Nat.mod_lt _ hk
      have e1 : j / k * k + j % k = j := by rw [Nat.mul_comm]; exact Nat.div_add_mod j k
      rw [List.getElem?_take_of_lt hj, Array.getElem?_toList, putC_get _ _ _ _ (by rw [hl]; exact hin)]
      have f1 := flat_get hl (l.set i x) (j / k) (by simpa using hq) (j % k) hr
      have f2 := flat_get hl l (j / k) hq (j % k) hr
      rw [e1] at f1 f2
      rw [f1, hl]
      by_cases hij : j / k = i
      · have hjk : j = i * k + j % k := by rw [← hij]; exact e1.symm
        rw [if_pos (by omega)]
        have : (l.set i x)[j / k]'(by simpa using hq) = x := by simp [hij]
        rw [this, show j - i * k = j % k by omega]
      · rw [if_neg (by
          intro ⟨ha, hb2⟩
          apply hij
          have : j / k = i := by
            rw [Nat.div_eq_of_lt_le (by omega) (by rw [Nat.add_mul]; omega)]
          exact this)]
        rw [List.getElem_set_ne (by omega), ← f2, ← ht, List.getElem?_take_of_lt hj, Array.getElem?_toList]
    · rw [List.getElem?_eq_none (by rw [List.length_take]; omega), List.getElem?_eq_none (by rw [flat_length hl, List.length_set, ← hn]; omega)]
theorem own_shrink {w : World} {base g n cap m : Nat} {e : TypeId} {l : List α} (hl : ∀ x, (enc x).length = k) (hk : 0 < k) (h : w.ownsRow base e k (.slice (some ⟨g, 0, none⟩) n cap) n (flat enc l)) (hmn : m ≤ n) :
    w.ownsRow base e k (.slice (some ⟨g, 0, none⟩) m cap) m (flat enc (l.take m)) := by
  have hn := own_len hl hk h
  rcases h.2 with ⟨h0, -⟩ | ⟨g', cap', cur, he, hb, hg, hc, hm, hs, ht⟩
  · cases h0
  · obtain ⟨rfl, rfl⟩ : g = g' ∧ cap = cap' := by simpa using he
    refine ⟨by rw [flat_length hl, List.length_take, ← hn, Nat.min_eq_left hmn], .inr ⟨g, cap, cur, rfl, hb, hg, by omega, hm, hs, ?_⟩⟩
    have e1 : flat enc (l.take m) = (flat enc l).take (m * k) := by
      have : flat enc l = flat enc (l.take m) ++ flat enc (l.drop m) := by rw [← flat_append, List.take_append_drop]
      have hlen : (flat enc (l.take m)).length = m * k := by rw [flat_length hl, List.length_take, ← hn, Nat.min_eq_left hmn]
      rw [this]
      generalize flat enc (l.take m) = a at hlen ⊢
      generalize flat enc (l.drop m) = b
      rw [← hlen]; simp
    rw [e1, ← ht, List.take_take, Nat.min_eq_left (Nat.mul_le_mul_right _ hmn)]
theorem own_some {w : World} {base n : Nat} {e : TypeId} {v : Value} {xs : List Value} (h : w.ownsRow base e k v n xs) (hn : 0 < n) : ∃ g cap, v = .slice (some ⟨g, 0, none⟩) n cap ∧ base ≤ g ∧ g < w.heap.size ∧ n ≤ cap ∧ cap ≤ maxLen := by
  rcases h.2 with ⟨-, h0⟩ | ⟨g, cap, cur, rfl, hb, hg, hc, hm, -⟩
  · omega
  · exact ⟨g, cap, rfl, hb, (Array.getElem?_eq_some_iff.1 hg).1, hc, hm⟩
end
end Go.Proofs.Ytmioichjhiengaa
