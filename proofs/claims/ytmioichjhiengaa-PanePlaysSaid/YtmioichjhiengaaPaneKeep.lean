/-
  What panes keep (plain): by rising windows; apart; numbers of 64 bits.
-/
import Derived.Test.YtmioichjhiengaaPaneLaw
namespace Go.Proofs.Ytmioichjhiengaa
open Go.RowKit

theorem put_sorted {l : List Pane} (hs : SortedP l) (key : ByteArray) (s : Span) (v : Int) : SortedP (putP l key s v) := by
  cases hb : isP l s
  · have hp : putP l key s v = insL l (lbP l s) ⟨key, s, Agg.one v⟩ := by unfold putP; rw [hb]
    rw [hp]
    exact ins_sorted hs ⟨key, s, Agg.one v⟩ hb
  · obtain ⟨hl, e⟩ := isP_at hb
    have hp : putP l key s v = l.set (lbP l s) { l[lbP l s] with agg := l[lbP l s].agg.merge (Agg.one v) } := by unfold putP; rw [hb, List.getElem?_eq_getElem hl]
    rw [hp]
    have hm : (l.set (lbP l s) { l[lbP l s] with agg := l[lbP l s].agg.merge (Agg.one v) }).map (·.span) = l.map (·.span) := by
      apply List.ext_getElem
      · simp
      · intro i h1 h2
        simp only [List.getElem_map, List.getElem_set]
        split
        · rename_i h; subst h; rfl
        · rfl
    have h2 : ∀ m : List Pane, SortedP m ↔ (m.map (·.span)).Pairwise (fun a b => slt a b = true) := fun m => by rw [List.pairwise_map]
    rw [h2, hm, ← h2]
    exact hs
theorem put_ok {l : List Pane} (hok : ∀ p ∈ l, p.ok) {key : ByteArray} {s : Span} {v : Int} (hk : key.size ≤ maxLen) (hs : s.ok) (hv : I64 v) : ∀ p ∈ putP l key s v, p.ok := by
  intro p hp
  cases hb : isP l s
  · have he : putP l key s v = insL l (lbP l s) ⟨key, s, Agg.one v⟩ := by unfold putP; rw [hb]
    rw [he] at hp
    rcases insL_mem.1 hp with rfl | hp
    · exact ⟨hk, hs, one_ok hv⟩
    · exact hok p hp
  · obtain ⟨hl, e⟩ := isP_at hb
    have he : putP l key s v = l.set (lbP l s) { l[lbP l s] with agg := l[lbP l s].agg.merge (Agg.one v) } := by unfold putP; rw [hb, List.getElem?_eq_getElem hl]
    rw [he] at hp
    rcases List.mem_or_eq_of_mem_set hp with hp | rfl
    · exact hok p hp
    · have := hok _ (List.getElem_mem hl)
      exact ⟨this.1, this.2.1, Agg.merge_ok this.2.2 (one_ok hv)⟩
theorem put_has {l : List Pane} (hs : SortedP l) (key : ByteArray) (s : Span) (v : Int) : isP (putP l key s v) s = true := by
  rw [isP_iff (put_sorted hs key s v)]
  cases hb : isP l s
  · have hp : putP l key s v = insL l (lbP l s) ⟨key, s, Agg.one v⟩ := by unfold putP; rw [hb]
    rw [hp]
    exact ⟨⟨key, s, Agg.one v⟩, insL_mem.2 (.inl rfl), rfl⟩
  · obtain ⟨hl, e⟩ := isP_at hb
    have hp : putP l key s v = l.set (lbP l s) { l[lbP l s] with agg := l[lbP l s].agg.merge (Agg.one v) } := by unfold putP; rw [hb, List.getElem?_eq_getElem hl]
    rw [hp]
    exact ⟨_, List.mem_set hl _, e⟩
theorem put_len (l : List Pane) (key : ByteArray) (s : Span) (v : Int) : (putP l key s v).length ≤ l.length + 1 := by
  unfold putP
  split
  · simp
  · rw [insL_len]; exact Nat.le_refl _
theorem merge_len (l : List Pane) (key : ByteArray) (s : Span) (v : Int) : (mergeP key s v l).length ≤ l.length + 1 := by
  unfold mergeP
  rw [insL_len]
  exact Nat.succ_le_succ (List.length_filter_le _ _)

/-! Windows that are, apart -/
structure Apart (l : List Pane) : Prop where
  may : ∀ p ∈ l, p.span.s < p.span.e
  apart : l.Pairwise (fun a b => a.span.e ≤ b.span.s)
theorem Apart.sorted {l : List Pane} (h : Apart l) : SortedP l := by
  rw [SortedP, List.pairwise_iff_getElem]
  intro i j hi hj hij
  have h1 := List.pairwise_iff_getElem.1 h.apart i j hi hj hij
  have h2 := h.may _ (List.getElem_mem hi)
  rw [slt_iff]
  omega
theorem Apart.two {l : List Pane} (h : Apart l) {a b : Pane} (ha : a ∈ l) (hb : b ∈ l) : a = b ∨ a.span.e ≤ b.span.s ∨ b.span.e ≤ a.span.s := by
  obtain ⟨i, hi, rfl⟩ := List.getElem_of_mem ha
  obtain ⟨j, hj, rfl⟩ := List.getElem_of_mem hb
  rcases Nat.lt_trichotomy i j with h1 | h1 | h1
  · exact .inr (.inl (List.pairwise_iff_getElem.1 h.apart i j hi hj h1))
  · subst h1; exact .inl rfl
  · exact .inr (.inr (List.pairwise_iff_getElem.1 h.apart j i hj hi h1))
theorem meetB_iff {a b : Span} (ha : a.s < a.e) (hb : b.s < b.e) : a.meetB b = true ↔ a.s < b.e ∧ b.s < a.e := by
  simp [Span.meetB, Span.mayB, ha, hb]
theorem fold_span : ∀ (l : List Pane) (p : Pane), (l.foldl mergeStep p).span.s ≤ p.span.s ∧ p.span.e ≤ (l.foldl mergeStep p).span.e ∧
    ((l.foldl mergeStep p).span.s = p.span.s ∨ ∃ x ∈ l, (l.foldl mergeStep p).span.s = x.span.s) ∧ ((l.foldl mergeStep p).span.e = p.span.e ∨ ∃ x ∈ l, (l.foldl mergeStep p).span.e = x.span.e)
  | [], p => ⟨Int.le_refl _, Int.le_refl _, .inl rfl, .inl rfl⟩
  | x :: l, p => by
    obtain ⟨h1, h2, h3, h4⟩ := fold_span l (mergeStep p x)
    have e1 : (mergeStep p x).span.s ≤ p.span.s ∧ ((mergeStep p x).span.s = p.span.s ∨ (mergeStep p x).span.s = x.span.s) := by
      simp only [mergeStep, Span.join]; split <;> omega
    have e2 : p.span.e ≤ (mergeStep p x).span.e ∧ ((mergeStep p x).span.e = p.span.e ∨ (mergeStep p x).span.e = x.span.e) := by
      simp only [mergeStep, Span.join]; split <;> omega
    rw [List.foldl_cons]
    generalize mergeStep p x = q at *
    refine ⟨by omega, by omega, ?_, ?_⟩
    · rcases h3 with h3 | ⟨y, hy, h3⟩
      · rcases e1.2 with e | e
        · exact .inl (h3.trans e)
        · exact .inr ⟨x, by simp, h3.trans e⟩
      · exact .inr ⟨y, by simp [hy], h3⟩
    · rcases h4 with h4 | ⟨y, hy, h4⟩
      · rcases e2.2 with e | e
        · exact .inl (h4.trans e)
        · exact .inr ⟨x, by simp, h4.trans e⟩
      · exact .inr ⟨y, by simp [hy], h4⟩
theorem merge_apart {l : List Pane} (h : Apart l) (key : ByteArray) {s : Span} (v : Int) (hs : s.s < s.e) : Apart (mergeP key s v l) := by
  obtain ⟨h1, h2, h3, h4⟩ := fold_span (metP l s) ⟨key, s, Agg.one v⟩
  have ho : Apart (outP l s) := ⟨fun p hp => h.may p (List.mem_filter.1 hp).1, h.apart.filter _⟩
  have hout : ∀ x ∈ outP l s, x.span.e ≤ (accP key s v l).span.s ∨ (accP key s v l).span.e ≤ x.span.s := by
    intro x hx
    have hxl := (List.mem_filter.1 hx).1
    have hxm := (List.mem_filter.1 hx).2
    have hxv := h.may x hxl
    have hno : ¬ (x.span.s < s.e ∧ s.s < x.span.e) := fun e => by
      rw [(meetB_iff hxv hs).2 e] at hxm
      cases hxm
    have hmet : ∀ y ∈ metP l s, (y.span.s < s.e ∧ s.s < y.span.e) ∧ y.span.s < y.span.e ∧ (y.span.e ≤ x.span.s ∨ x.span.e ≤ y.span.s) := fun y hy => by
      have hyl := (List.mem_filter.1 hy).1
      have hyv := h.may y hyl
      have hym := (meetB_iff hyv hs).1 (List.mem_filter.1 hy).2
      refine ⟨hym, hyv, ?_⟩
      rcases h.two hyl hxl with e | e | e
      · subst e; exact absurd hym hno
      · exact .inl e
      · exact .inr e
    show x.span.e ≤ (accP key s v l).span.s ∨ (accP key s v l).span.e ≤ x.span.s
    have h3' : (accP key s v l).span.s = s.s ∨ ∃ y ∈ metP l s, (accP key s v l).span.s = y.span.s := h3
    have h4' : (accP key s v l).span.e = s.e ∨ ∃ y ∈ metP l s, (accP key s v l).span.e = y.span.e := h4
    by_cases hL : x.span.e ≤ s.s
    · left
      rcases h3' with e | ⟨y, hy, e⟩
      · omega
      · have := hmet y hy
        omega
    · right
      rcases h4' with e | ⟨y, hy, e⟩
      · omega
      · have := hmet y hy
        omega
  have hJ : (accP key s v l).span.s < (accP key s v l).span.e := by
    have e1 : (accP key s v l).span.s ≤ s.s := h1
    have e2 : s.e ≤ (accP key s v l).span.e := h2
    omega
  refine ⟨fun p hp => ?_, ?_⟩
  · rcases insL_mem.1 hp with rfl | hp
    · exact hJ
    · exact ho.may p hp
  · refine insL_pairwise ho.apart (fun k hk hkl => ?_) (fun k hk hkl => ?_)
    · have e := lbP_below hkl
      have e2 := hout _ (List.getElem_mem hk)
      have e3 := ho.may _ (List.getElem_mem hk)
      rw [slt_iff] at e
      omega
    · have e := lbP_above ho.sorted hk hkl
      have e2 := hout _ (List.getElem_mem hk)
      have e3 := ho.may _ (List.getElem_mem hk)
      rw [slt_no] at e
      omega
theorem merge_ok {l : List Pane} (hok : ∀ p ∈ l, p.ok) {key : ByteArray} {s : Span} {v : Int} (hk : key.size ≤ maxLen) (hs : s.ok) (hv : I64 v) : ∀ p ∈ mergeP key s v l, p.ok := by
  intro p hp
  rcases insL_mem.1 hp with rfl | hp
  · obtain ⟨-, -, h3, h4⟩ := fold_span (metP l s) ⟨key, s, Agg.one v⟩
    have hm : ∀ y ∈ metP l s, y.ok := fun y hy => hok y (List.mem_filter.1 hy).1
    refine ⟨?_, ⟨?_, ?_⟩, accP_ok hv hok⟩
    · show ((metP l s).foldl mergeStep _).key.size ≤ _
      rw [fold_key]; exact hk
    · rcases h3 with e | ⟨y, hy, e⟩
      · show I64 ((metP l s).foldl mergeStep _).span.s
        rw [e]; exact hs.1
      · show I64 ((metP l s).foldl mergeStep _).span.s
        rw [e]; exact (hm y hy).2.1.1
    · rcases h4 with e | ⟨y, hy, e⟩
      · show I64 ((metP l s).foldl mergeStep _).span.e
        rw [e]; exact hs.2
      · show I64 ((metP l s).foldl mergeStep _).span.e
        rw [e]; exact (hm y hy).2.1.2
  · exact hok p (List.mem_filter.1 hp).1
end Go.Proofs.Ytmioichjhiengaa
