/-
  What Put and Merge keep (plain).
-/
import Derived.Test.YtmioichjhiengaaPaneMergeLaw
namespace Go.Proofs.Ytmioichjhiengaa
open Go.RowKit

theorem insL_mem {α : Type} {l : List α} {i : Nat} {x y : α} : y ∈ insL l i x ↔ y = x ∨ y ∈ l := by
  unfold insL
  rw [List.mem_append, List.mem_cons]
  have : y ∈ l ↔ y ∈ l.take i ∨ y ∈ l.drop i := by rw [← List.mem_append, List.take_append_drop]
  rw [this]
  constructor
  · rintro (h | h | h) <;> simp [h]
  · rintro (h | h | h) <;> simp [h]
theorem insL_pairwise {α : Type} {R : α → α → Prop} {l : List α} {i : Nat} {x : α} (h : l.Pairwise R) (h1 : ∀ k (hk : k < l.length), k < i → R l[k] x) (h2 : ∀ k (hk : k < l.length), i ≤ k → R x l[k]) : (insL l i x).Pairwise R := by
  have hl : (l.take i ++ l.drop i).Pairwise R := by rw [List.take_append_drop]; exact h
  rw [List.pairwise_append] at hl
  obtain ⟨ha, hb, hab⟩ := hl
  unfold insL
  rw [List.pairwise_append, List.pairwise_cons]
  refine ⟨ha, ⟨fun y hy => ?_, hb⟩, fun y hy z hz => ?_⟩
  · obtain ⟨j, hj, rfl⟩ := List.getElem_of_mem hy
    rw [List.getElem_drop]
    exact h2 _ _ (Nat.le_add_right _ _)
  · obtain ⟨j, hj, rfl⟩ := List.getElem_of_mem hy
    rw [List.length_take] at hj
    rcases List.mem_cons.1 hz with rfl | hz
    · rw [List.getElem_take]
      exact h1 j (by omega) (by omega)
    · exact hab _ (List.getElem_mem _) z hz
theorem lbP_above {xs : List Pane} {s : Span} (hs : SortedP xs) {k : Nat} (hk : k < xs.length) (h : lbP xs s ≤ k) : slt xs[k].span s = false := by
  have hl : lbP xs s < xs.length := by omega
  have e := lbP_at hl
  rcases Nat.eq_or_lt_of_le h with h | h
  · subst h; exact e
  · cases h4 : slt xs[k].span s
    · rfl
    · rw [slt_tra (List.pairwise_iff_getElem.1 hs _ _ hl hk h) h4] at e
      cases e
theorem isP_iff {xs : List Pane} {s : Span} (hs : SortedP xs) : isP xs s = true ↔ ∃ p ∈ xs, p.span = s := by
  constructor
  · intro h
    obtain ⟨hl, e⟩ := isP_at h
    exact ⟨_, List.getElem_mem hl, e⟩
  · rintro ⟨p, hp, rfl⟩
    obtain ⟨i, hi, rfl⟩ := List.getElem_of_mem hp
    have : lbP xs xs[i].span = i := lbP_unique (by omega) (fun k hk hki => List.pairwise_iff_getElem.1 hs _ _ hk hi hki) (fun _ => slt_irr _)
    unfold isP
    rw [this, List.getElem?_eq_getElem hi]
    simp [Span.cmp_zero.2 rfl]
theorem findP_has {xs : List Pane} {s : Span} (h : isP xs s = true) : ∃ p, findP xs s = (p, true) ∧ p.span = s ∧ p ∈ xs := by
  obtain ⟨hl, e⟩ := isP_at h
  refine ⟨xs[lbP xs s], ?_, e, List.getElem_mem hl⟩
  unfold findP
  rw [h, List.getElem?_eq_getElem hl]
theorem ins_sorted {xs : List Pane} (hs : SortedP xs) (p : Pane) (hn : isP xs p.span = false) : SortedP (insL xs (lbP xs p.span) p) := by
  refine insL_pairwise hs (fun k hk h => lbP_below h) (fun k hk h => ?_)
  have h1 := lbP_above hs hk h
  cases h2 : slt p.span xs[k].span
  · exfalso
    have := slt_tri h2 h1
    rw [(isP_iff hs).2 ⟨_, List.getElem_mem hk, this.symm⟩] at hn
    cases hn
  · rfl

/-! Counts and sums -/
def cnt (l : List Pane) : Int := (l.map (·.agg.count)).sum
def sms (l : List Pane) : Int := (l.map (·.agg.sum)).sum
def Same64 (a b : Int) : Prop := a % 18446744073709551616 = b % 18446744073709551616
theorem cnt_ins (l : List Pane) (i : Nat) (p : Pane) : cnt (insL l i p) = cnt l + p.agg.count := by
  have h : cnt l = cnt (l.take i ++ l.drop i) := by rw [List.take_append_drop]
  rw [h]
  simp only [cnt, insL, List.map_append, List.map_cons, List.sum_append, List.sum_cons]
  omega
theorem sms_ins (l : List Pane) (i : Nat) (p : Pane) : sms (insL l i p) = sms l + p.agg.sum := by
  have h : sms l = sms (l.take i ++ l.drop i) := by rw [List.take_append_drop]
  rw [h]
  simp only [sms, insL, List.map_append, List.map_cons, List.sum_append, List.sum_cons]
  omega
theorem cnt_split (q : Pane → Bool) : ∀ l : List Pane, cnt l = cnt (l.filter q) + cnt (l.filter (fun x => !q x))
  | [] => rfl
  | x :: l => by
    have ih := cnt_split q l
    cases h : q x <;> simp [cnt, h] at ih ⊢ <;> omega
theorem sms_split (q : Pane → Bool) : ∀ l : List Pane, sms l = sms (l.filter q) + sms (l.filter (fun x => !q x))
  | [] => rfl
  | x :: l => by
    have ih := sms_split q l
    cases h : q x <;> simp [sms, h] at ih ⊢ <;> omega
/-- Each counts from one on; so many in all. -/
structure Counts (l : List Pane) (n : Int) (t : Int) : Prop where
  pos : ∀ p ∈ l, 1 ≤ p.agg.count
  all : cnt l = n
  sum : Same64 (sms l) t
theorem wrap64_small {a : Int} (h1 : 0 ≤ a) (h2 : a ≤ 1000000) : wrap64 a = a := by unfold wrap64; omega
theorem wrap64_same (a : Int) : Same64 (wrap64 a) a := by unfold Same64 wrap64; omega
theorem cnt_nonneg {l : List Pane} (h : ∀ p ∈ l, 1 ≤ p.agg.count) : 0 ≤ cnt l := by
  induction l with
  | nil => exact Int.le_refl _
  | cons x l ih =>
    have h1 := ih (fun p hp => h p (by simp [hp]))
    have h2 := h x (by simp)
    simp only [cnt, List.map_cons, List.sum_cons] at h1 ⊢
    omega
theorem fold_counts : ∀ (l : List Pane) (p : Pane), 1 ≤ p.agg.count → (∀ x ∈ l, 1 ≤ x.agg.count) → p.agg.count + cnt l ≤ 1000000 →
    (l.foldl mergeStep p).agg.count = p.agg.count + cnt l ∧ Same64 (l.foldl mergeStep p).agg.sum (p.agg.sum + sms l)
  | [], p, _, _, _ => by simp [cnt, sms, Same64]
  | x :: l, p, h, hl, hb => by
    have hx := hl x (by simp)
    have hn := cnt_nonneg (l := l) (fun q hq => hl q (by simp [hq]))
    simp only [cnt, sms, List.map_cons, List.sum_cons] at hb ⊢
    have he : (mergeStep p x).agg.count = p.agg.count + x.agg.count := by
      simp only [mergeStep]
      rw [Agg.merge_eq h hx]
      exact wrap64_small (by omega) (by simp only [cnt] at hn; omega)
    have hs : Same64 (mergeStep p x).agg.sum (p.agg.sum + x.agg.sum) := by
      simp only [mergeStep]
      rw [Agg.merge_eq h hx]
      exact wrap64_same _
    have ih := fold_counts l (mergeStep p x) (by rw [he]; omega) (fun q hq => hl q (by simp [hq])) (by rw [he]; simp only [cnt]; omega)
    rw [List.foldl_cons, ih.1, he]
    refine ⟨by simp only [cnt]; omega, ?_⟩
    have h2 := ih.2
    unfold Same64 at *
    simp only [sms] at h2
    omega
theorem counts_merge {l : List Pane} {n t v : Int} (h : Counts l n t) (hn : n < 1000000) (key : ByteArray) (s : Span) : Counts (mergeP key s v l) (n + 1) (t + v) := by
  have hm : ∀ x ∈ metP l s, 1 ≤ x.agg.count := fun x hx => h.pos x (List.mem_filter.1 hx).1
  have ho : ∀ x ∈ outP l s, 1 ≤ x.agg.count := fun x hx => h.pos x (List.mem_filter.1 hx).1
  have hc := cnt_split (fun x => x.span.meetB s) l
  have hs := sms_split (fun x => x.span.meetB s) l
  have hno := cnt_nonneg ho
  have hnm := cnt_nonneg hm
  have hf := fold_counts (metP l s) ⟨key, s, Agg.one v⟩ (by simp [Agg.one]) hm (by simp only [Agg.one]; have := h.all; unfold metP outP at *; omega)
  simp only [Agg.one] at hf
  have ha : (accP key s v l).agg.count = 1 + cnt (metP l s) := hf.1
  refine ⟨fun p hp => ?_, ?_, ?_⟩
  · rcases insL_mem.1 hp with rfl | hp
    · rw [ha]; omega
    · exact ho p hp
  · unfold mergeP
    rw [cnt_ins, ha]
    have := h.all
    unfold metP outP at *
    omega
  · unfold mergeP
    rw [sms_ins]
    have h1 : Same64 (accP key s v l).agg.sum (v + sms (metP l s)) := hf.2
    have h2 := h.sum
    unfold Same64 at *
    unfold metP outP at *
    omega
theorem cnt_set {l : List Pane} {i : Nat} (hi : i < l.length) (p : Pane) : cnt (l.set i p) = cnt l - l[i].agg.count + p.agg.count := by
  have e : l = l.take i ++ l[i] :: l.drop (i + 1) := by rw [← List.drop_eq_getElem_cons hi, List.take_append_drop]
  have e2 : l.set i p = l.take i ++ p :: l.drop (i + 1) := List.set_eq_take_append_cons_drop.trans (if_pos hi)
  have h1 : cnt l = cnt (l.take i ++ l[i] :: l.drop (i + 1)) := congrArg cnt e
  rw [e2, h1]
  simp only [cnt, List.map_append, List.map_cons, List.sum_append, List.sum_cons]
  omega
theorem sms_set {l : List Pane} {i : Nat} (hi : i < l.length) (p : Pane) : sms (l.set i p) = sms l - l[i].agg.sum + p.agg.sum := by
  have e : l = l.take i ++ l[i] :: l.drop (i + 1) := by rw [← List.drop_eq_getElem_cons hi, List.take_append_drop]
  have e2 : l.set i p = l.take i ++ p :: l.drop (i + 1) := List.set_eq_take_append_cons_drop.trans (if_pos hi)
  have h1 : sms l = sms (l.take i ++ l[i] :: l.drop (i + 1)) := congrArg sms e
  rw [e2, h1]
  simp only [sms, List.map_append, List.map_cons, List.sum_append, List.sum_cons]
  omega
theorem cnt_mem {l : List Pane} (h : ∀ p ∈ l, 1 ≤ p.agg.count) {p : Pane} (hp : p ∈ l) : p.agg.count ≤ cnt l := by
  induction l with
  | nil => cases hp
  | cons x l ih =>
    have hn := cnt_nonneg (l := l) (fun p hp => h p (by simp [hp]))
    have hx := h x (by simp)
    simp only [cnt, List.map_cons, List.sum_cons] at hn ⊢
    rcases List.mem_cons.1 hp with rfl | hp
    · omega
    · have := ih (fun p hp => h p (by simp [hp])) hp
      simp only [cnt] at this
      omega
theorem counts_put {l : List Pane} {n t v : Int} (h : Counts l n t) (hn : n < 1000000) (key : ByteArray) (s : Span) : Counts (putP l key s v) (n + 1) (t + v) := by
  cases hb : isP l s
  · have hp : putP l key s v = insL l (lbP l s) ⟨key, s, Agg.one v⟩ := by unfold putP; rw [hb]
    rw [hp]
    refine ⟨fun p hp => ?_, ?_, ?_⟩
    · rcases insL_mem.1 hp with rfl | hp
      · simp [Agg.one]
      · exact h.pos p hp
    · rw [cnt_ins, h.all]; rfl
    · rw [sms_ins]
      have := h.sum
      unfold Same64 at *
      simp only [Agg.one]
      omega
  · obtain ⟨hl, e⟩ := isP_at hb
    have hp : putP l key s v = l.set (lbP l s) { l[lbP l s] with agg := l[lbP l s].agg.merge (Agg.one v) } := by unfold putP; rw [hb, List.getElem?_eq_getElem hl]
    have hc := h.pos _ (List.getElem_mem hl)
    have hcm := cnt_mem h.pos (List.getElem_mem hl)
    have ha := h.all
    rw [hp]
    generalize lbP l s = i at *
    have hm : (l[i].agg.merge (Agg.one v)).count = l[i].agg.count + 1 := by
      rw [Agg.merge_eq hc (by simp [Agg.one])]
      exact wrap64_small (by simp [Agg.one]; omega) (by simp [Agg.one]; omega)
    have hs : Same64 (l[i].agg.merge (Agg.one v)).sum (l[i].agg.sum + v) := by
      rw [Agg.merge_eq hc (by simp [Agg.one])]
      exact wrap64_same _
    refine ⟨fun p hp => ?_, ?_, ?_⟩
    · rcases List.mem_or_eq_of_mem_set hp with hp | rfl
      · exact h.pos p hp
      · simp only [hm]; omega
    · rw [cnt_set hl]; simp only [hm]; omega
    · rw [sms_set hl]
      have := h.sum
      unfold Same64 at *
      simp only at *
      omega
end Go.Proofs.Ytmioichjhiengaa
