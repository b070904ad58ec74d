/-
  A group: its map, its timers; what a put keeps (plain).
-/
import Derived.Test.YtmioichjhiengaaBaseMap
import Derived.Test.YtmioichjhiengaaTimers
import Derived.Test.YtmioichjhiengaaBasePane
namespace Go.Proofs.Ytmioichjhiengaa
open Go.RowKit

/-- The blocks that a group changes. -/
def grpF (mp tp : Nat) (vq : Value) : Nat → Prop := fun q => q = mp ∨ tset tp vq q
/-- .. and those that are others'. -/
def grpX (mp tp : Nat) (vq : Value) (X : Nat → Prop) : Nat → Prop := fun q => grpF mp tp vq q ∨ X q
/-- Each pane has its timer, each timer its pane. -/
structure GrpOK (N : Nat) (M : ByteArray → List Pane) (T : List Timer) : Prop where
  rel : ∀ x : Timer, x.key.size ≤ maxLen → (x ∈ T ↔ ∃ p ∈ M x.key, p.span = x.span)
  key : ∀ x ∈ T, x.key.size ≤ maxLen
  srt : ∀ k, SortedP (M k)
  ok : ∀ k, ∀ p ∈ M k, p.ok ∧ p.key = k
  len : ∀ k, (M k).length ≤ N
  tim : T.length ≤ N
structure GrpAt (w : World) (gp mp tp N Q : Nat) (c : Config) (vq : Value) (X : Nat → Prop) (M : ByteArray → List Pane) (T : List Timer) : Prop where
  self : At w gp #[.int .i64 c.kind, .int .i64 c.size, .int .i64 c.slide, .int .i64 c.gap, .int .i64 c.late, .int .i64 c.shards, .int .i64 c.groups, .int .i64 c.cap, .map (some mp), .pointer (some ⟨tp, 0, none⟩)] 112
  map : MapAt w mp Q (grpX mp tp vq X) M
  tim : TAt w tp vq T
  mt : ¬ tset tp vq mp
  gf : ¬ grpF mp tp vq gp
  inv : GrpOK N M T
  ap : c.kind = 2 → ∀ k, Apart (M k)
  xl : ∀ q, X q → q < w.heap.size
theorem GrpAt.none {w w' : World} {gp mp tp N Q : Nat} {c : Config} {vq : Value} {X : Nat → Prop} {M : ByteArray → List Pane} {T : List Timer} (h : GrpAt w gp mp tp N Q c vq X M T) (k : Keep none_ w w') : GrpAt w' gp mp tp N Q c vq X M T :=
  ⟨Keep.at k h.self (fun e => e), h.map.keep k (fun _ e => e.elim) (fun e => e), h.tim.none k, h.mt, h.gf, h.inv, h.ap, fun q hq => Nat.lt_of_lt_of_le (h.xl q hq) k.size⟩

theorem putP_span {xs : List Pane} (hs : SortedP xs) (key : ByteArray) (s t : Span) (v : Int) : (∃ p ∈ putP xs key s v, p.span = t) ↔ (∃ p ∈ xs, p.span = t) ∨ t = s := by
  cases hb : isP xs s
  · have hp : putP xs key s v = insL xs (lbP xs s) ⟨key, s, Agg.one v⟩ := by unfold putP; rw [hb]
    rw [hp]
    constructor
    · rintro ⟨p, hp, rfl⟩
      rcases insL_mem.1 hp with rfl | hp
      · exact .inr rfl
      · exact .inl ⟨p, hp, rfl⟩
    · rintro (⟨p, hp, rfl⟩ | rfl)
      · exact ⟨p, insL_mem.2 (.inr hp), rfl⟩
      · exact ⟨_, insL_mem.2 (.inl rfl), rfl⟩
  · obtain ⟨hl, e⟩ := isP_at hb
    have hp : putP xs key s v = xs.set (lbP xs s) { xs[lbP xs s] with agg := xs[lbP xs s].agg.merge (Agg.one v) } := by unfold putP; rw [hb, List.getElem?_eq_getElem hl]
    rw [hp]
    constructor
    · rintro ⟨p, hp, rfl⟩
      rcases List.mem_or_eq_of_mem_set hp with hp | rfl
      · exact .inl ⟨p, hp, rfl⟩
      · exact .inr e
    · intro h
      have h2 : ∃ p ∈ xs, p.span = t := by
        rcases h with h | rfl
        · exact h
        · exact ⟨_, List.getElem_mem hl, e⟩
      obtain ⟨p, hp, rfl⟩ := h2
      obtain ⟨j, hj, rfl⟩ := List.getElem_of_mem hp
      by_cases hji : j = lbP xs s
      · subst hji
        exact ⟨_, List.mem_set hl _, rfl⟩
      · refine ⟨xs[j], ?_, rfl⟩
        have : (xs.set (lbP xs s) { xs[lbP xs s] with agg := xs[lbP xs s].agg.merge (Agg.one v) })[j]'(by simpa using hj) = xs[j] := by rw [List.getElem_set_ne (fun e9 => hji e9.symm)]
        rw [← this]
        exact List.getElem_mem _
theorem putP_key {xs : List Pane} {key : ByteArray} {s : Span} {v : Int} (h : ∀ p ∈ xs, p.key = key) : ∀ p ∈ putP xs key s v, p.key = key := by
  intro p hp
  cases hb : isP xs s
  · have he : putP xs key s v = insL xs (lbP xs s) ⟨key, s, Agg.one v⟩ := by unfold putP; rw [hb]
    rw [he] at hp
    rcases insL_mem.1 hp with rfl | hp
    · rfl
    · exact h p hp
  · obtain ⟨hl, e⟩ := isP_at hb
    have he : putP xs key s v = xs.set (lbP xs s) { xs[lbP xs s] with agg := xs[lbP xs s].agg.merge (Agg.one v) } := by unfold putP; rw [hb, List.getElem?_eq_getElem hl]
    rw [he] at hp
    rcases List.mem_or_eq_of_mem_set hp with hp | rfl
    · exact h p hp
    · show xs[lbP xs s].key = key
      exact h _ (List.getElem_mem hl)
theorem GrpOK.put {N : Nat} {M : ByteArray → List Pane} {T T' : List Timer} (h : GrpOK N M T) {key : ByteArray} (hk : key.size ≤ maxLen) {s : Span} (hs : s.ok) {v : Int} (hv : I64 v)
    (hT : ∀ x, x ∈ T' ↔ x ∈ T ∨ x = ⟨key, s⟩) (hl : T'.length ≤ N + 1) : GrpOK (N + 1) (setM M key (putP (M key) key s v)) T' := by
  refine ⟨fun x hx => ?_, fun x hx => ?_, fun k => ?_, fun k => ?_, fun k => ?_, hl⟩
  · rw [hT]
    unfold setM
    by_cases e : x.key = key
    · rw [if_pos e, putP_span (h.srt key), h.rel x hx, e]
      constructor
      · rintro (h1 | rfl)
        · exact .inl h1
        · exact .inr rfl
      · rintro (h1 | h1)
        · exact .inl h1
        · right
          obtain ⟨a, b⟩ := x
          simp only at e h1
          rw [e, h1]
    · rw [if_neg e, h.rel x hx]
      constructor
      · rintro (h1 | rfl)
        · exact h1
        · exact absurd rfl e
      · exact .inl
  · rcases (hT x).1 hx with h1 | rfl
    · exact h.key x h1
    · exact hk
  · unfold setM
    split
    · exact put_sorted (h.srt key) key s v
    · exact h.srt k
  · unfold setM
    split
    · rename_i e
      subst e
      exact fun p hp => ⟨put_ok (fun p hp => (h.ok k p hp).1) hk hs hv p hp, putP_key (fun p hp => (h.ok k p hp).2) p hp⟩
    · exact h.ok k
  · unfold setM
    split
    · exact Nat.le_trans (put_len _ _ _ _) (by have := h.len key; omega)
    · exact Nat.le_trans (h.len k) (by omega)
theorem own_block_ge {α : Type} {enc : α → List Value} {k : Nat} {w : World} {base n c : Nat} {e : TypeId} {A : Option Addr} {xs : List α} (h : w.ownsRow base e k (.slice A n c) n (flat enc xs)) : ∀ a, A = some a → base ≤ a.block := by
  intro a ha
  subst ha
  rcases h.2 with ⟨h0, -⟩ | ⟨g, cap, cur, he, hb, -⟩
  · cases h0
  · have : a = ⟨g, 0, none⟩ := by simpa using (Value.slice.inj he).1
    subst this
    exact hb
theorem GrpAt.F_lt {w : World} {gp mp tp N Q : Nat} {c : Config} {vq : Value} {X : Nat → Prop} {M : ByteArray → List Pane} {T : List Timer} (h : GrpAt w gp mp tp N Q c vq X M T) : ∀ q, grpF mp tp vq q → q < w.heap.size := by
  intro q hq
  rcases hq with rfl | hq
  · exact h.map.lt
  · exact h.tim.lt hq
theorem GrpAt.X_lt {w : World} {gp mp tp N Q : Nat} {c : Config} {vq : Value} {X : Nat → Prop} {M : ByteArray → List Pane} {T : List Timer} (h : GrpAt w gp mp tp N Q c vq X M T) : ∀ q, grpX mp tp vq X q → q < w.heap.size := by
  intro q hq
  rcases hq with hq | hq
  · exact h.F_lt q hq
  · exact h.xl q hq
theorem span_inj {xs : List Pane} (hs : SortedP xs) {a b : Pane} (ha : a ∈ xs) (hb : b ∈ xs) (e : a.span = b.span) : a = b := by
  obtain ⟨i, hi, rfl⟩ := List.getElem_of_mem ha
  obtain ⟨j, hj, rfl⟩ := List.getElem_of_mem hb
  rcases Nat.lt_trichotomy i j with h | h | h
  · have h1 := List.pairwise_iff_getElem.1 hs i j hi hj h
    rw [e, slt_irr] at h1; cases h1
  · subst h; rfl
  · have h1 := List.pairwise_iff_getElem.1 hs j i hj hi h
    rw [e, slt_irr] at h1; cases h1
/-- The windows behind a merge: those that are there and are not gone, and the new one. -/
theorem mergeP_span {xs : List Pane} (hs : SortedP xs) (key : ByteArray) (s t : Span) (v : Int) : (∃ p ∈ mergeP key s v xs, p.span = t) ↔ ((∃ p ∈ xs, p.span = t) ∧ t ∉ goneP key s v xs) ∨ t = (accP key s v xs).span := by
  have hg : ∀ t, t ∈ goneP key s v xs ↔ (∃ p ∈ metP xs s, p.span = t) ∧ t ≠ (accP key s v xs).span := fun t => by
    unfold goneP
    rw [List.mem_filter, List.mem_map]
    constructor
    · rintro ⟨h1, h2⟩
      refine ⟨h1, fun e => ?_⟩
      rw [(Span.eqB_iff _ _).2 e] at h2
      cases h2
    · rintro ⟨h1, h2⟩
      refine ⟨h1, ?_⟩
      cases h9 : t.eqB (accP key s v xs).span
      · rfl
      · exact absurd ((Span.eqB_iff _ _).1 h9) h2
  rw [hg]
  constructor
  · rintro ⟨p, hp, rfl⟩
    rcases insL_mem.1 hp with rfl | hp
    · exact .inr rfl
    · have h1 := List.mem_filter.1 hp
      refine .inl ⟨⟨p, h1.1, rfl⟩, fun h => ?_⟩
      obtain ⟨⟨q, hq, e⟩, -⟩ := h
      have h2 := List.mem_filter.1 hq
      have := span_inj hs h1.1 h2.1 e.symm
      subst this
      rw [h2.2] at h1
      exact absurd h1.2 (by decide)
  · rintro (⟨⟨p, hp, rfl⟩, h2⟩ | rfl)
    · by_cases hm : p.span.meetB s = true
      · have hpm : p ∈ metP xs s := List.mem_filter.2 ⟨hp, hm⟩
        by_cases e : p.span = (accP key s v xs).span
        · exact ⟨_, insL_mem.2 (.inl rfl), e.symm⟩
        · exact absurd ⟨⟨p, hpm, rfl⟩, e⟩ h2
      · exact ⟨p, insL_mem.2 (.inr (List.mem_filter.2 ⟨hp, by simp [hm]⟩)), rfl⟩
    · exact ⟨_, insL_mem.2 (.inl rfl), rfl⟩
theorem GrpOK.merge {N : Nat} {M : ByteArray → List Pane} {T T' : List Timer} (h : GrpOK N M T) {key : ByteArray} (hk : key.size ≤ maxLen) {s : Span} (hs : s.ok) {v : Int} (hv : I64 v) (hso : SortedP (mergeP key s v (M key)))
    (hT : ∀ x, x ∈ T' ↔ (x ∈ T ∧ ¬ (x.key = key ∧ x.span ∈ goneP key s v (M key))) ∨ x = ⟨key, (accP key s v (M key)).span⟩) (hl : T'.length ≤ N + 1) : GrpOK (N + 1) (setM M key (mergeP key s v (M key))) T' := by
  refine ⟨fun x hx => ?_, fun x hx => ?_, fun k => ?_, fun k => ?_, fun k => ?_, hl⟩
  · rw [hT]
    unfold setM
    by_cases e : x.key = key
    · rw [if_pos e, mergeP_span (h.srt key), h.rel x hx, e]
      constructor
      · rintro (⟨h1, h2⟩ | rfl)
        · exact .inl ⟨h1, fun h3 => h2 ⟨rfl, h3⟩⟩
        · exact .inr rfl
      · rintro (⟨h1, h2⟩ | h1)
        · exact .inl ⟨h1, fun h3 => h2 h3.2⟩
        · right
          obtain ⟨a, b⟩ := x
          simp only at e h1
          rw [e, h1]
    · rw [if_neg e, h.rel x hx]
      constructor
      · rintro (⟨h1, -⟩ | rfl)
        · exact h1
        · exact absurd rfl e
      · exact fun h1 => .inl ⟨h1, fun h2 => e h2.1⟩
  · rcases (hT x).1 hx with ⟨h1, -⟩ | rfl
    · exact h.key x h1
    · exact hk
  · unfold setM
    split
    · exact hso
    · exact h.srt k
  · unfold setM
    split
    · rename_i e
      subst e
      exact fun p hp => ⟨merge_ok (fun p hp => (h.ok k p hp).1) hk hs hv p hp, by
        rcases insL_mem.1 hp with rfl | hp
        · exact fold_key _ _
        · exact (h.ok k p (List.mem_filter.1 hp).1).2⟩
    · exact h.ok k
  · unfold setM
    split
    · exact Nat.le_trans (merge_len _ _ _ _) (by have := h.len key; omega)
    · exact Nat.le_trans (h.len k) (by omega)
/-- What a call that changes the group leaves. -/
def GrpNext (w : World) (gp mp tp N Q : Nat) (c : Config) (vq : Value) (X : Nat → Prop) (M : ByteArray → List Pane) (w' : World) : Prop :=
  ∃ vq' T', GrpAt w' gp mp tp N Q c vq' X M T' ∧ Keep (grpF mp tp vq) w w' ∧ SameOwn w vq vq'
end Go.Proofs.Ytmioichjhiengaa
