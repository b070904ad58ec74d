/-
  Texts of one kind, one behind the other.
-/
import Derived.Test.YtmioichjhiengaaGreatBaseMap
import Derived.Test.YtmioichjhiengaaGreatTimers
import Derived.Test.YtmioichjhiengaaGreatBasePane
import Derived.Test.YtmioichjhiengaaGreatBaseOf
import Derived.Test.YtmioichjhiengaaGreatBaseA
import Derived.Deep.RegionHeld3
set_option linter.unusedSimpArgs false
set_option linter.unusedVariables false
/-
  A group: its map, its timers; what a put keeps (plain).
-/
namespace Go.Proofs.YtmioichjhiengaaGreat
open Go.RowKit

/-- The blocks that a group changes. -/
def grpF (mp tp : Nat) (vq : Value) : Nat → Prop := fun q => q = mp ∨ tset tp vq q
/-- .. and those that are others'. -/
def grpX (mp tp : Nat) (vq : Value) (X : Nat → Prop) : Nat → Prop := fun q => grpF mp tp vq q ∨ X q
/-- Each pane has its timer, each timer its pane. -/
structure GrpOK (N : Nat) (M : ByteArray → List Pane) (T : List Timer) : Prop where
  rel : ∀ x : Timer, x.key.size ≤ maxLen → (x ∈ T ↔ ∃ p ∈ M x.key, p.span = x.span)
  key : ∀ x ∈ T, x.key.size ≤ maxLen
  srt : ∀ k, SortedP (M k)
  ok : ∀ k, ∀ p ∈ M k, p.ok ∧ p.key = k
  len : ∀ k, (M k).length ≤ N
  tim : T.length ≤ N
structure GrpAt (w : World) (gp mp tp N Q : Nat) (c : Config) (vq : Value) (X : Nat → Prop) (M : ByteArray → List Pane) (T : List Timer) : Prop where
  self : At w gp #[.int .i64 c.kind, .int .i64 c.size, .int .i64 c.slide, .int .i64 c.gap, .int .i64 c.late, .int .i64 c.shards, .int .i64 c.groups, .int .i64 c.cap, .map (some mp), .pointer (some ⟨tp, 0, none⟩)] 93
  map : MapAt w mp Q (grpX mp tp vq X) M
  tim : TAt w tp vq T
  mt : ¬ tset tp vq mp
  gf : ¬ grpF mp tp vq gp
  inv : GrpOK N M T
  ap : c.kind = 2 → ∀ k, Apart (M k)
  xl : ∀ q, X q → q < w.heap.size
theorem GrpAt.none {w w' : World} {gp mp tp N Q : Nat} {c : Config} {vq : Value} {X : Nat → Prop} {M : ByteArray → List Pane} {T : List Timer} (h : GrpAt w gp mp tp N Q c vq X M T) (k : Keep none_ w w') : GrpAt w' gp mp tp N Q c vq X M T :=
  ⟨Keep.at k h.self (fun e => e), h.map.keep k (fun _ e => e.elim) (fun e => e), h.tim.none k, h.mt, h.gf, h.inv, h.ap, fun q hq => Nat.lt_of_lt_of_le (h.xl q hq) k.size⟩

theorem putP_span {xs : List Pane} (hs : SortedP xs) (key : ByteArray) (s t : Span) (v : Int) : (∃ p ∈ putP xs key s v, p.span = t) ↔ (∃ p ∈ xs, p.span = t) ∨ t = s := by
  cases hb : isP xs s
  · have hp : putP xs key s v = insL xs (lbP xs s) ⟨key, s, Agg.one v⟩ := by unfold putP; rw [hb]
    rw [hp]
    constructor
    · rintro ⟨p, hp, rfl⟩
      rcases insL_mem.1 hp with rfl | hp
      · exact .inr rfl
      · exact .inl ⟨p, hp, rfl⟩
    · rintro (⟨p, hp, rfl⟩ | rfl)
      · exact ⟨p, insL_mem.2 (.inr hp), rfl⟩
      · exact ⟨_, insL_mem.2 (.inl rfl), rfl⟩
  · obtain ⟨hl, e⟩ := isP_at hb
    have hp : putP xs key s v = xs.set (lbP xs s) { xs[lbP xs s] with agg := xs[lbP xs s].agg.merge (Agg.one v) } := by unfold putP; rw [hb, List.getElem?_eq_getElem hl]
    rw [hp]
    constructor
    · rintro ⟨p, hp, rfl⟩
      rcases List.mem_or_eq_of_mem_set hp with hp | rfl
      · exact .inl ⟨p, hp, rfl⟩
      · exact .inr e
    · intro h
      have h2 : ∃ p ∈ xs, p.span = t := by
        rcases h with h | rfl
        · exact h
        · exact ⟨_, List.getElem_mem hl, e⟩
      obtain ⟨p, hp, rfl⟩ := h2
      obtain ⟨j, hj, rfl⟩ := List.getElem_of_mem hp
      by_cases hji : j = lbP xs s
      · subst hji
        exact ⟨_, List.mem_set hl _, rfl⟩
      · refine ⟨xs[j], ?_, rfl⟩
        have : (xs.set (lbP xs s) { xs[lbP xs s] with agg := xs[lbP xs s].agg.merge (Agg.one v) })[j]'(by simpa using hj) = xs[j] := by rw [List.getElem_set_ne (fun e9 => hji e9.symm)]
        rw [← this]
        exact List.getElem_mem _
theorem putP_key {xs : List Pane} {key : ByteArray} {s : Span} {v : Int} (h : ∀ p ∈ xs, p.key = key) : ∀ p ∈ putP xs key s v, p.key = key := by
  intro p hp
  cases hb : isP xs s
  · have he : putP xs key s v = insL xs (lbP xs s) ⟨key, s, Agg.one v⟩ := by unfold putP; rw [hb]
    rw [he] at hp
    rcases insL_mem.1 hp with rfl | hp
    · rfl
    · exact h p hp
  · obtain ⟨hl, e⟩ := isP_at hb
    have he : putP xs key s v = xs.set (lbP xs s) { xs[lbP xs s] with agg := xs[lbP xs s].agg.merge (Agg.one v) } := by unfold putP; rw [hb, List.getElem?_eq_getElem hl]
    rw [he] at hp
    rcases List.mem_or_eq_of_mem_set hp with hp | rfl
    · exact h p hp
    · show xs[lbP xs s].key = key
      exact h _ (List.getElem_mem hl)
theorem GrpOK.put {N : Nat} {M : ByteArray → List Pane} {T T' : List Timer} (h : GrpOK N M T) {key : ByteArray} (hk : key.size ≤ maxLen) {s : Span} (hs : s.ok) {v : Int} (hv : I64 v)
    (hT : ∀ x, x ∈ T' ↔ x ∈ T ∨ x = ⟨key, s⟩) (hl : T'.length ≤ N + 1) : GrpOK (N + 1) (setM M key (putP (M key) key s v)) T' := by
  refine ⟨fun x hx => ?_, fun x hx => ?_, fun k => ?_, fun k => ?_, fun k => ?_, hl⟩
  · rw [hT]
    unfold setM
    by_cases e : x.key = key
    · rw [if_pos e, putP_span (h.srt key), h.rel x hx, e]
      constructor
      · rintro (h1 | rfl)
        · exact .inl h1
        · exact .inr rfl
      · rintro (h1 | h1)
        · exact .inl h1
        · right
          obtain ⟨a, b⟩ := x
          simp only at e h1
          rw [e, h1]
    · rw [if_neg e, h.rel x hx]
      constructor
      · rintro (h1 | rfl)
        · exact h1
        · exact absurd rfl e
      · exact .inl
  · rcases (hT x).1 hx with h1 | rfl
    · exact h.key x h1
    · exact hk
  · unfold setM
    split
    · exact put_sorted (h.srt key) key s v
    · exact h.srt k
  · unfold setM
    split
    · rename_i e
      subst e
      exact fun p hp => ⟨put_ok (fun p hp => (h.ok k p hp).1) hk hs hv p hp, putP_key (fun p hp => (h.ok k p hp).2) p hp⟩
    · exact h.ok k
  · unfold setM
    split
    · exact Nat.le_trans (put_len _ _ _ _) (by have := h.len key; omega)
    · exact Nat.le_trans (h.len k) (by omega)
theorem own_block_ge {α : Type} {enc : α → List Value} {k : Nat} {w : World} {base n c : Nat} {e : TypeId} {A : Option Addr} {xs : List α} (h : w.ownsRow base e k (.slice A n c) n (flat enc xs)) : ∀ a, A = some a → base ≤ a.block := by
  intro a ha
  subst ha
  rcases h.2 with ⟨h0, -⟩ | ⟨g, cap, cur, he, hb, -⟩
  · cases h0
  · have : a = ⟨g, 0, none⟩ := by simpa using (Value.slice.inj he).1
    subst this
    exact hb
theorem GrpAt.F_lt {w : World} {gp mp tp N Q : Nat} {c : Config} {vq : Value} {X : Nat → Prop} {M : ByteArray → List Pane} {T : List Timer} (h : GrpAt w gp mp tp N Q c vq X M T) : ∀ q, grpF mp tp vq q → q < w.heap.size := by
  intro q hq
  rcases hq with rfl | hq
  · exact h.map.lt
  · exact h.tim.lt hq
theorem GrpAt.X_lt {w : World} {gp mp tp N Q : Nat} {c : Config} {vq : Value} {X : Nat → Prop} {M : ByteArray → List Pane} {T : List Timer} (h : GrpAt w gp mp tp N Q c vq X M T) : ∀ q, grpX mp tp vq X q → q < w.heap.size := by
  intro q hq
  rcases hq with hq | hq
  · exact h.F_lt q hq
  · exact h.xl q hq
theorem span_inj {xs : List Pane} (hs : SortedP xs) {a b : Pane} (ha : a ∈ xs) (hb : b ∈ xs) (e : a.span = b.span) : a = b := by
  obtain ⟨i, hi, rfl⟩ := List.getElem_of_mem ha
  obtain ⟨j, hj, rfl⟩ := List.getElem_of_mem hb
  rcases Nat.lt_trichotomy i j with h | h | h
  · have h1 := List.pairwise_iff_getElem.1 hs i j hi hj h
    rw [e, slt_irr] at h1; cases h1
  · subst h; rfl
  · have h1 := List.pairwise_iff_getElem.1 hs j i hj hi h
    rw [e, slt_irr] at h1; cases h1
/-- The windows behind a merge: those that are there and are not gone, and the new one. -/
theorem mergeP_span {xs : List Pane} (hs : SortedP xs) (key : ByteArray) (s t : Span) (v : Int) : (∃ p ∈ mergeP key s v xs, p.span = t) ↔ ((∃ p ∈ xs, p.span = t) ∧ t ∉ goneP key s v xs) ∨ t = (accP key s v xs).span := by
  have hg : ∀ t, t ∈ goneP key s v xs ↔ (∃ p ∈ metP xs s, p.span = t) ∧ t ≠ (accP key s v xs).span := fun t => by
    unfold goneP
    rw [List.mem_filter, List.mem_map]
    constructor
    · rintro ⟨h1, h2⟩
      refine ⟨h1, fun e => ?_⟩
      rw [(Span.eqB_iff _ _).2 e] at h2
      cases h2
    · rintro ⟨h1, h2⟩
      refine ⟨h1, ?_⟩
      cases h9 : t.eqB (accP key s v xs).span
      · rfl
      · exact absurd ((Span.eqB_iff _ _).1 h9) h2
  rw [hg]
  constructor
  · rintro ⟨p, hp, rfl⟩
    rcases insL_mem.1 hp with rfl | hp
    · exact .inr rfl
    · have h1 := List.mem_filter.1 hp
      refine .inl ⟨⟨p, h1.1, rfl⟩, fun h => ?_⟩
      obtain ⟨⟨q, hq, e⟩, -⟩ := h
      have h2 := List.mem_filter.1 hq
      have := span_inj hs h1.1 h2.1 e.symm
      subst this
      rw [h2.2] at h1
      exact absurd h1.2 (by decide)
  · rintro (⟨⟨p, hp, rfl⟩, h2⟩ | rfl)
    · by_cases hm : p.span.meetB s = true
      · have hpm : p ∈ metP xs s := List.mem_filter.2 ⟨hp, hm⟩
        by_cases e : p.span = (accP key s v xs).span
        · exact ⟨_, insL_mem.2 (.inl rfl), e.symm⟩
        · exact absurd ⟨⟨p, hpm, rfl⟩, e⟩ h2
      · exact ⟨p, insL_mem.2 (.inr (List.mem_filter.2 ⟨hp, by simp [hm]⟩)), rfl⟩
    · exact ⟨_, insL_mem.2 (.inl rfl), rfl⟩
theorem GrpOK.merge {N : Nat} {M : ByteArray → List Pane} {T T' : List Timer} (h : GrpOK N M T) {key : ByteArray} (hk : key.size ≤ maxLen) {s : Span} (hs : s.ok) {v : Int} (hv : I64 v) (hso : SortedP (mergeP key s v (M key)))
    (hT : ∀ x, x ∈ T' ↔ (x ∈ T ∧ ¬ (x.key = key ∧ x.span ∈ goneP key s v (M key))) ∨ x = ⟨key, (accP key s v (M key)).span⟩) (hl : T'.length ≤ N + 1) : GrpOK (N + 1) (setM M key (mergeP key s v (M key))) T' := by
  refine ⟨fun x hx => ?_, fun x hx => ?_, fun k => ?_, fun k => ?_, fun k => ?_, hl⟩
  · rw [hT]
    unfold setM
    by_cases e : x.key = key
    · rw [if_pos e, mergeP_span (h.srt key), h.rel x hx, e]
      constructor
      · rintro (⟨h1, h2⟩ | rfl)
        · exact .inl ⟨h1, fun h3 => h2 ⟨rfl, h3⟩⟩
        · exact .inr rfl
      · rintro (⟨h1, h2⟩ | h1)
        · exact .inl ⟨h1, fun h3 => h2 h3.2⟩
        · right
          obtain ⟨a, b⟩ := x
          simp only at e h1
          rw [e, h1]
    · rw [if_neg e, h.rel x hx]
      constructor
      · rintro (⟨h1, -⟩ | rfl)
        · exact h1
        · exact absurd rfl e
      · exact fun h1 => .inl ⟨h1, fun h2 => e h2.1⟩
  · rcases (hT x).1 hx with ⟨h1, -⟩ | rfl
    · exact h.key x h1
    · exact hk
  · unfold setM
    split
    · exact hso
    · exact h.srt k
  · unfold setM
    split
    · rename_i e
      subst e
      exact fun p hp => ⟨merge_ok (fun p hp => (h.ok k p hp).1) hk hs hv p hp, by
        rcases insL_mem.1 hp with rfl | hp
        · exact fold_key _ _
        · exact (h.ok k p (List.mem_filter.1 hp).1).2⟩
    · exact h.ok k
  · unfold setM
    split
    · exact Nat.le_trans (merge_len _ _ _ _) (by have := h.len key; omega)
    · exact Nat.le_trans (h.len k) (by omega)
/-- What a call that changes the group leaves. -/
def GrpNext (w : World) (gp mp tp N Q : Nat) (c : Config) (vq : Value) (X : Nat → Prop) (M : ByteArray → List Pane) (w' : World) : Prop :=
  ∃ vq' T', GrpAt w' gp mp tp N Q c vq' X M T' ∧ Keep (grpF mp tp vq) w w' ∧ SameOwn w vq vq'
end Go.Proofs.YtmioichjhiengaaGreat

/-
  A group's laws (plain): what settling takes out, what a put leaves.
-/
namespace Go.Proofs.YtmioichjhiengaaGreat
open Go.RowKit

theorem delL_perm {α : Type} {xs : List α} {i : Nat} (hi : i < xs.length) : xs.Perm (xs[i] :: delL xs i) := by
  have e : xs = xs.take i ++ (xs[i] :: xs.drop (i + 1)) := by rw [List.getElem_cons_drop, List.take_append_drop]
  have h : xs.Perm (xs.take i ++ (xs[i] :: xs.drop (i + 1))) := by rw [← e]
  exact h.trans List.perm_middle
theorem delL_sub {α : Type} (xs : List α) (i : Nat) : (delL xs i).Sublist xs := by
  have h : (xs.take i ++ xs.drop (i + 1)).Sublist (xs.take i ++ xs.drop i) := by
    apply List.Sublist.append_left
    rw [← List.drop_drop]
    exact List.drop_sublist _ _
  rw [List.take_append_drop] at h
  exact h
theorem cut_spec {xs : List Pane} (hs : SortedP xs) {p : Pane} (hp : p ∈ xs) : findP xs p.span = (p, true) ∧ xs.Perm (p :: cutP xs p.span) ∧ (cutP xs p.span).Sublist xs := by
  have hb : isP xs p.span = true := (isP_iff hs).2 ⟨p, hp, rfl⟩
  obtain ⟨hl, e⟩ := isP_at hb
  have he : xs[lbP xs p.span] = p := span_inj hs (List.getElem_mem hl) hp e
  have hc : cutP xs p.span = delL xs (lbP xs p.span) := by unfold cutP; rw [if_pos hb]
  refine ⟨?_, ?_, ?_⟩
  · unfold findP
    rw [hb, List.getElem?_eq_getElem hl, he]
  · rw [hc]
    have h := delL_perm hl
    rw [he] at h
    exact h
  · rw [hc]
    exact delL_sub _ _
theorem sorted_nodup {xs : List Pane} (hs : SortedP xs) : xs.Nodup := by
  refine List.Pairwise.imp ?_ hs
  intro a b h e
  subst e
  rw [slt_irr] at h
  cases h
theorem cut_mem {xs : List Pane} (hs : SortedP xs) {p : Pane} (hp : p ∈ xs) (q : Pane) : q ∈ cutP xs p.span ↔ q ∈ xs ∧ q ≠ p := by
  have h := (cut_spec hs hp).2.1
  have hn := (h.nodup_iff).1 (sorted_nodup hs)
  rw [List.nodup_cons] at hn
  rw [h.mem_iff, List.mem_cons]
  constructor
  · intro hq
    exact ⟨.inr hq, fun e => hn.1 (e ▸ hq)⟩
  · rintro ⟨h1 | h1, h2⟩
    · exact absurd h1 h2
    · exact h1

abbrev KM := ByteArray → List Pane
/-- The pane p is cut out. -/
def cutM (M : KM) (p : Pane) : KM := setM M p.key (cutP (M p.key) p.span)
theorem cutM_mem {M : KM} {p : Pane} (hs : SortedP (M p.key)) (hp : p ∈ M p.key) (k : ByteArray) (q : Pane) : q ∈ cutM M p k ↔ q ∈ M k ∧ ¬ (k = p.key ∧ q = p) := by
  unfold cutM setM
  by_cases e : k = p.key
  · subst e
    rw [if_pos rfl, cut_mem hs hp]
    simp
  · rw [if_neg e]
    simp [e]
theorem cutM_sub {M : KM} {p : Pane} (hs : SortedP (M p.key)) (hp : p ∈ M p.key) (k : ByteArray) : (cutM M p k).Sublist (M k) := by
  unfold cutM setM
  by_cases e : k = p.key
  · subst e
    rw [if_pos rfl]
    exact (cut_spec hs hp).2.2
  · rw [if_neg e]
    exact List.Sublist.refl _
theorem GrpOK.cut {N : Nat} {M : KM} {T T' : List Timer} (h : GrpOK N M T) {p : Pane} (hp : p ∈ M p.key) (hn : T.Nodup) (hT : T.Perm (⟨p.key, p.span⟩ :: T')) : GrpOK N (cutM M p) T' := by
  have hs := h.srt p.key
  have hn2 := (hT.nodup_iff).1 hn
  rw [List.nodup_cons] at hn2
  have hT' : ∀ x, x ∈ T' ↔ x ∈ T ∧ x ≠ ⟨p.key, p.span⟩ := fun x => by
    rw [hT.mem_iff, List.mem_cons]
    constructor
    · intro hx
      exact ⟨.inr hx, fun e => hn2.1 (e ▸ hx)⟩
    · rintro ⟨h1 | h1, h2⟩
      · exact absurd h1 h2
      · exact h1
  refine ⟨fun x hx => ?_, fun x hx => h.key x ((hT' x).1 hx).1, fun k => ?_, fun k q hq => ?_, fun k => ?_, ?_⟩
  · rw [hT', h.rel x hx]
    constructor
    · rintro ⟨⟨q, hq, e⟩, h2⟩
      refine ⟨q, (cutM_mem hs hp _ _).2 ⟨hq, fun h3 => h2 ?_⟩, e⟩
      obtain ⟨xk, xs⟩ := x
      obtain ⟨h4, h5⟩ := h3
      simp only at h4 e
      subst h4 h5 e
      rfl
    · rintro ⟨q, hq, e⟩
      have h2 := (cutM_mem hs hp _ _).1 hq
      refine ⟨⟨q, h2.1, e⟩, fun e2 => h2.2 ?_⟩
      subst e2
      exact ⟨rfl, span_inj hs h2.1 hp e⟩
  · exact (h.srt k).sublist (cutM_sub hs hp k)
  · exact h.ok k q ((cutM_mem hs hp _ _).1 hq).1
  · exact Nat.le_trans (cutM_sub hs hp k).length_le (h.len k)
  · have := hT.length_eq
    have := h.tim
    simp at *
    omega
theorem Apart.sub {l m : List Pane} (h : Apart l) (s : m.Sublist l) : Apart m := ⟨fun p hp => h.may p (s.subset hp), h.apart.sublist s⟩

/-- A pane may go out next. -/
structure Next (late mark : Int) (M : KM) (p : Pane) : Prop where
  key : p.key.size ≤ maxLen
  mem : p ∈ M p.key
  over : p.span.overB late mark = true
  least : ∀ k q, k.size ≤ maxLen → q ∈ M k → tlt ⟨k, q.span⟩ ⟨p.key, p.span⟩ = false
/-- Panes go out, one behind the other. -/
def Steps (late mark : Int) : KM → List Pane → KM → Prop
  | M, [], M' => M' = M
  | M, p :: O, M' => Next late mark M p ∧ Steps late mark (cutM M p) O M'
theorem Steps.snoc {late mark : Int} {p : Pane} : ∀ {O : List Pane} {M M1 : KM}, Steps late mark M O M1 → Next late mark M1 p → Steps late mark M (O ++ [p]) (cutM M1 p)
  | [], _, _, h, hp => by
    have e : _ = _ := h
    subst e
    exact ⟨hp, rfl⟩
  | _ :: _, _, _, h, hp => ⟨h.1, h.2.snoc hp⟩
/-- Nothing is over. -/
def Calm (late mark : Int) (M : KM) : Prop := ∀ k q, k.size ≤ maxLen → q ∈ M k → q.span.overB late mark = false
/-- Panes by rising windows, each of its key. -/
structure KMOK (M : KM) : Prop where
  srt : ∀ k, SortedP (M k)
  key : ∀ k, ∀ p ∈ M k, p.key = k
theorem GrpOK.km {N : Nat} {M : KM} {T : List Timer} (h : GrpOK N M T) : KMOK M := ⟨h.srt, fun k p hp => (h.ok k p hp).2⟩
theorem KMOK.cut {M : KM} (h : KMOK M) {p : Pane} (hp : p ∈ M p.key) : KMOK (cutM M p) :=
  ⟨fun k => (h.srt k).sublist (cutM_sub (h.srt _) hp k), fun k q hq => h.key k q ((cutM_mem (h.srt _) hp _ _).1 hq).1⟩
theorem Steps.km {late mark : Int} : ∀ {O : List Pane} {M M' : KM}, Steps late mark M O M' → KMOK M → KMOK M'
  | [], _, _, h, hk => by
    have e : _ = _ := h
    subst e
    exact hk
  | _ :: _, _, _, h, hk => h.2.km (hk.cut h.1.mem)
theorem Steps.sub {late mark : Int} : ∀ {O : List Pane} {M M' : KM}, Steps late mark M O M' → KMOK M → ∀ k, (M' k).Sublist (M k)
  | [], _, _, h, hk, k => by
    have e : _ = _ := h
    subst e
    exact List.Sublist.refl _
  | _ :: _, _, _, h, hk, k => (h.2.sub (hk.cut h.1.mem) k).trans (cutM_sub (hk.srt _) h.1.mem k)
theorem Steps.out {late mark : Int} : ∀ {O : List Pane} {M M' : KM}, Steps late mark M O M' → KMOK M → ∀ p ∈ O, p.key.size ≤ maxLen ∧ p ∈ M p.key ∧ p.span.overB late mark = true
  | [], _, _, h, hk, p, hp => by cases hp
  | x :: O, M, _, h, hk, p, hp => by
    rcases List.mem_cons.1 hp with rfl | hp
    · exact ⟨h.1.key, h.1.mem, h.1.over⟩
    · have h2 := h.2.out (hk.cut h.1.mem) p hp
      exact ⟨h2.1, ((cutM_mem (hk.srt _) h.1.mem _ _).1 h2.2.1).1, h2.2.2⟩
theorem Steps.rises {late mark : Int} : ∀ {O : List Pane} {M M' : KM}, Steps late mark M O M' → KMOK M → O.Pairwise (fun a b => tlt ⟨a.key, a.span⟩ ⟨b.key, b.span⟩ = true)
  | [], _, _, h, hk => List.Pairwise.nil
  | x :: O, M, _, h, hk => by
    refine List.Pairwise.cons (fun y hy => ?_) (h.2.rises (hk.cut h.1.mem))
    have h2 := h.2.out (hk.cut h.1.mem) y hy
    obtain ⟨h3, h4⟩ := (cutM_mem (hk.srt _) h.1.mem _ _).1 h2.2.1
    have h5 := h.1.least y.key y h2.1 h3
    cases h6 : tlt ⟨x.key, x.span⟩ ⟨y.key, y.span⟩
    · exfalso
      have h7 := (tlt_strict.tot _ _ h5 h6)
      have h8 : y.key = x.key ∧ y.span = x.span := by simpa using h7
      refine h4 ⟨h8.1, span_inj (hk.srt x.key) (h8.1 ▸ h3) h.1.mem h8.2⟩
    · rfl
theorem perm_cnt {l m : List Pane} (h : l.Perm m) : cnt l = cnt m := by
  induction h with
  | nil => rfl
  | cons x _ ih => simp only [cnt, List.map_cons, List.sum_cons] at ih ⊢; omega
  | swap x y l => simp only [cnt, List.map_cons, List.sum_cons]; omega
  | trans _ _ h1 h2 => exact h1.trans h2
/-- Panes of one key count as many before as behind. -/
theorem Steps.counts {late mark : Int} : ∀ {O : List Pane} {M M' : KM}, Steps late mark M O M' → KMOK M → ∀ k, cnt (M k) = cnt (O.filter (fun p => eqS p.key k)) + cnt (M' k)
  | [], _, _, h, hk, k => by
    have e : _ = _ := h
    subst e
    simp [cnt]
  | x :: O, M, _, h, hk, k => by
    have ih := h.2.counts (hk.cut h.1.mem) k
    have h2 : cnt (M k) = (if eqS x.key k = true then x.agg.count else 0) + cnt (cutM M x k) := by
      by_cases e : x.key = k
      · subst e
        have h3 : cutM M x x.key = cutP (M x.key) x.span := by unfold cutM setM; rw [if_pos rfl]
        rw [h3]
        have hp := (cut_spec (hk.srt _) h.1.mem).2.1
        have h4 : cnt (M x.key) = cnt (x :: cutP (M x.key) x.span) := perm_cnt hp
        rw [h4, if_pos (eqS_iff.2 rfl)]
        simp [cnt]
      · have h3 : cutM M x k = M k := by unfold cutM setM; rw [if_neg (fun e2 => e e2.symm)]
        rw [h3]
        have : ¬ eqS x.key k = true := fun e2 => e (eqS_iff.1 e2)
        simp [this]
    rw [h2, ih]
    by_cases e : eqS x.key k = true
    · rw [List.filter_cons_of_pos (by simpa using e)]
      simp only [e, if_true, cnt, List.map_cons, List.sum_cons]
      omega
    · rw [List.filter_cons_of_neg (by simpa using e)]
      simp [e]

theorem timers_put_all {w : World} {p : Nat} {v : Value} {l : List Timer} (h : TAt w p v l) (hlen : l.length ≤ 90000) (x : Timer) :
    Calls Tryz.prog 85 #[.pointer (some ⟨p, 0, none⟩), .agg x.cells.toArray] w fun e w' => ∃ b v' l', e = .returned (.bool b) ∧ TAt w' p v' l' ∧ (∀ y, y ∈ l' ↔ y ∈ l ∨ y = x) ∧ l'.length ≤ l.length + 1 ∧ Keep (tset p v) w w' ∧ SameOwn w v v' := by
  by_cases hx : x ∈ l
  · refine (timers_put_in h hlen x hx).mono ?_
    rintro e w1 ⟨rfl, k1⟩
    exact ⟨_, v, l, rfl, h.none k1, fun y => ⟨fun e => .inl e, fun e => by rcases e with e | rfl; exact e; exact hx⟩, by omega, k1.mono (fun _ _ e => e.elim), .inl rfl⟩
  · refine (timers_put h hlen x hx).mono ?_
    rintro e w1 ⟨rfl, v', l', h1, pe, k1, o1⟩
    exact ⟨_, v', l', rfl, h1, fun y => by rw [pe.mem_iff]; simp, by rw [pe.length_eq]; simp, k1, o1⟩
theorem timers_drop_all {w : World} {p : Nat} {v : Value} {l : List Timer} (h : TAt w p v l) (hlen : l.length ≤ 90000) (x : Timer) :
    Calls Tryz.prog 87 #[.pointer (some ⟨p, 0, none⟩), .agg x.cells.toArray] w fun e w' => ∃ b v' l', e = .returned (.bool b) ∧ TAt w' p v' l' ∧ (∀ y, y ∈ l' ↔ y ∈ l ∧ y ≠ x) ∧ l'.length ≤ l.length ∧ Keep (tset p v) w w' ∧ v'.ownBlock = v.ownBlock := by
  by_cases hx : x ∈ l
  · refine (timers_drop h hlen x hx).mono ?_
    rintro e w1 ⟨rfl, v', l', h1, pe, k1, o1⟩
    have hn := (pe.nodup_iff).1 h.nodup
    rw [List.nodup_cons] at hn
    refine ⟨_, v', l', rfl, h1, fun y => ?_, by rw [pe.length_eq]; simp, k1, o1⟩
    rw [pe.mem_iff, List.mem_cons]
    constructor
    · intro hy
      exact ⟨.inr hy, fun e => hn.1 (e ▸ hy)⟩
    · rintro ⟨h1 | h1, h2⟩
      · exact absurd h1 h2
      · exact h1
  · refine (timers_drop_no h hlen x hx).mono ?_
    rintro e w1 ⟨rfl, k1⟩
    exact ⟨_, v, l, rfl, h.none k1, fun y => ⟨fun hy => ⟨hy, fun e => hx (e ▸ hy)⟩, fun hy => hy.1⟩, Nat.le_refl _, k1.mono (fun _ _ e => e.elim), rfl⟩
/-- A value is put into a window. -/
def putM (kind : Int) (M : KM) (key : ByteArray) (s : Span) (v : Int) : KM := setM M key (if kind = 2 then mergeP key s v (M key) else putP (M key) key s v)
/-- .. into each window that is not over. -/
def takeM (kind late mark : Int) (key : ByteArray) (v : Int) : List Span → KM → KM
  | [], M => M
  | s :: l, M => takeM kind late mark key v l (if s.overB late mark then M else putM kind M key s v)
theorem takeM_snoc (kind late mark : Int) (key : ByteArray) (v : Int) : ∀ (l : List Span) (s : Span) (M : KM), takeM kind late mark key v (l ++ [s]) M = if s.overB late mark then takeM kind late mark key v l M else putM kind (takeM kind late mark key v l M) key s v
  | [], s, M => rfl
  | x :: l, s, M => takeM_snoc kind late mark key v l s _
/-- How many windows are not over. -/
def openN (late mark : Int) (l : List Span) : Nat := (l.filter (fun s => !s.overB late mark)).length
def codeG (late mark : Int) (l : List Span) : Int := if openN late mark l = 0 then 1 else 0
end Go.Proofs.YtmioichjhiengaaGreat

/-
  timer.New, group.New.
-/
namespace Go.Proofs.YtmioichjhiengaaGreat
open Go.RowKit

/-- Block b is o. -/
def Has (w : World) (b : Nat) (o : Obj) : Prop := w.heap[b]? = some o
theorem Has.lt {w : World} {b : Nat} {o : Obj} (h : Has w b o) : b < w.heap.size := (Array.getElem?_eq_some_iff.1 h).1
theorem Has.keep {S : Nat → Prop} {w w' : World} {b : Nat} {o : Obj} (h : Has w b o) (kk : Keep S w w') (hs : ¬ S b) : Has w' b o := (kk.block b h.lt hs).trans h
theorem Has.new {w : World} {n : Nat} (hn : n = w.heap.size) (o : Obj) : Has (w.alloc o) n o := by
  subst hn
  show (w.heap.push _)[w.heap.size]? = _
  simp
theorem Has.alloc {w : World} {b : Nat} {o : Obj} (h : Has w b o) (o' : Obj) : Has (w.alloc o') b o := (Below.heap_alloc _ _ _ h.lt).trans h
theorem Has.drew {w : World} {b : Nat} {o : Obj} (h : Has w b o) : Has w.drew b o := h

theorem timer_new (w : World) : Calls Tryz.prog 43 #[] w fun e w' => e = .returned (.pointer (some ⟨w.heap.size, 0, none⟩)) ∧ w' = w.alloc (.cells #[.slice none 0 0] 128) := by
  go_enter Tryz.func43, Tryz.ntmps43
  go_wp2
  go_ret
  exact ⟨rfl, rfl⟩

theorem cells8 {a w : World} {b : Nat} {v0 v1 v2 v3 v4 v5 v6 v7 : Value} (hb : b < a.heap.size) (q0 : a.cell? ⟨b, 0, none⟩ = some v0) (q1 : a.cell? ⟨b, 1, none⟩ = some v1) (q2 : a.cell? ⟨b, 2, none⟩ = some v2) (q3 : a.cell? ⟨b, 3, none⟩ = some v3)
    (q4 : a.cell? ⟨b, 4, none⟩ = some v4) (q5 : a.cell? ⟨b, 5, none⟩ = some v5) (q6 : a.cell? ⟨b, 6, none⟩ = some v6) (q7 : a.cell? ⟨b, 7, none⟩ = some v7) (kk : Keep none_ a w) :
    w.cell? ⟨b, 0, none⟩ = some v0 ∧ w.cell? ⟨b, 1, none⟩ = some v1 ∧ w.cell? ⟨b, 2, none⟩ = some v2 ∧ w.cell? ⟨b, 3, none⟩ = some v3 ∧ w.cell? ⟨b, 4, none⟩ = some v4 ∧ w.cell? ⟨b, 5, none⟩ = some v5 ∧ w.cell? ⟨b, 6, none⟩ = some v6 ∧ w.cell? ⟨b, 7, none⟩ = some v7 ∧ Keep none_ a w :=
  ⟨(keep_cell kk hb).trans q0, (keep_cell kk hb).trans q1, (keep_cell kk hb).trans q2, (keep_cell kk hb).trans q3, (keep_cell kk hb).trans q4, (keep_cell kk hb).trans q5, (keep_cell kk hb).trans q6, (keep_cell kk hb).trans q7, kk⟩
/-- A new group: its struct, its map, its timers. -/
def NewGroup (c : Config) (w : World) (e : Ending) (w' : World) : Prop :=
  ∃ gp mp tp clock, e = .returned (.tuple #[.pointer (some ⟨gp, 0, none⟩), .nilIface]) ∧ Keep none_ w w' ∧ w.heap.size ≤ gp ∧ w.heap.size ≤ mp ∧ w.heap.size ≤ tp ∧
    At w' gp (c.cells ++ [Value.map (some mp), Value.pointer (some ⟨tp, 0, none⟩)]).toArray 93 ∧ Has w' mp (.map #[] clock) ∧ At w' tp #[.slice none 0 0] 128
theorem group_new_no (w : World) (c : Config) (hc : c.ok) (h : c.mayB = false) : Calls Tryz.prog 9 #[.agg c.cells.toArray] w fun e w' => e = .returned (.tuple #[.pointer none, errV 2]) ∧ Keep none_ w w' := by
  have c1 := fun w => assign_may w c hc
  rw [h] at c1
  replace c1 := Lib.hid c1
  clear h hc
  have kk : Keep none_ w (w.alloc (.cells c.cells.toArray 23)) := (by repeat' (first | assumption | with_reducible exact Keep.refl _ _ | with_reducible refine Keep.alloc ?_ _ | with_reducible refine Keep.drew ?_))
  simp only [Config.cells] at kk c1 ⊢
  go_enter Tryz.func9, Tryz.ntmps9
  go_wp2_with fail
  refine (c1.out _).mono ?_
  rintro e w1 ⟨rfl, k1⟩
  go_wp2_with fail
  go_ret2
  exact ⟨rfl, kk.trans k1⟩
set_option maxHeartbeats 1000000 in
theorem group_new (w : World) (c : Config) (hc : c.ok) (h : c.mayB = true) : Calls Tryz.prog 9 #[.agg c.cells.toArray] w (NewGroup c w) := by
  have c1 := fun w => assign_may w c hc
  rw [h] at c1
  replace c1 := Lib.hid c1
  have hmm := @run_makeMap Tryz.prog
  have kk : Keep none_ w (w.alloc (.cells c.cells.toArray 23)) := (by repeat' (first | assumption | with_reducible exact Keep.refl _ _ | with_reducible refine Keep.alloc ?_ _ | with_reducible refine Keep.drew ?_))
  have hx := At.new w c.cells.toArray 23
  clear h hc
  obtain ⟨kind, size, slide, gap, late, shards, groups, cap⟩ := c
  simp only [Config.cells] at kk c1 hx ⊢
  go_enter Tryz.func9, Tryz.ntmps9
  go_wp2_with fail
  refine (c1.out _).mono ?_
  rintro e w1 ⟨rfl, k1⟩
  have kw := kk.trans k1
  have hx1 := Keep.at k1 hx (fun e => e)
  have hxl := hx1.lt
  clear kk k1 hx c1
  go_wp2_with fail
  have q0 := At.cell hx1 0
  have q1 := At.cell hx1 1
  have q2 := At.cell hx1 2
  have q3 := At.cell hx1 3
  have q4 := At.cell hx1 4
  have q5 := At.cell hx1 5
  have q6 := At.cell hx1 6
  have q7 := At.cell hx1 7
  simp at q0 q1 q2 q3 q4 q5 q6 q7
  generalize w.heap.size = cb at *
  go_region_held3 (fun w' => w'.cell? ⟨cb, 0, none⟩ = some (.int .i64 kind) ∧ w'.cell? ⟨cb, 1, none⟩ = some (.int .i64 size) ∧ w'.cell? ⟨cb, 2, none⟩ = some (.int .i64 slide) ∧ w'.cell? ⟨cb, 3, none⟩ = some (.int .i64 gap) ∧
      w'.cell? ⟨cb, 4, none⟩ = some (.int .i64 late) ∧ w'.cell? ⟨cb, 5, none⟩ = some (.int .i64 shards) ∧ w'.cell? ⟨cb, 6, none⟩ = some (.int .i64 groups) ∧ w'.cell? ⟨cb, 7, none⟩ = some (.int .i64 cap) ∧ Keep none_ w1 w')
    (first
      | exact cells8 hxl q0 q1 q2 q3 q4 q5 q6 q7 (Keep.refl _ _).drew
      | (go_split_ands; exact cells8 hxl q0 q1 q2 q3 q4 q5 q6 q7 (by repeat' (first | assumption | with_reducible exact Keep.refl _ _ | with_reducible refine Keep.alloc ?_ _ | with_reducible refine Keep.drew ?_)))
      | fail)
    ((first
      | (go_at_call 43; refine (timer_new _).mono ?_; rintro e w' ⟨rfl, rfl⟩)
      | fail))
  · go_wp2_with fail
    go_ret2
    exact ⟨_, w1.heap.size, w1.heap.size + 1, 0, rfl, kw.trans (by repeat' (first | assumption | with_reducible exact Keep.refl _ _ | with_reducible refine Keep.alloc ?_ _ | with_reducible refine Keep.drew ?_)), by have := kw.size; simp; omega, by have := kw.size; simp; omega, by have := kw.size; simp; omega, (show At _ _ #[.int .i64 kind, .int .i64 size, .int .i64 slide, .int .i64 gap, .int .i64 late, .int .i64 shards, .int .i64 groups, .int .i64 cap, _, _] _ from (by repeat' (first | ((with_reducible refine At.newAt ?_ _ _); (first | (simp; done) | rfl)) | with_reducible refine At.drew ?_ | with_reducible refine At.alloc ?_ _))), (by repeat' (first | ((with_reducible refine Has.new ?_ _); (first | (simp; done) | rfl)) | with_reducible refine Has.drew ?_ | with_reducible refine Has.alloc ?_ _)), (by repeat' (first | ((with_reducible refine At.newAt ?_ _ _); (first | (simp; done) | rfl)) | with_reducible refine At.drew ?_ | with_reducible refine At.alloc ?_ _))⟩
  · go_wp2_with fail
    go_ret2
    exact ⟨_, w1.heap.size + 1, w1.heap.size, 0, rfl, kw.trans (by repeat' (first | assumption | with_reducible exact Keep.refl _ _ | with_reducible refine Keep.alloc ?_ _ | with_reducible refine Keep.drew ?_)), by have := kw.size; simp; omega, by have := kw.size; simp; omega, by have := kw.size; simp; omega, (show At _ _ #[.int .i64 kind, .int .i64 size, .int .i64 slide, .int .i64 gap, .int .i64 late, .int .i64 shards, .int .i64 groups, .int .i64 cap, _, _] _ from (by repeat' (first | ((with_reducible refine At.newAt ?_ _ _); (first | (simp; done) | rfl)) | with_reducible refine At.drew ?_ | with_reducible refine At.alloc ?_ _))), (by repeat' (first | ((with_reducible refine Has.new ?_ _); (first | (simp; done) | rfl)) | with_reducible refine Has.drew ?_ | with_reducible refine Has.alloc ?_ _)), (by repeat' (first | ((with_reducible refine At.newAt ?_ _ _); (first | (simp; done) | rfl)) | with_reducible refine At.drew ?_ | with_reducible refine At.alloc ?_ _))⟩
end Go.Proofs.YtmioichjhiengaaGreat

/-
  A new group is one without panes.
-/
namespace Go.Proofs.YtmioichjhiengaaGreat
open Go.RowKit

theorem fit_nil {H : Type} {P : Program} {k : TypeId} {R : Value → Option (DataW H × List MemPlace)} (clock : Nat) : WideElems.Fit P k R #[] clock := by
  exact ⟨by simp, MapKept.stamped_empty clock, by simp⟩
theorem smap_has {w : World} {b clock : Nat} (h : Has w b (.map #[] clock)) : SMap w b 0 (fun _ => none) :=
  ⟨.map [], ⟨#[], clock, h, fit_nil clock, Nat.le_refl _, rfl⟩, ⟨_, rfl⟩, fun x _ => ⟨rfl, fun z => rfl⟩⟩
def Born (c : Config) (w : World) (e : Ending) (w' : World) : Prop :=
  ∃ gp mp tp, e = .returned (.tuple #[.pointer (some ⟨gp, 0, none⟩), .nilIface]) ∧ (∀ X : Nat → Prop, (∀ q, X q → q < w'.heap.size) → GrpAt w' gp mp tp 0 0 c (.slice none 0 0) X (fun _ => []) []) ∧ Keep none_ w w' ∧ w.heap.size ≤ gp ∧ w.heap.size ≤ mp ∧ w.heap.size ≤ tp
theorem has_at {w : World} {b clock : Nat} {cs : Array Value} {T : TypeId} (h : Has w b (.map #[] clock)) (h2 : At w b cs T) : False := by
  unfold Has at h
  unfold At at h2
  rw [h] at h2
  cases h2
theorem group_born (w : World) (c : Config) (hc : c.ok) (h : c.mayB = true) : Calls Tryz.prog 9 #[.agg c.cells.toArray] w (Born c w) := by
  refine (group_new w c hc h).mono ?_
  rintro e w1 ⟨gp, mp, tp, clock, rfl, k, l1, l2, l3, hg, hm, ht⟩
  have hgt : gp ≠ tp := by
    rintro rfl
    unfold At at hg ht
    rw [hg] at ht
    simp [Config.cells] at ht
  refine ⟨gp, mp, tp, rfl, fun X hX => ⟨hg, ⟨0, _, Nat.le_refl _, smap_has hm, fun key _ => .inl ⟨rfl, rfl⟩⟩, ⟨ht, World.ownsRow_nil _ _ _ _, fun k h0 hk => absurd hk (Nat.not_lt_zero _), List.nodup_nil⟩, ?_, ?_, ?_, fun _ k => ⟨fun p hp => (by cases hp), List.Pairwise.nil⟩, hX⟩, k, l1, l2, l3⟩
  · rintro (e | e)
    · subst e; exact has_at hm ht
    · simp [Value.ownBlock] at e
  · rintro (e | e | e)
    · subst e; exact has_at hm hg
    · exact hgt e
    · simp [Value.ownBlock] at e
  · exact ⟨fun x _ => ⟨fun h => (by cases h), fun ⟨p, hp, _⟩ => (by cases hp)⟩, fun x hx => (by cases hx), fun k => List.Pairwise.nil, fun k p hp => (by cases hp), fun k => Nat.le_refl _, Nat.le_refl _⟩
end Go.Proofs.YtmioichjhiengaaGreat
