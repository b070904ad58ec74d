/-
  A group's laws (plain): what settling takes out, what a put leaves.
-/
import Derived.Test.YtmioichjhiengaaGroupAt
namespace Go.Proofs.Ytmioichjhiengaa
open Go.RowKit

theorem delL_perm {α : Type} {xs : List α} {i : Nat} (hi : i < xs.length) : xs.Perm (xs[i] :: delL xs i) := by
  have e : xs = xs.take i ++ (xs[i] :: xs.drop (i + 1)) := by rw [List.getElem_cons_drop, List.take_append_drop]
  have h : xs.Perm (xs.take i ++ (xs[i] :: xs.drop (i + 1))) := by rw [← e]
  exact h.trans List.perm_middle
theorem delL_sub {α : Type} (xs : List α) (i : Nat) : (delL xs i).Sublist xs := by
  have h : (xs.take i ++ xs.drop (i + 1)).Sublist (xs.take i ++ xs.drop i) := by
    apply List.Sublist.append_left
    rw [← List.drop_drop]
    exact List.drop_sublist _ _
  rw [List.take_append_drop] at h
  exact h
theorem cut_spec {xs : List Pane} (hs : SortedP xs) {p : Pane} (hp : p ∈ xs) : findP xs p.span = (p, true) ∧ xs.Perm (p :: cutP xs p.span) ∧ (cutP xs p.span).Sublist xs := by
  have hb : isP xs p.span = true := (isP_iff hs).2 ⟨p, hp, rfl⟩
  obtain ⟨hl, e⟩ := isP_at hb
  have he : xs[lbP xs p.span] = p := span_inj hs (List.getElem_mem hl) hp e
  have hc : cutP xs p.span = delL xs (lbP xs p.span) := by unfold cutP; rw [if_pos hb]
  refine ⟨?_, ?_, ?_⟩
  · unfold findP
    rw [hb, List.getElem?_eq_getElem hl, he]
  · rw [hc]
    have h := delL_perm hl
    rw [he] at h
    exact h
  · rw [hc]
    exact delL_sub _ _
theorem sorted_nodup {xs : List Pane} (hs : SortedP xs) : xs.Nodup := by
  refine List.Pairwise.imp ?_ hs
  intro a b h e
  subst e
  rw [slt_irr] at h
  cases h
theorem cut_mem {xs : List Pane} (hs : SortedP xs) {p : Pane} (hp : p ∈ xs) (q : Pane) : q ∈ cutP xs p.span ↔ q ∈ xs ∧ q ≠ p := by
  have h := (cut_spec hs hp).2.1
  have hn := (h.nodup_iff).1 (sorted_nodup hs)
  rw [List.nodup_cons] at hn
  rw [h.mem_iff, List.mem_cons]
  constructor
  · intro hq
    exact ⟨.inr hq, fun e => hn.1 (e ▸ hq)⟩
  · rintro ⟨h1 | h1, h2⟩
    · exact absurd h1 h2
    · exact h1

abbrev KM := ByteArray → List Pane
/-- The pane p is cut out. -/
def cutM (M : KM) (p : Pane) : KM := setM M p.key (cutP (M p.key) p.span)
theorem cutM_mem {M : KM} {p : Pane} (hs : SortedP (M p.key)) (hp : p ∈ M p.key) (k : ByteArray) (q : Pane) : q ∈ cutM M p k ↔ q ∈ M k ∧ ¬ (k = p.key ∧ q = p) := by
  unfold cutM setM
  by_cases e : k = p.key
  · subst e
    rw [if_pos rfl, cut_mem hs hp]
    simp
  · rw [if_neg e]
    simp [e]
theorem cutM_sub {M : KM} {p : Pane} (hs : SortedP (M p.key)) (hp : p ∈ M p.key) (k : ByteArray) : (cutM M p k).Sublist (M k) := by
  unfold cutM setM
  by_cases e : k = p.key
  · subst e
    rw [if_pos rfl]
    exact (cut_spec hs hp).2.2
  · rw [if_neg e]
    exact List.Sublist.refl _
theorem GrpOK.cut {N : Nat} {M : KM} {T T' : List Timer} (h : GrpOK N M T) {p : Pane} (hp : p ∈ M p.key) (hn : T.Nodup) (hT : T.Perm (⟨p.key, p.span⟩ :: T')) : GrpOK N (cutM M p) T' := by
  have hs := h.srt p.key
  have hn2 := (hT.nodup_iff).1 hn
  rw [List.nodup_cons] at hn2
  have hT' : ∀ x, x ∈ T' ↔ x ∈ T ∧ x ≠ ⟨p.key, p.span⟩ := fun x => by
    rw [hT.mem_iff, List.mem_cons]
    constructor
    · intro hx
      exact ⟨.inr hx, fun e => hn2.1 (e ▸ hx)⟩
    · rintro ⟨h1 | h1, h2⟩
      · exact absurd h1 h2
      · exact h1
  refine ⟨fun x hx => ?_, fun x hx => h.key x ((hT' x).1 hx).1, fun k => ?_, fun k q hq => ?_, fun k => ?_, ?_⟩
  · rw [hT', h.rel x hx]
    constructor
    · rintro ⟨⟨q, hq, e⟩, h2⟩
      refine ⟨q, (cutM_mem hs hp _ _).2 ⟨hq, fun h3 => h2 ?_⟩, e⟩
      obtain ⟨xk, xs⟩ := x
      obtain ⟨h4, h5⟩ := h3
      simp only at h4 e
      subst h4 h5 e
      rfl
    · rintro ⟨q, hq, e⟩
      have h2 := (cutM_mem hs hp _ _).1 hq
      refine ⟨⟨q, h2.1, e⟩, fun e2 => h2.2 ?_⟩
      subst e2
      exact ⟨rfl, span_inj hs h2.1 hp e⟩
  · exact (h.srt k).sublist (cutM_sub hs hp k)
  · exact h.ok k q ((cutM_mem hs hp _ _).1 hq).1
  · exact Nat.le_trans (cutM_sub hs hp k).length_le (h.len k)
  · have := hT.length_eq
    have := h.tim
    simp at *
    omega
theorem Apart.sub {l m : List Pane} (h : Apart l) (s : m.Sublist l) : Apart m := ⟨fun p hp => h.may p (s.subset hp), h.apart.sublist s⟩

/-- A pane may go out next. -/
structure Next (late mark : Int) (M : KM) (p : Pane) : Prop where
  key : p.key.size ≤ maxLen
  mem : p ∈ M p.key
  over : p.span.overB late mark = true
  least : ∀ k q, k.size ≤ maxLen → q ∈ M k → tlt ⟨k, q.span⟩ ⟨p.key, p.span⟩ = false
/-- Panes go out, one behind the other. -/
def Steps (late mark : Int) : KM → List Pane → KM → Prop
  | M, [], M' => M' = M
  | M, p :: O, M' => Next late mark M p ∧ Steps late mark (cutM M p) O M'
theorem Steps.snoc {late mark : Int} {p : Pane} : ∀ {O : List Pane} {M M1 : KM}, Steps late mark M O M1 → Next late mark M1 p → Steps late mark M (O ++ [p]) (cutM M1 p)
  | [], _, _, h, hp => by
    have e : _ = _ := h
    subst e
    exact ⟨hp, rfl⟩
  | _ :: _, _, _, h, hp => ⟨h.1, h.2.snoc hp⟩
/-- Nothing is over. -/
def Calm (late mark : Int) (M : KM) : Prop := ∀ k q, k.size ≤ maxLen → q ∈ M k → q.span.overB late mark = false
/-- Panes by rising windows, each of its key. -/
structure KMOK (M : KM) : Prop where
  srt : ∀ k, SortedP (M k)
  key : ∀ k, ∀ p ∈ M k, p.key = k
theorem GrpOK.km {N : Nat} {M : KM} {T : List Timer} (h : GrpOK N M T) : KMOK M := ⟨h.srt, fun k p hp => (h.ok k p hp).2⟩
theorem KMOK.cut {M : KM} (h : KMOK M) {p : Pane} (hp : p ∈ M p.key) : KMOK (cutM M p) :=
  ⟨fun k => (h.srt k).sublist (cutM_sub (h.srt _) hp k), fun k q hq => h.key k q ((cutM_mem (h.srt _) hp _ _).1 hq).1⟩
theorem Steps.km {late mark : Int} : ∀ {O : List Pane} {M M' : KM}, Steps late mark M O M' → KMOK M → KMOK M'
  | [], _, _, h, hk => by
    have e : _ = _ := h
    subst e
    exact hk
  | _ :: _, _, _, h, hk => h.2.km (hk.cut h.1.mem)
theorem Steps.sub {late mark : Int} : ∀ {O : List Pane} {M M' : KM}, Steps late mark M O M' → KMOK M → ∀ k, (M' k).Sublist (M k)
  | [], _, _, h, hk, k => by
    have e : _ = _ := h
    subst e
    exact List.Sublist.refl _
  | _ :: _, _, _, h, hk, k => (h.2.sub (hk.cut h.1.mem) k).trans (cutM_sub (hk.srt _) h.1.mem k)
theorem Steps.out {late mark : Int} : ∀ {O : List Pane} {M M' : KM}, Steps late mark M O M' → KMOK M → ∀ p ∈ O, p.key.size ≤ maxLen ∧ p ∈ M p.key ∧ p.span.overB late mark = true
  | [], _, _, h, hk, p, hp => by cases hp
  | x :: O, M, _, h, hk, p, hp => by
    rcases List.mem_cons.1 hp with rfl | hp
    · exact ⟨h.1.key, h.1.mem, h.1.over⟩
    · have h2 := h.2.out (hk.cut h.1.mem) p hp
      exact ⟨h2.1, ((cutM_mem (hk.srt _) h.1.mem _ _).1 h2.2.1).1, h2.2.2⟩
theorem Steps.rises {late mark : Int} : ∀ {O : List Pane} {M M' : KM}, Steps late mark M O M' → KMOK M → O.Pairwise (fun a b => tlt ⟨a.key, a.span⟩ ⟨b.key, b.span⟩ = true)
  | [], _, _, h, hk => List.Pairwise.nil
  | x :: O, M, _, h, hk => by
    refine List.Pairwise.cons (fun y hy => ?_) (h.2.rises (hk.cut h.1.mem))
    have h2 := h.2.out (hk.cut h.1.mem) y hy
    obtain ⟨h3, h4⟩ := (cutM_mem (hk.srt _) h.1.mem _ _).1 h2.2.1
    have h5 := h.1.least y.key y h2.1 h3
    cases h6 : tlt ⟨x.key, x.span⟩ ⟨y.key, y.span⟩
    · exfalso
      have h7 := (tlt_strict.tot _ _ h5 h6)
      have h8 : y.key = x.key ∧ y.span = x.span := by simpa using h7
      refine h4 ⟨h8.1, span_inj (hk.srt x.key) (h8.1 ▸ h3) h.1.mem h8.2⟩
    · rfl
theorem perm_cnt {l m : List Pane} (h : l.Perm m) : cnt l = cnt m := by
  induction h with
  | nil => rfl
  | cons x _ ih => simp only [cnt, List.map_cons, List.sum_cons] at ih ⊢; omega
  | swap x y l => simp only [cnt, List.map_cons, List.sum_cons]; omega
  | trans _ _ h1 h2 => exact h1.trans h2
/-- Panes of one key count as many before as behind. -/
theorem Steps.counts {late mark : Int} : ∀ {O : List Pane} {M M' : KM}, Steps late mark M O M' → KMOK M → ∀ k, cnt (M k) = cnt (O.filter (fun p => eqS p.key k)) + cnt (M' k)
  | [], _, _, h, hk, k => by
    have e : _ = _ := h
    subst e
    simp [cnt]
  | x :: O, M, _, h, hk, k => by
    have ih := h.2.counts (hk.cut h.1.mem) k
    have h2 : cnt (M k) = (if eqS x.key k = true then x.agg.count else 0) + cnt (cutM M x k) := by
      by_cases e : x.key = k
      · subst e
        have h3 : cutM M x x.key = cutP (M x.key) x.span := by unfold cutM setM; rw [if_pos rfl]
        rw [h3]
        have hp := (cut_spec (hk.srt _) h.1.mem).2.1
        have h4 : cnt (M x.key) = cnt (x :: cutP (M x.key) x.span) := perm_cnt hp
        rw [h4, if_pos (eqS_iff.2 rfl)]
        simp [cnt]
      · have h3 : cutM M x k = M k := by unfold cutM setM; rw [if_neg (fun e2 => e e2.symm)]
        rw [h3]
        have : ¬ eqS x.key k = true := fun e2 => e (eqS_iff.1 e2)
        simp [this]
    rw [h2, ih]
    by_cases e : eqS x.key k = true
    · rw [List.filter_cons_of_pos (by simpa using e)]
      simp only [e, if_true, cnt, List.map_cons, List.sum_cons]
      omega
    · rw [List.filter_cons_of_neg (by simpa using e)]
      simp [e]

theorem timers_put_all {w : World} {p : Nat} {v : Value} {l : List Timer} (h : TAt w p v l) (hlen : l.length ≤ 90000) (x : Timer) :
    Calls Try.prog 96 #[.pointer (some ⟨p, 0, none⟩), .agg x.cells.toArray] w fun e w' => ∃ b v' l', e = .returned (.bool b) ∧ TAt w' p v' l' ∧ (∀ y, y ∈ l' ↔ y ∈ l ∨ y = x) ∧ l'.length ≤ l.length + 1 ∧ Keep (tset p v) w w' ∧ SameOwn w v v' := by
  by_cases hx : x ∈ l
  · refine (timers_put_in h hlen x hx).mono ?_
    rintro e w1 ⟨rfl, k1⟩
    exact ⟨_, v, l, rfl, h.none k1, fun y => ⟨fun e => .inl e, fun e => by rcases e with e | rfl; exact e; exact hx⟩, by omega, k1.mono (fun _ _ e => e.elim), .inl rfl⟩
  · refine (timers_put h hlen x hx).mono ?_
    rintro e w1 ⟨rfl, v', l', h1, pe, k1, o1⟩
    exact ⟨_, v', l', rfl, h1, fun y => by rw [pe.mem_iff]; simp, by rw [pe.length_eq]; simp, k1, o1⟩
theorem timers_drop_all {w : World} {p : Nat} {v : Value} {l : List Timer} (h : TAt w p v l) (hlen : l.length ≤ 90000) (x : Timer) :
    Calls Try.prog 97 #[.pointer (some ⟨p, 0, none⟩), .agg x.cells.toArray] w fun e w' => ∃ b v' l', e = .returned (.bool b) ∧ TAt w' p v' l' ∧ (∀ y, y ∈ l' ↔ y ∈ l ∧ y ≠ x) ∧ l'.length ≤ l.length ∧ Keep (tset p v) w w' ∧ v'.ownBlock = v.ownBlock := by
  by_cases hx : x ∈ l
  · refine (timers_drop h hlen x hx).mono ?_
    rintro e w1 ⟨rfl, v', l', h1, pe, k1, o1⟩
    have hn := (pe.nodup_iff).1 h.nodup
    rw [List.nodup_cons] at hn
    refine ⟨_, v', l', rfl, h1, fun y => ?_, by rw [pe.length_eq]; simp, k1, o1⟩
    rw [pe.mem_iff, List.mem_cons]
    constructor
    · intro hy
      exact ⟨.inr hy, fun e => hn.1 (e ▸ hy)⟩
    · rintro ⟨h1 | h1, h2⟩
      · exact absurd h1 h2
      · exact h1
  · refine (timers_drop_no h hlen x hx).mono ?_
    rintro e w1 ⟨rfl, k1⟩
    exact ⟨_, v, l, rfl, h.none k1, fun y => ⟨fun hy => ⟨hy, fun e => hx (e ▸ hy)⟩, fun hy => hy.1⟩, Nat.le_refl _, k1.mono (fun _ _ e => e.elim), rfl⟩
/-- A value is put into a window. -/
def putM (kind : Int) (M : KM) (key : ByteArray) (s : Span) (v : Int) : KM := setM M key (if kind = 2 then mergeP key s v (M key) else putP (M key) key s v)
/-- .. into each window that is not over. -/
def takeM (kind late mark : Int) (key : ByteArray) (v : Int) : List Span → KM → KM
  | [], M => M
  | s :: l, M => takeM kind late mark key v l (if s.overB late mark then M else putM kind M key s v)
theorem takeM_snoc (kind late mark : Int) (key : ByteArray) (v : Int) : ∀ (l : List Span) (s : Span) (M : KM), takeM kind late mark key v (l ++ [s]) M = if s.overB late mark then takeM kind late mark key v l M else putM kind (takeM kind late mark key v l M) key s v
  | [], s, M => rfl
  | x :: l, s, M => takeM_snoc kind late mark key v l s _
/-- How many windows are not over. -/
def openN (late mark : Int) (l : List Span) : Nat := (l.filter (fun s => !s.overB late mark)).length
def codeG (late mark : Int) (l : List Span) : Int := if openN late mark l = 0 then 1 else 0
end Go.Proofs.Ytmioichjhiengaa
