/-
  Texts of one kind, one behind the other.
-/
import Derived.Test.YtmioichjhiengaaGreatBasePane
import Derived.Test.YtmioichjhiengaaGreatBaseGrp
import Derived.Test.YtmioichjhiengaaGreatSpanRef
import Derived.Test.YtmioichjhiengaaGreatBaseOnce
import Derived.Test.YtmioichjhiengaaGreatBaseOf
set_option linter.unusedSimpArgs false
set_option linter.unusedVariables false
/-
  What PanePlays' loop keeps (plain): the panes that are met, the others, what comes of them.
-/
namespace Go.Proofs.YtmioichjhiengaaGreat
open Go.RowKit

/-- Is a pane met: merged in, or of the same window? -/
def sameQ (mg : Bool) (s : Span) (x : Pane) : Bool := if mg then x.span.meetB s else x.span.eqB s
def restQ (mg : Bool) (s : Span) (xs : List Pane) : List Pane := xs.filter (fun x => !sameQ mg s x)
def metQ (mg : Bool) (s : Span) (xs : List Pane) : List Pane := xs.filter (sameQ mg s)
def accQ (mg : Bool) (key : ByteArray) (s : Span) (v : Int) (xs : List Pane) : Pane := (metQ mg s xs).foldl mergeStep ⟨key, s, Agg.one v⟩
theorem rest_merge (s : Span) (xs : List Pane) : restQ true s xs = outP xs s := rfl
theorem met_merge (s : Span) (xs : List Pane) : metQ true s xs = metP xs s := rfl
theorem acc_merge (key : ByteArray) (s : Span) (v : Int) (xs : List Pane) : accQ true key s v xs = accP key s v xs := rfl
theorem accQ_ok {mg : Bool} {key : ByteArray} {s : Span} {v : Int} {xs : List Pane} (hv : I64 v) (h : ∀ x ∈ xs, x.ok) : (accQ mg key s v xs).agg.ok :=
  fold_ok _ _ (one_ok hv) (fun x hx => (h x (List.mem_filter.1 hx).1).2.2)
theorem accQ_succ {mg : Bool} {key : ByteArray} {s : Span} {v : Int} {xs : List Pane} {k : Nat} (hk : k < xs.length) :
    accQ mg key s v (xs.take (k + 1)) = if sameQ mg s xs[k] then mergeStep (accQ mg key s v (xs.take k)) xs[k] else accQ mg key s v (xs.take k) := by
  unfold accQ metQ
  rw [take_succ_filter hk, List.foldl_append]
  cases sameQ mg s xs[k] <;> simp
theorem restQ_succ {mg : Bool} {s : Span} {xs : List Pane} {k : Nat} (hk : k < xs.length) : restQ mg s (xs.take (k + 1)) = restQ mg s (xs.take k) ++ (if sameQ mg s xs[k] then [] else [xs[k]]) := by
  unfold restQ
  rw [take_succ_filter hk]
  cases sameQ mg s xs[k] <;> simp
theorem metQ_succ {mg : Bool} {s : Span} {xs : List Pane} {k : Nat} (hk : k < xs.length) : (metQ mg s (xs.take (k + 1))).map (·.span) = (metQ mg s (xs.take k)).map (·.span) ++ (if sameQ mg s xs[k] then [xs[k].span] else []) := by
  unfold metQ
  rw [take_succ_filter hk, List.map_append]
  cases sameQ mg s xs[k] <;> simp

theorem sorted_ne {xs : List Pane} (hs : SortedP xs) {i j : Nat} (hi : i < xs.length) (hj : j < xs.length) (hij : i ≠ j) : xs[i].span ≠ xs[j].span := by
  intro e
  rcases Nat.lt_or_gt_of_ne hij with h | h
  · have := List.pairwise_iff_getElem.1 hs i j hi hj h
    rw [e, slt_irr] at this; cases this
  · have := List.pairwise_iff_getElem.1 hs j i hj hi h
    rw [e, slt_irr] at this; cases this
theorem eqB_ne {a b : Span} (h : a ≠ b) : a.eqB b = false := by
  rw [← Bool.not_eq_true]
  exact fun e => h ((Span.eqB_iff _ _).1 e)
theorem put_none {xs : List Pane} {s : Span} (hs : SortedP xs) (h : isP xs s = false) : metQ false s xs = [] ∧ restQ false s xs = xs := by
  have hno : ∀ x ∈ xs, sameQ false s x = false := fun x hx => by
    show x.span.eqB s = false
    exact eqB_ne (fun e => by
      have := (isP_iff hs).2 ⟨x, hx, e⟩
      rw [h] at this; cases this)
  constructor
  · unfold metQ
    rw [List.filter_eq_nil_iff]
    intro x hx
    rw [hno x hx]; decide
  · unfold restQ
    rw [List.filter_eq_self]
    intro x hx
    rw [hno x hx]; rfl
theorem put_some {xs : List Pane} {s : Span} (hs : SortedP xs) (h : isP xs s = true) (hl : lbP xs s < xs.length) : metQ false s xs = [xs[lbP xs s]] ∧ restQ false s xs = delL xs (lbP xs s) := by
  have e9 : xs[lbP xs s].span = s := by
    obtain ⟨h1, e⟩ := isP_at h
    exact e
  generalize lbP xs s = i at *
  have hsame : ∀ j (hj : j < xs.length), sameQ false s xs[j] = decide (j = i) := fun j hj => by
    show xs[j].span.eqB s = _
    by_cases hji : j = i
    · subst hji
      rw [(Span.eqB_iff _ _).2 e9]; simp
    · rw [eqB_ne (fun e2 => sorted_ne hs hj hl hji (e2.trans e9.symm))]; simp [hji]
  have hx : xs = xs.take i ++ xs[i] :: xs.drop (i + 1) := by rw [← List.drop_eq_getElem_cons hl, List.take_append_drop]
  have h1 : ∀ x ∈ xs.take i, sameQ false s x = false := fun x hx => by
    obtain ⟨j, hj, rfl⟩ := List.getElem_of_mem hx
    rw [List.length_take] at hj
    rw [List.getElem_take, hsame j (by omega)]
    simp; omega
  have h2 : ∀ x ∈ xs.drop (i + 1), sameQ false s x = false := fun x hx => by
    obtain ⟨j, hj, rfl⟩ := List.getElem_of_mem hx
    rw [List.length_drop] at hj
    rw [List.getElem_drop, hsame (i + 1 + j) (by omega)]
    simp; omega
  have h0 : sameQ false s xs[i] = true := by rw [hsame i hl]; simp
  constructor
  · unfold metQ
    have : xs.filter (sameQ false s) = (xs.take i ++ xs[i] :: xs.drop (i + 1)).filter (sameQ false s) := congrArg _ hx
    rw [this, List.filter_append, List.filter_cons_of_pos h0, List.filter_eq_nil_iff.2 (fun x hx => by rw [h1 x hx]; decide), List.filter_eq_nil_iff.2 (fun x hx => by rw [h2 x hx]; decide)]
    rfl
  · unfold restQ delL
    have : xs.filter (fun x => !sameQ false s x) = (xs.take i ++ xs[i] :: xs.drop (i + 1)).filter (fun x => !sameQ false s x) := congrArg _ hx
    rw [this, List.filter_append, List.filter_cons_of_neg (by rw [h0]; decide), List.filter_eq_self.2 (fun x hx => by rw [h1 x hx]; rfl), List.filter_eq_self.2 (fun x hx => by rw [h2 x hx]; rfl)]
theorem join_self (s : Span) : s.join s = s := by
  obtain ⟨a, b⟩ := s
  simp [Span.join]
theorem nice_of {N : Int} {a : Agg} (h : a.ok) (h1 : 1 ≤ a.count) (h2 : a.count ≤ N) : a.nice N := ⟨h, by omega, h2, fun e => by omega⟩

/-- Behind so many deeds. -/
structure PlayP (i : Nat) (key : ByteArray) (m : List Pane) : Prop where
  srt : SortedP m
  ok : ∀ p ∈ m, p.ok
  key_ : ∀ p ∈ m, p.key = key
  pos : ∀ p ∈ m, 1 ≤ p.agg.count
  all : cnt m ≤ i
  len : m.length ≤ i
theorem PlayP.zero (key : ByteArray) : PlayP 0 key [] := ⟨List.Pairwise.nil, fun _ h => (List.not_mem_nil h).elim, fun _ h => (List.not_mem_nil h).elim, fun _ h => (List.not_mem_nil h).elim, by simp [cnt], Nat.le_refl _⟩
theorem PlayP.counts {i : Nat} {key : ByteArray} {m : List Pane} (h : PlayP i key m) : Counts m (cnt m) (sms m) := ⟨h.pos, rfl, rfl⟩
/-- Put: what the law wants. -/
theorem PlayP.want {i : Nat} {key : ByteArray} {m : List Pane} (h : PlayP i key m) (hi : i ≤ 100000) (s : Span) (v : Int) (hv : I64 v) :
    putP m key s v = insL (restQ false s m) (lbP (restQ false s m) (accQ false key s v m).span) (accQ false key s v m) ∧ SortedP (restQ false s m) := by
  refine ⟨?_, h.srt.filter _⟩
  cases hb : isP m s
  · obtain ⟨e1, e2⟩ := put_none h.srt hb
    have hp : putP m key s v = insL m (lbP m s) ⟨key, s, Agg.one v⟩ := by unfold putP; rw [hb]
    have ha : accQ false key s v m = ⟨key, s, Agg.one v⟩ := by unfold accQ; rw [e1]; rfl
    rw [hp, e2, ha]
  · obtain ⟨hl, e⟩ := isP_at hb
    obtain ⟨e1, e2⟩ := put_some h.srt hb hl
    have hp : putP m key s v = m.set (lbP m s) { m[lbP m s] with agg := m[lbP m s].agg.merge (Agg.one v) } := by unfold putP; rw [hb, List.getElem?_eq_getElem hl]
    have hb1 : ∀ k (hk : k < m.length), k < lbP m s → slt m[k].span s = true := fun k hk h => lbP_below h
    have hb2 : ∀ k (hk : k < m.length), lbP m s ≤ k → slt m[k].span s = false := fun k hk h1 => lbP_above h.srt hk h1
    have hx := List.getElem_mem hl
    have hkx := h.key_ _ hx
    have hpx := h.pos _ hx
    have hox := (h.ok _ hx).2.2
    have hcx : m[lbP m s].agg.count ≤ 100000 := by
      have := cnt_mem h.pos hx
      have := h.all
      omega
    have ha : accQ false key s v m = { m[lbP m s] with agg := m[lbP m s].agg.merge (Agg.one v) } := by
      unfold accQ
      rw [e1]
      show mergeStep ⟨key, s, Agg.one v⟩ m[lbP m s] = _
      unfold mergeStep
      simp only [e]
      rw [join_self, Agg.merge_comm (N := 1) (M := 100000) (Agg.one_nice hv) (nice_of hox hpx hcx), ← hkx]
      try (
        generalize m[lbP m s] = x at *
        obtain ⟨a, b, c⟩ := x
        simp only at e ⊢
        rw [e])
    have hsp : (accQ false key s v m).span = s := by rw [ha]; exact e
    rw [hp, e2, hsp, ha]
    generalize hr : lbP m s = r at *
    have hlb : lbP (delL m r) s = r := by
      have hdl : (delL m r).length = m.length - 1 := by simp [delL, List.length_take, List.length_drop]; omega
      refine lbP_unique (by omega) (fun k hk hkr => ?_) (fun hk => ?_)
      · have : (delL m r)[k] = m[k]'(by omega) := by
          have h9 := delL_get? hl k
          rw [if_pos hkr, List.getElem?_eq_getElem hk, List.getElem?_eq_getElem (by omega)] at h9
          exact Option.some.inj h9
        rw [this]
        exact hb1 k (by omega) hkr
      · have : (delL m r)[r] = m[r + 1]'(by omega) := by
          have h9 := delL_get? hl r
          rw [if_neg (Nat.lt_irrefl _), List.getElem?_eq_getElem hk, List.getElem?_eq_getElem (by omega)] at h9
          exact Option.some.inj h9
        rw [this]
        exact hb2 (r + 1) (by omega) (by omega)
    rw [hlb]
    unfold insL delL
    have htl : (m.take r).length = r := by rw [List.length_take]; omega
    rw [List.set_eq_take_append_cons_drop, if_pos hl]
    rw [List.take_left' htl, List.drop_left' htl]
theorem PlayP.put {i : Nat} {key : ByteArray} {m : List Pane} (h : PlayP i key m) (hi : i ≤ 100000) {s : Span} {v : Int} (hv : I64 v) (hk : key.size ≤ maxLen) (hs : s.ok) : PlayP (i + 1) key (putP m key s v) := by
  have hc := counts_put h.counts (by have := h.all; omega) key s (v := v)
  refine ⟨put_sorted h.srt key s v, put_ok h.ok hk hs hv, fun p hp => ?_, hc.pos, by rw [hc.all]; have := h.all; omega, Nat.le_trans (put_len _ _ _ _) (by have := h.len; omega)⟩
  cases hb : isP m s
  · have he : putP m key s v = insL m (lbP m s) ⟨key, s, Agg.one v⟩ := by unfold putP; rw [hb]
    rw [he] at hp
    rcases insL_mem.1 hp with rfl | hp
    · rfl
    · exact h.key_ p hp
  · obtain ⟨hl, e⟩ := isP_at hb
    have he : putP m key s v = m.set (lbP m s) { m[lbP m s] with agg := m[lbP m s].agg.merge (Agg.one v) } := by unfold putP; rw [hb, List.getElem?_eq_getElem hl]
    rw [he] at hp
    rcases List.mem_or_eq_of_mem_set hp with hp | rfl
    · exact h.key_ p hp
    · show m[lbP m s].key = key
      exact h.key_ _ (List.getElem_mem hl)
theorem PlayP.merge {i : Nat} {key : ByteArray} {m : List Pane} (h : PlayP i key m) (hi : i ≤ 100000) {s : Span} {v : Int} (hv : I64 v) (hk : key.size ≤ maxLen) (hs : s.ok) (hno : isP (outP m s) (accP key s v m).span = false) : PlayP (i + 1) key (mergeP key s v m) := by
  have hc := counts_merge h.counts (by have := h.all; omega) key s (v := v)
  refine ⟨ins_sorted (h.srt.filter _) _ hno, merge_ok h.ok hk hs hv, fun p hp => ?_, hc.pos, by rw [hc.all]; have := h.all; omega, Nat.le_trans (merge_len _ _ _ _) (by have := h.len; omega)⟩
  rcases insL_mem.1 hp with rfl | hp
  · exact fold_key _ _
  · exact h.key_ p (List.mem_filter.1 hp).1
theorem cut_rest {m : List Pane} (hs : SortedP m) (s : Span) : cutP m s = restQ false s m := by
  unfold cutP
  cases hb : isP m s
  · rw [(put_none hs hb).2]; rfl
  · obtain ⟨hl, e⟩ := isP_at hb
    rw [(put_some hs hb hl).2]; rfl
theorem met_is {m : List Pane} (hs : SortedP m) (s : Span) : decide (0 < (metQ false s m).length) = isP m s := by
  cases hb : isP m s
  · rw [(put_none hs hb).1]; rfl
  · obtain ⟨hl, e⟩ := isP_at hb
    rw [(put_some hs hb hl).1]; rfl
theorem find_is (m : List Pane) (s : Span) : (findP m s).2 = isP m s := by
  unfold findP
  cases hb : isP m s
  · rfl
  · obtain ⟨hl, e⟩ := isP_at hb
    rw [List.getElem?_eq_getElem hl]
theorem find_no {m : List Pane} {s : Span} (h : isP m s = false) : (findP m s).1 = Pane.zero := by
  unfold findP
  rw [h]
theorem find_yes {m : List Pane} {s : Span} (h : isP m s = true) : (findP m s).1.span = s := by
  obtain ⟨p, h1, h2, -⟩ := findP_has h
  rw [h1]; exact h2
theorem cnt_filter_le {l : List Pane} (h : ∀ p ∈ l, 1 ≤ p.agg.count) (q : Pane → Bool) : cnt (l.filter q) ≤ cnt l := by
  have h1 := cnt_split q l
  have h2 := cnt_nonneg (l := l.filter (fun x => !q x)) (fun p hp => h p (List.mem_filter.1 hp).1)
  omega
theorem PlayP.cut {i : Nat} {key : ByteArray} {m : List Pane} (h : PlayP i key m) (s : Span) : PlayP (i + 1) key (restQ false s m) :=
  ⟨h.srt.filter _, fun p hp => h.ok p (List.mem_filter.1 hp).1, fun p hp => h.key_ p (List.mem_filter.1 hp).1, fun p hp => h.pos p (List.mem_filter.1 hp).1,
    Int.le_trans (cnt_filter_le h.pos _) (by have := h.all; omega), Nat.le_trans (List.length_filter_le _ _) (by have := h.len; omega)⟩
theorem PlayP.later {i : Nat} {key : ByteArray} {m : List Pane} (h : PlayP i key m) : PlayP (i + 1) key m :=
  ⟨h.srt, h.ok, h.key_, h.pos, by have := h.all; omega, by have := h.len; omega⟩
end Go.Proofs.YtmioichjhiengaaGreat

/-
  The reference's group, a list of panes in any order, beside a group's map (plain).
-/
namespace Go.Proofs.YtmioichjhiengaaGreat
open Go.RowKit

theorem Next.uniq {late mark : Int} {M : KM} {p q : Pane} (hk : KMOK M) (h1 : Next late mark M p) (h2 : Next late mark M q) : p = q := by
  have a := h1.least q.key q h2.key h2.mem
  have b := h2.least p.key p h1.key h1.mem
  have e := tlt_strict.tot _ _ a b
  have e2 : q.key = p.key ∧ q.span = p.span := by simpa using e
  exact span_inj (hk.srt p.key) h1.mem (e2.1 ▸ h2.mem) e2.2.symm
theorem Steps.uniq {late mark : Int} : ∀ {O O' : List Pane} {M M1 M1' : KM}, KMOK M → Steps late mark M O M1 → Calm late mark M1 → Steps late mark M O' M1' → Calm late mark M1' → O = O' ∧ M1 = M1'
  | [], O', M, M1, M1', _, h, hc, h', _ => by
    have e : M1 = M := h
    subst e
    obtain ⟨e1, e2⟩ := h'.calm hc
    exact ⟨e1.symm, e2.symm⟩
  | p :: O, [], M, M1, M1', _, h, _, h', hc' => by
    have e : M1' = M := h'
    subst e
    obtain ⟨e1, -⟩ := h.calm hc'
    cases e1
  | p :: O, q :: O', M, M1, M1', hk, h, hc, h', hc' => by
    have e := Next.uniq hk h.1 h'.1
    subst e
    obtain ⟨e1, e2⟩ := Steps.uniq (hk.cut h.1.mem) h.2 hc h'.2 hc'
    exact ⟨by rw [e1], e2⟩
/-- A list of panes has just the panes of a map. -/
structure RelL (L : List Pane) (M : KM) : Prop where
  per : ∀ k, (L.filter (fun p => eqS p.key k)).Perm (M k)
  key : ∀ p ∈ L, p.key.size ≤ maxLen
theorem RelL.zero : RelL [] (fun _ => []) := ⟨fun _ => List.Perm.nil, fun p hp => (by cases hp)⟩
theorem RelL.mem {L : List Pane} {M : KM} (h : RelL L M) (p : Pane) : p ∈ L ↔ p ∈ M p.key := by
  rw [← (h.per p.key).mem_iff, List.mem_filter]
  exact ⟨fun e => ⟨e, eqS_iff.2 rfl⟩, fun e => e.1⟩
theorem RelL.out {L : List Pane} {M : KM} (h : RelL L M) (hk : KMOK M) {i : Nat} (hi : i < L.length) : RelL (delL L i) (cutM M L[i]) := by
  have hp := delL_perm hi
  have hm : L[i] ∈ M L[i].key := (h.mem _).1 (List.getElem_mem hi)
  refine ⟨fun k => ?_, fun p hp => h.key p ((delL_sub L i).subset hp)⟩
  have h1 := hp.filter (fun p => eqS p.key k)
  have h2 := h.per k
  by_cases e : L[i].key = k
  · subst e
    rw [List.filter_cons_of_pos (p := fun p : Pane => eqS p.key L[i].key) (eqS_iff.2 rfl)] at h1
    have h3 : cutM M L[i] L[i].key = cutP (M L[i].key) L[i].span := by unfold cutM setM; rw [if_pos rfl]
    rw [h3]
    exact List.Perm.cons_inv ((h1.symm.trans h2).trans (cut_spec (hk.srt _) hm).2.1)
  · rw [List.filter_cons_of_neg (p := fun p : Pane => eqS p.key k) (fun e2 => e (eqS_iff.1 e2))] at h1
    have h3 : cutM M L[i] k = M k := by unfold cutM setM; rw [if_neg (fun e2 => e e2.symm)]
    rw [h3]
    exact h1.symm.trans h2
/-- Is a pane's timer ahead of another one's? -/
def lessP (a b : Pane) : Bool := tlt ⟨a.key, a.span⟩ ⟨b.key, b.span⟩
theorem RelL.next {late mark : Int} {L : List Pane} {M : KM} (h : RelL L M) (hk : KMOK M) {i : Nat} (hi : i < L.length) (ho : L[i].span.overB late mark = true) (hb : ∀ x ∈ L, x.span.overB late mark = true → lessP x L[i] = false) : Next late mark M L[i] := by
  have hm := List.getElem_mem hi
  refine ⟨h.key _ hm, (h.mem _).1 hm, ho, fun k q _ hq => ?_⟩
  have e := hk.key k q hq
  subst e
  have hqL := (h.mem q).2 hq
  cases hqo : q.span.overB late mark
  · have h1 : ¬ q.span.e + late ≤ mark := by simpa [Span.overB] using hqo
    have h2 : L[i].span.e + late ≤ mark := by simpa [Span.overB] using ho
    rw [tlt_eq]
    have h3 : q.span.e ≠ L[i].span.e := by omega
    rw [if_pos h3]
    simp only [decide_eq_false_iff_not]
    omega
  · exact hb q hqL hqo
theorem RelL.calm {late mark : Int} {L : List Pane} {M : KM} (h : RelL L M) (hk : KMOK M) (ho : ∀ x ∈ L, x.span.overB late mark = false) : Calm late mark M := by
  intro k q _ hq
  have e := hk.key k q hq
  subst e
  exact ho q ((h.mem q).2 hq)
theorem join_comm' (s a b : Span) : (s.join a).join b = (s.join b).join a := by
  obtain ⟨s1, s2⟩ := s
  obtain ⟨a1, a2⟩ := a
  obtain ⟨b1, b2⟩ := b
  simp only [Span.join, Span.mk.injEq]
  constructor
  · repeat' split
    all_goals omega
  · repeat' split
    all_goals omega
theorem fold_perm {l m : List Pane} (p : l.Perm m) : ∀ (z : Pane) (A : Int), z.agg.nice A → 0 ≤ A → (∀ x ∈ l, x.agg.ok ∧ 1 ≤ x.agg.count) → A + cnt l ≤ MaxI → l.foldl mergeStep z = m.foldl mergeStep z := by
  induction p with
  | nil => intros; rfl
  | cons x p ih =>
    rename_i l1 l2
    intro z A hz hA hx hc
    have h1 := hx x (by simp)
    have h2 := cnt_nonneg (l := l1) (fun p hp => (hx p (by simp [hp])).2)
    have h3 : cnt (x :: l1) = x.agg.count + cnt l1 := by simp [cnt]
    rw [h3] at hc
    have hn : x.agg.nice x.agg.count := nice_of h1.1 h1.2 (Int.le_refl _)
    exact ih (mergeStep z x) (A + x.agg.count) (Agg.merge_nice hz hn (by unfold MaxI at hc; omega)) (by omega) (fun y hy => hx y (by simp [hy])) (by omega)
  | swap x y l =>
    intro z A hz hA hx hc
    have h1 := hx x (by simp)
    have h2 := hx y (by simp)
    have h4 := cnt_nonneg (l := l) (fun p hp => (hx p (by simp [hp])).2)
    have h3 : cnt (y :: x :: l) = y.agg.count + (x.agg.count + cnt l) := by simp [cnt]
    rw [h3] at hc
    unfold MaxI at hc
    have hn : x.agg.nice x.agg.count := nice_of h1.1 h1.2 (Int.le_refl _)
    have hm : y.agg.nice y.agg.count := nice_of h2.1 h2.2 (Int.le_refl _)
    have e : mergeStep (mergeStep z y) x = mergeStep (mergeStep z x) y := by
      unfold mergeStep
      simp only [Pane.mk.injEq, true_and]
      refine ⟨join_comm' _ _ _, ?_⟩
      rw [Agg.merge_assoc hz hm hn (by omega), Agg.merge_assoc hz hn hm (by omega), Agg.merge_comm hm hn]
    show l.foldl mergeStep (mergeStep (mergeStep z y) x) = l.foldl mergeStep (mergeStep (mergeStep z x) y)
    rw [e]
  | trans p1 p2 ih1 ih2 =>
    intro z A hz hA hx hc
    exact (ih1 z A hz hA hx hc).trans (ih2 z A hz hA (fun x h => hx x (p1.mem_iff.2 h)) (by rw [← perm_cnt p1]; exact hc))
theorem cnt_len2 {l : List Pane} (h : ∀ p ∈ l, 1 ≤ p.agg.count) : (l.length : Int) ≤ cnt l := by
  induction l with
  | nil => exact Int.le_refl _
  | cons x l ih =>
    have h1 := ih (fun p hp => h p (by simp [hp]))
    have h2 := h x (by simp)
    simp only [cnt, List.map_cons, List.sum_cons, List.length_cons] at h1 ⊢
    omega
/-- Each pane has a value; so many are there of a key. -/
def PosM (n : Int) (M : KM) : Prop := ∀ k, (∀ p ∈ M k, 1 ≤ p.agg.count) ∧ cnt (M k) ≤ n
theorem PosM.zero : PosM 0 (fun _ => []) := fun _ => ⟨fun p hp => (by cases hp), by simp [cnt]⟩
theorem PosM.up {n m : Int} {M : KM} (h : PosM n M) (hm : n ≤ m) : PosM m M := fun k => ⟨(h k).1, Int.le_trans (h k).2 hm⟩
theorem cnt_sub {l m : List Pane} (h : l.Sublist m) (hm : ∀ p ∈ m, 1 ≤ p.agg.count) : cnt l ≤ cnt m := by
  induction h with
  | slnil => exact Int.le_refl _
  | cons x _ ih =>
    have h1 := ih (fun p hp => hm p (by simp [hp]))
    have h2 := hm x (by simp)
    simp only [cnt, List.map_cons, List.sum_cons] at h1 ⊢
    omega
  | cons_cons x _ ih =>
    have h1 := ih (fun p hp => hm p (by simp [hp]))
    simp only [cnt, List.map_cons, List.sum_cons] at h1 ⊢
    omega
theorem PosM.sub {n : Int} {M M1 : KM} (h : PosM n M) (hs : ∀ k, (M1 k).Sublist (M k)) : PosM n M1 := fun k =>
  ⟨fun p hp => (h k).1 p ((hs k).subset hp), Int.le_trans (cnt_sub (hs k) (h k).1) (h k).2⟩
theorem PosM.put {n kind : Int} {M : KM} (h : PosM n M) (hn : n < 1000000) (h0 : 0 ≤ n) (key : ByteArray) (s : Span) (v : Int) : PosM (n + 1) (putM kind M key s v) := by
  intro k
  by_cases e : k = key
  · subst e
    have hM : putM kind M k s v k = (if kind = 2 then mergeP k s v (M k) else putP (M k) k s v) := by unfold putM setM; rw [if_pos rfl]
    have hc : Counts (M k) (cnt (M k)) (sms (M k)) := ⟨(h k).1, rfl, rfl⟩
    have h1 := (h k).2
    rw [hM]
    split
    · have := counts_merge (v := v) hc (by omega) k s
      exact ⟨this.pos, by rw [this.all]; omega⟩
    · have := counts_put (v := v) hc (by omega) k s
      exact ⟨this.pos, by rw [this.all]; omega⟩
  · have hM : putM kind M key s v k = M k := by unfold putM setM; rw [if_neg e]
    rw [hM]
    exact ⟨(h k).1, by have := (h k).2; omega⟩
theorem PosM.take {kind late mark v : Int} {key : ByteArray} : ∀ (l : List Span) {n : Int} {M : KM}, PosM n M → 0 ≤ n → n + l.length < 1000000 → PosM (n + l.length) (takeM kind late mark key v l M)
  | [], n, M, h, _, _ => by
    have e : n + (([] : List Span).length : Int) = n := by simp
    rw [e]
    exact h
  | s :: l, n, M, h, h0, hn => by
    have hl : ((s :: l).length : Int) = (l.length : Int) + 1 := by simp
    rw [hl] at hn ⊢
    show PosM _ (takeM kind late mark key v l (if s.overB late mark then M else putM kind M key s v))
    have e : n + ((l.length : Int) + 1) = n + 1 + l.length := by omega
    rw [e]
    refine PosM.take l ?_ (by omega) (by omega)
    split
    · exact h.up (by omega)
    · exact h.put (by omega) h0 key s v
theorem PosM.play {n : Int} {N : Nat} {M : KM} {T : List Timer} (h : PosM n M) (hg : GrpOK N M T) {i : Nat} (hi : n ≤ i) (k : ByteArray) : PlayP i k (M k) := by
  have h1 := h k
  refine ⟨hg.srt k, fun p hp => (hg.ok k p hp).1, fun p hp => (hg.ok k p hp).2, h1.1, by omega, ?_⟩
  have h2 := cnt_len2 h1.1
  have h3 := h1.2
  omega
/-- What the reference puts. -/
def sameR (mg : Bool) (s : Span) (x : Pane) : Bool := if mg then x.span.meetR s else x.span.eqB s
def hitR (mg : Bool) (key : ByteArray) (s : Span) (x : Pane) : Bool := eqS x.key key && sameR mg s x
def putR (mg : Bool) (L : List Pane) (key : ByteArray) (s : Span) (v : Int) : List Pane :=
  L.filter (fun x => !hitR mg key s x) ++ [(L.filter (hitR mg key s)).foldl mergeStep ⟨key, s, Agg.one v⟩]
theorem meetR_eq {a b : Span} (ha : a.s < a.e) (hb : b.s < b.e) : a.meetR b = a.meetB b := by
  have h1 : a.meetR b = true ↔ a.meetB b = true := by
    rw [meetB_iff ha hb]
    unfold Span.meetR
    simp only [Bool.and_eq_true, decide_eq_true_eq]
    split <;> omega
  cases h2 : a.meetB b
  · cases h3 : a.meetR b
    · rfl
    · rw [h1.1 h3] at h2; cases h2
  · exact h1.2 h2
theorem insL_perm {α : Type} (l : List α) (i : Nat) (x : α) : (insL l i x).Perm (l ++ [x]) := by
  have h : (l.take i ++ x :: l.drop i).Perm (x :: (l.take i ++ l.drop i)) := List.perm_middle
  rw [List.take_append_drop] at h
  exact h.trans (List.perm_append_singleton x l).symm
theorem RelL.put {kind : Int} {L : List Pane} {M : KM} {i : Nat} (h : RelL L M) (key : ByteArray) (hkey : key.size ≤ maxLen) (hp : PlayP i key (M key)) (hi : i ≤ 100000) (hap : kind = 2 → Apart (M key)) (s : Span) (hs : s.s < s.e) (v : Int) (hv : I64 v) :
    RelL (putR (decide (kind = 2)) L key s v) (putM kind M key s v) := by
  have hsame : ∀ x ∈ M key, sameR (decide (kind = 2)) s x = sameQ (decide (kind = 2)) s x := fun x hx => by
    unfold sameR sameQ
    by_cases e : kind = 2
    · simp only [e, decide_true, if_true]
      exact meetR_eq ((hap e).may x hx) hs
    · simp only [e, decide_false, Bool.false_eq_true, if_false]
  have hput : (putM kind M key s v key).Perm (restQ (decide (kind = 2)) s (M key) ++ [accQ (decide (kind = 2)) key s v (M key)]) := by
    have hM : putM kind M key s v key = (if kind = 2 then mergeP key s v (M key) else putP (M key) key s v) := by unfold putM setM; rw [if_pos rfl]
    rw [hM]
    by_cases e : kind = 2
    · rw [if_pos e]
      simp only [e, decide_true]
      rw [rest_merge, acc_merge]
      exact insL_perm _ _ _
    · rw [if_neg e]
      simp only [e, decide_false]
      rw [(hp.want hi s v hv).1]
      exact insL_perm _ _ _
  have hoth : ∀ k, k ≠ key → putM kind M key s v k = M k := fun k hk => by unfold putM setM; rw [if_neg hk]
  have hK := h.per key
  generalize decide (kind = 2) = mg at *
  have hfold : (L.filter (hitR mg key s)).foldl mergeStep ⟨key, s, Agg.one v⟩ = accQ mg key s v (M key) := by
    have e1 : L.filter (hitR mg key s) = (L.filter (fun p => eqS p.key key)).filter (sameR mg s) := by
      rw [List.filter_filter]
      refine List.filter_congr (fun x _ => ?_)
      unfold hitR
      exact Bool.and_comm _ _
    have e2 := hK.filter (sameR mg s)
    have e3 : (M key).filter (sameR mg s) = metQ mg s (M key) := List.filter_congr hsame
    rw [e3] at e2
    rw [e1]
    unfold accQ
    have hin : ∀ x ∈ metQ mg s (M key), x ∈ M key := fun x hx => (List.mem_filter.1 hx).1
    refine fold_perm e2 _ 1 (Agg.one_nice hv) (by decide) (fun x hx => ?_) ?_
    · have hx2 := hin x (e2.mem_iff.1 hx)
      exact ⟨(hp.ok x hx2).2.2, hp.pos x hx2⟩
    · rw [perm_cnt e2]
      have h1 := cnt_filter_le hp.pos (sameQ mg s)
      have h2 := hp.all
      unfold metQ MaxI
      omega
  refine ⟨fun k => ?_, fun p hpp => ?_⟩
  · by_cases e : k = key
    · subst e
      refine List.Perm.trans ?_ hput.symm
      unfold putR
      rw [List.filter_append, hfold]
      have h1 : [accQ mg k s v (M k)].filter (fun p => eqS p.key k) = [accQ mg k s v (M k)] := by
        rw [List.filter_cons_of_pos]
        · rfl
        · have : (accQ mg k s v (M k)).key = k := fold_key _ _
          exact eqS_iff.2 this
      rw [h1]
      refine List.Perm.append_right _ ?_
      have e1 : (L.filter (fun x => !hitR mg k s x)).filter (fun p => eqS p.key k) = (L.filter (fun p => eqS p.key k)).filter (fun x => !sameR mg s x) := by
        rw [List.filter_filter, List.filter_filter]
        refine List.filter_congr (fun x _ => ?_)
        unfold hitR
        cases eqS x.key k <;> cases sameR mg s x <;> rfl
      rw [e1]
      have e2 := hK.filter (fun x => !sameR mg s x)
      have e3 : (M k).filter (fun x => !sameR mg s x) = restQ mg s (M k) := List.filter_congr (fun x hx => by rw [hsame x hx])
      rw [e3] at e2
      exact e2
    · rw [hoth k e]
      refine List.Perm.trans ?_ (h.per k)
      unfold putR
      rw [List.filter_append, List.filter_filter]
      have h1 : [(L.filter (hitR mg key s)).foldl mergeStep ⟨key, s, Agg.one v⟩].filter (fun p => eqS p.key k) = [] := by
        rw [List.filter_cons_of_neg]
        · rfl
        · intro e2
          have h9 : ((L.filter (hitR mg key s)).foldl mergeStep ⟨key, s, Agg.one v⟩).key = key := fold_key _ _
          exact e ((eqS_iff.1 e2).symm.trans h9)
      have e1 : L.filter (fun x => eqS x.key k && !hitR mg key s x) = L.filter (fun p => eqS p.key k) := by
        refine List.filter_congr (fun x _ => ?_)
        cases h2 : eqS x.key k
        · rfl
        · have h3 := eqS_iff.1 h2
          have h4 : eqS x.key key = false := by
            cases h5 : eqS x.key key
            · rfl
            · exact absurd (h3.symm.trans (eqS_iff.1 h5)) e
          unfold hitR
          rw [h4]
          rfl
      rw [h1, e1, List.append_nil]
  · unfold putR at hpp
    rcases List.mem_append.1 hpp with h1 | h1
    · exact h.key p (List.mem_filter.1 h1).1
    · have h2 : p = (L.filter (hitR mg key s)).foldl mergeStep ⟨key, s, Agg.one v⟩ := by simpa using h1
      have h9 : ((L.filter (hitR mg key s)).foldl mergeStep ⟨key, s, Agg.one v⟩).key = key := fold_key _ _
      rw [h2, h9]
      exact hkey
end Go.Proofs.YtmioichjhiengaaGreat

/-
  A group's map whose panes are whole, behind so many values (plain).
-/
namespace Go.Proofs.YtmioichjhiengaaGreat
open Go.RowKit

structure GoodM (n : Nat) (kind : Int) (M : KM) : Prop where
  play : ∀ k, PlayP n k (M k)
  ap : kind = 2 → ∀ k, Apart (M k)
theorem GoodM.zero (kind : Int) : GoodM 0 kind (fun _ => []) := ⟨fun k => PlayP.zero k, fun _ _ => ⟨fun p hp => (by cases hp), List.Pairwise.nil⟩⟩
theorem GoodM.up {n m : Nat} {kind : Int} {M : KM} (h : GoodM n kind M) (hm : n ≤ m) : GoodM m kind M :=
  ⟨fun k => ⟨(h.play k).srt, (h.play k).ok, (h.play k).key_, (h.play k).pos, by have := (h.play k).all; omega, by have := (h.play k).len; omega⟩, h.ap⟩
theorem GoodM.km {n : Nat} {kind : Int} {M : KM} (h : GoodM n kind M) : KMOK M := ⟨fun k => (h.play k).srt, fun k p hp => (h.play k).key_ p hp⟩
theorem GoodM.sub {n : Nat} {kind : Int} {M M1 : KM} (h : GoodM n kind M) (hs : ∀ k, (M1 k).Sublist (M k)) : GoodM n kind M1 :=
  ⟨fun k => ⟨(h.play k).srt.sublist (hs k), fun p hp => (h.play k).ok p ((hs k).subset hp), fun p hp => (h.play k).key_ p ((hs k).subset hp), fun p hp => (h.play k).pos p ((hs k).subset hp),
    Int.le_trans (cnt_sub (hs k) (h.play k).pos) (h.play k).all, Nat.le_trans (hs k).length_le (h.play k).len⟩, fun e k => (h.ap e k).sub (hs k)⟩
theorem GoodM.steps {n : Nat} {kind late mark : Int} {M M1 : KM} {O : List Pane} (h : GoodM n kind M) (hs : Steps late mark M O M1) : GoodM n kind M1 := h.sub (hs.sub h.km)
theorem GoodM.put {n : Nat} {kind : Int} {M : KM} (h : GoodM n kind M) (hn : n ≤ 100000) {key : ByteArray} (hk : key.size ≤ maxLen) {s : Span} (hs : s.ok) (hss : s.s < s.e) {v : Int} (hv : I64 v) : GoodM (n + 1) kind (putM kind M key s v) := by
  have hoth : ∀ k, k ≠ key → putM kind M key s v k = M k := fun k hk => by unfold putM setM; rw [if_neg hk]
  have hM : putM kind M key s v key = (if kind = 2 then mergeP key s v (M key) else putP (M key) key s v) := by unfold putM setM; rw [if_pos rfl]
  have hp := h.play key
  have hc := counts_merge hp.counts (by have := hp.all; omega) key s (v := v)
  refine ⟨fun k => ?_, fun e k => ?_⟩
  · by_cases e : k = key
    · subst e
      rw [hM]
      split
      · rename_i e2
        refine ⟨(merge_apart (h.ap e2 k) k v hss).sorted, merge_ok hp.ok hk hs hv, fun p hp9 => ?_, hc.pos, by rw [hc.all]; have := hp.all; omega, Nat.le_trans (merge_len _ _ _ _) (by have := hp.len; omega)⟩
        rcases insL_mem.1 hp9 with rfl | hp9
        · exact fold_key _ _
        · exact hp.key_ p (List.mem_filter.1 hp9).1
      · exact hp.put hn hv hk hs
    · rw [hoth k e]
      exact (h.play k).later
  · by_cases e3 : k = key
    · subst e3
      rw [hM, if_pos e]
      exact merge_apart (h.ap e k) k v hss
    · rw [hoth k e3]
      exact h.ap e k
/-- The reference's list of panes is whole too. -/
theorem GoodM.ok {n : Nat} {kind : Int} {M : KM} {L : List Pane} (h : GoodM n kind M) (hr : RelL L M) : ∀ x ∈ L, x.ok := fun x hx => (h.play x.key).ok x ((hr.mem x).1 hx)
theorem GoodM.rel {n : Nat} {kind : Int} {M : KM} {L : List Pane} (h : GoodM n kind M) (hn : n ≤ 100000) (hr : RelL L M) {key : ByteArray} (hk : key.size ≤ maxLen) {s : Span} (hss : s.s < s.e) {v : Int} (hv : I64 v) : RelL (putR (decide (kind = 2)) L key s v) (putM kind M key s v) :=
  hr.put key hk (h.play key) hn (fun e => h.ap e key) s hss v hv
theorem putR_len (mg : Bool) (L : List Pane) (key : ByteArray) (s : Span) (v : Int) : (putR mg L key s v).length ≤ L.length + 1 := by
  unfold putR
  rw [List.length_append]
  have := List.length_filter_le (fun x => !hitR mg key s x) L
  simp only [List.length_cons, List.length_nil]
  omega
theorem takeM_take {kind late mark v : Int} {key : ByteArray} {l : List Span} {i : Nat} (hi : i < l.length) (M : KM) : takeM kind late mark key v (l.take (i + 1)) M = if l[i].overB late mark then takeM kind late mark key v (l.take i) M else putM kind (takeM kind late mark key v (l.take i) M) key l[i] v := by
  rw [List.take_succ_eq_append_getElem hi, takeM_snoc]
theorem openN_take {late mark : Int} {l : List Span} {i : Nat} (hi : i < l.length) : openN late mark (l.take (i + 1)) = openN late mark (l.take i) + (if l[i].overB late mark then 0 else 1) := by
  unfold openN
  rw [List.take_succ_eq_append_getElem hi, List.filter_append, List.length_append]
  cases h : l[i].overB late mark <;> simp [h]
end Go.Proofs.YtmioichjhiengaaGreat
