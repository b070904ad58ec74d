/-
  What PanePlays' loop keeps (plain): the panes that are met, the others, what comes of them.
-/
import Derived.Test.YtmioichjhiengaaPaneKeep
namespace Go.Proofs.Ytmioichjhiengaa
open Go.RowKit

/-- Is a pane met: merged in, or of the same window? -/
def sameQ (mg : Bool) (s : Span) (x : Pane) : Bool := if mg then x.span.meetB s else x.span.eqB s
def restQ (mg : Bool) (s : Span) (xs : List Pane) : List Pane := xs.filter (fun x => !sameQ mg s x)
def metQ (mg : Bool) (s : Span) (xs : List Pane) : List Pane := xs.filter (sameQ mg s)
def accQ (mg : Bool) (key : ByteArray) (s : Span) (v : Int) (xs : List Pane) : Pane := (metQ mg s xs).foldl mergeStep ⟨key, s, Agg.one v⟩
theorem rest_merge (s : Span) (xs : List Pane) : restQ true s xs = outP xs s := rfl
theorem met_merge (s : Span) (xs : List Pane) : metQ true s xs = metP xs s := rfl
theorem acc_merge (key : ByteArray) (s : Span) (v : Int) (xs : List Pane) : accQ true key s v xs = accP key s v xs := rfl
theorem accQ_ok {mg : Bool} {key : ByteArray} {s : Span} {v : Int} {xs : List Pane} (hv : I64 v) (h : ∀ x ∈ xs, x.ok) : (accQ mg key s v xs).agg.ok :=
  fold_ok _ _ (one_ok hv) (fun x hx => (h x (List.mem_filter.1 hx).1).2.2)
theorem accQ_succ {mg : Bool} {key : ByteArray} {s : Span} {v : Int} {xs : List Pane} {k : Nat} (hk : k < xs.length) :
    accQ mg key s v (xs.take (k + 1)) = if sameQ mg s xs[k] then mergeStep (accQ mg key s v (xs.take k)) xs[k] else accQ mg key s v (xs.take k) := by
  unfold accQ metQ
  rw [take_succ_filter hk, List.foldl_append]
  cases sameQ mg s xs[k] <;> simp
theorem restQ_succ {mg : Bool} {s : Span} {xs : List Pane} {k : Nat} (hk : k < xs.length) : restQ mg s (xs.take (k + 1)) = restQ mg s (xs.take k) ++ (if sameQ mg s xs[k] then [] else [xs[k]]) := by
  unfold restQ
  rw [take_succ_filter hk]
  cases sameQ mg s xs[k] <;> simp
theorem metQ_succ {mg : Bool} {s : Span} {xs : List Pane} {k : Nat} (hk : k < xs.length) : (metQ mg s (xs.take (k + 1))).map (·.span) = (metQ mg s (xs.take k)).map (·.span) ++ (if sameQ mg s xs[k] then [xs[k].span] else []) := by
  unfold metQ
  rw [take_succ_filter hk, List.map_append]
  cases sameQ mg s xs[k] <;> simp

theorem sorted_ne {xs : List Pane} (hs : SortedP xs) {i j : Nat} (hi : i < xs.length) (hj : j < xs.length) (hij : i ≠ j) : xs[i].span ≠ xs[j].span := by
  intro e
  rcases Nat.lt_or_gt_of_ne hij with h | h
  · have := List.pairwise_iff_getElem.1 hs i j hi hj h
    rw [e, slt_irr] at this; cases this
  · have := List.pairwise_iff_getElem.1 hs j i hj hi h
    rw [e, slt_irr] at this; cases this
theorem eqB_ne {a b : Span} (h : a ≠ b) : a.eqB b = false := by
  rw [← Bool.not_eq_true]
  exact fun e => h ((Span.eqB_iff _ _).1 e)
theorem put_none {xs : List Pane} {s : Span} (hs : SortedP xs) (h : isP xs s = false) : metQ false s xs = [] ∧ restQ false s xs = xs := by
  have hno : ∀ x ∈ xs, sameQ false s x = false := fun x hx => by
    show x.span.eqB s = false
    exact eqB_ne (fun e => by
      have := (isP_iff hs).2 ⟨x, hx, e⟩
      rw [h] at this; cases this)
  constructor
  · unfold metQ
    rw [List.filter_eq_nil_iff]
    intro x hx
    rw [hno x hx]; decide
  · unfold restQ
    rw [List.filter_eq_self]
    intro x hx
    rw [hno x hx]; rfl
theorem put_some {xs : List Pane} {s : Span} (hs : SortedP xs) (h : isP xs s = true) (hl : lbP xs s < xs.length) : metQ false s xs = [xs[lbP xs s]] ∧ restQ false s xs = delL xs (lbP xs s) := by
  have e9 : xs[lbP xs s].span = s := by
    obtain ⟨h1, e⟩ := isP_at h
    exact e
  generalize lbP xs s = i at *
  have hsame : ∀ j (hj : j < xs.length), sameQ false s xs[j] = decide (j = i) := fun j hj => by
    show xs[j].span.eqB s = _
    by_cases hji : j = i
    · subst hji
      rw [(Span.eqB_iff _ _).2 e9]; simp
    · rw [eqB_ne (fun e2 => sorted_ne hs hj hl hji (e2.trans e9.symm))]; simp [hji]
  have hx : xs = xs.take i ++ xs[i] :: xs.drop (i + 1) := by rw [← List.drop_eq_getElem_cons hl, List.take_append_drop]
  have h1 : ∀ x ∈ xs.take i, sameQ false s x = false := fun x hx => by
    obtain ⟨j, hj, rfl⟩ := List.getElem_of_mem hx
    rw [List.length_take] at hj
    rw [List.getElem_take, hsame j (by omega)]
    simp; omega
  have h2 : ∀ x ∈ xs.drop (i + 1), sameQ false s x = false := fun x hx => by
    obtain ⟨j, hj, rfl⟩ := List.getElem_of_mem hx
    rw [List.length_drop] at hj
    rw [List.getElem_drop, hsame (i + 1 + j) (by omega)]
    simp; omega
  have h0 : sameQ false s xs[i] = true := by rw [hsame i hl]; simp
  constructor
  · unfold metQ
    have : xs.filter (sameQ false s) = (xs.take i ++ xs[i] :: xs.drop (i + 1)).filter (sameQ false s) := congrArg _ hx
    rw [this, List.filter_append, List.filter_cons_of_pos h0, List.filter_eq_nil_iff.2 (fun x hx => by rw [h1 x hx]; decide), List.filter_eq_nil_iff.2 (fun x hx => by rw [h2 x hx]; decide)]
    rfl
  · unfold restQ delL
    have : xs.filter (fun x => !sameQ false s x) = (xs.take i ++ xs[i] :: xs.drop (i + 1)).filter (fun x => !sameQ false s x) := congrArg _ hx
    rw [this, List.filter_append, List.filter_cons_of_neg (by rw [h0]; decide), List.filter_eq_self.2 (fun x hx => by rw [h1 x hx]; rfl), List.filter_eq_self.2 (fun x hx => by rw [h2 x hx]; rfl)]
theorem join_self (s : Span) : s.join s = s := by
  obtain ⟨a, b⟩ := s
  simp [Span.join]
theorem nice_of {N : Int} {a : Agg} (h : a.ok) (h1 : 1 ≤ a.count) (h2 : a.count ≤ N) : a.nice N := ⟨h, by omega, h2, fun e => by omega⟩

/-- Behind so many deeds. -/
structure PlayP (i : Nat) (key : ByteArray) (m : List Pane) : Prop where
  srt : SortedP m
  ok : ∀ p ∈ m, p.ok
  key_ : ∀ p ∈ m, p.key = key
  pos : ∀ p ∈ m, 1 ≤ p.agg.count
  all : cnt m ≤ i
  len : m.length ≤ i
theorem PlayP.zero (key : ByteArray) : PlayP 0 key [] := ⟨List.Pairwise.nil, fun _ h => (List.not_mem_nil h).elim, fun _ h => (List.not_mem_nil h).elim, fun _ h => (List.not_mem_nil h).elim, by simp [cnt], Nat.le_refl _⟩
theorem PlayP.counts {i : Nat} {key : ByteArray} {m : List Pane} (h : PlayP i key m) : Counts m (cnt m) (sms m) := ⟨h.pos, rfl, rfl⟩
/-- Put: what the law wants. -/
theorem PlayP.want {i : Nat} {key : ByteArray} {m : List Pane} (h : PlayP i key m) (hi : i ≤ 1000) (s : Span) (v : Int) (hv : I64 v) :
    putP m key s v = insL (restQ false s m) (lbP (restQ false s m) (accQ false key s v m).span) (accQ false key s v m) ∧ SortedP (restQ false s m) := by
  refine ⟨?_, h.srt.filter _⟩
  cases hb : isP m s
  · obtain ⟨e1, e2⟩ := put_none h.srt hb
    have hp : putP m key s v = insL m (lbP m s) ⟨key, s, Agg.one v⟩ := by unfold putP; rw [hb]
    have ha : accQ false key s v m = ⟨key, s, Agg.one v⟩ := by unfold accQ; rw [e1]; rfl
    rw [hp, e2, ha]
  · obtain ⟨hl, e⟩ := isP_at hb
    obtain ⟨e1, e2⟩ := put_some h.srt hb hl
    have hp : putP m key s v = m.set (lbP m s) { m[lbP m s] with agg := m[lbP m s].agg.merge (Agg.one v) } := by unfold putP; rw [hb, List.getElem?_eq_getElem hl]
    have hb1 : ∀ k (hk : k < m.length), k < lbP m s → slt m[k].span s = true := fun k hk h => lbP_below h
    have hb2 : ∀ k (hk : k < m.length), lbP m s ≤ k → slt m[k].span s = false := fun k hk h1 => lbP_above h.srt hk h1
    have hx := List.getElem_mem hl
    have hkx := h.key_ _ hx
    have hpx := h.pos _ hx
    have hox := (h.ok _ hx).2.2
    have hcx : m[lbP m s].agg.count ≤ 1000 := by
      have := cnt_mem h.pos hx
      have := h.all
      omega
    have ha : accQ false key s v m = { m[lbP m s] with agg := m[lbP m s].agg.merge (Agg.one v) } := by
      unfold accQ
      rw [e1]
      show mergeStep ⟨key, s, Agg.one v⟩ m[lbP m s] = _
      unfold mergeStep
      simp only [e]
      rw [join_self, Agg.merge_comm (N := 1) (M := 1000) (Agg.one_nice hv) (nice_of hox hpx hcx), ← hkx]
      try (
        generalize m[lbP m s] = x at *
        obtain ⟨a, b, c⟩ := x
        simp only at e ⊢
        rw [e])
    have hsp : (accQ false key s v m).span = s := by rw [ha]; exact e
    rw [hp, e2, hsp, ha]
    generalize hr : lbP m s = r at *
    have hlb : lbP (delL m r) s = r := by
      have hdl : (delL m r).length = m.length - 1 := by simp [delL, List.length_take, List.length_drop]; omega
      refine lbP_unique (by omega) (fun k hk hkr => ?_) (fun hk => ?_)
      · have : (delL m r)[k] = m[k]'(by omega) := by
          have h9 := delL_get? hl k
          rw [if_pos hkr, List.getElem?_eq_getElem hk, List.getElem?_eq_getElem (by omega)] at h9
          exact Option.some.inj h9
        rw [this]
        exact hb1 k (by omega) hkr
      · have : (delL m r)[r] = m[r + 1]'(by omega) := by
          have h9 := delL_get? hl r
          rw [if_neg (Nat.lt_irrefl _), List.getElem?_eq_getElem hk, List.getElem?_eq_getElem (by omega)] at h9
          exact Option.some.inj h9
        rw [this]
        exact hb2 (r + 1) (by omega) (by omega)
    rw [hlb]
    unfold insL delL
    have htl : (m.take r).length = r := by rw [List.length_take]; omega
    rw [List.set_eq_take_append_cons_drop, if_pos hl]
    rw [List.take_left' htl, List.drop_left' htl]
theorem PlayP.put {i : Nat} {key : ByteArray} {m : List Pane} (h : PlayP i key m) (hi : i ≤ 1000) {s : Span} {v : Int} (hv : I64 v) (hk : key.size ≤ maxLen) (hs : s.ok) : PlayP (i + 1) key (putP m key s v) := by
  have hc := counts_put h.counts (by have := h.all; omega) key s (v := v)
  refine ⟨put_sorted h.srt key s v, put_ok h.ok hk hs hv, fun p hp => ?_, hc.pos, by rw [hc.all]; have := h.all; omega, Nat.le_trans (put_len _ _ _ _) (by have := h.len; omega)⟩
  cases hb : isP m s
  · have he : putP m key s v = insL m (lbP m s) ⟨key, s, Agg.one v⟩ := by unfold putP; rw [hb]
    rw [he] at hp
    rcases insL_mem.1 hp with rfl | hp
    · rfl
    · exact h.key_ p hp
  · obtain ⟨hl, e⟩ := isP_at hb
    have he : putP m key s v = m.set (lbP m s) { m[lbP m s] with agg := m[lbP m s].agg.merge (Agg.one v) } := by unfold putP; rw [hb, List.getElem?_eq_getElem hl]
    rw [he] at hp
    rcases List.mem_or_eq_of_mem_set hp with hp | rfl
    · exact h.key_ p hp
    · show m[lbP m s].key = key
      exact h.key_ _ (List.getElem_mem hl)
theorem PlayP.merge {i : Nat} {key : ByteArray} {m : List Pane} (h : PlayP i key m) (hi : i ≤ 1000) {s : Span} {v : Int} (hv : I64 v) (hk : key.size ≤ maxLen) (hs : s.ok) (hno : isP (outP m s) (accP key s v m).span = false) : PlayP (i + 1) key (mergeP key s v m) := by
  have hc := counts_merge h.counts (by have := h.all; omega) key s (v := v)
  refine ⟨ins_sorted (h.srt.filter _) _ hno, merge_ok h.ok hk hs hv, fun p hp => ?_, hc.pos, by rw [hc.all]; have := h.all; omega, Nat.le_trans (merge_len _ _ _ _) (by have := h.len; omega)⟩
  rcases insL_mem.1 hp with rfl | hp
  · exact fold_key _ _
  · exact h.key_ p (List.mem_filter.1 hp).1
theorem cut_rest {m : List Pane} (hs : SortedP m) (s : Span) : cutP m s = restQ false s m := by
  unfold cutP
  cases hb : isP m s
  · rw [(put_none hs hb).2]; rfl
  · obtain ⟨hl, e⟩ := isP_at hb
    rw [(put_some hs hb hl).2]; rfl
theorem met_is {m : List Pane} (hs : SortedP m) (s : Span) : decide (0 < (metQ false s m).length) = isP m s := by
  cases hb : isP m s
  · rw [(put_none hs hb).1]; rfl
  · obtain ⟨hl, e⟩ := isP_at hb
    rw [(put_some hs hb hl).1]; rfl
theorem find_is (m : List Pane) (s : Span) : (findP m s).2 = isP m s := by
  unfold findP
  cases hb : isP m s
  · rfl
  · obtain ⟨hl, e⟩ := isP_at hb
    rw [List.getElem?_eq_getElem hl]
theorem find_no {m : List Pane} {s : Span} (h : isP m s = false) : (findP m s).1 = Pane.zero := by
  unfold findP
  rw [h]
theorem find_yes {m : List Pane} {s : Span} (h : isP m s = true) : (findP m s).1.span = s := by
  obtain ⟨p, h1, h2, -⟩ := findP_has h
  rw [h1]; exact h2
theorem cnt_filter_le {l : List Pane} (h : ∀ p ∈ l, 1 ≤ p.agg.count) (q : Pane → Bool) : cnt (l.filter q) ≤ cnt l := by
  have h1 := cnt_split q l
  have h2 := cnt_nonneg (l := l.filter (fun x => !q x)) (fun p hp => h p (List.mem_filter.1 hp).1)
  omega
theorem PlayP.cut {i : Nat} {key : ByteArray} {m : List Pane} (h : PlayP i key m) (s : Span) : PlayP (i + 1) key (restQ false s m) :=
  ⟨h.srt.filter _, fun p hp => h.ok p (List.mem_filter.1 hp).1, fun p hp => h.key_ p (List.mem_filter.1 hp).1, fun p hp => h.pos p (List.mem_filter.1 hp).1,
    Int.le_trans (cnt_filter_le h.pos _) (by have := h.all; omega), Nat.le_trans (List.length_filter_le _ _) (by have := h.len; omega)⟩
theorem PlayP.later {i : Nat} {key : ByteArray} {m : List Pane} (h : PlayP i key m) : PlayP (i + 1) key m :=
  ⟨h.srt, h.ok, h.key_, h.pos, by have := h.all; omega, by have := h.len; omega⟩
end Go.Proofs.Ytmioichjhiengaa
