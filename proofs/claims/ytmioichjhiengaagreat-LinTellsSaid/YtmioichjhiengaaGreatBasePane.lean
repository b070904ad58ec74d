/-
  Texts of one kind, one behind the other.
-/
import Derived.Test.YtmioichjhiengaaGreatPaneCut
import Derived.Test.YtmioichjhiengaaGreatBaseAgg
import Derived.Laws.NewBlocks
set_option linter.unusedSimpArgs false
set_option linter.unusedVariables false
/-
  What pane.Merge comes to; the state of its loop.
-/
namespace Go.Proofs.YtmioichjhiengaaGreat
open Go.RowKit

def mergeStep (p x : Pane) : Pane := { p with span := p.span.join x.span, agg := p.agg.merge x.agg }
def metP (xs : List Pane) (s : Span) : List Pane := xs.filter (fun x => x.span.meetB s)
def outP (xs : List Pane) (s : Span) : List Pane := xs.filter (fun x => !x.span.meetB s)
def accP (key : ByteArray) (s : Span) (v : Int) (xs : List Pane) : Pane := (metP xs s).foldl mergeStep ⟨key, s, Agg.one v⟩
def goneP (key : ByteArray) (s : Span) (v : Int) (xs : List Pane) : List Span := ((metP xs s).map (·.span)).filter (fun x => !(x.eqB (accP key s v xs).span))
def mergeP (key : ByteArray) (s : Span) (v : Int) (xs : List Pane) : List Pane := insL (outP xs s) (lbP (outP xs s) (accP key s v xs).span) (accP key s v xs)
theorem fold_ok : ∀ (l : List Pane) (p : Pane), p.agg.ok → (∀ x ∈ l, x.agg.ok) → (l.foldl mergeStep p).agg.ok
  | [], _, h, _ => h
  | x :: l, p, h, hl => fold_ok l (mergeStep p x) (Agg.merge_ok h (hl x (by simp))) (fun y hy => hl y (by simp [hy]))
theorem accP_ok {key : ByteArray} {s : Span} {v : Int} {xs : List Pane} (hv : I64 v) (h : ∀ x ∈ xs, x.ok) : (accP key s v xs).agg.ok :=
  fold_ok _ _ (one_ok hv) (fun x hx => (h x (List.mem_filter.1 hx).1).2.2)
theorem fold_key : ∀ (l : List Pane) (p : Pane), (l.foldl mergeStep p).key = p.key
  | [], _ => rfl
  | x :: l, p => fold_key l (mergeStep p x)
theorem take_succ_filter {α : Type} {q : α → Bool} {l : List α} {k : Nat} (hk : k < l.length) : (l.take (k + 1)).filter q = (l.take k).filter q ++ (if q l[k] then [l[k]] else []) := by
  rw [List.take_succ_eq_append_getElem hk, List.filter_append]
  congr 1
  cases h : q l[k] <;> simp [h]

def Merged (w : World) (key : ByteArray) (s : Span) (v : Int) (xs : List Pane) (e : Ending) (w' : World) : Prop :=
  ∃ vo vg, e = .returned (.tuple #[vo, vg, .agg (accP key s v xs).span.cells.toArray]) ∧ PRow w' w.heap.size vo (mergeP key s v xs) ∧ SRow w' w.heap.size vg (goneP key s v xs) ∧ Keep none_ w w'

theorem agg_of_x (w : World) (v : Int) : Calls Tryz.prog 114 #[.int .i64 v] w fun e w' =>
    e = .returned (.agg #[.int .i64 1, .int .i64 v, .int .i64 v, .int .i64 v]) ∧ w' = w.alloc (.cells #[.int .i64 1, .int .i64 v, .int .i64 v, .int .i64 v] 86) := by
  go_enter Tryz.func114, Tryz.ntmps114
  go_wp2
  exact bodyPost_ret (v := .agg #[.int .i64 1, .int .i64 v, .int .i64 v, .int .i64 v]) (by simp [results, Tryz.results114, go_sem]) rfl ⟨rfl, by simp⟩

/-- The state of Merge's loop: what it keeps, what it dropped, the pane. -/
structure MInv (w w' : World) (base pb sb rb : Nat) (key : ByteArray) (s : Span) (v : Int) (l : List Pane) (vo vg : Value) : Prop where
  out : w'.ownsRow base 88 7 vo (outP l s).length (flat Pane.cells (outP l s))
  gone : w'.ownsRow base 84 2 vg ((metP l s).map (·.span)).length (flat Span.cells ((metP l s).map (·.span)))
  apart : ∀ g, vo.ownBlock = some g → vg.ownBlock ≠ some g
  pane : At w' pb (accP key s v l).cells.toArray 88
  sp : At w' sb s.cells.toArray 84
  res : At w' rb #[.int .i64 0, .int .i64 0] 84
  keep : Keep none_ w w'
  size : base ≤ w'.heap.size
theorem accP_succ {key : ByteArray} {s : Span} {v : Int} {xs : List Pane} {k : Nat} (hk : k < xs.length) :
    accP key s v (xs.take (k + 1)) = if xs[k].span.meetB s then mergeStep (accP key s v (xs.take k)) xs[k] else accP key s v (xs.take k) := by
  unfold accP metP
  rw [take_succ_filter hk, List.foldl_append]
  cases xs[k].span.meetB s <;> simp
theorem outP_succ {s : Span} {xs : List Pane} {k : Nat} (hk : k < xs.length) : outP (xs.take (k + 1)) s = outP (xs.take k) s ++ (if xs[k].span.meetB s then [] else [xs[k]]) := by
  unfold outP
  rw [take_succ_filter hk]
  cases xs[k].span.meetB s <;> simp
theorem metP_succ {s : Span} {xs : List Pane} {k : Nat} (hk : k < xs.length) : (metP (xs.take (k + 1)) s).map (·.span) = (metP (xs.take k) s).map (·.span) ++ (if xs[k].span.meetB s then [xs[k].span] else []) := by
  unfold metP
  rw [take_succ_filter hk, List.map_append]
  cases xs[k].span.meetB s <;> simp

section
variable {w wr wA w2 : World} {base pb sb rb : Nat} {key : ByteArray} {s : Span} {v : Int} {l l' : List Pane} {vo vg u : Value}
structure MLow (w : World) (base pb sb rb : Nat) : Prop where
  p_lt : pb < base
  s_lt : sb < base
  r_lt : rb < base
  w_le : w.heap.size ≤ pb
  p_s : pb ≠ sb
  p_r : pb ≠ rb
theorem MInv.addOut (hm : MInv w wr base pb sb rb key s v l vo vg) (L : MLow w base pb sb rb) (hk : Keep none_ wr wA) {x : Pane} {m : Nat} (own : w2.ownsRow base 88 7 u m (flat Pane.cells (outP l s ++ [x]))) (hmm : m = (outP l s).length + 1) (hg : wA.grownBy w2 vo.ownBlock) (hb : u.ownBlock = vo.ownBlock ∨ u.ownBlock = some wA.heap.size)
    (h1 : outP l' s = outP l s ++ [x]) (h2 : (metP l' s).map (·.span) = (metP l s).map (·.span)) (h3 : accP key s v l' = accP key s v l) : MInv w w2 base pb sb rb key s v l' u vg := by
  have kk : Keep (own_of vo) wr w2 := Keep.grown hk.of_none hg (fun q hq _ => hq)
  have hge := own_of_ge hm.out
  have := L.p_lt; have := L.s_lt; have := L.r_lt; have := L.w_le
  refine ⟨?_, ?_, ?_, ?_, ?_, ?_, ?_, Nat.le_trans hm.size kk.size⟩
  · rw [h1, List.length_append]; subst hmm; exact own
  · rw [h2]; exact own_keep hm.gone kk (fun g hg e => hm.apart g e hg)
  · intro g e1 e2
    rcases hb with hb | hb
    · exact hm.apart g (by rw [← hb]; exact e1) e2
    · rw [hb] at e1
      have := (hm.gone.lt g e2).2
      have h9 := hk.size
      have : wA.heap.size = g := by simpa using e1
      omega
  · rw [h3]; exact Keep.at kk hm.pane (fun e => by have := hge _ e; omega)
  · exact Keep.at kk hm.sp (fun e => by have := hge _ e; omega)
  · exact Keep.at kk hm.res (fun e => by have := hge _ e; omega)
  · exact Keep.fresh hm.keep kk (fun q hq e => by have := hge _ e; omega)
theorem MInv.addGone (hm : MInv w wr base pb sb rb key s v l vo vg) (L : MLow w base pb sb rb) (hk : Keep (one pb) wr wA) {x : Span} {m : Nat} (own : w2.ownsRow base 84 2 u m (flat Span.cells ((metP l s).map (·.span) ++ [x]))) (hmm : m = ((metP l s).map (·.span)).length + 1) (hg : wA.grownBy w2 vg.ownBlock) (hb : u.ownBlock = vg.ownBlock ∨ u.ownBlock = some wA.heap.size)
    (h1 : outP l' s = outP l s) (h2 : (metP l' s).map (·.span) = (metP l s).map (·.span) ++ [x]) (hp : At wA pb (accP key s v l').cells.toArray 88) : MInv w w2 base pb sb rb key s v l' vo u := by
  have k2 : Keep (own_of vg) wA w2 := Keep.grown (Keep.refl _ _) hg (fun q hq _ => hq)
  have hge := own_of_ge hm.gone
  have hgo := own_of_ge hm.out
  have := L.p_lt; have := L.s_lt; have := L.r_lt; have := L.w_le; have := L.p_s; have := L.p_r
  refine ⟨?_, ?_, ?_, ?_, ?_, ?_, ?_, Nat.le_trans hm.size (Nat.le_trans hk.size k2.size)⟩
  · rw [h1]; exact own_keep (own_keep hm.out hk (fun g hg e => by have := hgo g hg; unfold one at e; omega)) k2 (fun g hg e => hm.apart g hg e)
  · rw [h2, List.length_append]; subst hmm; exact own
  · intro g e1 e2
    rcases hb with hb | hb
    · exact hm.apart g e1 (by rw [← hb]; exact e2)
    · rw [hb] at e2
      have := (hm.out.lt g e1).2
      have h9 := hk.size
      have : wA.heap.size = g := by simpa using e2
      omega
  · exact Keep.at k2 hp (fun e => by have := hge _ e; omega)
  · exact Keep.at k2 (Keep.at hk hm.sp (fun e => by unfold one at e; omega)) (fun e => by have := hge _ e; omega)
  · exact Keep.at k2 (Keep.at hk hm.res (fun e => by unfold one at e; omega)) (fun e => by have := hge _ e; omega)
  · exact Keep.fresh (Keep.fresh hm.keep hk (fun q hq e => by unfold one at e; omega)) k2 (fun q hq e => by have := hge _ e; omega)
end

end Go.Proofs.YtmioichjhiengaaGreat

/-
  What Put and Merge keep (plain).
-/
namespace Go.Proofs.YtmioichjhiengaaGreat
open Go.RowKit

theorem insL_mem {α : Type} {l : List α} {i : Nat} {x y : α} : y ∈ insL l i x ↔ y = x ∨ y ∈ l := by
  unfold insL
  rw [List.mem_append, List.mem_cons]
  have : y ∈ l ↔ y ∈ l.take i ∨ y ∈ l.drop i := by rw [← List.mem_append, List.take_append_drop]
  rw [this]
  constructor
  · rintro (h | h | h) <;> simp [h]
  · rintro (h | h | h) <;> simp [h]
theorem insL_pairwise {α : Type} {R : α → α → Prop} {l : List α} {i : Nat} {x : α} (h : l.Pairwise R) (h1 : ∀ k (hk : k < l.length), k < i → R l[k] x) (h2 : ∀ k (hk : k < l.length), i ≤ k → R x l[k]) : (insL l i x).Pairwise R := by
  have hl : (l.take i ++ l.drop i).Pairwise R := by rw [List.take_append_drop]; exact h
  rw [List.pairwise_append] at hl
  obtain ⟨ha, hb, hab⟩ := hl
  unfold insL
  rw [List.pairwise_append, List.pairwise_cons]
  refine ⟨ha, ⟨fun y hy => ?_, hb⟩, fun y hy z hz => ?_⟩
  · obtain ⟨j, hj, rfl⟩ := List.getElem_of_mem hy
    rw [List.getElem_drop]
    exact h2 _ _ (Nat.le_add_right _ _)
  · obtain ⟨j, hj, rfl⟩ := List.getElem_of_mem hy
    rw [List.length_take] at hj
    rcases List.mem_cons.1 hz with rfl | hz
    · rw [List.getElem_take]
      exact h1 j (by omega) (by omega)
    · exact hab _ (List.getElem_mem _) z hz
theorem lbP_above {xs : List Pane} {s : Span} (hs : SortedP xs) {k : Nat} (hk : k < xs.length) (h : lbP xs s ≤ k) : slt xs[k].span s = false := by
  have hl : lbP xs s < xs.length := by omega
  have e := lbP_at hl
  rcases Nat.eq_or_lt_of_le h with h | h
  · subst h; exact e
  · cases h4 : slt xs[k].span s
    · rfl
    · rw [slt_tra (List.pairwise_iff_getElem.1 hs _ _ hl hk h) h4] at e
      cases e
theorem isP_iff {xs : List Pane} {s : Span} (hs : SortedP xs) : isP xs s = true ↔ ∃ p ∈ xs, p.span = s := by
  constructor
  · intro h
    obtain ⟨hl, e⟩ := isP_at h
    exact ⟨_, List.getElem_mem hl, e⟩
  · rintro ⟨p, hp, rfl⟩
    obtain ⟨i, hi, rfl⟩ := List.getElem_of_mem hp
    have : lbP xs xs[i].span = i := lbP_unique (by omega) (fun k hk hki => List.pairwise_iff_getElem.1 hs _ _ hk hi hki) (fun _ => slt_irr _)
    unfold isP
    rw [this, List.getElem?_eq_getElem hi]
    simp [Span.cmp_zero.2 rfl]
theorem findP_has {xs : List Pane} {s : Span} (h : isP xs s = true) : ∃ p, findP xs s = (p, true) ∧ p.span = s ∧ p ∈ xs := by
  obtain ⟨hl, e⟩ := isP_at h
  refine ⟨xs[lbP xs s], ?_, e, List.getElem_mem hl⟩
  unfold findP
  rw [h, List.getElem?_eq_getElem hl]
theorem ins_sorted {xs : List Pane} (hs : SortedP xs) (p : Pane) (hn : isP xs p.span = false) : SortedP (insL xs (lbP xs p.span) p) := by
  refine insL_pairwise hs (fun k hk h => lbP_below h) (fun k hk h => ?_)
  have h1 := lbP_above hs hk h
  cases h2 : slt p.span xs[k].span
  · exfalso
    have := slt_tri h2 h1
    rw [(isP_iff hs).2 ⟨_, List.getElem_mem hk, this.symm⟩] at hn
    cases hn
  · rfl

/-! Counts and sums -/
def cnt (l : List Pane) : Int := (l.map (·.agg.count)).sum
def sms (l : List Pane) : Int := (l.map (·.agg.sum)).sum
def Same64 (a b : Int) : Prop := a % 18446744073709551616 = b % 18446744073709551616
theorem cnt_ins (l : List Pane) (i : Nat) (p : Pane) : cnt (insL l i p) = cnt l + p.agg.count := by
  have h : cnt l = cnt (l.take i ++ l.drop i) := by rw [List.take_append_drop]
  rw [h]
  simp only [cnt, insL, List.map_append, List.map_cons, List.sum_append, List.sum_cons]
  omega
theorem sms_ins (l : List Pane) (i : Nat) (p : Pane) : sms (insL l i p) = sms l + p.agg.sum := by
  have h : sms l = sms (l.take i ++ l.drop i) := by rw [List.take_append_drop]
  rw [h]
  simp only [sms, insL, List.map_append, List.map_cons, List.sum_append, List.sum_cons]
  omega
theorem cnt_split (q : Pane → Bool) : ∀ l : List Pane, cnt l = cnt (l.filter q) + cnt (l.filter (fun x => !q x))
  | [] => rfl
  | x :: l => by
    have ih := cnt_split q l
    cases h : q x <;> simp [cnt, h] at ih ⊢ <;> omega
theorem sms_split (q : Pane → Bool) : ∀ l : List Pane, sms l = sms (l.filter q) + sms (l.filter (fun x => !q x))
  | [] => rfl
  | x :: l => by
    have ih := sms_split q l
    cases h : q x <;> simp [sms, h] at ih ⊢ <;> omega
/-- Each counts from one on; so many in all. -/
structure Counts (l : List Pane) (n : Int) (t : Int) : Prop where
  pos : ∀ p ∈ l, 1 ≤ p.agg.count
  all : cnt l = n
  sum : Same64 (sms l) t
theorem wrap64_small {a : Int} (h1 : 0 ≤ a) (h2 : a ≤ 1000000) : wrap64 a = a := by unfold wrap64; omega
theorem wrap64_same (a : Int) : Same64 (wrap64 a) a := by unfold Same64 wrap64; omega
theorem cnt_nonneg {l : List Pane} (h : ∀ p ∈ l, 1 ≤ p.agg.count) : 0 ≤ cnt l := by
  induction l with
  | nil => exact Int.le_refl _
  | cons x l ih =>
    have h1 := ih (fun p hp => h p (by simp [hp]))
    have h2 := h x (by simp)
    simp only [cnt, List.map_cons, List.sum_cons] at h1 ⊢
    omega
theorem fold_counts : ∀ (l : List Pane) (p : Pane), 1 ≤ p.agg.count → (∀ x ∈ l, 1 ≤ x.agg.count) → p.agg.count + cnt l ≤ 1000000 →
    (l.foldl mergeStep p).agg.count = p.agg.count + cnt l ∧ Same64 (l.foldl mergeStep p).agg.sum (p.agg.sum + sms l)
  | [], p, _, _, _ => by simp [cnt, sms, Same64]
  | x :: l, p, h, hl, hb => by
    have hx := hl x (by simp)
    have hn := cnt_nonneg (l := l) (fun q hq => hl q (by simp [hq]))
    simp only [cnt, sms, List.map_cons, List.sum_cons] at hb ⊢
    have he : (mergeStep p x).agg.count = p.agg.count + x.agg.count := by
      simp only [mergeStep]
      rw [Agg.merge_eq h hx]
      exact wrap64_small (by omega) (by simp only [cnt] at hn; omega)
    have hs : Same64 (mergeStep p x).agg.sum (p.agg.sum + x.agg.sum) := by
      simp only [mergeStep]
      rw [Agg.merge_eq h hx]
      exact wrap64_same _
    have ih := fold_counts l (mergeStep p x) (by rw [he]; omega) (fun q hq => hl q (by simp [hq])) (by rw [he]; simp only [cnt]; omega)
    rw [List.foldl_cons, ih.1, he]
    refine ⟨by simp only [cnt]; omega, ?_⟩
    have h2 := ih.2
    unfold Same64 at *
    simp only [sms] at h2
    omega
theorem counts_merge {l : List Pane} {n t v : Int} (h : Counts l n t) (hn : n < 1000000) (key : ByteArray) (s : Span) : Counts (mergeP key s v l) (n + 1) (t + v) := by
  have hm : ∀ x ∈ metP l s, 1 ≤ x.agg.count := fun x hx => h.pos x (List.mem_filter.1 hx).1
  have ho : ∀ x ∈ outP l s, 1 ≤ x.agg.count := fun x hx => h.pos x (List.mem_filter.1 hx).1
  have hc := cnt_split (fun x => x.span.meetB s) l
  have hs := sms_split (fun x => x.span.meetB s) l
  have hno := cnt_nonneg ho
  have hnm := cnt_nonneg hm
  have hf := fold_counts (metP l s) ⟨key, s, Agg.one v⟩ (by simp [Agg.one]) hm (by simp only [Agg.one]; have := h.all; unfold metP outP at *; omega)
  simp only [Agg.one] at hf
  have ha : (accP key s v l).agg.count = 1 + cnt (metP l s) := hf.1
  refine ⟨fun p hp => ?_, ?_, ?_⟩
  · rcases insL_mem.1 hp with rfl | hp
    · rw [ha]; omega
    · exact ho p hp
  · unfold mergeP
    rw [cnt_ins, ha]
    have := h.all
    unfold metP outP at *
    omega
  · unfold mergeP
    rw [sms_ins]
    have h1 : Same64 (accP key s v l).agg.sum (v + sms (metP l s)) := hf.2
    have h2 := h.sum
    unfold Same64 at *
    unfold metP outP at *
    omega
theorem cnt_set {l : List Pane} {i : Nat} (hi : i < l.length) (p : Pane) : cnt (l.set i p) = cnt l - l[i].agg.count + p.agg.count := by
  have e : l = l.take i ++ l[i] :: l.drop (i + 1) := by rw [← List.drop_eq_getElem_cons hi, List.take_append_drop]
  have e2 : l.set i p = l.take i ++ p :: l.drop (i + 1) := List.set_eq_take_append_cons_drop.trans (if_pos hi)
  have h1 : cnt l = cnt (l.take i ++ l[i] :: l.drop (i + 1)) := congrArg cnt e
  rw [e2, h1]
  simp only [cnt, List.map_append, List.map_cons, List.sum_append, List.sum_cons]
  omega
theorem sms_set {l : List Pane} {i : Nat} (hi : i < l.length) (p : Pane) : sms (l.set i p) = sms l - l[i].agg.sum + p.agg.sum := by
  have e : l = l.take i ++ l[i] :: l.drop (i + 1) := by rw [← List.drop_eq_getElem_cons hi, List.take_append_drop]
  have e2 : l.set i p = l.take i ++ p :: l.drop (i + 1) := List.set_eq_take_append_cons_drop.trans (if_pos hi)
  have h1 : sms l = sms (l.take i ++ l[i] :: l.drop (i + 1)) := congrArg sms e
  rw [e2, h1]
  simp only [sms, List.map_append, List.map_cons, List.sum_append, List.sum_cons]
  omega
theorem cnt_mem {l : List Pane} (h : ∀ p ∈ l, 1 ≤ p.agg.count) {p : Pane} (hp : p ∈ l) : p.agg.count ≤ cnt l := by
  induction l with
  | nil => cases hp
  | cons x l ih =>
    have hn := cnt_nonneg (l := l) (fun p hp => h p (by simp [hp]))
    have hx := h x (by simp)
    simp only [cnt, List.map_cons, List.sum_cons] at hn ⊢
    rcases List.mem_cons.1 hp with rfl | hp
    · omega
    · have := ih (fun p hp => h p (by simp [hp])) hp
      simp only [cnt] at this
      omega
theorem counts_put {l : List Pane} {n t v : Int} (h : Counts l n t) (hn : n < 1000000) (key : ByteArray) (s : Span) : Counts (putP l key s v) (n + 1) (t + v) := by
  cases hb : isP l s
  · have hp : putP l key s v = insL l (lbP l s) ⟨key, s, Agg.one v⟩ := by unfold putP; rw [hb]
    rw [hp]
    refine ⟨fun p hp => ?_, ?_, ?_⟩
    · rcases insL_mem.1 hp with rfl | hp
      · simp [Agg.one]
      · exact h.pos p hp
    · rw [cnt_ins, h.all]; rfl
    · rw [sms_ins]
      have := h.sum
      unfold Same64 at *
      simp only [Agg.one]
      omega
  · obtain ⟨hl, e⟩ := isP_at hb
    have hp : putP l key s v = l.set (lbP l s) { l[lbP l s] with agg := l[lbP l s].agg.merge (Agg.one v) } := by unfold putP; rw [hb, List.getElem?_eq_getElem hl]
    have hc := h.pos _ (List.getElem_mem hl)
    have hcm := cnt_mem h.pos (List.getElem_mem hl)
    have ha := h.all
    rw [hp]
    generalize lbP l s = i at *
    have hm : (l[i].agg.merge (Agg.one v)).count = l[i].agg.count + 1 := by
      rw [Agg.merge_eq hc (by simp [Agg.one])]
      exact wrap64_small (by simp [Agg.one]; omega) (by simp [Agg.one]; omega)
    have hs : Same64 (l[i].agg.merge (Agg.one v)).sum (l[i].agg.sum + v) := by
      rw [Agg.merge_eq hc (by simp [Agg.one])]
      exact wrap64_same _
    refine ⟨fun p hp => ?_, ?_, ?_⟩
    · rcases List.mem_or_eq_of_mem_set hp with hp | rfl
      · exact h.pos p hp
      · simp only [hm]; omega
    · rw [cnt_set hl]; simp only [hm]; omega
    · rw [sms_set hl]
      have := h.sum
      unfold Same64 at *
      simp only at *
      omega
end Go.Proofs.YtmioichjhiengaaGreat

/-
  What panes keep (plain): by rising windows; apart; numbers of 64 bits.
-/
namespace Go.Proofs.YtmioichjhiengaaGreat
open Go.RowKit

theorem put_sorted {l : List Pane} (hs : SortedP l) (key : ByteArray) (s : Span) (v : Int) : SortedP (putP l key s v) := by
  cases hb : isP l s
  · have hp : putP l key s v = insL l (lbP l s) ⟨key, s, Agg.one v⟩ := by unfold putP; rw [hb]
    rw [hp]
    exact ins_sorted hs ⟨key, s, Agg.one v⟩ hb
  · obtain ⟨hl, e⟩ := isP_at hb
    have hp : putP l key s v = l.set (lbP l s) { l[lbP l s] with agg := l[lbP l s].agg.merge (Agg.one v) } := by unfold putP; rw [hb, List.getElem?_eq_getElem hl]
    rw [hp]
    have hm : (l.set (lbP l s) { l[lbP l s] with agg := l[lbP l s].agg.merge (Agg.one v) }).map (·.span) = l.map (·.span) := by
      apply List.ext_getElem
      · simp
      · intro i h1 h2
        simp only [List.getElem_map, List.getElem_set]
        split
        · rename_i h; subst h; rfl
        · rfl
    have h2 : ∀ m : List Pane, SortedP m ↔ (m.map (·.span)).Pairwise (fun a b => slt a b = true) := fun m => by rw [List.pairwise_map]
    rw [h2, hm, ← h2]
    exact hs
theorem put_ok {l : List Pane} (hok : ∀ p ∈ l, p.ok) {key : ByteArray} {s : Span} {v : Int} (hk : key.size ≤ maxLen) (hs : s.ok) (hv : I64 v) : ∀ p ∈ putP l key s v, p.ok := by
  intro p hp
  cases hb : isP l s
  · have he : putP l key s v = insL l (lbP l s) ⟨key, s, Agg.one v⟩ := by unfold putP; rw [hb]
    rw [he] at hp
    rcases insL_mem.1 hp with rfl | hp
    · exact ⟨hk, hs, one_ok hv⟩
    · exact hok p hp
  · obtain ⟨hl, e⟩ := isP_at hb
    have he : putP l key s v = l.set (lbP l s) { l[lbP l s] with agg := l[lbP l s].agg.merge (Agg.one v) } := by unfold putP; rw [hb, List.getElem?_eq_getElem hl]
    rw [he] at hp
    rcases List.mem_or_eq_of_mem_set hp with hp | rfl
    · exact hok p hp
    · have := hok _ (List.getElem_mem hl)
      exact ⟨this.1, this.2.1, Agg.merge_ok this.2.2 (one_ok hv)⟩
theorem put_has {l : List Pane} (hs : SortedP l) (key : ByteArray) (s : Span) (v : Int) : isP (putP l key s v) s = true := by
  rw [isP_iff (put_sorted hs key s v)]
  cases hb : isP l s
  · have hp : putP l key s v = insL l (lbP l s) ⟨key, s, Agg.one v⟩ := by unfold putP; rw [hb]
    rw [hp]
    exact ⟨⟨key, s, Agg.one v⟩, insL_mem.2 (.inl rfl), rfl⟩
  · obtain ⟨hl, e⟩ := isP_at hb
    have hp : putP l key s v = l.set (lbP l s) { l[lbP l s] with agg := l[lbP l s].agg.merge (Agg.one v) } := by unfold putP; rw [hb, List.getElem?_eq_getElem hl]
    rw [hp]
    exact ⟨_, List.mem_set hl _, e⟩
theorem put_len (l : List Pane) (key : ByteArray) (s : Span) (v : Int) : (putP l key s v).length ≤ l.length + 1 := by
  unfold putP
  split
  · simp
  · rw [insL_len]; exact Nat.le_refl _
theorem merge_len (l : List Pane) (key : ByteArray) (s : Span) (v : Int) : (mergeP key s v l).length ≤ l.length + 1 := by
  unfold mergeP
  rw [insL_len]
  exact Nat.succ_le_succ (List.length_filter_le _ _)

/-! Windows that are, apart -/
structure Apart (l : List Pane) : Prop where
  may : ∀ p ∈ l, p.span.s < p.span.e
  apart : l.Pairwise (fun a b => a.span.e ≤ b.span.s)
theorem Apart.sorted {l : List Pane} (h : Apart l) : SortedP l := by
  rw [SortedP, List.pairwise_iff_getElem]
  intro i j hi hj hij
  have h1 := List.pairwise_iff_getElem.1 h.apart i j hi hj hij
  have h2 := h.may _ (List.getElem_mem hi)
  rw [slt_iff]
  omega
theorem Apart.two {l : List Pane} (h : Apart l) {a b : Pane} (ha : a ∈ l) (hb : b ∈ l) : a = b ∨ a.span.e ≤ b.span.s ∨ b.span.e ≤ a.span.s := by
  obtain ⟨i, hi, rfl⟩ := List.getElem_of_mem ha
  obtain ⟨j, hj, rfl⟩ := List.getElem_of_mem hb
  rcases Nat.lt_trichotomy i j with h1 | h1 | h1
  · exact .inr (.inl (List.pairwise_iff_getElem.1 h.apart i j hi hj h1))
  · subst h1; exact .inl rfl
  · exact .inr (.inr (List.pairwise_iff_getElem.1 h.apart j i hj hi h1))
theorem meetB_iff {a b : Span} (ha : a.s < a.e) (hb : b.s < b.e) : a.meetB b = true ↔ a.s < b.e ∧ b.s < a.e := by
  simp [Span.meetB, Span.mayB, ha, hb]
theorem fold_span : ∀ (l : List Pane) (p : Pane), (l.foldl mergeStep p).span.s ≤ p.span.s ∧ p.span.e ≤ (l.foldl mergeStep p).span.e ∧
    ((l.foldl mergeStep p).span.s = p.span.s ∨ ∃ x ∈ l, (l.foldl mergeStep p).span.s = x.span.s) ∧ ((l.foldl mergeStep p).span.e = p.span.e ∨ ∃ x ∈ l, (l.foldl mergeStep p).span.e = x.span.e)
  | [], p => ⟨Int.le_refl _, Int.le_refl _, .inl rfl, .inl rfl⟩
  | x :: l, p => by
    obtain ⟨h1, h2, h3, h4⟩ := fold_span l (mergeStep p x)
    have e1 : (mergeStep p x).span.s ≤ p.span.s ∧ ((mergeStep p x).span.s = p.span.s ∨ (mergeStep p x).span.s = x.span.s) := by
      simp only [mergeStep, Span.join]; split <;> omega
    have e2 : p.span.e ≤ (mergeStep p x).span.e ∧ ((mergeStep p x).span.e = p.span.e ∨ (mergeStep p x).span.e = x.span.e) := by
      simp only [mergeStep, Span.join]; split <;> omega
    rw [List.foldl_cons]
    generalize mergeStep p x = q at *
    refine ⟨by omega, by omega, ?_, ?_⟩
    · rcases h3 with h3 | ⟨y, hy, h3⟩
      · rcases e1.2 with e | e
        · exact .inl (h3.trans e)
        · exact .inr ⟨x, by simp, h3.trans e⟩
      · exact .inr ⟨y, by simp [hy], h3⟩
    · rcases h4 with h4 | ⟨y, hy, h4⟩
      · rcases e2.2 with e | e
        · exact .inl (h4.trans e)
        · exact .inr ⟨x, by simp, h4.trans e⟩
      · exact .inr ⟨y, by simp [hy], h4⟩
theorem merge_apart {l : List Pane} (h : Apart l) (key : ByteArray) {s : Span} (v : Int) (hs : s.s < s.e) : Apart (mergeP key s v l) := by
  obtain ⟨h1, h2, h3, h4⟩ := fold_span (metP l s) ⟨key, s, Agg.one v⟩
  have ho : Apart (outP l s) := ⟨fun p hp => h.may p (List.mem_filter.1 hp).1, h.apart.filter _⟩
  have hout : ∀ x ∈ outP l s, x.span.e ≤ (accP key s v l).span.s ∨ (accP key s v l).span.e ≤ x.span.s := by
    intro x hx
    have hxl := (List.mem_filter.1 hx).1
    have hxm := (List.mem_filter.1 hx).2
    have hxv := h.may x hxl
    have hno : ¬ (x.span.s < s.e ∧ s.s < x.span.e) := fun e => by
      rw [(meetB_iff hxv hs).2 e] at hxm
      cases hxm
    have hmet : ∀ y ∈ metP l s, (y.span.s < s.e ∧ s.s < y.span.e) ∧ y.span.s < y.span.e ∧ (y.span.e ≤ x.span.s ∨ x.span.e ≤ y.span.s) := fun y hy => by
      have hyl := (List.mem_filter.1 hy).1
      have hyv := h.may y hyl
      have hym := (meetB_iff hyv hs).1 (List.mem_filter.1 hy).2
      refine ⟨hym, hyv, ?_⟩
      rcases h.two hyl hxl with e | e | e
      · subst e; exact absurd hym hno
      · exact .inl e
      · exact .inr e
    show x.span.e ≤ (accP key s v l).span.s ∨ (accP key s v l).span.e ≤ x.span.s
    have h3' : (accP key s v l).span.s = s.s ∨ ∃ y ∈ metP l s, (accP key s v l).span.s = y.span.s := h3
    have h4' : (accP key s v l).span.e = s.e ∨ ∃ y ∈ metP l s, (accP key s v l).span.e = y.span.e := h4
    by_cases hL : x.span.e ≤ s.s
    · left
      rcases h3' with e | ⟨y, hy, e⟩
      · omega
      · have := hmet y hy
        omega
    · right
      rcases h4' with e | ⟨y, hy, e⟩
      · omega
      · have := hmet y hy
        omega
  have hJ : (accP key s v l).span.s < (accP key s v l).span.e := by
    have e1 : (accP key s v l).span.s ≤ s.s := h1
    have e2 : s.e ≤ (accP key s v l).span.e := h2
    omega
  refine ⟨fun p hp => ?_, ?_⟩
  · rcases insL_mem.1 hp with rfl | hp
    · exact hJ
    · exact ho.may p hp
  · refine insL_pairwise ho.apart (fun k hk hkl => ?_) (fun k hk hkl => ?_)
    · have e := lbP_below hkl
      have e2 := hout _ (List.getElem_mem hk)
      have e3 := ho.may _ (List.getElem_mem hk)
      rw [slt_iff] at e
      omega
    · have e := lbP_above ho.sorted hk hkl
      have e2 := hout _ (List.getElem_mem hk)
      have e3 := ho.may _ (List.getElem_mem hk)
      rw [slt_no] at e
      omega
theorem merge_ok {l : List Pane} (hok : ∀ p ∈ l, p.ok) {key : ByteArray} {s : Span} {v : Int} (hk : key.size ≤ maxLen) (hs : s.ok) (hv : I64 v) : ∀ p ∈ mergeP key s v l, p.ok := by
  intro p hp
  rcases insL_mem.1 hp with rfl | hp
  · obtain ⟨-, -, h3, h4⟩ := fold_span (metP l s) ⟨key, s, Agg.one v⟩
    have hm : ∀ y ∈ metP l s, y.ok := fun y hy => hok y (List.mem_filter.1 hy).1
    refine ⟨?_, ⟨?_, ?_⟩, accP_ok hv hok⟩
    · show ((metP l s).foldl mergeStep _).key.size ≤ _
      rw [fold_key]; exact hk
    · rcases h3 with e | ⟨y, hy, e⟩
      · show I64 ((metP l s).foldl mergeStep _).span.s
        rw [e]; exact hs.1
      · show I64 ((metP l s).foldl mergeStep _).span.s
        rw [e]; exact (hm y hy).2.1.1
    · rcases h4 with e | ⟨y, hy, e⟩
      · show I64 ((metP l s).foldl mergeStep _).span.e
        rw [e]; exact hs.2
      · show I64 ((metP l s).foldl mergeStep _).span.e
        rw [e]; exact (hm y hy).2.1.2
  · exact hok p (List.mem_filter.1 hp).1
end Go.Proofs.YtmioichjhiengaaGreat
