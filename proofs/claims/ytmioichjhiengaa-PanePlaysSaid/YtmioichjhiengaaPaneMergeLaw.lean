/-
  What pane.Merge comes to; the state of its loop.
-/
import Derived.Test.YtmioichjhiengaaPaneCut
import Derived.Test.YtmioichjhiengaaAggFold
import Derived.Laws.NewBlocks
namespace Go.Proofs.Ytmioichjhiengaa
open Go.RowKit

def mergeStep (p x : Pane) : Pane := { p with span := p.span.join x.span, agg := p.agg.merge x.agg }
def metP (xs : List Pane) (s : Span) : List Pane := xs.filter (fun x => x.span.meetB s)
def outP (xs : List Pane) (s : Span) : List Pane := xs.filter (fun x => !x.span.meetB s)
def accP (key : ByteArray) (s : Span) (v : Int) (xs : List Pane) : Pane := (metP xs s).foldl mergeStep ⟨key, s, Agg.one v⟩
def goneP (key : ByteArray) (s : Span) (v : Int) (xs : List Pane) : List Span := ((metP xs s).map (·.span)).filter (fun x => !(x.eqB (accP key s v xs).span))
def mergeP (key : ByteArray) (s : Span) (v : Int) (xs : List Pane) : List Pane := insL (outP xs s) (lbP (outP xs s) (accP key s v xs).span) (accP key s v xs)
theorem fold_ok : ∀ (l : List Pane) (p : Pane), p.agg.ok → (∀ x ∈ l, x.agg.ok) → (l.foldl mergeStep p).agg.ok
  | [], _, h, _ => h
  | x :: l, p, h, hl => fold_ok l (mergeStep p x) (Agg.merge_ok h (hl x (by simp))) (fun y hy => hl y (by simp [hy]))
theorem accP_ok {key : ByteArray} {s : Span} {v : Int} {xs : List Pane} (hv : I64 v) (h : ∀ x ∈ xs, x.ok) : (accP key s v xs).agg.ok :=
  fold_ok _ _ (one_ok hv) (fun x hx => (h x (List.mem_filter.1 hx).1).2.2)
theorem fold_key : ∀ (l : List Pane) (p : Pane), (l.foldl mergeStep p).key = p.key
  | [], _ => rfl
  | x :: l, p => fold_key l (mergeStep p x)
theorem take_succ_filter {α : Type} {q : α → Bool} {l : List α} {k : Nat} (hk : k < l.length) : (l.take (k + 1)).filter q = (l.take k).filter q ++ (if q l[k] then [l[k]] else []) := by
  rw [List.take_succ_eq_append_getElem hk, List.filter_append]
  congr 1
  cases h : q l[k] <;> simp [h]

def Merged (w : World) (key : ByteArray) (s : Span) (v : Int) (xs : List Pane) (e : Ending) (w' : World) : Prop :=
  ∃ vo vg, e = .returned (.tuple #[vo, vg, .agg (accP key s v xs).span.cells.toArray]) ∧ PRow w' w.heap.size vo (mergeP key s v xs) ∧ SRow w' w.heap.size vg (goneP key s v xs) ∧ Keep none_ w w'

theorem agg_of_x (w : World) (v : Int) : Calls Try.prog 50 #[.int .i64 v] w fun e w' =>
    e = .returned (.agg #[.int .i64 1, .int .i64 v, .int .i64 v, .int .i64 v]) ∧ w' = w.alloc (.cells #[.int .i64 1, .int .i64 v, .int .i64 v, .int .i64 v] 30) := by
  go_enter Try.func50, Try.ntmps50
  go_wp2
  exact bodyPost_ret (v := .agg #[.int .i64 1, .int .i64 v, .int .i64 v, .int .i64 v]) (by simp [results, Try.results50, go_sem]) rfl ⟨rfl, by simp⟩

/-- The state of Merge's loop: what it keeps, what it dropped, the pane. -/
structure MInv (w w' : World) (base pb sb rb : Nat) (key : ByteArray) (s : Span) (v : Int) (l : List Pane) (vo vg : Value) : Prop where
  out : w'.ownsRow base 32 7 vo (outP l s).length (flat Pane.cells (outP l s))
  gone : w'.ownsRow base 28 2 vg ((metP l s).map (·.span)).length (flat Span.cells ((metP l s).map (·.span)))
  apart : ∀ g, vo.ownBlock = some g → vg.ownBlock ≠ some g
  pane : At w' pb (accP key s v l).cells.toArray 32
  sp : At w' sb s.cells.toArray 28
  res : At w' rb #[.int .i64 0, .int .i64 0] 28
  keep : Keep none_ w w'
  size : base ≤ w'.heap.size
theorem accP_succ {key : ByteArray} {s : Span} {v : Int} {xs : List Pane} {k : Nat} (hk : k < xs.length) :
    accP key s v (xs.take (k + 1)) = if xs[k].span.meetB s then mergeStep (accP key s v (xs.take k)) xs[k] else accP key s v (xs.take k) := by
  unfold accP metP
  rw [take_succ_filter hk, List.foldl_append]
  cases xs[k].span.meetB s <;> simp
theorem outP_succ {s : Span} {xs : List Pane} {k : Nat} (hk : k < xs.length) : outP (xs.take (k + 1)) s = outP (xs.take k) s ++ (if xs[k].span.meetB s then [] else [xs[k]]) := by
  unfold outP
  rw [take_succ_filter hk]
  cases xs[k].span.meetB s <;> simp
theorem metP_succ {s : Span} {xs : List Pane} {k : Nat} (hk : k < xs.length) : (metP (xs.take (k + 1)) s).map (·.span) = (metP (xs.take k) s).map (·.span) ++ (if xs[k].span.meetB s then [xs[k].span] else []) := by
  unfold metP
  rw [take_succ_filter hk, List.map_append]
  cases xs[k].span.meetB s <;> simp

section
variable {w wr wA w2 : World} {base pb sb rb : Nat} {key : ByteArray} {s : Span} {v : Int} {l l' : List Pane} {vo vg u : Value}
structure MLow (w : World) (base pb sb rb : Nat) : Prop where
  p_lt : pb < base
  s_lt : sb < base
  r_lt : rb < base
  w_le : w.heap.size ≤ pb
  p_s : pb ≠ sb
  p_r : pb ≠ rb
theorem MInv.addOut (hm : MInv w wr base pb sb rb key s v l vo vg) (L : MLow w base pb sb rb) (hk : Keep none_ wr wA) {x : Pane} {m : Nat} (own : w2.ownsRow base 32 7 u m (flat Pane.cells (outP l s ++ [x]))) (hmm : m = (outP l s).length + 1) (hg : wA.grownBy w2 vo.ownBlock) (hb : u.ownBlock = vo.ownBlock ∨ u.ownBlock = some wA.heap.size)
    (h1 : outP l' s = outP l s ++ [x]) (h2 : (metP l' s).map (·.span) = (metP l s).map (·.span)) (h3 : accP key s v l' = accP key s v l) : MInv w w2 base pb sb rb key s v l' u vg := by
  have kk : Keep (own_of vo) wr w2 := Keep.grown hk.of_none hg (fun q hq _ => hq)
  have hge := own_of_ge hm.out
  have := L.p_lt; have := L.s_lt; have := L.r_lt; have := L.w_le
  refine ⟨?_, ?_, ?_, ?_, ?_, ?_, ?_, Nat.le_trans hm.size kk.size⟩
  · rw [h1, List.length_append]; subst hmm; exact own
  · rw [h2]; exact own_keep hm.gone kk (fun g hg e => hm.apart g e hg)
  · intro g e1 e2
    rcases hb with hb | hb
    · exact hm.apart g (by rw [← hb]; exact e1) e2
    · rw [hb] at e1
      have := (hm.gone.lt g e2).2
      have h9 := hk.size
      have : wA.heap.size = g := by simpa using e1
      omega
  · rw [h3]; exact Keep.at kk hm.pane (fun e => by have := hge _ e; omega)
  · exact Keep.at kk hm.sp (fun e => by have := hge _ e; omega)
  · exact Keep.at kk hm.res (fun e => by have := hge _ e; omega)
  · exact Keep.fresh hm.keep kk (fun q hq e => by have := hge _ e; omega)
theorem MInv.addGone (hm : MInv w wr base pb sb rb key s v l vo vg) (L : MLow w base pb sb rb) (hk : Keep (one pb) wr wA) {x : Span} {m : Nat} (own : w2.ownsRow base 28 2 u m (flat Span.cells ((metP l s).map (·.span) ++ [x]))) (hmm : m = ((metP l s).map (·.span)).length + 1) (hg : wA.grownBy w2 vg.ownBlock) (hb : u.ownBlock = vg.ownBlock ∨ u.ownBlock = some wA.heap.size)
    (h1 : outP l' s = outP l s) (h2 : (metP l' s).map (·.span) = (metP l s).map (·.span) ++ [x]) (hp : At wA pb (accP key s v l').cells.toArray 32) : MInv w w2 base pb sb rb key s v l' vo u := by
  have k2 : Keep (own_of vg) wA w2 := Keep.grown (Keep.refl _ _) hg (fun q hq _ => hq)
  have hge := own_of_ge hm.gone
  have hgo := own_of_ge hm.out
  have := L.p_lt; have := L.s_lt; have := L.r_lt; have := L.w_le; have := L.p_s; have := L.p_r
  refine ⟨?_, ?_, ?_, ?_, ?_, ?_, ?_, Nat.le_trans hm.size (Nat.le_trans hk.size k2.size)⟩
  · rw [h1]; exact own_keep (own_keep hm.out hk (fun g hg e => by have := hgo g hg; unfold one at e; omega)) k2 (fun g hg e => hm.apart g hg e)
  · rw [h2, List.length_append]; subst hmm; exact own
  · intro g e1 e2
    rcases hb with hb | hb
    · exact hm.apart g e1 (by rw [← hb]; exact e2)
    · rw [hb] at e2
      have := (hm.out.lt g e1).2
      have h9 := hk.size
      have : wA.heap.size = g := by simpa using e2
      omega
  · exact Keep.at k2 hp (fun e => by have := hge _ e; omega)
  · exact Keep.at k2 (Keep.at hk hm.sp (fun e => by unfold one at e; omega)) (fun e => by have := hge _ e; omega)
  · exact Keep.at k2 (Keep.at hk hm.res (fun e => by unfold one at e; omega)) (fun e => by have := hge _ e; omega)
  · exact Keep.fresh (Keep.fresh hm.keep hk (fun q hq e => by unfold one at e; omega)) k2 (fun q hq e => by have := hge _ e; omega)
end

end Go.Proofs.Ytmioichjhiengaa
