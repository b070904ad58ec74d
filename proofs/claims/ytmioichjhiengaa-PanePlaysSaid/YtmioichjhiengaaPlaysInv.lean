/-
  PanePlays' inner loop: what it keeps, what was met, the pane.
-/
import Derived.Test.YtmioichjhiengaaPlaysLaw
import Derived.Test.YtmioichjhiengaaRefSet
import Derived.Test.YtmioichjhiengaaPaneMerge
namespace Go.Proofs.Ytmioichjhiengaa
open Go.RowKit

structure QInv (w w' : World) (base pb xb : Nat) (x : Deed07) (mg : Bool) (key : ByteArray) (l : List Pane) (vo vg : Value) : Prop where
  out : w'.ownsRow base 32 7 vo (restQ mg x.s l).length (flat Pane.cells (restQ mg x.s l))
  gone : w'.ownsRow base 28 2 vg ((metQ mg x.s l).map (·.span)).length (flat Span.cells ((metQ mg x.s l).map (·.span)))
  apart : ∀ g, vo.ownBlock = some g → vg.ownBlock ≠ some g
  pane : At w' pb (accQ mg key x.s x.v l).cells.toArray 32
  dd : At w' xb x.cells.toArray 53
  keep : Keep none_ w w'
  size : base ≤ w'.heap.size
structure QLow (w : World) (base pb xb : Nat) : Prop where
  p_lt : pb < base
  x_lt : xb < base
  w_le : w.heap.size ≤ pb
  p_x : pb ≠ xb
section
variable {w wr wA w2 w3 : World} {base pb xb : Nat} {x : Deed07} {mg : Bool} {key : ByteArray} {l l' : List Pane} {vo vg u : Value}
theorem QInv.on (hm : QInv w wr base pb xb x mg key l vo vg) (kk : Keep none_ wr wA) : QInv w wA base pb xb x mg key l vo vg :=
  ⟨own_keep hm.out kk (fun _ _ e => e), own_keep hm.gone kk (fun _ _ e => e), hm.apart, Keep.at kk hm.pane (fun e => e), Keep.at kk hm.dd (fun e => e), hm.keep.trans kk, Nat.le_trans hm.size kk.size⟩
theorem QInv.addOut (hm : QInv w wr base pb xb x mg key l vo vg) (L : QLow w base pb xb) (hk : Keep none_ wr wA) {y : Pane} {m : Nat} (own : w2.ownsRow base 32 7 u m (flat Pane.cells (restQ mg x.s l ++ [y]))) (hmm : m = (restQ mg x.s l).length + 1) (hg : wA.grownBy w2 vo.ownBlock) (hb : u.ownBlock = vo.ownBlock ∨ u.ownBlock = some wA.heap.size)
    (h1 : restQ mg x.s l' = restQ mg x.s l ++ [y]) (h2 : (metQ mg x.s l').map (·.span) = (metQ mg x.s l).map (·.span)) (h3 : accQ mg key x.s x.v l' = accQ mg key x.s x.v l) : QInv w w2 base pb xb x mg key l' u vg := by
  have kk : Keep (own_of vo) wr w2 := Keep.grown hk.of_none hg (fun q hq _ => hq)
  have hge := own_of_ge hm.out
  have := L.p_lt; have := L.x_lt; have := L.w_le
  refine ⟨?_, ?_, ?_, ?_, ?_, ?_, Nat.le_trans hm.size kk.size⟩
  · rw [h1, List.length_append]; subst hmm; exact own
  · rw [h2]; exact own_keep hm.gone kk (fun g hg e => hm.apart g e hg)
  · intro g e1 e2
    rcases hb with hb | hb
    · exact hm.apart g (by rw [← hb]; exact e1) e2
    · rw [hb] at e1
      have := (hm.gone.lt g e2).2
      have h9 := hk.size
      have : wA.heap.size = g := by simpa using e1
      omega
  · rw [h3]; exact Keep.at kk hm.pane (fun e => by have := hge _ e; omega)
  · exact Keep.at kk hm.dd (fun e => by have := hge _ e; omega)
  · exact Keep.fresh hm.keep kk (fun q hq e => by have := hge _ e; omega)
theorem QInv.addGone (hm : QInv w wr base pb xb x mg key l vo vg) (L : QLow w base pb xb) (hk : Keep none_ wr wA) {y : Span} {m : Nat} (own : w2.ownsRow base 28 2 u m (flat Span.cells ((metQ mg x.s l).map (·.span) ++ [y]))) (hmm : m = ((metQ mg x.s l).map (·.span)).length + 1) (hg : wA.grownBy w2 vg.ownBlock) (hb : u.ownBlock = vg.ownBlock ∨ u.ownBlock = some wA.heap.size)
    (k3 : Keep (one pb) w2 w3) (h1 : restQ mg x.s l' = restQ mg x.s l) (h2 : (metQ mg x.s l').map (·.span) = (metQ mg x.s l).map (·.span) ++ [y]) (hp : At w3 pb (accQ mg key x.s x.v l').cells.toArray 32) : QInv w w3 base pb xb x mg key l' vo u := by
  have k2 : Keep (own_of vg) wr w2 := Keep.grown hk.of_none hg (fun q hq _ => hq)
  have hge := own_of_ge hm.gone
  have hgo := own_of_ge hm.out
  have hgu := own_of_ge own
  have := L.p_lt; have := L.x_lt; have := L.w_le; have := L.p_x
  refine ⟨?_, ?_, ?_, hp, ?_, ?_, Nat.le_trans hm.size (Nat.le_trans k2.size k3.size)⟩
  · rw [h1]; exact own_keep (own_keep hm.out k2 (fun g hg e => hm.apart g hg e)) k3 (fun g hg e => by have := hgo g hg; unfold one at e; omega)
  · rw [h2, List.length_append]; subst hmm; exact own_keep own k3 (fun g hg e => by have := hgu g hg; unfold one at e; omega)
  · intro g e1 e2
    rcases hb with hb | hb
    · exact hm.apart g e1 (by rw [← hb]; exact e2)
    · rw [hb] at e2
      have := (hm.out.lt g e1).2
      have h9 := hk.size
      have : wA.heap.size = g := by simpa using e2
      omega
  · exact Keep.at k3 (Keep.at k2 hm.dd (fun e => by have := hge _ e; omega)) (fun e => by unfold one at e; omega)
  · exact Keep.fresh (Keep.fresh hm.keep k2 (fun q hq e => by have := hge _ e; omega)) k3 (fun q hq e => by unfold one at e; omega)
end
theorem restQ_le (mg : Bool) (s : Span) (xs : List Pane) : (restQ mg s xs).length ≤ xs.length := List.length_filter_le _ _
theorem metQ_le (mg : Bool) (s : Span) (xs : List Pane) : ((metQ mg s xs).map (·.span)).length ≤ xs.length := by rw [List.length_map]; exact List.length_filter_le _ _
theorem cells3 {w w' : World} {p : Nat} {v1 v2 v3 : Value} (hl : p < w.heap.size) (h1 : w.cell? ⟨p, 1, none⟩ = some v1) (h2 : w.cell? ⟨p, 2, none⟩ = some v2) (h3 : w.cell? ⟨p, 3, none⟩ = some v3) (k : Keep none_ w w') :
    w'.cell? ⟨p, 1, none⟩ = some v1 ∧ w'.cell? ⟨p, 2, none⟩ = some v2 ∧ w'.cell? ⟨p, 3, none⟩ = some v3 ∧ Keep none_ w w' := by
  have hb := k.block p hl (fun e => e)
  have : ∀ i, w'.cell? ⟨p, i, none⟩ = w.cell? ⟨p, i, none⟩ := fun i => by simp [World.cell?, hb]
  exact ⟨(this 1).trans h1, (this 2).trans h2, (this 3).trans h3, k⟩
theorem ofKey_all {key : ByteArray} {m : List Pane} (h : ∀ p ∈ m, p.key = key) : ofKey key m = m := by
  unfold ofKey
  rw [List.filter_eq_self]
  intro x hx
  rw [h x hx]; simp
theorem filter_at {α : Type} {q : α → Bool} {l : List α} {k : Nat} (hk : k < l.length) (hq : q l[k] = true) : ((l.take k).filter q).length < (l.filter q).length ∧ (l.filter q)[((l.take k).filter q).length]? = some l[k] := by
  have e : l = l.take k ++ l[k] :: l.drop (k + 1) := by rw [← List.drop_eq_getElem_cons hk, List.take_append_drop]
  have e2 : l.filter q = (l.take k).filter q ++ l[k] :: (l.drop (k + 1)).filter q := by
    have h := congrArg (List.filter q) e
    rw [List.filter_append, List.filter_cons_of_pos hq] at h
    exact h
  rw [e2]
  constructor
  · simp
  · rw [List.getElem?_append_right (Nat.le_refl _)]; simp
theorem ref_one_x (w : World) (v : Int) : Calls Try.prog 26 #[.int .i64 v] w fun e w' =>
    e = .returned (.agg #[.int .i64 1, .int .i64 v, .int .i64 v, .int .i64 v]) ∧ w' = w.alloc (.cells #[.int .i64 1, .int .i64 v, .int .i64 v, .int .i64 v] 30) := by
  go_enter Try.func26, Try.ntmps26
  go_wp2
  exact bodyPost_ret (v := .agg #[.int .i64 1, .int .i64 v, .int .i64 v, .int .i64 v]) (by simp [results, Try.results26, go_sem]) rfl ⟨rfl, by simp⟩
end Go.Proofs.Ytmioichjhiengaa
