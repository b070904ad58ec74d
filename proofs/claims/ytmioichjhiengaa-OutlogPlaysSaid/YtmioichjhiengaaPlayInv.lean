/-
  OutlogPlays: what holds of the log and of the law's own list.
-/
import Derived.Test.YtmioichjhiengaaUpLog
import Derived.Test.YtmioichjhiengaaOutSorted
import Derived.Test.YtmioichjhiengaaNest
namespace Go.Proofs.Ytmioichjhiengaa
open Go.RowKit

structure PInv (W w : World) (p : Nat) (mv vL : Value) (L M : List Pane) : Prop where
  log : IsLog w p p vL L
  own : PRow w (p + 1) mv M
  apart : ∀ q, own_of mv q → own_of vL q → False
  keep : Keep none_ W w
theorem PInv.on {W w w' : World} {p : Nat} {mv vL : Value} {L M : List Pane} (h : PInv W w p mv vL L M) (kk : Keep none_ w w') : PInv W w' p mv vL L M :=
  ⟨h.log.keep kk (fun e => e) (fun _ _ e => e), own_keep h.own kk (fun _ _ e => e), h.apart, h.keep.trans kk⟩
theorem IsLog.own_lt {w : World} {b p : Nat} {v : Value} {xs : List Pane} (h : IsLog w b p v xs) : ∀ q, own_of v q → b ≤ q ∧ q < w.heap.size := fun q hq => h.own.lt q hq
/-- The log has put some. -/
theorem PInv.put {W w w' : World} {p : Nat} {mv vL : Value} {L M zs : List Pane} (h : PInv W w p mv vL L M) (hW : W.heap.size ≤ p) {e : Ending} (hp : LogPut w p p vL zs e w') : ∃ v', e = .returned (.tuple #[]) ∧ PInv W w' p mv v' zs M := by
  obtain ⟨v', he, hL, kk, hv⟩ := hp
  have hml : ∀ q, own_of mv q → p + 1 ≤ q ∧ q < w.heap.size := fun q hq => h.own.lt q hq
  refine ⟨v', he, hL, own_keep h.own kk (fun q hq e => ?_), fun q hq hq' => ?_, Keep.fresh h.keep kk (fun q hq e => ?_)⟩
  · rcases e with e | e
    · have := hml q hq; omega
    · exact h.apart q hq e
  · rcases hv with e | e
    · exact h.apart q hq (by unfold own_of at hq' ⊢; rw [← e, hq'])
    · have := hml q hq
      unfold own_of at hq'
      rw [hq'] at e
      injection e with e
      omega
  · rcases e with e | e
    · omega
    · have := (h.log.own_lt q e).1; omega
/-- The law's own list has grown. -/
theorem PInv.grow {W w w' : World} {p : Nat} {mv vL mv' : Value} {L M M' : List Pane} (h : PInv W w p mv vL L M) (hW : W.heap.size ≤ p) (ho : PRow w' (p + 1) mv' M') (hg : w.grownBy w' mv.ownBlock) (hv : mv'.ownBlock = mv.ownBlock ∨ mv'.ownBlock = some w.heap.size) : PInv W w' p mv' vL L M' := by
  have kk : Keep (own_of mv) w w' := Keep.grown (Keep.refl _ _) hg (fun k e _ => e)
  have hml : ∀ q, own_of mv q → p + 1 ≤ q ∧ q < w.heap.size := fun q hq => h.own.lt q hq
  refine ⟨h.log.keep kk (fun e => ?_) (fun q hq e => h.apart q e hq), ho, fun q hq hq' => ?_, Keep.fresh h.keep kk (fun q hq e => ?_)⟩
  · have := (hml p e).1; omega
  · rcases hv with e | e
    · exact h.apart q (by unfold own_of at hq ⊢; rw [← e, hq]) hq'
    · have := (h.log.own_lt q hq').2
      unfold own_of at hq
      rw [hq] at e
      injection e with e
      omega
  · have := (hml q e).1; omega
end Go.Proofs.Ytmioichjhiengaa
