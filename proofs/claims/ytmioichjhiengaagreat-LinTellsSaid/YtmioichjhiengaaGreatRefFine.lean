/-
  The reference's Fine.
-/
import Derived.Test.YtmioichjhiengaaGreatBaseA
import Derived.Test.YtmioichjhiengaaGreatBaseRow
import Derived.Laws.NewBlocks
set_option linter.unusedSimpArgs false
set_option linter.unusedVariables false
--auto
namespace Go.Proofs.YtmioichjhiengaaGreat
open Go.RowKit

def badP (q p : Pane) : Bool := (q.key.toList == p.key.toList) && (decide (p.span.e < q.span.e) || q.span.eqB p.span)
def FineP (xs : List Pane) : Prop := ∀ i j, (h : i < xs.length) → (hj : j < i) → badP (xs[j]'(by omega)) xs[i] = false

def FineDone (w : World) (xs : List Pane) (e : Ending) (w' : World) : Prop := ∃ b, e = .returned (.bool b) ∧ (b = true ↔ FineP xs) ∧ Keep none_ w w'
end Go.Proofs.YtmioichjhiengaaGreat
