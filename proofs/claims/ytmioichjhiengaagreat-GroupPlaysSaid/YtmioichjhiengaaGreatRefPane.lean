/-
  The reference's Of: a key's panes; easellaw07.set.
-/
import Derived.Test.YtmioichjhiengaaGreatBaseRow
import Derived.Test.YtmioichjhiengaaGreatPaneSearch
import Derived.Test.YtmioichjhiengaaGreatSpanRef
import Derived.Deep.LoopGhost
set_option linter.unusedSimpArgs false
set_option linter.unusedVariables false
--auto
namespace Go.Proofs.YtmioichjhiengaaGreat
open Go.RowKit

def ofKey (key : ByteArray) (l : List Pane) : List Pane := l.filter (fun p => p.key.toList == key.toList)
end Go.Proofs.YtmioichjhiengaaGreat
