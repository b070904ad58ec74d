/-
  No cell of these rows narrows 'for every input' (looked for: loops, veiled, ifaces, maps, wideKeys, modest, calm, conditions, laid).
  DERIVED. THE GIVEN ROWS OF THIS SEAT. 5 by the template 'for every input the law returns true; each argument reads behind the call as it read before'; 0 by the template 'total and deterministic' (their statements: YtmioichjhiengaaGreatTotals.lean).
  GIVEN WITH THE SEED: the statements are not yours to turn. If you find one false, say at which input.
  Laid BY PROGRAM, IN A SANDBOX (cutbox-rows.mjs): the forced cells as the released guide's own fill.sh prints them over the translation e2f4de2bfc87f84d… (all of the seat's roots in one cut). By AI agents, Wed Nov 11 2026. No macro, syntax, notation, axiom, sorry.
-/
import Derived.Test.YtmioichjhiengaaGreatChecked
import GoSem.Claim
import GoSem.ClaimJoined
import GoSem.ClaimMapViews
import Derived.JoinedTies
import Derived.KernelRfl
namespace Go.Proofs.YtmioichjhiengaaGreat
/- THE CELL 'sum', in the pinned program and in every row, IS THE sha256 OF THE DUMP (.gsa) THAT YtmioichjhiengaaGreatProg.lean LOADS. Nothing in Lean hashes anything: it is a label: what it is worth is what the hold of that sum in a sandbox is worth. -/
noncomputable def Tryz.pinned : Pinned := { name := "ytmioichjhiengaagreat", sum := "e2f4de2bfc87f84d9ed3ea0fdfa2f90835c2e9a33f1fe1820fef7bb6e8e4a05a", checked := Tryz.checked }
namespace Rows
def none {H : Type} : Left H := { results := [], args := [] }

/-- 'easellaw08.GroupPlays': WHATEVER THE INPUT: true; the input reads as it did. -/
def groupPlaysSpec : ChangeSpec := { name := "groupPlays", fn := fun _ => fun
  | [d1, d2] => { results := [.lit (.bool true)], args := [d1, d2] }
  | _ => none }
def groupPlaysRow : OpenClaim := { program := "ytmioichjhiengaagreat", sum := "e2f4de2bfc87f84d9ed3ea0fdfa2f90835c2e9a33f1fe1820fef7bb6e8e4a05a", func := "easel/easellaw08.GroupPlays", spec := "groupPlays", inPlace := ["slices.overlaps[easel/api.Pane]"], unfollowed := true, recurses := true, apart := false }
def GroupPlaysSaid : Prop := groupPlaysRow.holds Tryz.pinned (OpenSpec.ofChange groupPlaysSpec)

/-- ITS FALSE NEIGHBOUR: 'it returns false'. Refute it at one input. -/
def groupPlaysWrong : ChangeSpec := { name := "groupPlays", fn := fun _ => fun
  | [d1, d2] => { results := [.lit (.bool false)], args := [d1, d2] }
  | _ => none }
def GroupPlaysWrongFalsely : Prop := groupPlaysRow.holds Tryz.pinned (OpenSpec.ofChange groupPlaysWrong)

/-- 'easellaw13.ModelPlays': WHATEVER THE INPUT: true; the input reads as it did. -/
def modelPlaysSpec : ChangeSpec := { name := "modelPlays", fn := fun _ => fun
  | [d1, d2, d3] => { results := [.lit (.bool true)], args := [d1, d2, d3] }
  | _ => none }
def modelPlaysRow : OpenClaim := { program := "ytmioichjhiengaagreat", sum := "e2f4de2bfc87f84d9ed3ea0fdfa2f90835c2e9a33f1fe1820fef7bb6e8e4a05a", func := "easel/easellaw13.ModelPlays", spec := "modelPlays", inPlace := ["slices.overlaps[easel/api.Pane]"], unfollowed := true, recurses := true, apart := false }
def ModelPlaysSaid : Prop := modelPlaysRow.holds Tryz.pinned (OpenSpec.ofChange modelPlaysSpec)

/-- ITS FALSE NEIGHBOUR: 'it returns false'. Refute it at one input. -/
def modelPlaysWrong : ChangeSpec := { name := "modelPlays", fn := fun _ => fun
  | [d1, d2, d3] => { results := [.lit (.bool false)], args := [d1, d2, d3] }
  | _ => none }
def ModelPlaysWrongFalsely : Prop := modelPlaysRow.holds Tryz.pinned (OpenSpec.ofChange modelPlaysWrong)

/-- 'easellaw13.ModelAsks': WHATEVER THE INPUT: true; the input reads as it did. -/
def modelAsksSpec : ChangeSpec := { name := "modelAsks", fn := fun _ => fun
  | [d1, d2, d3, d4] => { results := [.lit (.bool true)], args := [d1, d2, d3, d4] }
  | _ => none }
def modelAsksRow : OpenClaim := { program := "ytmioichjhiengaagreat", sum := "e2f4de2bfc87f84d9ed3ea0fdfa2f90835c2e9a33f1fe1820fef7bb6e8e4a05a", func := "easel/easellaw13.ModelAsks", spec := "modelAsks", inPlace := ["slices.overlaps[easel/api.Pane]"], unfollowed := true, recurses := true, apart := false }
def ModelAsksSaid : Prop := modelAsksRow.holds Tryz.pinned (OpenSpec.ofChange modelAsksSpec)

/-- ITS FALSE NEIGHBOUR: 'it returns false'. Refute it at one input. -/
def modelAsksWrong : ChangeSpec := { name := "modelAsks", fn := fun _ => fun
  | [d1, d2, d3, d4] => { results := [.lit (.bool false)], args := [d1, d2, d3, d4] }
  | _ => none }
def ModelAsksWrongFalsely : Prop := modelAsksRow.holds Tryz.pinned (OpenSpec.ofChange modelAsksWrong)

/-- 'easellaw20.LinOwn': WHATEVER THE INPUT: true; the input reads as it did. -/
def linOwnSpec : ChangeSpec := { name := "linOwn", fn := fun _ => fun
  | [d1, d2, d3, d4] => { results := [.lit (.bool true)], args := [d1, d2, d3, d4] }
  | _ => none }
def linOwnRow : OpenClaim := { program := "ytmioichjhiengaagreat", sum := "e2f4de2bfc87f84d9ed3ea0fdfa2f90835c2e9a33f1fe1820fef7bb6e8e4a05a", func := "easel/easellaw20.LinOwn", spec := "linOwn", inPlace := ["slices.overlaps[easel/api.Pane]"], unfollowed := true, recurses := true, apart := false }
def LinOwnSaid : Prop := linOwnRow.holds Tryz.pinned (OpenSpec.ofChange linOwnSpec)

/-- ITS FALSE NEIGHBOUR: 'it returns false'. Refute it at one input. -/
def linOwnWrong : ChangeSpec := { name := "linOwn", fn := fun _ => fun
  | [d1, d2, d3, d4] => { results := [.lit (.bool false)], args := [d1, d2, d3, d4] }
  | _ => none }
def LinOwnWrongFalsely : Prop := linOwnRow.holds Tryz.pinned (OpenSpec.ofChange linOwnWrong)

/-- 'easellaw20.LinTells': WHATEVER THE INPUT: true; the input reads as it did. -/
def linTellsSpec : ChangeSpec := { name := "linTells", fn := fun _ => fun
  | [d1, d2, d3] => { results := [.lit (.bool true)], args := [d1, d2, d3] }
  | _ => none }
def linTellsRow : OpenClaim := { program := "ytmioichjhiengaagreat", sum := "e2f4de2bfc87f84d9ed3ea0fdfa2f90835c2e9a33f1fe1820fef7bb6e8e4a05a", func := "easel/easellaw20.LinTells", spec := "linTells", inPlace := ["slices.overlaps[easel/api.Pane]"], unfollowed := true, recurses := true, apart := false }
def LinTellsSaid : Prop := linTellsRow.holds Tryz.pinned (OpenSpec.ofChange linTellsSpec)

/-- ITS FALSE NEIGHBOUR: 'it returns false'. Refute it at one input. -/
def linTellsWrong : ChangeSpec := { name := "linTells", fn := fun _ => fun
  | [d1, d2, d3] => { results := [.lit (.bool false)], args := [d1, d2, d3] }
  | _ => none }
def LinTellsWrongFalsely : Prop := linTellsRow.holds Tryz.pinned (OpenSpec.ofChange linTellsWrong)

/- THE SECOND FORM. 'bulk': how many values and letters a reading holds, each counted each time it is reached (what is shared counts as often as it is met; a slice's spare places count too). A statement '..UptoSaid' is the law's where the arguments, and the package variables that the reading takes, are together of bulk at most 1048576: NARROWER than '..Said'. Prove '..Said' where nothing that the law and all that it calls make is longer than what came in: it says more and counts as full. Else prove '..UptoSaid'. A law counts once. -/
mutual
def uptoBulk {H : Type} : DataW H → Nat
  | .lit (.string bytes) => bytes.length + 1
  | .lit _ => 1
  | .nil => 1
  | .ptr d => uptoBulk d + 1
  | .slice elems spare => uptoBulkAll elems + uptoBulkAll spare + 1
  | .agg parts => uptoBulkAll parts + 1
  | .iface _ d => uptoBulk d + 1
  | .map entries => uptoBulkEntries entries + 1
  | .held _ => 1
def uptoBulkAll {H : Type} : List (DataW H) → Nat
  | [] => 0
  | d :: r => uptoBulk d + uptoBulkAll r
def uptoBulkEntries {H : Type} : List (Lit × DataW H) → Nat
  | [] => 0
  | x :: r => uptoBulkEntry x + uptoBulkEntries r
def uptoBulkEntry {H : Type} : Lit × DataW H → Nat
  | (.string bytes, d) => bytes.length + uptoBulk d + 1
  | (_, d) => uptoBulk d + 1
 end
def uptoSmall : (H : Type) → List (DataW H) → Bool := fun _ ds => decide (uptoBulkAll ds ≤ 1048576)
def OpenSpec.upto (s : _root_.Go.ChangeSpec) : _root_.Go.OpenSpec := { _root_.Go.OpenSpec.ofChange s with cond := some uptoSmall }

/-- 'easellaw08.GroupPlays', WHERE WHAT IT READS IS OF BULK AT MOST 1048576: true; the input reads as it did. -/
def groupPlaysUptoRow : OpenClaim := { program := "ytmioichjhiengaagreat", sum := "e2f4de2bfc87f84d9ed3ea0fdfa2f90835c2e9a33f1fe1820fef7bb6e8e4a05a", func := "easel/easellaw08.GroupPlays", spec := "groupPlays", inPlace := ["slices.overlaps[easel/api.Pane]"], unfollowed := true, recurses := true, apart := false, narrowed := true }
def GroupPlaysUptoSaid : Prop := groupPlaysUptoRow.holds Tryz.pinned (OpenSpec.upto groupPlaysSpec)

/-- 'easellaw13.ModelPlays', WHERE WHAT IT READS IS OF BULK AT MOST 1048576: true; the input reads as it did. -/
def modelPlaysUptoRow : OpenClaim := { program := "ytmioichjhiengaagreat", sum := "e2f4de2bfc87f84d9ed3ea0fdfa2f90835c2e9a33f1fe1820fef7bb6e8e4a05a", func := "easel/easellaw13.ModelPlays", spec := "modelPlays", inPlace := ["slices.overlaps[easel/api.Pane]"], unfollowed := true, recurses := true, apart := false, narrowed := true }
def ModelPlaysUptoSaid : Prop := modelPlaysUptoRow.holds Tryz.pinned (OpenSpec.upto modelPlaysSpec)

/-- 'easellaw13.ModelAsks', WHERE WHAT IT READS IS OF BULK AT MOST 1048576: true; the input reads as it did. -/
def modelAsksUptoRow : OpenClaim := { program := "ytmioichjhiengaagreat", sum := "e2f4de2bfc87f84d9ed3ea0fdfa2f90835c2e9a33f1fe1820fef7bb6e8e4a05a", func := "easel/easellaw13.ModelAsks", spec := "modelAsks", inPlace := ["slices.overlaps[easel/api.Pane]"], unfollowed := true, recurses := true, apart := false, narrowed := true }
def ModelAsksUptoSaid : Prop := modelAsksUptoRow.holds Tryz.pinned (OpenSpec.upto modelAsksSpec)

/-- 'easellaw20.LinOwn', WHERE WHAT IT READS IS OF BULK AT MOST 1048576: true; the input reads as it did. -/
def linOwnUptoRow : OpenClaim := { program := "ytmioichjhiengaagreat", sum := "e2f4de2bfc87f84d9ed3ea0fdfa2f90835c2e9a33f1fe1820fef7bb6e8e4a05a", func := "easel/easellaw20.LinOwn", spec := "linOwn", inPlace := ["slices.overlaps[easel/api.Pane]"], unfollowed := true, recurses := true, apart := false, narrowed := true }
def LinOwnUptoSaid : Prop := linOwnUptoRow.holds Tryz.pinned (OpenSpec.upto linOwnSpec)

/-- 'easellaw20.LinTells', WHERE WHAT IT READS IS OF BULK AT MOST 1048576: true; the input reads as it did. -/
def linTellsUptoRow : OpenClaim := { program := "ytmioichjhiengaagreat", sum := "e2f4de2bfc87f84d9ed3ea0fdfa2f90835c2e9a33f1fe1820fef7bb6e8e4a05a", func := "easel/easellaw20.LinTells", spec := "linTells", inPlace := ["slices.overlaps[easel/api.Pane]"], unfollowed := true, recurses := true, apart := false, narrowed := true }
def LinTellsUptoSaid : Prop := linTellsUptoRow.holds Tryz.pinned (OpenSpec.upto linTellsSpec)

end Rows
end Go.Proofs.YtmioichjhiengaaGreat
