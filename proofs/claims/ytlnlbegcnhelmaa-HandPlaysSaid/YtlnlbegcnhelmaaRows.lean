/-
  No cell of these rows narrows 'for every input' (looked for: loops, veiled, ifaces, maps, wideKeys, modest, calm, conditions, laid).
  DERIVED. THE GIVEN ROWS OF THIS SEAT. 11 by the template 'for every input the law returns true; each argument reads behind the call as it read before'; 0 by the template 'total and deterministic' (their statements: YtlnlbegcnhelmaaTotals.lean).
  GIVEN WITH THE SEED: the statements are not yours to turn. If you find one false, say at which input.
  Laid BY PROGRAM, IN A SANDBOX (cutbox-rows.mjs): the forced cells as the released guide's own fill.sh prints them over the translation daf041be6a6e45b0… (all of the seat's roots in one cut). By AI agents, Wed Nov 11 2026. No macro, syntax, notation, axiom, sorry.
-/
import Derived.Test.YtlnlbegcnhelmaaChecked
import GoSem.Claim
import GoSem.ClaimJoined
import GoSem.ClaimMapViews
import Derived.JoinedTies
import Derived.KernelRfl
namespace Go.Proofs.Ytlnlbegcnhelmaa
/- THE CELL 'sum', in the pinned program and in every row, IS THE sha256 OF THE DUMP (.gsa) THAT YtlnlbegcnhelmaaProg.lean LOADS. Nothing in Lean hashes anything: it is a label: what it is worth is what the hold of that sum in a sandbox is worth. -/
noncomputable def Try.pinned : Pinned := { name := "ytlnlbegcnhelmaa", sum := "daf041be6a6e45b046f70b0b1716fdb5edfcb5d3dfcadb3d8f53d74c6ef1d884", checked := Try.checked }
namespace Rows
def none {H : Type} : Left H := { results := [], args := [] }

/-- 'easellaw10.BoxKeeps': WHATEVER THE INPUT: true; the input reads as it did. -/
def boxKeepsSpec : ChangeSpec := { name := "boxKeeps", fn := fun _ => fun
  | [d1, d2, d3] => { results := [.lit (.bool true)], args := [d1, d2, d3] }
  | _ => none }
def boxKeepsRow : OpenClaim := { program := "ytlnlbegcnhelmaa", sum := "daf041be6a6e45b046f70b0b1716fdb5edfcb5d3dfcadb3d8f53d74c6ef1d884", func := "easel/easellaw10.BoxKeeps", spec := "boxKeeps", apart := false }
def BoxKeepsSaid : Prop := boxKeepsRow.holds Try.pinned (OpenSpec.ofChange boxKeepsSpec)

/-- ITS FALSE NEIGHBOUR: 'it returns false'. Refute it at one input. -/
def boxKeepsWrong : ChangeSpec := { name := "boxKeeps", fn := fun _ => fun
  | [d1, d2, d3] => { results := [.lit (.bool false)], args := [d1, d2, d3] }
  | _ => none }
def BoxKeepsWrongFalsely : Prop := boxKeepsRow.holds Try.pinned (OpenSpec.ofChange boxKeepsWrong)

/-- 'easellaw10.BoxPlays': WHATEVER THE INPUT: true; the input reads as it did. -/
def boxPlaysSpec : ChangeSpec := { name := "boxPlays", fn := fun _ => fun
  | [d1, d2] => { results := [.lit (.bool true)], args := [d1, d2] }
  | _ => none }
def boxPlaysRow : OpenClaim := { program := "ytlnlbegcnhelmaa", sum := "daf041be6a6e45b046f70b0b1716fdb5edfcb5d3dfcadb3d8f53d74c6ef1d884", func := "easel/easellaw10.BoxPlays", spec := "boxPlays", apart := false }
def BoxPlaysSaid : Prop := boxPlaysRow.holds Try.pinned (OpenSpec.ofChange boxPlaysSpec)

/-- ITS FALSE NEIGHBOUR: 'it returns false'. Refute it at one input. -/
def boxPlaysWrong : ChangeSpec := { name := "boxPlays", fn := fun _ => fun
  | [d1, d2] => { results := [.lit (.bool false)], args := [d1, d2] }
  | _ => none }
def BoxPlaysWrongFalsely : Prop := boxPlaysRow.holds Try.pinned (OpenSpec.ofChange boxPlaysWrong)

/-- 'easellaw11.OwnerPlays': WHATEVER THE INPUT: true; the input reads as it did. -/
def ownerPlaysSpec : ChangeSpec := { name := "ownerPlays", fn := fun _ => fun
  | [d1, d2, d3] => { results := [.lit (.bool true)], args := [d1, d2, d3] }
  | _ => none }
def ownerPlaysRow : OpenClaim := { program := "ytlnlbegcnhelmaa", sum := "daf041be6a6e45b046f70b0b1716fdb5edfcb5d3dfcadb3d8f53d74c6ef1d884", func := "easel/easellaw11.OwnerPlays", spec := "ownerPlays", apart := false }
def OwnerPlaysSaid : Prop := ownerPlaysRow.holds Try.pinned (OpenSpec.ofChange ownerPlaysSpec)

/-- ITS FALSE NEIGHBOUR: 'it returns false'. Refute it at one input. -/
def ownerPlaysWrong : ChangeSpec := { name := "ownerPlays", fn := fun _ => fun
  | [d1, d2, d3] => { results := [.lit (.bool false)], args := [d1, d2, d3] }
  | _ => none }
def OwnerPlaysWrongFalsely : Prop := ownerPlaysRow.holds Try.pinned (OpenSpec.ofChange ownerPlaysWrong)

/-- 'easellaw11.OwnerOne': WHATEVER THE INPUT: true; the input reads as it did. -/
def ownerOneSpec : ChangeSpec := { name := "ownerOne", fn := fun _ => fun
  | [d1, d2, d3] => { results := [.lit (.bool true)], args := [d1, d2, d3] }
  | _ => none }
def ownerOneRow : OpenClaim := { program := "ytlnlbegcnhelmaa", sum := "daf041be6a6e45b046f70b0b1716fdb5edfcb5d3dfcadb3d8f53d74c6ef1d884", func := "easel/easellaw11.OwnerOne", spec := "ownerOne", apart := false }
def OwnerOneSaid : Prop := ownerOneRow.holds Try.pinned (OpenSpec.ofChange ownerOneSpec)

/-- ITS FALSE NEIGHBOUR: 'it returns false'. Refute it at one input. -/
def ownerOneWrong : ChangeSpec := { name := "ownerOne", fn := fun _ => fun
  | [d1, d2, d3] => { results := [.lit (.bool false)], args := [d1, d2, d3] }
  | _ => none }
def OwnerOneWrongFalsely : Prop := ownerOneRow.holds Try.pinned (OpenSpec.ofChange ownerOneWrong)

/-- 'easellaw12.CallGroup': WHATEVER THE INPUT: true; the input reads as it did. -/
def callGroupSpec : ChangeSpec := { name := "callGroup", fn := fun _ => fun
  | [d1, d2, d3, d4] => { results := [.lit (.bool true)], args := [d1, d2, d3, d4] }
  | _ => none }
def callGroupRow : OpenClaim := { program := "ytlnlbegcnhelmaa", sum := "daf041be6a6e45b046f70b0b1716fdb5edfcb5d3dfcadb3d8f53d74c6ef1d884", func := "easel/easellaw12.CallGroup", spec := "callGroup", apart := false }
def CallGroupSaid : Prop := callGroupRow.holds Try.pinned (OpenSpec.ofChange callGroupSpec)

/-- ITS FALSE NEIGHBOUR: 'it returns false'. Refute it at one input. -/
def callGroupWrong : ChangeSpec := { name := "callGroup", fn := fun _ => fun
  | [d1, d2, d3, d4] => { results := [.lit (.bool false)], args := [d1, d2, d3, d4] }
  | _ => none }
def CallGroupWrongFalsely : Prop := callGroupRow.holds Try.pinned (OpenSpec.ofChange callGroupWrong)

/-- 'easellaw12.CallTells': WHATEVER THE INPUT: true; the input reads as it did. -/
def callTellsSpec : ChangeSpec := { name := "callTells", fn := fun _ => fun
  | [d1, d2, d3, d4] => { results := [.lit (.bool true)], args := [d1, d2, d3, d4] }
  | _ => none }
def callTellsRow : OpenClaim := { program := "ytlnlbegcnhelmaa", sum := "daf041be6a6e45b046f70b0b1716fdb5edfcb5d3dfcadb3d8f53d74c6ef1d884", func := "easel/easellaw12.CallTells", spec := "callTells", apart := false }
def CallTellsSaid : Prop := callTellsRow.holds Try.pinned (OpenSpec.ofChange callTellsSpec)

/-- ITS FALSE NEIGHBOUR: 'it returns false'. Refute it at one input. -/
def callTellsWrong : ChangeSpec := { name := "callTells", fn := fun _ => fun
  | [d1, d2, d3, d4] => { results := [.lit (.bool false)], args := [d1, d2, d3, d4] }
  | _ => none }
def CallTellsWrongFalsely : Prop := callTellsRow.holds Try.pinned (OpenSpec.ofChange callTellsWrong)

/-- 'easellaw15.HandPlays': WHATEVER THE INPUT: true; the input reads as it did. -/
def handPlaysSpec : ChangeSpec := { name := "handPlays", fn := fun _ => fun
  | [d1, d2, d3, d4, d5] => { results := [.lit (.bool true)], args := [d1, d2, d3, d4, d5] }
  | _ => none }
def handPlaysRow : OpenClaim := { program := "ytlnlbegcnhelmaa", sum := "daf041be6a6e45b046f70b0b1716fdb5edfcb5d3dfcadb3d8f53d74c6ef1d884", func := "easel/easellaw15.HandPlays", spec := "handPlays", apart := false }
def HandPlaysSaid : Prop := handPlaysRow.holds Try.pinned (OpenSpec.ofChange handPlaysSpec)

/-- ITS FALSE NEIGHBOUR: 'it returns false'. Refute it at one input. -/
def handPlaysWrong : ChangeSpec := { name := "handPlays", fn := fun _ => fun
  | [d1, d2, d3, d4, d5] => { results := [.lit (.bool false)], args := [d1, d2, d3, d4, d5] }
  | _ => none }
def HandPlaysWrongFalsely : Prop := handPlaysRow.holds Try.pinned (OpenSpec.ofChange handPlaysWrong)

/-- 'easellaw06.TimerRises': WHATEVER THE INPUT: true; the input reads as it did. -/
def timerRisesSpec : ChangeSpec := { name := "timerRises", fn := fun _ => fun
  | [d1, d2, d3] => { results := [.lit (.bool true)], args := [d1, d2, d3] }
  | _ => none }
def timerRisesRow : OpenClaim := { program := "ytlnlbegcnhelmaa", sum := "daf041be6a6e45b046f70b0b1716fdb5edfcb5d3dfcadb3d8f53d74c6ef1d884", func := "easel/easellaw06.TimerRises", spec := "timerRises", unfollowed := true, recurses := true, apart := false }
def TimerRisesSaid : Prop := timerRisesRow.holds Try.pinned (OpenSpec.ofChange timerRisesSpec)

/-- ITS FALSE NEIGHBOUR: 'it returns false'. Refute it at one input. -/
def timerRisesWrong : ChangeSpec := { name := "timerRises", fn := fun _ => fun
  | [d1, d2, d3] => { results := [.lit (.bool false)], args := [d1, d2, d3] }
  | _ => none }
def TimerRisesWrongFalsely : Prop := timerRisesRow.holds Try.pinned (OpenSpec.ofChange timerRisesWrong)

/-- 'easellaw06.TimerPlays': WHATEVER THE INPUT: true; the input reads as it did. -/
def timerPlaysSpec : ChangeSpec := { name := "timerPlays", fn := fun _ => fun
  | [d1, d2] => { results := [.lit (.bool true)], args := [d1, d2] }
  | _ => none }
def timerPlaysRow : OpenClaim := { program := "ytlnlbegcnhelmaa", sum := "daf041be6a6e45b046f70b0b1716fdb5edfcb5d3dfcadb3d8f53d74c6ef1d884", func := "easel/easellaw06.TimerPlays", spec := "timerPlays", unfollowed := true, recurses := true, apart := false }
def TimerPlaysSaid : Prop := timerPlaysRow.holds Try.pinned (OpenSpec.ofChange timerPlaysSpec)

/-- ITS FALSE NEIGHBOUR: 'it returns false'. Refute it at one input. -/
def timerPlaysWrong : ChangeSpec := { name := "timerPlays", fn := fun _ => fun
  | [d1, d2] => { results := [.lit (.bool false)], args := [d1, d2] }
  | _ => none }
def TimerPlaysWrongFalsely : Prop := timerPlaysRow.holds Try.pinned (OpenSpec.ofChange timerPlaysWrong)

/-- 'easellaw19.HistTells': WHATEVER THE INPUT: true; the input reads as it did. -/
def histTellsSpec : ChangeSpec := { name := "histTells", fn := fun _ => fun
  | [d] => { results := [.lit (.bool true)], args := [d] }
  | _ => none }
def histTellsRow : OpenClaim := { program := "ytlnlbegcnhelmaa", sum := "daf041be6a6e45b046f70b0b1716fdb5edfcb5d3dfcadb3d8f53d74c6ef1d884", func := "easel/easellaw19.HistTells", spec := "histTells", unfollowed := true, recurses := true, apart := false }
def HistTellsSaid : Prop := histTellsRow.holds Try.pinned (OpenSpec.ofChange histTellsSpec)

/-- ITS FALSE NEIGHBOUR: 'it returns false'. Refute it at one input. -/
def histTellsWrong : ChangeSpec := { name := "histTells", fn := fun _ => fun
  | [d] => { results := [.lit (.bool false)], args := [d] }
  | _ => none }
def HistTellsWrongFalsely : Prop := histTellsRow.holds Try.pinned (OpenSpec.ofChange histTellsWrong)

/-- 'easellaw19.HistOrder': WHATEVER THE INPUT: true; the input reads as it did. -/
def histOrderSpec : ChangeSpec := { name := "histOrder", fn := fun _ => fun
  | [d] => { results := [.lit (.bool true)], args := [d] }
  | _ => none }
def histOrderRow : OpenClaim := { program := "ytlnlbegcnhelmaa", sum := "daf041be6a6e45b046f70b0b1716fdb5edfcb5d3dfcadb3d8f53d74c6ef1d884", func := "easel/easellaw19.HistOrder", spec := "histOrder", unfollowed := true, recurses := true, apart := false }
def HistOrderSaid : Prop := histOrderRow.holds Try.pinned (OpenSpec.ofChange histOrderSpec)

/-- ITS FALSE NEIGHBOUR: 'it returns false'. Refute it at one input. -/
def histOrderWrong : ChangeSpec := { name := "histOrder", fn := fun _ => fun
  | [d] => { results := [.lit (.bool false)], args := [d] }
  | _ => none }
def HistOrderWrongFalsely : Prop := histOrderRow.holds Try.pinned (OpenSpec.ofChange histOrderWrong)

/- THE SECOND FORM. 'bulk': how many values and letters a reading holds, each counted each time it is reached (what is shared counts as often as it is met; a slice's spare places count too). A statement '..UptoSaid' is the law's where the arguments, and the package variables that the reading takes, are together of bulk at most 1048576: NARROWER than '..Said'. Prove '..Said' where nothing that the law and all that it calls make is longer than what came in: it says more and counts as full. Else prove '..UptoSaid'. A law counts once. -/
mutual
def uptoBulk {H : Type} : DataW H → Nat
  | .lit (.string bytes) => bytes.length + 1
  | .lit _ => 1
  | .nil => 1
  | .ptr d => uptoBulk d + 1
  | .slice elems spare => uptoBulkAll elems + uptoBulkAll spare + 1
  | .agg parts => uptoBulkAll parts + 1
  | .iface _ d => uptoBulk d + 1
  | .map entries => uptoBulkEntries entries + 1
  | .held _ => 1
def uptoBulkAll {H : Type} : List (DataW H) → Nat
  | [] => 0
  | d :: r => uptoBulk d + uptoBulkAll r
def uptoBulkEntries {H : Type} : List (Lit × DataW H) → Nat
  | [] => 0
  | x :: r => uptoBulkEntry x + uptoBulkEntries r
def uptoBulkEntry {H : Type} : Lit × DataW H → Nat
  | (.string bytes, d) => bytes.length + uptoBulk d + 1
  | (_, d) => uptoBulk d + 1
 end
def uptoSmall : (H : Type) → List (DataW H) → Bool := fun _ ds => decide (uptoBulkAll ds ≤ 1048576)
def OpenSpec.upto (s : _root_.Go.ChangeSpec) : _root_.Go.OpenSpec := { _root_.Go.OpenSpec.ofChange s with cond := some uptoSmall }

/-- 'easellaw10.BoxKeeps', WHERE WHAT IT READS IS OF BULK AT MOST 1048576: true; the input reads as it did. -/
def boxKeepsUptoRow : OpenClaim := { program := "ytlnlbegcnhelmaa", sum := "daf041be6a6e45b046f70b0b1716fdb5edfcb5d3dfcadb3d8f53d74c6ef1d884", func := "easel/easellaw10.BoxKeeps", spec := "boxKeeps", apart := false, narrowed := true }
def BoxKeepsUptoSaid : Prop := boxKeepsUptoRow.holds Try.pinned (OpenSpec.upto boxKeepsSpec)

/-- 'easellaw10.BoxPlays', WHERE WHAT IT READS IS OF BULK AT MOST 1048576: true; the input reads as it did. -/
def boxPlaysUptoRow : OpenClaim := { program := "ytlnlbegcnhelmaa", sum := "daf041be6a6e45b046f70b0b1716fdb5edfcb5d3dfcadb3d8f53d74c6ef1d884", func := "easel/easellaw10.BoxPlays", spec := "boxPlays", apart := false, narrowed := true }
def BoxPlaysUptoSaid : Prop := boxPlaysUptoRow.holds Try.pinned (OpenSpec.upto boxPlaysSpec)

/-- 'easellaw11.OwnerPlays', WHERE WHAT IT READS IS OF BULK AT MOST 1048576: true; the input reads as it did. -/
def ownerPlaysUptoRow : OpenClaim := { program := "ytlnlbegcnhelmaa", sum := "daf041be6a6e45b046f70b0b1716fdb5edfcb5d3dfcadb3d8f53d74c6ef1d884", func := "easel/easellaw11.OwnerPlays", spec := "ownerPlays", apart := false, narrowed := true }
def OwnerPlaysUptoSaid : Prop := ownerPlaysUptoRow.holds Try.pinned (OpenSpec.upto ownerPlaysSpec)

/-- 'easellaw11.OwnerOne', WHERE WHAT IT READS IS OF BULK AT MOST 1048576: true; the input reads as it did. -/
def ownerOneUptoRow : OpenClaim := { program := "ytlnlbegcnhelmaa", sum := "daf041be6a6e45b046f70b0b1716fdb5edfcb5d3dfcadb3d8f53d74c6ef1d884", func := "easel/easellaw11.OwnerOne", spec := "ownerOne", apart := false, narrowed := true }
def OwnerOneUptoSaid : Prop := ownerOneUptoRow.holds Try.pinned (OpenSpec.upto ownerOneSpec)

/-- 'easellaw12.CallGroup', WHERE WHAT IT READS IS OF BULK AT MOST 1048576: true; the input reads as it did. -/
def callGroupUptoRow : OpenClaim := { program := "ytlnlbegcnhelmaa", sum := "daf041be6a6e45b046f70b0b1716fdb5edfcb5d3dfcadb3d8f53d74c6ef1d884", func := "easel/easellaw12.CallGroup", spec := "callGroup", apart := false, narrowed := true }
def CallGroupUptoSaid : Prop := callGroupUptoRow.holds Try.pinned (OpenSpec.upto callGroupSpec)

/-- 'easellaw12.CallTells', WHERE WHAT IT READS IS OF BULK AT MOST 1048576: true; the input reads as it did. -/
def callTellsUptoRow : OpenClaim := { program := "ytlnlbegcnhelmaa", sum := "daf041be6a6e45b046f70b0b1716fdb5edfcb5d3dfcadb3d8f53d74c6ef1d884", func := "easel/easellaw12.CallTells", spec := "callTells", apart := false, narrowed := true }
def CallTellsUptoSaid : Prop := callTellsUptoRow.holds Try.pinned (OpenSpec.upto callTellsSpec)

/-- 'easellaw15.HandPlays', WHERE WHAT IT READS IS OF BULK AT MOST 1048576: true; the input reads as it did. -/
def handPlaysUptoRow : OpenClaim := { program := "ytlnlbegcnhelmaa", sum := "daf041be6a6e45b046f70b0b1716fdb5edfcb5d3dfcadb3d8f53d74c6ef1d884", func := "easel/easellaw15.HandPlays", spec := "handPlays", apart := false, narrowed := true }
def HandPlaysUptoSaid : Prop := handPlaysUptoRow.holds Try.pinned (OpenSpec.upto handPlaysSpec)

/-- 'easellaw06.TimerRises', WHERE WHAT IT READS IS OF BULK AT MOST 1048576: true; the input reads as it did. -/
def timerRisesUptoRow : OpenClaim := { program := "ytlnlbegcnhelmaa", sum := "daf041be6a6e45b046f70b0b1716fdb5edfcb5d3dfcadb3d8f53d74c6ef1d884", func := "easel/easellaw06.TimerRises", spec := "timerRises", unfollowed := true, recurses := true, apart := false, narrowed := true }
def TimerRisesUptoSaid : Prop := timerRisesUptoRow.holds Try.pinned (OpenSpec.upto timerRisesSpec)

/-- 'easellaw06.TimerPlays', WHERE WHAT IT READS IS OF BULK AT MOST 1048576: true; the input reads as it did. -/
def timerPlaysUptoRow : OpenClaim := { program := "ytlnlbegcnhelmaa", sum := "daf041be6a6e45b046f70b0b1716fdb5edfcb5d3dfcadb3d8f53d74c6ef1d884", func := "easel/easellaw06.TimerPlays", spec := "timerPlays", unfollowed := true, recurses := true, apart := false, narrowed := true }
def TimerPlaysUptoSaid : Prop := timerPlaysUptoRow.holds Try.pinned (OpenSpec.upto timerPlaysSpec)

/-- 'easellaw19.HistTells', WHERE WHAT IT READS IS OF BULK AT MOST 1048576: true; the input reads as it did. -/
def histTellsUptoRow : OpenClaim := { program := "ytlnlbegcnhelmaa", sum := "daf041be6a6e45b046f70b0b1716fdb5edfcb5d3dfcadb3d8f53d74c6ef1d884", func := "easel/easellaw19.HistTells", spec := "histTells", unfollowed := true, recurses := true, apart := false, narrowed := true }
def HistTellsUptoSaid : Prop := histTellsUptoRow.holds Try.pinned (OpenSpec.upto histTellsSpec)

/-- 'easellaw19.HistOrder', WHERE WHAT IT READS IS OF BULK AT MOST 1048576: true; the input reads as it did. -/
def histOrderUptoRow : OpenClaim := { program := "ytlnlbegcnhelmaa", sum := "daf041be6a6e45b046f70b0b1716fdb5edfcb5d3dfcadb3d8f53d74c6ef1d884", func := "easel/easellaw19.HistOrder", spec := "histOrder", unfollowed := true, recurses := true, apart := false, narrowed := true }
def HistOrderUptoSaid : Prop := histOrderUptoRow.holds Try.pinned (OpenSpec.upto histOrderSpec)

end Rows
end Go.Proofs.Ytlnlbegcnhelmaa
