/-
  No cell of these rows narrows 'for every input' (looked for: loops, veiled, ifaces, maps, wideKeys, modest, calm, conditions, laid).
  DERIVED. THE GIVEN ROWS OF THIS SEAT. 12 by the template 'for every input the law returns true; each argument reads behind the call as it read before'; 0 by the template 'total and deterministic' (their statements: YtkbaijdamddipaaTotals.lean).
  GIVEN WITH THE SEED: the statements are not yours to turn. If you find one false, say at which input.
  Laid BY PROGRAM, IN A SANDBOX (cutbox-rows.mjs): the forced cells as the released guide's own fill.sh prints them over the translation d136e585e3f49e53… (all of the seat's roots in one cut). By AI agents, Wed Nov 11 2026. No macro, syntax, notation, axiom, sorry.
-/
import Derived.Test.YtkbaijdamddipaaChecked
import GoSem.Claim
import GoSem.ClaimJoined
import GoSem.ClaimMapViews
import Derived.JoinedTies
import Derived.KernelRfl
namespace Go.Proofs.Ytkbaijdamddipaa
/- THE CELL 'sum', in the pinned program and in every row, IS THE sha256 OF THE DUMP (.gsa) THAT YtkbaijdamddipaaProg.lean LOADS. Nothing in Lean hashes anything: it is a label: what it is worth is what the hold of that sum in a sandbox is worth. -/
noncomputable def Try.pinned : Pinned := { name := "ytkbaijdamddipaa", sum := "d136e585e3f49e53a851e3871ba7f0cea24c6cc4659101c16d0ba92da56a5ad7", checked := Try.checked }
namespace Rows
def none {H : Type} : Left H := { results := [], args := [] }

/-- 'easellaw04.AggTells': WHATEVER THE INPUT: true; the input reads as it did. -/
def aggTellsSpec : ChangeSpec := { name := "aggTells", fn := fun _ => fun
  | [d1, d2, d3] => { results := [.lit (.bool true)], args := [d1, d2, d3] }
  | _ => none }
def aggTellsRow : OpenClaim := { program := "ytkbaijdamddipaa", sum := "d136e585e3f49e53a851e3871ba7f0cea24c6cc4659101c16d0ba92da56a5ad7", func := "easel/easellaw04.AggTells", spec := "aggTells", apart := false }
def AggTellsSaid : Prop := aggTellsRow.holds Try.pinned (OpenSpec.ofChange aggTellsSpec)

/-- ITS FALSE NEIGHBOUR: 'it returns false'. Refute it at one input. -/
def aggTellsWrong : ChangeSpec := { name := "aggTells", fn := fun _ => fun
  | [d1, d2, d3] => { results := [.lit (.bool false)], args := [d1, d2, d3] }
  | _ => none }
def AggTellsWrongFalsely : Prop := aggTellsRow.holds Try.pinned (OpenSpec.ofChange aggTellsWrong)

/-- 'easellaw04.AggOrder': WHATEVER THE INPUT: true; the input reads as it did. -/
def aggOrderSpec : ChangeSpec := { name := "aggOrder", fn := fun _ => fun
  | [d1, d2] => { results := [.lit (.bool true)], args := [d1, d2] }
  | _ => none }
def aggOrderRow : OpenClaim := { program := "ytkbaijdamddipaa", sum := "d136e585e3f49e53a851e3871ba7f0cea24c6cc4659101c16d0ba92da56a5ad7", func := "easel/easellaw04.AggOrder", spec := "aggOrder", apart := false }
def AggOrderSaid : Prop := aggOrderRow.holds Try.pinned (OpenSpec.ofChange aggOrderSpec)

/-- ITS FALSE NEIGHBOUR: 'it returns false'. Refute it at one input. -/
def aggOrderWrong : ChangeSpec := { name := "aggOrder", fn := fun _ => fun
  | [d1, d2] => { results := [.lit (.bool false)], args := [d1, d2] }
  | _ => none }
def AggOrderWrongFalsely : Prop := aggOrderRow.holds Try.pinned (OpenSpec.ofChange aggOrderWrong)

/-- 'easellaw05.FnvTells': WHATEVER THE INPUT: true; the input reads as it did. -/
def fnvTellsSpec : ChangeSpec := { name := "fnvTells", fn := fun _ => fun
  | [d1, d2] => { results := [.lit (.bool true)], args := [d1, d2] }
  | _ => none }
def fnvTellsRow : OpenClaim := { program := "ytkbaijdamddipaa", sum := "d136e585e3f49e53a851e3871ba7f0cea24c6cc4659101c16d0ba92da56a5ad7", func := "easel/easellaw05.FnvTells", spec := "fnvTells", apart := false }
def FnvTellsSaid : Prop := fnvTellsRow.holds Try.pinned (OpenSpec.ofChange fnvTellsSpec)

/-- ITS FALSE NEIGHBOUR: 'it returns false'. Refute it at one input. -/
def fnvTellsWrong : ChangeSpec := { name := "fnvTells", fn := fun _ => fun
  | [d1, d2] => { results := [.lit (.bool false)], args := [d1, d2] }
  | _ => none }
def FnvTellsWrongFalsely : Prop := fnvTellsRow.holds Try.pinned (OpenSpec.ofChange fnvTellsWrong)

/-- 'easellaw05.FnvGrows': WHATEVER THE INPUT: true; the input reads as it did. -/
def fnvGrowsSpec : ChangeSpec := { name := "fnvGrows", fn := fun _ => fun
  | [d1, d2, d3] => { results := [.lit (.bool true)], args := [d1, d2, d3] }
  | _ => none }
def fnvGrowsRow : OpenClaim := { program := "ytkbaijdamddipaa", sum := "d136e585e3f49e53a851e3871ba7f0cea24c6cc4659101c16d0ba92da56a5ad7", func := "easel/easellaw05.FnvGrows", spec := "fnvGrows", apart := false }
def FnvGrowsSaid : Prop := fnvGrowsRow.holds Try.pinned (OpenSpec.ofChange fnvGrowsSpec)

/-- ITS FALSE NEIGHBOUR: 'it returns false'. Refute it at one input. -/
def fnvGrowsWrong : ChangeSpec := { name := "fnvGrows", fn := fun _ => fun
  | [d1, d2, d3] => { results := [.lit (.bool false)], args := [d1, d2, d3] }
  | _ => none }
def FnvGrowsWrongFalsely : Prop := fnvGrowsRow.holds Try.pinned (OpenSpec.ofChange fnvGrowsWrong)

/-- 'easellaw16.CtlPlays': WHATEVER THE INPUT: true; the input reads as it did. -/
def ctlPlaysSpec : ChangeSpec := { name := "ctlPlays", fn := fun _ => fun
  | [d] => { results := [.lit (.bool true)], args := [d] }
  | _ => none }
def ctlPlaysRow : OpenClaim := { program := "ytkbaijdamddipaa", sum := "d136e585e3f49e53a851e3871ba7f0cea24c6cc4659101c16d0ba92da56a5ad7", func := "easel/easellaw16.CtlPlays", spec := "ctlPlays", apart := false }
def CtlPlaysSaid : Prop := ctlPlaysRow.holds Try.pinned (OpenSpec.ofChange ctlPlaysSpec)

/-- ITS FALSE NEIGHBOUR: 'it returns false'. Refute it at one input. -/
def ctlPlaysWrong : ChangeSpec := { name := "ctlPlays", fn := fun _ => fun
  | [d] => { results := [.lit (.bool false)], args := [d] }
  | _ => none }
def CtlPlaysWrongFalsely : Prop := ctlPlaysRow.holds Try.pinned (OpenSpec.ofChange ctlPlaysWrong)

/-- 'easellaw16.CtlStays': WHATEVER THE INPUT: true; the input reads as it did. -/
def ctlStaysSpec : ChangeSpec := { name := "ctlStays", fn := fun _ => fun
  | [d] => { results := [.lit (.bool true)], args := [d] }
  | _ => none }
def ctlStaysRow : OpenClaim := { program := "ytkbaijdamddipaa", sum := "d136e585e3f49e53a851e3871ba7f0cea24c6cc4659101c16d0ba92da56a5ad7", func := "easel/easellaw16.CtlStays", spec := "ctlStays", apart := false }
def CtlStaysSaid : Prop := ctlStaysRow.holds Try.pinned (OpenSpec.ofChange ctlStaysSpec)

/-- ITS FALSE NEIGHBOUR: 'it returns false'. Refute it at one input. -/
def ctlStaysWrong : ChangeSpec := { name := "ctlStays", fn := fun _ => fun
  | [d] => { results := [.lit (.bool false)], args := [d] }
  | _ => none }
def CtlStaysWrongFalsely : Prop := ctlStaysRow.holds Try.pinned (OpenSpec.ofChange ctlStaysWrong)

/-- 'easellaw01.NumTells': WHATEVER THE INPUT: true; the input reads as it did. -/
def numTellsSpec : ChangeSpec := { name := "numTells", fn := fun _ => fun
  | [d1, d2] => { results := [.lit (.bool true)], args := [d1, d2] }
  | _ => none }
def numTellsRow : OpenClaim := { program := "ytkbaijdamddipaa", sum := "d136e585e3f49e53a851e3871ba7f0cea24c6cc4659101c16d0ba92da56a5ad7", func := "easel/easellaw01.NumTells", spec := "numTells", apart := false }
def NumTellsSaid : Prop := numTellsRow.holds Try.pinned (OpenSpec.ofChange numTellsSpec)

/-- ITS FALSE NEIGHBOUR: 'it returns false'. Refute it at one input. -/
def numTellsWrong : ChangeSpec := { name := "numTells", fn := fun _ => fun
  | [d1, d2] => { results := [.lit (.bool false)], args := [d1, d2] }
  | _ => none }
def NumTellsWrongFalsely : Prop := numTellsRow.holds Try.pinned (OpenSpec.ofChange numTellsWrong)

/-- 'easellaw01.NumBack': WHATEVER THE INPUT: true; the input reads as it did. -/
def numBackSpec : ChangeSpec := { name := "numBack", fn := fun _ => fun
  | [d1, d2] => { results := [.lit (.bool true)], args := [d1, d2] }
  | _ => none }
def numBackRow : OpenClaim := { program := "ytkbaijdamddipaa", sum := "d136e585e3f49e53a851e3871ba7f0cea24c6cc4659101c16d0ba92da56a5ad7", func := "easel/easellaw01.NumBack", spec := "numBack", apart := false }
def NumBackSaid : Prop := numBackRow.holds Try.pinned (OpenSpec.ofChange numBackSpec)

/-- ITS FALSE NEIGHBOUR: 'it returns false'. Refute it at one input. -/
def numBackWrong : ChangeSpec := { name := "numBack", fn := fun _ => fun
  | [d1, d2] => { results := [.lit (.bool false)], args := [d1, d2] }
  | _ => none }
def NumBackWrongFalsely : Prop := numBackRow.holds Try.pinned (OpenSpec.ofChange numBackWrong)

/-- 'easellaw02.SpanTells': WHATEVER THE INPUT: true; the input reads as it did. -/
def spanTellsSpec : ChangeSpec := { name := "spanTells", fn := fun _ => fun
  | [d1, d2, d3, d4, d5] => { results := [.lit (.bool true)], args := [d1, d2, d3, d4, d5] }
  | _ => none }
def spanTellsRow : OpenClaim := { program := "ytkbaijdamddipaa", sum := "d136e585e3f49e53a851e3871ba7f0cea24c6cc4659101c16d0ba92da56a5ad7", func := "easel/easellaw02.SpanTells", spec := "spanTells", apart := false }
def SpanTellsSaid : Prop := spanTellsRow.holds Try.pinned (OpenSpec.ofChange spanTellsSpec)

/-- ITS FALSE NEIGHBOUR: 'it returns false'. Refute it at one input. -/
def spanTellsWrong : ChangeSpec := { name := "spanTells", fn := fun _ => fun
  | [d1, d2, d3, d4, d5] => { results := [.lit (.bool false)], args := [d1, d2, d3, d4, d5] }
  | _ => none }
def SpanTellsWrongFalsely : Prop := spanTellsRow.holds Try.pinned (OpenSpec.ofChange spanTellsWrong)

/-- 'easellaw02.SpanJoins': WHATEVER THE INPUT: true; the input reads as it did. -/
def spanJoinsSpec : ChangeSpec := { name := "spanJoins", fn := fun _ => fun
  | [d1, d2, d3, d4, d5, d6] => { results := [.lit (.bool true)], args := [d1, d2, d3, d4, d5, d6] }
  | _ => none }
def spanJoinsRow : OpenClaim := { program := "ytkbaijdamddipaa", sum := "d136e585e3f49e53a851e3871ba7f0cea24c6cc4659101c16d0ba92da56a5ad7", func := "easel/easellaw02.SpanJoins", spec := "spanJoins", apart := false }
def SpanJoinsSaid : Prop := spanJoinsRow.holds Try.pinned (OpenSpec.ofChange spanJoinsSpec)

/-- ITS FALSE NEIGHBOUR: 'it returns false'. Refute it at one input. -/
def spanJoinsWrong : ChangeSpec := { name := "spanJoins", fn := fun _ => fun
  | [d1, d2, d3, d4, d5, d6] => { results := [.lit (.bool false)], args := [d1, d2, d3, d4, d5, d6] }
  | _ => none }
def SpanJoinsWrongFalsely : Prop := spanJoinsRow.holds Try.pinned (OpenSpec.ofChange spanJoinsWrong)

/-- 'easellaw03.AssignTells': WHATEVER THE INPUT: true; the input reads as it did. -/
def assignTellsSpec : ChangeSpec := { name := "assignTells", fn := fun _ => fun
  | [d1, d2] => { results := [.lit (.bool true)], args := [d1, d2] }
  | _ => none }
def assignTellsRow : OpenClaim := { program := "ytkbaijdamddipaa", sum := "d136e585e3f49e53a851e3871ba7f0cea24c6cc4659101c16d0ba92da56a5ad7", func := "easel/easellaw03.AssignTells", spec := "assignTells", apart := false }
def AssignTellsSaid : Prop := assignTellsRow.holds Try.pinned (OpenSpec.ofChange assignTellsSpec)

/-- ITS FALSE NEIGHBOUR: 'it returns false'. Refute it at one input. -/
def assignTellsWrong : ChangeSpec := { name := "assignTells", fn := fun _ => fun
  | [d1, d2] => { results := [.lit (.bool false)], args := [d1, d2] }
  | _ => none }
def AssignTellsWrongFalsely : Prop := assignTellsRow.holds Try.pinned (OpenSpec.ofChange assignTellsWrong)

/-- 'easellaw03.AssignHas': WHATEVER THE INPUT: true; the input reads as it did. -/
def assignHasSpec : ChangeSpec := { name := "assignHas", fn := fun _ => fun
  | [d1, d2, d3] => { results := [.lit (.bool true)], args := [d1, d2, d3] }
  | _ => none }
def assignHasRow : OpenClaim := { program := "ytkbaijdamddipaa", sum := "d136e585e3f49e53a851e3871ba7f0cea24c6cc4659101c16d0ba92da56a5ad7", func := "easel/easellaw03.AssignHas", spec := "assignHas", apart := false }
def AssignHasSaid : Prop := assignHasRow.holds Try.pinned (OpenSpec.ofChange assignHasSpec)

/-- ITS FALSE NEIGHBOUR: 'it returns false'. Refute it at one input. -/
def assignHasWrong : ChangeSpec := { name := "assignHas", fn := fun _ => fun
  | [d1, d2, d3] => { results := [.lit (.bool false)], args := [d1, d2, d3] }
  | _ => none }
def AssignHasWrongFalsely : Prop := assignHasRow.holds Try.pinned (OpenSpec.ofChange assignHasWrong)

/- THE SECOND FORM. 'bulk': how many values and letters a reading holds, each counted each time it is reached (what is shared counts as often as it is met; a slice's spare places count too). A statement '..UptoSaid' is the law's where the arguments, and the package variables that the reading takes, are together of bulk at most 1048576: NARROWER than '..Said'. Prove '..Said' where nothing that the law and all that it calls make is longer than what came in: it says more and counts as full. Else prove '..UptoSaid'. A law counts once. -/
mutual
def uptoBulk {H : Type} : DataW H → Nat
  | .lit (.string bytes) => bytes.length + 1
  | .lit _ => 1
  | .nil => 1
  | .ptr d => uptoBulk d + 1
  | .slice elems spare => uptoBulkAll elems + uptoBulkAll spare + 1
  | .agg parts => uptoBulkAll parts + 1
  | .iface _ d => uptoBulk d + 1
  | .map entries => uptoBulkEntries entries + 1
  | .held _ => 1
def uptoBulkAll {H : Type} : List (DataW H) → Nat
  | [] => 0
  | d :: r => uptoBulk d + uptoBulkAll r
def uptoBulkEntries {H : Type} : List (Lit × DataW H) → Nat
  | [] => 0
  | x :: r => uptoBulkEntry x + uptoBulkEntries r
def uptoBulkEntry {H : Type} : Lit × DataW H → Nat
  | (.string bytes, d) => bytes.length + uptoBulk d + 1
  | (_, d) => uptoBulk d + 1
 end
def uptoSmall : (H : Type) → List (DataW H) → Bool := fun _ ds => decide (uptoBulkAll ds ≤ 1048576)
def OpenSpec.upto (s : _root_.Go.ChangeSpec) : _root_.Go.OpenSpec := { _root_.Go.OpenSpec.ofChange s with cond := some uptoSmall }

/-- 'easellaw04.AggTells', WHERE WHAT IT READS IS OF BULK AT MOST 1048576: true; the input reads as it did. -/
def aggTellsUptoRow : OpenClaim := { program := "ytkbaijdamddipaa", sum := "d136e585e3f49e53a851e3871ba7f0cea24c6cc4659101c16d0ba92da56a5ad7", func := "easel/easellaw04.AggTells", spec := "aggTells", apart := false, narrowed := true }
def AggTellsUptoSaid : Prop := aggTellsUptoRow.holds Try.pinned (OpenSpec.upto aggTellsSpec)

/-- 'easellaw04.AggOrder', WHERE WHAT IT READS IS OF BULK AT MOST 1048576: true; the input reads as it did. -/
def aggOrderUptoRow : OpenClaim := { program := "ytkbaijdamddipaa", sum := "d136e585e3f49e53a851e3871ba7f0cea24c6cc4659101c16d0ba92da56a5ad7", func := "easel/easellaw04.AggOrder", spec := "aggOrder", apart := false, narrowed := true }
def AggOrderUptoSaid : Prop := aggOrderUptoRow.holds Try.pinned (OpenSpec.upto aggOrderSpec)

/-- 'easellaw05.FnvTells', WHERE WHAT IT READS IS OF BULK AT MOST 1048576: true; the input reads as it did. -/
def fnvTellsUptoRow : OpenClaim := { program := "ytkbaijdamddipaa", sum := "d136e585e3f49e53a851e3871ba7f0cea24c6cc4659101c16d0ba92da56a5ad7", func := "easel/easellaw05.FnvTells", spec := "fnvTells", apart := false, narrowed := true }
def FnvTellsUptoSaid : Prop := fnvTellsUptoRow.holds Try.pinned (OpenSpec.upto fnvTellsSpec)

/-- 'easellaw05.FnvGrows', WHERE WHAT IT READS IS OF BULK AT MOST 1048576: true; the input reads as it did. -/
def fnvGrowsUptoRow : OpenClaim := { program := "ytkbaijdamddipaa", sum := "d136e585e3f49e53a851e3871ba7f0cea24c6cc4659101c16d0ba92da56a5ad7", func := "easel/easellaw05.FnvGrows", spec := "fnvGrows", apart := false, narrowed := true }
def FnvGrowsUptoSaid : Prop := fnvGrowsUptoRow.holds Try.pinned (OpenSpec.upto fnvGrowsSpec)

/-- 'easellaw16.CtlPlays', WHERE WHAT IT READS IS OF BULK AT MOST 1048576: true; the input reads as it did. -/
def ctlPlaysUptoRow : OpenClaim := { program := "ytkbaijdamddipaa", sum := "d136e585e3f49e53a851e3871ba7f0cea24c6cc4659101c16d0ba92da56a5ad7", func := "easel/easellaw16.CtlPlays", spec := "ctlPlays", apart := false, narrowed := true }
def CtlPlaysUptoSaid : Prop := ctlPlaysUptoRow.holds Try.pinned (OpenSpec.upto ctlPlaysSpec)

/-- 'easellaw16.CtlStays', WHERE WHAT IT READS IS OF BULK AT MOST 1048576: true; the input reads as it did. -/
def ctlStaysUptoRow : OpenClaim := { program := "ytkbaijdamddipaa", sum := "d136e585e3f49e53a851e3871ba7f0cea24c6cc4659101c16d0ba92da56a5ad7", func := "easel/easellaw16.CtlStays", spec := "ctlStays", apart := false, narrowed := true }
def CtlStaysUptoSaid : Prop := ctlStaysUptoRow.holds Try.pinned (OpenSpec.upto ctlStaysSpec)

/-- 'easellaw01.NumTells', WHERE WHAT IT READS IS OF BULK AT MOST 1048576: true; the input reads as it did. -/
def numTellsUptoRow : OpenClaim := { program := "ytkbaijdamddipaa", sum := "d136e585e3f49e53a851e3871ba7f0cea24c6cc4659101c16d0ba92da56a5ad7", func := "easel/easellaw01.NumTells", spec := "numTells", apart := false, narrowed := true }
def NumTellsUptoSaid : Prop := numTellsUptoRow.holds Try.pinned (OpenSpec.upto numTellsSpec)

/-- 'easellaw01.NumBack', WHERE WHAT IT READS IS OF BULK AT MOST 1048576: true; the input reads as it did. -/
def numBackUptoRow : OpenClaim := { program := "ytkbaijdamddipaa", sum := "d136e585e3f49e53a851e3871ba7f0cea24c6cc4659101c16d0ba92da56a5ad7", func := "easel/easellaw01.NumBack", spec := "numBack", apart := false, narrowed := true }
def NumBackUptoSaid : Prop := numBackUptoRow.holds Try.pinned (OpenSpec.upto numBackSpec)

/-- 'easellaw02.SpanTells', WHERE WHAT IT READS IS OF BULK AT MOST 1048576: true; the input reads as it did. -/
def spanTellsUptoRow : OpenClaim := { program := "ytkbaijdamddipaa", sum := "d136e585e3f49e53a851e3871ba7f0cea24c6cc4659101c16d0ba92da56a5ad7", func := "easel/easellaw02.SpanTells", spec := "spanTells", apart := false, narrowed := true }
def SpanTellsUptoSaid : Prop := spanTellsUptoRow.holds Try.pinned (OpenSpec.upto spanTellsSpec)

/-- 'easellaw02.SpanJoins', WHERE WHAT IT READS IS OF BULK AT MOST 1048576: true; the input reads as it did. -/
def spanJoinsUptoRow : OpenClaim := { program := "ytkbaijdamddipaa", sum := "d136e585e3f49e53a851e3871ba7f0cea24c6cc4659101c16d0ba92da56a5ad7", func := "easel/easellaw02.SpanJoins", spec := "spanJoins", apart := false, narrowed := true }
def SpanJoinsUptoSaid : Prop := spanJoinsUptoRow.holds Try.pinned (OpenSpec.upto spanJoinsSpec)

/-- 'easellaw03.AssignTells', WHERE WHAT IT READS IS OF BULK AT MOST 1048576: true; the input reads as it did. -/
def assignTellsUptoRow : OpenClaim := { program := "ytkbaijdamddipaa", sum := "d136e585e3f49e53a851e3871ba7f0cea24c6cc4659101c16d0ba92da56a5ad7", func := "easel/easellaw03.AssignTells", spec := "assignTells", apart := false, narrowed := true }
def AssignTellsUptoSaid : Prop := assignTellsUptoRow.holds Try.pinned (OpenSpec.upto assignTellsSpec)

/-- 'easellaw03.AssignHas', WHERE WHAT IT READS IS OF BULK AT MOST 1048576: true; the input reads as it did. -/
def assignHasUptoRow : OpenClaim := { program := "ytkbaijdamddipaa", sum := "d136e585e3f49e53a851e3871ba7f0cea24c6cc4659101c16d0ba92da56a5ad7", func := "easel/easellaw03.AssignHas", spec := "assignHas", apart := false, narrowed := true }
def AssignHasUptoSaid : Prop := assignHasUptoRow.holds Try.pinned (OpenSpec.upto assignHasSpec)

end Rows
end Go.Proofs.Ytkbaijdamddipaa
