/-
  No cell of these rows narrows 'for every input' (looked for: loops, veiled, ifaces, maps, wideKeys, modest, calm, conditions, laid).
  DERIVED. THE GIVEN ROWS OF THIS SEAT. 6 by the template 'for every input the law returns true; each argument reads behind the call as it read before'; 0 by the template 'total and deterministic' (their statements: YtmioichjhiengaaTotals.lean).
  GIVEN WITH THE SEED: the statements are not yours to turn. If you find one false, say at which input.
  Laid BY PROGRAM, IN A SANDBOX (cutbox-rows.mjs): the forced cells as the released guide's own fill.sh prints them over the translation db0c2a29b41428d5… (all of the seat's roots in one cut). By AI agents, Wed Nov 11 2026. No macro, syntax, notation, axiom, sorry.
-/
import Derived.Test.YtmioichjhiengaaChecked
import GoSem.Claim
import GoSem.ClaimJoined
import GoSem.ClaimMapViews
import Derived.JoinedTies
import Derived.KernelRfl
namespace Go.Proofs.Ytmioichjhiengaa
/- THE CELL 'sum', in the pinned program and in every row, IS THE sha256 OF THE DUMP (.gsa) THAT YtmioichjhiengaaProg.lean LOADS. Nothing in Lean hashes anything: it is a label: what it is worth is what the hold of that sum in a sandbox is worth. -/
noncomputable def Try.pinned : Pinned := { name := "ytmioichjhiengaa", sum := "db0c2a29b41428d5c8bb5beef7b7ab4d53bfb0f9587d8d1764ad1bc2dc1a4f7e", checked := Try.checked }
namespace Rows
def none {H : Type} : Left H := { results := [], args := [] }

/-- 'easellaw09.OutlogPlays': WHATEVER THE INPUT: true; the input reads as it did. -/
def outlogPlaysSpec : ChangeSpec := { name := "outlogPlays", fn := fun _ => fun
  | [d1, d2] => { results := [.lit (.bool true)], args := [d1, d2] }
  | _ => none }
def outlogPlaysRow : OpenClaim := { program := "ytmioichjhiengaa", sum := "db0c2a29b41428d5c8bb5beef7b7ab4d53bfb0f9587d8d1764ad1bc2dc1a4f7e", func := "easel/easellaw09.OutlogPlays", spec := "outlogPlays", unfollowed := true, recurses := true, apart := false }
def OutlogPlaysSaid : Prop := outlogPlaysRow.holds Try.pinned (OpenSpec.ofChange outlogPlaysSpec)

/-- ITS FALSE NEIGHBOUR: 'it returns false'. Refute it at one input. -/
def outlogPlaysWrong : ChangeSpec := { name := "outlogPlays", fn := fun _ => fun
  | [d1, d2] => { results := [.lit (.bool false)], args := [d1, d2] }
  | _ => none }
def OutlogPlaysWrongFalsely : Prop := outlogPlaysRow.holds Try.pinned (OpenSpec.ofChange outlogPlaysWrong)

/-- 'easellaw09.OutlogSorts': WHATEVER THE INPUT: true; the input reads as it did. -/
def outlogSortsSpec : ChangeSpec := { name := "outlogSorts", fn := fun _ => fun
  | [d] => { results := [.lit (.bool true)], args := [d] }
  | _ => none }
def outlogSortsRow : OpenClaim := { program := "ytmioichjhiengaa", sum := "db0c2a29b41428d5c8bb5beef7b7ab4d53bfb0f9587d8d1764ad1bc2dc1a4f7e", func := "easel/easellaw09.OutlogSorts", spec := "outlogSorts", unfollowed := true, recurses := true, apart := false }
def OutlogSortsSaid : Prop := outlogSortsRow.holds Try.pinned (OpenSpec.ofChange outlogSortsSpec)

/-- ITS FALSE NEIGHBOUR: 'it returns false'. Refute it at one input. -/
def outlogSortsWrong : ChangeSpec := { name := "outlogSorts", fn := fun _ => fun
  | [d] => { results := [.lit (.bool false)], args := [d] }
  | _ => none }
def OutlogSortsWrongFalsely : Prop := outlogSortsRow.holds Try.pinned (OpenSpec.ofChange outlogSortsWrong)

/-- 'easellaw07.PaneKeeps': WHATEVER THE INPUT: true; the input reads as it did. -/
def paneKeepsSpec : ChangeSpec := { name := "paneKeeps", fn := fun _ => fun
  | [d1, d2, d3] => { results := [.lit (.bool true)], args := [d1, d2, d3] }
  | _ => none }
def paneKeepsRow : OpenClaim := { program := "ytmioichjhiengaa", sum := "db0c2a29b41428d5c8bb5beef7b7ab4d53bfb0f9587d8d1764ad1bc2dc1a4f7e", func := "easel/easellaw07.PaneKeeps", spec := "paneKeeps", inPlace := ["slices.overlaps[easel/api.Pane]"], unfollowed := true, recurses := true, apart := false }
def PaneKeepsSaid : Prop := paneKeepsRow.holds Try.pinned (OpenSpec.ofChange paneKeepsSpec)

/-- ITS FALSE NEIGHBOUR: 'it returns false'. Refute it at one input. -/
def paneKeepsWrong : ChangeSpec := { name := "paneKeeps", fn := fun _ => fun
  | [d1, d2, d3] => { results := [.lit (.bool false)], args := [d1, d2, d3] }
  | _ => none }
def PaneKeepsWrongFalsely : Prop := paneKeepsRow.holds Try.pinned (OpenSpec.ofChange paneKeepsWrong)

/-- 'easellaw07.PanePlays': WHATEVER THE INPUT: true; the input reads as it did. -/
def panePlaysSpec : ChangeSpec := { name := "panePlays", fn := fun _ => fun
  | [d1, d2] => { results := [.lit (.bool true)], args := [d1, d2] }
  | _ => none }
def panePlaysRow : OpenClaim := { program := "ytmioichjhiengaa", sum := "db0c2a29b41428d5c8bb5beef7b7ab4d53bfb0f9587d8d1764ad1bc2dc1a4f7e", func := "easel/easellaw07.PanePlays", spec := "panePlays", inPlace := ["slices.overlaps[easel/api.Pane]"], unfollowed := true, recurses := true, apart := false }
def PanePlaysSaid : Prop := panePlaysRow.holds Try.pinned (OpenSpec.ofChange panePlaysSpec)

/-- ITS FALSE NEIGHBOUR: 'it returns false'. Refute it at one input. -/
def panePlaysWrong : ChangeSpec := { name := "panePlays", fn := fun _ => fun
  | [d1, d2] => { results := [.lit (.bool false)], args := [d1, d2] }
  | _ => none }
def PanePlaysWrongFalsely : Prop := panePlaysRow.holds Try.pinned (OpenSpec.ofChange panePlaysWrong)

/-- 'easellaw08.GroupOnce': WHATEVER THE INPUT: true; the input reads as it did. -/
def groupOnceSpec : ChangeSpec := { name := "groupOnce", fn := fun _ => fun
  | [d1, d2, d3] => { results := [.lit (.bool true)], args := [d1, d2, d3] }
  | _ => none }
def groupOnceRow : OpenClaim := { program := "ytmioichjhiengaa", sum := "db0c2a29b41428d5c8bb5beef7b7ab4d53bfb0f9587d8d1764ad1bc2dc1a4f7e", func := "easel/easellaw08.GroupOnce", spec := "groupOnce", inPlace := ["slices.overlaps[easel/api.Pane]"], unfollowed := true, recurses := true, apart := false }
def GroupOnceSaid : Prop := groupOnceRow.holds Try.pinned (OpenSpec.ofChange groupOnceSpec)

/-- ITS FALSE NEIGHBOUR: 'it returns false'. Refute it at one input. -/
def groupOnceWrong : ChangeSpec := { name := "groupOnce", fn := fun _ => fun
  | [d1, d2, d3] => { results := [.lit (.bool false)], args := [d1, d2, d3] }
  | _ => none }
def GroupOnceWrongFalsely : Prop := groupOnceRow.holds Try.pinned (OpenSpec.ofChange groupOnceWrong)

/-- 'easellaw13.ModelStill': WHATEVER THE INPUT: true; the input reads as it did. -/
def modelStillSpec : ChangeSpec := { name := "modelStill", fn := fun _ => fun
  | [d1, d2, d3] => { results := [.lit (.bool true)], args := [d1, d2, d3] }
  | _ => none }
def modelStillRow : OpenClaim := { program := "ytmioichjhiengaa", sum := "db0c2a29b41428d5c8bb5beef7b7ab4d53bfb0f9587d8d1764ad1bc2dc1a4f7e", func := "easel/easellaw13.ModelStill", spec := "modelStill", inPlace := ["slices.overlaps[easel/api.Pane]"], unfollowed := true, recurses := true, apart := false }
def ModelStillSaid : Prop := modelStillRow.holds Try.pinned (OpenSpec.ofChange modelStillSpec)

/-- ITS FALSE NEIGHBOUR: 'it returns false'. Refute it at one input. -/
def modelStillWrong : ChangeSpec := { name := "modelStill", fn := fun _ => fun
  | [d1, d2, d3] => { results := [.lit (.bool false)], args := [d1, d2, d3] }
  | _ => none }
def ModelStillWrongFalsely : Prop := modelStillRow.holds Try.pinned (OpenSpec.ofChange modelStillWrong)

/- THE SECOND FORM. 'bulk': how many values and letters a reading holds, each counted each time it is reached (what is shared counts as often as it is met; a slice's spare places count too). A statement '..UptoSaid' is the law's where the arguments, and the package variables that the reading takes, are together of bulk at most 1048576: NARROWER than '..Said'. Prove '..Said' where nothing that the law and all that it calls make is longer than what came in: it says more and counts as full. Else prove '..UptoSaid'. A law counts once. -/
mutual
def uptoBulk {H : Type} : DataW H → Nat
  | .lit (.string bytes) => bytes.length + 1
  | .lit _ => 1
  | .nil => 1
  | .ptr d => uptoBulk d + 1
  | .slice elems spare => uptoBulkAll elems + uptoBulkAll spare + 1
  | .agg parts => uptoBulkAll parts + 1
  | .iface _ d => uptoBulk d + 1
  | .map entries => uptoBulkEntries entries + 1
  | .held _ => 1
def uptoBulkAll {H : Type} : List (DataW H) → Nat
  | [] => 0
  | d :: r => uptoBulk d + uptoBulkAll r
def uptoBulkEntries {H : Type} : List (Lit × DataW H) → Nat
  | [] => 0
  | x :: r => uptoBulkEntry x + uptoBulkEntries r
def uptoBulkEntry {H : Type} : Lit × DataW H → Nat
  | (.string bytes, d) => bytes.length + uptoBulk d + 1
  | (_, d) => uptoBulk d + 1
 end
def uptoSmall : (H : Type) → List (DataW H) → Bool := fun _ ds => decide (uptoBulkAll ds ≤ 1048576)
def OpenSpec.upto (s : _root_.Go.ChangeSpec) : _root_.Go.OpenSpec := { _root_.Go.OpenSpec.ofChange s with cond := some uptoSmall }

/-- 'easellaw09.OutlogPlays', WHERE WHAT IT READS IS OF BULK AT MOST 1048576: true; the input reads as it did. -/
def outlogPlaysUptoRow : OpenClaim := { program := "ytmioichjhiengaa", sum := "db0c2a29b41428d5c8bb5beef7b7ab4d53bfb0f9587d8d1764ad1bc2dc1a4f7e", func := "easel/easellaw09.OutlogPlays", spec := "outlogPlays", unfollowed := true, recurses := true, apart := false, narrowed := true }
def OutlogPlaysUptoSaid : Prop := outlogPlaysUptoRow.holds Try.pinned (OpenSpec.upto outlogPlaysSpec)

/-- 'easellaw09.OutlogSorts', WHERE WHAT IT READS IS OF BULK AT MOST 1048576: true; the input reads as it did. -/
def outlogSortsUptoRow : OpenClaim := { program := "ytmioichjhiengaa", sum := "db0c2a29b41428d5c8bb5beef7b7ab4d53bfb0f9587d8d1764ad1bc2dc1a4f7e", func := "easel/easellaw09.OutlogSorts", spec := "outlogSorts", unfollowed := true, recurses := true, apart := false, narrowed := true }
def OutlogSortsUptoSaid : Prop := outlogSortsUptoRow.holds Try.pinned (OpenSpec.upto outlogSortsSpec)

/-- 'easellaw07.PaneKeeps', WHERE WHAT IT READS IS OF BULK AT MOST 1048576: true; the input reads as it did. -/
def paneKeepsUptoRow : OpenClaim := { program := "ytmioichjhiengaa", sum := "db0c2a29b41428d5c8bb5beef7b7ab4d53bfb0f9587d8d1764ad1bc2dc1a4f7e", func := "easel/easellaw07.PaneKeeps", spec := "paneKeeps", inPlace := ["slices.overlaps[easel/api.Pane]"], unfollowed := true, recurses := true, apart := false, narrowed := true }
def PaneKeepsUptoSaid : Prop := paneKeepsUptoRow.holds Try.pinned (OpenSpec.upto paneKeepsSpec)

/-- 'easellaw07.PanePlays', WHERE WHAT IT READS IS OF BULK AT MOST 1048576: true; the input reads as it did. -/
def panePlaysUptoRow : OpenClaim := { program := "ytmioichjhiengaa", sum := "db0c2a29b41428d5c8bb5beef7b7ab4d53bfb0f9587d8d1764ad1bc2dc1a4f7e", func := "easel/easellaw07.PanePlays", spec := "panePlays", inPlace := ["slices.overlaps[easel/api.Pane]"], unfollowed := true, recurses := true, apart := false, narrowed := true }
def PanePlaysUptoSaid : Prop := panePlaysUptoRow.holds Try.pinned (OpenSpec.upto panePlaysSpec)

/-- 'easellaw08.GroupOnce', WHERE WHAT IT READS IS OF BULK AT MOST 1048576: true; the input reads as it did. -/
def groupOnceUptoRow : OpenClaim := { program := "ytmioichjhiengaa", sum := "db0c2a29b41428d5c8bb5beef7b7ab4d53bfb0f9587d8d1764ad1bc2dc1a4f7e", func := "easel/easellaw08.GroupOnce", spec := "groupOnce", inPlace := ["slices.overlaps[easel/api.Pane]"], unfollowed := true, recurses := true, apart := false, narrowed := true }
def GroupOnceUptoSaid : Prop := groupOnceUptoRow.holds Try.pinned (OpenSpec.upto groupOnceSpec)

/-- 'easellaw13.ModelStill', WHERE WHAT IT READS IS OF BULK AT MOST 1048576: true; the input reads as it did. -/
def modelStillUptoRow : OpenClaim := { program := "ytmioichjhiengaa", sum := "db0c2a29b41428d5c8bb5beef7b7ab4d53bfb0f9587d8d1764ad1bc2dc1a4f7e", func := "easel/easellaw13.ModelStill", spec := "modelStill", inPlace := ["slices.overlaps[easel/api.Pane]"], unfollowed := true, recurses := true, apart := false, narrowed := true }
def ModelStillUptoSaid : Prop := modelStillUptoRow.holds Try.pinned (OpenSpec.upto modelStillSpec)

end Rows
end Go.Proofs.Ytmioichjhiengaa
