/-
  The walk of the law HandPlays, joined.
-/
import Derived.Test.YtlnlbegcnhelmaaWalkHandPlays
namespace Go.Proofs.Ytlnlbegcnhelmaa
open Go.RowKit

theorem law_HandPlays (n s g dest : Int) (l : List Deed15) (v : Value) (W : World) (hn : I64 n) (hs : I64 s) (hg : I64 g) (hd : I64 dest) (hv : rSlice 2 rDeed15 W l [v]) :
    Calls Try.prog 9 #[.int .i64 n, .int .i64 s, .int .i64 g, .int .i64 dest, v] W fun e W' => e = .returned (.bool true) ∧ Below W.heap.size W W' := by
  by_cases h : n < 1 ∨ 16 < n ∨ s < 1 ∨ 8 < s
  · exact hand_plays_no n s g dest l v W hv h
  · obtain ⟨n, rfl⟩ : ∃ k : Nat, n = k := ⟨n.toNat, by omega⟩
    obtain ⟨s, rfl⟩ : ∃ k : Nat, s = k := ⟨s.toNat, by omega⟩
    exact hand_plays_yes n s g dest l v W hv (by omega) (by omega) (by omega) (by omega) hg hd
end Go.Proofs.Ytlnlbegcnhelmaa
