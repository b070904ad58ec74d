/-
  slices.symMergeCmpFunc on a row of panes.
-/
import Derived.Test.YtmioichjhiengaaPMergeLo
namespace Go.Proofs.Ytmioichjhiengaa
open Go.RowKit

theorem merge_p {base g N cap : Nat} {cf : TP → TP → Int} {ok : TP → Prop} (W : Weak (ltP cf)) (hN : N ≤ 1000) : ∀ (d : Nat) {w : World} {A U V C : List TP}, U.length + V.length ≤ d → 0 < U.length → 0 < V.length →
    PTRow w base g N cap (A ++ U ++ V ++ C) → CmpP cf ok g w → MergeInP cf ok U V → ∀ (a m b : Nat), a = A.length → m = a + U.length → b = m + V.length →
    Calls Try.prog 104 #[.slice (some ⟨g, 0, none⟩) N cap, .int .i64 a, .int .i64 m, .int .i64 b, .func (.func 49) #[] #[]] w (MergeDoneP w base g N cap A U V C cf) := by
  intro d
  induction d with
  | zero => intro w A U V C hd h1; omega
  | succ d ih =>
    intro w A U V C hd hU0 hV0 h hcmp H a m b ha hm hb
    by_cases hu1 : U.length = 1
    · obtain ⟨e, rfl⟩ := List.length_eq_one_iff.1 hu1
      exact merge_left_one_p W h hcmp H a m b ha (by simpa using hm) hb hN hV0
    by_cases hv1 : V.length = 1
    · obtain ⟨e, rfl⟩ := List.length_eq_one_iff.1 hv1
      exact merge_right_one_p W h hcmp H a m b ha hm (by simpa using hb) hN (by omega)
    by_cases hmm : (a + b) / 2 < m
    · exact merge_hi_p W hN d ih hd h hcmp H a m b ha hm hb (by omega) (by omega) hmm
    · exact merge_lo_p W hN d ih hd h hcmp H a m b ha hm hb (by omega) (by omega) hmm
end Go.Proofs.Ytmioichjhiengaa
