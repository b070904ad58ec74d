/-
  slices.symMergeCmpFunc on a row of numbers.
-/
import Derived.Test.YtlnlbegcnhelmaaMergeLo
namespace Go.Proofs.Ytlnlbegcnhelmaa
open Go.RowKit

theorem merge_int {base g N cap : Nat} {cb : Value} {cf : Int → Int → Int} {ok : Int → Prop} (W : Weak (ltC cf)) (hN : N ≤ 1000) : ∀ (d : Nat) {w : World} {A U V C : List Int}, U.length + V.length ≤ d → 0 < U.length → 0 < V.length →
    IRow w base g N cap (A ++ U ++ V ++ C) → CmpI cb cf ok g w → MergeIn cf ok U V → ∀ (a m b : Nat), a = A.length → m = a + U.length → b = m + V.length →
    Calls Try.prog 101 #[.slice (some ⟨g, 0, none⟩) N cap, .int .i64 a, .int .i64 m, .int .i64 b, .func (.func 87) #[] #[cb]] w (MergeDone w base g N cap A U V C cf) := by
  intro d
  induction d with
  | zero => intro w A U V C hd h1; omega
  | succ d ih =>
    intro w A U V C hd hU0 hV0 h hcmp H a m b ha hm hb
    by_cases hu1 : U.length = 1
    · obtain ⟨e, rfl⟩ := List.length_eq_one_iff.1 hu1
      exact merge_left_one W h hcmp H a m b ha (by simpa using hm) hb hN hV0
    by_cases hv1 : V.length = 1
    · obtain ⟨e, rfl⟩ := List.length_eq_one_iff.1 hv1
      exact merge_right_one W h hcmp H a m b ha hm (by simpa using hb) hN (by omega)
    by_cases hmm : (a + b) / 2 < m
    · exact merge_hi W hN d ih hd h hcmp H a m b ha hm hb (by omega) (by omega) hmm
    · exact merge_lo W hN d ih hd h hcmp H a m b ha hm hb (by omega) (by omega) hmm
end Go.Proofs.Ytlnlbegcnhelmaa
