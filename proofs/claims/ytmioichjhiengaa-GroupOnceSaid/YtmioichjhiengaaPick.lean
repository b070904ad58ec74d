/-
  easellaw06.Pick: one of n.
-/
import Derived.Test.YtmioichjhiengaaProg
import Derived.Test.YtmioichjhiengaaHeap
import Derived.Outline
namespace Go.Proofs.Ytmioichjhiengaa
open Go.RowKit

def pick (c n : Int) : Int := (if c < 0 then -(c + 1) else c) % n
theorem pick_range (c n : Int) (hn : 0 < n) : 0 ≤ pick c n ∧ pick c n < n := by
  unfold pick; exact ⟨Int.emod_nonneg _ (by omega), Int.emod_lt_of_pos _ hn⟩
theorem pick_any (w : World) (c n : Int) (hc : -9223372036854775808 ≤ c) (hc' : c ≤ 9223372036854775807) (hn : 0 < n) (hn' : n ≤ 9223372036854775807) :
    Calls Try.prog 27 #[.int .i64 c, .int .i64 n] w fun e w' => e = .returned (.int .i64 (pick c n)) ∧ w = w' := by
  have hn0 : n ≠ 0 := by omega
  by_cases h : c < 0
  · go_enter Try.func27, Try.ntmps27
    go_wp2
    go_ret
    have e : -((c + 1).tmod n) = -(c + 1) % n := by rw [← Int.neg_tmod, Int.tmod_eq_emod_of_nonneg (by omega)]
    exact ⟨by simp [pick, h, e], rfl⟩
  · go_enter Try.func27, Try.ntmps27
    go_wp2
    go_ret
    have h' : ¬ c < 0 := by omega
    exact ⟨by simp [pick, h'], rfl⟩
end Go.Proofs.Ytmioichjhiengaa
