/-
  '==' between errors of package api, and the number that easellaw00.Code tells of one.
-/
import Derived.Test.YtmioichjhiengaaGreatData
import Derived.Test.YtmioichjhiengaaGreatHeap
import Derived.LaidEql
import Derived.Lib.Hide
--auto
namespace Go.Proofs.YtmioichjhiengaaGreat
open Go.RowKit

/-- An error of package api. -/
abbrev errV (k : Int) : Value := .iface 32 (.int .i64 k)
theorem codeInfo : (Tryz.prog.info? 32).map (fun i => i.comparable) = some true := by kernel_rfl
theorem eq_err (w : World) (a b : Int) : (binOp .eql 28 (errV a) (errV b)).run Tryz.prog w = .ok (.bool (a == b)) w := by
  obtain ⟨i, hi, hc⟩ : ∃ i, Tryz.prog.info? 32 = some i ∧ i.comparable = true := by
    have := codeInfo
    cases h : Tryz.prog.info? 32 with
    | none => rw [h] at this; cases this
    | some i => rw [h] at this; exact ⟨i, rfl, by simpa using this⟩
  have e : ∀ d, (Op.equalIn (d + 2) 28 (errV a) (errV b)).run Tryz.prog w = .ok (a == b) w := fun d => by
    simp [Op.equalIn, run_underlying Tryz.underlying28, run_underlying Tryz.underlying32, typeInfo, hi, hc]
  simp only [binOp]
  simp [Op.equal, Op.maxDepth, e 9998]

theorem code_nil (w : World) : Calls Tryz.prog 41 #[.nilIface] w fun e w' => e = .returned (.int .i64 0) ∧ w = w' := by
  go_enter Tryz.func41, Tryz.ntmps41
  go_wp2
  go_ret
  exact ⟨rfl, rfl⟩

theorem code_err (w : World) (k : Int) (h1 : 1 ≤ k) (h2 : k ≤ 10) : Calls Tryz.prog 41 #[errV k] w fun e w' => e = .returned (.int .i64 k) ∧ w = w' := by
  have he := fun w a b => eq_err w a b
  go_enter Tryz.func41, Tryz.ntmps41
  go_wp2
  go_loop [3] (fun n => ∃ j : Int, 1 ≤ j ∧ j ≤ k ∧ n = .int .i64 j) (fun n => (k - intOf n).toNat)
  case atStart => exact ⟨1, by omega, by omega, rfl⟩
  case round =>
    obtain ⟨j, hj1, hj2, rfl⟩ := hrel
    by_cases hlt : j = k
    · subst hlt
      go_wp2
      go_ret
      exact ⟨rfl, rfl⟩
    · have hb : (k == j) = false := by simp; omega
      have hjk : j < k := by omega
      go_wp2
      go_round
      case rel => exact ⟨j + 1, by omega, by omega, rfl⟩
      case measure => simp [intOf]; omega
end Go.Proofs.YtmioichjhiengaaGreat
