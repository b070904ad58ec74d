/-
  '==' between errors of package api, and the number that easellaw00.Code tells of one.
-/
import Derived.Test.YtpkfckcilpiabaaGreatData
import Derived.Test.YtpkfckcilpiabaaGreatHeap
import Derived.LaidEql
import Derived.Lib.Hide
--auto
namespace Go.Proofs.YtpkfckcilpiabaaGreat
open Go.RowKit

/-- An error of package api. -/
abbrev errV (k : Int) : Value := .iface 36 (.int .i64 k)
theorem codeInfo : (Tryz.prog.info? 36).map (fun i => i.comparable) = some true := by kernel_rfl
theorem eq_err (w : World) (a b : Int) : (binOp .eql 29 (errV a) (errV b)).run Tryz.prog w = .ok (.bool (a == b)) w := by
  obtain ⟨i, hi, hc⟩ : ∃ i, Tryz.prog.info? 36 = some i ∧ i.comparable = true := by
    have := codeInfo
    cases h : Tryz.prog.info? 36 with
    | none => rw [h] at this; cases this
    | some i => rw [h] at this; exact ⟨i, rfl, by simpa using this⟩
  have e : ∀ d, (Op.equalIn (d + 2) 29 (errV a) (errV b)).run Tryz.prog w = .ok (a == b) w := fun d => by
    simp [Op.equalIn, run_underlying Tryz.underlying29, run_underlying Tryz.underlying36, typeInfo, hi, hc]
  simp only [binOp]
  simp [Op.equal, Op.maxDepth, e 9998]

end Go.Proofs.YtpkfckcilpiabaaGreat
