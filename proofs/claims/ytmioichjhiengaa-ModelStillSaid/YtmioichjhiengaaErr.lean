/-
  '==' between errors of package api, and the number that easellaw00.Code tells of one.
-/
import Derived.Test.YtmioichjhiengaaData
import Derived.Test.YtmioichjhiengaaHeap
import Derived.LaidEql
import Derived.Lib.Hide
--auto
namespace Go.Proofs.Ytmioichjhiengaa
open Go.RowKit

/-- An error of package api. -/
abbrev errV (k : Int) : Value := .iface 105 (.int .i64 k)
theorem codeInfo : (Try.prog.info? 105).map (fun i => i.comparable) = some true := by kernel_rfl
theorem eq_err (w : World) (a b : Int) : (binOp .eql 68 (errV a) (errV b)).run Try.prog w = .ok (.bool (a == b)) w := by
  obtain ⟨i, hi, hc⟩ : ∃ i, Try.prog.info? 105 = some i ∧ i.comparable = true := by
    have := codeInfo
    cases h : Try.prog.info? 105 with
    | none => rw [h] at this; cases this
    | some i => rw [h] at this; exact ⟨i, rfl, by simpa using this⟩
  have e : ∀ d, (Op.equalIn (d + 2) 68 (errV a) (errV b)).run Try.prog w = .ok (a == b) w := fun d => by
    simp [Op.equalIn, run_underlying Try.underlying68, run_underlying Try.underlying105, typeInfo, hi, hc]
  simp only [binOp]
  simp [Op.equal, Op.maxDepth, e 9998]

end Go.Proofs.Ytmioichjhiengaa
