/-
  AssignHas: for every input the law returns true, and the input reads behind the call as it read before. No condition.
-/
import Derived.Test.YtkbaijdamddipaaRows
import Derived.Test.YtkbaijdamddipaaData
import Derived.Test.YtkbaijdamddipaaWalkAssignHas
namespace Go.Proofs.Ytkbaijdamddipaa.rowAssignHas
open Go.ChangeShapes Go.WideShapes Go.ChangeAt Go.RowKit Go.Proofs.Ytkbaijdamddipaa
set_option linter.unusedVariables false
theorem own : ownKnob Try.prog.godebug = none := by kernel_rfl
set_option maxRecDepth 100000 in
theorem lifted (os : Os) (started : os.Started) (H : Type) (enc : TypeId × Value → H) :
    ReturnsInHanded {} Try.checked os 14 .any (Rows.assignHasSpec.pre6 enc Try.prog Try.f14 Rows.assignHasRow.domain false) (Rows.assignHasSpec.post enc Try.prog Try.f14 false true false false) := by
  refine returnsInHanded_of_change_sized (C := Try.checked) own started (by kernel_rfl) Try.func14
    (ChangeSpec.witness6 (enc := enc) (C := Try.checked) false ⟨#[], #[.agg #[.int .i64 0, .int .i64 0, .int .i64 0, .int .i64 0, .int .i64 0, .int .i64 0, .int .i64 0, .int .i64 0], .int .i64 0, .int .i64 0], []⟩ 8 (by kernel_rfl) (by kernel_rfl) (by kernel_rfl) (by kernel_rfl)) ?_
  intro W base args ds gs before hval0 hW hcnd hsz0 _
  have hval : ∀ (j : Nat) t v, Try.f14.params[j]? = some t → args[j]? = some v → Value.okWide Try.prog W .any base t v := hval0
  have hW' := hW
  have hlt0 := hW.lt
  obtain ⟨p, q, hA0, hV, rfl, hfz, hnd⟩ := hW
  have hA : DataW.TrodAll enc Try.prog W 0 (fun _ => true) true Try.f14.params.toList args.toList ds p := hA0
  rw [Try.params14] at hA hval
  obtain ⟨v0, vs0, d0, ds0, p0, q0, hargs, rfl, rfl, h0, r0⟩ := trodAll_cons hA
  obtain ⟨v1, vs1, d1, ds1, p1, q1, rfl, rfl, rfl, h1, r1⟩ := trodAll_cons r0
  obtain ⟨v2, vs2, d2, ds2, p2, q2, rfl, rfl, rfl, h2, r2⟩ := trodAll_cons r1
  obtain ⟨rfl, rfl, rfl⟩ := trodAll_nil r2
  obtain rfl : args = #[v0, v1, v2] := by cases args; simp_all
  obtain ⟨rfl, rfl⟩ := trodVars_none hV
  have k0 := h0
  obtain ⟨a0, c0, rfl, w0⟩ := arg_struct Try.underlying72 opens_Config (hval 0 72 v0 rfl rfl) h0
  obtain ⟨e0, w0⟩ := w0
  obtain rfl : c0 = a0.cells.toArray := by rw [← e0]
  have k1 := h1
  obtain ⟨a1, rfl, w1⟩ := arg_int Try.underlying2 (hval 1 2 v1 rfl rfl) h1
  have k2 := h2
  obtain ⟨a2, rfl, w2⟩ := arg_int Try.underlying2 (hval 2 2 v2 rfl rfl) h2
  refine (law_AssignHas a0 a1 a2 W w0 w1 w2).mono fun e W' ⟨he, bel⟩ => ?_
  subst he
  exact law_post rfl rfl rfl Try.underlying4 hW' bel (trodAll_cons_mk (Below.trod laid (by kernel_rfl) (of_decide_eq_true (by kernel_rfl)) k0 bel (fun x hx => hlt0 x (by simp [hx]))) (trodAll_cons_mk (Below.trod laid (by kernel_rfl) (of_decide_eq_true (by kernel_rfl)) k1 bel (fun x hx => hlt0 x (by simp [hx]))) (trodAll_cons_mk (Below.trod laid (by kernel_rfl) (of_decide_eq_true (by kernel_rfl)) k2 bel (fun x hx => hlt0 x (by simp [hx]))) trodAll_mk0)))
theorem over : Rows.assignHasRow.holds Try.pinned (OpenSpec.ofChange Rows.assignHasSpec) :=
  OpenClaim.holds_of_wide 14 Try.f14 rfl rfl rfl rfl rfl rfl rfl ⟨rfl, rfl, rfl, rfl, rfl⟩ rfl rfl rfl rfl rfl (by kernel_rfl) Try.func14 (by kernel_rfl)
    (of_decide_eq_true (by kernel_rfl)) (by unfold Func.isWrapper; first | (rw [if_pos (by decide +kernel)]; kernel_rfl) | (rw [if_neg (by decide +kernel)]; exact ⟨rfl, rfl⟩))
    (fun os started H enc _ => lifted os started H enc)
end Go.Proofs.Ytkbaijdamddipaa.rowAssignHas
namespace Go.Proofs.Ytkbaijdamddipaa
theorem assignHas_holds : Rows.AssignHasSaid := rowAssignHas.over
#print axioms assignHas_holds
end Go.Proofs.Ytkbaijdamddipaa
