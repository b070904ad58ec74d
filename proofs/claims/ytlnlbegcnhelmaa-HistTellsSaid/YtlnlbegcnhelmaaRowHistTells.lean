/-
  HistTells: for every input the law returns true, and the input reads behind the call as it read before. No condition.
-/
import Derived.Test.YtlnlbegcnhelmaaRows
import Derived.Test.YtlnlbegcnhelmaaData
import Derived.Test.YtlnlbegcnhelmaaWalkHistTells
namespace Go.Proofs.Ytlnlbegcnhelmaa.rowHistTells
open Go.ChangeShapes Go.WideShapes Go.ChangeAt Go.RowKit Go.Proofs.Ytlnlbegcnhelmaa
set_option linter.unusedVariables false
theorem own : ownKnob Try.prog.godebug = none := by kernel_rfl
set_option maxRecDepth 100000 in
theorem lifted (os : Os) (started : os.Started) (H : Type) (enc : TypeId × Value → H) :
    ReturnsInHanded {} Try.checked os 12 .any (Rows.histTellsSpec.pre6 enc Try.prog Try.f12 Rows.histTellsRow.domain false) (Rows.histTellsSpec.post enc Try.prog Try.f12 false true false false) := by
  refine returnsInHanded_of_change_sized (C := Try.checked) own started (by kernel_rfl) Try.func12
    (ChangeSpec.witness6 (enc := enc) (C := Try.checked) false ⟨#[], #[.slice none 0 0], []⟩ 8 (by kernel_rfl) (by kernel_rfl) (by kernel_rfl) (by kernel_rfl)) ?_
  intro W base args ds gs before hval0 hW hcnd hsz0 _
  have hval : ∀ (j : Nat) t v, Try.f12.params[j]? = some t → args[j]? = some v → Value.okWide Try.prog W .any base t v := hval0
  have hW' := hW
  have hlt0 := hW.lt
  obtain ⟨p, q, hA0, hV, rfl, hfz, hnd⟩ := hW
  have hA : DataW.TrodAll enc Try.prog W 0 (fun _ => true) true Try.f12.params.toList args.toList ds p := hA0
  rw [Try.params12] at hA hval
  obtain ⟨v0, vs0, d0, ds0, p0, q0, hargs, rfl, rfl, h0, r0⟩ := trodAll_cons hA
  obtain ⟨rfl, rfl, rfl⟩ := trodAll_nil r0
  obtain rfl : args = #[v0] := by cases args; simp_all
  obtain ⟨rfl, rfl⟩ := trodVars_none hV
  have k0 := h0
  obtain ⟨a0, w0⟩ := arg_slice Try.underlying116 (opens_slice (size := 14) Try.underlying116 (by kernel_rfl) (by decide) opens_Event) (hval 0 116 v0 rfl rfl) h0
  refine (law_HistTells a0 v0 W w0).mono fun e W' ⟨he, bel⟩ => ?_
  subst he
  exact law_post rfl rfl rfl Try.underlying4 hW' bel (trodAll_cons_mk (Below.trod laid (by kernel_rfl) (of_decide_eq_true (by kernel_rfl)) k0 bel (fun x hx => hlt0 x (by simp [hx]))) trodAll_mk0)
theorem over : Rows.histTellsRow.holds Try.pinned (OpenSpec.ofChange Rows.histTellsSpec) :=
  OpenClaim.holds_of_wide 12 Try.f12 rfl rfl rfl rfl rfl rfl rfl ⟨rfl, rfl, rfl, rfl, rfl⟩ rfl rfl rfl rfl rfl (by kernel_rfl) Try.func12 (by kernel_rfl)
    (of_decide_eq_true (by kernel_rfl)) (by unfold Func.isWrapper; first | (rw [if_pos (by decide +kernel)]; kernel_rfl) | (rw [if_neg (by decide +kernel)]; exact ⟨rfl, rfl⟩))
    (fun os started H enc _ => lifted os started H enc)
end Go.Proofs.Ytlnlbegcnhelmaa.rowHistTells
namespace Go.Proofs.Ytlnlbegcnhelmaa
theorem histTells_holds : Rows.HistTellsSaid := rowHistTells.over
#print axioms histTells_holds
end Go.Proofs.Ytlnlbegcnhelmaa
