/-
  GroupPlays: for every input the law returns true, and the input reads behind the call as it read before. No condition.
-/
import Derived.Test.YtmioichjhiengaaGreatRows
import Derived.Test.YtmioichjhiengaaGreatWalkGroupPlays
namespace Go.Proofs.YtmioichjhiengaaGreat.rowGroupPlays
open Go.ChangeShapes Go.WideShapes Go.ChangeAt Go.RowKit Go.Proofs.YtmioichjhiengaaGreat
set_option linter.unusedVariables false
set_option linter.unusedSimpArgs false
theorem own : ownKnob Tryz.prog.godebug = none := by kernel_rfl
set_option maxRecDepth 100000 in
theorem lifted (os : Os) (started : os.Started) (H : Type) (enc : TypeId × Value → H) :
    ReturnsInHanded {} Tryz.checked os 3 .any (Rows.groupPlaysSpec.pre6 enc Tryz.prog Tryz.f3 Rows.groupPlaysRow.domain false) (Rows.groupPlaysSpec.post enc Tryz.prog Tryz.f3 false true false false) := by
  refine returnsInHanded_of_change_sized (C := Tryz.checked) own started (by kernel_rfl) Tryz.func3
    (ChangeSpec.witness6 (enc := enc) (C := Tryz.checked) false ⟨#[], #[.agg #[.int .i64 0, .int .i64 0, .int .i64 0, .int .i64 0, .int .i64 0, .int .i64 0, .int .i64 0, .int .i64 0], .slice none 0 0], []⟩ 8 (by kernel_rfl) (by kernel_rfl) (by kernel_rfl) (by kernel_rfl)) ?_
  intro W base args ds gs before hval0 hW hcnd hsz0 _
  have hval : ∀ (j : Nat) t v, Tryz.f3.params[j]? = some t → args[j]? = some v → Value.okWide Tryz.prog W .any base t v := hval0
  have hW' := hW
  have hlt0 := hW.lt
  obtain ⟨p, q, hA0, hV, rfl, hfz, hnd⟩ := hW
  have hA : DataW.TrodAll enc Tryz.prog W 0 (fun _ => true) true Tryz.f3.params.toList args.toList ds p := hA0
  rw [Tryz.params3] at hA hval
  obtain ⟨v0, vs0, d0, ds0, p0, q0, hargs, rfl, rfl, h0, r0⟩ := trodAll_cons hA
  obtain ⟨v1, vs1, d1, ds1, p1, q1, rfl, rfl, rfl, h1, r1⟩ := trodAll_cons r0
  obtain ⟨rfl, rfl, rfl⟩ := trodAll_nil r1
  obtain rfl : args = #[v0, v1] := by cases args; simp_all
  obtain ⟨rfl, rfl⟩ := trodVars_none hV
  have k0 := h0
  obtain ⟨a0, c0, rfl, w0⟩ := arg_struct Tryz.underlying23 opens_Config (hval 0 23 v0 rfl rfl) h0
  obtain ⟨e0, w0⟩ := w0
  obtain rfl : c0 = a0.cells.toArray := by rw [← e0]
  have k1 := h1
  obtain ⟨a1, w1⟩ := arg_slice Tryz.underlying24 (opens_slice (size := 5) Tryz.underlying24 (by kernel_rfl) (by decide) opens_Deed08) (hval 1 24 v1 rfl rfl) h1
  refine (law_GroupPlays a0 a1 v1 W w0 w1).mono fun e W' ⟨he, bel⟩ => ?_
  subst he
  exact law_post rfl rfl rfl Tryz.underlying4 hW' bel (trodAll_cons_mk (Below.trod laid (by kernel_rfl) (of_decide_eq_true (by kernel_rfl)) k0 bel (fun x hx => hlt0 x (by simp [hx]))) (trodAll_cons_mk (Below.trod laid (by kernel_rfl) (of_decide_eq_true (by kernel_rfl)) k1 bel (fun x hx => hlt0 x (by simp [hx]))) trodAll_mk0))
theorem over : Rows.groupPlaysRow.holds Tryz.pinned (OpenSpec.ofChange Rows.groupPlaysSpec) :=
  OpenClaim.holds_of_wide 3 Tryz.f3 rfl rfl rfl rfl rfl rfl rfl ⟨rfl, rfl, rfl, rfl, rfl⟩ rfl rfl rfl rfl rfl (by kernel_rfl) Tryz.func3 (by kernel_rfl)
    (of_decide_eq_true (by kernel_rfl)) (by unfold Func.isWrapper; first | (rw [if_pos (by decide +kernel)]; kernel_rfl) | (rw [if_neg (by decide +kernel)]; exact ⟨rfl, rfl⟩))
    (fun os started H enc _ => lifted os started H enc)
end Go.Proofs.YtmioichjhiengaaGreat.rowGroupPlays
namespace Go.Proofs.YtmioichjhiengaaGreat
theorem groupPlays_holds : Rows.GroupPlaysSaid := rowGroupPlays.over
#print axioms groupPlays_holds
end Go.Proofs.YtmioichjhiengaaGreat
