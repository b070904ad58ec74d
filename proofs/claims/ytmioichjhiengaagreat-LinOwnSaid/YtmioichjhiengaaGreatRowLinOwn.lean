/-
  LinOwn: for every input the law returns true, and the input reads behind the call as it read before. No condition.
-/
import Derived.Test.YtmioichjhiengaaGreatRows
import Derived.Test.YtmioichjhiengaaGreatWalkLinOwn
namespace Go.Proofs.YtmioichjhiengaaGreat.rowLinOwn
open Go.ChangeShapes Go.WideShapes Go.ChangeAt Go.RowKit Go.Proofs.YtmioichjhiengaaGreat
set_option linter.unusedVariables false
set_option linter.unusedSimpArgs false
theorem own : ownKnob Tryz.prog.godebug = none := by kernel_rfl
set_option maxRecDepth 100000 in
theorem lifted (os : Os) (started : os.Started) (H : Type) (enc : TypeId × Value → H) :
    ReturnsInHanded {} Tryz.checked os 6 .any (Rows.linOwnSpec.pre6 enc Tryz.prog Tryz.f6 Rows.linOwnRow.domain false) (Rows.linOwnSpec.post enc Tryz.prog Tryz.f6 false true false false) := by
  refine returnsInHanded_of_change_sized (C := Tryz.checked) own started (by kernel_rfl) Tryz.func6
    (ChangeSpec.witness6 (enc := enc) (C := Tryz.checked) false ⟨#[], #[.agg #[.int .i64 0, .int .i64 0, .int .i64 0, .int .i64 0, .int .i64 0, .int .i64 0, .int .i64 0, .int .i64 0], .slice none 0 0, .slice none 0 0, .int .i64 0], []⟩ 8 (by kernel_rfl) (by kernel_rfl) (by kernel_rfl) (by kernel_rfl)) ?_
  intro W base args ds gs before hval0 hW hcnd hsz0 _
  have hval : ∀ (j : Nat) t v, Tryz.f6.params[j]? = some t → args[j]? = some v → Value.okWide Tryz.prog W .any base t v := hval0
  have hW' := hW
  have hlt0 := hW.lt
  obtain ⟨p, q, hA0, hV, rfl, hfz, hnd⟩ := hW
  have hA : DataW.TrodAll enc Tryz.prog W 0 (fun _ => true) true Tryz.f6.params.toList args.toList ds p := hA0
  rw [Tryz.params6] at hA hval
  obtain ⟨v0, vs0, d0, ds0, p0, q0, hargs, rfl, rfl, h0, r0⟩ := trodAll_cons hA
  obtain ⟨v1, vs1, d1, ds1, p1, q1, rfl, rfl, rfl, h1, r1⟩ := trodAll_cons r0
  obtain ⟨v2, vs2, d2, ds2, p2, q2, rfl, rfl, rfl, h2, r2⟩ := trodAll_cons r1
  obtain ⟨v3, vs3, d3, ds3, p3, q3, rfl, rfl, rfl, h3, r3⟩ := trodAll_cons r2
  obtain ⟨rfl, rfl, rfl⟩ := trodAll_nil r3
  obtain rfl : args = #[v0, v1, v2, v3] := by cases args; simp_all
  obtain ⟨rfl, rfl⟩ := trodVars_none hV
  have k0 := h0
  obtain ⟨a0, c0, rfl, w0⟩ := arg_struct Tryz.underlying23 opens_Config (hval 0 23 v0 rfl rfl) h0
  obtain ⟨e0, w0⟩ := w0
  obtain rfl : c0 = a0.cells.toArray := by rw [← e0]
  have k1 := h1
  obtain ⟨a1, w1⟩ := arg_slice Tryz.underlying48 (opens_slice (size := 7) Tryz.underlying48 (by kernel_rfl) (by decide) opens_Call) (hval 1 48 v1 rfl rfl) h1
  have k2 := h2
  obtain ⟨a2, w2⟩ := arg_slice Tryz.underlying72 (opens_slice (size := 1) Tryz.underlying72 (by kernel_rfl) (by decide) (opens_int (by kernel_rfl))) (hval 2 72 v2 rfl rfl) h2
  have k3 := h3
  obtain ⟨a3, rfl, w3⟩ := arg_int Tryz.underlying3 (hval 3 3 v3 rfl rfl) h3
  refine (law_LinOwn a0 a1 v1 a2 v2 a3 W w0 w1 w2 w3).mono fun e W' ⟨he, bel⟩ => ?_
  subst he
  exact law_post rfl rfl rfl Tryz.underlying4 hW' bel (trodAll_cons_mk (Below.trod laid (by kernel_rfl) (of_decide_eq_true (by kernel_rfl)) k0 bel (fun x hx => hlt0 x (by simp [hx]))) (trodAll_cons_mk (Below.trod laid (by kernel_rfl) (of_decide_eq_true (by kernel_rfl)) k1 bel (fun x hx => hlt0 x (by simp [hx]))) (trodAll_cons_mk (Below.trod laid (by kernel_rfl) (of_decide_eq_true (by kernel_rfl)) k2 bel (fun x hx => hlt0 x (by simp [hx]))) (trodAll_cons_mk (Below.trod laid (by kernel_rfl) (of_decide_eq_true (by kernel_rfl)) k3 bel (fun x hx => hlt0 x (by simp [hx]))) trodAll_mk0))))
theorem over : Rows.linOwnRow.holds Tryz.pinned (OpenSpec.ofChange Rows.linOwnSpec) :=
  OpenClaim.holds_of_wide 6 Tryz.f6 rfl rfl rfl rfl rfl rfl rfl ⟨rfl, rfl, rfl, rfl, rfl⟩ rfl rfl rfl rfl rfl (by kernel_rfl) Tryz.func6 (by kernel_rfl)
    (of_decide_eq_true (by kernel_rfl)) (by unfold Func.isWrapper; first | (rw [if_pos (by decide +kernel)]; kernel_rfl) | (rw [if_neg (by decide +kernel)]; exact ⟨rfl, rfl⟩))
    (fun os started H enc _ => lifted os started H enc)
end Go.Proofs.YtmioichjhiengaaGreat.rowLinOwn
namespace Go.Proofs.YtmioichjhiengaaGreat
theorem linOwn_holds : Rows.LinOwnSaid := rowLinOwn.over
#print axioms linOwn_holds
end Go.Proofs.YtmioichjhiengaaGreat
