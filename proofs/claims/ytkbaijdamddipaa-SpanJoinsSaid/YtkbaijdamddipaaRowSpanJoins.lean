/-
  SpanJoins: for every input the law returns true, and the input reads behind the call as it read before. No condition.
-/
import Derived.Test.YtkbaijdamddipaaRows
import Derived.Test.YtkbaijdamddipaaData
import Derived.Test.YtkbaijdamddipaaWalkSpanJoins
namespace Go.Proofs.Ytkbaijdamddipaa.rowSpanJoins
open Go.ChangeShapes Go.WideShapes Go.ChangeAt Go.RowKit Go.Proofs.Ytkbaijdamddipaa
set_option linter.unusedVariables false
theorem own : ownKnob Try.prog.godebug = none := by kernel_rfl
set_option maxRecDepth 100000 in
theorem lifted (os : Os) (started : os.Started) (H : Type) (enc : TypeId × Value → H) :
    ReturnsInHanded {} Try.checked os 12 .any (Rows.spanJoinsSpec.pre6 enc Try.prog Try.f12 Rows.spanJoinsRow.domain false) (Rows.spanJoinsSpec.post enc Try.prog Try.f12 false true false false) := by
  refine returnsInHanded_of_change_sized (C := Try.checked) own started (by kernel_rfl) Try.func12
    (ChangeSpec.witness6 (enc := enc) (C := Try.checked) false ⟨#[], #[.agg #[.int .i64 0, .int .i64 0], .agg #[.int .i64 0, .int .i64 0], .int .i64 0, .int .i64 0, .int .i64 0, .int .i64 0], []⟩ 8 (by kernel_rfl) (by kernel_rfl) (by kernel_rfl) (by kernel_rfl)) ?_
  intro W base args ds gs before hval0 hW hcnd hsz0 _
  have hval : ∀ (j : Nat) t v, Try.f12.params[j]? = some t → args[j]? = some v → Value.okWide Try.prog W .any base t v := hval0
  have hW' := hW
  have hlt0 := hW.lt
  obtain ⟨p, q, hA0, hV, rfl, hfz, hnd⟩ := hW
  have hA : DataW.TrodAll enc Try.prog W 0 (fun _ => true) true Try.f12.params.toList args.toList ds p := hA0
  rw [Try.params12] at hA hval
  obtain ⟨v0, vs0, d0, ds0, p0, q0, hargs, rfl, rfl, h0, r0⟩ := trodAll_cons hA
  obtain ⟨v1, vs1, d1, ds1, p1, q1, rfl, rfl, rfl, h1, r1⟩ := trodAll_cons r0
  obtain ⟨v2, vs2, d2, ds2, p2, q2, rfl, rfl, rfl, h2, r2⟩ := trodAll_cons r1
  obtain ⟨v3, vs3, d3, ds3, p3, q3, rfl, rfl, rfl, h3, r3⟩ := trodAll_cons r2
  obtain ⟨v4, vs4, d4, ds4, p4, q4, rfl, rfl, rfl, h4, r4⟩ := trodAll_cons r3
  obtain ⟨v5, vs5, d5, ds5, p5, q5, rfl, rfl, rfl, h5, r5⟩ := trodAll_cons r4
  obtain ⟨rfl, rfl, rfl⟩ := trodAll_nil r5
  obtain rfl : args = #[v0, v1, v2, v3, v4, v5] := by cases args; simp_all
  obtain ⟨rfl, rfl⟩ := trodVars_none hV
  have k0 := h0
  obtain ⟨a0, c0, rfl, w0⟩ := arg_struct Try.underlying62 opens_Span (hval 0 62 v0 rfl rfl) h0
  obtain ⟨e0, w0⟩ := w0
  obtain rfl : c0 = a0.cells.toArray := by rw [← e0]
  have k1 := h1
  obtain ⟨a1, c1, rfl, w1⟩ := arg_struct Try.underlying62 opens_Span (hval 1 62 v1 rfl rfl) h1
  obtain ⟨e1, w1⟩ := w1
  obtain rfl : c1 = a1.cells.toArray := by rw [← e1]
  have k2 := h2
  obtain ⟨a2, rfl, w2⟩ := arg_int Try.underlying2 (hval 2 2 v2 rfl rfl) h2
  have k3 := h3
  obtain ⟨a3, rfl, w3⟩ := arg_int Try.underlying2 (hval 3 2 v3 rfl rfl) h3
  have k4 := h4
  obtain ⟨a4, rfl, w4⟩ := arg_int Try.underlying2 (hval 4 2 v4 rfl rfl) h4
  have k5 := h5
  obtain ⟨a5, rfl, w5⟩ := arg_int Try.underlying2 (hval 5 2 v5 rfl rfl) h5
  refine (law_SpanJoins a0 a1 a2 a3 a4 a5 W w0 w1 w2 w3 w4 w5).mono fun e W' ⟨he, bel⟩ => ?_
  subst he
  exact law_post rfl rfl rfl Try.underlying4 hW' bel (trodAll_cons_mk (Below.trod laid (by kernel_rfl) (of_decide_eq_true (by kernel_rfl)) k0 bel (fun x hx => hlt0 x (by simp [hx]))) (trodAll_cons_mk (Below.trod laid (by kernel_rfl) (of_decide_eq_true (by kernel_rfl)) k1 bel (fun x hx => hlt0 x (by simp [hx]))) (trodAll_cons_mk (Below.trod laid (by kernel_rfl) (of_decide_eq_true (by kernel_rfl)) k2 bel (fun x hx => hlt0 x (by simp [hx]))) (trodAll_cons_mk (Below.trod laid (by kernel_rfl) (of_decide_eq_true (by kernel_rfl)) k3 bel (fun x hx => hlt0 x (by simp [hx]))) (trodAll_cons_mk (Below.trod laid (by kernel_rfl) (of_decide_eq_true (by kernel_rfl)) k4 bel (fun x hx => hlt0 x (by simp [hx]))) (trodAll_cons_mk (Below.trod laid (by kernel_rfl) (of_decide_eq_true (by kernel_rfl)) k5 bel (fun x hx => hlt0 x (by simp [hx]))) trodAll_mk0))))))
theorem over : Rows.spanJoinsRow.holds Try.pinned (OpenSpec.ofChange Rows.spanJoinsSpec) :=
  OpenClaim.holds_of_wide 12 Try.f12 rfl rfl rfl rfl rfl rfl rfl ⟨rfl, rfl, rfl, rfl, rfl⟩ rfl rfl rfl rfl rfl (by kernel_rfl) Try.func12 (by kernel_rfl)
    (of_decide_eq_true (by kernel_rfl)) (by unfold Func.isWrapper; first | (rw [if_pos (by decide +kernel)]; kernel_rfl) | (rw [if_neg (by decide +kernel)]; exact ⟨rfl, rfl⟩))
    (fun os started H enc _ => lifted os started H enc)
end Go.Proofs.Ytkbaijdamddipaa.rowSpanJoins
namespace Go.Proofs.Ytkbaijdamddipaa
theorem spanJoins_holds : Rows.SpanJoinsSaid := rowSpanJoins.over
#print axioms spanJoins_holds
end Go.Proofs.Ytkbaijdamddipaa
