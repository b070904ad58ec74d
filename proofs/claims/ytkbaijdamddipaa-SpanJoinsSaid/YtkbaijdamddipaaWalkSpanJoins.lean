/-
  The walk of the law SpanJoins.
-/
import Derived.Test.YtkbaijdamddipaaSpanJ
namespace Go.Proofs.Ytkbaijdamddipaa
open Go.RowKit

set_option maxHeartbeats 8000000 in
set_option maxRecDepth 100000 in
theorem law_SpanJoins (a b : Span) (t late mark more : Int) (W : World) (ha : a.ok) (hb : b.ok) (ht : I64 t) (hl : I64 late) (hm : I64 mark) (hmo : I64 more) :
    Calls Try.prog 12 #[.agg a.cells.toArray, .agg b.cells.toArray, .int .i64 t, .int .i64 late, .int .i64 mark, .int .i64 more] W fun e W' => e = .returned (.bool true) ∧ Below W.heap.size W W' := by
  have c1 := fun w => span_has w a t
  have c2 := fun w => span_has w b t
  have c3 := fun w => span_has w (a.join b) t
  have c4 := fun w => span_meet w a b
  have c5 := fun w => span_meet w b a
  have cj := Lib.hid (fun w => span_join w a b)
  have cj2 := fun w => span_join w b a
  rw [show b.join a = a.join b by unfold Span.join; congr 1 <;> split <;> split <;> omega] at cj2
  have cj2 := Lib.hid cj2
  rw [show b.meetB a = a.meetB b by unfold Span.meetB; cases a.mayB <;> cases b.mayB <;> simp [Bool.and_comm]] at c5
  -- is it over
  have hov : OvFacts a late mark more := by
    unfold OvFacts
    have o1 := fun w => span_over w a late mark ha hl hm
    have o2 := fun w => span_over w a late more ha hl hmo
    by_cases h1 : a.e + late ≤ mark
    · rw [show a.overB late mark = true by simpa [Span.overB] using h1] at o1
      by_cases h2 : mark ≤ more
      · rw [show a.overB late more = true by simp [Span.overB]; omega] at o2
        exact Or.inl ⟨by simpa using h2, Lib.hid o1, Lib.hid o2⟩
      · exact Or.inr (Or.inl ⟨by simpa using h2, Lib.hid o1, Lib.hid fun _ => trivial⟩)
    · rw [show a.overB late mark = false by simpa [Span.overB] using h1] at o1
      exact Or.inr (Or.inr ⟨Lib.hid o1, Lib.hid fun _ => trivial⟩)
  have hf1 : (a.hasB t || b.hasB t) = true → (a.join b).hasB t = true := by
    unfold Span.hasB Span.join; simp; intro h; split <;> split <;> omega
  have hf2 : a.meetB b = true → (a.join b).hasB t = (a.hasB t || b.hasB t) := by
    unfold Span.meetB Span.mayB Span.hasB Span.join; simp; intro h1 h2 h3 h4; rw [Bool.eq_iff_iff]; simp; split <;> split <;> omega
  clear ha hb ht hl hm hmo
  generalize a.hasB t = A at c1 hf1 hf2
  generalize b.hasB t = B at c2 hf1 hf2
  generalize (a.join b).hasB t = J at c3 hf1 hf2
  generalize a.meetB b = M at c4 c5 hf2
  have c1 := Lib.hid c1
  have c2 := Lib.hid c2
  have c3 := Lib.hid c3
  have c4 := Lib.hid c4
  have c5 := Lib.hid c5
  have hcases : (A = true ∧ J = true) ∨ (A = false ∧ B = true ∧ J = true) ∨ (A = false ∧ B = false ∧ J = false) ∨ (A = false ∧ B = false ∧ J = true ∧ M = false) := by
    cases A <;> cases B <;> cases J <;> cases M <;> simp at hf1 hf2 ⊢
  clear hf1 hf2
  rcases hcases with ⟨rfl, rfl⟩ | ⟨rfl, rfl, rfl⟩ | ⟨rfl, rfl, rfl⟩ | ⟨rfl, rfl, rfl, rfl⟩
  · cases M
    · exact j1 a b t late mark more B W c1 c2 c3 c4 c5 cj cj2 hov
    · exact j2 a b t late mark more B W c1 c2 c3 c4 c5 cj cj2 hov
  · cases M
    · exact j3 a b t late mark more W c1 c2 c3 c4 c5 cj cj2 hov
    · exact j4 a b t late mark more W c1 c2 c3 c4 c5 cj cj2 hov
  · cases M
    · exact j5 a b t late mark more W c1 c2 c3 c4 c5 cj cj2 hov
    · exact j6 a b t late mark more W c1 c2 c3 c4 c5 cj cj2 hov
  · exact j7 a b t late mark more W c1 c2 c3 c4 c5 cj cj2 hov
end Go.Proofs.Ytkbaijdamddipaa
