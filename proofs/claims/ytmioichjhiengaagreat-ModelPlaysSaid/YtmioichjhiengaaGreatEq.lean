/-
  '==' and '!=' between structs, as Bools over the fields. WRITTEN BY PROGRAM (wip/geneq.py).
-/
import Derived.Test.YtmioichjhiengaaGreatData
import Derived.Test.YtmioichjhiengaaGreatHeap
import Derived.Laws.StructEq
namespace Go.Proofs.YtmioichjhiengaaGreat
open Go.RowKit

/-- Two strings are the same. -/
def strB (a b : ByteArray) : Bool := decide (a.toList = b.toList)
theorem strB_iff (a b : ByteArray) : strB a b = true ↔ a = b := by
  unfold strB
  rw [decide_eq_true_eq]
  constructor
  · intro h
    have h2 : a.data.toList = b.data.toList := by
      rw [← ByteArray.toList_eq a, ← ByteArray.toList_eq b, h]
    cases a; cases b
    simp only [ByteArray.mk.injEq]
    exact Array.toList_inj.1 h2
  · rintro rfl; rfl
def Span.eqB (x y : Span) : Bool := x.s == y.s && x.e == y.e
theorem Span.eqB_iff (x y : Span) : x.eqB y = true ↔ x = y := by
  obtain ⟨x0, x1⟩ := x
  obtain ⟨y0, y1⟩ := y
  simp only [Span.eqB, Bool.and_eq_true, beq_iff_eq, Span.mk.injEq]
theorem run_eql_Span (x y : Span) (w : World) : (binOp .eql 84 (.agg x.cells.toArray) (.agg y.cells.toArray)).run Tryz.prog w = .ok (.bool (x.eqB y)) w := by
  have hS : Tryz.prog.underlying 84 = some (.struct (Tryz.prog.fieldsOf 84)) := by kernel_rfl
  have hp : Tryz.prog.stoodInHeld 84 = false := by kernel_rfl
  obtain ⟨a0, a1⟩ := x
  obtain ⟨b0, b1⟩ := y
  simp only [Span.cells, Span.eqB]
  rw [run_eql_struct, show (10000 : Nat) = 9999 + 1 from rfl, run_equalIn_agg w 9999 84 _ _ hS hp]
  simp only [Program.fieldsOf, Tryz.underlying84]
  go_simp
  by_cases h0 : a0 = b0
  rotate_left
  · simp [h0]
  by_cases h1 : a1 = b1
  rotate_left
  · simp [h0, h1]
  simp [h0, h1]
theorem run_neq_Span (x y : Span) (w : World) : (binOp .neq 84 (.agg x.cells.toArray) (.agg y.cells.toArray)).run Tryz.prog w = .ok (.bool (!(x.eqB y))) w := by
  have hS : Tryz.prog.underlying 84 = some (.struct (Tryz.prog.fieldsOf 84)) := by kernel_rfl
  have hp : Tryz.prog.stoodInHeld 84 = false := by kernel_rfl
  obtain ⟨a0, a1⟩ := x
  obtain ⟨b0, b1⟩ := y
  simp only [Span.cells, Span.eqB]
  rw [run_neq_struct, show (10000 : Nat) = 9999 + 1 from rfl, run_equalIn_agg w 9999 84 _ _ hS hp]
  simp only [Program.fieldsOf, Tryz.underlying84]
  go_simp
  by_cases h0 : a0 = b0
  rotate_left
  · simp [h0]
  by_cases h1 : a1 = b1
  rotate_left
  · simp [h0, h1]
  simp [h0, h1]
def Agg.eqB (x y : Agg) : Bool := x.count == y.count && (x.sum == y.sum && (x.lo == y.lo && x.hi == y.hi))
theorem Agg.eqB_iff (x y : Agg) : x.eqB y = true ↔ x = y := by
  obtain ⟨x0, x1, x2, x3⟩ := x
  obtain ⟨y0, y1, y2, y3⟩ := y
  simp only [Agg.eqB, Bool.and_eq_true, beq_iff_eq, Agg.mk.injEq]
theorem run_eql_Agg (x y : Agg) (w : World) : (binOp .eql 86 (.agg x.cells.toArray) (.agg y.cells.toArray)).run Tryz.prog w = .ok (.bool (x.eqB y)) w := by
  have hS : Tryz.prog.underlying 86 = some (.struct (Tryz.prog.fieldsOf 86)) := by kernel_rfl
  have hp : Tryz.prog.stoodInHeld 86 = false := by kernel_rfl
  obtain ⟨a0, a1, a2, a3⟩ := x
  obtain ⟨b0, b1, b2, b3⟩ := y
  simp only [Agg.cells, Agg.eqB]
  rw [run_eql_struct, show (10000 : Nat) = 9999 + 1 from rfl, run_equalIn_agg w 9999 86 _ _ hS hp]
  simp only [Program.fieldsOf, Tryz.underlying86]
  go_simp
  by_cases h0 : a0 = b0
  rotate_left
  · simp [h0]
  by_cases h1 : a1 = b1
  rotate_left
  · simp [h0, h1]
  by_cases h2 : a2 = b2
  rotate_left
  · simp [h0, h1, h2]
  by_cases h3 : a3 = b3
  rotate_left
  · simp [h0, h1, h2, h3]
  simp [h0, h1, h2, h3]
theorem run_neq_Agg (x y : Agg) (w : World) : (binOp .neq 86 (.agg x.cells.toArray) (.agg y.cells.toArray)).run Tryz.prog w = .ok (.bool (!(x.eqB y))) w := by
  have hS : Tryz.prog.underlying 86 = some (.struct (Tryz.prog.fieldsOf 86)) := by kernel_rfl
  have hp : Tryz.prog.stoodInHeld 86 = false := by kernel_rfl
  obtain ⟨a0, a1, a2, a3⟩ := x
  obtain ⟨b0, b1, b2, b3⟩ := y
  simp only [Agg.cells, Agg.eqB]
  rw [run_neq_struct, show (10000 : Nat) = 9999 + 1 from rfl, run_equalIn_agg w 9999 86 _ _ hS hp]
  simp only [Program.fieldsOf, Tryz.underlying86]
  go_simp
  by_cases h0 : a0 = b0
  rotate_left
  · simp [h0]
  by_cases h1 : a1 = b1
  rotate_left
  · simp [h0, h1]
  by_cases h2 : a2 = b2
  rotate_left
  · simp [h0, h1, h2]
  by_cases h3 : a3 = b3
  rotate_left
  · simp [h0, h1, h2, h3]
  simp [h0, h1, h2, h3]
def Pane.eqB (x y : Pane) : Bool := strB x.key y.key && (x.span.eqB y.span && x.agg.eqB y.agg)
theorem Pane.eqB_iff (x y : Pane) : x.eqB y = true ↔ x = y := by
  obtain ⟨x0, x1, x2⟩ := x
  obtain ⟨y0, y1, y2⟩ := y
  simp only [Pane.eqB, Bool.and_eq_true, beq_iff_eq, Pane.mk.injEq, strB_iff, Agg.eqB_iff, Span.eqB_iff]
theorem run_eql_Pane (x y : Pane) (w : World) : (binOp .eql 88 (.agg x.cells.toArray) (.agg y.cells.toArray)).run Tryz.prog w = .ok (.bool (x.eqB y)) w := by
  have hS : Tryz.prog.underlying 88 = some (.struct (Tryz.prog.fieldsOf 88)) := by kernel_rfl
  have hp : Tryz.prog.stoodInHeld 88 = false := by kernel_rfl
  obtain ⟨a0, ⟨a1, a2⟩, ⟨a3, a4, a5, a6⟩⟩ := x
  obtain ⟨b0, ⟨b1, b2⟩, ⟨b3, b4, b5, b6⟩⟩ := y
  simp only [Agg.cells, Agg.eqB, Pane.cells, Pane.eqB, Span.cells, Span.eqB, strB]
  rw [run_eql_struct, show (10000 : Nat) = 9999 + 1 from rfl, run_equalIn_agg w 9999 88 _ _ hS hp]
  simp only [Program.fieldsOf, Tryz.underlying88]
  go_simp
  by_cases h0 : a0.toList = b0.toList
  rotate_left
  · simp [h0]
  by_cases h1 : a1 = b1
  rotate_left
  · simp [h0, h1]
  by_cases h2 : a2 = b2
  rotate_left
  · simp [h0, h1, h2]
  by_cases h3 : a3 = b3
  rotate_left
  · simp [h0, h1, h2, h3]
  by_cases h4 : a4 = b4
  rotate_left
  · simp [h0, h1, h2, h3, h4]
  by_cases h5 : a5 = b5
  rotate_left
  · simp [h0, h1, h2, h3, h4, h5]
  by_cases h6 : a6 = b6
  rotate_left
  · simp [h0, h1, h2, h3, h4, h5, h6]
  simp [h0, h1, h2, h3, h4, h5, h6]
theorem run_neq_Pane (x y : Pane) (w : World) : (binOp .neq 88 (.agg x.cells.toArray) (.agg y.cells.toArray)).run Tryz.prog w = .ok (.bool (!(x.eqB y))) w := by
  have hS : Tryz.prog.underlying 88 = some (.struct (Tryz.prog.fieldsOf 88)) := by kernel_rfl
  have hp : Tryz.prog.stoodInHeld 88 = false := by kernel_rfl
  obtain ⟨a0, ⟨a1, a2⟩, ⟨a3, a4, a5, a6⟩⟩ := x
  obtain ⟨b0, ⟨b1, b2⟩, ⟨b3, b4, b5, b6⟩⟩ := y
  simp only [Agg.cells, Agg.eqB, Pane.cells, Pane.eqB, Span.cells, Span.eqB, strB]
  rw [run_neq_struct, show (10000 : Nat) = 9999 + 1 from rfl, run_equalIn_agg w 9999 88 _ _ hS hp]
  simp only [Program.fieldsOf, Tryz.underlying88]
  go_simp
  by_cases h0 : a0.toList = b0.toList
  rotate_left
  · simp [h0]
  by_cases h1 : a1 = b1
  rotate_left
  · simp [h0, h1]
  by_cases h2 : a2 = b2
  rotate_left
  · simp [h0, h1, h2]
  by_cases h3 : a3 = b3
  rotate_left
  · simp [h0, h1, h2, h3]
  by_cases h4 : a4 = b4
  rotate_left
  · simp [h0, h1, h2, h3, h4]
  by_cases h5 : a5 = b5
  rotate_left
  · simp [h0, h1, h2, h3, h4, h5]
  by_cases h6 : a6 = b6
  rotate_left
  · simp [h0, h1, h2, h3, h4, h5, h6]
  simp [h0, h1, h2, h3, h4, h5, h6]
def Call.eqB (x y : Call) : Bool := x.op == y.op && (strB x.key y.key && (x.time == y.time && (x.value == y.value && (x.fin == y.fin && (x.group == y.group && x.shard == y.shard)))))
theorem Call.eqB_iff (x y : Call) : x.eqB y = true ↔ x = y := by
  obtain ⟨x0, x1, x2, x3, x4, x5, x6⟩ := x
  obtain ⟨y0, y1, y2, y3, y4, y5, y6⟩ := y
  simp only [Call.eqB, Bool.and_eq_true, beq_iff_eq, Call.mk.injEq, strB_iff]
theorem run_eql_Call (x y : Call) (w : World) : (binOp .eql 60 (.agg x.cells.toArray) (.agg y.cells.toArray)).run Tryz.prog w = .ok (.bool (x.eqB y)) w := by
  have hS : Tryz.prog.underlying 60 = some (.struct (Tryz.prog.fieldsOf 60)) := by kernel_rfl
  have hp : Tryz.prog.stoodInHeld 60 = false := by kernel_rfl
  obtain ⟨a0, a1, a2, a3, a4, a5, a6⟩ := x
  obtain ⟨b0, b1, b2, b3, b4, b5, b6⟩ := y
  simp only [Call.cells, Call.eqB, strB]
  rw [run_eql_struct, show (10000 : Nat) = 9999 + 1 from rfl, run_equalIn_agg w 9999 60 _ _ hS hp]
  simp only [Program.fieldsOf, Tryz.underlying60]
  go_simp
  by_cases h0 : a0 = b0
  rotate_left
  · simp [h0]
  by_cases h1 : a1.toList = b1.toList
  rotate_left
  · simp [h0, h1]
  by_cases h2 : a2 = b2
  rotate_left
  · simp [h0, h1, h2]
  by_cases h3 : a3 = b3
  rotate_left
  · simp [h0, h1, h2, h3]
  by_cases h4 : a4 = b4
  rotate_left
  · simp [h0, h1, h2, h3, h4]
  by_cases h5 : a5 = b5
  rotate_left
  · simp [h0, h1, h2, h3, h4, h5]
  by_cases h6 : a6 = b6
  rotate_left
  · simp [h0, h1, h2, h3, h4, h5, h6]
  simp [h0, h1, h2, h3, h4, h5, h6]
theorem run_neq_Call (x y : Call) (w : World) : (binOp .neq 60 (.agg x.cells.toArray) (.agg y.cells.toArray)).run Tryz.prog w = .ok (.bool (!(x.eqB y))) w := by
  have hS : Tryz.prog.underlying 60 = some (.struct (Tryz.prog.fieldsOf 60)) := by kernel_rfl
  have hp : Tryz.prog.stoodInHeld 60 = false := by kernel_rfl
  obtain ⟨a0, a1, a2, a3, a4, a5, a6⟩ := x
  obtain ⟨b0, b1, b2, b3, b4, b5, b6⟩ := y
  simp only [Call.cells, Call.eqB, strB]
  rw [run_neq_struct, show (10000 : Nat) = 9999 + 1 from rfl, run_equalIn_agg w 9999 60 _ _ hS hp]
  simp only [Program.fieldsOf, Tryz.underlying60]
  go_simp
  by_cases h0 : a0 = b0
  rotate_left
  · simp [h0]
  by_cases h1 : a1.toList = b1.toList
  rotate_left
  · simp [h0, h1]
  by_cases h2 : a2 = b2
  rotate_left
  · simp [h0, h1, h2]
  by_cases h3 : a3 = b3
  rotate_left
  · simp [h0, h1, h2, h3]
  by_cases h4 : a4 = b4
  rotate_left
  · simp [h0, h1, h2, h3, h4]
  by_cases h5 : a5 = b5
  rotate_left
  · simp [h0, h1, h2, h3, h4, h5]
  by_cases h6 : a6 = b6
  rotate_left
  · simp [h0, h1, h2, h3, h4, h5, h6]
  simp [h0, h1, h2, h3, h4, h5, h6]
def Timer.eqB (x y : Timer) : Bool := strB x.key y.key && x.span.eqB y.span
theorem Timer.eqB_iff (x y : Timer) : x.eqB y = true ↔ x = y := by
  obtain ⟨x0, x1⟩ := x
  obtain ⟨y0, y1⟩ := y
  simp only [Timer.eqB, Bool.and_eq_true, beq_iff_eq, Timer.mk.injEq, strB_iff, Span.eqB_iff]
theorem run_eql_Timer (x y : Timer) (w : World) : (binOp .eql 95 (.agg x.cells.toArray) (.agg y.cells.toArray)).run Tryz.prog w = .ok (.bool (x.eqB y)) w := by
  have hS : Tryz.prog.underlying 95 = some (.struct (Tryz.prog.fieldsOf 95)) := by kernel_rfl
  have hp : Tryz.prog.stoodInHeld 95 = false := by kernel_rfl
  obtain ⟨a0, ⟨a1, a2⟩⟩ := x
  obtain ⟨b0, ⟨b1, b2⟩⟩ := y
  simp only [Span.cells, Span.eqB, Timer.cells, Timer.eqB, strB]
  rw [run_eql_struct, show (10000 : Nat) = 9999 + 1 from rfl, run_equalIn_agg w 9999 95 _ _ hS hp]
  simp only [Program.fieldsOf, Tryz.underlying95]
  go_simp
  by_cases h0 : a0.toList = b0.toList
  rotate_left
  · simp [h0]
  by_cases h1 : a1 = b1
  rotate_left
  · simp [h0, h1]
  by_cases h2 : a2 = b2
  rotate_left
  · simp [h0, h1, h2]
  simp [h0, h1, h2]
theorem run_neq_Timer (x y : Timer) (w : World) : (binOp .neq 95 (.agg x.cells.toArray) (.agg y.cells.toArray)).run Tryz.prog w = .ok (.bool (!(x.eqB y))) w := by
  have hS : Tryz.prog.underlying 95 = some (.struct (Tryz.prog.fieldsOf 95)) := by kernel_rfl
  have hp : Tryz.prog.stoodInHeld 95 = false := by kernel_rfl
  obtain ⟨a0, ⟨a1, a2⟩⟩ := x
  obtain ⟨b0, ⟨b1, b2⟩⟩ := y
  simp only [Span.cells, Span.eqB, Timer.cells, Timer.eqB, strB]
  rw [run_neq_struct, show (10000 : Nat) = 9999 + 1 from rfl, run_equalIn_agg w 9999 95 _ _ hS hp]
  simp only [Program.fieldsOf, Tryz.underlying95]
  go_simp
  by_cases h0 : a0.toList = b0.toList
  rotate_left
  · simp [h0]
  by_cases h1 : a1 = b1
  rotate_left
  · simp [h0, h1]
  by_cases h2 : a2 = b2
  rotate_left
  · simp [h0, h1, h2]
  simp [h0, h1, h2]
end Go.Proofs.YtmioichjhiengaaGreat
