/-
  Go's struct types as Lean structures, their cells in memory, and that whatever reads as data reads as such. WRITTEN BY PROGRAM (wip/gendata.py).
-/
import Derived.Test.YtkbaijdamddipaaProg
import Derived.Test.YtkbaijdamddipaaRead
import Derived.KernelRfl
namespace Go.Proofs.Ytkbaijdamddipaa
open Go.RowKit
theorem laid : laidOutB Try.prog = true := by kernel_rfl

structure Span where
  s : Int
  e : Int
instance : Inhabited Span := ⟨⟨0, 0⟩⟩
abbrev Span.cells (x : Span) : List Value := [.int .i64 x.s, .int .i64 x.e]
attribute [go_sem] Span.cells
def Span.ok (x : Span) : Prop := I64 x.s ∧ I64 x.e
theorem Span.cells_length (x : Span) : x.cells.length = 2 := rfl
theorem cellsOf_Span : Try.prog.cellsOf 62 = 2 := by kernel_rfl
def rSpan : Rdr Span := fun _ x cs => cs = x.cells ∧ x.ok
theorem opens_Span : Opens Try.prog 62 rSpan := by
  intro H enc w fuel cs x h
  have hl := opens_len Try.underlying62 cellsOf_Span h
  obtain ⟨a0, h0⟩ := opens_field (i := 0) (o := 0) (m := 1) Try.underlying62 rfl rfl (by kernel_rfl) (opens_int (by kernel_rfl)) H enc w fuel cs x h
  obtain ⟨a1, h1⟩ := opens_field (i := 1) (o := 1) (m := 1) Try.underlying62 rfl rfl (by kernel_rfl) (opens_int (by kernel_rfl)) H enc w fuel cs x h
  match cs, hl with
  | [c0, c1], _ =>
    simp only [List.drop, List.take, rInt, rBool, rStr] at h0 h1
    refine ⟨⟨a0, a1⟩, ?_, ⟨h0.2, h1.2⟩⟩
    have e0 := h0.1
    have e1 := h1.1
    simp only [Span.cells]
    simp only [List.cons.injEq, and_true] at e0 e1 ⊢
    simp [e0, e1]
structure Agg where
  count : Int
  sum : Int
  lo : Int
  hi : Int
instance : Inhabited Agg := ⟨⟨0, 0, 0, 0⟩⟩
abbrev Agg.cells (x : Agg) : List Value := [.int .i64 x.count, .int .i64 x.sum, .int .i64 x.lo, .int .i64 x.hi]
attribute [go_sem] Agg.cells
def Agg.ok (x : Agg) : Prop := I64 x.count ∧ I64 x.sum ∧ I64 x.lo ∧ I64 x.hi
theorem Agg.cells_length (x : Agg) : x.cells.length = 4 := rfl
theorem cellsOf_Agg : Try.prog.cellsOf 23 = 4 := by kernel_rfl
def rAgg : Rdr Agg := fun _ x cs => cs = x.cells ∧ x.ok
theorem opens_Agg : Opens Try.prog 23 rAgg := by
  intro H enc w fuel cs x h
  have hl := opens_len Try.underlying23 cellsOf_Agg h
  obtain ⟨a0, h0⟩ := opens_field (i := 0) (o := 0) (m := 1) Try.underlying23 rfl rfl (by kernel_rfl) (opens_int (by kernel_rfl)) H enc w fuel cs x h
  obtain ⟨a1, h1⟩ := opens_field (i := 1) (o := 1) (m := 1) Try.underlying23 rfl rfl (by kernel_rfl) (opens_int (by kernel_rfl)) H enc w fuel cs x h
  obtain ⟨a2, h2⟩ := opens_field (i := 2) (o := 2) (m := 1) Try.underlying23 rfl rfl (by kernel_rfl) (opens_int (by kernel_rfl)) H enc w fuel cs x h
  obtain ⟨a3, h3⟩ := opens_field (i := 3) (o := 3) (m := 1) Try.underlying23 rfl rfl (by kernel_rfl) (opens_int (by kernel_rfl)) H enc w fuel cs x h
  match cs, hl with
  | [c0, c1, c2, c3], _ =>
    simp only [List.drop, List.take, rInt, rBool, rStr] at h0 h1 h2 h3
    refine ⟨⟨a0, a1, a2, a3⟩, ?_, ⟨h0.2, h1.2, h2.2, h3.2⟩⟩
    have e0 := h0.1
    have e1 := h1.1
    have e2 := h2.1
    have e3 := h3.1
    simp only [Agg.cells]
    simp only [List.cons.injEq, and_true] at e0 e1 e2 e3 ⊢
    simp [e0, e1, e2, e3]
structure Config where
  kind : Int
  size : Int
  slide : Int
  gap : Int
  late : Int
  shards : Int
  groups : Int
  cap : Int
instance : Inhabited Config := ⟨⟨0, 0, 0, 0, 0, 0, 0, 0⟩⟩
abbrev Config.cells (x : Config) : List Value := [.int .i64 x.kind, .int .i64 x.size, .int .i64 x.slide, .int .i64 x.gap, .int .i64 x.late, .int .i64 x.shards, .int .i64 x.groups, .int .i64 x.cap]
attribute [go_sem] Config.cells
def Config.ok (x : Config) : Prop := I64 x.kind ∧ I64 x.size ∧ I64 x.slide ∧ I64 x.gap ∧ I64 x.late ∧ I64 x.shards ∧ I64 x.groups ∧ I64 x.cap
theorem Config.cells_length (x : Config) : x.cells.length = 8 := rfl
theorem cellsOf_Config : Try.prog.cellsOf 72 = 8 := by kernel_rfl
def rConfig : Rdr Config := fun _ x cs => cs = x.cells ∧ x.ok
theorem opens_Config : Opens Try.prog 72 rConfig := by
  intro H enc w fuel cs x h
  have hl := opens_len Try.underlying72 cellsOf_Config h
  obtain ⟨a0, h0⟩ := opens_field (i := 0) (o := 0) (m := 1) Try.underlying72 rfl rfl (by kernel_rfl) (opens_int (by kernel_rfl)) H enc w fuel cs x h
  obtain ⟨a1, h1⟩ := opens_field (i := 1) (o := 1) (m := 1) Try.underlying72 rfl rfl (by kernel_rfl) (opens_int (by kernel_rfl)) H enc w fuel cs x h
  obtain ⟨a2, h2⟩ := opens_field (i := 2) (o := 2) (m := 1) Try.underlying72 rfl rfl (by kernel_rfl) (opens_int (by kernel_rfl)) H enc w fuel cs x h
  obtain ⟨a3, h3⟩ := opens_field (i := 3) (o := 3) (m := 1) Try.underlying72 rfl rfl (by kernel_rfl) (opens_int (by kernel_rfl)) H enc w fuel cs x h
  obtain ⟨a4, h4⟩ := opens_field (i := 4) (o := 4) (m := 1) Try.underlying72 rfl rfl (by kernel_rfl) (opens_int (by kernel_rfl)) H enc w fuel cs x h
  obtain ⟨a5, h5⟩ := opens_field (i := 5) (o := 5) (m := 1) Try.underlying72 rfl rfl (by kernel_rfl) (opens_int (by kernel_rfl)) H enc w fuel cs x h
  obtain ⟨a6, h6⟩ := opens_field (i := 6) (o := 6) (m := 1) Try.underlying72 rfl rfl (by kernel_rfl) (opens_int (by kernel_rfl)) H enc w fuel cs x h
  obtain ⟨a7, h7⟩ := opens_field (i := 7) (o := 7) (m := 1) Try.underlying72 rfl rfl (by kernel_rfl) (opens_int (by kernel_rfl)) H enc w fuel cs x h
  match cs, hl with
  | [c0, c1, c2, c3, c4, c5, c6, c7], _ =>
    simp only [List.drop, List.take, rInt, rBool, rStr] at h0 h1 h2 h3 h4 h5 h6 h7
    refine ⟨⟨a0, a1, a2, a3, a4, a5, a6, a7⟩, ?_, ⟨h0.2, h1.2, h2.2, h3.2, h4.2, h5.2, h6.2, h7.2⟩⟩
    have e0 := h0.1
    have e1 := h1.1
    have e2 := h2.1
    have e3 := h3.1
    have e4 := h4.1
    have e5 := h5.1
    have e6 := h6.1
    have e7 := h7.1
    simp only [Config.cells]
    simp only [List.cons.injEq, and_true] at e0 e1 e2 e3 e4 e5 e6 e7 ⊢
    simp [e0, e1, e2, e3, e4, e5, e6, e7]
structure Deed16 where
  what : Int
  who : Int
  mark : Int
instance : Inhabited Deed16 := ⟨⟨0, 0, 0⟩⟩
abbrev Deed16.cells (x : Deed16) : List Value := [.int .i64 x.what, .int .i64 x.who, .int .i64 x.mark]
attribute [go_sem] Deed16.cells
def Deed16.ok (x : Deed16) : Prop := I64 x.what ∧ I64 x.who ∧ I64 x.mark
theorem Deed16.cells_length (x : Deed16) : x.cells.length = 3 := rfl
theorem cellsOf_Deed16 : Try.prog.cellsOf 42 = 3 := by kernel_rfl
def rDeed16 : Rdr Deed16 := fun _ x cs => cs = x.cells ∧ x.ok
theorem opens_Deed16 : Opens Try.prog 42 rDeed16 := by
  intro H enc w fuel cs x h
  have hl := opens_len Try.underlying42 cellsOf_Deed16 h
  obtain ⟨a0, h0⟩ := opens_field (i := 0) (o := 0) (m := 1) Try.underlying42 rfl rfl (by kernel_rfl) (opens_int (by kernel_rfl)) H enc w fuel cs x h
  obtain ⟨a1, h1⟩ := opens_field (i := 1) (o := 1) (m := 1) Try.underlying42 rfl rfl (by kernel_rfl) (opens_int (by kernel_rfl)) H enc w fuel cs x h
  obtain ⟨a2, h2⟩ := opens_field (i := 2) (o := 2) (m := 1) Try.underlying42 rfl rfl (by kernel_rfl) (opens_int (by kernel_rfl)) H enc w fuel cs x h
  match cs, hl with
  | [c0, c1, c2], _ =>
    simp only [List.drop, List.take, rInt, rBool, rStr] at h0 h1 h2
    refine ⟨⟨a0, a1, a2⟩, ?_, ⟨h0.2, h1.2, h2.2⟩⟩
    have e0 := h0.1
    have e1 := h1.1
    have e2 := h2.1
    simp only [Deed16.cells]
    simp only [List.cons.injEq, and_true] at e0 e1 e2 ⊢
    simp [e0, e1, e2]
end Go.Proofs.Ytkbaijdamddipaa
