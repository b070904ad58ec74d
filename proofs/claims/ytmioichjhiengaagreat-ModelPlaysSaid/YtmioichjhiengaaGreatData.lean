/-
  Go's struct types as Lean structures, their cells in memory, and that whatever reads as data reads as such. WRITTEN BY PROGRAM (wip/gendata.py).
-/
import Derived.Test.YtmioichjhiengaaGreatProg
import Derived.Test.YtmioichjhiengaaGreatRead
import Derived.KernelRfl
namespace Go.Proofs.YtmioichjhiengaaGreat
open Go.RowKit
theorem laid : laidOutB Tryz.prog = true := by kernel_rfl

structure Span where
  s : Int
  e : Int
instance : Inhabited Span := ⟨⟨0, 0⟩⟩
abbrev Span.cells (x : Span) : List Value := [.int .i64 x.s, .int .i64 x.e]
attribute [go_sem] Span.cells
def Span.ok (x : Span) : Prop := I64 x.s ∧ I64 x.e
theorem Span.cells_length (x : Span) : x.cells.length = 2 := rfl
theorem cellsOf_Span : Tryz.prog.cellsOf 84 = 2 := by kernel_rfl
def rSpan : Rdr Span := fun _ x cs => cs = x.cells ∧ x.ok
theorem opens_Span : Opens Tryz.prog 84 rSpan := by
  intro H enc w fuel cs x h
  have hl := opens_len Tryz.underlying84 cellsOf_Span h
  obtain ⟨a0, h0⟩ := opens_field (i := 0) (o := 0) (m := 1) Tryz.underlying84 rfl rfl (by kernel_rfl) (opens_int (by kernel_rfl)) H enc w fuel cs x h
  obtain ⟨a1, h1⟩ := opens_field (i := 1) (o := 1) (m := 1) Tryz.underlying84 rfl rfl (by kernel_rfl) (opens_int (by kernel_rfl)) H enc w fuel cs x h
  match cs, hl with
  | [c0, c1], _ =>
    simp only [List.drop, List.take, rInt, rBool, rStr] at h0 h1
    refine ⟨⟨a0, a1⟩, ?_, ⟨h0.2, h1.2⟩⟩
    have e0 := h0.1
    have e1 := h1.1
    simp only [Span.cells]
    simp only [List.cons.injEq, and_true] at e0 e1 ⊢
    simp [e0, e1]
structure Agg where
  count : Int
  sum : Int
  lo : Int
  hi : Int
instance : Inhabited Agg := ⟨⟨0, 0, 0, 0⟩⟩
abbrev Agg.cells (x : Agg) : List Value := [.int .i64 x.count, .int .i64 x.sum, .int .i64 x.lo, .int .i64 x.hi]
attribute [go_sem] Agg.cells
def Agg.ok (x : Agg) : Prop := I64 x.count ∧ I64 x.sum ∧ I64 x.lo ∧ I64 x.hi
theorem Agg.cells_length (x : Agg) : x.cells.length = 4 := rfl
theorem cellsOf_Agg : Tryz.prog.cellsOf 86 = 4 := by kernel_rfl
def rAgg : Rdr Agg := fun _ x cs => cs = x.cells ∧ x.ok
theorem opens_Agg : Opens Tryz.prog 86 rAgg := by
  intro H enc w fuel cs x h
  have hl := opens_len Tryz.underlying86 cellsOf_Agg h
  obtain ⟨a0, h0⟩ := opens_field (i := 0) (o := 0) (m := 1) Tryz.underlying86 rfl rfl (by kernel_rfl) (opens_int (by kernel_rfl)) H enc w fuel cs x h
  obtain ⟨a1, h1⟩ := opens_field (i := 1) (o := 1) (m := 1) Tryz.underlying86 rfl rfl (by kernel_rfl) (opens_int (by kernel_rfl)) H enc w fuel cs x h
  obtain ⟨a2, h2⟩ := opens_field (i := 2) (o := 2) (m := 1) Tryz.underlying86 rfl rfl (by kernel_rfl) (opens_int (by kernel_rfl)) H enc w fuel cs x h
  obtain ⟨a3, h3⟩ := opens_field (i := 3) (o := 3) (m := 1) Tryz.underlying86 rfl rfl (by kernel_rfl) (opens_int (by kernel_rfl)) H enc w fuel cs x h
  match cs, hl with
  | [c0, c1, c2, c3], _ =>
    simp only [List.drop, List.take, rInt, rBool, rStr] at h0 h1 h2 h3
    refine ⟨⟨a0, a1, a2, a3⟩, ?_, ⟨h0.2, h1.2, h2.2, h3.2⟩⟩
    have e0 := h0.1
    have e1 := h1.1
    have e2 := h2.1
    have e3 := h3.1
    simp only [Agg.cells]
    simp only [List.cons.injEq, and_true] at e0 e1 e2 e3 ⊢
    simp [e0, e1, e2, e3]
structure Config where
  kind : Int
  size : Int
  slide : Int
  gap : Int
  late : Int
  shards : Int
  groups : Int
  cap : Int
instance : Inhabited Config := ⟨⟨0, 0, 0, 0, 0, 0, 0, 0⟩⟩
abbrev Config.cells (x : Config) : List Value := [.int .i64 x.kind, .int .i64 x.size, .int .i64 x.slide, .int .i64 x.gap, .int .i64 x.late, .int .i64 x.shards, .int .i64 x.groups, .int .i64 x.cap]
attribute [go_sem] Config.cells
def Config.ok (x : Config) : Prop := I64 x.kind ∧ I64 x.size ∧ I64 x.slide ∧ I64 x.gap ∧ I64 x.late ∧ I64 x.shards ∧ I64 x.groups ∧ I64 x.cap
theorem Config.cells_length (x : Config) : x.cells.length = 8 := rfl
theorem cellsOf_Config : Tryz.prog.cellsOf 23 = 8 := by kernel_rfl
def rConfig : Rdr Config := fun _ x cs => cs = x.cells ∧ x.ok
theorem opens_Config : Opens Tryz.prog 23 rConfig := by
  intro H enc w fuel cs x h
  have hl := opens_len Tryz.underlying23 cellsOf_Config h
  obtain ⟨a0, h0⟩ := opens_field (i := 0) (o := 0) (m := 1) Tryz.underlying23 rfl rfl (by kernel_rfl) (opens_int (by kernel_rfl)) H enc w fuel cs x h
  obtain ⟨a1, h1⟩ := opens_field (i := 1) (o := 1) (m := 1) Tryz.underlying23 rfl rfl (by kernel_rfl) (opens_int (by kernel_rfl)) H enc w fuel cs x h
  obtain ⟨a2, h2⟩ := opens_field (i := 2) (o := 2) (m := 1) Tryz.underlying23 rfl rfl (by kernel_rfl) (opens_int (by kernel_rfl)) H enc w fuel cs x h
  obtain ⟨a3, h3⟩ := opens_field (i := 3) (o := 3) (m := 1) Tryz.underlying23 rfl rfl (by kernel_rfl) (opens_int (by kernel_rfl)) H enc w fuel cs x h
  obtain ⟨a4, h4⟩ := opens_field (i := 4) (o := 4) (m := 1) Tryz.underlying23 rfl rfl (by kernel_rfl) (opens_int (by kernel_rfl)) H enc w fuel cs x h
  obtain ⟨a5, h5⟩ := opens_field (i := 5) (o := 5) (m := 1) Tryz.underlying23 rfl rfl (by kernel_rfl) (opens_int (by kernel_rfl)) H enc w fuel cs x h
  obtain ⟨a6, h6⟩ := opens_field (i := 6) (o := 6) (m := 1) Tryz.underlying23 rfl rfl (by kernel_rfl) (opens_int (by kernel_rfl)) H enc w fuel cs x h
  obtain ⟨a7, h7⟩ := opens_field (i := 7) (o := 7) (m := 1) Tryz.underlying23 rfl rfl (by kernel_rfl) (opens_int (by kernel_rfl)) H enc w fuel cs x h
  match cs, hl with
  | [c0, c1, c2, c3, c4, c5, c6, c7], _ =>
    simp only [List.drop, List.take, rInt, rBool, rStr] at h0 h1 h2 h3 h4 h5 h6 h7
    refine ⟨⟨a0, a1, a2, a3, a4, a5, a6, a7⟩, ?_, ⟨h0.2, h1.2, h2.2, h3.2, h4.2, h5.2, h6.2, h7.2⟩⟩
    have e0 := h0.1
    have e1 := h1.1
    have e2 := h2.1
    have e3 := h3.1
    have e4 := h4.1
    have e5 := h5.1
    have e6 := h6.1
    have e7 := h7.1
    simp only [Config.cells]
    simp only [List.cons.injEq, and_true] at e0 e1 e2 e3 e4 e5 e6 e7 ⊢
    simp [e0, e1, e2, e3, e4, e5, e6, e7]
structure Pane where
  key : ByteArray
  span : Span
  agg : Agg
instance : Inhabited Pane := ⟨⟨ByteArray.empty, default, default⟩⟩
abbrev Pane.cells (x : Pane) : List Value := [.string x.key, .int .i64 x.span.s, .int .i64 x.span.e, .int .i64 x.agg.count, .int .i64 x.agg.sum, .int .i64 x.agg.lo, .int .i64 x.agg.hi]
attribute [go_sem] Pane.cells
def Pane.ok (x : Pane) : Prop := x.key.size ≤ maxLen ∧ x.span.ok ∧ x.agg.ok
theorem Pane.cells_length (x : Pane) : x.cells.length = 7 := rfl
theorem cellsOf_Pane : Tryz.prog.cellsOf 88 = 7 := by kernel_rfl
def rPane : Rdr Pane := fun _ x cs => cs = x.cells ∧ x.ok
theorem opens_Pane : Opens Tryz.prog 88 rPane := by
  intro H enc w fuel cs x h
  have hl := opens_len Tryz.underlying88 cellsOf_Pane h
  obtain ⟨a0, h0⟩ := opens_field (i := 0) (o := 0) (m := 1) Tryz.underlying88 rfl rfl (by kernel_rfl) (opens_str (by kernel_rfl)) H enc w fuel cs x h
  obtain ⟨a1, h1⟩ := opens_field (i := 1) (o := 1) (m := 2) Tryz.underlying88 rfl rfl (by kernel_rfl) opens_Span H enc w fuel cs x h
  obtain ⟨a2, h2⟩ := opens_field (i := 2) (o := 3) (m := 4) Tryz.underlying88 rfl rfl (by kernel_rfl) opens_Agg H enc w fuel cs x h
  match cs, hl with
  | [c0, c1, c2, c3, c4, c5, c6], _ =>
    simp only [List.drop, List.take, rInt, rBool, rStr, rAgg, rSpan] at h0 h1 h2
    refine ⟨⟨a0, a1, a2⟩, ?_, ⟨h0.2, h1.2, h2.2⟩⟩
    have e0 := h0.1
    have e1 := h1.1
    have e2 := h2.1
    simp only [Pane.cells, Agg.cells, Span.cells] at e0 e1 e2 ⊢
    simp only [List.cons.injEq, and_true] at e0 e1 e2 ⊢
    simp [e0, e1, e2]
structure Call where
  op : Int
  key : ByteArray
  time : Int
  value : Int
  fin : Int
  group : Int
  shard : Int
instance : Inhabited Call := ⟨⟨0, ByteArray.empty, 0, 0, 0, 0, 0⟩⟩
abbrev Call.cells (x : Call) : List Value := [.int .i64 x.op, .string x.key, .int .i64 x.time, .int .i64 x.value, .int .i64 x.fin, .int .i64 x.group, .int .i64 x.shard]
attribute [go_sem] Call.cells
def Call.ok (x : Call) : Prop := I64 x.op ∧ x.key.size ≤ maxLen ∧ I64 x.time ∧ I64 x.value ∧ I64 x.fin ∧ I64 x.group ∧ I64 x.shard
theorem Call.cells_length (x : Call) : x.cells.length = 7 := rfl
theorem cellsOf_Call : Tryz.prog.cellsOf 60 = 7 := by kernel_rfl
def rCall : Rdr Call := fun _ x cs => cs = x.cells ∧ x.ok
theorem opens_Call : Opens Tryz.prog 60 rCall := by
  intro H enc w fuel cs x h
  have hl := opens_len Tryz.underlying60 cellsOf_Call h
  obtain ⟨a0, h0⟩ := opens_field (i := 0) (o := 0) (m := 1) Tryz.underlying60 rfl rfl (by kernel_rfl) (opens_int (by kernel_rfl)) H enc w fuel cs x h
  obtain ⟨a1, h1⟩ := opens_field (i := 1) (o := 1) (m := 1) Tryz.underlying60 rfl rfl (by kernel_rfl) (opens_str (by kernel_rfl)) H enc w fuel cs x h
  obtain ⟨a2, h2⟩ := opens_field (i := 2) (o := 2) (m := 1) Tryz.underlying60 rfl rfl (by kernel_rfl) (opens_int (by kernel_rfl)) H enc w fuel cs x h
  obtain ⟨a3, h3⟩ := opens_field (i := 3) (o := 3) (m := 1) Tryz.underlying60 rfl rfl (by kernel_rfl) (opens_int (by kernel_rfl)) H enc w fuel cs x h
  obtain ⟨a4, h4⟩ := opens_field (i := 4) (o := 4) (m := 1) Tryz.underlying60 rfl rfl (by kernel_rfl) (opens_int (by kernel_rfl)) H enc w fuel cs x h
  obtain ⟨a5, h5⟩ := opens_field (i := 5) (o := 5) (m := 1) Tryz.underlying60 rfl rfl (by kernel_rfl) (opens_int (by kernel_rfl)) H enc w fuel cs x h
  obtain ⟨a6, h6⟩ := opens_field (i := 6) (o := 6) (m := 1) Tryz.underlying60 rfl rfl (by kernel_rfl) (opens_int (by kernel_rfl)) H enc w fuel cs x h
  match cs, hl with
  | [c0, c1, c2, c3, c4, c5, c6], _ =>
    simp only [List.drop, List.take, rInt, rBool, rStr] at h0 h1 h2 h3 h4 h5 h6
    refine ⟨⟨a0, a1, a2, a3, a4, a5, a6⟩, ?_, ⟨h0.2, h1.2, h2.2, h3.2, h4.2, h5.2, h6.2⟩⟩
    have e0 := h0.1
    have e1 := h1.1
    have e2 := h2.1
    have e3 := h3.1
    have e4 := h4.1
    have e5 := h5.1
    have e6 := h6.1
    simp only [Call.cells]
    simp only [List.cons.injEq, and_true] at e0 e1 e2 e3 e4 e5 e6 ⊢
    simp [e0, e1, e2, e3, e4, e5, e6]
structure Timer where
  key : ByteArray
  span : Span
instance : Inhabited Timer := ⟨⟨ByteArray.empty, default⟩⟩
abbrev Timer.cells (x : Timer) : List Value := [.string x.key, .int .i64 x.span.s, .int .i64 x.span.e]
attribute [go_sem] Timer.cells
def Timer.ok (x : Timer) : Prop := x.key.size ≤ maxLen ∧ x.span.ok
theorem Timer.cells_length (x : Timer) : x.cells.length = 3 := rfl
theorem cellsOf_Timer : Tryz.prog.cellsOf 95 = 3 := by kernel_rfl
def rTimer : Rdr Timer := fun _ x cs => cs = x.cells ∧ x.ok
theorem opens_Timer : Opens Tryz.prog 95 rTimer := by
  intro H enc w fuel cs x h
  have hl := opens_len Tryz.underlying95 cellsOf_Timer h
  obtain ⟨a0, h0⟩ := opens_field (i := 0) (o := 0) (m := 1) Tryz.underlying95 rfl rfl (by kernel_rfl) (opens_str (by kernel_rfl)) H enc w fuel cs x h
  obtain ⟨a1, h1⟩ := opens_field (i := 1) (o := 1) (m := 2) Tryz.underlying95 rfl rfl (by kernel_rfl) opens_Span H enc w fuel cs x h
  match cs, hl with
  | [c0, c1, c2], _ =>
    simp only [List.drop, List.take, rInt, rBool, rStr, rSpan] at h0 h1
    refine ⟨⟨a0, a1⟩, ?_, ⟨h0.2, h1.2⟩⟩
    have e0 := h0.1
    have e1 := h1.1
    simp only [Timer.cells, Span.cells] at e0 e1 ⊢
    simp only [List.cons.injEq, and_true] at e0 e1 ⊢
    simp [e0, e1]
structure Deed08 where
  settle : Bool
  key : ByteArray
  t : Int
  v : Int
  mark : Int
instance : Inhabited Deed08 := ⟨⟨false, ByteArray.empty, 0, 0, 0⟩⟩
abbrev Deed08.cells (x : Deed08) : List Value := [.bool x.settle, .string x.key, .int .i64 x.t, .int .i64 x.v, .int .i64 x.mark]
attribute [go_sem] Deed08.cells
def Deed08.ok (x : Deed08) : Prop := x.key.size ≤ maxLen ∧ I64 x.t ∧ I64 x.v ∧ I64 x.mark
theorem Deed08.cells_length (x : Deed08) : x.cells.length = 5 := rfl
theorem cellsOf_Deed08 : Tryz.prog.cellsOf 38 = 5 := by kernel_rfl
def rDeed08 : Rdr Deed08 := fun _ x cs => cs = x.cells ∧ x.ok
theorem opens_Deed08 : Opens Tryz.prog 38 rDeed08 := by
  intro H enc w fuel cs x h
  have hl := opens_len Tryz.underlying38 cellsOf_Deed08 h
  obtain ⟨a0, h0⟩ := opens_field (i := 0) (o := 0) (m := 1) Tryz.underlying38 rfl rfl (by kernel_rfl) (opens_bool (by kernel_rfl)) H enc w fuel cs x h
  obtain ⟨a1, h1⟩ := opens_field (i := 1) (o := 1) (m := 1) Tryz.underlying38 rfl rfl (by kernel_rfl) (opens_str (by kernel_rfl)) H enc w fuel cs x h
  obtain ⟨a2, h2⟩ := opens_field (i := 2) (o := 2) (m := 1) Tryz.underlying38 rfl rfl (by kernel_rfl) (opens_int (by kernel_rfl)) H enc w fuel cs x h
  obtain ⟨a3, h3⟩ := opens_field (i := 3) (o := 3) (m := 1) Tryz.underlying38 rfl rfl (by kernel_rfl) (opens_int (by kernel_rfl)) H enc w fuel cs x h
  obtain ⟨a4, h4⟩ := opens_field (i := 4) (o := 4) (m := 1) Tryz.underlying38 rfl rfl (by kernel_rfl) (opens_int (by kernel_rfl)) H enc w fuel cs x h
  match cs, hl with
  | [c0, c1, c2, c3, c4], _ =>
    simp only [List.drop, List.take, rInt, rBool, rStr] at h0 h1 h2 h3 h4
    refine ⟨⟨a0, a1, a2, a3, a4⟩, ?_, ⟨h1.2, h2.2, h3.2, h4.2⟩⟩
    have e0 := h0
    have e1 := h1.1
    have e2 := h2.1
    have e3 := h3.1
    have e4 := h4.1
    simp only [Deed08.cells]
    simp only [List.cons.injEq, and_true] at e0 e1 e2 e3 e4 ⊢
    simp [e0, e1, e2, e3, e4]
end Go.Proofs.YtmioichjhiengaaGreat
