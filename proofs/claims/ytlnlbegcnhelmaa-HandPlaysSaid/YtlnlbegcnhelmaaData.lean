/-
  Go's struct types as Lean structures, their cells in memory, and that whatever reads as data reads as such. WRITTEN BY PROGRAM (wip/gendata.py).
-/
import Derived.Test.YtlnlbegcnhelmaaProg
import Derived.Test.YtlnlbegcnhelmaaRead
import Derived.KernelRfl
namespace Go.Proofs.Ytlnlbegcnhelmaa
open Go.RowKit
theorem laid : laidOutB Try.prog = true := by kernel_rfl

structure Span where
  s : Int
  e : Int
instance : Inhabited Span := ⟨⟨0, 0⟩⟩
abbrev Span.cells (x : Span) : List Value := [.int .i64 x.s, .int .i64 x.e]
attribute [go_sem] Span.cells
def Span.ok (x : Span) : Prop := I64 x.s ∧ I64 x.e
theorem Span.cells_length (x : Span) : x.cells.length = 2 := rfl
theorem cellsOf_Span : Try.prog.cellsOf 99 = 2 := by kernel_rfl
def rSpan : Rdr Span := fun _ x cs => cs = x.cells ∧ x.ok
theorem opens_Span : Opens Try.prog 99 rSpan := by
  intro H enc w fuel cs x h
  have hl := opens_len Try.underlying99 cellsOf_Span h
  obtain ⟨a0, h0⟩ := opens_field (i := 0) (o := 0) (m := 1) Try.underlying99 rfl rfl (by kernel_rfl) (opens_int (by kernel_rfl)) H enc w fuel cs x h
  obtain ⟨a1, h1⟩ := opens_field (i := 1) (o := 1) (m := 1) Try.underlying99 rfl rfl (by kernel_rfl) (opens_int (by kernel_rfl)) H enc w fuel cs x h
  match cs, hl with
  | [c0, c1], _ =>
    simp only [List.drop, List.take, rInt, rBool, rStr] at h0 h1
    refine ⟨⟨a0, a1⟩, ?_, ⟨h0.2, h1.2⟩⟩
    have e0 := h0.1
    have e1 := h1.1
    simp only [Span.cells]
    simp only [List.cons.injEq, and_true] at e0 e1 ⊢
    simp [e0, e1]
structure Agg where
  count : Int
  sum : Int
  lo : Int
  hi : Int
instance : Inhabited Agg := ⟨⟨0, 0, 0, 0⟩⟩
abbrev Agg.cells (x : Agg) : List Value := [.int .i64 x.count, .int .i64 x.sum, .int .i64 x.lo, .int .i64 x.hi]
attribute [go_sem] Agg.cells
def Agg.ok (x : Agg) : Prop := I64 x.count ∧ I64 x.sum ∧ I64 x.lo ∧ I64 x.hi
theorem Agg.cells_length (x : Agg) : x.cells.length = 4 := rfl
theorem cellsOf_Agg : Try.prog.cellsOf 111 = 4 := by kernel_rfl
def rAgg : Rdr Agg := fun _ x cs => cs = x.cells ∧ x.ok
theorem opens_Agg : Opens Try.prog 111 rAgg := by
  intro H enc w fuel cs x h
  have hl := opens_len Try.underlying111 cellsOf_Agg h
  obtain ⟨a0, h0⟩ := opens_field (i := 0) (o := 0) (m := 1) Try.underlying111 rfl rfl (by kernel_rfl) (opens_int (by kernel_rfl)) H enc w fuel cs x h
  obtain ⟨a1, h1⟩ := opens_field (i := 1) (o := 1) (m := 1) Try.underlying111 rfl rfl (by kernel_rfl) (opens_int (by kernel_rfl)) H enc w fuel cs x h
  obtain ⟨a2, h2⟩ := opens_field (i := 2) (o := 2) (m := 1) Try.underlying111 rfl rfl (by kernel_rfl) (opens_int (by kernel_rfl)) H enc w fuel cs x h
  obtain ⟨a3, h3⟩ := opens_field (i := 3) (o := 3) (m := 1) Try.underlying111 rfl rfl (by kernel_rfl) (opens_int (by kernel_rfl)) H enc w fuel cs x h
  match cs, hl with
  | [c0, c1, c2, c3], _ =>
    simp only [List.drop, List.take, rInt, rBool, rStr] at h0 h1 h2 h3
    refine ⟨⟨a0, a1, a2, a3⟩, ?_, ⟨h0.2, h1.2, h2.2, h3.2⟩⟩
    have e0 := h0.1
    have e1 := h1.1
    have e2 := h2.1
    have e3 := h3.1
    simp only [Agg.cells]
    simp only [List.cons.injEq, and_true] at e0 e1 e2 e3 ⊢
    simp [e0, e1, e2, e3]
structure Config where
  kind : Int
  size : Int
  slide : Int
  gap : Int
  late : Int
  shards : Int
  groups : Int
  cap : Int
instance : Inhabited Config := ⟨⟨0, 0, 0, 0, 0, 0, 0, 0⟩⟩
abbrev Config.cells (x : Config) : List Value := [.int .i64 x.kind, .int .i64 x.size, .int .i64 x.slide, .int .i64 x.gap, .int .i64 x.late, .int .i64 x.shards, .int .i64 x.groups, .int .i64 x.cap]
attribute [go_sem] Config.cells
def Config.ok (x : Config) : Prop := I64 x.kind ∧ I64 x.size ∧ I64 x.slide ∧ I64 x.gap ∧ I64 x.late ∧ I64 x.shards ∧ I64 x.groups ∧ I64 x.cap
theorem Config.cells_length (x : Config) : x.cells.length = 8 := rfl
theorem cellsOf_Config : Try.prog.cellsOf 63 = 8 := by kernel_rfl
def rConfig : Rdr Config := fun _ x cs => cs = x.cells ∧ x.ok
theorem opens_Config : Opens Try.prog 63 rConfig := by
  intro H enc w fuel cs x h
  have hl := opens_len Try.underlying63 cellsOf_Config h
  obtain ⟨a0, h0⟩ := opens_field (i := 0) (o := 0) (m := 1) Try.underlying63 rfl rfl (by kernel_rfl) (opens_int (by kernel_rfl)) H enc w fuel cs x h
  obtain ⟨a1, h1⟩ := opens_field (i := 1) (o := 1) (m := 1) Try.underlying63 rfl rfl (by kernel_rfl) (opens_int (by kernel_rfl)) H enc w fuel cs x h
  obtain ⟨a2, h2⟩ := opens_field (i := 2) (o := 2) (m := 1) Try.underlying63 rfl rfl (by kernel_rfl) (opens_int (by kernel_rfl)) H enc w fuel cs x h
  obtain ⟨a3, h3⟩ := opens_field (i := 3) (o := 3) (m := 1) Try.underlying63 rfl rfl (by kernel_rfl) (opens_int (by kernel_rfl)) H enc w fuel cs x h
  obtain ⟨a4, h4⟩ := opens_field (i := 4) (o := 4) (m := 1) Try.underlying63 rfl rfl (by kernel_rfl) (opens_int (by kernel_rfl)) H enc w fuel cs x h
  obtain ⟨a5, h5⟩ := opens_field (i := 5) (o := 5) (m := 1) Try.underlying63 rfl rfl (by kernel_rfl) (opens_int (by kernel_rfl)) H enc w fuel cs x h
  obtain ⟨a6, h6⟩ := opens_field (i := 6) (o := 6) (m := 1) Try.underlying63 rfl rfl (by kernel_rfl) (opens_int (by kernel_rfl)) H enc w fuel cs x h
  obtain ⟨a7, h7⟩ := opens_field (i := 7) (o := 7) (m := 1) Try.underlying63 rfl rfl (by kernel_rfl) (opens_int (by kernel_rfl)) H enc w fuel cs x h
  match cs, hl with
  | [c0, c1, c2, c3, c4, c5, c6, c7], _ =>
    simp only [List.drop, List.take, rInt, rBool, rStr] at h0 h1 h2 h3 h4 h5 h6 h7
    refine ⟨⟨a0, a1, a2, a3, a4, a5, a6, a7⟩, ?_, ⟨h0.2, h1.2, h2.2, h3.2, h4.2, h5.2, h6.2, h7.2⟩⟩
    have e0 := h0.1
    have e1 := h1.1
    have e2 := h2.1
    have e3 := h3.1
    have e4 := h4.1
    have e5 := h5.1
    have e6 := h6.1
    have e7 := h7.1
    simp only [Config.cells]
    simp only [List.cons.injEq, and_true] at e0 e1 e2 e3 e4 e5 e6 e7 ⊢
    simp [e0, e1, e2, e3, e4, e5, e6, e7]
structure Pane where
  key : ByteArray
  span : Span
  agg : Agg
instance : Inhabited Pane := ⟨⟨ByteArray.empty, default, default⟩⟩
abbrev Pane.cells (x : Pane) : List Value := [.string x.key, .int .i64 x.span.s, .int .i64 x.span.e, .int .i64 x.agg.count, .int .i64 x.agg.sum, .int .i64 x.agg.lo, .int .i64 x.agg.hi]
attribute [go_sem] Pane.cells
def Pane.ok (x : Pane) : Prop := x.key.size ≤ maxLen ∧ x.span.ok ∧ x.agg.ok
theorem Pane.cells_length (x : Pane) : x.cells.length = 7 := rfl
theorem cellsOf_Pane : Try.prog.cellsOf 113 = 7 := by kernel_rfl
def rPane : Rdr Pane := fun _ x cs => cs = x.cells ∧ x.ok
theorem opens_Pane : Opens Try.prog 113 rPane := by
  intro H enc w fuel cs x h
  have hl := opens_len Try.underlying113 cellsOf_Pane h
  obtain ⟨a0, h0⟩ := opens_field (i := 0) (o := 0) (m := 1) Try.underlying113 rfl rfl (by kernel_rfl) (opens_str (by kernel_rfl)) H enc w fuel cs x h
  obtain ⟨a1, h1⟩ := opens_field (i := 1) (o := 1) (m := 2) Try.underlying113 rfl rfl (by kernel_rfl) opens_Span H enc w fuel cs x h
  obtain ⟨a2, h2⟩ := opens_field (i := 2) (o := 3) (m := 4) Try.underlying113 rfl rfl (by kernel_rfl) opens_Agg H enc w fuel cs x h
  match cs, hl with
  | [c0, c1, c2, c3, c4, c5, c6], _ =>
    simp only [List.drop, List.take, rInt, rBool, rStr, rAgg, rSpan] at h0 h1 h2
    refine ⟨⟨a0, a1, a2⟩, ?_, ⟨h0.2, h1.2, h2.2⟩⟩
    have e0 := h0.1
    have e1 := h1.1
    have e2 := h2.1
    simp only [Pane.cells, Agg.cells, Span.cells] at e0 e1 e2 ⊢
    simp only [List.cons.injEq, and_true] at e0 e1 e2 ⊢
    simp [e0, e1, e2]
structure Call where
  op : Int
  key : ByteArray
  time : Int
  value : Int
  fin : Int
  group : Int
  shard : Int
instance : Inhabited Call := ⟨⟨0, ByteArray.empty, 0, 0, 0, 0, 0⟩⟩
abbrev Call.cells (x : Call) : List Value := [.int .i64 x.op, .string x.key, .int .i64 x.time, .int .i64 x.value, .int .i64 x.fin, .int .i64 x.group, .int .i64 x.shard]
attribute [go_sem] Call.cells
def Call.ok (x : Call) : Prop := I64 x.op ∧ x.key.size ≤ maxLen ∧ I64 x.time ∧ I64 x.value ∧ I64 x.fin ∧ I64 x.group ∧ I64 x.shard
theorem Call.cells_length (x : Call) : x.cells.length = 7 := rfl
theorem cellsOf_Call : Try.prog.cellsOf 65 = 7 := by kernel_rfl
def rCall : Rdr Call := fun _ x cs => cs = x.cells ∧ x.ok
theorem opens_Call : Opens Try.prog 65 rCall := by
  intro H enc w fuel cs x h
  have hl := opens_len Try.underlying65 cellsOf_Call h
  obtain ⟨a0, h0⟩ := opens_field (i := 0) (o := 0) (m := 1) Try.underlying65 rfl rfl (by kernel_rfl) (opens_int (by kernel_rfl)) H enc w fuel cs x h
  obtain ⟨a1, h1⟩ := opens_field (i := 1) (o := 1) (m := 1) Try.underlying65 rfl rfl (by kernel_rfl) (opens_str (by kernel_rfl)) H enc w fuel cs x h
  obtain ⟨a2, h2⟩ := opens_field (i := 2) (o := 2) (m := 1) Try.underlying65 rfl rfl (by kernel_rfl) (opens_int (by kernel_rfl)) H enc w fuel cs x h
  obtain ⟨a3, h3⟩ := opens_field (i := 3) (o := 3) (m := 1) Try.underlying65 rfl rfl (by kernel_rfl) (opens_int (by kernel_rfl)) H enc w fuel cs x h
  obtain ⟨a4, h4⟩ := opens_field (i := 4) (o := 4) (m := 1) Try.underlying65 rfl rfl (by kernel_rfl) (opens_int (by kernel_rfl)) H enc w fuel cs x h
  obtain ⟨a5, h5⟩ := opens_field (i := 5) (o := 5) (m := 1) Try.underlying65 rfl rfl (by kernel_rfl) (opens_int (by kernel_rfl)) H enc w fuel cs x h
  obtain ⟨a6, h6⟩ := opens_field (i := 6) (o := 6) (m := 1) Try.underlying65 rfl rfl (by kernel_rfl) (opens_int (by kernel_rfl)) H enc w fuel cs x h
  match cs, hl with
  | [c0, c1, c2, c3, c4, c5, c6], _ =>
    simp only [List.drop, List.take, rInt, rBool, rStr] at h0 h1 h2 h3 h4 h5 h6
    refine ⟨⟨a0, a1, a2, a3, a4, a5, a6⟩, ?_, ⟨h0.2, h1.2, h2.2, h3.2, h4.2, h5.2, h6.2⟩⟩
    have e0 := h0.1
    have e1 := h1.1
    have e2 := h2.1
    have e3 := h3.1
    have e4 := h4.1
    have e5 := h5.1
    have e6 := h6.1
    simp only [Call.cells]
    simp only [List.cons.injEq, and_true] at e0 e1 e2 e3 e4 e5 e6 ⊢
    simp [e0, e1, e2, e3, e4, e5, e6]
structure Timer where
  key : ByteArray
  span : Span
instance : Inhabited Timer := ⟨⟨ByteArray.empty, default⟩⟩
abbrev Timer.cells (x : Timer) : List Value := [.string x.key, .int .i64 x.span.s, .int .i64 x.span.e]
attribute [go_sem] Timer.cells
def Timer.ok (x : Timer) : Prop := x.key.size ≤ maxLen ∧ x.span.ok
theorem Timer.cells_length (x : Timer) : x.cells.length = 3 := rfl
theorem cellsOf_Timer : Try.prog.cellsOf 101 = 3 := by kernel_rfl
def rTimer : Rdr Timer := fun _ x cs => cs = x.cells ∧ x.ok
theorem opens_Timer : Opens Try.prog 101 rTimer := by
  intro H enc w fuel cs x h
  have hl := opens_len Try.underlying101 cellsOf_Timer h
  obtain ⟨a0, h0⟩ := opens_field (i := 0) (o := 0) (m := 1) Try.underlying101 rfl rfl (by kernel_rfl) (opens_str (by kernel_rfl)) H enc w fuel cs x h
  obtain ⟨a1, h1⟩ := opens_field (i := 1) (o := 1) (m := 2) Try.underlying101 rfl rfl (by kernel_rfl) opens_Span H enc w fuel cs x h
  match cs, hl with
  | [c0, c1, c2], _ =>
    simp only [List.drop, List.take, rInt, rBool, rStr, rSpan] at h0 h1
    refine ⟨⟨a0, a1⟩, ?_, ⟨h0.2, h1.2⟩⟩
    have e0 := h0.1
    have e1 := h1.1
    simp only [Timer.cells, Span.cells] at e0 e1 ⊢
    simp only [List.cons.injEq, and_true] at e0 e1 ⊢
    simp [e0, e1]
structure Own where
  shard : Int
  version : Int
  moving : Bool
instance : Inhabited Own := ⟨⟨0, 0, false⟩⟩
abbrev Own.cells (x : Own) : List Value := [.int .i64 x.shard, .int .i64 x.version, .bool x.moving]
attribute [go_sem] Own.cells
def Own.ok (x : Own) : Prop := I64 x.shard ∧ I64 x.version
theorem Own.cells_length (x : Own) : x.cells.length = 3 := rfl
theorem cellsOf_Own : Try.prog.cellsOf 54 = 3 := by kernel_rfl
def rOwn : Rdr Own := fun _ x cs => cs = x.cells ∧ x.ok
theorem opens_Own : Opens Try.prog 54 rOwn := by
  intro H enc w fuel cs x h
  have hl := opens_len Try.underlying54 cellsOf_Own h
  obtain ⟨a0, h0⟩ := opens_field (i := 0) (o := 0) (m := 1) Try.underlying54 rfl rfl (by kernel_rfl) (opens_int (by kernel_rfl)) H enc w fuel cs x h
  obtain ⟨a1, h1⟩ := opens_field (i := 1) (o := 1) (m := 1) Try.underlying54 rfl rfl (by kernel_rfl) (opens_int (by kernel_rfl)) H enc w fuel cs x h
  obtain ⟨a2, h2⟩ := opens_field (i := 2) (o := 2) (m := 1) Try.underlying54 rfl rfl (by kernel_rfl) (opens_bool (by kernel_rfl)) H enc w fuel cs x h
  match cs, hl with
  | [c0, c1, c2], _ =>
    simp only [List.drop, List.take, rInt, rBool, rStr] at h0 h1 h2
    refine ⟨⟨a0, a1, a2⟩, ?_, ⟨h0.2, h1.2⟩⟩
    have e0 := h0.1
    have e1 := h1.1
    have e2 := h2
    simp only [Own.cells]
    simp only [List.cons.injEq, and_true] at e0 e1 e2 ⊢
    simp [e0, e1, e2]
structure Deed10 where
  what : Int
  n : Int
instance : Inhabited Deed10 := ⟨⟨0, 0⟩⟩
abbrev Deed10.cells (x : Deed10) : List Value := [.int .i64 x.what, .int .i64 x.n]
attribute [go_sem] Deed10.cells
def Deed10.ok (x : Deed10) : Prop := I64 x.what ∧ I64 x.n
theorem Deed10.cells_length (x : Deed10) : x.cells.length = 2 := rfl
theorem cellsOf_Deed10 : Try.prog.cellsOf 42 = 2 := by kernel_rfl
def rDeed10 : Rdr Deed10 := fun _ x cs => cs = x.cells ∧ x.ok
theorem opens_Deed10 : Opens Try.prog 42 rDeed10 := by
  intro H enc w fuel cs x h
  have hl := opens_len Try.underlying42 cellsOf_Deed10 h
  obtain ⟨a0, h0⟩ := opens_field (i := 0) (o := 0) (m := 1) Try.underlying42 rfl rfl (by kernel_rfl) (opens_int (by kernel_rfl)) H enc w fuel cs x h
  obtain ⟨a1, h1⟩ := opens_field (i := 1) (o := 1) (m := 1) Try.underlying42 rfl rfl (by kernel_rfl) (opens_int (by kernel_rfl)) H enc w fuel cs x h
  match cs, hl with
  | [c0, c1], _ =>
    simp only [List.drop, List.take, rInt, rBool, rStr] at h0 h1
    refine ⟨⟨a0, a1⟩, ?_, ⟨h0.2, h1.2⟩⟩
    have e0 := h0.1
    have e1 := h1.1
    simp only [Deed10.cells]
    simp only [List.cons.injEq, and_true] at e0 e1 ⊢
    simp [e0, e1]
structure Deed11 where
  publish : Bool
  group : Int
  shard : Int
instance : Inhabited Deed11 := ⟨⟨false, 0, 0⟩⟩
abbrev Deed11.cells (x : Deed11) : List Value := [.bool x.publish, .int .i64 x.group, .int .i64 x.shard]
attribute [go_sem] Deed11.cells
def Deed11.ok (x : Deed11) : Prop := I64 x.group ∧ I64 x.shard
theorem Deed11.cells_length (x : Deed11) : x.cells.length = 3 := rfl
theorem cellsOf_Deed11 : Try.prog.cellsOf 56 = 3 := by kernel_rfl
def rDeed11 : Rdr Deed11 := fun _ x cs => cs = x.cells ∧ x.ok
theorem opens_Deed11 : Opens Try.prog 56 rDeed11 := by
  intro H enc w fuel cs x h
  have hl := opens_len Try.underlying56 cellsOf_Deed11 h
  obtain ⟨a0, h0⟩ := opens_field (i := 0) (o := 0) (m := 1) Try.underlying56 rfl rfl (by kernel_rfl) (opens_bool (by kernel_rfl)) H enc w fuel cs x h
  obtain ⟨a1, h1⟩ := opens_field (i := 1) (o := 1) (m := 1) Try.underlying56 rfl rfl (by kernel_rfl) (opens_int (by kernel_rfl)) H enc w fuel cs x h
  obtain ⟨a2, h2⟩ := opens_field (i := 2) (o := 2) (m := 1) Try.underlying56 rfl rfl (by kernel_rfl) (opens_int (by kernel_rfl)) H enc w fuel cs x h
  match cs, hl with
  | [c0, c1, c2], _ =>
    simp only [List.drop, List.take, rInt, rBool, rStr] at h0 h1 h2
    refine ⟨⟨a0, a1, a2⟩, ?_, ⟨h1.2, h2.2⟩⟩
    have e0 := h0
    have e1 := h1.1
    have e2 := h2.1
    simp only [Deed11.cells]
    simp only [List.cons.injEq, and_true] at e0 e1 e2 ⊢
    simp [e0, e1, e2]
structure Deed06 where
  what : Int
  t : Timer
  mark : Int
instance : Inhabited Deed06 := ⟨⟨0, default, 0⟩⟩
abbrev Deed06.cells (x : Deed06) : List Value := [.int .i64 x.what, .string x.t.key, .int .i64 x.t.span.s, .int .i64 x.t.span.e, .int .i64 x.mark]
attribute [go_sem] Deed06.cells
def Deed06.ok (x : Deed06) : Prop := I64 x.what ∧ x.t.ok ∧ I64 x.mark
theorem Deed06.cells_length (x : Deed06) : x.cells.length = 5 := rfl
theorem cellsOf_Deed06 : Try.prog.cellsOf 109 = 5 := by kernel_rfl
def rDeed06 : Rdr Deed06 := fun _ x cs => cs = x.cells ∧ x.ok
theorem opens_Deed06 : Opens Try.prog 109 rDeed06 := by
  intro H enc w fuel cs x h
  have hl := opens_len Try.underlying109 cellsOf_Deed06 h
  obtain ⟨a0, h0⟩ := opens_field (i := 0) (o := 0) (m := 1) Try.underlying109 rfl rfl (by kernel_rfl) (opens_int (by kernel_rfl)) H enc w fuel cs x h
  obtain ⟨a1, h1⟩ := opens_field (i := 1) (o := 1) (m := 3) Try.underlying109 rfl rfl (by kernel_rfl) opens_Timer H enc w fuel cs x h
  obtain ⟨a2, h2⟩ := opens_field (i := 2) (o := 4) (m := 1) Try.underlying109 rfl rfl (by kernel_rfl) (opens_int (by kernel_rfl)) H enc w fuel cs x h
  match cs, hl with
  | [c0, c1, c2, c3, c4], _ =>
    simp only [List.drop, List.take, rInt, rBool, rStr, rTimer] at h0 h1 h2
    refine ⟨⟨a0, a1, a2⟩, ?_, ⟨h0.2, h1.2, h2.2⟩⟩
    have e0 := h0.1
    have e1 := h1.1
    have e2 := h2.1
    simp only [Deed06.cells, Timer.cells] at e0 e1 e2 ⊢
    simp only [List.cons.injEq, and_true] at e0 e1 e2 ⊢
    simp [e0, e1, e2]
structure Deed15 where
  what : Int
  other : Bool
instance : Inhabited Deed15 := ⟨⟨0, false⟩⟩
abbrev Deed15.cells (x : Deed15) : List Value := [.int .i64 x.what, .bool x.other]
attribute [go_sem] Deed15.cells
def Deed15.ok (x : Deed15) : Prop := I64 x.what
theorem Deed15.cells_length (x : Deed15) : x.cells.length = 2 := rfl
theorem cellsOf_Deed15 : Try.prog.cellsOf 89 = 2 := by kernel_rfl
def rDeed15 : Rdr Deed15 := fun _ x cs => cs = x.cells ∧ x.ok
theorem opens_Deed15 : Opens Try.prog 89 rDeed15 := by
  intro H enc w fuel cs x h
  have hl := opens_len Try.underlying89 cellsOf_Deed15 h
  obtain ⟨a0, h0⟩ := opens_field (i := 0) (o := 0) (m := 1) Try.underlying89 rfl rfl (by kernel_rfl) (opens_int (by kernel_rfl)) H enc w fuel cs x h
  obtain ⟨a1, h1⟩ := opens_field (i := 1) (o := 1) (m := 1) Try.underlying89 rfl rfl (by kernel_rfl) (opens_bool (by kernel_rfl)) H enc w fuel cs x h
  match cs, hl with
  | [c0, c1], _ =>
    simp only [List.drop, List.take, rInt, rBool, rStr] at h0 h1
    refine ⟨⟨a0, a1⟩, ?_, h0.2⟩
    have e0 := h0.1
    have e1 := h1
    simp only [Deed15.cells]
    simp only [List.cons.injEq, and_true] at e0 e1 ⊢
    simp [e0, e1]
end Go.Proofs.Ytlnlbegcnhelmaa
