/-
  Events: how an argument reads as one.
-/
import Derived.Test.YtlnlbegcnhelmaaReply
namespace Go.Proofs.Ytlnlbegcnhelmaa
open Go.RowKit

structure Event where
  client : Int
  n : Int
  call : Call
  code : Int
  panes : Value
  begin_ : Int
  point : Int
  end_ : Int
abbrev Event.cells (x : Event) : List Value := [.int .i64 x.client, .int .i64 x.n, .int .i64 x.call.op, .string x.call.key, .int .i64 x.call.time, .int .i64 x.call.value, .int .i64 x.call.fin, .int .i64 x.call.group, .int .i64 x.call.shard, .int .i64 x.code, x.panes, .int .i64 x.begin_, .int .i64 x.point, .int .i64 x.end_]
attribute [go_sem] Event.cells
theorem Event.len (x : Event) : x.cells.length = 14 := rfl
structure Event.ok (x : Event) : Prop where
  client : I64 x.client
  n : I64 x.n
  call : x.call.ok
  code : I64 x.code
  panes : ∃ A n c, x.panes = .slice A n c
  begin_ : I64 x.begin_
  point : I64 x.point
  end_ : I64 x.end_
def rEvent : Rdr Event := fun _ x cs => cs = x.cells ∧ x.ok
theorem rEvent_of (w : World) (x : Event) (cs : List Value) (h : rEvent w x cs) : cs = x.cells ∧ x.ok := h
theorem cellsOf_Event : Try.prog.cellsOf 120 = 14 := by kernel_rfl
theorem opens_Event : Opens Try.prog 120 rEvent := by
  intro H enc w fuel cs x h
  have hl := opens_len Try.underlying120 cellsOf_Event h
  obtain ⟨a0, h0⟩ := opens_field (i := 0) (o := 0) (m := 1) Try.underlying120 rfl rfl (by kernel_rfl) (opens_int (by kernel_rfl)) H enc w fuel cs x h
  obtain ⟨a1, h1⟩ := opens_field (i := 1) (o := 1) (m := 1) Try.underlying120 rfl rfl (by kernel_rfl) (opens_int (by kernel_rfl)) H enc w fuel cs x h
  obtain ⟨a2, h2⟩ := opens_field (i := 2) (o := 2) (m := 7) Try.underlying120 rfl rfl (by kernel_rfl) opens_Call H enc w fuel cs x h
  obtain ⟨a3, h3⟩ := opens_field (i := 3) (o := 9) (m := 2) Try.underlying120 rfl rfl (by kernel_rfl) opens_Reply H enc w fuel cs x h
  obtain ⟨a4, h4⟩ := opens_field (i := 4) (o := 11) (m := 1) Try.underlying120 rfl rfl (by kernel_rfl) (opens_int (by kernel_rfl)) H enc w fuel cs x h
  obtain ⟨a5, h5⟩ := opens_field (i := 5) (o := 12) (m := 1) Try.underlying120 rfl rfl (by kernel_rfl) (opens_int (by kernel_rfl)) H enc w fuel cs x h
  obtain ⟨a6, h6⟩ := opens_field (i := 6) (o := 13) (m := 1) Try.underlying120 rfl rfl (by kernel_rfl) (opens_int (by kernel_rfl)) H enc w fuel cs x h
  match cs, hl with
  | [c0, c1, c2, c3, c4, c5, c6, c7, c8, c9, c10, c11, c12, c13], _ =>
    simp only [List.drop, List.take, rInt, rCall] at h0 h1 h2 h4 h5 h6
    simp only [List.drop, List.take] at h3
    obtain ⟨A, n, c, e3, h3', hs, hok⟩ := h3
    refine ⟨⟨a0, a1, a2, a3.code, .slice A n c, a4, a5, a6⟩, ?_, ⟨h0.2, h1.2, h2.2, h3', ⟨A, n, c, rfl⟩, h4.2, h5.2, h6.2⟩⟩
    have e0 := h0.1
    have e1 := h1.1
    have e2 := h2.1
    have e4 := h4.1
    have e5 := h5.1
    have e6 := h6.1
    simp only [Event.cells, Call.cells] at e0 e1 e2 e3 e4 e5 e6 ⊢
    simp only [List.cons.injEq, and_true] at e0 e1 e2 e3 e4 e5 e6 ⊢
    simp [e0, e1, e2, e3, e4, e5, e6]
end Go.Proofs.Ytlnlbegcnhelmaa
