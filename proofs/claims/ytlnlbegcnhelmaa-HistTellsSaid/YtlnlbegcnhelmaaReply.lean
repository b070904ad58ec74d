/-
  Replies: how an argument reads as one; call.Same, the reference's Same.
-/
import Derived.Test.YtlnlbegcnhelmaaSame
namespace Go.Proofs.Ytlnlbegcnhelmaa
open Go.RowKit

structure Reply where
  code : Int
  panes : List Pane
def rReply : Rdr Reply := fun w r cs => ∃ A n c, cs = [.int .i64 r.code, .slice A n c] ∧ I64 r.code ∧ Sl Pane.cells 7 w A n c r.panes ∧ ∀ p ∈ r.panes, p.ok
theorem rPane_of (w : World) (x : Pane) (cs : List Value) (h : rPane w x cs) : cs = x.cells ∧ x.ok := h
theorem cellsOf_Reply : Try.prog.cellsOf 73 = 2 := by kernel_rfl
theorem opens_Reply : Opens Try.prog 73 rReply := by
  intro H enc w fuel cs x h
  have hl := opens_len Try.underlying73 cellsOf_Reply h
  obtain ⟨a0, h0⟩ := opens_field (i := 0) (o := 0) (m := 1) Try.underlying73 rfl rfl (by kernel_rfl) (opens_int (by kernel_rfl)) H enc w fuel cs x h
  obtain ⟨a1, h1⟩ := opens_field (i := 1) (o := 1) (m := 1) Try.underlying73 rfl rfl (by kernel_rfl) (opens_slice (size := 7) Try.underlying71 (by kernel_rfl) (by decide) opens_Pane) H enc w fuel cs x h
  match cs, hl with
  | [u, v], _ =>
    simp only [List.drop, List.take, rInt] at h0 h1
    obtain ⟨h0, h0'⟩ := h0
    obtain rfl : u = .int .i64 a0 := by simpa using h0
    obtain ⟨A, n, c, rfl, hs, hok⟩ := sl_of Pane.cells Pane.ok rPane_of h1
    exact ⟨⟨a0, a1⟩, A, n, c, rfl, h0', hs, hok⟩

theorem call_same (w : World) (x y : Int) {A B : Option Addr} {n c m d : Nat} {a b : List Pane} (h1 : Sl Pane.cells 7 w A n c a) (h2 : Sl Pane.cells 7 w B m d b) :
    Calls Try.prog 43 #[.agg #[.int .i64 x, .slice A n c], .agg #[.int .i64 y, .slice B m d]] w fun e w' => e = .returned (.bool (x == y && panesB a b)) ∧ Keep none_ w w' := by
  have kk : Keep none_ w ((w.alloc (.cells #[.int .i64 x, .slice A n c] 73)).alloc (.cells #[.int .i64 y, .slice B m d] 73)) := (by repeat' (first | assumption | with_reducible exact Keep.refl _ _ | with_reducible refine Keep.alloc ?_ _ | with_reducible refine Keep.drew ?_))
  have c1 := Lib.hid (slices_equal _ (h1.keep kk Off.none_) (h2.keep kk Off.none_))
  clear h1 h2
  generalize panesB a b = q at *
  cases hxy : x == y
  · go_enter Try.func43, Try.ntmps43
    go_wp2_with fail
    go_ret
    exact ⟨by simp, kk⟩
  · go_enter Try.func43, Try.ntmps43
    go_wp2_with fail
    refine c1.out.mono ?_
    rintro e w2 ⟨rfl, k2⟩
    go_wp2_with fail
    go_ret
    exact ⟨by simp, kk.trans k2⟩
theorem ref12_same (w : World) (x y : Int) {A B : Option Addr} {n c m d : Nat} {a b : List Pane} (h1 : Sl Pane.cells 7 w A n c a) (h2 : Sl Pane.cells 7 w B m d b) :
    Calls Try.prog 44 #[.agg #[.int .i64 x, .slice A n c], .agg #[.int .i64 y, .slice B m d]] w fun e w' => e = .returned (.bool (x == y && panesB a b)) ∧ Keep none_ w w' := by
  have kk : Keep none_ w ((w.alloc (.cells #[.int .i64 x, .slice A n c] 73)).alloc (.cells #[.int .i64 y, .slice B m d] 73)) := (by repeat' (first | assumption | with_reducible exact Keep.refl _ _ | with_reducible refine Keep.alloc ?_ _ | with_reducible refine Keep.drew ?_))
  have c1 := Lib.hid (ref_same _ (h1.keep kk Off.none_) (h2.keep kk Off.none_))
  have hy := At.newAt (w := w.alloc (.cells #[.int .i64 x, .slice A n c] 73)) (n := w.heap.size + 1) (by simp) #[.int .i64 y, .slice B m d] 73
  have hx := At.alloc (At.new w #[.int .i64 x, .slice A n c] 73) (.cells #[.int .i64 y, .slice B m d] 73)
  clear h1 h2
  generalize panesB a b = q at *
  go_enter Try.func44, Try.ntmps44
  go_wp2_with fail
  refine c1.out.mono ?_
  rintro e w2 ⟨rfl, k2⟩
  have cx := At.cell (Keep.at k2 hx (fun e => e))
  have cy := At.cell (Keep.at k2 hy (fun e => e))
  cases q
  · go_wp2_with fail
    go_ret
    exact ⟨by simp, kk.trans k2⟩
  · go_wp2_with fail
    go_ret
    exact ⟨by simp, kk.trans k2⟩
end Go.Proofs.Ytlnlbegcnhelmaa
