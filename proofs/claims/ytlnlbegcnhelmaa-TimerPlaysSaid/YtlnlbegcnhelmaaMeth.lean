/-
  Which function a call through heap.Interface comes to, for the queue of timers.
-/
import Derived.Test.YtlnlbegcnhelmaaTimerP
namespace Go.Proofs.Ytlnlbegcnhelmaa
open Go.RowKit

theorem meth_push (p : Addr) (w : World) : (method 296 144 (.pointer (some p)) "Push").run Try.prog w = .ok (135, .pointer (some p)) w := by kernel_rfl
theorem meth_pop (p : Addr) (w : World) : (method 296 144 (.pointer (some p)) "Pop").run Try.prog w = .ok (134, .pointer (some p)) w := by kernel_rfl
theorem meth_less0 (p : Addr) (w : World) : (method 296 144 (.pointer (some p)) "Less").run Try.prog w = ((do pure (126, ← loadVar 139 p)) : Sem (FuncId × Value)).run Try.prog w := by kernel_rfl
theorem meth_swap0 (p : Addr) (w : World) : (method 296 144 (.pointer (some p)) "Swap").run Try.prog w = ((do pure (127, ← loadVar 139 p)) : Sem (FuncId × Value)).run Try.prog w := by kernel_rfl
theorem meth_len0 (p : Addr) (w : World) : (method 296 144 (.pointer (some p)) "Len").run Try.prog w = ((do pure (125, ← loadVar 139 p)) : Sem (FuncId × Value)).run Try.prog w := by kernel_rfl
theorem load_queue {p : Nat} {w : World} {A : Option Addr} {n c : Nat} (h : w.cell? ⟨p, 0, none⟩ = some (.slice A n c)) : (loadVar 139 ⟨p, 0, none⟩).run Try.prog w = .ok (.slice A n c) w := by
  simp [loadVar, h, go_sem]
theorem meth_less {p : Nat} {w : World} {A : Option Addr} {n c : Nat} (h : w.cell? ⟨p, 0, none⟩ = some (.slice A n c)) : (method 296 144 (.pointer (some ⟨p, 0, none⟩)) "Less").run Try.prog w = .ok (126, .slice A n c) w := by
  rw [meth_less0, Sem.run_bind, load_queue h]; rfl
theorem meth_swap {p : Nat} {w : World} {A : Option Addr} {n c : Nat} (h : w.cell? ⟨p, 0, none⟩ = some (.slice A n c)) : (method 296 144 (.pointer (some ⟨p, 0, none⟩)) "Swap").run Try.prog w = .ok (127, .slice A n c) w := by
  rw [meth_swap0, Sem.run_bind, load_queue h]; rfl
theorem meth_len {p : Nat} {w : World} {A : Option Addr} {n c : Nat} (h : w.cell? ⟨p, 0, none⟩ = some (.slice A n c)) : (method 296 144 (.pointer (some ⟨p, 0, none⟩)) "Len").run Try.prog w = .ok (125, .slice A n c) w := by
  rw [meth_len0, Sem.run_bind, load_queue h]; rfl
end Go.Proofs.Ytlnlbegcnhelmaa
