/-
  Timers as panes in a row: equality, the row's type; where one is, taken out.
-/
import Derived.Test.YtlnlbegcnhelmaaTimerUp
import Derived.Test.YtlnlbegcnhelmaaTimerRef
import Derived.Test.YtlnlbegcnhelmaaSpanRef
namespace Go.Proofs.Ytlnlbegcnhelmaa
open Go.RowKit

def paneOf (t : Timer) : Pane := ⟨t.key, t.span, ⟨0, 0, 0, 0⟩⟩
theorem run_eql_encP (x y : Timer) (w : World) : (binOp .eql 113 (.agg (encP x).toArray) (.agg (encP y).toArray)).run Try.prog w = .ok (.bool (x.eqB y)) w := by
  have h := run_eql_Pane (paneOf x) (paneOf y) w
  have e : (paneOf x).eqB (paneOf y) = x.eqB y := by simp [paneOf, Pane.eqB, Timer.eqB, Agg.eqB]
  rw [e] at h
  exact h
theorem row_paneT : Row Try.prog 71 113 7 := row_of (b := 64) (z := .agg #[.string ⟨#[]⟩, .int .i64 0, .int .i64 0, .int .i64 0, .int .i64 0, .int .i64 0, .int .i64 0]) Try.underlying71 (by kernel_rfl) rfl (by decide) (by decide)
/-- Where x is; -1: nowhere. -/
def AtL (l : List Timer) (x : Timer) (r : Int) : Prop := (r = -1 ∧ x ∉ l) ∨ ∃ k : Nat, r = k ∧ l[k]? = some x
theorem perm_erase {l : List Timer} {k : Nat} {x : Timer} (h : l[k]? = some x) : l.Perm (x :: (l.take k ++ l.drop (k + 1))) := by
  obtain ⟨hk, hx⟩ := List.getElem?_eq_some_iff.1 h
  have e : l = l.take k ++ x :: l.drop (k + 1) := by
    rw [← hx, ← List.drop_eq_getElem_cons hk, List.take_append_drop]
  have := List.perm_middle (a := x) (l₁ := l.take k) (l₂ := l.drop (k + 1))
  rw [← e] at this
  exact this
/-- A slice's first so many elements. -/
theorem Sl.take {α : Type} {enc : α → List Value} {k : Nat} {w : World} {A : Option Addr} {n c : Nat} {xs : List α} (h : Sl enc k w A n c xs) (i : Nat) (hi : i ≤ n) : Sl enc k w A i c (xs.take i) := by
  obtain ⟨h1, h2, h3, h4⟩ := h
  refine ⟨by rw [List.length_take, ← h1, Nat.min_eq_left hi], by omega, h3, fun hn => ?_⟩
  obtain ⟨b, off, rfl, hb, hc⟩ := h4 (by omega)
  refine ⟨b, off, rfl, hb, fun j hj l hl => ?_⟩
  rw [List.length_take] at hj
  rw [List.getElem_take]
  exact hc j (by omega) l hl
theorem Sl.zero {α : Type} {enc : α → List Value} {k : Nat} {w : World} {A : Option Addr} {n c : Nat} {xs : List α} (hn : n = 0) (hx : xs = []) (hc : c ≤ maxLen) : Sl enc k w A n c xs := by
  subst hn hx
  exact ⟨rfl, Nat.zero_le _, hc, fun h => absurd h (Nat.lt_irrefl _)⟩
theorem keep7 {w w' : World} {q : Nat} {a0 a1 a2 a3 a4 a5 a6 : Value} {T : TypeId} (h : At w q #[a0, a1, a2, a3, a4, a5, a6] T) (k : Keep none_ w w') :
    w'.cell? ⟨q, 0, none⟩ = some a0 ∧ w'.cell? ⟨q, 1, none⟩ = some a1 ∧ w'.cell? ⟨q, 2, none⟩ = some a2 ∧ w'.cell? ⟨q, 3, none⟩ = some a3 ∧ w'.cell? ⟨q, 4, none⟩ = some a4 ∧ w'.cell? ⟨q, 5, none⟩ = some a5 ∧ w'.cell? ⟨q, 6, none⟩ = some a6 ∧ Keep none_ w w' := by
  have h' := At.cell (Keep.at k h (fun e => e))
  exact ⟨h' 0, h' 1, h' 2, h' 3, h' 4, h' 5, h' 6, k⟩
/-- A row of panes is apart from timers. -/
def ApM (p : Nat) (v : Value) (m : Value) : Prop := ∀ g, m.ownBlock = some g → ¬ tset p v g
theorem ApM.same {w : World} {p base n : Nat} {v v' m : Value} {e : TypeId} {xs : List Value} (h : ApM p v m) (o : SameOwn w v v') (own : w.ownsRow base e 7 m n xs) : ApM p v' m :=
  fun g hg e => h g hg (SameOwn.set o g (own.lt g hg).2 e)
theorem first_eq {w : World} {p : Nat} {v : Value} {l m : List Timer} (t : TAt w p v l) (pe : l.Perm m) {x y : Timer} {k : Nat} (hx : l[0]? = some x) (hy : m[k]? = some y) (hmin : ∀ z ∈ m, tlt z y = false) : y = x := by
  have := t.head pe (List.mem_of_getElem? hy) hmin
  rw [hx] at this
  exact (Option.some.inj this).symm
end Go.Proofs.Ytlnlbegcnhelmaa
