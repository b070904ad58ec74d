/-
  The contracts of package ctl: what each method of a control does to it.
-/
import Derived.Test.YtkbaijdamddipaaProg
import Derived.Test.YtkbaijdamddipaaHeap
import Derived.Deep.QuietTactic
import Derived.BigQuiet
import Derived.Outline
namespace Go.Proofs.Ytkbaijdamddipaa
open Go.RowKit

structure CtlS where
  who : Int
  held : Bool
  mark : Int
  closed : Bool

def CtlS.hold (c : CtlS) (n : Int) : Bool × CtlS := if c.held then (c.who == n, c) else (true, { c with who := n, held := true })
def CtlS.drop (c : CtlS) (n : Int) : Bool × CtlS := if c.held && c.who == n then (true, { c with who := 0, held := false }) else (false, c)
def CtlS.raise (c : CtlS) (m : Int) : Bool × CtlS := if m ≤ c.mark then (false, c) else (true, { c with mark := m })
def CtlS.shut (c : CtlS) : Bool × CtlS := (!c.closed, { c with closed := true })

def IsCtl (w : World) (p : Nat) (c : CtlS) : Prop :=
  At w p #[.int .i64 c.who, .bool c.held, .int .i64 c.mark, .bool c.closed] 85

theorem IsCtl.keep {S : Nat → Prop} {w w' : World} {p : Nat} {c : CtlS} (h : IsCtl w p c) (k : Keep S w w') (hs : ¬ S p) : IsCtl w' p c := k.at h hs

theorem ctl_new (w : World) : Calls Try.prog 28 #[] w fun e w' =>
    e = .returned (.pointer (some ⟨w.heap.size, 0, none⟩)) ∧ IsCtl w' w.heap.size ⟨0, false, -9223372036854775808, false⟩ ∧ Keep none_ w w' := by
  go_enter Try.func28, Try.ntmps28
  go_wp2
  go_ret
  exact ⟨rfl, At.new _ _ _, (by repeat' (first | exact Keep.refl _ _ | refine Keep.set1 ?_ _ | refine Keep.alloc ?_ _ | refine Keep.drew ?_ | refine Keep.setNew ?_ (by simp) _))⟩

theorem ctl_hold (w : World) (p : Nat) (c : CtlS) (n : Int) (r : Bool × CtlS) (h : IsCtl w p c) (hr : c.hold n = r) :
    Calls Try.prog 30 #[.pointer (some ⟨p, 0, none⟩), .int .i64 n] w fun e w' =>
      e = .returned (.bool r.1) ∧ IsCtl w' p r.2 ∧ Keep (one p) w w' := by
  subst hr
  have hc := At.cell h
  have hf := At.frozen h
  obtain ⟨who, held, mark, closed⟩ := c
  cases held
  · go_enter Try.func30, Try.ntmps30
    go_wp2
    go_ret
    exact ⟨rfl, (At.set (At.set h 0 _) 1 _), (by repeat' (first | exact Keep.refl _ _ | refine Keep.set1 ?_ _ | refine Keep.alloc ?_ _ | refine Keep.drew ?_ | refine Keep.setNew ?_ (by simp) _))⟩
  · go_enter Try.func30, Try.ntmps30
    go_wp2
    go_ret
    exact ⟨rfl, h, (by repeat' (first | exact Keep.refl _ _ | refine Keep.set1 ?_ _ | refine Keep.alloc ?_ _ | refine Keep.drew ?_ | refine Keep.setNew ?_ (by simp) _))⟩

theorem ctl_drop (w : World) (p : Nat) (c : CtlS) (n : Int) (r : Bool × CtlS) (h : IsCtl w p c) (hr : c.drop n = r) :
    Calls Try.prog 31 #[.pointer (some ⟨p, 0, none⟩), .int .i64 n] w fun e w' =>
      e = .returned (.bool r.1) ∧ IsCtl w' p r.2 ∧ Keep (one p) w w' := by
  subst hr
  have hc := At.cell h
  have hf := At.frozen h
  obtain ⟨who, held, mark, closed⟩ := c
  cases held
  · go_enter Try.func31, Try.ntmps31
    go_wp2
    go_ret
    exact ⟨rfl, h, (by repeat' (first | exact Keep.refl _ _ | refine Keep.set1 ?_ _ | refine Keep.alloc ?_ _ | refine Keep.drew ?_ | refine Keep.setNew ?_ (by simp) _))⟩
  · by_cases hw : who = n
    · subst hw
      go_enter Try.func31, Try.ntmps31
      go_wp2
      go_ret
      exact ⟨by simp [CtlS.drop], by simpa [CtlS.drop, IsCtl] using (At.set (At.set h 0 _) 1 _), (by repeat' (first | exact Keep.refl _ _ | refine Keep.set1 ?_ _ | refine Keep.alloc ?_ _ | refine Keep.drew ?_ | refine Keep.setNew ?_ (by simp) _))⟩
    · have hw' : (who != n) = true := by simpa using hw
      go_enter Try.func31, Try.ntmps31
      go_wp2
      go_ret
      exact ⟨by simp [CtlS.drop, hw], by simpa [CtlS.drop, hw] using h, (by repeat' (first | exact Keep.refl _ _ | refine Keep.set1 ?_ _ | refine Keep.alloc ?_ _ | refine Keep.drew ?_ | refine Keep.setNew ?_ (by simp) _))⟩

theorem ctl_raise (w : World) (p : Nat) (c : CtlS) (m : Int) (r : Bool × CtlS) (h : IsCtl w p c) (hr : c.raise m = r) :
    Calls Try.prog 33 #[.pointer (some ⟨p, 0, none⟩), .int .i64 m] w fun e w' =>
      e = .returned (.bool r.1) ∧ IsCtl w' p r.2 ∧ Keep (one p) w w' := by
  subst hr
  have hc := At.cell h
  have hf := At.frozen h
  obtain ⟨who, held, mark, closed⟩ := c
  by_cases hm : m ≤ mark
  · go_enter Try.func33, Try.ntmps33
    go_wp2
    go_ret
    exact ⟨by simp [CtlS.raise, hm], by simpa [CtlS.raise, hm] using h, (by repeat' (first | exact Keep.refl _ _ | refine Keep.set1 ?_ _ | refine Keep.alloc ?_ _ | refine Keep.drew ?_ | refine Keep.setNew ?_ (by simp) _))⟩
  · go_enter Try.func33, Try.ntmps33
    go_wp2
    go_ret
    have hm' : ¬ m ≤ mark := by omega
    exact ⟨by simp [CtlS.raise, hm'], by simpa [CtlS.raise, hm', IsCtl] using (At.set h 2 _), (by repeat' (first | exact Keep.refl _ _ | refine Keep.set1 ?_ _ | refine Keep.alloc ?_ _ | refine Keep.drew ?_ | refine Keep.setNew ?_ (by simp) _))⟩

theorem ctl_shut (w : World) (p : Nat) (c : CtlS) (r : Bool × CtlS) (h : IsCtl w p c) (hr : c.shut = r) :
    Calls Try.prog 32 #[.pointer (some ⟨p, 0, none⟩)] w fun e w' =>
      e = .returned (.bool r.1) ∧ IsCtl w' p r.2 ∧ Keep (one p) w w' := by
  subst hr
  have hc := At.cell h
  have hf := At.frozen h
  go_enter Try.func32, Try.ntmps32
  go_wp2
  go_ret
  exact ⟨rfl, At.set h 3 _, (by repeat' (first | exact Keep.refl _ _ | refine Keep.set1 ?_ _ | refine Keep.alloc ?_ _ | refine Keep.drew ?_ | refine Keep.setNew ?_ (by simp) _))⟩

theorem ctl_mark (w : World) (p : Nat) (c : CtlS) (h : IsCtl w p c) :
    Calls Try.prog 35 #[.pointer (some ⟨p, 0, none⟩)] w fun e w' => e = .returned (.int .i64 c.mark) ∧ w = w' := by
  have hc := At.cell h
  go_enter Try.func35, Try.ntmps35
  go_wp2
  go_ret
  exact ⟨rfl, rfl⟩
theorem ctl_closed (w : World) (p : Nat) (c : CtlS) (h : IsCtl w p c) :
    Calls Try.prog 36 #[.pointer (some ⟨p, 0, none⟩)] w fun e w' => e = .returned (.bool c.closed) ∧ w = w' := by
  have hc := At.cell h
  go_enter Try.func36, Try.ntmps36
  go_wp2
  go_ret
  exact ⟨rfl, rfl⟩
theorem ctl_holder (w : World) (p : Nat) (c : CtlS) (h : IsCtl w p c) :
    Calls Try.prog 34 #[.pointer (some ⟨p, 0, none⟩)] w fun e w' => e = .returned (.tuple #[.int .i64 c.who, .bool c.held]) ∧ ∃ n, w' = w.drewN n := by
  have hc := At.cell h
  have h0 : w.cell? ⟨p, 0, none⟩ = some (.int .i64 c.who) := hc 0
  have h1 : w.cell? ⟨p, 1, none⟩ = some (.bool c.held) := hc 1
  go_enter Try.func34, Try.ntmps34
  go_wp2
  go_quiet (fail)
  go_wp2
  go_ret2
  exact ⟨rfl, _, rfl⟩
end Go.Proofs.Ytkbaijdamddipaa
