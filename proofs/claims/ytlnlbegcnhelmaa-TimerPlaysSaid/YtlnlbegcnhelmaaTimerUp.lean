/-
  The head of layer 6's laws; what the laws need of timers.
-/
import Derived.Test.YtlnlbegcnhelmaaTimers
namespace Go.Proofs.Ytlnlbegcnhelmaa
open Go.RowKit

section
variable {w w' : World} {p : Nat} {v : Value} {l m : List Timer}
theorem TAt.head (h : TAt w p v l) (hp : l.Perm m) {x : Timer} (hx : x ∈ m) (hmin : ∀ y ∈ m, tlt y x = false) : l[0]? = some x := by
  have hxl : x ∈ l := hp.mem_iff.2 hx
  have h0 : 0 < l.length := List.length_pos_of_mem hxl
  rw [List.getElem?_eq_getElem h0]
  obtain ⟨k, hk, hkx⟩ := List.getElem_of_mem hxl
  have h1 := heap_min tlt_strict l l.length (Nat.le_refl _) h0 h.heap k hk
  rw [hkx] at h1
  have h2 := hmin l[0] (hp.mem_iff.1 (List.getElem_mem h0))
  rw [tlt_strict.tot _ _ h2 h1]
theorem TAt.least (h : TAt w p v l) {x : Timer} (hx : l[0]? = some x) : ∀ y ∈ l, tlt y x = false := by
  intro y hy
  obtain ⟨h0, hx0⟩ := List.getElem?_eq_some_iff.1 hx
  obtain ⟨k, hk, hky⟩ := List.getElem_of_mem hy
  have h1 := heap_min tlt_strict l l.length (Nat.le_refl _) h0 h.heap k hk
  rwa [hky, hx0] at h1
theorem timers_put_any (h : TAt w p v l) (hlen : l.length ≤ 900) (x : Timer) :
    Calls Try.prog 54 #[.pointer (some ⟨p, 0, none⟩), .agg x.cells.toArray] w fun e w' => ∃ b v' l', e = .returned (.bool b) ∧ TAt w' p v' l' ∧ (∀ y, y ∈ l' ↔ y ∈ l ∨ y = x) ∧ l'.length ≤ l.length + 1 ∧ Keep (tset p v) w w' ∧ SameOwn w v v' := by
  by_cases hx : x ∈ l
  · refine (timers_put_in h hlen x hx).mono ?_
    rintro e w1 ⟨rfl, k1⟩
    exact ⟨_, v, l, rfl, h.none k1, fun y => ⟨fun e => .inl e, fun e => by rcases e with e | rfl; exact e; exact hx⟩, by omega, k1.mono (fun _ _ e => e.elim), .inl rfl⟩
  · refine (timers_put h hlen x hx).mono ?_
    rintro e w1 ⟨rfl, v', l', h1, pe, k1, o1⟩
    exact ⟨_, v', l', rfl, h1, fun y => by rw [pe.mem_iff]; simp, by rw [pe.length_eq]; simp, k1, o1⟩
end

set_option maxHeartbeats 1000000 in
theorem timerUp (w : World) : Calls Try.prog 52 #[] w fun e w' => e = .returned (.bool true) ∧ Keep none_ w w' := by
  obtain ⟨A, hA⟩ : ∃ A : Timer, A = ⟨⟨#[97]⟩, ⟨0, 10⟩⟩ := ⟨_, rfl⟩
  obtain ⟨B, hB⟩ : ∃ B : Timer, B = ⟨⟨#[98]⟩, ⟨0, 5⟩⟩ := ⟨_, rfl⟩
  have hAB : B ≠ A := by
    rw [hA, hB]
    intro e
    have := congrArg (fun t : Timer => t.span.e) e
    simp at this
  have hlt : tlt A B = false := by
    rw [tlt_eq, hA, hB]
    simp
  have hover : B.span.overB 0 10 = true := by rw [hB]; simp [Span.overB]
  have hBok : B.ok := by rw [hB]; simp [Timer.ok, Span.ok, I64, maxLen, ByteArray.size]
  have hAc : A.cells.toArray = #[.string ⟨#[97]⟩, .int .i64 0, .int .i64 10] := by rw [hA]
  have hBc : B.cells.toArray = #[.string ⟨#[98]⟩, .int .i64 0, .int .i64 5] := by rw [hB]
  clear hA hB
  go_enter Try.func52, Try.ntmps52
  go_wp2_with fail
  refine (timers_new _).mono ?_
  rintro e w1 ⟨rfl, t1, k1⟩
  have hnb : ∀ {v : Value} {l : List Timer} {w' : World}, TAt w' w.heap.size v l → ∀ q, q < w.heap.size → ¬ tset w.heap.size v q := fun h q hq e => by have := h.ge e; omega
  have c2 := timers_put t1 (by simp) A (by simp)
  rw [hAc] at c2
  replace c2 := Lib.hid c2
  go_wp2_with fail
  refine c2.out.mono ?_
  rintro e w2 ⟨rfl, v2, l2, t2, p2, k2, -⟩
  replace k2 := Keep.fresh k1 k2 (hnb t1)
  have c3 := timers_put t2 (by rw [p2.length_eq]; simp) B (by rw [p2.mem_iff]; simpa using hAB)
  rw [hBc] at c3
  replace c3 := Lib.hid c3
  clear c2 k1
  go_wp2_with fail
  refine c3.out.mono ?_
  rintro e w3 ⟨rfl, v3, l3, t3, p3, k3, -⟩
  replace k3 := Keep.fresh k2 k3 (hnb t2)
  have p3' : l3.Perm [A, B] := p3.trans (p2.append_right [B])
  have c4 := timers_put_in t3 (by rw [p3'.length_eq]; simp) B (by rw [p3'.mem_iff]; simp)
  rw [hBc] at c4
  replace c4 := Lib.hid c4
  clear c3 k2
  go_wp2_with fail
  refine c4.out.mono ?_
  rintro e w4 ⟨rfl, k4⟩
  have t4 := t3.none k4
  replace k4 := k3.trans k4
  have c5 := timers_pop t4 (by rw [p3'.length_eq]; simp) 0 10 B (t4.head p3' (by simp) (by
    intro y hy
    simp at hy
    rcases hy with rfl | rfl
    · exact hlt
    · exact tlt_strict.irr _)) hBok (by simp [I64]) (by simp [I64]) hover
  rw [hBc] at c5
  replace c5 := Lib.hid c5
  clear c4 k3
  go_wp2_with fail
  refine c5.out.mono ?_
  rintro e w5 ⟨rfl, v5, l5, t5, p5, k5, -⟩
  replace k5 := Keep.fresh k4 k5 (hnb t4)
  have hl5 : l5.length = 1 := by
    have := p5.length_eq
    rw [p3'.length_eq] at this
    simp at this
    omega
  have c6 := fun w' (k : Keep none_ w5 w') => timers_len (t5.none k)
  rw [hl5] at c6
  replace c6 := Lib.hid c6
  clear c5 k4 hl5
  have hx := At.new w5 #[.string ⟨#[98]⟩, .int .i64 0, .int .i64 5] 101
  have cx := At.cell hx
  have k6 := Keep.alloc k5 (.cells #[.string ⟨#[98]⟩, .int .i64 0, .int .i64 5] 101)
  go_wp2_with fail
  refine (c6.out _ (by repeat' (first | assumption | with_reducible exact Keep.refl _ _ | with_reducible refine Keep.alloc ?_ _ | with_reducible refine Keep.drew ?_))).mono ?_
  rintro e w6 ⟨rfl, rfl⟩
  go_wp2_with fail
  go_ret
  exact ⟨rfl, k6⟩
end Go.Proofs.Ytlnlbegcnhelmaa
