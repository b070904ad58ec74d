/-
  container/heap's Push, Pop and Remove over the queue of timers.
-/
import Derived.Test.YtlnlbegcnhelmaaHeapDown
import Derived.Test.YtlnlbegcnhelmaaQueueLaw
namespace Go.Proofs.Ytlnlbegcnhelmaa
open Go.RowKit

theorem Keep.comb {S S' : Nat → Prop} {a b c : World} (h : Keep S a b) (k : Keep S' b c) (hs : ∀ q, q < a.heap.size → S' q → S q) : Keep S a c :=
  ⟨k.os.trans h.os, k.tape.trans h.tape, k.output.trans h.output, Nat.le_trans h.size k.size,
    fun i hi hn => (k.block i (Nat.lt_of_lt_of_le hi h.size) (fun e => hn (hs i hi e))).trans (h.block i hi hn)⟩
/-- The cell of the timers, and their row. -/
def tset (p : Nat) (v : Value) : Nat → Prop := fun z => z = p ∨ v.ownBlock = some z
/-- The same row, or one of the call's own. -/
def SameOwn (w : World) (v v' : Value) : Prop := v'.ownBlock = v.ownBlock ∨ ∃ g, v'.ownBlock = some g ∧ w.heap.size ≤ g
theorem SameOwn.set {w : World} {v v' : Value} {p : Nat} (h : SameOwn w v v') : ∀ q, q < w.heap.size → tset p v' q → tset p v q := by
  intro q hq e
  rcases e with e | e
  · exact .inl e
  · rcases h with h | ⟨g, h, hg⟩
    · exact .inr (h ▸ e)
    · rw [h] at e
      have : g = q := by simpa using e
      omega
theorem own_tset {p : Nat} {v : Value} : ∀ q, own v q → tset p v q := fun q e => .inr e
theorem SameOwn.trans {w w' : World} {v v' v2 : Value} (h : SameOwn w v v') (h2 : SameOwn w' v' v2) (hs : w.heap.size ≤ w'.heap.size) : SameOwn w v v2 := by
  rcases h2 with h2 | ⟨g, h2, hg⟩
  · rcases h with h | ⟨g, h, hg⟩
    · exact .inl (h2.trans h)
    · exact .inr ⟨g, h2.trans h, hg⟩
  · exact .inr ⟨g, h2, by omega⟩

theorem SameOwn.up {w w' : World} {v v' : Value} (h : SameOwn w' v v') (hs : w.heap.size ≤ w'.heap.size) : SameOwn w v v' := by
  rcases h with h | ⟨g, h, hg⟩
  · exact .inl h
  · exact .inr ⟨g, h, by omega⟩

theorem heap_push {w : World} {p : Nat} {v : Value} {l : List Timer} (hp : At w p #[v] 141) (h : QAt w (p + 1) v l) (hlen : l.length ≤ 999) (x : Timer) :
    Calls Try.prog 77 #[.iface 144 (.pointer (some ⟨p, 0, none⟩)), .iface 101 (.agg x.cells.toArray)] w fun e w' => e = .returned (.tuple #[]) ∧
      ∃ v', At w' p #[v'] 141 ∧ QAt w' (p + 1) v' (upL tlt (l.length + 1) (l ++ [x]) l.length) ∧ Keep (tset p v) w w' ∧ SameOwn w v v' := by
  have mp := fun w => meth_push ⟨p, 0, none⟩ w
  have c1 := Lib.hid (queue_push hp h (by omega) x)
  have hpl := hp.lt
  generalize hX : Value.agg x.cells.toArray = X at *
  go_enter Try.func77, Try.ntmps77
  go_wp2_with fail
  refine c1.out.mono ?_
  rintro e w1 ⟨rfl, v1, hp1, h1, k1, own1⟩
  clear c1 mp hp h
  have hl1 : (l ++ [x]).length = l.length + 1 := by simp
  obtain ⟨A, c, hv1⟩ := own_form h1
  have hv1' := hv1
  rw [hl1] at hv1
  have c0 : w1.cell? ⟨p, 0, none⟩ = some (.slice A (l.length + 1) c) := by rw [← hv1]; exact At.cell hp1 0
  have ml := meth_len c0
  have c2 := Lib.hid (fun w => queue_len w A (l.length + 1) c)
  have e1 : ((l.length + 1 : Nat) : Int) - 1 = (l.length : Int) := by omega
  have c3 := Lib.hid (heap_up hp1 h1 (by omega) l.length (by omega))
  go_wp2_with fail
  refine (c2.out _).mono ?_
  rintro e w2 ⟨rfl, rfl⟩
  go_wp2_with fail
  refine c3.out.mono ?_
  rintro e w3 ⟨rfl, h3, k3⟩
  have hp3 : At w3 p #[v1] 141 := Keep.at k3 hp1 (fun e => by have := (h1.lt p e).1; omega)
  go_wp2_with fail
  refine bodyPost_end (v := .tuple #[]) ?_ ?_ ?_
  · exact results_none Try.results77 _ _ _
  · rfl
  · refine ⟨rfl, v1, hp3, h3, Keep.comb (S := tset p v) k1 k3 (fun z hz e => SameOwn.set own1 z hz (own_tset z e)), own1⟩

theorem heap_pop {w : World} {p : Nat} {v : Value} {l : List Timer} (hp : At w p #[v] 141) (h : QAt w (p + 1) v l) (hlen : l.length ≤ 1000) (hh : HeapOK tlt l l.length) (x : Timer) (hx : l[0]? = some x) :
    Calls Try.prog 79 #[.iface 144 (.pointer (some ⟨p, 0, none⟩))] w fun e w' => e = .returned (.iface 101 (.agg x.cells.toArray)) ∧
      ∃ v' l', At w' p #[v'] 141 ∧ QAt w' (p + 1) v' l' ∧ HeapOK tlt l' l'.length ∧ l.Perm (x :: l') ∧ Keep (tset p v) w w' ∧ v'.ownBlock = v.ownBlock := by
  obtain ⟨h0, hx0⟩ := List.getElem?_eq_some_iff.1 hx
  obtain ⟨n, hn⟩ : ∃ n, l.length = n + 1 := ⟨l.length - 1, by omega⟩
  obtain ⟨q1, q2, q3, q4⟩ := pop_ok tlt_strict l n hn hh
  rw [hx0] at q2 q4
  obtain ⟨g, cap, rfl, hbg, hgl, hlc, hnc⟩ := own_some h (by omega)
  have hpl := hp.lt
  have c0 : w.cell? ⟨p, 0, none⟩ = some (.slice (some ⟨g, 0, none⟩) l.length cap) := At.cell hp 0
  have ml := meth_len c0
  have ms := meth_swap c0
  have c1 := Lib.hid (fun w => queue_len w (some ⟨g, 0, none⟩) l.length cap)
  have c2 := Lib.hid (queue_swap h 0 n (by omega) (by omega))
  have e1 : (l.length : Int) - 1 = (n : Int) := by omega
  have mpp := meth_pop ⟨p, 0, none⟩
  replace hn := Lib.hid hn
  clear hx hx0 hh
  go_enter Try.func79, Try.ntmps79
  go_wp2_with fail
  refine (c1.out _).mono ?_
  rintro e w1 ⟨rfl, rfl⟩
  go_wp2_with fail
  refine c2.out.mono ?_
  rintro e w2 ⟨rfl, h2, k2⟩
  have hp2 := Keep.at k2 hp (fun e => by unfold one at e; omega)
  clear c1 c2 ml ms
  have hsw : (swapL l 0 n).length = l.length := swapL_len _ _ _
  have c3 := Lib.hid (heap_down hp2 (by unfold QAt at h2 ⊢; rw [hsw] at h2 ⊢; exact h2) (by omega) 0 n (by rw [hsw]; exact h0) (by rw [hsw, hn.out]; omega))
  have hq3 := Lib.hid q3
  clear q3 hsw
  go_wp2_with fail
  refine c3.out.mono ?_
  rintro e w3 ⟨rfl, h3, k3⟩
  have hp3 := Keep.at k3 hp2 (fun e => by simp [own, Value.ownBlock] at e; omega)
  have c4 := queue_pop hp3 h3 (by rw [hq3.out]; omega)
  have hx4 : (downH tlt (n + 1) (swapL l 0 n) 0 n).1[(downH tlt (n + 1) (swapL l 0 n) 0 n).1.length - 1]'(by rw [hq3.out]; omega) = x := by
    have : (downH tlt (n + 1) (swapL l 0 n) 0 n).1[n]'(by rw [hq3.out]; omega) = x := by
      rw [List.getElem?_eq_getElem (by rw [hq3.out]; omega)] at q4
      exact Option.some.inj q4
    rw [← this]
    congr 1
    rw [hq3.out]; omega
  rw [hx4] at c4
  rw [show (downH tlt (n + 1) (swapL l 0 n) 0 n).1.length - 1 = n by rw [hq3.out]; omega] at c4
  replace c4 := Lib.hid c4
  clear hx4 c3
  generalize downH tlt (n + 1) (swapL l 0 n) 0 n = r at *
  go_wp2_with fail
  refine c4.out.mono ?_
  rintro e w4 ⟨rfl, v4, hp4, h4, k4, ow4⟩
  go_wp2_with fail
  go_ret
  have kk := Keep.comb (S := tset p (.slice (some ⟨g, 0, none⟩) l.length cap)) (Keep.comb (S := tset p (.slice (some ⟨g, 0, none⟩) l.length cap)) (k2.mono (fun z _ e => .inr (by unfold one at e; simp [Value.ownBlock, e]))) k3 (fun z _ e => .inr e)) k4 (fun z _ e => .inl e)
  have hl4 : (r.1.take n).length = n := by rw [List.length_take, hq3.out]; omega
  exact ⟨rfl, v4, r.1.take n, hp4, h4, by rw [hl4]; exact q1, q2, kk, ow4⟩
end Go.Proofs.Ytlnlbegcnhelmaa
