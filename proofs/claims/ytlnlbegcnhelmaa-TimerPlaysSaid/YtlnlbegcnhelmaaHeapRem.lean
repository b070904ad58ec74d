/-
  container/heap's Remove over the queue of timers.
-/
import Derived.Test.YtlnlbegcnhelmaaHeapPush
namespace Go.Proofs.Ytlnlbegcnhelmaa
open Go.RowKit

set_option maxRecDepth 100000 in
theorem heap_rem_last {w : World} {p : Nat} {v : Value} {l : List Timer} (hp : At w p #[v] 141) (h : QAt w (p + 1) v l) (hlen : l.length ≤ 1000) (hh : HeapOK tlt l l.length) (n : Nat) (hn : l.length = n + 1) (x : Timer) (hx : l[n]? = some x) :
    Calls Try.prog 84 #[.iface 144 (.pointer (some ⟨p, 0, none⟩)), .int .i64 n] w fun e w' => e = .returned (.iface 101 (.agg x.cells.toArray)) ∧
      ∃ v' l', At w' p #[v'] 141 ∧ QAt w' (p + 1) v' l' ∧ HeapOK tlt l' l'.length ∧ l.Perm (x :: l') ∧ Keep (tset p v) w w' ∧ v'.ownBlock = v.ownBlock := by
  have hperm := perm_last (List.Perm.refl l) hn hx
  obtain ⟨g, cap, rfl, hbg, hgl, hlc, hnc⟩ := own_some h (by omega)
  have hpl := hp.lt
  have c0 : w.cell? ⟨p, 0, none⟩ = some (.slice (some ⟨g, 0, none⟩) l.length cap) := At.cell hp 0
  have ml := meth_len c0
  have c1 := Lib.hid (fun w => queue_len w (some ⟨g, 0, none⟩) l.length cap)
  have e1 : (l.length : Int) - 1 = (n : Int) := by omega
  have mpp := meth_pop ⟨p, 0, none⟩
  have c4 := queue_pop hp h (by omega)
  have hx4 : l[l.length - 1]'(by omega) = x := by
    have h2 : l[n]'(by omega) = x := by
      rw [List.getElem?_eq_getElem (by omega)] at hx
      exact Option.some.inj hx
    rw [← h2]
    congr 1
    omega
  rw [hx4, show l.length - 1 = n by omega] at c4
  replace c4 := Lib.hid c4
  have hh2 := hh.less (m := n) (by omega) (Nat.le_refl _)
  clear hx hx4 hh
  replace hn := Lib.hid hn
  go_enter Try.func84, Try.ntmps84
  go_wp2_with fail
  refine (c1.out _).mono ?_
  rintro e w1 ⟨rfl, rfl⟩
  go_wp2_with fail
  refine c4.out.mono ?_
  rintro e w4 ⟨rfl, v4, hp4, h4, k4, ow4⟩
  go_wp2_with fail
  go_ret
  have hl4 : (l.take n).length = n := by rw [List.length_take, hn.out]; omega
  exact ⟨rfl, v4, l.take n, hp4, h4, by rw [hl4]; exact hh2.take, hperm, k4.mono (fun z _ e => .inl e), ow4⟩

set_option maxHeartbeats 4000000 in
set_option maxRecDepth 100000 in
theorem heap_rem {w : World} {p : Nat} {v : Value} {l : List Timer} (hp : At w p #[v] 141) (h : QAt w (p + 1) v l) (hlen : l.length ≤ 1000) (hh : HeapOK tlt l l.length) (i n : Nat) (hn : l.length = n + 1) (hi : i < n) (x : Timer) (hx : l[i]? = some x) :
    Calls Try.prog 84 #[.iface 144 (.pointer (some ⟨p, 0, none⟩)), .int .i64 i] w fun e w' => e = .returned (.iface 101 (.agg x.cells.toArray)) ∧
      ∃ v' l', At w' p #[v'] 141 ∧ QAt w' (p + 1) v' l' ∧ HeapOK tlt l' l'.length ∧ l.Perm (x :: l') ∧ Keep (tset p v) w w' ∧ v'.ownBlock = v.ownBlock := by
  obtain ⟨h0, hx0⟩ := List.getElem?_eq_some_iff.1 hx
  obtain ⟨q1, q2, q3, q4⟩ := rem_ok tlt_strict l i n hn hi hh
  rw [hx0] at q2 q4
  obtain ⟨g, cap, rfl, hbg, hgl, hlc, hnc⟩ := own_some h (by omega)
  have hpl := hp.lt
  have c0 : w.cell? ⟨p, 0, none⟩ = some (.slice (some ⟨g, 0, none⟩) l.length cap) := At.cell hp 0
  have ml := meth_len c0
  have ms := meth_swap c0
  have c1 := Lib.hid (fun w => queue_len w (some ⟨g, 0, none⟩) l.length cap)
  have c2 := Lib.hid (queue_swap h i n h0 (by omega))
  have e1 : (l.length : Int) - 1 = (n : Int) := by omega
  have e2 : ((n : Int) != (i : Int)) = true := by simp; omega
  have mpp := meth_pop ⟨p, 0, none⟩
  have hlr : (remL tlt l i n).length = l.length := by rw [q3, hn]
  clear hx hx0 hh
  have hi1000 : n ≤ 1000 := by omega
  replace hn := Lib.hid hn
  have fin : ∀ w3 (hp3 : At w3 p #[.slice (some ⟨g, 0, none⟩) l.length cap] 141) (h3 : QAt w3 (p + 1) (.slice (some ⟨g, 0, none⟩) l.length cap) (remL tlt l i n)) (k3 : Keep (tset p (.slice (some ⟨g, 0, none⟩) l.length cap)) w w3),
      Calls Try.prog 134 #[.pointer (some ⟨p, 0, none⟩)] w3 fun e w' => e = .returned (.iface 101 (.agg x.cells.toArray)) ∧
      ∃ v' l', At w' p #[v'] 141 ∧ QAt w' (p + 1) v' l' ∧ HeapOK tlt l' l'.length ∧ l.Perm (x :: l') ∧ Keep (tset p (.slice (some ⟨g, 0, none⟩) l.length cap)) w w' ∧ v'.ownBlock = (Value.slice (some ⟨g, 0, none⟩) l.length cap).ownBlock := fun w3 hp3 h3 k3 => by
    have c4 := queue_pop hp3 h3 (by rw [hlr]; omega)
    have hx4 : (remL tlt l i n)[(remL tlt l i n).length - 1]'(by rw [hlr]; omega) = x := by
      have : (remL tlt l i n)[n]'(by rw [hlr, hn.out]; omega) = x := by
        rw [List.getElem?_eq_getElem (by rw [hlr, hn.out]; omega)] at q4
        exact Option.some.inj q4
      rw [← this]
      congr 1
      rw [hlr, hn.out]; omega
    rw [hx4, show (remL tlt l i n).length - 1 = n by rw [hlr, hn.out]; omega] at c4
    refine c4.mono ?_
    rintro e w4 ⟨rfl, v4, hp4, h4, k4, ow4⟩
    have hl4 : ((remL tlt l i n).take n).length = n := by rw [List.length_take, hlr, hn.out]; omega
    exact ⟨rfl, v4, (remL tlt l i n).take n, hp4, h4, by rw [hl4]; exact q1, q2, Keep.comb k3 k4 (fun z _ e => .inl e), ow4⟩
  clear q1 q2 q3 q4
  go_enter Try.func84, Try.ntmps84
  go_wp2_with fail
  refine (c1.out _).mono ?_
  rintro e w1 ⟨rfl, rfl⟩
  go_wp2_with fail
  refine c2.out.mono ?_
  rintro e w2 ⟨rfl, h2, k2⟩
  have hp2 := Keep.at k2 hp (fun e => by unfold one at e; omega)
  clear c1 c2 ml ms
  have hsw : (swapL l i n).length = l.length := swapL_len _ _ _
  have c3 := Lib.hid (heap_down hp2 (by unfold QAt at h2 ⊢; rw [hsw] at h2 ⊢; exact h2) (by omega) i n (by rw [hsw]; exact h0) (by rw [hsw, hn.out]; omega))
  clear hsw
  have k2' := k2.mono (S' := tset p (.slice (some ⟨g, 0, none⟩) l.length cap)) (fun z _ e => .inr (by unfold one at e; simp [Value.ownBlock, e]))
  clear k2
  go_wp2_with fail
  refine c3.out.mono ?_
  rintro e w3 ⟨rfl, h3, k3⟩
  have hp3 := Keep.at k3 hp2 (fun e => by simp [own, Value.ownBlock] at e; omega)
  have k3' := Keep.comb k2' k3 (fun z _ e => .inr e)
  clear c3 k3 k2'
  replace hlr := Lib.hid hlr
  by_cases hm : i < (downH tlt (n + 1) (swapL l i n) i n).2
  · have hd : decide (i < (downH tlt (n + 1) (swapL l i n) i n).2) = true := by simp; exact hm
    have hr : remL tlt l i n = (downH tlt (n + 1) (swapL l i n) i n).1 := by unfold remL; rw [if_pos hm]
    rw [← hr] at h3
    rw [hd]
    clear hm hr hd
    replace c4 := Lib.hid (fin w3 hp3 h3 k3')
    clear fin
    go_wp2_with fail
    refine c4.out.mono ?_
    rintro e w4 ⟨rfl, rest⟩
    go_wp2_with fail
    go_ret
    exact ⟨rfl, rest⟩
  · have hd : decide (i < (downH tlt (n + 1) (swapL l i n) i n).2) = false := by simp; omega
    have hr : remL tlt l i n = upL tlt (i + 1) (downH tlt (n + 1) (swapL l i n) i n).1 i := by unfold remL; rw [if_neg hm]
    have hlen3 : (downH tlt (n + 1) (swapL l i n) i n).1.length = l.length := by
      have := own_len (k := 3) (enc := Timer.cells) timer_len3 (by decide) h3
      have hq := h3.1
      rcases h3.2 with ⟨h9, -⟩ | ⟨g', cap', cur, he, -⟩
      · cases h9
      · injection he with _ h9 _
        exact h9.symm
    have c5 := heap_up hp3 h3 (by rw [hlen3]; exact hlen) i (by rw [hlen3]; exact h0)
    rw [← hr] at c5
    rw [hd]
    clear hm hr hd hlen3 h3
    replace c5 := Lib.hid c5
    go_wp2_with fail
    refine c5.out.mono ?_
    rintro e w4 ⟨rfl, h4, k4⟩
    have hp4 := Keep.at k4 hp3 (fun e => by simp [own, Value.ownBlock] at e; omega)
    replace c4 := Lib.hid (fin w4 hp4 h4 (Keep.comb k3' k4 (fun z _ e => .inr e)))
    clear fin c5
    go_wp2_with fail
    refine c4.out.mono ?_
    rintro e w5 ⟨rfl, rest⟩
    go_wp2_with fail
    go_ret
    exact ⟨rfl, rest⟩
end Go.Proofs.Ytlnlbegcnhelmaa
