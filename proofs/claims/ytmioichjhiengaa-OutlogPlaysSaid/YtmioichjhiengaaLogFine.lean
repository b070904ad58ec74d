/-
  outlog.Log: Of, Fine.
-/
import Derived.Test.YtmioichjhiengaaLog
namespace Go.Proofs.Ytmioichjhiengaa
open Go.RowKit

set_option maxHeartbeats 2000000 in
theorem log_of {w : World} {b p : Nat} {v : Value} {xs : List Pane} (hL : IsLog w b p v xs) (hn : xs.length ≤ 800000) (key : ByteArray) :
    Calls Try.prog 14 #[.pointer (some ⟨p, 0, none⟩), .string key] w (Cloned w (ofKey key xs)) := by
  have ho := hL.own
  obtain ⟨A, c, rfl⟩ := own_form ho
  have h := Sl.of_own pane_len (by decide) ho
  have c0 := At.cell hL.at_
  obtain ⟨n, hnn⟩ : ∃ n, n = xs.length := ⟨_, rfl⟩
  rw [← hnn] at h hn c0
  have hlen := Lib.hid hnn
  have hlc := h.2.1
  clear hnn hL ho
  go_enter Try.func14, Try.ntmps14
  go_wp2_with fail
  go_loopw [5, 7, 13] (fun ov _ iv wr => ∃ k : Nat, iv = .int .i64 k ∧ k ≤ n ∧ wr.ownsRow w.heap.size 32 7 ov (ofKey key (xs.take k)).length (flat Pane.cells (ofKey key (xs.take k))) ∧ Keep none_ w wr)
    (fun _ _ iv _ => n - (intOf iv).toNat)
  case atStart => exact ⟨0, rfl, Nat.zero_le _, ⟨rfl, .inl ⟨rfl, rfl⟩⟩, Keep.refl _ _⟩
  case round =>
    obtain ⟨k, rfl, hk, own, kk⟩ := hrel
    by_cases hlt : k < n
    · have hkx : k < xs.length := by have := hlen.out; omega
      have hsl := h.keep kk Off.none_
      obtain ⟨b, off, rfl, hbl, -⟩ := hsl.at_ (by omega)
      obtain ⟨q0, q1, q2, q3, q4, q5, q6⟩ := hsl.pane hkx
      have hst : ofKey key (xs.take (k + 1)) = ofKey key (xs.take k) ++ (if xs[k].key.toList == key.toList then [xs[k]] else []) := by
        unfold ofKey
        rw [List.take_succ_eq_append_getElem hkx, List.filter_append]
        congr 1
        cases h9 : (xs[k].key.toList == key.toList) <;> simp [h9]
      have hol : (ofKey key (xs.take k)).length ≤ 800000 := Nat.le_trans (List.length_filter_le _ _) (by rw [List.length_take]; omega)
      generalize xs[k] = x at *
      obtain ⟨bb, hbb⟩ : ∃ bb, bb = (x.key.toList == key.toList) := ⟨_, rfl⟩
      rw [← hbb] at hst
      have hbb' : (x.key.toList == key.toList) = bb := hbb.symm
      replace hst := Lib.hid hst
      have hlt' : (k : Int) < (n : Int) := by omega
      have hk0 := Int.natCast_nonneg k
      have hws := kk.size
      have k1 : Keep none_ wr (wr.alloc (.cells x.cells.toArray 32)) := Keep.alloc (Keep.refl _ _) _
      have hx1 := At.cell (At.new wr x.cells.toArray 32)
      simp only [Pane.cells] at k1 hx1
      clear hbb hsl
      cases bb
      · have own1 := own_keep own k1 (fun _ _ e => e)
        clear h
        go_wp2_with fail
        go_roundw
        case rel => exact ⟨k + 1, by go_num, by omega, by rw [hst.out]; simpa using own1, kk.trans k1⟩
        case measure => simp [intOf]; omega
      · have hsl1 := Sl.of_at (xs := [x]) (At.newAt (w := wr.alloc (.cells x.cells.toArray 32)) (n := wr.heap.size + 1) (by simp) x.cells.toArray 32) pane_len (by decide) (rfl : (1 : Nat) = [x].length) (by simp [flat_one]) (by unfold maxLen; omega)
        have kb : Keep none_ wr ((wr.alloc (.cells x.cells.toArray 32)).alloc (.cells x.cells.toArray 32)) := (by repeat' (first | assumption | with_reducible exact Keep.refl _ _ | with_reducible refine Keep.alloc ?_ _ | with_reducible refine Keep.drew ?_))
        have own1 := own_keep own kb (fun _ _ e => e)
        have hbase1 : w.heap.size ≤ ((wr.alloc (.cells x.cells.toArray 32)).alloc (.cells x.cells.toArray 32)).heap.size := by simp; omega
        simp only [Pane.cells] at hsl1 kb own1 hbase1
        go_wp2_with (at_builtin; refine wpList_append_sl _ rfl _ _ _ rfl w.heap.size 32 row_pane pane_len pane_one _ _ _ rfl own1 (some ⟨wr.heap.size + 1, 0, none⟩) 1 1 [x] rfl hsl1 (by omega) hbase1 ?_)
        intro v' w2 own2 hg2 hb2
        have k2 : Keep none_ w w2 := keep_grown (kk.trans kb) own1 hg2 (Nat.le_refl _)
        clear own own1 hg2 hb2 hsl1 kb h q0 q1 q2 q3 q4 q5 q6 hx1 k1
        go_wp2_with fail
        go_roundw
        case rel => exact ⟨k + 1, by go_num, by omega, by rw [hst.out]; simpa using own2, k2⟩
        case measure => simp [intOf]; omega
    · have htk : xs.take k = xs := List.take_of_length_le (by have := hlen.out; omega)
      rw [htk] at own
      clear h
      go_wp2_with fail
      go_ret
      exact ⟨_, rfl, own, kk⟩
end Go.Proofs.Ytmioichjhiengaa
