/-
  The reference's Of: a key's panes; easellaw07.set.
-/
import Derived.Test.YtmioichjhiengaaBaseRow
import Derived.Test.YtmioichjhiengaaPaneSearch
import Derived.Test.YtmioichjhiengaaSpanRef
import Derived.Deep.LoopGhost
--auto
namespace Go.Proofs.Ytmioichjhiengaa
open Go.RowKit

def ofKey (key : ByteArray) (l : List Pane) : List Pane := l.filter (fun p => p.key.toList == key.toList)
set_option maxHeartbeats 2000000 in
theorem ref_of {w : World} {A : Option Addr} {n c : Nat} {xs : List Pane} (h : Sl Pane.cells 7 w A n c xs) (hn : n ≤ 800000) (key : ByteArray) :
    Calls Try.prog 15 #[.slice A n c, .string key] w (Cloned w (ofKey key xs)) := by
  have hlen := Lib.hid h.len
  have hlc := h.2.1
  go_enter Try.func15, Try.ntmps15
  go_wp2_with fail
  go_loopw [5, 6] (fun ov iv wr => ∃ k : Nat, iv = .int .i64 k ∧ k ≤ n ∧ wr.ownsRow w.heap.size 32 7 ov (ofKey key (xs.take k)).length (flat Pane.cells (ofKey key (xs.take k))) ∧ Keep none_ w wr)
    (fun _ iv _ => n - (intOf iv).toNat)
  case atStart => exact ⟨0, rfl, Nat.zero_le _, ⟨rfl, .inl ⟨rfl, rfl⟩⟩, Keep.refl _ _⟩
  case round =>
    obtain ⟨k, rfl, hk, own, kk⟩ := hrel
    by_cases hlt : k < n
    · have hkx : k < xs.length := by have := hlen.out; omega
      have hsl := h.keep kk Off.none_
      obtain ⟨b, off, rfl, hbl, -⟩ := hsl.at_ (by omega)
      obtain ⟨q0, q1, q2, q3, q4, q5, q6⟩ := hsl.pane hkx
      have hst : ofKey key (xs.take (k + 1)) = ofKey key (xs.take k) ++ (if xs[k].key.toList == key.toList then [xs[k]] else []) := by
        unfold ofKey
        rw [List.take_succ_eq_append_getElem hkx, List.filter_append]
        congr 1
        cases h9 : (xs[k].key.toList == key.toList) <;> simp [h9]
      have hol : (ofKey key (xs.take k)).length ≤ 800000 := Nat.le_trans (List.length_filter_le _ _) (by rw [List.length_take]; omega)
      generalize xs[k] = x at *
      obtain ⟨bb, hbb⟩ : ∃ bb, bb = (x.key.toList == key.toList) := ⟨_, rfl⟩
      rw [← hbb] at hst
      have hbb' : (x.key.toList == key.toList) = bb := hbb.symm
      replace hst := Lib.hid hst
      have hlt' : (k : Int) < (n : Int) := by omega
      have hk0 := Int.natCast_nonneg k
      clear hbb hsl
      cases bb
      · clear h
        go_wp2_with fail
        go_roundw
        case rel => exact ⟨k + 1, by go_num, by omega, by rw [hst.out]; simpa using own, kk⟩
        case measure => simp [intOf]; omega
      · have hws := kk.size
        have hsl1 := Sl.of_at (xs := [x]) (At.new wr x.cells.toArray 32) pane_len (by decide) (rfl : (1 : Nat) = [x].length) (by simp [flat_one]) (by unfold maxLen; omega)
        have kb : Keep none_ wr (wr.alloc (.cells x.cells.toArray 32)) := Keep.alloc (Keep.refl _ _) _
        have own1 := own_keep own kb (fun _ _ e => e)
        have hbase1 : w.heap.size ≤ (wr.alloc (.cells x.cells.toArray 32)).heap.size := by simp; omega
        simp only [Pane.cells] at hsl1 kb own1 hbase1
        go_wp2_with (at_builtin; refine wpList_append_sl _ rfl _ _ _ rfl w.heap.size 32 row_pane pane_len pane_one _ _ _ rfl own1 (some ⟨wr.heap.size, 0, none⟩) 1 1 [x] rfl hsl1 (by omega) hbase1 ?_)
        intro v' w2 own2 hg2 hb2
        have k2 : Keep none_ w w2 := keep_grown (kk.trans kb) own1 hg2 (Nat.le_refl _)
        clear own own1 hg2 hb2 hsl1 kb h q0 q1 q2 q3 q4 q5 q6
        go_wp2_with fail
        go_roundw
        case rel => exact ⟨k + 1, by go_num, by omega, by rw [hst.out]; simpa using own2, k2⟩
        case measure => simp [intOf]; omega
    · have htk : xs.take k = xs := List.take_of_length_le (by have := hlen.out; omega)
      rw [htk] at own
      clear h
      go_wp2_with fail
      go_ret
      exact ⟨_, rfl, own, kk⟩
end Go.Proofs.Ytmioichjhiengaa
