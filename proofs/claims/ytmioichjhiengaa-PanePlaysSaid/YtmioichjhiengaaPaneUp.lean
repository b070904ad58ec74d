/-
  easellaw07.up, sums.
-/
import Derived.Test.YtmioichjhiengaaPaneMerge
import Derived.Test.YtmioichjhiengaaPaneKeep
import Derived.Test.YtmioichjhiengaaPick
namespace Go.Proofs.Ytmioichjhiengaa
open Go.RowKit

/-- Counts, and sums, one behind the other, of 64 bits. -/
def cntW (l : List Pane) : Int := l.foldl (fun a x => wrap64 (a + x.agg.count)) 0
def smsW (l : List Pane) : Int := l.foldl (fun a x => wrap64 (a + x.agg.sum)) 0
theorem foldl_snoc_take {α β : Type} (f : β → α → β) (b : β) {l : List α} {k : Nat} (hk : k < l.length) : (l.take (k + 1)).foldl f b = f ((l.take k).foldl f b) l[k] := by
  rw [List.take_succ_eq_append_getElem hk, List.foldl_append]; rfl
set_option maxHeartbeats 1000000 in
theorem sums7 {w : World} {A : Option Addr} {n c : Nat} {xs : List Pane} (h : Sl Pane.cells 7 w A n c xs) (hn : n ≤ 1000000) :
    Calls Try.prog 24 #[.slice A n c] w fun e w' => e = .returned (.tuple #[.int .i64 (cntW xs), .int .i64 (smsW xs)]) ∧ w = w' := by
  have hlen := Lib.hid h.len
  have hlc := h.2.1
  go_enter Try.func24, Try.ntmps24
  go_wp2_with fail
  go_loopw [4, 5, 6] (fun nv sv iv wr => ∃ k : Nat, iv = .int .i64 k ∧ k ≤ n ∧ nv = .int .i64 (cntW (xs.take k)) ∧ sv = .int .i64 (smsW (xs.take k)) ∧ wr = w)
    (fun _ _ iv _ => n - (intOf iv).toNat)
  case atStart => exact ⟨0, rfl, Nat.zero_le _, rfl, rfl, rfl⟩
  case round =>
    obtain ⟨k, rfl, hk, rfl, rfl, rfl⟩ := hrel
    by_cases hlt : k < n
    · have hkx : k < xs.length := by have := hlen.out; omega
      obtain ⟨b, off, rfl, hbl, -⟩ := h.at_ (by omega)
      obtain ⟨q0, q1, q2, q3, q4, q5, q6⟩ := h.pane hkx
      have e1 : cntW (xs.take (k + 1)) = wrap64 (cntW (xs.take k) + xs[k].agg.count) := foldl_snoc_take _ _ hkx
      have e2 : smsW (xs.take (k + 1)) = wrap64 (smsW (xs.take k) + xs[k].agg.sum) := foldl_snoc_take _ _ hkx
      generalize xs[k] = x at *
      generalize cntW (xs.take k) = cn at *
      generalize smsW (xs.take k) = sn at *
      replace e1 := Lib.hid e1
      replace e2 := Lib.hid e2
      have hlt' : (k : Int) < (n : Int) := by omega
      have hk0 := Int.natCast_nonneg k
      clear h
      go_wp2_with fail
      go_roundw
      case rel => exact ⟨k + 1, by go_num, by omega, by rw [e1.out], by rw [e2.out], by first | rfl | trivial⟩
      case measure => simp [intOf]; omega
    · have htk : xs.take k = xs := List.take_of_length_le (by have := hlen.out; omega)
      rw [htk]
      clear h
      go_wp2_with fail
      go_ret2
      exact ⟨rfl, rfl⟩

def kA : ByteArray := ⟨#[97]⟩
def up7a : List Pane := putP [] kA ⟨15, 25⟩ 2
def up7l : List Pane := putP up7a kA ⟨0, 10⟩ 1
theorem up7a_eq : up7a = [⟨kA, ⟨15, 25⟩, ⟨1, 2, 2, 2⟩⟩] := by kernel_rfl
theorem up7l_eq : up7l = [⟨kA, ⟨0, 10⟩, ⟨1, 1, 1, 1⟩⟩, ⟨kA, ⟨15, 25⟩, ⟨1, 2, 2, 2⟩⟩] := by kernel_rfl
theorem up7m_eq : mergeP kA ⟨8, 18⟩ 4 up7l = [⟨kA, ⟨0, 25⟩, ⟨3, 7, 1, 4⟩⟩] := by kernel_rfl
theorem up7g_eq : goneP kA ⟨8, 18⟩ 4 up7l = [⟨0, 10⟩, ⟨15, 25⟩] := by kernel_rfl
theorem up7p_eq : (accP kA ⟨8, 18⟩ 4 up7l).span = ⟨0, 25⟩ := by kernel_rfl
theorem up7f_eq : findP up7l ⟨0, 10⟩ = (⟨kA, ⟨0, 10⟩, ⟨1, 1, 1, 1⟩⟩, true) := by kernel_rfl
theorem up7_sorted : SortedP up7l := by
  rw [up7l_eq]
  simp [slt_iff]
theorem up7a_sorted : SortedP up7a := by
  rw [up7a_eq]
  simp
theorem kA_ok : kA.size ≤ maxLen := by show 1 ≤ maxLen; unfold maxLen; omega

set_option maxHeartbeats 2000000 in
set_option maxRecDepth 100000 in
theorem up7 (w : World) : Calls Try.prog 21 #[] w fun e w' => e = .returned (.bool true) ∧ Keep none_ w w' := by
  have hi : ∀ n : Int, -1000 ≤ n → n ≤ 1000 → I64 n := fun n h1 h2 => by unfold I64; omega
  have oka : ∀ p ∈ up7a, p.ok := put_ok (fun p hp => by cases hp) kA_ok ⟨hi _ (by decide) (by decide), hi _ (by decide) (by decide)⟩ (hi _ (by decide) (by decide))
  have okl : ∀ p ∈ up7l, p.ok := put_ok oka kA_ok ⟨hi _ (by decide) (by decide), hi _ (by decide) (by decide)⟩ (hi _ (by decide) (by decide))
  have c1 := pane_put (w := w) (A := none) (n := 0) (c := 0) (xs := []) (Sl.nil _ _ _ _ _ (by decide)) List.Pairwise.nil (fun p hp => by cases hp) (by omega) kA ⟨15, 25⟩ 2 (hi _ (by decide) (by decide))
  have c2 := fun W A n c (h : Sl Pane.cells 7 W A n c up7a) => pane_put h up7a_sorted oka (by have := h.len; rw [up7a_eq] at this; simp at this; omega) kA ⟨0, 10⟩ 1 (hi _ (by decide) (by decide))
  have c3 := fun W A n c (h : Sl Pane.cells 7 W A n c up7l) => pane_merge h up7_sorted okl (by have := h.len; rw [up7l_eq] at this; simp at this; omega) kA ⟨8, 18⟩ 4 (hi _ (by decide) (by decide))
  have c4 := fun W A n c (h : Sl Pane.cells 7 W A n c up7l) => pane_find h up7_sorted (by have := h.len; rw [up7l_eq] at this; simp at this; omega) ⟨0, 10⟩
  rw [up7f_eq] at c4
  simp only [Span.cells, Pane.cells] at c1 c2 c3 c4
  have hkA : kA = ⟨#[97]⟩ := rfl
  rw [hkA] at c1 c2 c3 c4
  replace c1 := Lib.hid c1
  replace c2 := Lib.hid c2
  replace c3 := Lib.hid c3
  replace c4 := Lib.hid c4
  clear oka okl hi
  go_enter Try.func21, Try.ntmps21
  go_wp2_with fail
  refine c1.out.mono ?_
  rintro e w1 ⟨v1, rfl, o1, k1⟩
  obtain ⟨A1, d1, rfl⟩ := own_form o1
  have s1 := Sl.of_own pane_len (by decide) o1
  go_wp2_with fail
  refine (c2.out _ _ _ _ s1).mono ?_
  rintro e w2 ⟨v2, rfl, o2, k2⟩
  have el : up7l.length = 2 := by rw [up7l_eq]; rfl
  have o2 : w2.ownsRow w1.heap.size 32 7 v2 2 (flat Pane.cells up7l) := by
    have h9 : w2.ownsRow w1.heap.size 32 7 v2 up7l.length (flat Pane.cells up7l) := o2
    rw [el] at h9
    exact h9
  obtain ⟨A2, d2, rfl⟩ := own_form o2
  have s2 := Sl.of_own pane_len (by decide) o2
  have k02 := k1.trans k2
  clear c1 c2 s1 o1 k1 k2 o2 el
  go_wp2_with fail
  refine (c3.out _ _ _ _ s2).mono ?_
  rintro e w3 ⟨vo, vg, rfl, om, og, k3⟩
  have em := up7m_eq
  have eg := up7g_eq
  have ep := up7p_eq
  rw [hkA] at em eg ep
  rw [em] at om
  rw [eg] at og
  rw [ep]
  obtain ⟨Ao, dm, rfl⟩ := own_form om
  obtain ⟨Ag, dg, rfl⟩ := own_form og
  have sm := Sl.of_own pane_len (by decide) om
  obtain ⟨bm, gm, rfl, -, -⟩ := sm.at_ (by simp)
  have hnow := At.new w3 #[.int .i64 0, .int .i64 25] 28
  have k03 := k02.trans k3
  have kA3 := Keep.alloc k3 (.cells #[.int .i64 0, .int .i64 25] 28)
  have hmc := sm.2.1
  simp only [List.length_cons, List.length_nil, Nat.zero_add, Nat.reduceAdd] at sm hmc ⊢
  have c5 := c4.out _ _ _ _ (s2.keep kA3 Off.none_)
  replace c5 := Lib.hid c5
  simp only [Span.cells]
  have hmk := fun W (k : Keep none_ w3 W) => (sm.keep k Off.none_).pane (i := 0) (by simp)
  replace hmk := Lib.hid hmk
  have hq := fun x y W => run_eql_Span x y W
  clear c3 c4 om og em eg ep s2 sm k3 k02 kA3
  go_wp2_with fail
  refine c5.out.mono ?_
  rintro e w4 ⟨rfl, k4⟩
  have hnow4 := Keep.at k4 hnow (fun e => e)
  have cn := At.cell hnow4
  obtain ⟨q0, q1, q2, q3, q4, q5, q6⟩ := hmk.out w4 (Keep.trans (by repeat' (first | assumption | with_reducible exact Keep.refl _ _ | with_reducible refine Keep.alloc ?_ _ | with_reducible refine Keep.drew ?_)) k4)
  simp only [List.getElem_cons_zero, Nat.zero_mul, Nat.add_zero] at q0 q1 q2 q3 q4 q5 q6
  have hq9 := hq ⟨0, 25⟩ ⟨0, 25⟩
  have hb9 : Span.eqB ⟨0, 25⟩ ⟨0, 25⟩ = true := rfl
  rw [hb9] at hq9
  simp only [Span.cells] at hq9
  have hw3 := hnow.lt
  have hw4 := k4.size
  have hbm : bm < w4.heap.size := World.block_lt_of_cell? w4 ⟨bm, gm, none⟩ q0
  have hnl := hnow4.lt
  have kf : Keep none_ w w4 := k03.trans (Keep.trans (by repeat' (first | assumption | with_reducible exact Keep.refl _ _ | with_reducible refine Keep.alloc ?_ _ | with_reducible refine Keep.drew ?_)) k4)
  clear c5 hmk hq hb9 hnow hnow4
  go_wp2_with fail
  go_ret
  exact ⟨rfl, (by repeat' (first | assumption | with_reducible exact Keep.refl _ _ | with_reducible refine Keep.alloc ?_ _ | with_reducible refine Keep.drew ?_))⟩
end Go.Proofs.Ytmioichjhiengaa
