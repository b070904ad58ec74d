/-
  The reference's Sorted.
-/
import Derived.Test.YtmioichjhiengaaOutSorted
import Derived.Test.YtmioichjhiengaaPane
import Derived.Deep.LoopGhost
import Derived.Deep.CutBlock
namespace Go.Proofs.Ytmioichjhiengaa
open Go.RowKit

theorem tagL_take {xs : List Pane} {i : Nat} (hi : i < xs.length) : tagL (xs.take (i + 1)) = tagL (xs.take i) ++ [(xs[i], i)] := by
  rw [List.take_succ_eq_append_getElem hi]
  unfold tagL
  rw [List.zipIdx_append]
  simp [List.length_take, Nat.min_eq_left (Nat.le_of_lt hi)]
/-- One more, stably put. -/
theorem put_stable {xs : List Pane} {i : Nat} (hi : i < xs.length) {T : List TP} (hp : T.Perm (tagL (xs.take i))) (hs : SortedT cfO T) {a : Nat} (ha : a ≤ T.length) (h2 : ∀ k (hk : k < T.length), a ≤ k → xs[i].lt T[k].1 = true)
    (h1 : ∀ (h : 0 < a), xs[i].lt (T[a - 1]'(by omega)).1 = false) : (T.take a ++ (xs[i], i) :: T.drop a).Perm (tagL (xs.take (i + 1))) ∧ SortedT cfO (T.take a ++ (xs[i], i) :: T.drop a) := by
  constructor
  · rw [tagL_take hi]
    refine List.perm_middle.trans ?_
    rw [List.take_append_drop]
    exact (List.Perm.cons _ hp).trans (List.perm_append_comm (l₁ := [(xs[i], i)]))
  · refine insert_ok weak_cfO (by rw [List.take_append_drop]; exact hs) (fun x hx => ?_) (fun x hx => ?_) (fun y hy => ?_)
    · have hm := hp.mem_iff.1 (List.mem_of_mem_take hx)
      obtain ⟨j, hj, rfl⟩ := List.getElem_of_mem hm
      rw [tagL_len, List.length_take] at hj
      simp only [tagL, tgP, List.getElem_zipIdx]
      omega
    · obtain ⟨j, hj, rfl⟩ := List.getElem_of_mem hx
      rw [List.getElem_drop]
      unfold ltP cfO
      rw [Pane.cmp_lt]
      exact h2 _ _ (Nat.le_add_right _ _)
    · obtain ⟨h0, hy⟩ := getLast_take_p ha hy
      unfold ltP cfO
      rw [Pane.cmp_lt]
      have := h1 h0
      rw [List.getElem?_eq_getElem (by omega)] at hy
      rw [← Option.some.inj hy]
      exact this

theorem Sl.takeP {α : Type} {enc : α → List Value} {k : Nat} {w : World} {A : Option Addr} {n c : Nat} {xs : List α} (h : Sl enc k w A n c xs) (i : Nat) (hi : i ≤ n) : Sl enc k w A i c (xs.take i) := by
  obtain ⟨h1, h2, h3, h4⟩ := h
  refine ⟨by rw [List.length_take, ← h1, Nat.min_eq_left hi], by omega, h3, fun hn => ?_⟩
  obtain ⟨b, off, rfl, hb, hc⟩ := h4 (by omega)
  refine ⟨b, off, rfl, hb, fun j hj l hl => ?_⟩
  rw [List.length_take] at hj
  rw [List.getElem_take]
  exact hc j (by omega) l hl
theorem Pane.lt_eq {y x : Pane} {b1 b2 b3 b4 b5 : Bool} (h1 : Op.bytesLess y.key.toList x.key.toList = b1) (h2 : (y.key.toList == x.key.toList) = b2) (h3 : decide (y.span.e < x.span.e) = b3) (h4 : (y.span.e == x.span.e) = b4) (h5 : decide (y.span.s < x.span.s) = b5) :
    y.lt x = (b1 || (b2 && (b3 || (b4 && b5)))) := by
  unfold Pane.lt ltB eqS
  rw [h1, h2, h3, h4, h5]

set_option maxHeartbeats 8000000 in
set_option maxRecDepth 100000 in
theorem ref_sorted {w : World} {A : Option Addr} {n c : Nat} {xs : List Pane} (h : Sl Pane.cells 7 w A n c xs) (hn : n ≤ 1000) :
    Calls Try.prog 20 #[.slice A n c] w (SortedDone w xs) := by
  have hlen := Lib.hid h.len
  have hlc := h.2.1
  have hnc := h.2.2.1
  unfold maxLen at hnc
  go_enter Try.func20, Try.ntmps20
  go_wp2_with fail
  go_loopw [3, 4, 5, 6, 7, 8, 9] (fun ov iv _ _ _ _ _ wr => ∃ (i t : Nat) (T : List TP), iv = .int .i64 i ∧ i ≤ n ∧ Hid (t = T.length) ∧ t ≤ n ∧ Hid (T.Perm (tagL (xs.take i))) ∧ Hid (SortedT cfO T) ∧ wr.ownsRow w.heap.size 32 7 ov t (flat Pane.cells (T.map Prod.fst)) ∧ Keep none_ w wr)
    (fun _ iv _ _ _ _ _ _ => n - (intOf iv).toNat)
  case atStart => exact ⟨0, 0, [], rfl, Nat.zero_le _, Lib.hid rfl, Nat.zero_le _, Lib.hid (List.Perm.refl _), Lib.hid List.Pairwise.nil, ⟨rfl, .inl ⟨rfl, rfl⟩⟩, Keep.refl _ _⟩
  case round =>
    obtain ⟨i, t, T, rfl, hin, ht, htn, hp, hs, own, kk⟩ := hrel
    by_cases hlt : i < n
    · have hix : i < xs.length := by have := hlen.out; omega
      obtain ⟨b, off, rfl, hbl, -⟩ := h.at_ (by omega)
      have hY := fun W' (k : Keep none_ w W') => (h.keep k Off.none_).pane hix
      have hput := fun a (ha : a ≤ T.length) => put_stable hix hp.out hs.out ha
      obtain ⟨y, hy⟩ : ∃ y, y = xs[i] := ⟨_, rfl⟩
      rw [← hy] at hput
      simp only [← hy] at hY
      have hlt' : (i : Int) < (n : Int) := by omega
      have hi0 := Int.natCast_nonneg i
      have ht0 := Int.natCast_nonneg t
      have hpl := hp.out.length_eq
      rw [tagL_len, List.length_take, Nat.min_eq_left (by omega)] at hpl
      have hti : Hid (t = i) := Lib.hid (by have := ht.out; omega)
      replace hput := Lib.hid hput
      replace hY := Lib.hid hY
      replace hy := Lib.hid hy
      clear hpl
      have hws := kk.size
      rcases own.2 with ⟨rfl, h0⟩ | ⟨g, co, cur, rfl, hbg, hcur, hnc9, hmc9, -⟩
      · subst h0
        have hT0 : T = [] := List.length_eq_zero_iff.1 ht.out.symm
        subst hT0
        have hpu := hput.out 0 (by simp) (fun k hk => by simp at hk) (fun h => absurd h (Nat.lt_irrefl _))
        replace hpu := Lib.hid hpu
        clear h hput own
        go_wp2_with fail
        go_loopw [5, 6, 7, 8] (fun av _ _ _ wq => av = .int .i64 0 ∧ wq = wr) (fun _ _ _ _ _ => 0)
        case atStart => exact ⟨rfl, rfl⟩
        case round =>
          obtain ⟨rfl, rfl⟩ := hrel
          have e0 : wr.ownsRow wr.heap.size 32 7 (.slice none 0 0) 0 (flat Pane.cells []) := ⟨rfl, .inl ⟨rfl, rfl⟩⟩
          have k1 : Keep none_ wr (wr.alloc (.cells #[] 32)) := (by repeat' (first | assumption | with_reducible exact Keep.refl _ _ | with_reducible refine Keep.alloc ?_ _ | with_reducible refine Keep.drew ?_))
          have hown0 : (wr.alloc (.cells #[] 32)).ownsRow wr.heap.size 32 7 (.slice (some ⟨wr.heap.size, 0, none⟩) 0 0) 0 (flat Pane.cells []) := own_empty (At.new wr #[] 32) (Nat.le_refl _)
          go_wp2_with (at_builtin; refine wpList_append_sl _ rfl _ _ _ rfl wr.heap.size 32 row_pane pane_len pane_one _ 0 [] rfl hown0 none 0 0 [] rfl (Sl.nil _ _ _ _ _ (by decide)) (by omega) (by simp) ?_)
          intro v1 w2 own1 hg1 hb1
          have k2 : Keep none_ wr w2 := keep_grown k1 hown0 hg1 (Nat.le_refl _)
          obtain ⟨y0, y1, y2, y3, y4, y5, y6⟩ := hY.out w2 (kk.trans k2)
          have hsz2 := k2.size
          have kb : Keep none_ w2 (w2.alloc (.cells y.cells.toArray 32)) := Keep.alloc (Keep.refl _ _) _
          have own1b := own_keep own1 kb (fun _ _ e => e)
          have sl1 := Sl.of_at (xs := [y]) (At.new w2 y.cells.toArray 32) pane_len (by decide) (rfl : (1 : Nat) = [y].length) (by simp [flat_one]) (by unfold maxLen; omega)
          have hbs2 : wr.heap.size ≤ (w2.alloc (.cells y.cells.toArray 32)).heap.size := by simp; omega
          simp only [Pane.cells] at kb own1b sl1 hbs2
          clear own1 hg1 hb1 hown0 k1
          go_wp2_with (at_builtin; refine wpList_append_sl _ rfl _ _ _ rfl wr.heap.size 32 row_pane pane_len pane_one _ _ _ rfl own1b (some ⟨w2.heap.size, 0, none⟩) 1 1 [y] rfl sl1 (by omega) hbs2 ?_)
          intro v2 w3 own2 hg2 hb2
          have k3 : Keep none_ wr w3 := keep_grown (k2.trans kb) own1b hg2 (Nat.le_refl _)
          have hsz3 := k3.size
          clear own1b hg2 hb2 sl1 kb hbs2 y0 y1 y2 y3 y4 y5 y6 hsz2
          go_wp2_with (at_builtin; refine wpList_append_sl _ rfl _ _ _ rfl wr.heap.size 32 row_pane pane_len pane_one _ _ _ rfl own2 (none) (0) (0) ([]) rfl (Sl.nil _ _ _ _ _ (by decide)) (by omega) hsz3 ?_)
          intro v3 w4 own3 hg3 hb3
          have k4 : Keep none_ wr w4 := keep_grown k3 own2 hg3 (Nat.le_refl _)
          have hsz4 := k4.size
          clear own2 hg3 hb3 k3 k2
          go_wp2_with fail
          go_roundw
          case rel => exact ⟨i + 1, 1, [(y, i)], by go_num, by omega, Lib.hid rfl, by omega, Lib.hid hpu.out.1, Lib.hid hpu.out.2, own_lower (by simpa using own3) (by omega), kk.trans k4⟩
          case measure => simp [intOf]; omega
      · have sT : Sl Pane.cells 7 wr (some ⟨g, 0, none⟩) t co (T.map Prod.fst) := Sl.of_own pane_len (by decide) own
        unfold maxLen at hmc9
        clear h own hcur
        go_wp2_with fail
        go_loopw [5, 6, 7, 8] (fun av _ _ _ wq => ∃ a : Nat, av = .int .i64 a ∧ a ≤ t ∧ Hid (∀ k (hk : k < T.length), a ≤ k → y.lt T[k].1 = true) ∧ Keep none_ wr wq) (fun av _ _ _ _ => (intOf av).toNat)
        case atStart => exact ⟨t, rfl, Nat.le_refl _, Lib.hid (fun k hk h => absurd hk (by have := ht.out; omega)), Keep.refl _ _⟩
        case round =>
          obtain ⟨a, rfl, hat, hall, kq⟩ := hrel
          replace sT := sT.keep kq Off.none_
          replace kk := kk.trans kq
          have hws2 := kk.size
          have haN := Int.natCast_nonneg a
          by_cases ha0 : 0 < a
          · obtain ⟨a', ha'⟩ : ∃ a', a = a' + 1 := ⟨a - 1, by omega⟩
            have haT : a' < T.length := by have := ht.out; omega
            have hX := sT.pane (i := a') (by rw [List.length_map]; exact haT)
            have ex : (T.map Prod.fst)[a']'(by rw [List.length_map]; exact haT) = T[a'].1 := by simp
            rw [ex] at hX
            obtain ⟨x, hx⟩ : ∃ x, x = T[a'].1 := ⟨_, rfl⟩
            rw [← hx] at hX
            obtain ⟨x0, x1, x2, x3, x4, x5, x6⟩ := hX
            obtain ⟨y0, y1, y2, y3, y4, y5, y6⟩ := hY.out _ kk
            simp only [Nat.zero_add] at x0 x1 x2 x3 x4 x5 x6
            have ea : (a : Int) - 1 = (a' : Int) := by omega
            have hat' : (a' : Int) < (t : Int) := by omega
            have ha'0 := Int.natCast_nonneg a'
            have hgl : g < wr.heap.size := World.block_lt_of_cell? wr ⟨g, a' * 7, none⟩ x0
            have hbl2 : b < wr.heap.size := World.block_lt_of_cell? wr ⟨b, off + i * 7, none⟩ y0
            have ha0' : decide ((0 : Int) < (a : Int)) = true := by simp; omega
            obtain ⟨b1, h1⟩ : ∃ b1, Op.bytesLess y.key.toList x.key.toList = b1 := ⟨_, rfl⟩
            obtain ⟨b2, h2⟩ : ∃ b2, (y.key.toList == x.key.toList) = b2 := ⟨_, rfl⟩
            obtain ⟨b3, h3⟩ : ∃ b3, decide (y.span.e < x.span.e) = b3 := ⟨_, rfl⟩
            obtain ⟨b4, h4⟩ : ∃ b4, (y.span.e == x.span.e) = b4 := ⟨_, rfl⟩
            obtain ⟨b5, h5⟩ : ∃ b5, decide (y.span.s < x.span.s) = b5 := ⟨_, rfl⟩
            have hltq := Pane.lt_eq h1 h2 h3 h4 h5
            replace hx := Lib.hid hx
            replace ha' := Lib.hid ha'
            replace hltq := Lib.hid hltq
            cases b1
            · cases b2
              · replace hltq := hltq.out
                have hlt9 : y.lt x = false := by rw [hltq]; rfl
                have hpu := hput.out a (by have := ht.out; omega) hall.out (fun h9 => by
                  have h8 : a - 1 = a' := by have := ha'.out; omega
                  simp only [h8]
                  rw [← hx.out]
                  exact hlt9)
                replace hpu := Lib.hid hpu
                go_upto_region 12 with fail
                generalize hw9 : World.alloc (World.alloc wr _) _ = w9 at *
                have k9 : Keep none_ wr w9 := by rw [← hw9]; exact (by repeat' (first | assumption | with_reducible exact Keep.refl _ _ | with_reducible refine Keep.alloc ?_ _ | with_reducible refine Keep.drew ?_))
                clear hw9
                replace sT := sT.keep k9 Off.none_
                replace kk := kk.trans k9
                have hws3 := kk.size
                clear hput
                have sA := sT.takeP a hat
                have k1 : Keep none_ w9 (w9.alloc (.cells #[] 32)) := (by repeat' (first | assumption | with_reducible exact Keep.refl _ _ | with_reducible refine Keep.alloc ?_ _ | with_reducible refine Keep.drew ?_))
                have hown0 : (w9.alloc (.cells #[] 32)).ownsRow w9.heap.size 32 7 (.slice (some ⟨w9.heap.size, 0, none⟩) 0 0) 0 (flat Pane.cells []) := own_empty (At.new w9 #[] 32) (Nat.le_refl _)
                have sA1 := sA.keep k1 Off.none_
                have hac : a ≤ co := by omega
                obtain ⟨p1, hp1⟩ : ∃ p1, p1 = (T.map Prod.fst).take a := ⟨_, rfl⟩
                obtain ⟨p2, hp2⟩ : ∃ p2, p2 = (T.map Prod.fst).drop a := ⟨_, rfl⟩
                rw [← hp1] at sA1
                have hmm : (T.take a ++ (y, i) :: T.drop a).map Prod.fst = p1 ++ [y] ++ p2 := by rw [hp1, hp2]; simp [List.map_take, List.map_drop]
                have hml : (T.take a ++ (y, i) :: T.drop a).length = t + 1 := by have := ht.out; simp; omega
                replace hmm := Lib.hid hmm
                replace hml := Lib.hid hml
                replace hp1 := Lib.hid hp1
                replace hp2 := Lib.hid hp2
                go_wp2_with (at_builtin; refine wpList_append_sl _ rfl _ _ _ rfl w9.heap.size 32 row_pane pane_len pane_one _ 0 [] rfl hown0 (some ⟨g, 0, none⟩) a co p1 rfl sA1 (by omega) (by simp) ?_)
                have sB := fun W' (k : Keep none_ w9 W') => Sl.drop (sT.keep k Off.none_) a hat rfl rfl rfl hp2.out
                replace sB := Lib.hid sB
                by_cases hca : co = a
                · obtain rfl : t = a := by omega
                  subst hca
                  have sZ := fun W' (k : Keep none_ w9 W') => (show Sl Pane.cells 7 W' (some ⟨g, 0, none⟩) 0 0 p2 from ⟨by rw [hp2.out, List.length_drop, List.length_map]; have := ht.out; omega, Nat.zero_le _, by decide, fun h => absurd h (Nat.lt_irrefl _)⟩)
                  replace sZ := Lib.hid sZ
                  intro v1 w2 own1 hg1 hb1
                  have k2 : Keep none_ w9 w2 := keep_grown k1 hown0 hg1 (Nat.le_refl _)
                  obtain ⟨y0, y1, y2, y3, y4, y5, y6⟩ := hY.out w2 (kk.trans k2)
                  have hsz2 := k2.size
                  have kb : Keep none_ w2 (w2.alloc (.cells y.cells.toArray 32)) := Keep.alloc (Keep.refl _ _) _
                  have own1b := own_keep own1 kb (fun _ _ e => e)
                  have sl1 := Sl.of_at (xs := [y]) (At.new w2 y.cells.toArray 32) pane_len (by decide) (rfl : (1 : Nat) = [y].length) (by simp [flat_one]) (by unfold maxLen; omega)
                  have hbs2 : w9.heap.size ≤ (w2.alloc (.cells y.cells.toArray 32)).heap.size := by simp; omega
                  simp only [Pane.cells] at kb own1b sl1 hbs2
                  clear own1 hg1 hb1 hown0 k1
                  go_wp2_with (at_builtin; refine wpList_append_sl _ rfl _ _ _ rfl w9.heap.size 32 row_pane pane_len pane_one _ _ _ rfl own1b (some ⟨w2.heap.size, 0, none⟩) 1 1 [y] rfl sl1 (by omega) hbs2 ?_)
                  intro v2 w3 own2 hg2 hb2
                  have k3 : Keep none_ w9 w3 := keep_grown (k2.trans kb) own1b hg2 (Nat.le_refl _)
                  have hsz3 := k3.size
                  clear own1b hg2 hb2 sl1 kb hbs2 y0 y1 y2 y3 y4 y5 y6 hsz2
                  go_wp2_with (at_builtin; refine wpList_append_sl _ rfl _ _ _ rfl w9.heap.size 32 row_pane pane_len pane_one _ _ _ rfl own2 (some ⟨g, 0, none⟩) (0) (0) (p2) rfl (sZ.out _ k3) (by omega) hsz3 ?_)
                  intro v3 w4 own3 hg3 hb3
                  have k4 : Keep none_ w9 w4 := keep_grown k3 own2 hg3 (Nat.le_refl _)
                  have hsz4 := k4.size
                  clear own2 hg3 hb3 k3 k2
                  go_wp2_with fail
                  go_roundw
                  case rel => exact ⟨i + 1, _, T.take _ ++ (y, i) :: T.drop _, by go_num, by omega, Lib.hid hml.out.symm, by have := hti.out; omega, Lib.hid hpu.out.1, Lib.hid hpu.out.2, by
                    rw [hmm.out]
                    have h9 := own_lower own3 (b' := w.heap.size) hws3
                    simpa using h9, kk.trans k4⟩
                  case measure => simp [intOf]; omega
                · intro v1 w2 own1 hg1 hb1
                  have k2 : Keep none_ w9 w2 := keep_grown k1 hown0 hg1 (Nat.le_refl _)
                  obtain ⟨y0, y1, y2, y3, y4, y5, y6⟩ := hY.out w2 (kk.trans k2)
                  have hsz2 := k2.size
                  have kb : Keep none_ w2 (w2.alloc (.cells y.cells.toArray 32)) := Keep.alloc (Keep.refl _ _) _
                  have own1b := own_keep own1 kb (fun _ _ e => e)
                  have sl1 := Sl.of_at (xs := [y]) (At.new w2 y.cells.toArray 32) pane_len (by decide) (rfl : (1 : Nat) = [y].length) (by simp [flat_one]) (by unfold maxLen; omega)
                  have hbs2 : w9.heap.size ≤ (w2.alloc (.cells y.cells.toArray 32)).heap.size := by simp; omega
                  simp only [Pane.cells] at kb own1b sl1 hbs2
                  clear own1 hg1 hb1 hown0 k1
                  go_wp2_with (at_builtin; refine wpList_append_sl _ rfl _ _ _ rfl w9.heap.size 32 row_pane pane_len pane_one _ _ _ rfl own1b (some ⟨w2.heap.size, 0, none⟩) 1 1 [y] rfl sl1 (by omega) hbs2 ?_)
                  intro v2 w3 own2 hg2 hb2
                  have k3 : Keep none_ w9 w3 := keep_grown (k2.trans kb) own1b hg2 (Nat.le_refl _)
                  have hsz3 := k3.size
                  clear own1b hg2 hb2 sl1 kb hbs2 y0 y1 y2 y3 y4 y5 y6 hsz2
                  go_wp2_with (at_builtin; refine wpList_append_sl _ rfl _ _ _ rfl w9.heap.size 32 row_pane pane_len pane_one _ _ _ rfl own2 (some ⟨g, a * 7, none⟩) (t - a) (co - a) (p2) rfl (by simpa using sB.out _ k3) (by omega) hsz3 ?_)
                  intro v3 w4 own3 hg3 hb3
                  have k4 : Keep none_ w9 w4 := keep_grown k3 own2 hg3 (Nat.le_refl _)
                  have hsz4 := k4.size
                  clear own2 hg3 hb3 k3 k2
                  go_wp2_with fail
                  go_roundw
                  case rel => exact ⟨i + 1, t + 1, T.take a ++ (y, i) :: T.drop a, by go_num, by omega, Lib.hid hml.out.symm, by have := hti.out; omega, Lib.hid hpu.out.1, Lib.hid hpu.out.2, by
                    rw [hmm.out]
                    have h9 := own_lower own3 (b' := w.heap.size) hws3
                    rw [show t + 1 = 0 + a + 1 + (t - a) by omega]
                    simpa using h9, kk.trans k4⟩
                  case measure => simp [intOf]; omega
              · cases b3
                · cases b4
                  · replace hltq := hltq.out
                    have hlt9 : y.lt x = false := by rw [hltq]; rfl
                    have hpu := hput.out a (by have := ht.out; omega) hall.out (fun h9 => by
                      have h8 : a - 1 = a' := by have := ha'.out; omega
                      simp only [h8]
                      rw [← hx.out]
                      exact hlt9)
                    replace hpu := Lib.hid hpu
                    go_upto_region 12 with fail
                    generalize hw9 : World.alloc (World.alloc wr _) _ = w9 at *
                    have k9 : Keep none_ wr w9 := by rw [← hw9]; exact (by repeat' (first | assumption | with_reducible exact Keep.refl _ _ | with_reducible refine Keep.alloc ?_ _ | with_reducible refine Keep.drew ?_))
                    clear hw9
                    replace sT := sT.keep k9 Off.none_
                    replace kk := kk.trans k9
                    have hws3 := kk.size
                    clear hput
                    have sA := sT.takeP a hat
                    have k1 : Keep none_ w9 (w9.alloc (.cells #[] 32)) := (by repeat' (first | assumption | with_reducible exact Keep.refl _ _ | with_reducible refine Keep.alloc ?_ _ | with_reducible refine Keep.drew ?_))
                    have hown0 : (w9.alloc (.cells #[] 32)).ownsRow w9.heap.size 32 7 (.slice (some ⟨w9.heap.size, 0, none⟩) 0 0) 0 (flat Pane.cells []) := own_empty (At.new w9 #[] 32) (Nat.le_refl _)
                    have sA1 := sA.keep k1 Off.none_
                    have hac : a ≤ co := by omega
                    obtain ⟨p1, hp1⟩ : ∃ p1, p1 = (T.map Prod.fst).take a := ⟨_, rfl⟩
                    obtain ⟨p2, hp2⟩ : ∃ p2, p2 = (T.map Prod.fst).drop a := ⟨_, rfl⟩
                    rw [← hp1] at sA1
                    have hmm : (T.take a ++ (y, i) :: T.drop a).map Prod.fst = p1 ++ [y] ++ p2 := by rw [hp1, hp2]; simp [List.map_take, List.map_drop]
                    have hml : (T.take a ++ (y, i) :: T.drop a).length = t + 1 := by have := ht.out; simp; omega
                    replace hmm := Lib.hid hmm
                    replace hml := Lib.hid hml
                    replace hp1 := Lib.hid hp1
                    replace hp2 := Lib.hid hp2
                    go_wp2_with (at_builtin; refine wpList_append_sl _ rfl _ _ _ rfl w9.heap.size 32 row_pane pane_len pane_one _ 0 [] rfl hown0 (some ⟨g, 0, none⟩) a co p1 rfl sA1 (by omega) (by simp) ?_)
                    have sB := fun W' (k : Keep none_ w9 W') => Sl.drop (sT.keep k Off.none_) a hat rfl rfl rfl hp2.out
                    replace sB := Lib.hid sB
                    by_cases hca : co = a
                    · obtain rfl : t = a := by omega
                      subst hca
                      have sZ := fun W' (k : Keep none_ w9 W') => (show Sl Pane.cells 7 W' (some ⟨g, 0, none⟩) 0 0 p2 from ⟨by rw [hp2.out, List.length_drop, List.length_map]; have := ht.out; omega, Nat.zero_le _, by decide, fun h => absurd h (Nat.lt_irrefl _)⟩)
                      replace sZ := Lib.hid sZ
                      intro v1 w2 own1 hg1 hb1
                      have k2 : Keep none_ w9 w2 := keep_grown k1 hown0 hg1 (Nat.le_refl _)
                      obtain ⟨y0, y1, y2, y3, y4, y5, y6⟩ := hY.out w2 (kk.trans k2)
                      have hsz2 := k2.size
                      have kb : Keep none_ w2 (w2.alloc (.cells y.cells.toArray 32)) := Keep.alloc (Keep.refl _ _) _
                      have own1b := own_keep own1 kb (fun _ _ e => e)
                      have sl1 := Sl.of_at (xs := [y]) (At.new w2 y.cells.toArray 32) pane_len (by decide) (rfl : (1 : Nat) = [y].length) (by simp [flat_one]) (by unfold maxLen; omega)
                      have hbs2 : w9.heap.size ≤ (w2.alloc (.cells y.cells.toArray 32)).heap.size := by simp; omega
                      simp only [Pane.cells] at kb own1b sl1 hbs2
                      clear own1 hg1 hb1 hown0 k1
                      go_wp2_with (at_builtin; refine wpList_append_sl _ rfl _ _ _ rfl w9.heap.size 32 row_pane pane_len pane_one _ _ _ rfl own1b (some ⟨w2.heap.size, 0, none⟩) 1 1 [y] rfl sl1 (by omega) hbs2 ?_)
                      intro v2 w3 own2 hg2 hb2
                      have k3 : Keep none_ w9 w3 := keep_grown (k2.trans kb) own1b hg2 (Nat.le_refl _)
                      have hsz3 := k3.size
                      clear own1b hg2 hb2 sl1 kb hbs2 y0 y1 y2 y3 y4 y5 y6 hsz2
                      go_wp2_with (at_builtin; refine wpList_append_sl _ rfl _ _ _ rfl w9.heap.size 32 row_pane pane_len pane_one _ _ _ rfl own2 (some ⟨g, 0, none⟩) (0) (0) (p2) rfl (sZ.out _ k3) (by omega) hsz3 ?_)
                      intro v3 w4 own3 hg3 hb3
                      have k4 : Keep none_ w9 w4 := keep_grown k3 own2 hg3 (Nat.le_refl _)
                      have hsz4 := k4.size
                      clear own2 hg3 hb3 k3 k2
                      go_wp2_with fail
                      go_roundw
                      case rel => exact ⟨i + 1, _, T.take _ ++ (y, i) :: T.drop _, by go_num, by omega, Lib.hid hml.out.symm, by have := hti.out; omega, Lib.hid hpu.out.1, Lib.hid hpu.out.2, by
                        rw [hmm.out]
                        have h9 := own_lower own3 (b' := w.heap.size) hws3
                        simpa using h9, kk.trans k4⟩
                      case measure => simp [intOf]; omega
                    · intro v1 w2 own1 hg1 hb1
                      have k2 : Keep none_ w9 w2 := keep_grown k1 hown0 hg1 (Nat.le_refl _)
                      obtain ⟨y0, y1, y2, y3, y4, y5, y6⟩ := hY.out w2 (kk.trans k2)
                      have hsz2 := k2.size
                      have kb : Keep none_ w2 (w2.alloc (.cells y.cells.toArray 32)) := Keep.alloc (Keep.refl _ _) _
                      have own1b := own_keep own1 kb (fun _ _ e => e)
                      have sl1 := Sl.of_at (xs := [y]) (At.new w2 y.cells.toArray 32) pane_len (by decide) (rfl : (1 : Nat) = [y].length) (by simp [flat_one]) (by unfold maxLen; omega)
                      have hbs2 : w9.heap.size ≤ (w2.alloc (.cells y.cells.toArray 32)).heap.size := by simp; omega
                      simp only [Pane.cells] at kb own1b sl1 hbs2
                      clear own1 hg1 hb1 hown0 k1
                      go_wp2_with (at_builtin; refine wpList_append_sl _ rfl _ _ _ rfl w9.heap.size 32 row_pane pane_len pane_one _ _ _ rfl own1b (some ⟨w2.heap.size, 0, none⟩) 1 1 [y] rfl sl1 (by omega) hbs2 ?_)
                      intro v2 w3 own2 hg2 hb2
                      have k3 : Keep none_ w9 w3 := keep_grown (k2.trans kb) own1b hg2 (Nat.le_refl _)
                      have hsz3 := k3.size
                      clear own1b hg2 hb2 sl1 kb hbs2 y0 y1 y2 y3 y4 y5 y6 hsz2
                      go_wp2_with (at_builtin; refine wpList_append_sl _ rfl _ _ _ rfl w9.heap.size 32 row_pane pane_len pane_one _ _ _ rfl own2 (some ⟨g, a * 7, none⟩) (t - a) (co - a) (p2) rfl (by simpa using sB.out _ k3) (by omega) hsz3 ?_)
                      intro v3 w4 own3 hg3 hb3
                      have k4 : Keep none_ w9 w4 := keep_grown k3 own2 hg3 (Nat.le_refl _)
                      have hsz4 := k4.size
                      clear own2 hg3 hb3 k3 k2
                      go_wp2_with fail
                      go_roundw
                      case rel => exact ⟨i + 1, t + 1, T.take a ++ (y, i) :: T.drop a, by go_num, by omega, Lib.hid hml.out.symm, by have := hti.out; omega, Lib.hid hpu.out.1, Lib.hid hpu.out.2, by
                        rw [hmm.out]
                        have h9 := own_lower own3 (b' := w.heap.size) hws3
                        rw [show t + 1 = 0 + a + 1 + (t - a) by omega]
                        simpa using h9, kk.trans k4⟩
                      case measure => simp [intOf]; omega
                  · cases b5
                    · replace hltq := hltq.out
                      have hlt9 : y.lt x = false := by rw [hltq]; rfl
                      have hpu := hput.out a (by have := ht.out; omega) hall.out (fun h9 => by
                        have h8 : a - 1 = a' := by have := ha'.out; omega
                        simp only [h8]
                        rw [← hx.out]
                        exact hlt9)
                      replace hpu := Lib.hid hpu
                      go_upto_region 12 with fail
                      generalize hw9 : World.alloc (World.alloc wr _) _ = w9 at *
                      have k9 : Keep none_ wr w9 := by rw [← hw9]; exact (by repeat' (first | assumption | with_reducible exact Keep.refl _ _ | with_reducible refine Keep.alloc ?_ _ | with_reducible refine Keep.drew ?_))
                      clear hw9
                      replace sT := sT.keep k9 Off.none_
                      replace kk := kk.trans k9
                      have hws3 := kk.size
                      clear hput
                      have sA := sT.takeP a hat
                      have k1 : Keep none_ w9 (w9.alloc (.cells #[] 32)) := (by repeat' (first | assumption | with_reducible exact Keep.refl _ _ | with_reducible refine Keep.alloc ?_ _ | with_reducible refine Keep.drew ?_))
                      have hown0 : (w9.alloc (.cells #[] 32)).ownsRow w9.heap.size 32 7 (.slice (some ⟨w9.heap.size, 0, none⟩) 0 0) 0 (flat Pane.cells []) := own_empty (At.new w9 #[] 32) (Nat.le_refl _)
                      have sA1 := sA.keep k1 Off.none_
                      have hac : a ≤ co := by omega
                      obtain ⟨p1, hp1⟩ : ∃ p1, p1 = (T.map Prod.fst).take a := ⟨_, rfl⟩
                      obtain ⟨p2, hp2⟩ : ∃ p2, p2 = (T.map Prod.fst).drop a := ⟨_, rfl⟩
                      rw [← hp1] at sA1
                      have hmm : (T.take a ++ (y, i) :: T.drop a).map Prod.fst = p1 ++ [y] ++ p2 := by rw [hp1, hp2]; simp [List.map_take, List.map_drop]
                      have hml : (T.take a ++ (y, i) :: T.drop a).length = t + 1 := by have := ht.out; simp; omega
                      replace hmm := Lib.hid hmm
                      replace hml := Lib.hid hml
                      replace hp1 := Lib.hid hp1
                      replace hp2 := Lib.hid hp2
                      go_wp2_with (at_builtin; refine wpList_append_sl _ rfl _ _ _ rfl w9.heap.size 32 row_pane pane_len pane_one _ 0 [] rfl hown0 (some ⟨g, 0, none⟩) a co p1 rfl sA1 (by omega) (by simp) ?_)
                      have sB := fun W' (k : Keep none_ w9 W') => Sl.drop (sT.keep k Off.none_) a hat rfl rfl rfl hp2.out
                      replace sB := Lib.hid sB
                      by_cases hca : co = a
                      · obtain rfl : t = a := by omega
                        subst hca
                        have sZ := fun W' (k : Keep none_ w9 W') => (show Sl Pane.cells 7 W' (some ⟨g, 0, none⟩) 0 0 p2 from ⟨by rw [hp2.out, List.length_drop, List.length_map]; have := ht.out; omega, Nat.zero_le _, by decide, fun h => absurd h (Nat.lt_irrefl _)⟩)
                        replace sZ := Lib.hid sZ
                        intro v1 w2 own1 hg1 hb1
                        have k2 : Keep none_ w9 w2 := keep_grown k1 hown0 hg1 (Nat.le_refl _)
                        obtain ⟨y0, y1, y2, y3, y4, y5, y6⟩ := hY.out w2 (kk.trans k2)
                        have hsz2 := k2.size
                        have kb : Keep none_ w2 (w2.alloc (.cells y.cells.toArray 32)) := Keep.alloc (Keep.refl _ _) _
                        have own1b := own_keep own1 kb (fun _ _ e => e)
                        have sl1 := Sl.of_at (xs := [y]) (At.new w2 y.cells.toArray 32) pane_len (by decide) (rfl : (1 : Nat) = [y].length) (by simp [flat_one]) (by unfold maxLen; omega)
                        have hbs2 : w9.heap.size ≤ (w2.alloc (.cells y.cells.toArray 32)).heap.size := by simp; omega
                        simp only [Pane.cells] at kb own1b sl1 hbs2
                        clear own1 hg1 hb1 hown0 k1
                        go_wp2_with (at_builtin; refine wpList_append_sl _ rfl _ _ _ rfl w9.heap.size 32 row_pane pane_len pane_one _ _ _ rfl own1b (some ⟨w2.heap.size, 0, none⟩) 1 1 [y] rfl sl1 (by omega) hbs2 ?_)
                        intro v2 w3 own2 hg2 hb2
                        have k3 : Keep none_ w9 w3 := keep_grown (k2.trans kb) own1b hg2 (Nat.le_refl _)
                        have hsz3 := k3.size
                        clear own1b hg2 hb2 sl1 kb hbs2 y0 y1 y2 y3 y4 y5 y6 hsz2
                        go_wp2_with (at_builtin; refine wpList_append_sl _ rfl _ _ _ rfl w9.heap.size 32 row_pane pane_len pane_one _ _ _ rfl own2 (some ⟨g, 0, none⟩) (0) (0) (p2) rfl (sZ.out _ k3) (by omega) hsz3 ?_)
                        intro v3 w4 own3 hg3 hb3
                        have k4 : Keep none_ w9 w4 := keep_grown k3 own2 hg3 (Nat.le_refl _)
                        have hsz4 := k4.size
                        clear own2 hg3 hb3 k3 k2
                        go_wp2_with fail
                        go_roundw
                        case rel => exact ⟨i + 1, _, T.take _ ++ (y, i) :: T.drop _, by go_num, by omega, Lib.hid hml.out.symm, by have := hti.out; omega, Lib.hid hpu.out.1, Lib.hid hpu.out.2, by
                          rw [hmm.out]
                          have h9 := own_lower own3 (b' := w.heap.size) hws3
                          simpa using h9, kk.trans k4⟩
                        case measure => simp [intOf]; omega
                      · intro v1 w2 own1 hg1 hb1
                        have k2 : Keep none_ w9 w2 := keep_grown k1 hown0 hg1 (Nat.le_refl _)
                        obtain ⟨y0, y1, y2, y3, y4, y5, y6⟩ := hY.out w2 (kk.trans k2)
                        have hsz2 := k2.size
                        have kb : Keep none_ w2 (w2.alloc (.cells y.cells.toArray 32)) := Keep.alloc (Keep.refl _ _) _
                        have own1b := own_keep own1 kb (fun _ _ e => e)
                        have sl1 := Sl.of_at (xs := [y]) (At.new w2 y.cells.toArray 32) pane_len (by decide) (rfl : (1 : Nat) = [y].length) (by simp [flat_one]) (by unfold maxLen; omega)
                        have hbs2 : w9.heap.size ≤ (w2.alloc (.cells y.cells.toArray 32)).heap.size := by simp; omega
                        simp only [Pane.cells] at kb own1b sl1 hbs2
                        clear own1 hg1 hb1 hown0 k1
                        go_wp2_with (at_builtin; refine wpList_append_sl _ rfl _ _ _ rfl w9.heap.size 32 row_pane pane_len pane_one _ _ _ rfl own1b (some ⟨w2.heap.size, 0, none⟩) 1 1 [y] rfl sl1 (by omega) hbs2 ?_)
                        intro v2 w3 own2 hg2 hb2
                        have k3 : Keep none_ w9 w3 := keep_grown (k2.trans kb) own1b hg2 (Nat.le_refl _)
                        have hsz3 := k3.size
                        clear own1b hg2 hb2 sl1 kb hbs2 y0 y1 y2 y3 y4 y5 y6 hsz2
                        go_wp2_with (at_builtin; refine wpList_append_sl _ rfl _ _ _ rfl w9.heap.size 32 row_pane pane_len pane_one _ _ _ rfl own2 (some ⟨g, a * 7, none⟩) (t - a) (co - a) (p2) rfl (by simpa using sB.out _ k3) (by omega) hsz3 ?_)
                        intro v3 w4 own3 hg3 hb3
                        have k4 : Keep none_ w9 w4 := keep_grown k3 own2 hg3 (Nat.le_refl _)
                        have hsz4 := k4.size
                        clear own2 hg3 hb3 k3 k2
                        go_wp2_with fail
                        go_roundw
                        case rel => exact ⟨i + 1, t + 1, T.take a ++ (y, i) :: T.drop a, by go_num, by omega, Lib.hid hml.out.symm, by have := hti.out; omega, Lib.hid hpu.out.1, Lib.hid hpu.out.2, by
                          rw [hmm.out]
                          have h9 := own_lower own3 (b' := w.heap.size) hws3
                          rw [show t + 1 = 0 + a + 1 + (t - a) by omega]
                          simpa using h9, kk.trans k4⟩
                        case measure => simp [intOf]; omega
                    · replace hltq := hltq.out
                      have hlt9 : y.lt x = true := by rw [hltq]; rfl
                      go_wp2_with fail
                      go_roundw
                      case rel => exact ⟨a', rfl, by have := ha'.out; omega, Lib.hid (fun k hk hak => by
                        rcases Nat.eq_or_lt_of_le hak with h9 | h9
                        · subst h9
                          rw [← hx.out]; exact hlt9
                        · exact hall.out k hk (by have := ha'.out; omega)), (by repeat' (first | assumption | with_reducible exact Keep.refl _ _ | with_reducible refine Keep.alloc ?_ _ | with_reducible refine Keep.drew ?_))⟩
                      case measure => have := ha'.out; simp [intOf]; omega
                · replace hltq := hltq.out
                  have hlt9 : y.lt x = true := by rw [hltq]; rfl
                  go_wp2_with fail
                  go_roundw
                  case rel => exact ⟨a', rfl, by have := ha'.out; omega, Lib.hid (fun k hk hak => by
                    rcases Nat.eq_or_lt_of_le hak with h9 | h9
                    · subst h9
                      rw [← hx.out]; exact hlt9
                    · exact hall.out k hk (by have := ha'.out; omega)), (by repeat' (first | assumption | with_reducible exact Keep.refl _ _ | with_reducible refine Keep.alloc ?_ _ | with_reducible refine Keep.drew ?_))⟩
                  case measure => have := ha'.out; simp [intOf]; omega
            · replace hltq := hltq.out
              have hlt9 : y.lt x = true := by rw [hltq]; rfl
              go_wp2_with fail
              go_roundw
              case rel => exact ⟨a', rfl, by have := ha'.out; omega, Lib.hid (fun k hk hak => by
                rcases Nat.eq_or_lt_of_le hak with h9 | h9
                · subst h9
                  rw [← hx.out]; exact hlt9
                · exact hall.out k hk (by have := ha'.out; omega)), (by repeat' (first | assumption | with_reducible exact Keep.refl _ _ | with_reducible refine Keep.alloc ?_ _ | with_reducible refine Keep.drew ?_))⟩
              case measure => have := ha'.out; simp [intOf]; omega
          · have ha0' : decide ((0 : Int) < (a : Int)) = false := by simp; omega
            have hpu := hput.out a (by have := ht.out; omega) hall.out (fun h9 => absurd h9 ha0)
            replace hpu := Lib.hid hpu
            have hws3 := kk.size
            clear hput
            have sA := sT.takeP a hat
            have k1 : Keep none_ wr (wr.alloc (.cells #[] 32)) := (by repeat' (first | assumption | with_reducible exact Keep.refl _ _ | with_reducible refine Keep.alloc ?_ _ | with_reducible refine Keep.drew ?_))
            have hown0 : (wr.alloc (.cells #[] 32)).ownsRow wr.heap.size 32 7 (.slice (some ⟨wr.heap.size, 0, none⟩) 0 0) 0 (flat Pane.cells []) := own_empty (At.new wr #[] 32) (Nat.le_refl _)
            have sA1 := sA.keep k1 Off.none_
            have hac : a ≤ co := by omega
            obtain ⟨p1, hp1⟩ : ∃ p1, p1 = (T.map Prod.fst).take a := ⟨_, rfl⟩
            obtain ⟨p2, hp2⟩ : ∃ p2, p2 = (T.map Prod.fst).drop a := ⟨_, rfl⟩
            rw [← hp1] at sA1
            have hmm : (T.take a ++ (y, i) :: T.drop a).map Prod.fst = p1 ++ [y] ++ p2 := by rw [hp1, hp2]; simp [List.map_take, List.map_drop]
            have hml : (T.take a ++ (y, i) :: T.drop a).length = t + 1 := by have := ht.out; simp; omega
            replace hmm := Lib.hid hmm
            replace hml := Lib.hid hml
            replace hp1 := Lib.hid hp1
            replace hp2 := Lib.hid hp2
            go_wp2_with (at_builtin; refine wpList_append_sl _ rfl _ _ _ rfl wr.heap.size 32 row_pane pane_len pane_one _ 0 [] rfl hown0 (some ⟨g, 0, none⟩) a co p1 rfl sA1 (by omega) (by simp) ?_)
            have sB := fun W' (k : Keep none_ wr W') => Sl.drop (sT.keep k Off.none_) a hat rfl rfl rfl hp2.out
            replace sB := Lib.hid sB
            by_cases hca : co = a
            · obtain rfl : t = a := by omega
              subst hca
              have sZ := fun W' (k : Keep none_ wr W') => (show Sl Pane.cells 7 W' (some ⟨g, 0, none⟩) 0 0 p2 from ⟨by rw [hp2.out, List.length_drop, List.length_map]; have := ht.out; omega, Nat.zero_le _, by decide, fun h => absurd h (Nat.lt_irrefl _)⟩)
              replace sZ := Lib.hid sZ
              intro v1 w2 own1 hg1 hb1
              have k2 : Keep none_ wr w2 := keep_grown k1 hown0 hg1 (Nat.le_refl _)
              obtain ⟨y0, y1, y2, y3, y4, y5, y6⟩ := hY.out w2 (kk.trans k2)
              have hsz2 := k2.size
              have kb : Keep none_ w2 (w2.alloc (.cells y.cells.toArray 32)) := Keep.alloc (Keep.refl _ _) _
              have own1b := own_keep own1 kb (fun _ _ e => e)
              have sl1 := Sl.of_at (xs := [y]) (At.new w2 y.cells.toArray 32) pane_len (by decide) (rfl : (1 : Nat) = [y].length) (by simp [flat_one]) (by unfold maxLen; omega)
              have hbs2 : wr.heap.size ≤ (w2.alloc (.cells y.cells.toArray 32)).heap.size := by simp; omega
              simp only [Pane.cells] at kb own1b sl1 hbs2
              clear own1 hg1 hb1 hown0 k1
              go_wp2_with (at_builtin; refine wpList_append_sl _ rfl _ _ _ rfl wr.heap.size 32 row_pane pane_len pane_one _ _ _ rfl own1b (some ⟨w2.heap.size, 0, none⟩) 1 1 [y] rfl sl1 (by omega) hbs2 ?_)
              intro v2 w3 own2 hg2 hb2
              have k3 : Keep none_ wr w3 := keep_grown (k2.trans kb) own1b hg2 (Nat.le_refl _)
              have hsz3 := k3.size
              clear own1b hg2 hb2 sl1 kb hbs2 y0 y1 y2 y3 y4 y5 y6 hsz2
              go_wp2_with (at_builtin; refine wpList_append_sl _ rfl _ _ _ rfl wr.heap.size 32 row_pane pane_len pane_one _ _ _ rfl own2 (some ⟨g, 0, none⟩) (0) (0) (p2) rfl (sZ.out _ k3) (by omega) hsz3 ?_)
              intro v3 w4 own3 hg3 hb3
              have k4 : Keep none_ wr w4 := keep_grown k3 own2 hg3 (Nat.le_refl _)
              have hsz4 := k4.size
              clear own2 hg3 hb3 k3 k2
              go_wp2_with fail
              go_roundw
              case rel => exact ⟨i + 1, _, T.take _ ++ (y, i) :: T.drop _, by go_num, by omega, Lib.hid hml.out.symm, by have := hti.out; omega, Lib.hid hpu.out.1, Lib.hid hpu.out.2, by
                rw [hmm.out]
                have h9 := own_lower own3 (b' := w.heap.size) hws3
                simpa using h9, kk.trans k4⟩
              case measure => simp [intOf]; omega
            · intro v1 w2 own1 hg1 hb1
              have k2 : Keep none_ wr w2 := keep_grown k1 hown0 hg1 (Nat.le_refl _)
              obtain ⟨y0, y1, y2, y3, y4, y5, y6⟩ := hY.out w2 (kk.trans k2)
              have hsz2 := k2.size
              have kb : Keep none_ w2 (w2.alloc (.cells y.cells.toArray 32)) := Keep.alloc (Keep.refl _ _) _
              have own1b := own_keep own1 kb (fun _ _ e => e)
              have sl1 := Sl.of_at (xs := [y]) (At.new w2 y.cells.toArray 32) pane_len (by decide) (rfl : (1 : Nat) = [y].length) (by simp [flat_one]) (by unfold maxLen; omega)
              have hbs2 : wr.heap.size ≤ (w2.alloc (.cells y.cells.toArray 32)).heap.size := by simp; omega
              simp only [Pane.cells] at kb own1b sl1 hbs2
              clear own1 hg1 hb1 hown0 k1
              go_wp2_with (at_builtin; refine wpList_append_sl _ rfl _ _ _ rfl wr.heap.size 32 row_pane pane_len pane_one _ _ _ rfl own1b (some ⟨w2.heap.size, 0, none⟩) 1 1 [y] rfl sl1 (by omega) hbs2 ?_)
              intro v2 w3 own2 hg2 hb2
              have k3 : Keep none_ wr w3 := keep_grown (k2.trans kb) own1b hg2 (Nat.le_refl _)
              have hsz3 := k3.size
              clear own1b hg2 hb2 sl1 kb hbs2 y0 y1 y2 y3 y4 y5 y6 hsz2
              go_wp2_with (at_builtin; refine wpList_append_sl _ rfl _ _ _ rfl wr.heap.size 32 row_pane pane_len pane_one _ _ _ rfl own2 (some ⟨g, a * 7, none⟩) (t - a) (co - a) (p2) rfl (by simpa using sB.out _ k3) (by omega) hsz3 ?_)
              intro v3 w4 own3 hg3 hb3
              have k4 : Keep none_ wr w4 := keep_grown k3 own2 hg3 (Nat.le_refl _)
              have hsz4 := k4.size
              clear own2 hg3 hb3 k3 k2
              go_wp2_with fail
              go_roundw
              case rel => exact ⟨i + 1, t + 1, T.take a ++ (y, i) :: T.drop a, by go_num, by omega, Lib.hid hml.out.symm, by have := hti.out; omega, Lib.hid hpu.out.1, Lib.hid hpu.out.2, by
                rw [hmm.out]
                have h9 := own_lower own3 (b' := w.heap.size) hws3
                rw [show t + 1 = 0 + a + 1 + (t - a) by omega]
                simpa using h9, kk.trans k4⟩
              case measure => simp [intOf]; omega
    · obtain rfl : i = n := by omega
      have hfin : Hid (StableP xs (T.map Prod.fst)) := Lib.hid ⟨T, by
        have := hp.out
        rw [hlen.out, List.take_length] at this
        exact this, hs.out, rfl⟩
      clear h hlt
      go_wp2_with fail
      go_ret
      exact ⟨_, T.map Prod.fst, rfl, hfin.out, by
        show World.ownsRow _ _ _ _ _ _ _
        rw [List.length_map, ← ht.out]
        exact own, kk⟩
end Go.Proofs.Ytmioichjhiengaa
