/-
  easellaw07.set: a pane put among panes by rising windows.
-/
import Derived.Test.YtmioichjhiengaaRefPane
import Derived.Test.YtmioichjhiengaaPaneLaw
import Derived.Deep.CutBlock
namespace Go.Proofs.Ytmioichjhiengaa
open Go.RowKit

theorem Sl.takeS {α : Type} {enc : α → List Value} {k : Nat} {w : World} {A : Option Addr} {n c : Nat} {xs : List α} (h : Sl enc k w A n c xs) (i : Nat) (hi : i ≤ n) : Sl enc k w A i c (xs.take i) := by
  obtain ⟨h1, h2, h3, h4⟩ := h
  refine ⟨by rw [List.length_take, ← h1, Nat.min_eq_left hi], by omega, h3, fun hn => ?_⟩
  obtain ⟨b, off, rfl, hb, hc⟩ := h4 (by omega)
  refine ⟨b, off, rfl, hb, fun j hj l hl => ?_⟩
  rw [List.length_take] at hj
  rw [List.getElem_take]
  exact hc j (by omega) l hl
set_option maxHeartbeats 8000000 in
set_option maxRecDepth 100000 in
theorem ref_set {w : World} {base : Nat} {v : Value} {xs : List Pane} (own : PRow w base v xs) (hs : SortedP xs) (hn : xs.length ≤ 1000) (y : Pane) :
    Calls Try.prog 32 #[v, .agg y.cells.toArray] w (Cloned w (insL xs (lbP xs y.span) y)) := by
  have kk : Keep none_ w (w.alloc (.cells y.cells.toArray 32)) := (by repeat' (first | assumption | with_reducible exact Keep.refl _ _ | with_reducible refine Keep.alloc ?_ _ | with_reducible refine Keep.drew ?_))
  have hx := At.new w y.cells.toArray 32
  have hlb := lbP_le xs y.span
  rcases own.2 with ⟨rfl, h0⟩ | ⟨g, co, cur, rfl, hbg, hcur, hnc9, hmc9, -⟩
  · have hx0 : xs = [] := List.length_eq_zero_iff.1 h0
    subst hx0
    clear own hs hn hlb h0
    have hi : insL [] (lbP [] y.span) y = [y] := by simp [insL]
    rw [hi]
    simp only [Pane.cells] at kk hx ⊢
    go_enter Try.func32, Try.ntmps32
    go_wp2_with fail
    generalize hwr : w.alloc _ = wr at *
    have hsz := kk.size
    go_loopw [5, 6] (fun av iv wq => av = .int .i64 0 ∧ iv = .int .i64 0 ∧ wq = wr) (fun _ _ _ => 0)
    case atStart => exact ⟨rfl, rfl, rfl⟩
    case round =>
      obtain ⟨rfl, rfl, rfl⟩ := hrel
      have hxr : At wr w.heap.size y.cells.toArray 32 := hx
      have k1 : Keep none_ wr (wr.alloc (.cells #[] 32)) := (by repeat' (first | assumption | with_reducible exact Keep.refl _ _ | with_reducible refine Keep.alloc ?_ _ | with_reducible refine Keep.drew ?_))
      have hown0 : (wr.alloc (.cells #[] 32)).ownsRow wr.heap.size 32 7 (.slice (some ⟨wr.heap.size, 0, none⟩) 0 0) 0 (flat Pane.cells []) := own_empty (At.new wr #[] 32) (Nat.le_refl _)
      clear hx
      go_wp2_with (at_builtin; refine wpList_append_sl _ rfl _ _ _ rfl wr.heap.size 32 row_pane pane_len pane_one _ 0 [] rfl hown0 none 0 0 [] rfl (Sl.nil _ _ _ _ _ (by decide)) (by omega) (by simp) ?_)
      intro v1 w2 own1 hg1 hb1
      have k2 : Keep none_ wr w2 := keep_grown k1 hown0 hg1 (Nat.le_refl _)
      have cp := At.cell (Keep.at k2 hxr (fun e => e))
      have hsz2 := k2.size
      have hxl2 := (Keep.at k2 hxr (fun e => e)).lt
      have kb : Keep none_ w2 (w2.alloc (.cells y.cells.toArray 32)) := Keep.alloc (Keep.refl _ _) _
      have own1b := own_keep own1 kb (fun _ _ e => e)
      have sl1 := Sl.of_at (xs := [y]) (At.new w2 y.cells.toArray 32) pane_len (by decide) (rfl : (1 : Nat) = [y].length) (by simp [flat_one]) (by unfold maxLen; omega)
      have hbs2 : wr.heap.size ≤ (w2.alloc (.cells y.cells.toArray 32)).heap.size := by simp; omega
      simp only [Pane.cells] at kb own1b sl1 hbs2 cp
      clear own1 hg1 hb1 hown0 k1
      go_wp2_with (at_builtin; refine wpList_append_sl _ rfl _ _ _ rfl wr.heap.size 32 row_pane pane_len pane_one _ _ _ rfl own1b (some ⟨w2.heap.size, 0, none⟩) 1 1 [y] rfl sl1 (by omega) hbs2 ?_)
      intro v2 w3 own2 hg2 hb2
      have k3 : Keep none_ wr w3 := keep_grown (k2.trans kb) own1b hg2 (Nat.le_refl _)
      have hsz3 := k3.size
      clear own1b hg2 hb2 sl1 kb hbs2 cp hsz2 hxl2
      go_wp2_with (at_builtin; refine wpList_append_sl _ rfl _ _ _ rfl wr.heap.size 32 row_pane pane_len pane_one _ _ _ rfl own2 (none) (0) (0) ([]) rfl (Sl.nil _ _ _ _ _ (by decide)) (by omega) hsz3 ?_)
      intro v3 w4 own3 hg3 hb3
      have k4 : Keep none_ wr w4 := keep_grown k3 own2 hg3 (Nat.le_refl _)
      have hsz4 := k4.size
      clear own2 hg3 hb3 k3 k2
      go_wp2_with fail
      go_ret
      exact ⟨_, rfl, own_lower (by simpa using own3) hsz, kk.trans k4⟩
  · have sT0 : Sl Pane.cells 7 w (some ⟨g, 0, none⟩) xs.length co xs := Sl.of_own pane_len (by decide) own
    unfold maxLen at hmc9
    have hb1 := fun k (hk : k < lbP xs y.span) => lbP_below hk
    have hb2 := fun k (hk : k < xs.length) (h : lbP xs y.span ≤ k) => lbP_above hs hk h
    obtain ⟨r, hr⟩ : ∃ r, r = lbP xs y.span := ⟨_, rfl⟩
    rw [← hr] at hlb ⊢
    obtain ⟨n, hnn⟩ : ∃ n, n = xs.length := ⟨_, rfl⟩
    rw [← hnn] at hlb hn hnc9 sT0 ⊢
    replace hb1 : Hid (∀ k (hk : k < xs.length), k < r → slt xs[k].span y.span = true) := Lib.hid (fun k hk h => hb1 k (by omega))
    replace hb2 : Hid (∀ k (hk : k < xs.length), r ≤ k → slt xs[k].span y.span = false) := Lib.hid (fun k hk h => hb2 k hk (by omega))
    have hil : Hid (insL xs r y = xs.take r ++ [y] ++ xs.drop r) := Lib.hid (by simp [insL])
    have hill : Hid ((insL xs r y).length = n + 1) := Lib.hid (by rw [insL_len, hnn])
    replace hr := Lib.hid hr
    replace hnn := Lib.hid hnn
    have c1 := Lib.hid (fun w a => ref_compare w a y.span)
    have sT := sT0.keep kk Off.none_
    clear own hs hcur sT0
    simp only [Pane.cells] at kk hx ⊢
    go_enter Try.func32, Try.ntmps32
    go_wp2_with fail
    generalize hwr : w.alloc _ = w0 at *
    have hsz := kk.size
    clear hwr
    go_loopw [5, 6] (fun av iv wq => ∃ k : Nat, iv = .int .i64 k ∧ k ≤ n ∧ av = .int .i64 (min k r : Nat) ∧ Keep none_ w0 wq) (fun _ iv _ => n - (intOf iv).toNat)
    case atStart => exact ⟨0, rfl, Nat.zero_le _, by simp, Keep.refl _ _⟩
    case round =>
      obtain ⟨k, rfl, hkn, rfl, k0⟩ := hrel
      have hxr : At wr w.heap.size y.cells.toArray 32 := Keep.at k0 hx (fun e => e)
      by_cases hlt : k < n
      · have hkx : k < xs.length := by have := hnn.out; omega
        obtain ⟨ι, hne, f, hf0, hfk, hfa⟩ := class_of none_ wr
        have qa := fun z => ((sT.keep (k0.trans (hfk z)) Off.none_).pane hkx).c1
        have qb := fun z => ((sT.keep (k0.trans (hfk z)) Off.none_).pane hkx).c2
        have qs : ∀ n i, (f n).cell? ⟨w.heap.size, i, none⟩ = _ := fun n => At.cell (Keep.at (hfk n) hxr (fun e => e))
        have h1 := hb1.out k hkx
        have h2 := hb2.out k hkx
        have hc1 := Lib.hid (fun z => c1.out (f z) xs[k].span)
        generalize xs[k] = x at *
        obtain ⟨b9, hb9⟩ : ∃ b9, b9 = slt x.span y.span := ⟨_, rfl⟩
        have hd9 : decide (x.span.cmp y.span < 0) = b9 := hb9.symm
        rw [← hb9] at h1 h2
        have hlt' : (k : Int) < (n : Int) := by omega
        have hk0 := Int.natCast_nonneg k
        simp only [Pane.cells, Span.cells] at hc1 qs
        simp only [Nat.zero_add] at qa qb
        replace hb9 := Lib.hid hb9
        generalize x.span.cmp y.span = cv at *
        clear sT hx hxr hb1 hb2 c1
        cases b9
        · have hmin : Hid (min (k + 1) r = min k r) := Lib.hid (by
            have : r ≤ k := by
              rcases Nat.lt_or_ge k r with h | h
              · have := h1 h; cases this
              · exact h
            omega)
          clear h1 h2
          generalize hm9 : min k r = mm at *
          go_wp2_with fail
          refine wp_region_class f (by kernel_rfl) (by kernel_rfl) hf0 ?_
          repeat (go_big_quiet_step ((go_at_call 60; exact Calls.class_of hfa (hc1.out _))))
          refine wpQuiet_nil ?_
          rintro _ ⟨nn, rfl⟩
          replace k0 := k0.trans (hfk nn)
          clear qa qb qs hf0 hfk hfa hc1
          go_wp2_with fail
          go_roundw
          case rel => exact ⟨k + 1, by go_num, by omega, by rw [hmin.out], k0⟩
          case measure => simp [intOf]; omega
        · have hmin : Hid (min (k + 1) r = k + 1) := Lib.hid (by
            have : k < r := by
              rcases Nat.lt_or_ge k r with h | h
              · exact h
              · have := h2 h; cases this
            omega)
          clear h1 h2
          generalize hm9 : min k r = mm at *
          go_wp2_with fail
          refine wp_region_class f (by kernel_rfl) (by kernel_rfl) hf0 ?_
          repeat (go_big_quiet_step ((go_at_call 60; exact Calls.class_of hfa (hc1.out _))))
          refine wpQuiet_nil ?_
          rintro _ ⟨nn, rfl⟩
          replace k0 := k0.trans (hfk nn)
          clear qa qb qs hf0 hfk hfa hc1
          go_wp2_with fail
          go_roundw
          case rel => exact ⟨k + 1, by go_num, by omega, by rw [hmin.out]; go_num, k0⟩
          case measure => simp [intOf]; omega
      · obtain rfl : k = n := by omega
        have hmr : min k r = r := by omega
        rw [hmr]
        replace kk := kk.trans k0
        have sA := sT.takeS r hlb
        have k1 : Keep none_ wr (wr.alloc (.cells #[] 32)) := (by repeat' (first | assumption | with_reducible exact Keep.refl _ _ | with_reducible refine Keep.alloc ?_ _ | with_reducible refine Keep.drew ?_))
        have hown0 : (wr.alloc (.cells #[] 32)).ownsRow wr.heap.size 32 7 (.slice (some ⟨wr.heap.size, 0, none⟩) 0 0) 0 (flat Pane.cells []) := own_empty (At.new wr #[] 32) (Nat.le_refl _)
        have sA1 := (sA.keep k0 Off.none_).keep k1 Off.none_
        have hrc : r ≤ co := by omega
        have hszk := kk.size
        obtain ⟨p1, hp1⟩ : ∃ p1, p1 = xs.take r := ⟨_, rfl⟩
        obtain ⟨p2, hp2⟩ : ∃ p2, p2 = xs.drop r := ⟨_, rfl⟩
        rw [← hp1] at sA1
        rw [← hp1, ← hp2] at hil
        replace hp1 := Lib.hid hp1
        replace hp2 := Lib.hid hp2
        have hr0 := Int.natCast_nonneg r
        have hrk : (r : Int) ≤ (k : Int) := by omega
        have sB := fun W' (kz : Keep none_ wr W') => Sl.drop (sT.keep (k0.trans kz) Off.none_) r hlb rfl rfl rfl hp2.out
        replace sB := Lib.hid sB
        have hp2l : Hid (p2.length = k - r) := Lib.hid (by rw [hp2.out, List.length_drop, hnn.out])
        clear sT hx c1 hb1 hb2 sA hlt
        go_wp2_with (at_builtin; refine wpList_append_sl _ rfl _ _ _ rfl wr.heap.size 32 row_pane pane_len pane_one _ 0 [] rfl hown0 (some ⟨g, 0, none⟩) r co p1 rfl sA1 (by omega) (by simp) ?_)
        by_cases hca : co = r
        · obtain rfl : k = r := by omega
          subst hca
          have sZ := fun W' (kz : Keep none_ wr W') => (show Sl Pane.cells 7 W' (some ⟨g, 0, none⟩) 0 0 p2 from ⟨by rw [hp2l.out]; omega, Nat.zero_le _, by decide, fun h => absurd h (Nat.lt_irrefl _)⟩)
          replace sZ := Lib.hid sZ
          intro v1 w2 own1 hg1 hb1
          have k2 : Keep none_ wr w2 := keep_grown k1 hown0 hg1 (Nat.le_refl _)
          have cp := At.cell (Keep.at k2 hxr (fun e => e))
          have hsz2 := k2.size
          have hxl2 := (Keep.at k2 hxr (fun e => e)).lt
          have kb : Keep none_ w2 (w2.alloc (.cells y.cells.toArray 32)) := Keep.alloc (Keep.refl _ _) _
          have own1b := own_keep own1 kb (fun _ _ e => e)
          have sl1 := Sl.of_at (xs := [y]) (At.new w2 y.cells.toArray 32) pane_len (by decide) (rfl : (1 : Nat) = [y].length) (by simp [flat_one]) (by unfold maxLen; omega)
          have hbs2 : wr.heap.size ≤ (w2.alloc (.cells y.cells.toArray 32)).heap.size := by simp; omega
          simp only [Pane.cells] at kb own1b sl1 hbs2 cp
          clear own1 hg1 hb1 hown0 k1
          go_wp2_with (at_builtin; refine wpList_append_sl _ rfl _ _ _ rfl wr.heap.size 32 row_pane pane_len pane_one _ _ _ rfl own1b (some ⟨w2.heap.size, 0, none⟩) 1 1 [y] rfl sl1 (by omega) hbs2 ?_)
          intro v2 w3 own2 hg2 hb2
          have k3 : Keep none_ wr w3 := keep_grown (k2.trans kb) own1b hg2 (Nat.le_refl _)
          have hsz3 := k3.size
          clear own1b hg2 hb2 sl1 kb hbs2 cp hsz2 hxl2
          go_wp2_with (at_builtin; refine wpList_append_sl _ rfl _ _ _ rfl wr.heap.size 32 row_pane pane_len pane_one _ _ _ rfl own2 (some ⟨g, 0, none⟩) (0) (0) (p2) rfl (sZ.out _ k3) (by omega) hsz3 ?_)
          intro v3 w4 own3 hg3 hb3
          have k4 : Keep none_ wr w4 := keep_grown k3 own2 hg3 (Nat.le_refl _)
          have hsz4 := k4.size
          clear own2 hg3 hb3 k3 k2
          go_wp2_with fail
          go_ret
          exact ⟨_, rfl, by
            show World.ownsRow _ _ _ _ _ _ _
            rw [hill.out, hil.out]
            have h9 := own_lower own3 (b' := w.heap.size) hszk
            simpa using h9, kk.trans k4⟩
        · intro v1 w2 own1 hg1 hb1
          have k2 : Keep none_ wr w2 := keep_grown k1 hown0 hg1 (Nat.le_refl _)
          have cp := At.cell (Keep.at k2 hxr (fun e => e))
          have hsz2 := k2.size
          have hxl2 := (Keep.at k2 hxr (fun e => e)).lt
          have kb : Keep none_ w2 (w2.alloc (.cells y.cells.toArray 32)) := Keep.alloc (Keep.refl _ _) _
          have own1b := own_keep own1 kb (fun _ _ e => e)
          have sl1 := Sl.of_at (xs := [y]) (At.new w2 y.cells.toArray 32) pane_len (by decide) (rfl : (1 : Nat) = [y].length) (by simp [flat_one]) (by unfold maxLen; omega)
          have hbs2 : wr.heap.size ≤ (w2.alloc (.cells y.cells.toArray 32)).heap.size := by simp; omega
          simp only [Pane.cells] at kb own1b sl1 hbs2 cp
          clear own1 hg1 hb1 hown0 k1
          go_wp2_with (at_builtin; refine wpList_append_sl _ rfl _ _ _ rfl wr.heap.size 32 row_pane pane_len pane_one _ _ _ rfl own1b (some ⟨w2.heap.size, 0, none⟩) 1 1 [y] rfl sl1 (by omega) hbs2 ?_)
          intro v2 w3 own2 hg2 hb2
          have k3 : Keep none_ wr w3 := keep_grown (k2.trans kb) own1b hg2 (Nat.le_refl _)
          have hsz3 := k3.size
          clear own1b hg2 hb2 sl1 kb hbs2 cp hsz2 hxl2
          go_wp2_with (at_builtin; refine wpList_append_sl _ rfl _ _ _ rfl wr.heap.size 32 row_pane pane_len pane_one _ _ _ rfl own2 (some ⟨g, r * 7, none⟩) (k - r) (co - r) (p2) rfl (by simpa using sB.out _ k3) (by omega) hsz3 ?_)
          intro v3 w4 own3 hg3 hb3
          have k4 : Keep none_ wr w4 := keep_grown k3 own2 hg3 (Nat.le_refl _)
          have hsz4 := k4.size
          clear own2 hg3 hb3 k3 k2
          go_wp2_with fail
          go_ret
          exact ⟨_, rfl, by
            show World.ownsRow _ _ _ _ _ _ _
            rw [hill.out, hil.out]
            have h9 := own_lower own3 (b' := w.heap.size) hszk
            rw [show k + 1 = 0 + r + 1 + (k - r) by omega]
            simpa using h9, kk.trans k4⟩
end Go.Proofs.Ytmioichjhiengaa
