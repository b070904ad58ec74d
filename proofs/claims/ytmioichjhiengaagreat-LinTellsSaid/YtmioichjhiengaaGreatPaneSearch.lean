/-
  slices.BinarySearchFunc on panes, by their windows; pane.at.
-/
import Derived.Test.YtmioichjhiengaaGreatBaseA
import Derived.Test.YtmioichjhiengaaGreatSpan
import Derived.Deep.LoopGhost
set_option linter.unusedSimpArgs false
set_option linter.unusedVariables false
namespace Go.Proofs.YtmioichjhiengaaGreat
open Go.RowKit

def slt (a b : Span) : Bool := decide (a.cmp b < 0)
theorem Span.cmp_eq (a b : Span) : a.cmp b = if a.s < b.s then -1 else if b.s < a.s then 1 else if a.e < b.e then -1 else if b.e < a.e then 1 else 0 := by
  unfold Span.cmp cmpI
  simp only [orI]
  split <;> simp_all
  split <;> simp_all
theorem slt_iff {a b : Span} : slt a b = true ↔ a.s < b.s ∨ (a.s = b.s ∧ a.e < b.e) := by
  unfold slt
  rw [Span.cmp_eq, decide_eq_true_iff]
  repeat' split
  all_goals omega
theorem slt_no {a b : Span} : slt a b = false ↔ b.s < a.s ∨ (a.s = b.s ∧ b.e ≤ a.e) := by
  rw [← Bool.not_eq_true, slt_iff]
  omega
theorem Span.cmp_zero {a b : Span} : a.cmp b = 0 ↔ a = b := by
  obtain ⟨s, e⟩ := a
  obtain ⟨s', e'⟩ := b
  rw [Span.cmp_eq]
  simp only [Span.mk.injEq]
  repeat' split
  all_goals omega
theorem slt_irr (a : Span) : slt a a = false := by rw [slt_no]; omega
theorem slt_tra {a b c : Span} (h : slt a b = true) (h2 : slt b c = true) : slt a c = true := by rw [slt_iff] at *; omega
theorem slt_tri {a b : Span} (h : slt a b = false) (h2 : slt b a = false) : a = b := by
  rw [slt_no] at *
  obtain ⟨s, e⟩ := a
  obtain ⟨s', e'⟩ := b
  simp only [Span.mk.injEq] at *
  omega

/-- By rising windows. -/
abbrev SortedP (xs : List Pane) : Prop := xs.Pairwise (fun a b => slt a.span b.span = true)
/-- Where a window is, or would be. -/
def lbP (xs : List Pane) (s : Span) : Nat := xs.findIdx (fun p => !slt p.span s)
def isP (xs : List Pane) (s : Span) : Bool := match xs[lbP xs s]? with
  | some p => p.span.cmp s == 0
  | none => false
theorem lbP_le (xs : List Pane) (s : Span) : lbP xs s ≤ xs.length := List.findIdx_le_length
theorem lbP_below {xs : List Pane} {s : Span} {k : Nat} (hk : k < lbP xs s) : slt (xs[k]'(Nat.lt_of_lt_of_le hk (lbP_le xs s))).span s = true := by
  have := List.not_of_lt_findIdx hk
  simpa using this
theorem lbP_at {xs : List Pane} {s : Span} (h : lbP xs s < xs.length) : slt xs[lbP xs s].span s = false := by
  have := List.findIdx_getElem (w := h)
  unfold lbP
  simpa using this
theorem lbP_unique {xs : List Pane} {s : Span} {i : Nat} (hi : i ≤ xs.length) (h1 : ∀ k (hk : k < xs.length), k < i → slt xs[k].span s = true) (h2 : ∀ (h : i < xs.length), slt xs[i].span s = false) : lbP xs s = i := by
  rcases Nat.lt_trichotomy (lbP xs s) i with h | h | h
  · have e := lbP_at (xs := xs) (s := s) (by omega)
    rw [h1 _ (by omega) h] at e
    cases e
  · exact h
  · have hl := lbP_le xs s
    have e := lbP_below h
    rw [h2 (by omega)] at e
    cases e

theorem pane_at1 (w : World) (p : Pane) (s : Span) : Calls Tryz.prog 108 #[.agg p.cells.toArray, .agg s.cells.toArray] w fun e w' => e = .returned (.int .i64 (p.span.cmp s)) ∧ Keep none_ w w' := by
  have c1 := Lib.hid (fun w => span_compare w p.span s)
  have kk : Keep none_ w ((w.alloc (.cells p.cells.toArray 88)).alloc (.cells s.cells.toArray 84)) := (by repeat' (first | assumption | with_reducible exact Keep.refl _ _ | with_reducible refine Keep.alloc ?_ _ | with_reducible refine Keep.drew ?_))
  generalize hv : p.span.cmp s = v at *
  clear hv
  simp only [Pane.cells, Span.cells] at kk c1 ⊢
  go_enter Tryz.func108, Tryz.ntmps108
  go_wp2_with fail
  refine (c1.out _).mono ?_
  rintro e w1 ⟨rfl, k1⟩
  go_wp2_with fail
  go_ret
  exact ⟨rfl, kk.trans k1⟩

set_option maxHeartbeats 4000000 in
theorem bsearch {w : World} {A : Option Addr} {n c : Nat} {xs : List Pane} (h : Sl Pane.cells 7 w A n c xs) (hs : SortedP xs) (hn : n ≤ 1000000) (s : Span) :
    Calls Tryz.prog 107 #[.slice A n c, .agg s.cells.toArray, .func (.func 108) #[] #[]] w fun e w' =>
      e = .returned (.tuple #[.int .i64 (lbP xs s), .bool (isP xs s)]) ∧ Keep none_ w w' := by
  have hlen := h.len
  have hlc := h.2.1
  have hnc := h.2.2.1
  unfold maxLen at hnc
  have kk : Keep none_ w (w.alloc (.cells s.cells.toArray 84)) := (by repeat' (first | assumption | with_reducible exact Keep.refl _ _ | with_reducible refine Keep.alloc ?_ _ | with_reducible refine Keep.drew ?_))
  have hx := At.new w s.cells.toArray 84
  have c1 := Lib.hid (fun w p => pane_at1 w p s)
  simp only [Span.cells] at kk hx c1 ⊢
  replace hlen := Lib.hid hlen
  go_enter Tryz.func107, Tryz.ntmps107
  go_wp2_with fail
  generalize w.alloc _ = w0 at *
  generalize w.heap.size = sb at *
  go_loopw [9, 10, 11] (fun iv jv _ wr => ∃ (i j : Nat), iv = .int .i64 i ∧ jv = .int .i64 j ∧ i ≤ j ∧ j ≤ n ∧ Hid (∀ k (hk : k < xs.length), k < i → slt xs[k].span s = true) ∧ Hid (∀ k (hk : k < xs.length), j ≤ k → slt xs[k].span s = false) ∧ Keep none_ w0 wr)
    (fun iv jv _ _ => (intOf jv).toNat - (intOf iv).toNat)
  case atStart => exact ⟨0, n, rfl, rfl, Nat.zero_le _, Nat.le_refl _, Lib.hid (fun k _ h => absurd h (Nat.not_lt_zero _)), Lib.hid (fun k hk h => absurd hk (by have := hlen.out; omega)), Keep.refl _ _⟩
  case round =>
    obtain ⟨i, j, rfl, rfl, hij, hjn, h1, h2, k0⟩ := hrel
    have hxr := Keep.at k0 hx (fun e => e)
    have h0 := h.keep (kk.trans k0) Off.none_
    by_cases hlt : i < j
    · obtain ⟨q, hq⟩ : ∃ q, q = i + j := ⟨_, rfl⟩
      have es : (i : Int) + (j : Int) = (q : Int) := by omega
      obtain ⟨hh, hhh⟩ : ∃ hh, hh = q / 2 := ⟨_, rfl⟩
      have eh : (q : Int) / 2 = (hh : Int) := by omega
      have hs0 := Int.natCast_nonneg q
      have hs1 : (q : Int) ≤ 2000000 := by omega
      have hs2 : (i : Int) + (j : Int) ≤ 9223372036854775807 := by omega
      have hsw : IntKind.i64.wrap (q : Int) = (q : Int) := by rw [IntKind.wrap_i64]; omega
      have hsu : IntKind.u64.wrap (q : Int) = (q : Int) := by rw [IntKind.wrap_u64]; omega
      have hhw : IntKind.i64.wrap (hh : Int) = (hh : Int) := by rw [IntKind.wrap_i64]; omega
      have hhu : IntKind.u64.wrap (hh : Int) = (hh : Int) := by rw [IntKind.wrap_u64]; omega
      have hih : i ≤ hh := by omega
      have hhj : hh < j := by omega
      have hhx : hh < xs.length := by have := hlen.out; omega
      have hhN' : (hh : Int) < (n : Int) := by omega
      have hh0 := Int.natCast_nonneg hh
      replace hq := Lib.hid hq
      replace hhh := Lib.hid hhh
      obtain ⟨b, off, rfl, hbl, -⟩ := h0.at_ (by omega)
      obtain ⟨ι, hnn, f, hf0, hfk, hfa⟩ := class_of none_ wr
      have qa0 : ∀ n, (f n).cell? ⟨b, off + hh * 7, none⟩ = _ := fun n => (h0.keep (hfk n) Off.none_).cellk hhx 0 (by omega)
      have qa1 : ∀ n, (f n).cell? ⟨b, off + hh * 7 + 1, none⟩ = _ := fun n => (h0.keep (hfk n) Off.none_).cellk hhx 1 (by omega)
      have qa2 : ∀ n, (f n).cell? ⟨b, off + hh * 7 + 2, none⟩ = _ := fun n => (h0.keep (hfk n) Off.none_).cellk hhx 2 (by omega)
      have qa3 : ∀ n, (f n).cell? ⟨b, off + hh * 7 + 3, none⟩ = _ := fun n => (h0.keep (hfk n) Off.none_).cellk hhx 3 (by omega)
      have qa4 : ∀ n, (f n).cell? ⟨b, off + hh * 7 + 4, none⟩ = _ := fun n => (h0.keep (hfk n) Off.none_).cellk hhx 4 (by omega)
      have qa5 : ∀ n, (f n).cell? ⟨b, off + hh * 7 + 5, none⟩ = _ := fun n => (h0.keep (hfk n) Off.none_).cellk hhx 5 (by omega)
      have qa6 : ∀ n, (f n).cell? ⟨b, off + hh * 7 + 6, none⟩ = _ := fun n => (h0.keep (hfk n) Off.none_).cellk hhx 6 (by omega)
      simp only [Pane.cells, List.getElem?_cons_zero, List.getElem?_cons_succ, Nat.add_zero] at qa0 qa1 qa2 qa3 qa4 qa5 qa6
      have qs : ∀ n i, (f n).cell? ⟨sb, i, none⟩ = _ := fun n => At.cell (Keep.at (hfk n) hxr (fun e => e))
      have hc1 := Lib.hid (fun n => c1.out (f n) xs[hh])
      obtain ⟨x, hxe⟩ : ∃ x, x = xs[hh] := ⟨_, rfl⟩
      rw [← hxe] at qa0 qa1 qa2 qa3 qa4 qa5 qa6 hc1
      obtain ⟨b9, hb9⟩ : ∃ b9, b9 = slt x.span s := ⟨_, rfl⟩
      have hd9 : decide (x.span.cmp s < 0) = b9 := hb9.symm
      replace hb9 := Lib.hid hb9
      replace hxe := Lib.hid hxe
      replace hs := Lib.hid hs
      replace hhx := Lib.hid hhx
      simp only [Pane.cells] at hc1
      clear h0 h hx
      go_wp2_with fail
      refine wp_region_class f (by kernel_rfl) (by kernel_rfl) hf0 ?_
      repeat (go_big_quiet_step ((go_at_call 108; exact Calls.class_of hfa (hc1.out _))))
      refine wpQuiet_nil ?_
      rintro _ ⟨nn, rfl⟩
      replace k0 := k0.trans (hfk nn)
      clear qa0 qa1 qa2 qa3 qa4 qa5 qa6 qs hf0 hfk hfa hc1
      cases b9
      · go_wp2_with fail
        go_roundw
        case rel => exact ⟨i, hh, rfl, rfl, hih, by omega, h1, Lib.hid (fun k hk hkk => by
          rcases Nat.eq_or_lt_of_le hkk with rfl | hkk
          · rw [← hxe.out]; exact hb9.out.symm
          · have h3 := List.pairwise_iff_getElem.1 hs.out hh k hhx.out hk hkk
            cases h4 : slt xs[k].span s
            · rfl
            · have h5 := slt_tra h3 h4
              rw [← hxe.out, ← hb9.out] at h5
              cases h5), k0⟩
        case measure => simp [intOf]; omega
      · go_wp2_with fail
        go_roundw
        case rel => exact ⟨hh + 1, j, by go_num, rfl, by omega, hjn, Lib.hid (fun k hk hkk => by
          rcases Nat.eq_or_lt_of_le (Nat.le_of_lt_succ hkk) with rfl | hkk
          · rw [← hxe.out]; exact hb9.out.symm
          · have h3 := List.pairwise_iff_getElem.1 hs.out k hh hk hhx.out hkk
            refine slt_tra h3 ?_
            rw [← hxe.out, ← hb9.out]), h2, k0⟩
        case measure => simp [intOf]; omega
    · obtain rfl : i = j := by omega
      have hlb : lbP xs s = i := lbP_unique (by have := hlen.out; omega) (fun k hk hki => h1.out k hk hki) (fun hi => h2.out i hi (Nat.le_refl _))
      have hw1 : Keep none_ w wr := kk.trans k0
      by_cases hin : i < n
      · have hhx : i < xs.length := by have := hlen.out; omega
        have his : isP xs s = (xs[i].span.cmp s == 0) := by
          unfold isP
          rw [hlb, List.getElem?_eq_getElem hhx]
        replace his := Lib.hid his
        replace hlb := Lib.hid hlb
        obtain ⟨b, off, rfl, hbl, -⟩ := h0.at_ (by omega)
        obtain ⟨ι, hnn, f, hf0, hfk, hfa⟩ := class_of none_ wr
        have qa0 : ∀ n, (f n).cell? ⟨b, off + i * 7, none⟩ = _ := fun n => (h0.keep (hfk n) Off.none_).cellk hhx 0 (by omega)
        have qa1 : ∀ n, (f n).cell? ⟨b, off + i * 7 + 1, none⟩ = _ := fun n => (h0.keep (hfk n) Off.none_).cellk hhx 1 (by omega)
        have qa2 : ∀ n, (f n).cell? ⟨b, off + i * 7 + 2, none⟩ = _ := fun n => (h0.keep (hfk n) Off.none_).cellk hhx 2 (by omega)
        have qa3 : ∀ n, (f n).cell? ⟨b, off + i * 7 + 3, none⟩ = _ := fun n => (h0.keep (hfk n) Off.none_).cellk hhx 3 (by omega)
        have qa4 : ∀ n, (f n).cell? ⟨b, off + i * 7 + 4, none⟩ = _ := fun n => (h0.keep (hfk n) Off.none_).cellk hhx 4 (by omega)
        have qa5 : ∀ n, (f n).cell? ⟨b, off + i * 7 + 5, none⟩ = _ := fun n => (h0.keep (hfk n) Off.none_).cellk hhx 5 (by omega)
        have qa6 : ∀ n, (f n).cell? ⟨b, off + i * 7 + 6, none⟩ = _ := fun n => (h0.keep (hfk n) Off.none_).cellk hhx 6 (by omega)
        simp only [Pane.cells, List.getElem?_cons_zero, List.getElem?_cons_succ, Nat.add_zero] at qa0 qa1 qa2 qa3 qa4 qa5 qa6
        have qs : ∀ n i, (f n).cell? ⟨sb, i, none⟩ = _ := fun n => At.cell (Keep.at (hfk n) hxr (fun e => e))
        have hc1 := Lib.hid (fun n => c1.out (f n) xs[i])
        have hin' : (i : Int) < (n : Int) := by omega
        have hi0 := Int.natCast_nonneg i
        generalize xs[i] = x at *
        simp only [Pane.cells] at hc1
        clear h0 h hx h1 h2 hlt hhx
        go_wp2_with fail
        refine wp_region_class f (by kernel_rfl) (by kernel_rfl) hf0 ?_
        repeat (go_big_quiet_step ((go_at_call 108; exact Calls.class_of hfa (hc1.out _))))
        refine wpQuiet_nil ?_
        rintro _ ⟨nn, rfl⟩
        replace hw1 := hw1.trans (hfk nn)
        go_wp2_with fail
        go_ret2
        exact ⟨by rw [his.out, hlb.out]; rfl, hw1⟩
      · have his : isP xs s = false := by
          unfold isP
          rw [hlb, List.getElem?_eq_none (by have := hlen.out; omega)]
        replace his := Lib.hid his
        replace hlb := Lib.hid hlb
        obtain ⟨ι, hnn, f, hf0, hfk, hfa⟩ := class_of none_ wr
        have hin' : ¬ (i : Int) < (n : Int) := by omega
        clear h0 h hx h1 h2 hlt
        go_wp2_with fail
        refine wp_region_class f (by kernel_rfl) (by kernel_rfl) hf0 ?_
        repeat (go_big_quiet_step (fail))
        refine wpQuiet_nil ?_
        rintro _ ⟨nn, rfl⟩
        replace hw1 := hw1.trans (hfk nn)
        go_wp2_with fail
        go_ret2
        exact ⟨by rw [his.out, hlb.out]; rfl, hw1⟩

theorem pane_at {w : World} {A : Option Addr} {n c : Nat} {xs : List Pane} (h : Sl Pane.cells 7 w A n c xs) (hs : SortedP xs) (hn : n ≤ 1000000) (s : Span) :
    Calls Tryz.prog 75 #[.slice A n c, .agg s.cells.toArray] w fun e w' => e = .returned (.tuple #[.int .i64 (lbP xs s), .bool (isP xs s)]) ∧ Keep none_ w w' := by
  have kk : Keep none_ w (w.alloc (.cells s.cells.toArray 84)) := (by repeat' (first | assumption | with_reducible exact Keep.refl _ _ | with_reducible refine Keep.alloc ?_ _ | with_reducible refine Keep.drew ?_))
  have c1 := Lib.hid (bsearch (h.keep kk Off.none_) hs hn s)
  clear h hs
  simp only [Span.cells] at kk c1 ⊢
  go_enter Tryz.func75, Tryz.ntmps75
  go_wp2_with fail
  refine c1.out.mono ?_
  rintro e w1 ⟨rfl, k1⟩
  go_wp2_with fail
  go_ret2
  exact ⟨rfl, kk.trans k1⟩
end Go.Proofs.YtmioichjhiengaaGreat
