/-
  Whether panes are the same: the reference's Same, slices.Equal.
-/
import Derived.Test.YtmioichjhiengaaGreatEq
import Derived.Test.YtmioichjhiengaaGreatArg
import Derived.Test.YtmioichjhiengaaGreatRegion
import Derived.Lib.Hide
import Derived.Outline
namespace Go.Proofs.YtmioichjhiengaaGreat
open Go.RowKit

def panesB : List Pane → List Pane → Bool
  | [], [] => true
  | x :: a, y :: b => x.eqB y && panesB a b
  | _, _ => false
theorem panesB_iff (a : List Pane) : ∀ b, panesB a b = true ↔ a = b := by
  induction a with
  | nil => intro b; cases b <;> simp [panesB]
  | cons x a ih => intro b; cases b <;> simp [panesB, Pane.eqB_iff, ih]
theorem panesB_self (a : List Pane) : panesB a a = true := (panesB_iff a a).2 rfl
theorem panesB_len {a b : List Pane} (h : a.length ≠ b.length) : panesB a b = false := by
  rw [Bool.eq_false_iff]
  intro e
  exact h (by rw [(panesB_iff a b).1 e])
theorem panesB_at {a b : List Pane} (h : a.length = b.length) : (∀ i (h1 : i < a.length) (h2 : i < b.length), a[i].eqB b[i] = true) → panesB a b = true := by
  intro hh
  rw [panesB_iff]
  exact List.ext_getElem h fun i h1 h2 => (Pane.eqB_iff _ _).1 (hh i h1 h2)
theorem panesB_not {a b : List Pane} (i : Nat) (h1 : i < a.length) (h2 : i < b.length) (h : a[i].eqB b[i] = false) : panesB a b = false := by
  rw [Bool.eq_false_iff]
  intro e
  have := (panesB_iff a b).1 e
  subst this
  rw [(Pane.eqB_iff _ _).2 rfl] at h
  cases h
theorem pane_len (x : Pane) : x.cells.length = 7 := rfl
theorem pane_one (x : Pane) : ∀ u ∈ x.cells, u.oneCell' = true := by
  intro u hu
  simp only [Pane.cells, List.mem_cons, List.not_mem_nil, or_false] at hu
  rcases hu with rfl | rfl | rfl | rfl | rfl | rfl | rfl <;> rfl
/-- The seven cells of a pane that lies at place o of block b. -/
structure PaneIn (w : World) (b o : Nat) (x : Pane) : Prop where
  c0 : w.cell? ⟨b, o, none⟩ = some (.string x.key)
  c1 : w.cell? ⟨b, o + 1, none⟩ = some (.int .i64 x.span.s)
  c2 : w.cell? ⟨b, o + 2, none⟩ = some (.int .i64 x.span.e)
  c3 : w.cell? ⟨b, o + 3, none⟩ = some (.int .i64 x.agg.count)
  c4 : w.cell? ⟨b, o + 4, none⟩ = some (.int .i64 x.agg.sum)
  c5 : w.cell? ⟨b, o + 5, none⟩ = some (.int .i64 x.agg.lo)
  c6 : w.cell? ⟨b, o + 6, none⟩ = some (.int .i64 x.agg.hi)
theorem Sl.pane {w : World} {b off n c : Nat} {xs : List Pane} (h : Sl Pane.cells 7 w (some ⟨b, off, none⟩) n c xs) {i : Nat} (hi : i < xs.length) : PaneIn w b (off + i * 7) xs[i] :=
  ⟨h.cellk hi 0 (by omega), h.cellk hi 1 (by omega), h.cellk hi 2 (by omega), h.cellk hi 3 (by omega), h.cellk hi 4 (by omega), h.cellk hi 5 (by omega), h.cellk hi 6 (by omega)⟩

set_option maxHeartbeats 1000000 in
theorem ref_same (w : World) {A B : Option Addr} {n c m d : Nat} {a b : List Pane} (h1 : Sl Pane.cells 7 w A n c a) (h2 : Sl Pane.cells 7 w B m d b) :
    Calls Tryz.prog 11 #[.slice A n c, .slice B m d] w fun e w' => e = .returned (.bool (panesB a b)) ∧ Keep none_ w w' := by
  obtain rfl := h1.len
  obtain rfl := h2.len
  have hnc := h1.2.2.1
  have hlc := h1.2.1
  unfold maxLen at hnc
  obtain ⟨r, hr⟩ : ∃ r, r = panesB a b := ⟨_, rfl⟩
  rw [← hr]
  by_cases hl : a.length = b.length
  · have hlb : ((a.length : Int) != (b.length : Int)) = false := by simp [hl]
    have hlb2 : (a.length != b.length) = false := by simp [hl]
    replace hl := Lib.hid hl
    replace hr := Lib.hid hr
    go_enter Tryz.func11, Tryz.ntmps11
    go_wp2_with fail
    go_loopw [5] (fun wn wr => ∃ k : Nat, k ≤ a.length ∧ wn = .int .i64 k ∧ Keep none_ w wr ∧ ∀ i (h1 : i < a.length) (h2 : i < b.length), i < k → a[i].eqB b[i] = true) (fun wn _ => a.length - (intOf wn).toNat)
    case atStart => exact ⟨0, Nat.zero_le _, rfl, Keep.refl _ _, fun i _ _ h => absurd h (Nat.not_lt_zero _)⟩
    case round =>
      obtain ⟨k, hk, rfl, kk, hall⟩ := hrel
      by_cases hlt : k < a.length
      · have hltb : k < b.length := by rw [← hl.out]; exact hlt
        obtain ⟨b1, o1, rfl, hb1, -⟩ := h1.at_ (by omega)
        obtain ⟨b2, o2, rfl, hb2, -⟩ := h2.at_ (by omega)
        have p1 := (h1.keep kk Off.none_).pane hlt
        have p2 := (h2.keep kk Off.none_).pane hltb
        have hne := fun w => run_neq_Pane a[k] b[k] w
        have hcase : ∀ q, a[k].eqB b[k] = q → (q = true → ∀ i (h1 : i < a.length) (h2 : i < b.length), i < k + 1 → a[i].eqB b[i] = true) ∧ (q = false → r = false) := fun q hq =>
          ⟨fun hq2 i h1 h2 h3 => by
            by_cases e : i = k
            · subst e; rw [hq, hq2]
            · exact hall i h1 h2 (by omega), fun hq2 => by rw [hr.out]; exact panesB_not k hlt hltb (by rw [hq, hq2])⟩
        clear hall
        generalize a[k] = x at *
        generalize b[k] = y at *
        replace hcase := hcase _ rfl
        generalize x.eqB y = q at *
        replace hcase := Lib.hid hcase
        obtain ⟨xk, ⟨xs, xe⟩, ⟨xc, xu, xl, xh⟩⟩ := x
        obtain ⟨yk, ⟨ys, ye⟩, ⟨yc, yu, yl, yh⟩⟩ := y
        simp only [Pane.cells] at hne
        obtain ⟨ι, hnn, f, hf0, hfk, hfa⟩ := class_of none_ wr
        have q1 : ∀ n, ∀ {i : Nat}, (f n).cell? ⟨b1, i, none⟩ = wr.cell? ⟨b1, i, none⟩ := fun n {i} => keep_cell (hfk n) (Nat.lt_of_lt_of_le hb1 kk.size)
        have q2 : ∀ n, ∀ {i : Nat}, (f n).cell? ⟨b2, i, none⟩ = wr.cell? ⟨b2, i, none⟩ := fun n {i} => keep_cell (hfk n) (Nat.lt_of_lt_of_le hb2 kk.size)
        have p10 := fun n => (q1 n).trans p1.c0
        have p11 := fun n => (q1 n).trans p1.c1
        have p12 := fun n => (q1 n).trans p1.c2
        have p13 := fun n => (q1 n).trans p1.c3
        have p14 := fun n => (q1 n).trans p1.c4
        have p15 := fun n => (q1 n).trans p1.c5
        have p16 := fun n => (q1 n).trans p1.c6
        have p20 := fun n => (q2 n).trans p2.c0
        have p21 := fun n => (q2 n).trans p2.c1
        have p22 := fun n => (q2 n).trans p2.c2
        have p23 := fun n => (q2 n).trans p2.c3
        have p24 := fun n => (q2 n).trans p2.c4
        have p25 := fun n => (q2 n).trans p2.c5
        have p26 := fun n => (q2 n).trans p2.c6
        clear q1 q2 p1 p2
        simp only at p10 p11 p12 p13 p14 p15 p16 p20 p21 p22 p23 p24 p25 p26
        go_wp2_with fail
        refine wp_region_class f (by kernel_rfl) (by kernel_rfl) hf0 ?_
        repeat (go_big_quiet_step (fail))
        refine wpQuiet_nil ?_
        rintro _ ⟨nn, rfl⟩
        replace kk := kk.trans (hfk nn)
        clear p10 p11 p12 p13 p14 p15 p16 p20 p21 p22 p23 p24 p25 p26 hne
        cases q
        · go_wp2_with fail
          go_ret
          have e9 := hcase.out.2 (by first | rfl | trivial)
          subst e9
          exact ⟨rfl, kk⟩
        · go_wp2_with fail
          go_roundw
          case rel => exact ⟨k + 1, by omega, by go_num, kk, hcase.out.1 (by first | rfl | trivial)⟩
          case measure => simp [intOf]; omega
      · go_wp2_with fail
        go_ret
        have e9 : r = true := by rw [hr.out, panesB_at hl.out (fun i h1 h2 => hall i h1 h2 (by omega))]
        subst e9
        exact ⟨rfl, kk⟩
  · have hlb : ((a.length : Int) != (b.length : Int)) = true := by simp; omega
    have hlb2 : (a.length != b.length) = true := by simp [hl]
    rw [panesB_len hl] at hr
    subst hr
    clear hl
    go_enter Tryz.func11, Tryz.ntmps11
    go_wp2_with fail
    go_ret
    exact ⟨rfl, (by repeat' (first | assumption | with_reducible exact Keep.refl _ _ | with_reducible refine Keep.alloc ?_ _ | with_reducible refine Keep.drew ?_))⟩
set_option maxHeartbeats 1000000 in
theorem slices_equal (w : World) {A B : Option Addr} {n c m d : Nat} {a b : List Pane} (h1 : Sl Pane.cells 7 w A n c a) (h2 : Sl Pane.cells 7 w B m d b) :
    Calls Tryz.prog 66 #[.slice A n c, .slice B m d] w fun e w' => e = .returned (.bool (panesB a b)) ∧ Keep none_ w w' := by
  obtain rfl := h1.len
  obtain rfl := h2.len
  have hnc := h1.2.2.1
  have hlc := h1.2.1
  unfold maxLen at hnc
  obtain ⟨r, hr⟩ : ∃ r, r = panesB a b := ⟨_, rfl⟩
  rw [← hr]
  by_cases hl : a.length = b.length
  · have hlb : ((a.length : Int) != (b.length : Int)) = false := by simp [hl]
    have hlb2 : (a.length != b.length) = false := by simp [hl]
    replace hl := Lib.hid hl
    replace hr := Lib.hid hr
    go_enter Tryz.func66, Tryz.ntmps66
    go_wp2_with fail
    go_loopw [5, 13] (fun _ wn wr => ∃ k : Nat, k ≤ a.length ∧ wn = .int .i64 k ∧ Keep none_ w wr ∧ ∀ i (h1 : i < a.length) (h2 : i < b.length), i < k → a[i].eqB b[i] = true) (fun _ wn _ => a.length - (intOf wn).toNat)
    case atStart => exact ⟨0, Nat.zero_le _, rfl, Keep.refl _ _, fun i _ _ h => absurd h (Nat.not_lt_zero _)⟩
    case round =>
      obtain ⟨k, hk, rfl, kk, hall⟩ := hrel
      by_cases hlt : k < a.length
      · have hltb : k < b.length := by rw [← hl.out]; exact hlt
        obtain ⟨b1, o1, rfl, hb1, -⟩ := h1.at_ (by omega)
        obtain ⟨b2, o2, rfl, hb2, -⟩ := h2.at_ (by omega)
        have p1 := (h1.keep kk Off.none_).pane hlt
        have p2 := (h2.keep kk Off.none_).pane hltb
        have hne := fun w => run_neq_Pane a[k] b[k] w
        have hcase : ∀ q, a[k].eqB b[k] = q → (q = true → ∀ i (h1 : i < a.length) (h2 : i < b.length), i < k + 1 → a[i].eqB b[i] = true) ∧ (q = false → r = false) := fun q hq =>
          ⟨fun hq2 i h1 h2 h3 => by
            by_cases e : i = k
            · subst e; rw [hq, hq2]
            · exact hall i h1 h2 (by omega), fun hq2 => by rw [hr.out]; exact panesB_not k hlt hltb (by rw [hq, hq2])⟩
        clear hall
        generalize a[k] = x at *
        generalize b[k] = y at *
        replace hcase := hcase _ rfl
        generalize x.eqB y = q at *
        replace hcase := Lib.hid hcase
        obtain ⟨xk, ⟨xs, xe⟩, ⟨xc, xu, xl, xh⟩⟩ := x
        obtain ⟨yk, ⟨ys, ye⟩, ⟨yc, yu, yl, yh⟩⟩ := y
        simp only [Pane.cells] at hne
        obtain ⟨ι, hnn, f, hf0, hfk, hfa⟩ := class_of none_ wr
        have q1 : ∀ n, ∀ {i : Nat}, (f n).cell? ⟨b1, i, none⟩ = wr.cell? ⟨b1, i, none⟩ := fun n {i} => keep_cell (hfk n) (Nat.lt_of_lt_of_le hb1 kk.size)
        have q2 : ∀ n, ∀ {i : Nat}, (f n).cell? ⟨b2, i, none⟩ = wr.cell? ⟨b2, i, none⟩ := fun n {i} => keep_cell (hfk n) (Nat.lt_of_lt_of_le hb2 kk.size)
        have p10 := fun n => (q1 n).trans p1.c0
        have p11 := fun n => (q1 n).trans p1.c1
        have p12 := fun n => (q1 n).trans p1.c2
        have p13 := fun n => (q1 n).trans p1.c3
        have p14 := fun n => (q1 n).trans p1.c4
        have p15 := fun n => (q1 n).trans p1.c5
        have p16 := fun n => (q1 n).trans p1.c6
        have p20 := fun n => (q2 n).trans p2.c0
        have p21 := fun n => (q2 n).trans p2.c1
        have p22 := fun n => (q2 n).trans p2.c2
        have p23 := fun n => (q2 n).trans p2.c3
        have p24 := fun n => (q2 n).trans p2.c4
        have p25 := fun n => (q2 n).trans p2.c5
        have p26 := fun n => (q2 n).trans p2.c6
        clear q1 q2 p1 p2
        simp only at p10 p11 p12 p13 p14 p15 p16 p20 p21 p22 p23 p24 p25 p26
        go_wp2_with fail
        refine wp_region_class f (by kernel_rfl) (by kernel_rfl) hf0 ?_
        repeat (go_big_quiet_step (fail))
        refine wpQuiet_nil ?_
        rintro _ ⟨nn, rfl⟩
        replace kk := kk.trans (hfk nn)
        clear p10 p11 p12 p13 p14 p15 p16 p20 p21 p22 p23 p24 p25 p26 hne
        cases q
        · go_wp2_with fail
          go_ret
          have e9 := hcase.out.2 (by first | rfl | trivial)
          subst e9
          exact ⟨rfl, kk⟩
        · go_wp2_with fail
          go_roundw
          case rel => exact ⟨k + 1, by omega, by go_num, kk, hcase.out.1 (by first | rfl | trivial)⟩
          case measure => simp [intOf]; omega
      · go_wp2_with fail
        go_ret
        have e9 : r = true := by rw [hr.out, panesB_at hl.out (fun i h1 h2 => hall i h1 h2 (by omega))]
        subst e9
        exact ⟨rfl, kk⟩
  · have hlb : ((a.length : Int) != (b.length : Int)) = true := by simp; omega
    have hlb2 : (a.length != b.length) = true := by simp [hl]
    rw [panesB_len hl] at hr
    subst hr
    clear hl
    go_enter Tryz.func66, Tryz.ntmps66
    go_wp2_with fail
    go_ret
    exact ⟨rfl, (by repeat' (first | assumption | with_reducible exact Keep.refl _ _ | with_reducible refine Keep.alloc ?_ _ | with_reducible refine Keep.drew ?_))⟩
end Go.Proofs.YtmioichjhiengaaGreat
