/-
  The contracts of package assign: which configs may be.
-/
import Derived.Test.YtlnlbegcnhelmaaData
import Derived.Test.YtlnlbegcnhelmaaHeap
import Derived.Outline
import Derived.Test.YtlnlbegcnhelmaaRegion
import Derived.Lib.Hide
namespace Go.Proofs.Ytlnlbegcnhelmaa
open Go.RowKit

def Config.winB (c : Config) : Bool :=
  if c.kind = 0 then decide (0 < c.size) else if c.kind = 1 then decide (0 < c.slide) && decide (c.slide ≤ c.size) && decide ((c.size - 1) / c.slide < 16) else if c.kind = 2 then decide (0 < c.gap) else false
def inB (n m : Int) : Bool := decide (1 ≤ n) && decide (n ≤ m)
def Config.mayB (c : Config) : Bool := c.winB && decide (0 ≤ c.late) && inB c.shards 8 && inB c.groups 16 && inB c.cap 16

theorem assign_in (w : World) (n m : Int) : Calls Try.prog 91 #[.int .i64 n, .int .i64 m] w fun e w' => e = .returned (.bool (inB n m)) ∧ w = w' := by
  unfold inB
  by_cases h : 1 ≤ n
  · go_enter Try.func91, Try.ntmps91
    go_wp2
    go_ret
    exact ⟨by simp [h], rfl⟩
  · go_enter Try.func91, Try.ntmps91
    go_wp2
    go_ret
    have h : ¬ 1 ≤ n := by omega
    exact ⟨by simp [h], rfl⟩

theorem assign_windows (w : World) (c : Config) (hc : c.ok) : Calls Try.prog 90 #[.agg c.cells.toArray] w fun e w' => e = .returned (.bool c.winB) ∧ Keep none_ w w' := by
  obtain ⟨kind, size, slide, gap, late, shards, groups, cap⟩ := c
  simp only [Config.ok, I64] at hc
  obtain ⟨-, hs, hl, -⟩ := hc
  obtain ⟨hs1, hs2⟩ := hs
  obtain ⟨hl1, hl2⟩ := hl
  unfold Config.winB
  by_cases h0 : kind = 0
  · subst h0
    go_enter Try.func90, Try.ntmps90
    go_wp2
    go_ret
    exact ⟨by simp, (by repeat' (first | exact Keep.refl _ _ | refine Keep.set1 ?_ _ | refine Keep.alloc ?_ _ | refine Keep.drew ?_ | refine Keep.setNew ?_ (by simp) _))⟩
  · have hb0 : (kind == 0) = false := by simp [h0]
    by_cases h1 : kind = 1
    · subst h1
      by_cases h2 : 0 < slide
      · by_cases h3 : slide ≤ size
        · have h4 : 0 ≤ size - 1 := by omega
          have h5 : 1 ≤ slide := by omega
          have h6 : 0 ≤ (size - 1) / slide := Int.ediv_nonneg h4 (by omega)
          go_enter Try.func90, Try.ntmps90
          go_wp2
          go_ret
          exact ⟨by simp [h2, h3], (by repeat' (first | exact Keep.refl _ _ | refine Keep.set1 ?_ _ | refine Keep.alloc ?_ _ | refine Keep.drew ?_ | refine Keep.setNew ?_ (by simp) _))⟩
        · go_enter Try.func90, Try.ntmps90
          go_wp2
          go_ret
          have h3 : ¬ slide ≤ size := by omega
          exact ⟨by simp [h2, h3], (by repeat' (first | exact Keep.refl _ _ | refine Keep.set1 ?_ _ | refine Keep.alloc ?_ _ | refine Keep.drew ?_ | refine Keep.setNew ?_ (by simp) _))⟩
      · go_enter Try.func90, Try.ntmps90
        go_wp2
        go_ret
        have h2 : ¬ 0 < slide := by omega
        exact ⟨by simp [h2], (by repeat' (first | exact Keep.refl _ _ | refine Keep.set1 ?_ _ | refine Keep.alloc ?_ _ | refine Keep.drew ?_ | refine Keep.setNew ?_ (by simp) _))⟩
    · have hb1 : (kind == 1) = false := by simp [h1]
      by_cases h2 : kind = 2
      · subst h2
        go_enter Try.func90, Try.ntmps90
        go_wp2
        go_ret
        exact ⟨by simp, (by repeat' (first | exact Keep.refl _ _ | refine Keep.set1 ?_ _ | refine Keep.alloc ?_ _ | refine Keep.drew ?_ | refine Keep.setNew ?_ (by simp) _))⟩
      · have hb2 : (kind == 2) = false := by simp [h2]
        go_enter Try.func90, Try.ntmps90
        go_wp2
        go_ret
        exact ⟨by simp [h0, h1, h2], (by repeat' (first | exact Keep.refl _ _ | refine Keep.set1 ?_ _ | refine Keep.alloc ?_ _ | refine Keep.drew ?_ | refine Keep.setNew ?_ (by simp) _))⟩

theorem assign_may (w : World) (c : Config) (hc : c.ok) : Calls Try.prog 69 #[.agg c.cells.toArray] w fun e w' => e = .returned (.bool c.mayB) ∧ Keep none_ w w' := by
  have c1 := Lib.hid (fun w => assign_windows w c hc)
  have c2 := Lib.hid (fun w => assign_in w c.shards 8)
  have c3 := Lib.hid (fun w => assign_in w c.groups 16)
  have c4 := Lib.hid (fun w => assign_in w c.cap 16)
  have hx := At.new w c.cells.toArray 63
  have kk : Keep none_ w (w.alloc (.cells c.cells.toArray 63)) := (by repeat' (first | exact Keep.refl _ _ | refine Keep.set1 ?_ _ | refine Keep.alloc ?_ _ | refine Keep.drew ?_ | refine Keep.setNew ?_ (by simp) _))
  simp only [Config.cells] at hx kk
  unfold Config.mayB
  generalize inB c.shards 8 = b2 at *
  generalize inB c.groups 16 = b3 at *
  generalize inB c.cap 16 = b4 at *
  generalize c.winB = b1 at *
  go_enter Try.func69, Try.ntmps69
  go_wp2_with fail
  refine (c1.out _).mono ?_
  rintro e w1 ⟨rfl, k⟩
  replace hx := Keep.at k hx (fun e => e)
  replace kk := kk.trans k
  have cx := At.cell hx
  cases b1
  · go_wp2_with fail
    go_ret
    exact ⟨rfl, kk⟩
  · by_cases h : 0 ≤ c.late
    · cases b2
      · go_wp2_with fail
        refine (c2.out _).mono ?_
        rintro e w' ⟨rfl, rfl⟩
        go_wp2_with fail
        go_ret
        exact ⟨by simp, kk⟩
      · cases b3
        · go_wp2_with fail
          refine (c2.out _).mono ?_
          rintro e w' ⟨rfl, rfl⟩
          go_wp2_with fail
          refine (c3.out _).mono ?_
          rintro e w' ⟨rfl, rfl⟩
          go_wp2_with fail
          go_ret
          exact ⟨by simp, kk⟩
        · go_wp2_with fail
          refine (c2.out _).mono ?_
          rintro e w' ⟨rfl, rfl⟩
          go_wp2_with fail
          refine (c3.out _).mono ?_
          rintro e w' ⟨rfl, rfl⟩
          go_wp2_with fail
          refine (c4.out _).mono ?_
          rintro e w' ⟨rfl, rfl⟩
          go_wp2_with fail
          go_ret
          exact ⟨by simp [h], kk⟩
    · go_wp2_with fail
      go_ret
      have h : ¬ 0 ≤ c.late := by omega
      exact ⟨by simp [h], kk⟩

theorem ceil16 (a b : Int) (hb : 0 < b) (ha : b ≤ a) : (if 0 < a % b then a / b + 1 ≤ 16 else a / b ≤ 16) ↔ (a - 1) / b < 16 := by
  have e1 : (a - 1) / b < 16 ↔ a - 1 < 16 * b := Int.ediv_lt_iff_lt_mul hb
  have e2 := Int.emod_add_mul_ediv a b
  have e3 := Int.emod_nonneg a (show b ≠ 0 by omega)
  have e4 := Int.emod_lt_of_pos a hb
  rw [e1]
  generalize a / b = q at *
  generalize a % b = r at *
  split
  · constructor
    · intro h
      have : b * q ≤ b * 15 := Int.mul_le_mul_of_nonneg_left (by omega) (by omega)
      omega
    · intro h
      apply Classical.byContradiction
      intro h2
      have : b * 16 ≤ b * q := Int.mul_le_mul_of_nonneg_left (by omega) (by omega)
      omega
  · constructor
    · intro h
      have : b * q ≤ b * 16 := Int.mul_le_mul_of_nonneg_left (by omega) (by omega)
      omega
    · intro h
      apply Classical.byContradiction
      intro h2
      have : b * 17 ≤ b * q := Int.mul_le_mul_of_nonneg_left (by omega) (by omega)
      omega

def Config.limB (c : Config) : Bool := decide (0 ≤ c.late) && inB c.shards 8 && inB c.groups 16 && inB c.cap 16

set_option maxHeartbeats 2000000 in
theorem ref_may (w : World) (c : Config) (hc : c.ok) : Calls Try.prog 38 #[.agg c.cells.toArray] w fun e w' => e = .returned (.bool c.mayB) ∧ Keep none_ w w' := by
  obtain ⟨kind, size, slide, gap, late, shards, groups, cap⟩ := c
  simp only [Config.ok, I64] at hc
  obtain ⟨-, hs, hl, -⟩ := hc
  obtain ⟨hs1, hs2⟩ := hs
  obtain ⟨hl1, hl2⟩ := hl
  have em : Config.mayB ⟨kind, size, slide, gap, late, shards, groups, cap⟩ = (Config.limB ⟨kind, size, slide, gap, late, shards, groups, cap⟩ && Config.winB ⟨kind, size, slide, gap, late, shards, groups, cap⟩) := by
    simp only [Config.mayB, Config.limB]
    generalize Config.winB _ = x
    cases x <;> simp
  rw [em]
  have no : Config.limB ⟨kind, size, slide, gap, late, shards, groups, cap⟩ = false → (Config.limB ⟨kind, size, slide, gap, late, shards, groups, cap⟩ && Config.winB ⟨kind, size, slide, gap, late, shards, groups, cap⟩) = false := fun h => by rw [h]; rfl
  by_cases h1 : late < 0
  · rw [no (by simp [Config.limB, h1]; omega)]
    clear em no
    go_enter Try.func38, Try.ntmps38
    go_wp2
    go_ret
    exact ⟨rfl, (by repeat' (first | exact Keep.refl _ _ | refine Keep.set1 ?_ _ | refine Keep.alloc ?_ _ | refine Keep.drew ?_ | refine Keep.setNew ?_ (by simp) _))⟩
  by_cases h2 : shards < 1
  · rw [no (by simp [Config.limB, inB]; omega)]
    clear em no
    go_enter Try.func38, Try.ntmps38
    go_wp2
    go_ret
    exact ⟨rfl, (by repeat' (first | exact Keep.refl _ _ | refine Keep.set1 ?_ _ | refine Keep.alloc ?_ _ | refine Keep.drew ?_ | refine Keep.setNew ?_ (by simp) _))⟩
  by_cases h3 : 8 < shards
  · rw [no (by simp [Config.limB, inB]; omega)]
    clear em no
    go_enter Try.func38, Try.ntmps38
    go_wp2
    go_ret
    exact ⟨rfl, (by repeat' (first | exact Keep.refl _ _ | refine Keep.set1 ?_ _ | refine Keep.alloc ?_ _ | refine Keep.drew ?_ | refine Keep.setNew ?_ (by simp) _))⟩
  by_cases h4 : groups < 1
  · rw [no (by simp [Config.limB, inB]; omega)]
    clear em no
    go_enter Try.func38, Try.ntmps38
    go_wp2
    go_ret
    exact ⟨rfl, (by repeat' (first | exact Keep.refl _ _ | refine Keep.set1 ?_ _ | refine Keep.alloc ?_ _ | refine Keep.drew ?_ | refine Keep.setNew ?_ (by simp) _))⟩
  by_cases h5 : 16 < groups
  · rw [no (by simp [Config.limB, inB]; omega)]
    clear em no
    go_enter Try.func38, Try.ntmps38
    go_wp2
    go_ret
    exact ⟨rfl, (by repeat' (first | exact Keep.refl _ _ | refine Keep.set1 ?_ _ | refine Keep.alloc ?_ _ | refine Keep.drew ?_ | refine Keep.setNew ?_ (by simp) _))⟩
  by_cases h6 : cap < 1
  · rw [no (by simp [Config.limB, inB]; omega)]
    clear em no
    go_enter Try.func38, Try.ntmps38
    go_wp2
    go_ret
    exact ⟨rfl, (by repeat' (first | exact Keep.refl _ _ | refine Keep.set1 ?_ _ | refine Keep.alloc ?_ _ | refine Keep.drew ?_ | refine Keep.setNew ?_ (by simp) _))⟩
  by_cases h7 : 16 < cap
  · rw [no (by simp [Config.limB, inB]; omega)]
    clear em no
    go_enter Try.func38, Try.ntmps38
    go_wp2
    go_ret
    exact ⟨rfl, (by repeat' (first | exact Keep.refl _ _ | refine Keep.set1 ?_ _ | refine Keep.alloc ?_ _ | refine Keep.drew ?_ | refine Keep.setNew ?_ (by simp) _))⟩
  have hl : Config.limB ⟨kind, size, slide, gap, late, shards, groups, cap⟩ = true := by simp [Config.limB, inB]; omega
  rw [hl, Bool.true_and]
  clear em no hl
  unfold Config.winB
  by_cases k0 : kind = 0
  · subst k0
    go_enter Try.func38, Try.ntmps38
    go_wp2
    go_ret
    exact ⟨by simp, (by repeat' (first | exact Keep.refl _ _ | refine Keep.set1 ?_ _ | refine Keep.alloc ?_ _ | refine Keep.drew ?_ | refine Keep.setNew ?_ (by simp) _))⟩
  have hb0 : (kind == 0) = false := by simp [k0]
  by_cases k1 : kind = 1
  · subst k1
    by_cases h8 : slide < 1
    · go_enter Try.func38, Try.ntmps38
      go_wp2
      go_ret
      exact ⟨by simp; omega, (by repeat' (first | exact Keep.refl _ _ | refine Keep.set1 ?_ _ | refine Keep.alloc ?_ _ | refine Keep.drew ?_ | refine Keep.setNew ?_ (by simp) _))⟩
    by_cases h9 : size < slide
    · go_enter Try.func38, Try.ntmps38
      go_wp2
      go_ret
      exact ⟨by simp; omega, (by repeat' (first | exact Keep.refl _ _ | refine Keep.set1 ?_ _ | refine Keep.alloc ?_ _ | refine Keep.drew ?_ | refine Keep.setNew ?_ (by simp) _))⟩
    have h10 : 0 ≤ size := by omega
    have hq : 0 ≤ size / slide := Int.ediv_nonneg h10 (by omega)
    have hq2 : size / slide ≤ size := Int.ediv_le_self _ h10
    have hcc := ceil16 size slide (by omega) (by omega)
    have h11 : 0 < slide := by omega
    have h12 : slide ≤ size := by omega
    have ew : (if (1 : Int) = 0 then decide (0 < size) else if (1 : Int) = 1 then decide (0 < slide) && decide (slide ≤ size) && decide ((size - 1) / slide < 16) else if (1 : Int) = 2 then decide (0 < gap) else false) = decide ((size - 1) / slide < 16) := by
      rw [if_neg (by omega), if_pos rfl]; simp [h11, h12]
    rw [ew]
    clear ew
    by_cases h13 : 0 < size % slide
    · rw [if_pos h13] at hcc
      have hwr : wrap64 (size / slide + 1) = size / slide + 1 := by
        have : size % slide < slide := Int.emod_lt_of_pos _ h11
        have h5 := Int.emod_add_mul_ediv size slide
        by_cases h6 : slide = 1
        · subst h6; omega
        · have h7 : 2 * (size / slide) ≤ slide * (size / slide) := Int.mul_le_mul_of_nonneg_right (by omega) hq
          exact (by unfold wrap64; omega)
      have e5 : decide ((size - 1) / slide < 16) = decide (size / slide + 1 ≤ 16) := by simp only [hcc]
      rw [e5]
      clear hcc e5
      go_enter Try.func38, Try.ntmps38
      go_wp2
      go_ret
      exact ⟨rfl, (by repeat' (first | exact Keep.refl _ _ | refine Keep.set1 ?_ _ | refine Keep.alloc ?_ _ | refine Keep.drew ?_ | refine Keep.setNew ?_ (by simp) _))⟩
    · rw [if_neg h13] at hcc
      have e5 : decide ((size - 1) / slide < 16) = decide (size / slide ≤ 16) := by simp only [hcc]
      rw [e5]
      clear hcc e5
      go_enter Try.func38, Try.ntmps38
      go_wp2
      go_ret
      exact ⟨rfl, (by repeat' (first | exact Keep.refl _ _ | refine Keep.set1 ?_ _ | refine Keep.alloc ?_ _ | refine Keep.drew ?_ | refine Keep.setNew ?_ (by simp) _))⟩
  have hb1 : (kind == 1) = false := by simp [k1]
  by_cases k2 : kind = 2
  · subst k2
    go_enter Try.func38, Try.ntmps38
    go_wp2
    go_ret
    exact ⟨by simp, (by repeat' (first | exact Keep.refl _ _ | refine Keep.set1 ?_ _ | refine Keep.alloc ?_ _ | refine Keep.drew ?_ | refine Keep.setNew ?_ (by simp) _))⟩
  · have hb2 : (kind == 2) = false := by simp [k2]
    go_enter Try.func38, Try.ntmps38
    go_wp2
    go_ret
    exact ⟨by simp [k0, k1, k2], (by repeat' (first | exact Keep.refl _ _ | refine Keep.set1 ?_ _ | refine Keep.alloc ?_ _ | refine Keep.drew ?_ | refine Keep.setNew ?_ (by simp) _))⟩
end Go.Proofs.Ytlnlbegcnhelmaa
