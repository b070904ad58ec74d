/-
  The contracts of package assign: which configs may be.
-/
import Derived.Test.YtpkfckcilpiabaaGreatData
import Derived.Test.YtpkfckcilpiabaaGreatHeap
import Derived.Outline
import Derived.Test.YtpkfckcilpiabaaGreatRegion
import Derived.Lib.Hide
namespace Go.Proofs.YtpkfckcilpiabaaGreat
open Go.RowKit

def Config.winB (c : Config) : Bool :=
  if c.kind = 0 then decide (0 < c.size) else if c.kind = 1 then decide (0 < c.slide) && decide (c.slide ≤ c.size) && decide ((c.size - 1) / c.slide < 16) else if c.kind = 2 then decide (0 < c.gap) else false
def inB (n m : Int) : Bool := decide (1 ≤ n) && decide (n ≤ m)
def Config.mayB (c : Config) : Bool := c.winB && decide (0 ≤ c.late) && inB c.shards 8 && inB c.groups 16 && inB c.cap 16

theorem assign_in (w : World) (n m : Int) : Calls Tryz.prog 22 #[.int .i64 n, .int .i64 m] w fun e w' => e = .returned (.bool (inB n m)) ∧ w = w' := by
  unfold inB
  by_cases h : 1 ≤ n
  · go_enter Tryz.func22, Tryz.ntmps22
    go_wp2
    go_ret
    exact ⟨by simp [h], rfl⟩
  · go_enter Tryz.func22, Tryz.ntmps22
    go_wp2
    go_ret
    have h : ¬ 1 ≤ n := by omega
    exact ⟨by simp [h], rfl⟩

theorem assign_windows (w : World) (c : Config) (hc : c.ok) : Calls Tryz.prog 21 #[.agg c.cells.toArray] w fun e w' => e = .returned (.bool c.winB) ∧ Keep none_ w w' := by
  obtain ⟨kind, size, slide, gap, late, shards, groups, cap⟩ := c
  simp only [Config.ok, I64] at hc
  obtain ⟨-, hs, hl, -⟩ := hc
  obtain ⟨hs1, hs2⟩ := hs
  obtain ⟨hl1, hl2⟩ := hl
  unfold Config.winB
  by_cases h0 : kind = 0
  · subst h0
    go_enter Tryz.func21, Tryz.ntmps21
    go_wp2
    go_ret
    exact ⟨by simp, (by repeat' (first | exact Keep.refl _ _ | refine Keep.set1 ?_ _ | refine Keep.alloc ?_ _ | refine Keep.drew ?_ | refine Keep.setNew ?_ (by simp) _))⟩
  · have hb0 : (kind == 0) = false := by simp [h0]
    by_cases h1 : kind = 1
    · subst h1
      by_cases h2 : 0 < slide
      · by_cases h3 : slide ≤ size
        · have h4 : 0 ≤ size - 1 := by omega
          have h5 : 1 ≤ slide := by omega
          have h6 : 0 ≤ (size - 1) / slide := Int.ediv_nonneg h4 (by omega)
          go_enter Tryz.func21, Tryz.ntmps21
          go_wp2
          go_ret
          exact ⟨by simp [h2, h3], (by repeat' (first | exact Keep.refl _ _ | refine Keep.set1 ?_ _ | refine Keep.alloc ?_ _ | refine Keep.drew ?_ | refine Keep.setNew ?_ (by simp) _))⟩
        · go_enter Tryz.func21, Tryz.ntmps21
          go_wp2
          go_ret
          have h3 : ¬ slide ≤ size := by omega
          exact ⟨by simp [h2, h3], (by repeat' (first | exact Keep.refl _ _ | refine Keep.set1 ?_ _ | refine Keep.alloc ?_ _ | refine Keep.drew ?_ | refine Keep.setNew ?_ (by simp) _))⟩
      · go_enter Tryz.func21, Tryz.ntmps21
        go_wp2
        go_ret
        have h2 : ¬ 0 < slide := by omega
        exact ⟨by simp [h2], (by repeat' (first | exact Keep.refl _ _ | refine Keep.set1 ?_ _ | refine Keep.alloc ?_ _ | refine Keep.drew ?_ | refine Keep.setNew ?_ (by simp) _))⟩
    · have hb1 : (kind == 1) = false := by simp [h1]
      by_cases h2 : kind = 2
      · subst h2
        go_enter Tryz.func21, Tryz.ntmps21
        go_wp2
        go_ret
        exact ⟨by simp, (by repeat' (first | exact Keep.refl _ _ | refine Keep.set1 ?_ _ | refine Keep.alloc ?_ _ | refine Keep.drew ?_ | refine Keep.setNew ?_ (by simp) _))⟩
      · have hb2 : (kind == 2) = false := by simp [h2]
        go_enter Tryz.func21, Tryz.ntmps21
        go_wp2
        go_ret
        exact ⟨by simp [h0, h1, h2], (by repeat' (first | exact Keep.refl _ _ | refine Keep.set1 ?_ _ | refine Keep.alloc ?_ _ | refine Keep.drew ?_ | refine Keep.setNew ?_ (by simp) _))⟩

theorem assign_may (w : World) (c : Config) (hc : c.ok) : Calls Tryz.prog 8 #[.agg c.cells.toArray] w fun e w' => e = .returned (.bool c.mayB) ∧ Keep none_ w w' := by
  have c1 := Lib.hid (fun w => assign_windows w c hc)
  have c2 := Lib.hid (fun w => assign_in w c.shards 8)
  have c3 := Lib.hid (fun w => assign_in w c.groups 16)
  have c4 := Lib.hid (fun w => assign_in w c.cap 16)
  have hx := At.new w c.cells.toArray 23
  have kk : Keep none_ w (w.alloc (.cells c.cells.toArray 23)) := (by repeat' (first | exact Keep.refl _ _ | refine Keep.set1 ?_ _ | refine Keep.alloc ?_ _ | refine Keep.drew ?_ | refine Keep.setNew ?_ (by simp) _))
  simp only [Config.cells] at hx kk
  unfold Config.mayB
  generalize inB c.shards 8 = b2 at *
  generalize inB c.groups 16 = b3 at *
  generalize inB c.cap 16 = b4 at *
  generalize c.winB = b1 at *
  go_enter Tryz.func8, Tryz.ntmps8
  go_wp2_with fail
  refine (c1.out _).mono ?_
  rintro e w1 ⟨rfl, k⟩
  replace hx := Keep.at k hx (fun e => e)
  replace kk := kk.trans k
  have cx := At.cell hx
  cases b1
  · go_wp2_with fail
    go_ret
    exact ⟨rfl, kk⟩
  · by_cases h : 0 ≤ c.late
    · cases b2
      · go_wp2_with fail
        refine (c2.out _).mono ?_
        rintro e w' ⟨rfl, rfl⟩
        go_wp2_with fail
        go_ret
        exact ⟨by simp, kk⟩
      · cases b3
        · go_wp2_with fail
          refine (c2.out _).mono ?_
          rintro e w' ⟨rfl, rfl⟩
          go_wp2_with fail
          refine (c3.out _).mono ?_
          rintro e w' ⟨rfl, rfl⟩
          go_wp2_with fail
          go_ret
          exact ⟨by simp, kk⟩
        · go_wp2_with fail
          refine (c2.out _).mono ?_
          rintro e w' ⟨rfl, rfl⟩
          go_wp2_with fail
          refine (c3.out _).mono ?_
          rintro e w' ⟨rfl, rfl⟩
          go_wp2_with fail
          refine (c4.out _).mono ?_
          rintro e w' ⟨rfl, rfl⟩
          go_wp2_with fail
          go_ret
          exact ⟨by simp [h], kk⟩
    · go_wp2_with fail
      go_ret
      have h : ¬ 0 ≤ c.late := by omega
      exact ⟨by simp [h], kk⟩

theorem ceil16 (a b : Int) (hb : 0 < b) (ha : b ≤ a) : (if 0 < a % b then a / b + 1 ≤ 16 else a / b ≤ 16) ↔ (a - 1) / b < 16 := by
  have e1 : (a - 1) / b < 16 ↔ a - 1 < 16 * b := Int.ediv_lt_iff_lt_mul hb
  have e2 := Int.emod_add_mul_ediv a b
  have e3 := Int.emod_nonneg a (show b ≠ 0 by omega)
  have e4 := Int.emod_lt_of_pos a hb
  rw [e1]
  generalize a / b = q at *
  generalize a % b = r at *
  split
  · constructor
    · intro h
      have : b * q ≤ b * 15 := Int.mul_le_mul_of_nonneg_left (by omega) (by omega)
      omega
    · intro h
      apply Classical.byContradiction
      intro h2
      have : b * 16 ≤ b * q := Int.mul_le_mul_of_nonneg_left (by omega) (by omega)
      omega
  · constructor
    · intro h
      have : b * q ≤ b * 16 := Int.mul_le_mul_of_nonneg_left (by omega) (by omega)
      omega
    · intro h
      apply Classical.byContradiction
      intro h2
      have : b * 17 ≤ b * q := Int.mul_le_mul_of_nonneg_left (by omega) (by omega)
      omega

def Config.limB (c : Config) : Bool := decide (0 ≤ c.late) && inB c.shards 8 && inB c.groups 16 && inB c.cap 16

end Go.Proofs.YtpkfckcilpiabaaGreat
