/-
  Texts of one kind, one behind the other.
-/
import Derived.Test.YtmioichjhiengaaGreatNum
import Derived.Test.YtmioichjhiengaaGreatBaseA
import Derived.Outline
import Derived.Lib.Hide
import Derived.Shelf.SlicesQ.Reverse
import Derived.Shelf.SlGeneric
set_option linter.unusedSimpArgs false
set_option linter.unusedVariables false
/-
  The contracts of the reference's sums, quotients and multiples.
-/
namespace Go.Proofs.YtmioichjhiengaaGreat
open Go.RowKit

theorem ref_add (w : World) (a b : Int) (ha : I64 a) (hb : I64 b) : Calls Tryz.prog 123 #[.int .i64 a, .int .i64 b] w fun e w' =>
    e = .returned (.tuple #[.int .i64 (fitN (a + b)), .bool (fitB (a + b))]) ∧ Keep none_ w w' := by
  have ha0 : -73786976294838206464 ≤ a ∧ a ≤ 73786976294838206464 := by unfold I64 at ha; omega
  have hb0 : -73786976294838206464 ≤ b ∧ b ≤ 73786976294838206464 := by unfold I64 at hb; omega
  have hab : -73786976294838206464 ≤ a + b ∧ a + b ≤ 73786976294838206464 := by unfold I64 at ha hb; omega
  have c4 := fun w => ref_fits w (a + b) hab
  have c4 := Lib.hid c4
  have c1 := Lib.hid (fun w => ref_wide w a ha)
  have c2 := Lib.hid (fun w => ref_wide w b hb)
  have c3 := Lib.hid (fun w => ref_plus w a b ha0 hb0)
  clear ha hb ha0 hb0 hab
  have kk : Keep none_ w w := Keep.refl _ _
  go_enter Tryz.func123, Tryz.ntmps123
  go_wp2_with (first
    | (go_at_call 79; (with_reducible refine (c1.out _).mono ?_); rintro e w' ⟨rfl, k⟩; replace kk := Keep.trans kk k)
    | (go_at_call 79; (with_reducible refine (c2.out _).mono ?_); rintro e w' ⟨rfl, k⟩; replace kk := Keep.trans kk k)
    | (go_at_call 78; (with_reducible refine (c3.out _).mono ?_); rintro e w' ⟨rfl, k⟩; replace kk := Keep.trans kk k)
    | (go_at_call 124; (with_reducible refine (c4.out _).mono ?_); rintro e w' ⟨rfl, k⟩; replace kk := Keep.trans kk k))
  go_ret2
  exact ⟨rfl, kk⟩
theorem ref_sub (w : World) (a b : Int) (ha : I64 a) (hb : I64 b) : Calls Tryz.prog 90 #[.int .i64 a, .int .i64 b] w fun e w' =>
    e = .returned (.tuple #[.int .i64 (fitN (a - b)), .bool (fitB (a - b))]) ∧ Keep none_ w w' := by
  have ha0 : -73786976294838206464 ≤ a ∧ a ≤ 73786976294838206464 := by unfold I64 at ha; omega
  have hb0 : -73786976294838206464 ≤ b ∧ b ≤ 73786976294838206464 := by unfold I64 at hb; omega
  have hab : -73786976294838206464 ≤ a - b ∧ a - b ≤ 73786976294838206464 := by unfold I64 at ha hb; omega
  have c4 := fun w => ref_fits w (a - b) hab
  have c4 := Lib.hid c4
  have c1 := Lib.hid (fun w => ref_wide w a ha)
  have c2 := Lib.hid (fun w => ref_wide w b hb)
  have c3 := Lib.hid (fun w => ref_minus w a b ha0 hb0)
  clear ha hb ha0 hb0 hab
  have kk : Keep none_ w w := Keep.refl _ _
  go_enter Tryz.func90, Tryz.ntmps90
  go_wp2_with (first
    | (go_at_call 79; (with_reducible refine (c1.out _).mono ?_); rintro e w' ⟨rfl, k⟩; replace kk := Keep.trans kk k)
    | (go_at_call 79; (with_reducible refine (c2.out _).mono ?_); rintro e w' ⟨rfl, k⟩; replace kk := Keep.trans kk k)
    | (go_at_call 125; (with_reducible refine (c3.out _).mono ?_); rintro e w' ⟨rfl, k⟩; replace kk := Keep.trans kk k)
    | (go_at_call 124; (with_reducible refine (c4.out _).mono ?_); rintro e w' ⟨rfl, k⟩; replace kk := Keep.trans kk k))
  go_ret2
  exact ⟨rfl, kk⟩

theorem ref_down (w : World) (a b : Int) (ha : I64 a) (hb : I64 b) (h : 1 ≤ b) : Calls Tryz.prog 89 #[.int .i64 a, .int .i64 b] w fun e w' =>
    e = .returned (.tuple #[.int .i64 (fitN (a - a % b)), .bool (fitB (a - a % b))]) ∧ Keep none_ w w' := by
  have hm : 0 ≤ a % b := Int.emod_nonneg _ (by omega)
  have hm2 : a % b < b := Int.emod_lt_of_pos _ (by omega)
  have hb' := hb
  unfold I64 at hb'
  obtain ⟨hb1, hb2⟩ := hb'
  have c1 := fun w => ref_sub w a (a % b) ha (by unfold I64; omega)
  have c1 := Lib.hid c1
  unfold I64 at ha hb
  obtain ⟨ha1, ha2⟩ := ha
  have kk : Keep none_ w w := Keep.refl _ _
  by_cases h0 : 0 ≤ a
  · go_enter Tryz.func89, Tryz.ntmps89
    go_wp2_with (go_at_call 90; (with_reducible refine (c1.out _).mono ?_); rintro e w' ⟨rfl, k⟩; replace kk := Keep.trans kk k)
    go_ret2
    exact ⟨rfl, kk⟩
  · rcases tfloor a b (by omega) h with ⟨h1, h2, h3⟩ | ⟨h1, h2, h3⟩
    · have h4 : a.tmod b + b ≤ 9223372036854775807 := by omega
      have h5 : -9223372036854775808 ≤ a.tmod b + b := by omega
      have H3 := Lib.hid h3
      clear h2 h3
      go_enter Tryz.func89, Tryz.ntmps89
      go_wp2_with fail
      rw [← H3.out]
      refine (c1.out _).mono ?_
      rintro e w' ⟨rfl, k⟩
      go_wp2_with fail
      go_ret2
      exact ⟨rfl, k⟩
    · have h4 : 0 ≤ a.tmod b := by omega
      have H3 := Lib.hid (h1.trans h3.symm)
      clear h1 h2 h3
      go_enter Tryz.func89, Tryz.ntmps89
      go_wp2_with fail
      rw [H3.out]
      refine (c1.out _).mono ?_
      rintro e w' ⟨rfl, k⟩
      go_wp2_with fail
      go_ret2
      exact ⟨rfl, k⟩
end Go.Proofs.YtmioichjhiengaaGreat

/-
  The contracts of package assign: which configs may be.
-/
namespace Go.Proofs.YtmioichjhiengaaGreat
open Go.RowKit

def Config.winB (c : Config) : Bool :=
  if c.kind = 0 then decide (0 < c.size) else if c.kind = 1 then decide (0 < c.slide) && decide (c.slide ≤ c.size) && decide ((c.size - 1) / c.slide < 16) else if c.kind = 2 then decide (0 < c.gap) else false
def inB (n m : Int) : Bool := decide (1 ≤ n) && decide (n ≤ m)
def Config.mayB (c : Config) : Bool := c.winB && decide (0 ≤ c.late) && inB c.shards 8 && inB c.groups 16 && inB c.cap 16

theorem assign_in (w : World) (n m : Int) : Calls Tryz.prog 72 #[.int .i64 n, .int .i64 m] w fun e w' => e = .returned (.bool (inB n m)) ∧ w = w' := by
  unfold inB
  by_cases h : 1 ≤ n
  · go_enter Tryz.func72, Tryz.ntmps72
    go_wp2
    go_ret
    exact ⟨by simp [h], rfl⟩
  · go_enter Tryz.func72, Tryz.ntmps72
    go_wp2
    go_ret
    have h : ¬ 1 ≤ n := by omega
    exact ⟨by simp [h], rfl⟩

theorem assign_windows (w : World) (c : Config) (hc : c.ok) : Calls Tryz.prog 71 #[.agg c.cells.toArray] w fun e w' => e = .returned (.bool c.winB) ∧ Keep none_ w w' := by
  obtain ⟨kind, size, slide, gap, late, shards, groups, cap⟩ := c
  simp only [Config.ok, I64] at hc
  obtain ⟨-, hs, hl, -⟩ := hc
  obtain ⟨hs1, hs2⟩ := hs
  obtain ⟨hl1, hl2⟩ := hl
  unfold Config.winB
  by_cases h0 : kind = 0
  · subst h0
    go_enter Tryz.func71, Tryz.ntmps71
    go_wp2
    go_ret
    exact ⟨by simp, (by repeat' (first | exact Keep.refl _ _ | refine Keep.set1 ?_ _ | refine Keep.alloc ?_ _ | refine Keep.drew ?_ | refine Keep.setNew ?_ (by simp) _))⟩
  · have hb0 : (kind == 0) = false := by simp [h0]
    by_cases h1 : kind = 1
    · subst h1
      by_cases h2 : 0 < slide
      · by_cases h3 : slide ≤ size
        · have h4 : 0 ≤ size - 1 := by omega
          have h5 : 1 ≤ slide := by omega
          have h6 : 0 ≤ (size - 1) / slide := Int.ediv_nonneg h4 (by omega)
          go_enter Tryz.func71, Tryz.ntmps71
          go_wp2
          go_ret
          exact ⟨by simp [h2, h3], (by repeat' (first | exact Keep.refl _ _ | refine Keep.set1 ?_ _ | refine Keep.alloc ?_ _ | refine Keep.drew ?_ | refine Keep.setNew ?_ (by simp) _))⟩
        · go_enter Tryz.func71, Tryz.ntmps71
          go_wp2
          go_ret
          have h3 : ¬ slide ≤ size := by omega
          exact ⟨by simp [h2, h3], (by repeat' (first | exact Keep.refl _ _ | refine Keep.set1 ?_ _ | refine Keep.alloc ?_ _ | refine Keep.drew ?_ | refine Keep.setNew ?_ (by simp) _))⟩
      · go_enter Tryz.func71, Tryz.ntmps71
        go_wp2
        go_ret
        have h2 : ¬ 0 < slide := by omega
        exact ⟨by simp [h2], (by repeat' (first | exact Keep.refl _ _ | refine Keep.set1 ?_ _ | refine Keep.alloc ?_ _ | refine Keep.drew ?_ | refine Keep.setNew ?_ (by simp) _))⟩
    · have hb1 : (kind == 1) = false := by simp [h1]
      by_cases h2 : kind = 2
      · subst h2
        go_enter Tryz.func71, Tryz.ntmps71
        go_wp2
        go_ret
        exact ⟨by simp, (by repeat' (first | exact Keep.refl _ _ | refine Keep.set1 ?_ _ | refine Keep.alloc ?_ _ | refine Keep.drew ?_ | refine Keep.setNew ?_ (by simp) _))⟩
      · have hb2 : (kind == 2) = false := by simp [h2]
        go_enter Tryz.func71, Tryz.ntmps71
        go_wp2
        go_ret
        exact ⟨by simp [h0, h1, h2], (by repeat' (first | exact Keep.refl _ _ | refine Keep.set1 ?_ _ | refine Keep.alloc ?_ _ | refine Keep.drew ?_ | refine Keep.setNew ?_ (by simp) _))⟩

theorem assign_may (w : World) (c : Config) (hc : c.ok) : Calls Tryz.prog 42 #[.agg c.cells.toArray] w fun e w' => e = .returned (.bool c.mayB) ∧ Keep none_ w w' := by
  have c1 := Lib.hid (fun w => assign_windows w c hc)
  have c2 := Lib.hid (fun w => assign_in w c.shards 8)
  have c3 := Lib.hid (fun w => assign_in w c.groups 16)
  have c4 := Lib.hid (fun w => assign_in w c.cap 16)
  have hx := At.new w c.cells.toArray 23
  have kk : Keep none_ w (w.alloc (.cells c.cells.toArray 23)) := (by repeat' (first | exact Keep.refl _ _ | refine Keep.set1 ?_ _ | refine Keep.alloc ?_ _ | refine Keep.drew ?_ | refine Keep.setNew ?_ (by simp) _))
  simp only [Config.cells] at hx kk
  unfold Config.mayB
  generalize inB c.shards 8 = b2 at *
  generalize inB c.groups 16 = b3 at *
  generalize inB c.cap 16 = b4 at *
  generalize c.winB = b1 at *
  go_enter Tryz.func42, Tryz.ntmps42
  go_wp2_with fail
  refine (c1.out _).mono ?_
  rintro e w1 ⟨rfl, k⟩
  replace hx := Keep.at k hx (fun e => e)
  replace kk := kk.trans k
  have cx := At.cell hx
  cases b1
  · go_wp2_with fail
    go_ret
    exact ⟨rfl, kk⟩
  · by_cases h : 0 ≤ c.late
    · cases b2
      · go_wp2_with fail
        refine (c2.out _).mono ?_
        rintro e w' ⟨rfl, rfl⟩
        go_wp2_with fail
        go_ret
        exact ⟨by simp, kk⟩
      · cases b3
        · go_wp2_with fail
          refine (c2.out _).mono ?_
          rintro e w' ⟨rfl, rfl⟩
          go_wp2_with fail
          refine (c3.out _).mono ?_
          rintro e w' ⟨rfl, rfl⟩
          go_wp2_with fail
          go_ret
          exact ⟨by simp, kk⟩
        · go_wp2_with fail
          refine (c2.out _).mono ?_
          rintro e w' ⟨rfl, rfl⟩
          go_wp2_with fail
          refine (c3.out _).mono ?_
          rintro e w' ⟨rfl, rfl⟩
          go_wp2_with fail
          refine (c4.out _).mono ?_
          rintro e w' ⟨rfl, rfl⟩
          go_wp2_with fail
          go_ret
          exact ⟨by simp [h], kk⟩
    · go_wp2_with fail
      go_ret
      have h : ¬ 0 ≤ c.late := by omega
      exact ⟨by simp [h], kk⟩

theorem ceil16 (a b : Int) (hb : 0 < b) (ha : b ≤ a) : (if 0 < a % b then a / b + 1 ≤ 16 else a / b ≤ 16) ↔ (a - 1) / b < 16 := by
  have e1 : (a - 1) / b < 16 ↔ a - 1 < 16 * b := Int.ediv_lt_iff_lt_mul hb
  have e2 := Int.emod_add_mul_ediv a b
  have e3 := Int.emod_nonneg a (show b ≠ 0 by omega)
  have e4 := Int.emod_lt_of_pos a hb
  rw [e1]
  generalize a / b = q at *
  generalize a % b = r at *
  split
  · constructor
    · intro h
      have : b * q ≤ b * 15 := Int.mul_le_mul_of_nonneg_left (by omega) (by omega)
      omega
    · intro h
      apply Classical.byContradiction
      intro h2
      have : b * 16 ≤ b * q := Int.mul_le_mul_of_nonneg_left (by omega) (by omega)
      omega
  · constructor
    · intro h
      have : b * q ≤ b * 16 := Int.mul_le_mul_of_nonneg_left (by omega) (by omega)
      omega
    · intro h
      apply Classical.byContradiction
      intro h2
      have : b * 17 ≤ b * q := Int.mul_le_mul_of_nonneg_left (by omega) (by omega)
      omega

def Config.limB (c : Config) : Bool := decide (0 ≤ c.late) && inB c.shards 8 && inB c.groups 16 && inB c.cap 16

set_option maxHeartbeats 2000000 in
theorem ref_may (w : World) (c : Config) (hc : c.ok) : Calls Tryz.prog 10 #[.agg c.cells.toArray] w fun e w' => e = .returned (.bool c.mayB) ∧ Keep none_ w w' := by
  obtain ⟨kind, size, slide, gap, late, shards, groups, cap⟩ := c
  simp only [Config.ok, I64] at hc
  obtain ⟨-, hs, hl, -⟩ := hc
  obtain ⟨hs1, hs2⟩ := hs
  obtain ⟨hl1, hl2⟩ := hl
  have em : Config.mayB ⟨kind, size, slide, gap, late, shards, groups, cap⟩ = (Config.limB ⟨kind, size, slide, gap, late, shards, groups, cap⟩ && Config.winB ⟨kind, size, slide, gap, late, shards, groups, cap⟩) := by
    simp only [Config.mayB, Config.limB]
    generalize Config.winB _ = x
    cases x <;> simp
  rw [em]
  have no : Config.limB ⟨kind, size, slide, gap, late, shards, groups, cap⟩ = false → (Config.limB ⟨kind, size, slide, gap, late, shards, groups, cap⟩ && Config.winB ⟨kind, size, slide, gap, late, shards, groups, cap⟩) = false := fun h => by rw [h]; rfl
  by_cases h1 : late < 0
  · rw [no (by simp [Config.limB, h1]; omega)]
    clear em no
    go_enter Tryz.func10, Tryz.ntmps10
    go_wp2
    go_ret
    exact ⟨rfl, (by repeat' (first | exact Keep.refl _ _ | refine Keep.set1 ?_ _ | refine Keep.alloc ?_ _ | refine Keep.drew ?_ | refine Keep.setNew ?_ (by simp) _))⟩
  by_cases h2 : shards < 1
  · rw [no (by simp [Config.limB, inB]; omega)]
    clear em no
    go_enter Tryz.func10, Tryz.ntmps10
    go_wp2
    go_ret
    exact ⟨rfl, (by repeat' (first | exact Keep.refl _ _ | refine Keep.set1 ?_ _ | refine Keep.alloc ?_ _ | refine Keep.drew ?_ | refine Keep.setNew ?_ (by simp) _))⟩
  by_cases h3 : 8 < shards
  · rw [no (by simp [Config.limB, inB]; omega)]
    clear em no
    go_enter Tryz.func10, Tryz.ntmps10
    go_wp2
    go_ret
    exact ⟨rfl, (by repeat' (first | exact Keep.refl _ _ | refine Keep.set1 ?_ _ | refine Keep.alloc ?_ _ | refine Keep.drew ?_ | refine Keep.setNew ?_ (by simp) _))⟩
  by_cases h4 : groups < 1
  · rw [no (by simp [Config.limB, inB]; omega)]
    clear em no
    go_enter Tryz.func10, Tryz.ntmps10
    go_wp2
    go_ret
    exact ⟨rfl, (by repeat' (first | exact Keep.refl _ _ | refine Keep.set1 ?_ _ | refine Keep.alloc ?_ _ | refine Keep.drew ?_ | refine Keep.setNew ?_ (by simp) _))⟩
  by_cases h5 : 16 < groups
  · rw [no (by simp [Config.limB, inB]; omega)]
    clear em no
    go_enter Tryz.func10, Tryz.ntmps10
    go_wp2
    go_ret
    exact ⟨rfl, (by repeat' (first | exact Keep.refl _ _ | refine Keep.set1 ?_ _ | refine Keep.alloc ?_ _ | refine Keep.drew ?_ | refine Keep.setNew ?_ (by simp) _))⟩
  by_cases h6 : cap < 1
  · rw [no (by simp [Config.limB, inB]; omega)]
    clear em no
    go_enter Tryz.func10, Tryz.ntmps10
    go_wp2
    go_ret
    exact ⟨rfl, (by repeat' (first | exact Keep.refl _ _ | refine Keep.set1 ?_ _ | refine Keep.alloc ?_ _ | refine Keep.drew ?_ | refine Keep.setNew ?_ (by simp) _))⟩
  by_cases h7 : 16 < cap
  · rw [no (by simp [Config.limB, inB]; omega)]
    clear em no
    go_enter Tryz.func10, Tryz.ntmps10
    go_wp2
    go_ret
    exact ⟨rfl, (by repeat' (first | exact Keep.refl _ _ | refine Keep.set1 ?_ _ | refine Keep.alloc ?_ _ | refine Keep.drew ?_ | refine Keep.setNew ?_ (by simp) _))⟩
  have hl : Config.limB ⟨kind, size, slide, gap, late, shards, groups, cap⟩ = true := by simp [Config.limB, inB]; omega
  rw [hl, Bool.true_and]
  clear em no hl
  unfold Config.winB
  by_cases k0 : kind = 0
  · subst k0
    go_enter Tryz.func10, Tryz.ntmps10
    go_wp2
    go_ret
    exact ⟨by simp, (by repeat' (first | exact Keep.refl _ _ | refine Keep.set1 ?_ _ | refine Keep.alloc ?_ _ | refine Keep.drew ?_ | refine Keep.setNew ?_ (by simp) _))⟩
  have hb0 : (kind == 0) = false := by simp [k0]
  by_cases k1 : kind = 1
  · subst k1
    by_cases h8 : slide < 1
    · go_enter Tryz.func10, Tryz.ntmps10
      go_wp2
      go_ret
      exact ⟨by simp; omega, (by repeat' (first | exact Keep.refl _ _ | refine Keep.set1 ?_ _ | refine Keep.alloc ?_ _ | refine Keep.drew ?_ | refine Keep.setNew ?_ (by simp) _))⟩
    by_cases h9 : size < slide
    · go_enter Tryz.func10, Tryz.ntmps10
      go_wp2
      go_ret
      exact ⟨by simp; omega, (by repeat' (first | exact Keep.refl _ _ | refine Keep.set1 ?_ _ | refine Keep.alloc ?_ _ | refine Keep.drew ?_ | refine Keep.setNew ?_ (by simp) _))⟩
    have h10 : 0 ≤ size := by omega
    have hq : 0 ≤ size / slide := Int.ediv_nonneg h10 (by omega)
    have hq2 : size / slide ≤ size := Int.ediv_le_self _ h10
    have hcc := ceil16 size slide (by omega) (by omega)
    have h11 : 0 < slide := by omega
    have h12 : slide ≤ size := by omega
    have ew : (if (1 : Int) = 0 then decide (0 < size) else if (1 : Int) = 1 then decide (0 < slide) && decide (slide ≤ size) && decide ((size - 1) / slide < 16) else if (1 : Int) = 2 then decide (0 < gap) else false) = decide ((size - 1) / slide < 16) := by
      rw [if_neg (by omega), if_pos rfl]; simp [h11, h12]
    rw [ew]
    clear ew
    by_cases h13 : 0 < size % slide
    · rw [if_pos h13] at hcc
      have hwr : wrap64 (size / slide + 1) = size / slide + 1 := by
        have : size % slide < slide := Int.emod_lt_of_pos _ h11
        have h5 := Int.emod_add_mul_ediv size slide
        by_cases h6 : slide = 1
        · subst h6; omega
        · have h7 : 2 * (size / slide) ≤ slide * (size / slide) := Int.mul_le_mul_of_nonneg_right (by omega) hq
          exact (by unfold wrap64; omega)
      have e5 : decide ((size - 1) / slide < 16) = decide (size / slide + 1 ≤ 16) := by simp only [hcc]
      rw [e5]
      clear hcc e5
      go_enter Tryz.func10, Tryz.ntmps10
      go_wp2
      go_ret
      exact ⟨rfl, (by repeat' (first | exact Keep.refl _ _ | refine Keep.set1 ?_ _ | refine Keep.alloc ?_ _ | refine Keep.drew ?_ | refine Keep.setNew ?_ (by simp) _))⟩
    · rw [if_neg h13] at hcc
      have e5 : decide ((size - 1) / slide < 16) = decide (size / slide ≤ 16) := by simp only [hcc]
      rw [e5]
      clear hcc e5
      go_enter Tryz.func10, Tryz.ntmps10
      go_wp2
      go_ret
      exact ⟨rfl, (by repeat' (first | exact Keep.refl _ _ | refine Keep.set1 ?_ _ | refine Keep.alloc ?_ _ | refine Keep.drew ?_ | refine Keep.setNew ?_ (by simp) _))⟩
  have hb1 : (kind == 1) = false := by simp [k1]
  by_cases k2 : kind = 2
  · subst k2
    go_enter Tryz.func10, Tryz.ntmps10
    go_wp2
    go_ret
    exact ⟨by simp, (by repeat' (first | exact Keep.refl _ _ | refine Keep.set1 ?_ _ | refine Keep.alloc ?_ _ | refine Keep.drew ?_ | refine Keep.setNew ?_ (by simp) _))⟩
  · have hb2 : (kind == 2) = false := by simp [k2]
    go_enter Tryz.func10, Tryz.ntmps10
    go_wp2
    go_ret
    exact ⟨by simp [k0, k1, k2], (by repeat' (first | exact Keep.refl _ _ | refine Keep.set1 ?_ _ | refine Keep.alloc ?_ _ | refine Keep.drew ?_ | refine Keep.setNew ?_ (by simp) _))⟩
end Go.Proofs.YtmioichjhiengaaGreat

/-
  One window from a time on: the code's and the reference's; slices that a call owns, under Keep.
-/
namespace Go.Proofs.YtmioichjhiengaaGreat
open Go.RowKit

def winS (s l : Int) : Span := if -9223372036854775808 ≤ s + l ∧ s + l ≤ 9223372036854775807 then ⟨s, s + l⟩ else ⟨0, 0⟩
def winE (s l t : Int) : Value := if -9223372036854775808 ≤ s + l ∧ s + l ≤ 9223372036854775807 then fitE (s + l + t) else errV 3
def winOk (s l t : Int) : Bool := fitB (s + l) && fitB (s + l + t)

theorem assign_window (w : World) (s l t : Int) (hs : I64 s) (hl : I64 l) (ht : I64 t) : Calls Tryz.prog 80 #[.int .i64 s, .int .i64 l, .int .i64 t] w fun e w' =>
    e = .returned (.tuple #[.agg (winS s l).cells.toArray, winE s l t]) ∧ Keep none_ w w' := by
  have c1 := fun w => num_add w s l hs hl
  unfold winS winE
  by_cases h : I64 (s + l)
  · have c2 := fun w => num_add w (s + l) t h ht
    rw [(fit_yes h).1, (fit_yes h).2.1] at c1
    unfold I64 at h
    rw [if_pos h, if_pos h]
    replace c1 := Lib.hid c1
    have kk : Keep none_ w w := Keep.refl _ _
    by_cases h2 : I64 (s + l + t)
    · rw [(fit_yes h2).1, (fit_yes h2).2.1] at c2
      rw [(fit_yes h2).2.1]
      replace c2 := Lib.hid c2
      clear hs hl ht h h2
      go_enter Tryz.func80, Tryz.ntmps80
      go_wp2_with (first
        | (go_at_call 83; (with_reducible refine (c1.out _).mono ?_); rintro e w' ⟨rfl, rfl⟩)
        | (go_at_call 83; (with_reducible refine (c2.out _).mono ?_); rintro e w' ⟨rfl, rfl⟩))
      exact bodyPost_ret (v := .tuple #[.agg #[.int .i64 s, .int .i64 (s + l)], .nilIface]) (by simp [results, Tryz.results80, go_sem]) rfl ⟨rfl, (by repeat' (first | exact Keep.refl _ _ | refine Keep.set1 ?_ _ | refine Keep.alloc ?_ _ | refine Keep.drew ?_ | refine Keep.setNew ?_ (by simp) _))⟩
    · rw [(fit_no h2).1, (fit_no h2).2.1] at c2
      rw [(fit_no h2).2.1]
      replace c2 := Lib.hid c2
      clear hs hl ht h h2
      go_enter Tryz.func80, Tryz.ntmps80
      go_wp2_with (first
        | (go_at_call 83; (with_reducible refine (c1.out _).mono ?_); rintro e w' ⟨rfl, rfl⟩)
        | (go_at_call 83; (with_reducible refine (c2.out _).mono ?_); rintro e w' ⟨rfl, rfl⟩))
      exact bodyPost_ret (v := .tuple #[.agg #[.int .i64 s, .int .i64 (s + l)], errV 3]) (by simp [results, Tryz.results80, go_sem]) rfl ⟨rfl, (by repeat' (first | exact Keep.refl _ _ | refine Keep.set1 ?_ _ | refine Keep.alloc ?_ _ | refine Keep.drew ?_ | refine Keep.setNew ?_ (by simp) _))⟩
  · rw [(fit_no h).1, (fit_no h).2.1] at c1
    unfold I64 at h
    rw [if_neg h, if_neg h]
    replace c1 := Lib.hid c1
    clear hs hl ht h
    go_enter Tryz.func80, Tryz.ntmps80
    go_wp2_with (first
      | (go_at_call 83; (with_reducible refine (c1.out _).mono ?_); rintro e w' ⟨rfl, rfl⟩))
    exact bodyPost_ret (v := .tuple #[.agg #[.int .i64 0, .int .i64 0], errV 3]) (by simp [results, Tryz.results80, go_sem]) rfl ⟨rfl, (by repeat' (first | exact Keep.refl _ _ | refine Keep.set1 ?_ _ | refine Keep.alloc ?_ _ | refine Keep.drew ?_ | refine Keep.setNew ?_ (by simp) _))⟩

theorem ref_window (w : World) (s l t : Int) (hs : I64 s) (hl : I64 l) (ht : I64 t) : Calls Tryz.prog 88 #[.int .i64 s, .int .i64 l, .int .i64 t] w fun e w' =>
    e = .returned (.tuple #[.agg (winS s l).cells.toArray, .bool (winOk s l t)]) ∧ Keep none_ w w' := by
  have c1 := fun w => ref_add w s l hs hl
  unfold winS winOk
  have hx := At.new w #[.int .i64 0, .int .i64 0] 84
  have kk : Keep none_ w (w.alloc (.cells #[.int .i64 0, .int .i64 0] 84)) := (by repeat' (first | exact Keep.refl _ _ | refine Keep.set1 ?_ _ | refine Keep.alloc ?_ _ | refine Keep.drew ?_ | refine Keep.setNew ?_ (by simp) _))
  by_cases h : I64 (s + l)
  · have c2 := fun w => ref_add w (s + l) t h ht
    rw [(fit_yes h).1, (fit_yes h).2.2] at c1
    rw [(fit_yes h).2.2]
    unfold I64 at h
    rw [if_pos h]
    replace c1 := Lib.hid c1
    generalize fitB (s + l + t) = b at *
    generalize fitN (s + l + t) = z at *
    replace c2 := Lib.hid c2
    clear hs hl ht h
    go_enter Tryz.func88, Tryz.ntmps88
    go_wp2_with (first
      | (go_at_call 123; (with_reducible refine (c1.out _).mono ?_); rintro e w' ⟨rfl, k⟩; replace kk := Keep.trans kk k; replace hx := Keep.at k hx (fun e => e); have cx := At.cell hx; have fx := At.frozen hx; clear k)
      | (go_at_call 123; (with_reducible refine (c2.out _).mono ?_); rintro e w' ⟨rfl, k⟩; replace kk := Keep.trans kk k; replace hx := Keep.at k hx (fun e => e); have cx := At.cell hx; have fx := At.frozen hx; clear k))
    exact bodyPost_ret (v := .tuple #[.agg #[.int .i64 s, .int .i64 (s + l)], .bool b]) (by simp [results, Tryz.results88, go_sem, cx, fx]) rfl ⟨by simp, by
      refine Keep.setNew (Keep.setNew kk ?_ _) ?_ _ <;> simp⟩
  · rw [(fit_no h).1, (fit_no h).2.2] at c1
    rw [(fit_no h).2.2]
    unfold I64 at h
    rw [if_neg h]
    replace c1 := Lib.hid c1
    clear hs hl ht h
    go_enter Tryz.func88, Tryz.ntmps88
    go_wp2_with (first
      | (go_at_call 123; (with_reducible refine (c1.out _).mono ?_); rintro e w' ⟨rfl, k⟩; replace kk := Keep.trans kk k; replace hx := Keep.at k hx (fun e => e); have cx := At.cell hx; have fx := At.frozen hx; clear k))
    exact bodyPost_ret (v := .tuple #[.agg #[.int .i64 0, .int .i64 0], .bool false]) (by simp [results, Tryz.results88, go_sem, cx, fx]) rfl ⟨by simp, by
      refine Keep.setNew (Keep.setNew kk ?_ _) ?_ _ <;> simp⟩

/-- What is owned stays owned where its block is kept. -/
theorem ownsRow_keep {S : Nat → Prop} {w w' : World} {base : Nat} {e : TypeId} {size n : Nat} {v : Value} {xs : List Value} (h : w.ownsRow base e size v n xs) (k : Keep S w w') (hs : ∀ g, v.ownBlock = some g → ¬ S g) : w'.ownsRow base e size v n xs := by
  refine ⟨h.1, ?_⟩
  rcases h.2 with hn | ⟨g, cap, cur, rfl, hb, hgg, rest⟩
  · exact .inl hn
  · exact .inr ⟨g, cap, cur, rfl, hb, (k.block g (Array.getElem?_eq_some_iff.1 hgg).1 (hs g rfl)).trans hgg, rest⟩
end Go.Proofs.YtmioichjhiengaaGreat

/-
  assign.down: the windows that have a time, the last one first.
-/
namespace Go.Proofs.YtmioichjhiengaaGreat
open Go.RowKit

/-- The windows from a place on, falling, so many at most; none: one can't be told. -/
def downL (t size slide late : Int) : Nat → Int → Option (List Span)
  | 0, _ => none
  | k + 1, s => if winOk s size late then
      (if size - slide ≤ t - s then some [winS s size] else if fitB (s - slide) then (downL t size slide late k (s - slide)).map (winS s size :: ·) else none)
    else none
def downAll (t size slide late : Int) : Option (List Span) := if fitB (t - t % slide) then downL t size slide late 16 (t - t % slide) else none
def flatS (l : List Span) : List Value := l.flatMap Span.cells
theorem flatS_snoc (l : List Span) (s : Span) : flatS (l ++ [s]) = flatS l ++ [.int .i64 s.s, .int .i64 s.e] := by simp [flatS]
theorem flatS_length (l : List Span) : (flatS l).length = l.length * 2 := by
  induction l with
  | nil => rfl
  | cons a l ih => simp only [flatS, List.flatMap_cons, List.length_append, List.length_cons] at *; rw [ih]; simp only [List.length_nil]; omega
theorem spanInfo : (Tryz.prog.info? 84).map (fun i => (i.zero, i.size, i.bytes)) = some (some (.agg #[.int .i64 0, .int .i64 0]), 2, 16) := by kernel_rfl
theorem winOk_yes {s l t : Int} (h : winOk s l t = true) : winE s l t = .nilIface ∧ winS s l = ⟨s, s + l⟩ := by
  simp only [winOk, fitB, Bool.and_eq_true, decide_eq_true_eq] at h
  exact ⟨by unfold winE fitE; rw [if_pos h.1, if_pos h.2], by unfold winS; rw [if_pos h.1]⟩
theorem winOk_no {s l t : Int} (h : winOk s l t = false) : winE s l t = errV 3 := by
  simp only [winOk, fitB, Bool.and_eq_false_iff, decide_eq_false_iff_not] at h
  unfold winE fitE
  rcases h with h | h
  · rw [if_neg h]
  · split <;> first | rfl | rw [if_neg h]

theorem one2 {w : World} {n : Nat} (hn : n = w.heap.size) (x y : Value) (T : TypeId) : ∀ j u, [x, y][j]? = some u → (w.alloc (.cells #[x, y] T)).cell? ((⟨n, 0, none⟩ : Addr).add j) = some u := by
  subst hn
  intro j u hj
  have h := At.cell (At.new w #[x, y] T) j
  rw [Addr.add_lit, Nat.zero_add, h]
  match j, hj with
  | 0, hj => simpa using hj
  | 1, hj => simpa using hj
theorem one2c {n m : Int} : ∀ u ∈ [Value.int .i64 n, Value.int .i64 m], u.oneCell' = true := by
  intro u hu
  simp only [List.mem_cons, List.not_mem_nil, or_false] at hu
  rcases hu with rfl | rfl <;> rfl

set_option maxHeartbeats 2000000 in
set_option maxRecDepth 100000 in
theorem assign_down (w : World) (t size slide late : Int) (ht : I64 t) (hs : I64 size) (hl : I64 slide) (ha : I64 late) (h1 : 1 ≤ slide) (h2 : slide ≤ size) (h16 : size ≤ 16 * slide) :
    Calls Tryz.prog 81 #[.int .i64 t, .int .i64 size, .int .i64 slide, .int .i64 late] w fun e w' =>
      ∃ v er, e = .returned (.tuple #[v, er]) ∧ Keep none_ w w' ∧
        ((∃ l, downAll t size slide late = some l ∧ er = .nilIface ∧ w'.ownsRow w.heap.size 84 2 v l.length (flatS l)) ∨ (downAll t size slide late = none ∧ v = .slice none 0 0 ∧ er = errV 3)) := by
  obtain ⟨D, hD⟩ : ∃ D, D = downAll t size slide late := ⟨_, rfl⟩
  rw [← hD]
  have c1 := fun w => num_down w t slide ht hl h1
  have hr0 := Int.emod_nonneg t (show slide ≠ 0 by omega)
  have hr1 := Int.emod_lt_of_pos t (show 0 < slide by omega)
  unfold downAll at hD
  generalize t % slide = r at *
  obtain ⟨i0, hi, hz0, hz1, hz2⟩ := info_parts spanInfo
  have H : (fitE (t - r) = .nilIface ∧ I64 (t - r) ∧ fitN (t - r) = t - r ∧ D = downL t size slide late 16 (t - r)) ∨ (fitE (t - r) = errV 3 ∧ D = none) := by
    by_cases hf : I64 (t - r)
    · rw [(fit_yes hf).2.2, if_pos rfl] at hD
      exact .inl ⟨(fit_yes hf).2.1, hf, (fit_yes hf).1, hD⟩
    · rw [(fit_no hf).2.2, if_neg (by decide)] at hD
      exact .inr ⟨(fit_no hf).2.1, hD⟩
  clear hD
  generalize fitN (t - r) = st0 at *
  generalize fitE (t - r) = er0 at *
  replace c1 := Lib.hid c1
  replace H := Lib.hid H
  go_enter Tryz.func81, Tryz.ntmps81
  go_wp2_with fail
  refine (c1.out _).mono ?_
  rintro e w' ⟨rfl, rfl⟩
  go_wp2_with fail
  go_loopw [10, 11, 12] (fun st er out wr => Keep none_ w wr ∧ ((∃ (x : Int) (k : Nat) (acc : List Span), st = .int .i64 x ∧ er = .nilIface ∧ I64 x ∧ x ≤ t ∧ t - x < size ∧ acc.length * slide ≤ t - x ∧ acc.length + k = 16 ∧
        D = (downL t size slide late k x).map (acc ++ ·) ∧ wr.ownsRow w.heap.size 84 2 out acc.length (flatS acc)) ∨ (er = errV 3 ∧ D = none ∧ ∃ z, st = .int .i64 z)))
    (fun st er _ _ => match er with | .nilIface => (intOf st - (t - size)).toNat + 1 | _ => 0)
  case atStart =>
    refine ⟨Keep.refl _ _, ?_⟩
    rcases H.out with ⟨rfl, h1, rfl, hD⟩ | ⟨rfl, hD⟩
    · refine .inl ⟨t - r, 16, [], rfl, rfl, h1, by omega, by omega, by simp; omega, rfl, by rw [hD]; simp, World.ownsRow_nil _ _ _ _⟩
    · exact .inr ⟨rfl, hD, _, rfl⟩
  case round =>
    obtain ⟨kk, h | ⟨rfl, hD, z, rfl⟩⟩ := hrel
    · obtain ⟨x, k, acc, rfl, rfl, hx, hxt, htx, hacc, hk, hD, hown⟩ := h
      have hn : acc.length < 16 := by
        apply Classical.byContradiction
        intro h
        have : (16 : Int) * slide ≤ acc.length * slide := Int.mul_le_mul_of_nonneg_right (by omega) (by omega)
        omega
      obtain ⟨k, rfl⟩ : ∃ k', k = k' + 1 := ⟨k - 1, by omega⟩
      rw [downL] at hD
      have c2 := fun w => assign_window w x size late hx hs ha
      have ax := At.new wr #[.int .i64 0, .int .i64 0] 84
      have kx : Keep none_ w (wr.alloc (.cells #[.int .i64 0, .int .i64 0] 84)) := Keep.alloc kk _
      have hown1 := hown.alloc (.cells #[.int .i64 0, .int .i64 0] 84)
      have hwp : w.heap.size ≤ wr.heap.size := kk.size
      have hvb := hown.lt
      cases hw : winOk x size late
      · rw [hw, if_neg (by decide)] at hD
        rw [winOk_no hw] at c2
        replace hD := Lib.hid hD
        replace c2 := Lib.hid c2
        generalize winS x size = S at *
        go_wp2_with (first
          | (go_at_call 80; (with_reducible refine (c2.out _).mono ?_); rintro e w2 ⟨rfl, k2⟩; replace ax := Keep.at k2 ax (fun e => e); replace kx := Keep.trans kx k2; have cx := At.cell ax; have fx := At.frozen ax))
        go_ret2
        exact ⟨_, _, rfl, Keep.setNew (Keep.setNew kx hwp _) hwp _, .inr ⟨by rw [hD.out]; rfl, rfl, rfl⟩⟩
      · rw [hw, if_pos rfl] at hD
        rw [(winOk_yes hw).1] at c2
        replace c2 := Lib.hid c2
        obtain ⟨S, hS⟩ : ∃ S, S = winS x size := ⟨_, rfl⟩
        rw [← hS] at c2 hD
        clear hS hw
        have c3 := fun w => num_sub w x slide hx hl
        have hfl := flatS_length acc
        have hts : 0 ≤ t - x := by omega
        have hts2 : t - x ≤ 9223372036854775807 := by unfold I64 at hs; omega
        have hss : 0 ≤ size - slide := by omega
        have hss2 : size - slide ≤ 9223372036854775807 := by unfold I64 at hs hl; omega
        by_cases hlast : size - slide ≤ t - x
        · rw [if_pos hlast] at hD
          replace hD := Lib.hid hD
          go_wp2_with (first
            | (go_at_call 80; (with_reducible refine (c2.out _).mono ?_); rintro e w2 ⟨rfl, k2⟩; replace ax := Keep.at k2 ax (fun e => e); replace kx := Keep.trans kx k2; replace hown1 := ownsRow_keep hown1 k2 (fun _ _ e => e); replace hown1 := ownsRow_keep hown1 (Keep.set1 (p := wr.heap.size) (i := 1) (Keep.set1 (p := wr.heap.size) (i := 0) (Keep.refl _ _) (.int .i64 S.s)) (.int .i64 S.e)) (fun g hg e => by have := (hvb g hg).2; unfold one at e; omega); have hsz2 := k2.size; have cx := At.cell ax; have fx := At.frozen ax)
            | (at_builtin; go_loud (refine wpList_append_own _ rfl _ _ 104 rfl w.heap.size 84 i0 (.agg #[.int .i64 0, .int .i64 0]) 2 16 Tryz.underlying104 hi hz0 hz1 hz2 rfl (by decide) _ _ _ rfl (hown1.alloc _) ⟨_, 0, none⟩ 1 1 [.int .i64 S.s, .int .i64 S.e] rfl rfl (one2 (by simp) _ _ _) one2c (by unfold maxLen; omega) (by omega) (by simp; have := At.lt ax; omega) ?_)))
          intro v' w3 hown' hgrow hnil
          have kf := Keep.grown (Keep.alloc (Keep.setNew (i := 1) (Keep.setNew (i := 0) kx hwp (.int .i64 S.s)) hwp (.int .i64 S.e)) (.cells #[.int .i64 S.s, .int .i64 S.e] 84)) hgrow (fun g hg h => by have := (hvb g hg).1; omega)
          clear hgrow hnil hown hown1 kx kk ax cx fx
          go_wp2_with fail
          go_ret2
          exact ⟨_, _, rfl, kf, .inl ⟨acc ++ [S], by rw [hD.out]; rfl, rfl, by rw [flatS_snoc, List.length_append]; exact hown'⟩⟩
        · rw [if_neg hlast] at hD
          have hlast2 : decide (size - slide ≤ t - x) = false := by simp [hlast]
          go_wp2_with (first
            | (go_at_call 80; (with_reducible refine (c2.out _).mono ?_); rintro e w2 ⟨rfl, k2⟩; replace ax := Keep.at k2 ax (fun e => e); replace kx := Keep.trans kx k2; replace hown1 := ownsRow_keep hown1 k2 (fun _ _ e => e); replace hown1 := ownsRow_keep hown1 (Keep.set1 (p := wr.heap.size) (i := 1) (Keep.set1 (p := wr.heap.size) (i := 0) (Keep.refl _ _) (.int .i64 S.s)) (.int .i64 S.e)) (fun g hg e => by have := (hvb g hg).2; unfold one at e; omega); have hsz2 := k2.size; have cx := At.cell ax; have fx := At.frozen ax)
            | (at_builtin; go_loud (refine wpList_append_own _ rfl _ _ 104 rfl w.heap.size 84 i0 (.agg #[.int .i64 0, .int .i64 0]) 2 16 Tryz.underlying104 hi hz0 hz1 hz2 rfl (by decide) _ _ _ rfl (hown1.alloc _) ⟨_, 0, none⟩ 1 1 [.int .i64 S.s, .int .i64 S.e] rfl rfl (one2 (by simp) _ _ _) one2c (by unfold maxLen; omega) (by omega) (by simp; have := At.lt ax; omega) ?_)))
          intro v' w3 hown' hgrow hnil
          have kf := Keep.grown (Keep.alloc (Keep.setNew (i := 1) (Keep.setNew (i := 0) kx hwp (.int .i64 S.s)) hwp (.int .i64 S.e)) (.cells #[.int .i64 S.s, .int .i64 S.e] 84)) hgrow (fun g hg h => by have := (hvb g hg).1; omega)
          clear hgrow hnil hown hown1 kx kk ax cx fx
          by_cases hf : I64 (x - slide)
          · rw [(fit_yes hf).1, (fit_yes hf).2.1] at c3
            rw [(fit_yes hf).2.2, if_pos rfl] at hD
            replace c3 := Lib.hid c3
            replace hD := Lib.hid hD
            replace hf := Lib.hid hf
            go_wp2_with fail
            refine (c3.out _).mono ?_
            rintro e w4 ⟨rfl, rfl⟩
            go_wp2_with fail
            go_roundw
            case rel => exact ⟨kf, .inl ⟨x - slide, k, acc ++ [S], rfl, rfl, hf.out, by omega, by omega, by rw [List.length_append, List.length_singleton, Int.natCast_add, Int.add_mul]; omega, by rw [List.length_append, List.length_singleton]; omega, by rw [hD.out, Option.map_map]; congr 1; funext l; simp, by rw [flatS_snoc, List.length_append]; exact hown'⟩⟩
            case measure => simp [intOf]; omega
          · rw [(fit_no hf).1, (fit_no hf).2.1] at c3
            rw [(fit_no hf).2.2, if_neg (by decide)] at hD
            replace c3 := Lib.hid c3
            replace hD := Lib.hid hD
            go_wp2_with fail
            refine (c3.out _).mono ?_
            rintro e w4 ⟨rfl, rfl⟩
            go_wp2_with fail
            go_roundw
            case rel => exact ⟨kf, .inr ⟨rfl, by rw [hD.out]; rfl, _, rfl⟩⟩
            case measure => simp [errV, intOf]
    · replace hD := Lib.hid hD
      go_wp2_with fail
      go_ret2
      exact ⟨_, _, rfl, kk, .inr ⟨hD.out, rfl, rfl⟩⟩
end Go.Proofs.YtmioichjhiengaaGreat

/-
  slices.Reverse of a slice of windows that the call owns: it owns them in the other order.
-/
namespace Go.Proofs.YtmioichjhiengaaGreat
open Go.RowKit Go.Shelf

def reverse_ren : Go.Shelf.Ren := ⟨fun | 35 => 82 | n => n, fun | 22 => 104 | 23 => 84 | 3 => 3 | 4 => 4 | 0 => 0 | n => n, fun | n => n⟩
theorem reverse_laid : Go.Proofs.SlLaysE0.n35 Tryz.prog reverse_ren := {
  mixed := by kernel_rfl
  f35 := ⟨Tryz.f82.name, by decide, Tryz.func82.trans (congrArg some (by kernel_rfl))⟩
  t0 := Tryz.underlying0
  a0 := Tryz.isAgg0
  z0 := Tryz.sizeOf0
  v0 := Tryz.zeroValue0
  t3 := Tryz.underlying3
  a3 := Tryz.isAgg3
  z3 := Tryz.sizeOf3
  v3 := Tryz.zeroValue3
  t4 := Tryz.underlying4
  a4 := Tryz.isAgg4
  z4 := Tryz.sizeOf4
  v4 := Tryz.zeroValue4
  t22 := Tryz.underlying104
  a22 := Tryz.isAgg104
  z22 := Tryz.sizeOf104
  v22 := Tryz.zeroValue104 }

theorem flatS_get (l : List Span) : ∀ j, j < l.length * 2 → (flatS l)[j]? = some ((l[j / 2]!).cells[j % 2]!) := by
  induction l with
  | nil => intro j h; simp at h
  | cons a l ih =>
    intro j h
    rw [List.length_cons] at h
    match j with
    | 0 => rfl
    | 1 => rfl
    | j + 2 =>
      have := ih j (by omega)
      have e1 : (j + 2) / 2 = j / 2 + 1 := by omega
      have e2 : (j + 2) % 2 = j % 2 := by omega
      rw [e1, e2]
      simpa [flatS] using this
theorem flatK_get (l : List Span) : (Sort.flatK Span.cells 2 l.toArray).toList = flatS l := by
  apply List.ext_getElem?
  intro j
  by_cases h : j < l.length * 2
  · rw [flatS_get l j h]
    simp [Sort.flatK, h]
  · rw [List.getElem?_eq_none (by simp; omega), List.getElem?_eq_none (by rw [flatS_length]; omega)]
theorem putCells_take (F cur : Array Value) (h : F.size ≤ cur.size) : (Sort.putCells id 0 F cur).toList.take F.size = F.toList := by
  apply List.ext_getElem?
  intro j
  by_cases hj : j < F.size
  · rw [List.getElem?_take_of_lt hj]
    have hc : j < cur.size := by omega
    simp [Sort.putCells, hj, hc]
  · rw [List.getElem?_eq_none (by simp; omega), List.getElem?_eq_none (by simp; omega)]
theorem reverse_own (w : World) (base n : Nat) (v : Value) (l : List Span) (hown : w.ownsRow base 84 2 v n (flatS l)) (hn : n ≤ 9223372036854775807) :
    Calls Tryz.prog 82 #[v] w fun e w' => e = .returned (.tuple #[]) ∧ Keep (fun g => v.ownBlock = some g) w w' ∧ w'.ownsRow base 84 2 v n (flatS l.reverse) := by
  have hln : l.length = n := by have := hown.1; rw [flatS_length] at this; omega
  subst hln
  rcases hown.2 with ⟨rfl, h0⟩ | ⟨g, cap, cur, rfl, hb, hg, hnc, hcm, hcs, htake⟩
  · have hl : l = [] := List.length_eq_zero_iff.1 h0
    subst hl
    refine (AnyQ.slices_Reverse_empty reverse_laid none 0 w).mono ?_
    rintro e w' ⟨rfl, rfl⟩
    exact ⟨rfl, Keep.refl _ _, hown⟩
  · have hat : At w g cur 84 := hg
    have hH : Sort.HoldsK Span.cells 2 w g 0 l.toArray := by
      intro j hj
      have hj2 : j < l.length * 2 := by simpa using hj
      refine ⟨?_, by rw [Nat.zero_add]; exact At.frozen hat j⟩
      rw [Nat.zero_add, At.cell hat j]
      have e1 : (flatS l)[j]? = cur[j]? := by
        rw [← htake, List.getElem?_take_of_lt hj2, Array.getElem?_toList]
      rw [← e1, ← flatK_get l, Array.getElem?_toList, id, getElem!_pos _ j (by simpa using hj2), Array.getElem?_eq_getElem]
    have := AnyQ.slices_Reverse reverse_laid 2 Tryz.isAgg84 Tryz.sizeOf84 Span.cells (fun _ => rfl) (fun x u hu => by simp [Span.cells] at hu; rcases hu with rfl | rfl <;> rfl) g 0 cap l.toArray w hH (by simpa using hn)
    refine this.mono ?_
    rintro e w' ⟨rfl, n, rfl⟩
    have hgl : g < w.heap.size := At.lt hat
    have hsz : (Sort.flatK Span.cells 2 l.toArray.reverse).size ≤ cur.size := by rw [Sort.size_flatK, hcs]; simp; omega
    have hblk : (Sort.putRowK Span.cells 2 (Sort.ahead w n) g 0 l.toArray.reverse).heap[g]? = some (.cells (Sort.putCells id 0 (Sort.flatK Span.cells 2 l.toArray.reverse) cur) 84 (0, 0)) := by
      show (w.heap.modify g _)[g]? = _
      rw [Array.getElem?_modify, if_pos rfl, hg]
      rfl
    refine ⟨rfl, ⟨rfl, rfl, rfl, ?_, ?_⟩, ?_⟩
    · show w.heap.size ≤ (w.heap.modify g _).size
      simp
    · intro k hk hs
      show (w.heap.modify g _)[k]? = _
      rw [Array.getElem?_modify, if_neg (fun e => hs (by rw [← e]; rfl))]
    · refine ⟨by rw [flatS_length, List.length_reverse], .inr ⟨g, cap, _, rfl, hb, hblk, hnc, hcm, by simp [Sort.putCells, hcs], ?_⟩⟩
      have e2 : (Sort.flatK Span.cells 2 l.toArray.reverse).toList = flatS l.reverse := by
        rw [show l.toArray.reverse = l.reverse.toArray by simp, flatK_get]
      have e3 := putCells_take (Sort.flatK Span.cells 2 l.toArray.reverse) cur hsz
      rw [Sort.size_flatK, e2] at e3
      simpa using e3
end Go.Proofs.YtmioichjhiengaaGreat

/-
  assign.Of: a time's windows.
-/
namespace Go.Proofs.YtmioichjhiengaaGreat
open Go.RowKit

/-- A time's windows by a config that may be, rising; none: they can't be told. -/
def ofL (c : Config) (t : Int) : Option (List Span) :=
  if c.kind = 2 then (if winOk t c.gap c.late then some [winS t c.gap] else none)
  else if c.kind = 0 then downAll t c.size c.size c.late else (downAll t c.size c.slide c.late).map List.reverse

def OfPost (w : World) (D : Option (List Span)) (e : Ending) (w' : World) : Prop :=
  ∃ v er, e = .returned (.tuple #[v, er]) ∧ Keep none_ w w' ∧
    ((∃ l, D = some l ∧ er = .nilIface ∧ w'.ownsRow w.heap.size 84 2 v l.length (flatS l)) ∨ (D = none ∧ v = .slice none 0 0 ∧ er = errV 3))

theorem assign_of_no (w : World) (c : Config) (t : Int) (hc : c.ok) (h : c.mayB = false) : Calls Tryz.prog 50 #[.agg c.cells.toArray, .int .i64 t] w fun e w' =>
    e = .returned (.tuple #[.slice none 0 0, errV 2]) ∧ Keep none_ w w' := by
  have c1 := fun w => assign_may w c hc
  rw [h] at c1
  replace c1 := Lib.hid c1
  have hx := At.new w c.cells.toArray 23
  have kk : Keep none_ w (w.alloc (.cells c.cells.toArray 23)) := (by repeat' (first | exact Keep.refl _ _ | refine Keep.set1 ?_ _ | refine Keep.alloc ?_ _ | refine Keep.drew ?_ | refine Keep.setNew ?_ (by simp) _))
  simp only [Config.cells] at hx kk
  clear h hc
  go_enter Tryz.func50, Tryz.ntmps50
  go_wp2_with (first
    | (go_at_call 42; (with_reducible refine (c1.out _).mono ?_); rintro e w' ⟨rfl, k⟩; replace kk := Keep.trans kk k; replace hx := Keep.at k hx (fun e => e); have cx := At.cell hx; have fx := At.frozen hx; clear k))
  go_ret2
  exact ⟨rfl, kk⟩

theorem owns_base {w : World} {b b' : Nat} {e : TypeId} {size n : Nat} {v : Value} {xs : List Value} (hb : b' ≤ b) (h : w.ownsRow b e size v n xs) : w.ownsRow b' e size v n xs := by
  refine ⟨h.1, h.2.imp id ?_⟩
  rintro ⟨g, cap, cur, rfl, hg, rest⟩
  exact ⟨g, cap, cur, rfl, Nat.le_trans hb hg, rest⟩
theorem owns_one {w : World} {b n : Nat} (hb : b ≤ w.heap.size) (hn : n = w.heap.size) (x y : Value) : (w.alloc (.cells #[x, y] 84)).ownsRow b 84 2 (.slice (some ⟨n, 0, none⟩) 1 1) 1 [x, y] := by
  subst hn
  exact ⟨rfl, .inr ⟨w.heap.size, 1, _, rfl, hb, At.new w _ _, Nat.le_refl _, by unfold maxLen; omega, rfl, rfl⟩⟩

set_option maxHeartbeats 1000000 in
theorem assign_of (w : World) (c : Config) (t : Int) (hc : c.ok) (ht : I64 t) (h : c.mayB = true) : Calls Tryz.prog 50 #[.agg c.cells.toArray, .int .i64 t] w (OfPost w (ofL c t)) := by
  have c1 := fun w => assign_may w c hc
  rw [h] at c1
  replace c1 := Lib.hid c1
  have hx := At.new w c.cells.toArray 23
  have kk : Keep none_ w (w.alloc (.cells c.cells.toArray 23)) := (by repeat' (first | exact Keep.refl _ _ | refine Keep.set1 ?_ _ | refine Keep.alloc ?_ _ | refine Keep.drew ?_ | refine Keep.setNew ?_ (by simp) _))
  obtain ⟨kind, size, slide, gap, late, shards, groups, cap⟩ := c
  simp only [Config.ok] at hc
  obtain ⟨hk, hs, hl, hg, ha, -⟩ := hc
  obtain ⟨D, hD⟩ : ∃ D, D = ofL ⟨kind, size, slide, gap, late, shards, groups, cap⟩ t := ⟨_, rfl⟩
  rw [← hD]
  unfold ofL at hD
  simp only [Config.cells] at hx kk c1 ⊢
  have hw : Config.winB ⟨kind, size, slide, gap, late, shards, groups, cap⟩ = true := by
    simp only [Config.mayB, Bool.and_eq_true] at h; exact h.1.1.1.1
  unfold Config.winB at hw
  simp only at hD hw
  clear h
  by_cases k2 : kind = 2
  · subst k2
    rw [if_pos rfl] at hD
    have c2 := fun w => assign_window w t gap late ht hg ha
    cases hok : winOk t gap late
    · rw [hok, if_neg (by decide)] at hD
      rw [winOk_no hok] at c2
      generalize winS t gap = S at *
      replace hD := Lib.hid hD
      replace c2 := Lib.hid c2
      clear hok hw
      go_enter Tryz.func50, Tryz.ntmps50
      go_wp2_with (first
        | (go_at_call 42; (with_reducible refine (c1.out _).mono ?_); rintro e w' ⟨rfl, k⟩; replace kk := Keep.trans kk k; replace hx := Keep.at k hx (fun e => e); have cx := At.cell hx; have fx := At.frozen hx; clear k)
        | (go_at_call 80; (with_reducible refine (c2.out _).mono ?_); rintro e w' ⟨rfl, k⟩; replace kk := Keep.trans kk k; replace hx := Keep.at k hx (fun e => e); have cx := At.cell hx; have fx := At.frozen hx; clear k))
      go_ret2
      exact ⟨_, _, rfl, (by repeat' (first | exact kk | refine Keep.alloc ?_ _ | refine Keep.drew ?_ | refine Keep.setNew ?_ (by simp) _)), .inr ⟨hD.out, rfl, rfl⟩⟩
    · rw [hok, if_pos rfl] at hD
      rw [(winOk_yes hok).1] at c2
      generalize winS t gap = S at *
      replace hD := Lib.hid hD
      replace c2 := Lib.hid c2
      clear hok hw
      go_enter Tryz.func50, Tryz.ntmps50
      go_wp2_with (first
        | (go_at_call 42; (with_reducible refine (c1.out _).mono ?_); rintro e w' ⟨rfl, k⟩; replace kk := Keep.trans kk k; replace hx := Keep.at k hx (fun e => e); have cx := At.cell hx; have fx := At.frozen hx; clear k)
        | (go_at_call 80; (with_reducible refine (c2.out _).mono ?_); rintro e w' ⟨rfl, k⟩; replace kk := Keep.trans kk k; replace hx := Keep.at k hx (fun e => e); have cx := At.cell hx; have fx := At.frozen hx; clear k))
      go_ret2
      exact ⟨_, _, rfl, (by repeat' (first | exact kk | refine Keep.alloc ?_ _ | refine Keep.drew ?_ | refine Keep.setNew ?_ (by simp) _)), .inl ⟨[S], hD.out, rfl, owns_one (Nat.le_trans kk.size (by simp)) (by simp) _ _⟩⟩
  · rw [if_neg k2] at hD hw
    by_cases k0 : kind = 0
    · subst k0
      rw [if_pos rfl] at hD hw
      have h1 : 0 < size := by simpa using hw
      have c2 := fun w => assign_down w t size size late ht hs hs ha (by omega) (by omega) (by omega)
      rw [← hD] at c2
      replace hD := Lib.hid hD
      replace c2 := Lib.hid c2
      clear hw
      go_enter Tryz.func50, Tryz.ntmps50
      go_wp2_with (first
        | (go_at_call 42; (with_reducible refine (c1.out _).mono ?_); rintro e w' ⟨rfl, k⟩; replace kk := Keep.trans kk k; replace hx := Keep.at k hx (fun e => e); have cx := At.cell hx; have fx := At.frozen hx; clear k))
      refine (c2.out _).mono ?_
      rintro e w2 ⟨v, er, rfl, k3, h3⟩
      go_wp2_with fail
      go_ret2
      exact ⟨_, _, rfl, kk.trans k3, h3.imp (fun ⟨l, a, b, h⟩ => ⟨l, a, b, owns_base (by simpa using kk.size) h⟩) id⟩
    · rw [if_neg k0] at hD hw
      have k1 : kind = 1 := by
        apply Classical.byContradiction
        intro k1
        rw [if_neg k1] at hw
        exact absurd hw (by decide)
      subst k1
      rw [if_pos rfl] at hw
      simp only [Bool.and_eq_true, decide_eq_true_eq] at hw
      obtain ⟨⟨h1, h2⟩, h3⟩ := hw
      have h4 : size - 1 < 16 * slide := (Int.ediv_lt_iff_lt_mul h1).1 h3
      have c2 := fun w => assign_down w t size slide late ht hs hl ha (by omega) h2 (by omega)
      generalize downAll t size slide late = E at *
      replace hD := Lib.hid hD
      replace c2 := Lib.hid c2
      clear h3 h4
      go_enter Tryz.func50, Tryz.ntmps50
      go_wp2_with (first
        | (go_at_call 42; (with_reducible refine (c1.out _).mono ?_); rintro e w' ⟨rfl, k⟩; replace kk := Keep.trans kk k; replace hx := Keep.at k hx (fun e => e); have cx := At.cell hx; have fx := At.frozen hx; clear k))
      refine (c2.out _).mono ?_
      rintro e w2 ⟨v, er, rfl, k3, ⟨l, hE, rfl, hown⟩ | ⟨hE, rfl, rfl⟩⟩
      · have hlen : l.length ≤ 9223372036854775807 := by
          rcases hown.2 with ⟨-, h0⟩ | ⟨g, cp, cur, -, -, -, hnc, hcm, -⟩
          · omega
          · unfold maxLen at hcm; omega
        have c3 := Lib.hid (reverse_own w2 _ _ v l hown hlen)
        have hvb := hown.lt
        replace hE := Lib.hid hE
        go_wp2_with fail
        refine (c3.out).mono ?_
        rintro e w3 ⟨rfl, k4, hown3⟩
        go_wp2_with fail
        go_ret2
        have k5 : Keep none_ w w3 := Keep.fresh (kk.trans k3) k4 (fun q hq e => by have := (hvb q e).1; have := kk.size; simp at *; omega)
        refine ⟨_, _, rfl, k5, .inl ⟨l.reverse, by rw [hD.out, hE.out]; rfl, rfl, ?_⟩⟩
        rw [List.length_reverse]
        exact owns_base (by simpa using kk.size) hown3
      · have c3 := Lib.hid (reverse_own w2 0 0 (.slice none 0 0) [] (World.ownsRow_nil _ _ _ _) (by omega))
        replace hE := Lib.hid hE
        go_wp2_with fail
        refine (c3.out).mono ?_
        rintro e w3 ⟨rfl, k4, hown3⟩
        go_wp2_with fail
        go_ret2
        have k5 : Keep none_ w w3 := Keep.fresh (kk.trans k3) k4 (fun q hq e => by cases e)
        exact ⟨_, _, rfl, k5, .inr ⟨by rw [hD.out, hE.out]; rfl, rfl, rfl⟩⟩
end Go.Proofs.YtmioichjhiengaaGreat

/-
  What holds of a time's windows: plain facts about ofL.
-/
namespace Go.Proofs.YtmioichjhiengaaGreat
open Go.RowKit

/-- The windows of a falling list: so long, so far apart, the last one that has the time. -/
theorem downL_at (t size slide late : Int) : ∀ (k : Nat) (x : Int) (l : List Span), I64 x → downL t size slide late k x = some l →
    1 ≤ l.length ∧ l.length ≤ k ∧ (∀ i (h : i < l.length), l[i] = ⟨x - i * slide, x - i * slide + size⟩ ∧ I64 (x - i * slide) ∧ I64 (x - i * slide + size)) ∧
    size - slide ≤ t - (x - ((l.length : Int) - 1) * slide) ∧ (2 ≤ l.length → t - (x - ((l.length : Int) - 2) * slide) < size - slide) := by
  intro k
  induction k with
  | zero => intro x l hx h; simp [downL] at h
  | succ k ih =>
    intro x l hx h
    rw [downL] at h
    cases hw : winOk x size late
    · rw [hw, if_neg (by decide)] at h; cases h
    · rw [hw, if_pos rfl] at h
      have hS := (winOk_yes hw).2
      have hI : I64 (x + size) := by
        simp only [winOk, fitB, Bool.and_eq_true, decide_eq_true_eq] at hw; exact hw.1
      rw [hS] at h
      by_cases hl : size - slide ≤ t - x
      · rw [if_pos hl] at h
        obtain rfl := Option.some.inj h
        refine ⟨by simp, by simp, ?_, by simpa using hl, by simp⟩
        intro i hi
        obtain rfl : i = 0 := by simpa using hi
        simpa using ⟨hx, hI⟩
      · rw [if_neg hl] at h
        cases hf : fitB (x - slide)
        · rw [hf, if_neg (by decide)] at h; cases h
        · rw [hf, if_pos rfl] at h
          cases hr : downL t size slide late k (x - slide) with
          | none => rw [hr] at h; cases h
          | some m =>
            rw [hr] at h
            obtain rfl := Option.some.inj h
            obtain ⟨h1, h2, h3, h4, h5⟩ := ih (x - slide) m (by simpa [fitB, I64] using hf) hr
            have e1 : ∀ n : Int, x - slide - n * slide = x - (n + 1) * slide := fun n => by rw [Int.add_mul]; omega
            refine ⟨by simp, by simp; omega, ?_, ?_, ?_⟩
            · intro i hi
              match i, hi with
              | 0, hi => simpa using ⟨hx, hI⟩
              | i + 1, hi =>
                have := h3 i (by simpa using hi)
                rw [e1] at this
                simpa using this
            · rw [e1] at h4
              simpa [List.length_cons] using h4
            · intro h6
              rw [List.length_cons] at h6 ⊢
              by_cases h7 : 2 ≤ m.length
              · have := h5 h7
                rw [e1] at this
                have e2 : ((m.length : Int) - 2 + 1) = (((m.length + 1 : Nat) : Int) - 2) := by omega
                rw [e2] at this
                exact this
              · have e3 : m.length = 1 := by omega
                rw [e3]
                simp
                omega

/-- What each of the windows is, rising. -/
structure Wins (c : Config) (t : Int) (l : List Span) : Prop where
  pos : 1 ≤ l.length
  few : l.length ≤ 16
  has : ∀ k (h : k < l.length), l[k].s ≤ t ∧ t < l[k].e ∧ l[k].e - l[k].s = (if c.kind = 2 then c.gap else c.size) ∧ I64 l[k].s ∧ I64 l[k].e
  up : ∀ k (h : k + 1 < l.length), l[k + 1].s = l[k].s + c.slide ∧ 0 < c.slide
  lone : c.kind ≠ 1 → l.length = 1
  sess : c.kind = 2 → ∀ h : 0 < l.length, l[0].s = t
  tum : c.kind = 0 → 0 < c.size ∧ ∀ h : 0 < l.length, l[0].s = t - t % c.size
  sli : c.kind = 1 → 0 < c.slide ∧ c.size - c.slide ≤ t % c.slide + ((l.length : Int) - 1) * c.slide ∧ (2 ≤ l.length → t % c.slide + ((l.length : Int) - 2) * c.slide < c.size - c.slide)

theorem downAll_some {t size slide late : Int} {l : List Span} (h : downAll t size slide late = some l) : I64 (t - t % slide) ∧ downL t size slide late 16 (t - t % slide) = some l := by
  unfold downAll at h
  by_cases hf : I64 (t - t % slide)
  · rw [(fit_yes hf).2.2, if_pos rfl] at h; exact ⟨hf, h⟩
  · rw [(fit_no hf).2.2, if_neg (by decide)] at h; cases h

theorem ofL_wins (c : Config) (t : Int) (l : List Span) (hc : c.ok) (ht : I64 t) (hm : c.mayB = true) (h : ofL c t = some l) : Wins c t l := by
  have hw : c.winB = true := by simp only [Config.mayB, Bool.and_eq_true] at hm; exact hm.1.1.1.1
  unfold Config.winB at hw
  unfold ofL at h
  by_cases k2 : c.kind = 2
  · rw [if_pos k2] at h
    rw [if_neg (by omega), if_neg (by omega), if_pos k2] at hw
    have hg : 0 < c.gap := by simpa using hw
    cases hok : winOk t c.gap c.late
    · rw [hok, if_neg (by decide)] at h; cases h
    · rw [hok, if_pos rfl, (winOk_yes hok).2] at h
      obtain rfl := Option.some.inj h
      have hI : I64 (t + c.gap) := by
        simp only [winOk, fitB, Bool.and_eq_true, decide_eq_true_eq] at hok; exact hok.1
      refine ⟨by simp, by simp, ?_, by simp, by simp, by simp, by omega, by omega⟩
      intro k hk
      obtain rfl : k = 0 := by simpa using hk
      simp only [List.getElem_cons_zero, if_pos k2]
      exact ⟨by omega, by omega, by omega, ht, hI⟩
  · rw [if_neg k2] at h
    by_cases k0 : c.kind = 0
    · rw [if_pos k0] at h hw
      have h1 : 0 < c.size := by simpa using hw
      obtain ⟨hf, hd⟩ := downAll_some h
      obtain ⟨a1, a2, a3, a4, a5⟩ := downL_at _ _ _ _ _ _ _ hf hd
      have hr0 := Int.emod_nonneg t (show c.size ≠ 0 by omega)
      have hr1 := Int.emod_lt_of_pos t h1
      have hlen : l.length = 1 := by
        apply Classical.byContradiction
        intro hn
        have h2 : 2 ≤ l.length := by omega
        have := a5 h2
        have h3 : 0 ≤ ((l.length : Int) - 2) * c.size := Int.mul_nonneg (by omega) (by omega)
        omega
      have h0 := a3 0 (by omega)
      refine ⟨by omega, by omega, ?_, by omega, fun _ => hlen, by omega, fun _ => ⟨h1, fun h => by rw [h0.1]; simp⟩, by omega⟩
      intro k hk
      obtain rfl : k = 0 := by omega
      rw [h0.1, if_neg k2]
      have h4 := h0.2.2
      simp only [Int.ofNat_zero, Int.zero_mul, Int.sub_zero, Int.cast_ofNat_Int] at h4 ⊢
      exact ⟨by omega, by omega, by omega, hf, h4⟩
    · rw [if_neg k0] at h hw
      have k1 : c.kind = 1 := by
        apply Classical.byContradiction
        intro k1
        rw [if_neg k1, if_neg k2] at hw
        exact absurd hw (by decide)
      rw [if_pos k1] at hw
      simp only [Bool.and_eq_true, decide_eq_true_eq] at hw
      obtain ⟨⟨h1, h2⟩, h3⟩ := hw
      cases hd : downAll t c.size c.slide c.late with
      | none => rw [hd] at h; cases h
      | some m =>
        rw [hd] at h
        obtain rfl := Option.some.inj h
        obtain ⟨hf, hd⟩ := downAll_some hd
        obtain ⟨a1, a2, a3, a4, a5⟩ := downL_at _ _ _ _ _ _ _ hf hd
        have hr0 := Int.emod_nonneg t (show c.slide ≠ 0 by omega)
        have hr1 := Int.emod_lt_of_pos t h1
        generalize hr : t % c.slide = r at *
        have e1 : t - (t - r - ((m.length : Int) - 1) * c.slide) = r + ((m.length : Int) - 1) * c.slide := by omega
        have e2 : t - (t - r - ((m.length : Int) - 2) * c.slide) = r + ((m.length : Int) - 2) * c.slide := by omega
        rw [e1] at a4
        rw [e2] at a5
        have hrev : ∀ k (h : k < m.length), m.reverse[k]'(by simpa using h) = m[m.length - 1 - k]'(by omega) := fun k h => by rw [List.getElem_reverse]
        refine ⟨by simpa using a1, by simpa using a2, ?_, ?_, by omega, by omega, by omega, fun _ => ⟨h1, by rw [hr]; simpa using a4, by rw [hr]; simpa using a5⟩⟩
        · intro k hk
          rw [List.length_reverse] at hk
          rw [hrev k hk, (a3 _ (by omega)).1, if_neg k2]
          have h6 := (a3 (m.length - 1 - k) (by omega)).2
          generalize hj : m.length - 1 - k = j at *
          have h7 : (0 : Int) ≤ j * c.slide := Int.mul_nonneg (by omega) (by omega)
          simp only
          -- the last one that is told is the first whose distance is so great: all others have the time
          have h8 : (j : Int) * c.slide ≤ ((m.length : Int) - 1) * c.slide := Int.mul_le_mul_of_nonneg_right (by omega) (by omega)
          have h9 : r + (j : Int) * c.slide < c.size := by
            by_cases hm2 : 2 ≤ m.length
            · have := a5 hm2
              have e3 : ((m.length : Int) - 1) * c.slide = ((m.length : Int) - 2) * c.slide + c.slide := by rw [show (m.length : Int) - 1 = ((m.length : Int) - 2) + 1 by omega, Int.add_mul, Int.one_mul]
              omega
            · have : m.length = 1 := by omega
              rw [this] at h8
              simp at h8
              omega
          exact ⟨by omega, by omega, by omega, h6.1, h6.2⟩
        · intro k hk
          rw [List.length_reverse] at hk
          rw [hrev k (by omega), hrev (k + 1) hk, (a3 _ (by omega)).1, (a3 _ (by omega)).1]
          simp only
          refine ⟨?_, h1⟩
          have e4 : ((m.length - 1 - k : Nat) : Int) = ((m.length - 1 - (k + 1) : Nat) : Int) + 1 := by omega
          rw [e4, Int.add_mul]
          omega

theorem wins_two (c : Config) (t u : Int) (l m : List Span) (hl : Wins c t l) (hm : Wins c u m) (k1 : c.kind = 1) : l.length ≤ m.length + 1 ∧ m.length ≤ l.length + 1 := by
  obtain ⟨h1, h2, h3⟩ := hl.sli k1
  obtain ⟨-, g2, g3⟩ := hm.sli k1
  have hr0 := Int.emod_nonneg t (show c.slide ≠ 0 by omega)
  have hr1 := Int.emod_lt_of_pos t h1
  have hs0 := Int.emod_nonneg u (show c.slide ≠ 0 by omega)
  have hs1 := Int.emod_lt_of_pos u h1
  have hp := hl.pos
  have gp := hm.pos
  generalize t % c.slide = r at *
  generalize u % c.slide = s at *
  generalize hx : l.length = x at *
  generalize hy : m.length = y at *
  clear hx hy hl hm
  constructor
  · apply Classical.byContradiction
    intro h
    have h5 := h3 (by omega)
    have : ((y : Int) - 1) * c.slide + c.slide ≤ ((x : Int) - 2) * c.slide := by
      have h6 := Int.mul_le_mul_of_nonneg_right (a := (y : Int) - 1 + 1) (b := (x : Int) - 2) (c := c.slide) (by omega) (by omega)
      rw [Int.add_mul, Int.one_mul] at h6; exact h6
    omega
  · apply Classical.byContradiction
    intro h
    have h5 := g3 (by omega)
    have : ((x : Int) - 1) * c.slide + c.slide ≤ ((y : Int) - 2) * c.slide := by
      have h6 := Int.mul_le_mul_of_nonneg_right (a := (x : Int) - 1 + 1) (b := (y : Int) - 2) (c := c.slide) (by omega) (by omega)
      rw [Int.add_mul, Int.one_mul] at h6; exact h6
    omega

theorem mult_apart (s t u : Int) (hs : 0 < s) (h : t - t % s ≠ u - u % s) : t - t % s + s ≤ u - u % s ∨ u - u % s + s ≤ t - t % s := by
  have e1 := Int.emod_add_mul_ediv t s
  have e2 := Int.emod_add_mul_ediv u s
  have e3 : t - t % s = s * (t / s) := by omega
  have e4 : u - u % s = s * (u / s) := by omega
  rw [e3, e4] at h ⊢
  clear e1 e2 e3 e4
  rcases Int.lt_trichotomy (t / s) (u / s) with hlt | heq | hgt
  · left
    have : s * (t / s + 1) ≤ s * (u / s) := Int.mul_le_mul_of_nonneg_left (by omega) (by omega)
    rw [Int.mul_add] at this; omega
  · rw [heq] at h; exact absurd rfl h
  · right
    have : s * (u / s + 1) ≤ s * (t / s) := Int.mul_le_mul_of_nonneg_left (by omega) (by omega)
    rw [Int.mul_add] at this; omega
end Go.Proofs.YtmioichjhiengaaGreat
