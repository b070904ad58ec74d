/-
  The walk of the law FnvGrows.
-/
import Derived.Test.YtkbaijdamddipaaFnv
import Derived.Laws.BytesArg
namespace Go.Proofs.Ytkbaijdamddipaa
open Go.RowKit

theorem fnvUp (w : World) : Calls Try.prog 21 #[] w fun e w' => e = .returned (.bool true) ∧ w = w' := by
  have k0 : (keyN ⟨#[]⟩ : Int) = 2166136261 := rfl
  have k1 : keyN ⟨#[97]⟩ = 3826002220 := by decide +kernel
  have s0 : (⟨#[]⟩ : ByteArray).size ≤ maxLen := by decide
  have s1 : (⟨#[97]⟩ : ByteArray).size ≤ maxLen := by decide
  have c1 := fun w => fnv_sum w ⟨#[]⟩ s0
  have c2 := fun w => fnv_sum w ⟨#[97]⟩ s1
  have c3 : Hid (∀ w, Calls Try.prog 22 #[.string ⟨#[97]⟩] w fun e w' => e = .returned (.bool true) ∧ w = w') := Lib.hid (fun w => fnv_may w ⟨#[97]⟩ s1)
  have c4 : Hid (∀ w, Calls Try.prog 22 #[.string ⟨#[]⟩] w fun e w' => e = .returned (.bool false) ∧ w = w') := Lib.hid (fun w => fnv_may w ⟨#[]⟩ s0)
  have c5 : Hid (∀ w, Calls Try.prog 25 #[.string ⟨#[97]⟩, .int .i64 0] w fun e w' => e = .returned (.int .i64 0) ∧ w = w') := Lib.hid (fun w => fnv_group w ⟨#[97]⟩ 0 s1 (by simp [I64]))
  rw [k0] at c1
  rw [k1] at c2
  have c1 := Lib.hid c1
  have c2 := Lib.hid c2
  clear k0 k1 s0 s1
  go_enter Try.func21, Try.ntmps21
  go_wp2_with fail
  refine (c1.out _).mono ?_
  rintro e w' ⟨rfl, rfl⟩
  go_wp2_with fail
  refine (c2.out _).mono ?_
  rintro e w' ⟨rfl, rfl⟩
  go_wp2_with fail
  refine (c3.out _).mono ?_
  rintro e w' ⟨rfl, rfl⟩
  go_wp2_with fail
  refine (c4.out _).mono ?_
  rintro e w' ⟨rfl, rfl⟩
  go_wp2_with fail
  refine (c5.out _).mono ?_
  rintro e w' ⟨rfl, rfl⟩
  go_wp2_with fail
  go_ret
  exact ⟨rfl, rfl⟩

set_option maxRecDepth 100000 in
theorem law_FnvGrows (s : ByteArray) (b : Int) (g : Int) (W : World) (hs : s.size ≤ maxLen) (hb0 : 0 ≤ b) (hb1 : b ≤ 255) (hg : I64 g) :
    Calls Try.prog 6 #[.string s, .int .u8 b, .int .i64 g] W fun e W' => e = .returned (.bool true) ∧ Below W.heap.size W W' := by
  have hs' := hs
  unfold maxLen at hs'
  have c1 := Lib.hid (fun w => fnv_sum w s hs)
  have c2 := Lib.hid (fun w => fnv_group w s g hs hg)
  by_cases hlen : s.size ≤ 1000
  · have hsz : (s ++ strOfNums [b]).size ≤ maxLen := by rw [ByteArray.size_append, strOfNums_size]; unfold maxLen; simp; omega
    have c3 := fun w => fnv_sum w (s ++ strOfNums [b]) hsz
    have hl := fnv_lt s.data.toList
    change keyN s < _ at hl
    have hk : keyN (s ++ strOfNums [b]) = fnvStep (keyN s) (UInt8.ofNat b.toNat) := by
      unfold keyN
      rw [ByteArray.data_append, Array.toList_append, strOfNums_data]
      exact fnv_snoc _ _
    have hb8 : ((UInt8.ofNat b.toNat).toNat : Int) = b := by
      have : (UInt8.ofNat b.toNat).toNat = b.toNat := by simp [UInt8.toNat_ofNat']; omega
      rw [this]; omega
    have hc := fnv_cast (keyN s) (UInt8.ofNat b.toNat) hl
    rw [hb8] at hc
    have hbb : b % 4294967296 = b := by omega
    rw [hbb] at hc
    rw [hk] at c3
    have c3 := Lib.hid c3
    have hg0 : 0 ≤ groupOf s g := by unfold groupOf; split; exact Int.le_refl _; exact Int.emod_nonneg _ (by omega)
    have hg1 : ¬ g < 1 → groupOf s g < g := fun h => by unfold groupOf; rw [if_neg h]; exact Int.emod_lt_of_pos _ (by omega)
    have hcv : (convert 36 9 (.slice (some ⟨W.heap.size, 0, none⟩) 1 1)).run Try.prog (W.alloc (.cells #[.int .u8 b] 5)) = .ok (.string (strOfNums [b])) (W.alloc (.cells #[.int .u8 b] 5)) :=
      run_convert_bytes_arg (W.alloc (.cells #[.int .u8 b] 5)) 36 5 Try.underlying36 Try.underlying5 W.heap.size 0 1 1 [b] rfl (fun i hi => by
        have : i = 0 := by omega
        subst this
        exact (At.cell (At.new W #[.int .u8 b] 5)) 0) 9 Try.underlying9
    have hss : (strOfNums [b]).size = 1 := strOfNums_size _
    clear hk hb8 hbb hs
    generalize strOfNums [b] = sb at *
    generalize groupOf s g = gr at *
    generalize fnvStep (keyN s) (UInt8.ofNat b.toNat) = m at *
    generalize keyN s = n at *
    have hcb : ((m : Int) == bits .xor .u32 (n : Int) b * 16777619 % 4294967296) = true := by simpa using hc.symm
    have HS := Lib.hid hss
    have hs1 : sb.size ≤ 1 := by omega
    clear hc hss
    by_cases hgg : g < 1
    · clear hg1
      go_enter Try.func6, Try.ntmps6
      go_wp2_with fail
      refine (fnvUp _).mono ?_
      rintro e w' ⟨rfl, rfl⟩
      go_wp2_with fail
      refine (c1.out _).mono ?_
      rintro e w' ⟨rfl, rfl⟩
      go_wp2_with fail
      refine (c2.out _).mono ?_
      rintro e w' ⟨rfl, rfl⟩
      go_wp2_with fail
      refine (c3.out _).mono ?_
      rintro e w' ⟨rfl, rfl⟩
      go_wp2_with fail
      go_ret
      exact ⟨rfl, (Keep.alloc (Keep.refl none_ W) _).below (Nat.le_refl _) not_none⟩
    · have hg1' := hg1 hgg
      clear hg1
      go_enter Try.func6, Try.ntmps6
      go_wp2_with fail
      refine (fnvUp _).mono ?_
      rintro e w' ⟨rfl, rfl⟩
      go_wp2_with fail
      refine (c1.out _).mono ?_
      rintro e w' ⟨rfl, rfl⟩
      go_wp2_with fail
      refine (c2.out _).mono ?_
      rintro e w' ⟨rfl, rfl⟩
      go_wp2_with fail
      refine (c3.out _).mono ?_
      rintro e w' ⟨rfl, rfl⟩
      go_wp2_with fail
      go_ret
      exact ⟨rfl, (Keep.alloc (Keep.refl none_ W) _).below (Nat.le_refl _) not_none⟩
  · have hlb : decide (1000 < (s.size : Int)) = true := by simp; omega
    go_enter Try.func6, Try.ntmps6
    go_wp2_with fail
    refine (fnvUp _).mono ?_
    rintro e w' ⟨rfl, rfl⟩
    go_wp2_with fail
    go_ret
    exact ⟨rfl, Below.refl _ _⟩
end Go.Proofs.Ytkbaijdamddipaa
