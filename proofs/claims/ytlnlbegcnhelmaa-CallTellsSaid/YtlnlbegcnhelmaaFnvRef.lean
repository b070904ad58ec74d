/-
  The reference's number of a key.
-/
import Derived.Test.YtlnlbegcnhelmaaFnv
namespace Go.Proofs.Ytlnlbegcnhelmaa
open Go.RowKit

theorem xor_two (a b : Nat) : (a ^^^ b) % 2 = (a + b) % 2 := by
  have h := @Nat.xor_mod_two_pow a b 1
  rw [Nat.pow_one] at h
  rw [h]
  rcases Nat.mod_two_eq_zero_or_one a with h1 | h1 <;> rcases Nat.mod_two_eq_zero_or_one b with h2 | h2 <;> rw [h1, h2] <;> simp <;> omega
theorem xor_bit (x y j : Nat) : (x ^^^ y) % 2 ^ (j + 1) = (x ^^^ y) % 2 ^ j + 2 ^ j * ((x / 2 ^ j + y / 2 ^ j) % 2) := by
  rw [Nat.mod_pow_succ, Nat.xor_div_two_pow, xor_two]
theorem xor_low (n c : Nat) (hc : c < 256) : n ^^^ c = n - n % 256 + ((n % 256) ^^^ c) := by
  have h1 : (n ^^^ c) / 2 ^ 8 = n / 2 ^ 8 := by rw [Nat.xor_div_two_pow, Nat.div_eq_of_lt (show c < 2 ^ 8 by omega), Nat.xor_zero]
  have h2 : (n ^^^ c) % 2 ^ 8 = (n % 2 ^ 8) ^^^ c := by rw [Nat.xor_mod_two_pow, Nat.mod_eq_of_lt (show c < 2 ^ 8 by omega)]
  have h3 : (2 : Nat) ^ 8 = 256 := rfl
  rw [h3] at h1 h2
  omega

theorem int_eq {k : IntKind} {a b : Int} (h : a = b) : Value.int k a = Value.int k b := by rw [h]
def pw : Nat → Int | 0 => 1 | 1 => 2 | 2 => 4 | 3 => 8 | 4 => 16 | 5 => 32 | 6 => 64 | 7 => 128 | _ => 256

set_option maxHeartbeats 2000000 in
theorem ref_turned (w : World) (n c : Nat) (hn : n < 4294967296) (hc : c < 256) :
    Calls Try.prog 99 #[.int .u64 n, .int .u8 c] w fun e w' => e = .returned (.int .u64 ((n ^^^ c : Nat) : Int)) ∧ ∃ m, w' = w.drewN m := by
  obtain ⟨x, hx⟩ : ∃ x, x = n % 256 := ⟨_, rfl⟩
  obtain ⟨h, hh⟩ : ∃ h, h = n / 256 := ⟨_, rfl⟩
  have hxl : x < 256 := by omega
  have hnx : n = h * 256 + x := by omega
  have hhl : h < 16777216 := by omega
  have hres : n ^^^ c = h * 256 + (x ^^^ c) := by have := xor_low n c hc; rw [← hx] at this; omega
  have hz : x ^^^ c < 256 := Nat.xor_lt_two_pow (n := 8) hxl hc
  rw [hres, hnx]
  have e1 : ((h : Int) * 256 + x) % 256 = x := by omega
  have e3 : (x : Int) % 256 = x := by omega
  clear hx hh hnx hres hn
  have HB := Lib.hid (xor_bit x c)
  generalize x ^^^ c = z at *
  go_enter Try.func99, Try.ntmps99
  go_wp2
  go_loopw [5, 8] (fun o p wr => ∃ (j q : Nat), j ≤ 8 ∧ p = .int .u64 (pw j) ∧ o = .int .u64 ((h : Int) * 256 + q) ∧ Hid (q = z % 2 ^ j) ∧ q < 256 ∧ ∃ m, wr = w.drewN m) (fun _ p _ => 512 - (intOf p).toNat)
  case atStart => exact ⟨0, 0, by omega, rfl, by simp, Lib.hid (by simp [Nat.mod_one]), by omega, 0, rfl⟩
  case round =>
    obtain ⟨j, q, hj, rfl, rfl, HQ, hq, m, rfl⟩ := hrel
    by_cases h8 : j = 8
    · subst h8
      simp only [pw]
      go_wp2
      go_ret
      exact ⟨by rw [HQ.out, Nat.mod_eq_of_lt (show z < 2 ^ 8 by omega)]; simp, m, rfl⟩
    · have hbit := HB.out j
      rw [← HQ.out] at hbit
      have hj' : j = 0 ∨ j = 1 ∨ j = 2 ∨ j = 3 ∨ j = 4 ∨ j = 5 ∨ j = 6 ∨ j = 7 := by omega
      have hq2 : z % 2 ^ (j + 1) < 256 := by have := Nat.mod_le z (2 ^ (j + 1)); omega
      obtain ⟨jn, HJ⟩ : ∃ jn, Hid (jn = j + 1) := ⟨_, Lib.hid rfl⟩
      rcases hj' with rfl | rfl | rfl | rfl | rfl | rfl | rfl | rfl
      all_goals
        simp only [pw]
        simp only [Nat.reducePow, Nat.reduceAdd] at hbit hq2
        clear HQ
        have HBIT := Lib.hid hbit
        clear hbit h8 hj
        go_wp2
        go_quiet (fail)
        go_wp2
        all_goals
          have hbit := HBIT.out
          go_roundw
          case rel =>
            have hjn := HJ.out
            refine ⟨jn, _, by omega, by rw [hjn]; rfl, ?_, Lib.hid (by rw [hjn]), hq2, _, rfl⟩
            rename_i hx
            simp at hx
            try simp only [Nat.reducePow, Nat.reduceAdd]
            exact int_eq (by omega)
          case measure => simp [intOf]

set_option maxHeartbeats 400000 in
theorem ref_sum (w : World) (s : ByteArray) (hs : s.size ≤ maxLen) :
    Calls Try.prog 92 #[.string s] w fun e w' => e = .returned (.int .u32 (keyN s)) ∧ ∃ m, w' = w.drewN m := by
  unfold maxLen at hs
  go_enter Try.func92, Try.ntmps92
  go_wp2
  go_loopw [3, 4] (fun n i wr => ∃ k : Nat, k ≤ s.size ∧ i = .int .i64 k ∧ n = .int .u64 (fnv (s.data.toList.take k)) ∧ ∃ m, wr = w.drewN m) (fun _ i _ => s.size - (intOf i).toNat)
  case atStart => exact ⟨0, Nat.zero_le _, rfl, rfl, 0, rfl⟩
  case round =>
    obtain ⟨k, hk, rfl, rfl, m, rfl⟩ := hrel
    by_cases hlt : k < s.size
    · have hl := fnv_lt (s.data.toList.take k)
      have hst := fnv_snoc (s.data.toList.take k) s[k]
      rw [← take_snoc s k hlt] at hst
      have HS := Lib.hid hst
      clear hst
      generalize fnv (s.data.toList.take k) = n at *
      have hb : s[k].toNat < 256 := s[k].toNat_lt
      have hx : n ^^^ s[k].toNat < 4294967296 := Nat.xor_lt_two_pow (n := 32) hl (by omega)
      go_wp2_with fail
      refine (ref_turned _ n s[k].toNat hl hb).mono ?_
      rintro e w' ⟨rfl, m', rfl⟩
      obtain ⟨y, hy⟩ : ∃ y, y = n ^^^ s[k].toNat := ⟨_, rfl⟩
      rw [← hy] at hx ⊢
      have HY := Lib.hid hy
      clear hy
      go_wp2_with fail
      go_roundw
      case rel => exact ⟨k + 1, by omega, by go_num, by rw [HS.out]; exact int_eq (by unfold fnvStep; rw [← HY.out]; omega), m + m', rfl⟩
      case measure => simp [intOf]; omega
    · have hkk : k = s.size := by omega
      have hl := fnv_lt (s.data.toList.take k)
      have HK := Lib.hid hkk
      clear hkk
      obtain ⟨n, HN⟩ : ∃ n, Hid (n = fnv (s.data.toList.take k)) := ⟨_, Lib.hid rfl⟩
      rw [← HN.out] at hl ⊢
      go_wp2
      go_ret
      exact ⟨by rw [show keyN s = n by rw [HN.out, HK.out, keyN, List.take_of_length_le (by simp)]]; rfl, m, rfl⟩

theorem ref_group (w : World) (s : ByteArray) (g : Int) (hs : s.size ≤ maxLen) (hg : I64 g) :
    Calls Try.prog 73 #[.string s, .int .i64 g] w fun e w' => e = .returned (.int .i64 (groupOf s g)) ∧ ∃ m, w' = w.drewN m := by
  have hl := fnv_lt s.data.toList
  have c1 := Lib.hid (fun w => ref_sum w s hs)
  unfold groupOf
  unfold I64 at hg
  obtain ⟨hg1, hg2⟩ := hg
  by_cases h : g < 1
  · rw [if_pos h]
    go_enter Try.func73, Try.ntmps73
    go_wp2_with fail
    go_ret
    exact ⟨rfl, 0, rfl⟩
  · rw [if_neg h]
    change keyN s < _ at hl
    generalize keyN s = n at *
    have hm : 0 ≤ (n : Int) % g := Int.emod_nonneg _ (by omega)
    have hm2 : (n : Int) % g < g := Int.emod_lt_of_pos _ (by omega)
    go_enter Try.func73, Try.ntmps73
    go_wp2_with fail
    refine (c1.out _).mono ?_
    rintro e w' ⟨rfl, m, rfl⟩
    go_wp2_with fail
    go_ret
    exact ⟨rfl, m, rfl⟩
end Go.Proofs.Ytlnlbegcnhelmaa
