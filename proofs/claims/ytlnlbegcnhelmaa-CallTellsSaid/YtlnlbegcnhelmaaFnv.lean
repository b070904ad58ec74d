/-
  The contracts of package fnv and of the reference's number of a key.
-/
import Derived.Test.YtlnlbegcnhelmaaData
import Derived.Test.YtlnlbegcnhelmaaRegion
import Derived.Lib.Hide
import Derived.Lib.Bytealg
namespace Go.Proofs.Ytlnlbegcnhelmaa
open Go.RowKit

/-- One byte more. -/
def fnvStep (n : Nat) (c : UInt8) : Nat := ((n ^^^ c.toNat) * 16777619) % 4294967296
def fnv (l : List UInt8) : Nat := l.foldl fnvStep 2166136261
theorem fnvStep_lt (n : Nat) (c : UInt8) : fnvStep n c < 4294967296 := by
  unfold fnvStep
  generalize (n ^^^ c.toNat) * 16777619 = m
  omega
theorem foldl_snoc {α β : Type} (f : β → α → β) (b : β) (l : List α) (a : α) : (l ++ [a]).foldl f b = f (l.foldl f b) a := by simp
theorem fnv_snoc (l : List UInt8) (c : UInt8) : fnv (l ++ [c]) = fnvStep (fnv l) c := foldl_snoc fnvStep 2166136261 l c
theorem fnv_lt_from (l : List UInt8) : ∀ n, n < 4294967296 → l.foldl fnvStep n < 4294967296 := by
  induction l with
  | nil => intro n h; exact h
  | cons c l ih => intro n _; exact ih _ (fnvStep_lt n c)
theorem fnv_lt (l : List UInt8) : fnv l < 4294967296 := fnv_lt_from l _ (by omega)
theorem take_snoc (s : ByteArray) (k : Nat) (h : k < s.size) : s.data.toList.take (k + 1) = s.data.toList.take k ++ [s[k]] := by
  rw [List.take_succ_eq_append_getElem (by simpa using h)]; rfl
def keyN (s : ByteArray) : Nat := fnv s.data.toList

theorem fnv_cast (n : Nat) (c : UInt8) (hn : n < 4294967296) : bits .xor .u32 (n : Int) ((c.toNat : Int) % 4294967296) * 16777619 % 4294967296 = ((fnvStep n c : Nat) : Int) := by
  have h1 : c.toNat < 256 := c.toNat_lt
  have h2 : (c.toNat : Int) % 4294967296 = (c.toNat : Int) := by omega
  rw [h2, u32_xor_nat n c.toNat hn (by omega)]
  unfold fnvStep
  generalize n ^^^ c.toNat = m
  omega

set_option maxHeartbeats 400000 in
theorem fnv_sum (w : World) (s : ByteArray) (hs : s.size ≤ maxLen) :
    Calls Try.prog 89 #[.string s] w fun e w' => e = .returned (.int .u32 (keyN s)) ∧ w = w' := by
  unfold maxLen at hs
  go_enter Try.func89, Try.ntmps89
  go_wp2
  go_loop [3, 7] (fun n i => ∃ k : Nat, k ≤ s.size ∧ i = .int .i64 k ∧ n = .int .u32 (fnv (s.data.toList.take k))) (fun _ i => s.size - (intOf i).toNat)
  case atStart => exact ⟨0, Nat.zero_le _, rfl, rfl⟩
  case round =>
    obtain ⟨k, hk, rfl, rfl⟩ := hrel
    by_cases hlt : k < s.size
    · have hl := fnv_lt (s.data.toList.take k)
      have hst := fnv_snoc (s.data.toList.take k) s[k]
      rw [← take_snoc s k hlt] at hst
      have HS := Lib.hid hst
      clear hst
      generalize fnv (s.data.toList.take k) = n at *
      go_wp2
      go_round
      case rel => exact ⟨k + 1, by omega, by go_num, by rw [HS.out, fnv_cast n s[k] hl]⟩
      case measure => simp [intOf]; omega
    · have hkk : k = s.size := by omega
      have HK := Lib.hid hkk
      clear hkk
      go_wp2
      go_ret
      exact ⟨by rw [HK.out, keyN, List.take_of_length_le (by simp)]; rfl, rfl⟩

def mayK (s : ByteArray) : Bool := decide (1 ≤ s.size) && decide (s.size ≤ 20)
theorem fnv_may (w : World) (s : ByteArray) (hs : s.size ≤ maxLen) :
    Calls Try.prog 70 #[.string s] w fun e w' => e = .returned (.bool (mayK s)) ∧ w = w' := by
  unfold maxLen at hs
  unfold mayK
  by_cases h : s.size = 0
  · obtain rfl : s = ByteArray.empty := by
      cases s with | mk d => cases d with | mk l => cases l with
        | nil => rfl
        | cons a l => simp [ByteArray.size] at h
    go_enter Try.func70, Try.ntmps70
    go_wp2
    go_ret
    exact ⟨by simp, rfl⟩
  · have he : s.toList.isEmpty = false := by
      rw [Lib.toList_data]
      cases hl : s.data.toList with
      | nil => exact absurd (by rw [← ByteArray.size_data, ← Array.length_toList, hl]; rfl) h
      | cons a l => rfl
    have h1 : 1 ≤ s.size := by omega
    have h := Lib.hid h
    go_enter Try.func70, Try.ntmps70
    go_wp2
    go_ret
    exact ⟨by simp [h1]; omega, rfl⟩
/-- A key's group. -/
def groupOf (s : ByteArray) (g : Int) : Int := if g < 1 then 0 else (keyN s : Int) % g
theorem fnv_group (w : World) (s : ByteArray) (g : Int) (hs : s.size ≤ maxLen) (hg : I64 g) :
    Calls Try.prog 68 #[.string s, .int .i64 g] w fun e w' => e = .returned (.int .i64 (groupOf s g)) ∧ w = w' := by
  have hl := fnv_lt s.data.toList
  have c1 := Lib.hid (fun w => fnv_sum w s hs)
  unfold groupOf
  unfold I64 at hg
  obtain ⟨hg1, hg2⟩ := hg
  by_cases h : g < 1
  · rw [if_pos h]
    go_enter Try.func68, Try.ntmps68
    go_wp2_with fail
    go_ret
    exact ⟨rfl, rfl⟩
  · rw [if_neg h]
    change keyN s < _ at hl
    generalize keyN s = n at *
    have hm : 0 ≤ (n : Int) % g := Int.emod_nonneg _ (by omega)
    have hm2 : (n : Int) % g < g := Int.emod_lt_of_pos _ (by omega)
    go_enter Try.func68, Try.ntmps68
    go_wp2_with fail
    refine (c1.out _).mono ?_
    rintro e w' ⟨rfl, rfl⟩
    go_wp2_with fail
    go_ret
    exact ⟨rfl, rfl⟩
end Go.Proofs.Ytlnlbegcnhelmaa
