/-
  The contracts of package fnv and of the reference's number of a key.
-/
import Derived.Test.YtmioichjhiengaaData
import Derived.Test.YtmioichjhiengaaRegion
import Derived.Lib.Hide
import Derived.Lib.Bytealg
namespace Go.Proofs.Ytmioichjhiengaa
open Go.RowKit

/-- One byte more. -/
def fnvStep (n : Nat) (c : UInt8) : Nat := ((n ^^^ c.toNat) * 16777619) % 4294967296
def fnv (l : List UInt8) : Nat := l.foldl fnvStep 2166136261
theorem fnvStep_lt (n : Nat) (c : UInt8) : fnvStep n c < 4294967296 := by
  unfold fnvStep
  generalize (n ^^^ c.toNat) * 16777619 = m
  omega
theorem foldl_snoc {α β : Type} (f : β → α → β) (b : β) (l : List α) (a : α) : (l ++ [a]).foldl f b = f (l.foldl f b) a := by simp
theorem fnv_snoc (l : List UInt8) (c : UInt8) : fnv (l ++ [c]) = fnvStep (fnv l) c := foldl_snoc fnvStep 2166136261 l c
theorem fnv_lt_from (l : List UInt8) : ∀ n, n < 4294967296 → l.foldl fnvStep n < 4294967296 := by
  induction l with
  | nil => intro n h; exact h
  | cons c l ih => intro n _; exact ih _ (fnvStep_lt n c)
theorem fnv_lt (l : List UInt8) : fnv l < 4294967296 := fnv_lt_from l _ (by omega)
theorem take_snoc (s : ByteArray) (k : Nat) (h : k < s.size) : s.data.toList.take (k + 1) = s.data.toList.take k ++ [s[k]] := by
  rw [List.take_succ_eq_append_getElem (by simpa using h)]; rfl
def keyN (s : ByteArray) : Nat := fnv s.data.toList

theorem fnv_cast (n : Nat) (c : UInt8) (hn : n < 4294967296) : bits .xor .u32 (n : Int) ((c.toNat : Int) % 4294967296) * 16777619 % 4294967296 = ((fnvStep n c : Nat) : Int) := by
  have h1 : c.toNat < 256 := c.toNat_lt
  have h2 : (c.toNat : Int) % 4294967296 = (c.toNat : Int) := by omega
  rw [h2, u32_xor_nat n c.toNat hn (by omega)]
  unfold fnvStep
  generalize n ^^^ c.toNat = m
  omega


def mayK (s : ByteArray) : Bool := decide (1 ≤ s.size) && decide (s.size ≤ 20)
theorem fnv_may (w : World) (s : ByteArray) (hs : s.size ≤ maxLen) :
    Calls Try.prog 101 #[.string s] w fun e w' => e = .returned (.bool (mayK s)) ∧ w = w' := by
  unfold maxLen at hs
  unfold mayK
  by_cases h : s.size = 0
  · obtain rfl : s = ByteArray.empty := by
      cases s with | mk d => cases d with | mk l => cases l with
        | nil => rfl
        | cons a l => simp [ByteArray.size] at h
    go_enter Try.func101, Try.ntmps101
    go_wp2
    go_ret
    exact ⟨by simp, rfl⟩
  · have he : s.toList.isEmpty = false := by
      rw [Lib.toList_data]
      cases hl : s.data.toList with
      | nil => exact absurd (by rw [← ByteArray.size_data, ← Array.length_toList, hl]; rfl) h
      | cons a l => rfl
    have h1 : 1 ≤ s.size := by omega
    have h := Lib.hid h
    go_enter Try.func101, Try.ntmps101
    go_wp2
    go_ret
    exact ⟨by simp [h1]; omega, rfl⟩
/-- A key's group. -/
def groupOf (s : ByteArray) (g : Int) : Int := if g < 1 then 0 else (keyN s : Int) % g
end Go.Proofs.Ytmioichjhiengaa
