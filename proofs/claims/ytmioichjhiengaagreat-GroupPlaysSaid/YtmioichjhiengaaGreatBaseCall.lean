/-
  Texts of one kind, one behind the other.
-/
import Derived.Test.YtmioichjhiengaaGreatBaseA
import Derived.Test.YtmioichjhiengaaGreatBaseOf
import Derived.Lib.Hide
import Derived.Lib.Bytealg
set_option linter.unusedSimpArgs false
set_option linter.unusedVariables false
/-
  The contracts of package fnv and of the reference's number of a key.
-/
namespace Go.Proofs.YtmioichjhiengaaGreat
open Go.RowKit

/-- One byte more. -/
def fnvStep (n : Nat) (c : UInt8) : Nat := ((n ^^^ c.toNat) * 16777619) % 4294967296
def fnv (l : List UInt8) : Nat := l.foldl fnvStep 2166136261
theorem fnvStep_lt (n : Nat) (c : UInt8) : fnvStep n c < 4294967296 := by
  unfold fnvStep
  generalize (n ^^^ c.toNat) * 16777619 = m
  omega
theorem foldl_snoc {α β : Type} (f : β → α → β) (b : β) (l : List α) (a : α) : (l ++ [a]).foldl f b = f (l.foldl f b) a := by simp
theorem fnv_snoc (l : List UInt8) (c : UInt8) : fnv (l ++ [c]) = fnvStep (fnv l) c := foldl_snoc fnvStep 2166136261 l c
theorem fnv_lt_from (l : List UInt8) : ∀ n, n < 4294967296 → l.foldl fnvStep n < 4294967296 := by
  induction l with
  | nil => intro n h; exact h
  | cons c l ih => intro n _; exact ih _ (fnvStep_lt n c)
theorem fnv_lt (l : List UInt8) : fnv l < 4294967296 := fnv_lt_from l _ (by omega)
theorem take_snoc (s : ByteArray) (k : Nat) (h : k < s.size) : s.data.toList.take (k + 1) = s.data.toList.take k ++ [s[k]] := by
  rw [List.take_succ_eq_append_getElem (by simpa using h)]; rfl
def keyN (s : ByteArray) : Nat := fnv s.data.toList

theorem fnv_cast (n : Nat) (c : UInt8) (hn : n < 4294967296) : bits .xor .u32 (n : Int) ((c.toNat : Int) % 4294967296) * 16777619 % 4294967296 = ((fnvStep n c : Nat) : Int) := by
  have h1 : c.toNat < 256 := c.toNat_lt
  have h2 : (c.toNat : Int) % 4294967296 = (c.toNat : Int) := by omega
  rw [h2, u32_xor_nat n c.toNat hn (by omega)]
  unfold fnvStep
  generalize n ^^^ c.toNat = m
  omega


def mayK (s : ByteArray) : Bool := decide (1 ≤ s.size) && decide (s.size ≤ 20)
theorem fnv_may (w : World) (s : ByteArray) (hs : s.size ≤ maxLen) :
    Calls Tryz.prog 98 #[.string s] w fun e w' => e = .returned (.bool (mayK s)) ∧ w = w' := by
  unfold maxLen at hs
  unfold mayK
  by_cases h : s.size = 0
  · obtain rfl : s = ByteArray.empty := by
      cases s with | mk d => cases d with | mk l => cases l with
        | nil => rfl
        | cons a l => simp [ByteArray.size] at h
    go_enter Tryz.func98, Tryz.ntmps98
    go_wp2
    go_ret
    exact ⟨by simp, rfl⟩
  · have he : s.toList.isEmpty = false := by
      rw [Lib.toList_data]
      cases hl : s.data.toList with
      | nil => exact absurd (by rw [← ByteArray.size_data, ← Array.length_toList, hl]; rfl) h
      | cons a l => rfl
    have h1 : 1 ≤ s.size := by omega
    have h := Lib.hid h
    go_enter Tryz.func98, Tryz.ntmps98
    go_wp2
    go_ret
    exact ⟨by simp [h1]; omega, rfl⟩
/-- A key's group. -/
def groupOf (s : ByteArray) (g : Int) : Int := if g < 1 then 0 else (keyN s : Int) % g
end Go.Proofs.YtmioichjhiengaaGreat

/-
  The contracts of package call.
-/
namespace Go.Proofs.YtmioichjhiengaaGreat
open Go.RowKit

def Call.keyedB (x : Call) : Bool := x.op == 1 || x.op == 2 || x.op == 4 || x.op == 5
def in0 (n m : Int) : Bool := decide (0 ≤ n) && decide (n < m)
/-- What a call must be beside its config. -/
def Call.restB (c : Config) (x : Call) : Bool :=
  if x.keyedB && !mayK x.key then false else if x.op = 4 then decide (x.time < x.fin) else if x.op = 6 then in0 x.group c.groups && in0 x.shard c.shards else true
def Call.mayB (c : Config) (x : Call) : Bool := c.mayB && decide (1 ≤ x.op) && decide (x.op ≤ 7) && x.restB c
def Call.groupI (c : Config) (x : Call) : Int := if x.keyedB then groupOf x.key c.groups else if x.op = 6 then x.group else -1

theorem call_keyed (w : World) (x : Call) : Calls Tryz.prog 62 #[.agg x.cells.toArray] w fun e w' => e = .returned (.bool x.keyedB) ∧ Keep none_ w w' := by
  obtain ⟨op, key, time, value, fin, group, shard⟩ := x
  unfold Call.keyedB
  by_cases h1 : op = 1
  · subst h1
    go_enter Tryz.func62, Tryz.ntmps62
    go_wp2
    go_ret
    exact ⟨by simp, (by repeat' (first | exact Keep.refl _ _ | refine Keep.set1 ?_ _ | refine Keep.alloc ?_ _ | refine Keep.drew ?_ | refine Keep.setNew ?_ (by simp) _))⟩
  have b1 : (op == 1) = false := by simp [h1]
  by_cases h2 : op = 2
  · subst h2
    go_enter Tryz.func62, Tryz.ntmps62
    go_wp2
    go_ret
    exact ⟨by simp, (by repeat' (first | exact Keep.refl _ _ | refine Keep.set1 ?_ _ | refine Keep.alloc ?_ _ | refine Keep.drew ?_ | refine Keep.setNew ?_ (by simp) _))⟩
  have b2 : (op == 2) = false := by simp [h2]
  by_cases h4 : op = 4
  · subst h4
    go_enter Tryz.func62, Tryz.ntmps62
    go_wp2
    go_ret
    exact ⟨by simp, (by repeat' (first | exact Keep.refl _ _ | refine Keep.set1 ?_ _ | refine Keep.alloc ?_ _ | refine Keep.drew ?_ | refine Keep.setNew ?_ (by simp) _))⟩
  have b4 : (op == 4) = false := by simp [h4]
  by_cases h5 : op = 5
  · subst h5
    go_enter Tryz.func62, Tryz.ntmps62
    go_wp2
    go_ret
    exact ⟨by simp, (by repeat' (first | exact Keep.refl _ _ | refine Keep.set1 ?_ _ | refine Keep.alloc ?_ _ | refine Keep.drew ?_ | refine Keep.setNew ?_ (by simp) _))⟩
  have b5 : (op == 5) = false := by simp [h5]
  go_enter Tryz.func62, Tryz.ntmps62
  go_wp2
  go_ret
  exact ⟨by simp [b1, b2, b4, b5], (by repeat' (first | exact Keep.refl _ _ | refine Keep.set1 ?_ _ | refine Keep.alloc ?_ _ | refine Keep.drew ?_ | refine Keep.setNew ?_ (by simp) _))⟩

theorem call_in (w : World) (n m : Int) : Calls Tryz.prog 100 #[.int .i64 n, .int .i64 m] w fun e w' => e = .returned (.bool (in0 n m)) ∧ w = w' := by
  unfold in0
  by_cases h : 0 ≤ n
  · go_enter Tryz.func100, Tryz.ntmps100
    go_wp2
    go_ret
    exact ⟨by simp [h], rfl⟩
  · go_enter Tryz.func100, Tryz.ntmps100
    go_wp2
    go_ret
    have h : ¬ 0 ≤ n := by omega
    exact ⟨by simp [h], rfl⟩


theorem span_may' (w : World) (a b : Int) : Calls Tryz.prog 99 #[.agg #[.int .i64 a, .int .i64 b]] w fun e w' => e = .returned (.bool (decide (a < b))) ∧ Keep none_ w w' := by
  go_enter Tryz.func99, Tryz.ntmps99
  go_wp2
  go_ret
  exact ⟨rfl, (by repeat' (first | exact Keep.refl _ _ | refine Keep.set1 ?_ _ | refine Keep.alloc ?_ _ | refine Keep.drew ?_ | refine Keep.setNew ?_ (by simp) _))⟩

set_option maxHeartbeats 1000000 in
theorem call_may (w : World) (c : Config) (x : Call) (hc : c.ok) (hx : x.ok) : Calls Tryz.prog 61 #[.agg c.cells.toArray, .agg x.cells.toArray] w fun e w' => e = .returned (.bool (x.mayB c)) ∧ Keep none_ w w' := by
  have c0 := Lib.hid (fun w => assign_may w c hc)
  have c1 := Lib.hid (fun w => call_keyed w x)
  have c2 := Lib.hid (fun w => fnv_may w x.key hx.2.1)
  have c3 := Lib.hid (fun w => span_may' w x.time x.fin)
  have c4 := Lib.hid (fun w => call_in w x.group c.groups)
  have c5 := Lib.hid (fun w => call_in w x.shard c.shards)
  have ax := At.newAt (w := w.alloc (.cells c.cells.toArray 23)) (n := w.heap.size + 1) (by simp) x.cells.toArray 60
  have ac := At.alloc (At.new w c.cells.toArray 23) (.cells x.cells.toArray 60)
  have kk : Keep none_ w ((w.alloc (.cells c.cells.toArray 23)).alloc (.cells x.cells.toArray 60)) := (by repeat' (first | exact Keep.refl _ _ | refine Keep.set1 ?_ _ | refine Keep.alloc ?_ _ | refine Keep.drew ?_ | refine Keep.setNew ?_ (by simp) _))
  simp only [Config.cells, Call.cells] at ax ac kk
  obtain ⟨r, hr⟩ : ∃ r, r = x.mayB c := ⟨_, rfl⟩
  rw [← hr]
  unfold Call.mayB Call.restB at hr
  replace hr := Lib.hid hr
  generalize in0 x.group c.groups = z1 at *
  generalize in0 x.shard c.shards = z2 at *
  generalize x.keyedB = b at *
  generalize mayK x.key = bk_ at *
  generalize c.mayB = bm at *
  go_enter Tryz.func61, Tryz.ntmps61
  go_wp2_with fail
  refine (c0.out _).mono ?_
  rintro e w1 ⟨rfl, k⟩
  replace ax := Keep.at k ax (fun e => e)
  replace ac := Keep.at k ac (fun e => e)
  replace kk := kk.trans k
  have cx := At.cell ax
  have cc := At.cell ac
  clear k
  cases bm
  · go_wp2_with fail
    go_ret
    exact ⟨by rw [hr.out]; simp, kk⟩
  by_cases o1 : x.op < 1
  · go_wp2_with fail
    go_ret
    have o1 : ¬ 1 ≤ x.op := by omega
    exact ⟨by rw [hr.out]; simp [o1], kk⟩
  by_cases o7 : 7 < x.op
  · go_wp2_with fail
    go_ret
    have o7 : ¬ x.op ≤ 7 := by omega
    exact ⟨by rw [hr.out]; simp [o7], kk⟩
  have o1' : 1 ≤ x.op := by omega
  have o7' : x.op ≤ 7 := by omega
  go_wp2_with fail
  refine (c1.out _).mono ?_
  rintro e w2 ⟨rfl, k⟩
  replace ax := Keep.at k ax (fun e => e)
  replace ac := Keep.at k ac (fun e => e)
  replace kk := kk.trans k
  have cx := At.cell ax
  have cc := At.cell ac
  clear k
  cases b
  · by_cases h4 : x.op = 4
    · have h6 : (x.op == 4) = true := by simp [h4]
      go_wp2_with fail
      refine (c3.out _).mono ?_
      rintro e w3 ⟨rfl, k⟩
      go_wp2_with fail
      go_ret
      exact ⟨by rw [hr.out]; first | simp [h4, h5, o1', o7'] | simp [h4, o1', o7'] | simp [o1', o7'], kk.trans k⟩
    · have h6 : (x.op == 4) = false := by simp [h4]
      by_cases h5 : x.op = 6
      · have h7 : (x.op == 6) = true := by simp [h5]
        cases z1
        · go_wp2_with fail
          refine (c4.out _).mono ?_
          rintro e w' ⟨rfl, rfl⟩
          go_wp2_with fail
          go_ret
          exact ⟨by rw [hr.out]; first | simp [h4, h5, o1', o7'] | simp [h4, o1', o7'] | simp [o1', o7'], kk⟩
        · go_wp2_with fail
          refine (c4.out _).mono ?_
          rintro e w' ⟨rfl, rfl⟩
          go_wp2_with fail
          refine (c5.out _).mono ?_
          rintro e w' ⟨rfl, rfl⟩
          go_wp2_with fail
          go_ret
          exact ⟨by rw [hr.out]; first | simp [h4, h5, o1', o7'] | simp [h4, o1', o7'] | simp [o1', o7'], kk⟩
      · have h7 : (x.op == 6) = false := by simp [h5]
        go_wp2_with fail
        go_ret
        exact ⟨by rw [hr.out]; simp [o1', o7', h4, h5], kk⟩
  · cases bk_
    · go_wp2_with fail
      refine (c2.out _).mono ?_
      rintro e w' ⟨rfl, rfl⟩
      go_wp2_with fail
      go_ret
      exact ⟨by rw [hr.out]; first | simp [h4, h5, o1', o7'] | simp [h4, o1', o7'] | simp [o1', o7'], kk⟩
    · by_cases h4 : x.op = 4
      · have h6 : (x.op == 4) = true := by simp [h4]
        go_wp2_with fail
        refine (c2.out _).mono ?_
        rintro e w' ⟨rfl, rfl⟩
        go_wp2_with fail
        refine (c3.out _).mono ?_
        rintro e w3 ⟨rfl, k⟩
        go_wp2_with fail
        go_ret
        exact ⟨by rw [hr.out]; first | simp [h4, h5, o1', o7'] | simp [h4, o1', o7'] | simp [o1', o7'], kk.trans k⟩
      · have h6 : (x.op == 4) = false := by simp [h4]
        by_cases h5 : x.op = 6
        · have h7 : (x.op == 6) = true := by simp [h5]
          cases z1
          · go_wp2_with fail
            refine (c2.out _).mono ?_
            rintro e w' ⟨rfl, rfl⟩
            go_wp2_with fail
            refine (c4.out _).mono ?_
            rintro e w' ⟨rfl, rfl⟩
            go_wp2_with fail
            go_ret
            exact ⟨by rw [hr.out]; first | simp [h4, h5, o1', o7'] | simp [h4, o1', o7'] | simp [o1', o7'], kk⟩
          · go_wp2_with fail
            refine (c2.out _).mono ?_
            rintro e w' ⟨rfl, rfl⟩
            go_wp2_with fail
            refine (c4.out _).mono ?_
            rintro e w' ⟨rfl, rfl⟩
            go_wp2_with fail
            refine (c5.out _).mono ?_
            rintro e w' ⟨rfl, rfl⟩
            go_wp2_with fail
            go_ret
            exact ⟨by rw [hr.out]; first | simp [h4, h5, o1', o7'] | simp [h4, o1', o7'] | simp [o1', o7'], kk⟩
        · have h7 : (x.op == 6) = false := by simp [h5]
          go_wp2_with fail
          refine (c2.out _).mono ?_
          rintro e w' ⟨rfl, rfl⟩
          go_wp2_with fail
          go_ret
          exact ⟨by rw [hr.out]; simp [o1', o7', h4, h5], kk⟩
end Go.Proofs.YtmioichjhiengaaGreat
