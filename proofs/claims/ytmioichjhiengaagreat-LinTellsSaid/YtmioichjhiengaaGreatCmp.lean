/-
  cmp's order: cmp.Compare, cmp.Or.
-/
import Derived.Test.YtmioichjhiengaaGreatBaseA
import Derived.Lib.Hide
import Derived.Laws.Cover1
set_option linter.unusedSimpArgs false
set_option linter.unusedVariables false
namespace Go.Proofs.YtmioichjhiengaaGreat
open Go.RowKit

def cmpI (a b : Int) : Int := if a < b then -1 else if b < a then 1 else 0
def orI : List Int → Int
  | [] => 0
  | a :: l => if a ≠ 0 then a else orI l

theorem cmp_int64 (w : World) (a b : Int) : Calls Tryz.prog 132 #[.int .i64 a, .int .i64 b] w fun e w' => e = .returned (.int .i64 (cmpI a b)) ∧ w = w' := by
  unfold cmpI
  by_cases h : a < b
  · rw [if_pos h]
    go_enter Tryz.func132, Tryz.ntmps132
    go_wp2
    go_ret
    exact ⟨rfl, rfl⟩
  · by_cases h2 : b < a
    · rw [if_neg h, if_pos h2]
      go_enter Tryz.func132, Tryz.ntmps132
      go_wp2
      go_ret
      exact ⟨rfl, rfl⟩
    · rw [if_neg h, if_neg h2]
      go_enter Tryz.func132, Tryz.ntmps132
      go_wp2
      go_ret
      exact ⟨rfl, rfl⟩

theorem orI_skip {l : List Int} {k : Nat} (h : ∀ j, j < k → l[j]?.getD 0 = 0) : orI l = orI (l.drop k) := by
  induction k generalizing l with
  | zero => rfl
  | succ k ih =>
    cases l with
    | nil => simp
    | cons a l =>
      have h0 := h 0 (by omega)
      simp at h0
      subst h0
      rw [List.drop_succ_cons, ← ih (fun j hj => by have := h (j + 1) (by omega); simpa using this)]
      simp [orI]

theorem cmp_or (w : World) (q cap : Nat) (l : List Int) (hl : l.length ≤ 9) (h : ∀ j (hj : j < l.length), w.cell? ⟨q, j, none⟩ = some (.int .i64 l[j])) :
    Calls Tryz.prog 131 #[.slice (some ⟨q, 0, none⟩) l.length cap] w fun e w' => e = .returned (.int .i64 (orI l)) ∧ w = w' := by
  go_enter Tryz.func131, Tryz.ntmps131
  go_wp2
  go_loop [8] (fun i => ∃ k : Nat, k ≤ l.length ∧ i = .int .i64 k ∧ ∀ j, j < k → l[j]?.getD 0 = 0) (fun i => l.length - (intOf i).toNat)
  case atStart => exact ⟨0, Nat.zero_le _, rfl, fun j hj => absurd hj (Nat.not_lt_zero _)⟩
  case round =>
    obtain ⟨k, hk, rfl, hz⟩ := hrel
    by_cases hlt : k < l.length
    · have hc := h k hlt
      have hd : l.drop k = l[k] :: l.drop (k + 1) := List.drop_eq_getElem_cons hlt
      have HZ := Lib.hid hz
      clear h hz
      by_cases h0 : l[k] = 0
      · have hb : (l[k] != 0) = false := by simp [h0]
        have H0 := Lib.hid h0
        clear h0 hd
        go_wp2
        go_round
        case rel => exact ⟨k + 1, by omega, by go_num, fun j hj => by
          by_cases hjk : j < k
          · exact HZ.out j hjk
          · have : j = k := by omega
            subst this; simp [hlt, H0.out]⟩
        case measure => simp [intOf]; omega
      · have hb : (l[k] != 0) = true := by simp [h0]
        have hr : orI l = l[k] := by rw [orI_skip HZ.out, hd]; simp [orI, h0]
        have HR := Lib.hid hr
        clear h0 hd hr
        go_wp2
        go_ret
        exact ⟨by rw [HR.out]; rfl, rfl⟩
    · have hkl : k = l.length := by omega
      have hr : orI l = 0 := by rw [orI_skip hz, hkl]; simp [orI]
      have HR := Lib.hid hr
      clear hr hz hkl h
      go_wp2
      go_ret
      exact ⟨by rw [HR.out]; rfl, rfl⟩


/-- The order of strings: byte by byte. -/
def ltL : List UInt8 → List UInt8 → Bool := Op.bytesLess
theorem ltL_irr : ∀ a, ltL a a = false
  | [] => by simp [ltL, Op.bytesLess]
  | x :: r => by
    have := ltL_irr r
    unfold ltL at *
    simp [Op.bytesLess, this]
theorem ltL_tri : ∀ a b, ltL a b = false → ltL b a = false → a = b
  | [], [], _, _ => rfl
  | [], y :: b, h, _ => by simp [ltL, Op.bytesLess] at h
  | x :: a, [], _, h => by simp [ltL, Op.bytesLess] at h
  | x :: a, y :: b, h1, h2 => by
    simp only [ltL, Op.bytesLess, Bool.or_eq_false_iff, Bool.and_eq_false_iff, decide_eq_false_iff_not, beq_eq_false_iff_ne] at h1 h2
    have hxy : x = y := by
      apply UInt8.toNat_inj.1
      have e1 := h1.1
      have e2 := h2.1
      rw [UInt8.lt_iff_toNat_lt] at e1 e2
      omega
    subst hxy
    rw [ltL_tri a b (by simpa [ltL] using h1.2) (by simpa [ltL] using h2.2)]
theorem ltL_trans : ∀ a b c, ltL a b = true → ltL b c = true → ltL a c = true
  | [], [], _, h, _ => by simp [ltL, Op.bytesLess] at h
  | _ :: _, [], _, h, _ => by simp [ltL, Op.bytesLess] at h
  | _, _ :: _, [], _, h => by simp [ltL, Op.bytesLess] at h
  | [], _ :: _, _ :: _, _, _ => by simp [ltL, Op.bytesLess]
  | x :: a, y :: b, z :: c, h1, h2 => by
    simp only [ltL, Op.bytesLess, Bool.or_eq_true, Bool.and_eq_true, decide_eq_true_eq, beq_iff_eq] at h1 h2 ⊢
    rcases h1 with h1 | ⟨rfl, h1⟩
    · rcases h2 with h2 | ⟨rfl, h2⟩
      · left
        exact UInt8.lt_iff_toNat_lt.2 (Nat.lt_trans (UInt8.lt_iff_toNat_lt.1 h1) (UInt8.lt_iff_toNat_lt.1 h2))
      · exact .inl h1
    · rcases h2 with h2 | ⟨rfl, h2⟩
      · exact .inl h2
      · exact .inr ⟨rfl, ltL_trans a b c h1 h2⟩

def ltB (a b : ByteArray) : Bool := Op.bytesLess a.toList b.toList
def eqS (a b : ByteArray) : Bool := a.toList == b.toList
theorem toList_inj {a b : ByteArray} (h : a.toList = b.toList) : a = b := by
  rw [ByteArray.toList_eq, ByteArray.toList_eq] at h
  exact ByteArray.ext (Array.ext' h)
theorem eqS_iff {a b : ByteArray} : eqS a b = true ↔ a = b := by
  unfold eqS
  rw [beq_iff_eq]
  exact ⟨toList_inj, fun h => h ▸ rfl⟩
theorem ltB_irr (a : ByteArray) : ltB a a = false := ltL_irr _
theorem ltB_trans {a b c : ByteArray} (h : ltB a b = true) (h2 : ltB b c = true) : ltB a c = true := ltL_trans _ _ _ h h2
theorem ltB_tri {a b : ByteArray} (h : ltB a b = false) (h2 : ltB b a = false) : a = b := toList_inj (ltL_tri _ _ h h2)

def cmpS (a b : ByteArray) : Int := if ltB a b then -1 else if eqS a b then 0 else 1
theorem nan_str (w : World) (a : ByteArray) : Calls Tryz.prog 158 #[.string a] w fun e w' => e = .returned (.bool false) ∧ w = w' := by
  have h : (a.toList == a.toList) = true := by simp
  go_enter Tryz.func158, Tryz.ntmps158
  go_wp2
  go_ret
  exact ⟨rfl, rfl⟩
theorem cmp_str (w : World) (a b : ByteArray) : Calls Tryz.prog 185 #[.string a, .string b] w fun e w' => e = .returned (.int .i64 (cmpS a b)) ∧ w = w' := by
  have ca := fun w => nan_str w a
  have cb := fun w => nan_str w b
  replace ca := Lib.hid ca
  replace cb := Lib.hid cb
  unfold cmpS ltB eqS
  by_cases h : Op.bytesLess a.toList b.toList = true
  · rw [if_pos h]
    go_enter Tryz.func185, Tryz.ntmps185
    go_wp2_with fail
    refine (ca.out _).mono ?_
    rintro e w1 ⟨rfl, rfl⟩
    go_wp2_with fail
    refine (cb.out _).mono ?_
    rintro e w1 ⟨rfl, rfl⟩
    go_wp2_with fail
    go_ret
    exact ⟨rfl, rfl⟩
  · rw [if_neg h]
    have h' : Op.bytesLess a.toList b.toList = false := by simpa using h
    clear h
    by_cases h2 : (a.toList == b.toList) = true
    · rw [if_pos h2]
      go_enter Tryz.func185, Tryz.ntmps185
      go_wp2_with fail
      refine (ca.out _).mono ?_
      rintro e w1 ⟨rfl, rfl⟩
      go_wp2_with fail
      refine (cb.out _).mono ?_
      rintro e w1 ⟨rfl, rfl⟩
      go_wp2_with fail

      go_ret
      exact ⟨rfl, rfl⟩
    · rw [if_neg h2]
      have h2' : (a.toList == b.toList) = false := by simpa using h2
      clear h2
      go_enter Tryz.func185, Tryz.ntmps185
      go_wp2_with fail
      refine (ca.out _).mono ?_
      rintro e w1 ⟨rfl, rfl⟩
      go_wp2_with fail
      refine (cb.out _).mono ?_
      rintro e w1 ⟨rfl, rfl⟩
      go_wp2_with fail
      go_ret
      exact ⟨rfl, rfl⟩
end Go.Proofs.YtmioichjhiengaaGreat
