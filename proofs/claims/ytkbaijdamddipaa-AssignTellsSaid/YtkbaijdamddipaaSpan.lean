/-
  The contracts of package span, of cmp's order, and of the reference's windows.
-/
import Derived.Test.YtkbaijdamddipaaNum
namespace Go.Proofs.Ytkbaijdamddipaa
open Go.RowKit

def cmpI (a b : Int) : Int := if a < b then -1 else if b < a then 1 else 0
def orI : List Int → Int
  | [] => 0
  | a :: l => if a ≠ 0 then a else orI l

theorem cmp_int64 (w : World) (a b : Int) : Calls Try.prog 72 #[.int .i64 a, .int .i64 b] w fun e w' => e = .returned (.int .i64 (cmpI a b)) ∧ w = w' := by
  unfold cmpI
  by_cases h : a < b
  · rw [if_pos h]
    go_enter Try.func72, Try.ntmps72
    go_wp2
    go_ret
    exact ⟨rfl, rfl⟩
  · by_cases h2 : b < a
    · rw [if_neg h, if_pos h2]
      go_enter Try.func72, Try.ntmps72
      go_wp2
      go_ret
      exact ⟨rfl, rfl⟩
    · rw [if_neg h, if_neg h2]
      go_enter Try.func72, Try.ntmps72
      go_wp2
      go_ret
      exact ⟨rfl, rfl⟩

theorem orI_skip {l : List Int} {k : Nat} (h : ∀ j, j < k → l[j]?.getD 0 = 0) : orI l = orI (l.drop k) := by
  induction k generalizing l with
  | zero => rfl
  | succ k ih =>
    cases l with
    | nil => simp
    | cons a l =>
      have h0 := h 0 (by omega)
      simp at h0
      subst h0
      rw [List.drop_succ_cons, ← ih (fun j hj => by have := h (j + 1) (by omega); simpa using this)]
      simp [orI]

theorem cmp_or (w : World) (q cap : Nat) (l : List Int) (hl : l.length ≤ 9) (h : ∀ j (hj : j < l.length), w.cell? ⟨q, j, none⟩ = some (.int .i64 l[j])) :
    Calls Try.prog 71 #[.slice (some ⟨q, 0, none⟩) l.length cap] w fun e w' => e = .returned (.int .i64 (orI l)) ∧ w = w' := by
  go_enter Try.func71, Try.ntmps71
  go_wp2
  go_loop [8] (fun i => ∃ k : Nat, k ≤ l.length ∧ i = .int .i64 k ∧ ∀ j, j < k → l[j]?.getD 0 = 0) (fun i => l.length - (intOf i).toNat)
  case atStart => exact ⟨0, Nat.zero_le _, rfl, fun j hj => absurd hj (Nat.not_lt_zero _)⟩
  case round =>
    obtain ⟨k, hk, rfl, hz⟩ := hrel
    by_cases hlt : k < l.length
    · have hc := h k hlt
      have hd : l.drop k = l[k] :: l.drop (k + 1) := List.drop_eq_getElem_cons hlt
      have HZ := Lib.hid hz
      clear h hz
      by_cases h0 : l[k] = 0
      · have hb : (l[k] != 0) = false := by simp [h0]
        have H0 := Lib.hid h0
        clear h0 hd
        go_wp2
        go_round
        case rel => exact ⟨k + 1, by omega, by go_num, fun j hj => by
          by_cases hjk : j < k
          · exact HZ.out j hjk
          · have : j = k := by omega
            subst this; simp [hlt, H0.out]⟩
        case measure => simp [intOf]; omega
      · have hb : (l[k] != 0) = true := by simp [h0]
        have hr : orI l = l[k] := by rw [orI_skip HZ.out, hd]; simp [orI, h0]
        have HR := Lib.hid hr
        clear h0 hd hr
        go_wp2
        go_ret
        exact ⟨by rw [HR.out]; rfl, rfl⟩
    · have hkl : k = l.length := by omega
      have hr : orI l = 0 := by rw [orI_skip hz, hkl]; simp [orI]
      have HR := Lib.hid hr
      clear hr hz hkl h
      go_wp2
      go_ret
      exact ⟨by rw [HR.out]; rfl, rfl⟩

def Span.mayB (s : Span) : Bool := decide (s.s < s.e)
def Span.hasB (s : Span) (t : Int) : Bool := decide (s.s ≤ t) && decide (t < s.e)
def Span.meetB (a b : Span) : Bool := a.mayB && b.mayB && decide (a.s < b.e) && decide (b.s < a.e)
def Span.join (a b : Span) : Span := ⟨if b.s < a.s then b.s else a.s, if a.e < b.e then b.e else a.e⟩
def Span.overB (s : Span) (late mark : Int) : Bool := decide (s.e + late ≤ mark)
def Span.cmp (a b : Span) : Int := orI [cmpI a.s b.s, cmpI a.e b.e]

theorem span_may (w : World) (s : Span) : Calls Try.prog 48 #[.agg s.cells.toArray] w fun e w' => e = .returned (.bool s.mayB) ∧ Keep none_ w w' := by
  go_enter Try.func48, Try.ntmps48
  go_wp2
  go_ret
  exact ⟨rfl, (by repeat' (first | exact Keep.refl _ _ | refine Keep.set1 ?_ _ | refine Keep.alloc ?_ _ | refine Keep.drew ?_ | refine Keep.setNew ?_ (by simp) _))⟩
theorem span_has (w : World) (s : Span) (t : Int) : Calls Try.prog 49 #[.agg s.cells.toArray, .int .i64 t] w fun e w' => e = .returned (.bool (s.hasB t)) ∧ Keep none_ w w' := by
  unfold Span.hasB
  by_cases h : s.s ≤ t
  · go_enter Try.func49, Try.ntmps49
    go_wp2
    go_ret
    exact ⟨by simp [h], (by repeat' (first | exact Keep.refl _ _ | refine Keep.set1 ?_ _ | refine Keep.alloc ?_ _ | refine Keep.drew ?_ | refine Keep.setNew ?_ (by simp) _))⟩
  · go_enter Try.func49, Try.ntmps49
    go_wp2
    go_ret
    exact ⟨by have h' : ¬ s.s ≤ t := by omega
              simp [h'], (by repeat' (first | exact Keep.refl _ _ | refine Keep.set1 ?_ _ | refine Keep.alloc ?_ _ | refine Keep.drew ?_ | refine Keep.setNew ?_ (by simp) _))⟩

theorem span_meet (w : World) (a b : Span) : Calls Try.prog 51 #[.agg a.cells.toArray, .agg b.cells.toArray] w fun e w' => e = .returned (.bool (a.meetB b)) ∧ Keep none_ w w' := by
  have hx := At.alloc (At.new w a.cells.toArray 62) (.cells b.cells.toArray 62)
  have hy : At ((w.alloc (.cells a.cells.toArray 62)).alloc (.cells b.cells.toArray 62)) (w.heap.size + 1) b.cells.toArray 62 := At.newAt (by simp) _ _
  have kk : Keep none_ w ((w.alloc (.cells a.cells.toArray 62)).alloc (.cells b.cells.toArray 62)) := (by repeat' (first | exact Keep.refl _ _ | refine Keep.set1 ?_ _ | refine Keep.alloc ?_ _ | refine Keep.drew ?_ | refine Keep.setNew ?_ (by simp) _))
  simp only [Span.cells] at hx hy kk ⊢
  unfold Span.meetB
  go_enter Try.func51, Try.ntmps51
  go_wp2_with fail
  refine (span_may _ a).mono ?_
  rintro e w1 ⟨rfl, k1⟩
  replace hx := Keep.at k1 hx (fun e => e)
  replace hy := Keep.at k1 hy (fun e => e)
  replace kk := kk.trans k1
  have cx := At.cell hx
  have cy := At.cell hy
  cases ha : a.mayB
  · go_wp2_with fail
    go_ret
    exact ⟨by simp [ha], kk⟩
  · go_wp2_with fail
    refine (span_may _ b).mono ?_
    rintro e w2 ⟨rfl, k2⟩
    replace hx := Keep.at k2 hx (fun e => e)
    replace hy := Keep.at k2 hy (fun e => e)
    replace kk := kk.trans k2
    have cx := At.cell hx
    have cy := At.cell hy
    cases hb : b.mayB
    · go_wp2_with fail
      go_ret
      exact ⟨by simp [hb], kk⟩
    · by_cases h1 : a.s < b.e
      · go_wp2_with fail
        go_ret
        exact ⟨by simp [h1, ha, hb], kk⟩
      · go_wp2_with fail
        go_ret
        have h1 : ¬ a.s < b.e := by omega
        exact ⟨by simp [h1, ha, hb], kk⟩

theorem span_join (w : World) (a b : Span) : Calls Try.prog 52 #[.agg a.cells.toArray, .agg b.cells.toArray] w fun e w' => e = .returned (.agg (a.join b).cells.toArray) ∧ Keep none_ w w' := by
  simp only [Span.cells, Span.join]
  by_cases h1 : b.s < a.s <;> by_cases h2 : a.e < b.e
  all_goals
    simp only [h1, h2, if_true, if_false]
    go_enter Try.func52, Try.ntmps52
    go_wp2
    exact bodyPost_ret (v := .agg #[.int .i64 _, .int .i64 _]) (by simp [results, Try.results52, go_sem]) rfl ⟨rfl, (by repeat' (first | exact Keep.refl _ _ | refine Keep.set1 ?_ _ | refine Keep.alloc ?_ _ | refine Keep.drew ?_ | refine Keep.setNew ?_ (by simp) _))⟩

theorem span_over (w : World) (s : Span) (late mark : Int) (hs : s.ok) (hl : I64 late) (hm : I64 mark) :
    Calls Try.prog 54 #[.agg s.cells.toArray, .int .i64 late, .int .i64 mark] w fun e w' => e = .returned (.bool (s.overB late mark)) ∧ Keep none_ w w' := by
  unfold Span.overB
  by_cases h : I64 (s.e + late)
  · have c1 := Lib.hid (fun w => num_add_ok w s.e late hs.2 hl h)
    go_enter Try.func54, Try.ntmps54
    go_wp2_with fail
    refine (c1.out _).mono ?_
    rintro e w1 ⟨rfl, rfl⟩
    go_wp2_with fail
    go_ret
    exact ⟨rfl, (by repeat' (first | exact Keep.refl _ _ | refine Keep.set1 ?_ _ | refine Keep.alloc ?_ _ | refine Keep.drew ?_ | refine Keep.setNew ?_ (by simp) _))⟩
  · have c1 := Lib.hid (fun w => num_add_no w s.e late hs.2 hl h)
    have hd : decide (s.e + late ≤ mark) = decide (late < 0) := by
      obtain ⟨_, hs1, hs2⟩ := hs
      unfold I64 at *
      rw [decide_eq_decide]; omega
    rw [hd]
    clear hd
    go_enter Try.func54, Try.ntmps54
    go_wp2_with fail
    refine (c1.out _).mono ?_
    rintro e w1 ⟨rfl, rfl⟩
    go_wp2_with fail
    go_ret
    exact ⟨rfl, (by repeat' (first | exact Keep.refl _ _ | refine Keep.set1 ?_ _ | refine Keep.alloc ?_ _ | refine Keep.drew ?_ | refine Keep.setNew ?_ (by simp) _))⟩

theorem span_compare (w : World) (a b : Span) : Calls Try.prog 56 #[.agg a.cells.toArray, .agg b.cells.toArray] w fun e w' => e = .returned (.int .i64 (a.cmp b)) ∧ Keep none_ w w' := by
  have hx := At.alloc (At.new w a.cells.toArray 62) (.cells b.cells.toArray 62)
  have hy : At ((w.alloc (.cells a.cells.toArray 62)).alloc (.cells b.cells.toArray 62)) (w.heap.size + 1) b.cells.toArray 62 := At.newAt (by simp) _ _
  have kk : Keep none_ w ((w.alloc (.cells a.cells.toArray 62)).alloc (.cells b.cells.toArray 62)) := (by repeat' (first | exact Keep.refl _ _ | refine Keep.set1 ?_ _ | refine Keep.alloc ?_ _ | refine Keep.drew ?_ | refine Keep.setNew ?_ (by simp) _))
  simp only [Span.cells] at hx hy kk ⊢
  go_enter Try.func56, Try.ntmps56
  go_wp2_with fail
  generalize hw0 : (World.alloc (World.alloc w _) _) = w0 at hx hy kk ⊢
  obtain ⟨ι, hne, f, hf0, hfk, hfa⟩ := class_of none_ (w0)
  have cx : ∀ n i, (f n).cell? ⟨w.heap.size, i, none⟩ = _ := fun n => At.cell (Keep.at (hfk n) hx (fun e => e))
  have cy : ∀ n i, (f n).cell? ⟨w.heap.size + 1, i, none⟩ = _ := fun n => At.cell (Keep.at (hfk n) hy (fun e => e))
  clear hw0
  refine wp_region_class_tail f 10 (by kernel_rfl) (by kernel_rfl) hf0 ?_
  simp only [List.take_succ_cons, List.take_zero, List.drop_succ_cons, List.drop_zero]
  repeat (go_big_quiet_step ((go_at_call 72; exact Calls.class_of hfa ((cmp_int64 _ _ _).mono fun e w' h => ⟨h.1, h.2 ▸ Keep.refl _ _⟩))))
  refine wpQuiet_nil ?_
  intro n
  go_wp2_with fail
  refine (cmp_or _ _ _ [cmpI a.s b.s, cmpI a.e b.e] (by simp) (by
    intro j hj
    match j, hj with
    | 0, _ => simp
    | 1, _ => simp)).mono ?_
  rintro e w1 ⟨rfl, rfl⟩
  go_wp2_with fail
  go_ret
  exact ⟨rfl, (kk.trans (hfk n)).alloc _⟩
end Go.Proofs.Ytkbaijdamddipaa
