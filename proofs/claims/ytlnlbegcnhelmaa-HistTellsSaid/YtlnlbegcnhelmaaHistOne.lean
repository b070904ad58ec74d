/-
  hist: one event, Ahead; the comparer of points.
-/
import Derived.Test.YtlnlbegcnhelmaaEvent
import Derived.Test.YtlnlbegcnhelmaaSortInt
import Derived.Test.YtlnlbegcnhelmaaCmp
namespace Go.Proofs.Ytlnlbegcnhelmaa
open Go.RowKit

def Event.one (x : Event) : Bool := decide ((x.point = 0 ∨ x.begin_ ≤ x.point) ∧ (x.end_ = 0 ∨ (x.point ≠ 0 ∧ x.point ≤ x.end_)) ∧ 0 ≤ x.client ∧ 0 ≤ x.n ∧ 1 ≤ x.begin_)
def Event.ahead (a b : Event) : Bool := decide (0 < a.end_ ∧ a.end_ < b.begin_)

set_option maxHeartbeats 4000000 in
theorem hist_one (w : World) (x : Event) : Calls Try.prog 85 #[.agg x.cells.toArray] w fun e w' => e = .returned (.bool x.one) ∧ Keep none_ w w' := by
  have hx := At.new w x.cells.toArray 120
  have kk : Keep none_ w (w.alloc (.cells x.cells.toArray 120)) := (by repeat' (first | assumption | with_reducible exact Keep.refl _ _ | with_reducible refine Keep.alloc ?_ _ | with_reducible refine Keep.drew ?_))
  obtain ⟨cl, n, cc, code, pn, bg, pt, en⟩ := x
  unfold Event.one
  simp only [Event.cells] at *
  have cx := At.cell hx
  have p3 : pt = 0 ∨ (pt ≠ 0 ∧ bg ≤ pt) ∨ (pt ≠ 0 ∧ ¬ bg ≤ pt) := by omega
  have e3 : en = 0 ∨ (en ≠ 0 ∧ pt ≤ en) ∨ (en ≠ 0 ∧ ¬ pt ≤ en) := by omega
  have r3 : ¬ 0 ≤ cl ∨ (0 ≤ cl ∧ ¬ 0 ≤ n) ∨ (0 ≤ cl ∧ 0 ≤ n ∧ ¬ 1 ≤ bg) ∨ (0 ≤ cl ∧ 0 ≤ n ∧ 1 ≤ bg) := by omega
  rcases p3 with p | ⟨p, p'⟩ | ⟨p, p'⟩ <;> rcases e3 with e | ⟨e, e'⟩ | ⟨e, e'⟩ <;> rcases r3 with r | ⟨r, r'⟩ | ⟨r, r', r''⟩ | ⟨r, r', r''⟩
  all_goals
    first
      | rw [show decide ((pt = 0 ∨ bg ≤ pt) ∧ (en = 0 ∨ (pt ≠ 0 ∧ pt ≤ en)) ∧ 0 ≤ cl ∧ 0 ≤ n ∧ 1 ≤ bg) = true by (rw [decide_eq_true_eq]; omega)]
      | rw [show decide ((pt = 0 ∨ bg ≤ pt) ∧ (en = 0 ∨ (pt ≠ 0 ∧ pt ≤ en)) ∧ 0 ≤ cl ∧ 0 ≤ n ∧ 1 ≤ bg) = false by (rw [decide_eq_false_iff_not]; omega)]
    first
      | have hp : (pt == 0) = true := by (simp [p]; done)
      | have hp : (pt == 0) = false := by (simp [p]; done)
    first
      | have he : (en == 0) = true := by (simp [e]; done)
      | have he : (en == 0) = false := by (simp [e]; done)
    have hpn : (pt != 0) = !(pt == 0) := rfl
    rw [hp] at hpn
    simp only [Bool.not_true, Bool.not_false] at hpn
    clear p e
    go_enter Try.func85, Try.ntmps85
    go_wp2_with fail
    go_ret
    exact ⟨rfl, kk⟩
theorem hist_ahead (w : World) (x y : Event) : Calls Try.prog 66 #[.agg x.cells.toArray, .agg y.cells.toArray] w fun e w' => e = .returned (.bool (x.ahead y)) ∧ Keep none_ w w' := by
  have hx := At.alloc (At.new w x.cells.toArray 120) (.cells y.cells.toArray 120)
  have hy : At ((w.alloc (.cells x.cells.toArray 120)).alloc (.cells y.cells.toArray 120)) (w.heap.size + 1) y.cells.toArray 120 := At.newAt (by simp) _ _
  have kk : Keep none_ w ((w.alloc (.cells x.cells.toArray 120)).alloc (.cells y.cells.toArray 120)) := (by repeat' (first | assumption | with_reducible exact Keep.refl _ _ | with_reducible refine Keep.alloc ?_ _ | with_reducible refine Keep.drew ?_))
  obtain ⟨cl, n, cc, code, pn, bg, pt, en⟩ := x
  obtain ⟨cl', n', cc', code', pn', bg', pt', en'⟩ := y
  unfold Event.ahead
  simp only [Event.cells] at *
  have cx := At.cell hx
  have cy := At.cell hy
  have r3 : ¬ 0 < en ∨ (0 < en ∧ ¬ en < bg') ∨ (0 < en ∧ en < bg') := by omega
  rcases r3 with r | ⟨r, r'⟩ | ⟨r, r'⟩
  all_goals
    first
      | rw [show decide (0 < en ∧ en < bg') = true by (rw [decide_eq_true_eq]; omega)]
      | rw [show decide (0 < en ∧ en < bg') = false by (rw [decide_eq_false_iff_not]; omega)]
    go_enter Try.func66, Try.ntmps66
    go_wp2_with fail
    go_ret
    exact ⟨rfl, kk⟩

theorem nan_int (w : World) (a : Int) : Calls Try.prog 98 #[.int .i64 a] w fun e w' => e = .returned (.bool false) ∧ w = w' := by
  go_enter Try.func98, Try.ntmps98
  go_wp2
  go_ret
  exact ⟨rfl, rfl⟩
theorem cmp_int (w : World) (a b : Int) : Calls Try.prog 88 #[.int .i64 a, .int .i64 b] w fun e w' => e = .returned (.int .i64 (cmpI a b)) ∧ w = w' := by
  unfold cmpI
  by_cases h : a < b
  · rw [if_pos h]
    go_enter Try.func88, Try.ntmps88
    go_wp2
    go_ret
    exact ⟨rfl, rfl⟩
  · by_cases h2 : b < a
    · rw [if_neg h, if_pos h2]
      go_enter Try.func88, Try.ntmps88
      go_wp2
      go_ret
      exact ⟨rfl, rfl⟩
    · rw [if_neg h, if_neg h2]
      go_enter Try.func88, Try.ntmps88
      go_wp2
      go_ret
      exact ⟨rfl, rfl⟩

abbrev Evs (w : World) (A : Option Addr) (c : Nat) (l : List Event) : Prop := Sl Event.cells 14 w A l.length c l
def ptOf (l : List Event) (x : Int) : Int := match l[x.toNat]? with | some e => e.point | none => 0
def cfE (l : List Event) (x y : Int) : Int := cmpI (ptOf l x) (ptOf l y)
theorem ltC_cfE (l : List Event) (x y : Int) : ltC (cfE l) x y = decide (ptOf l x < ptOf l y) := by
  unfold ltC cfE cmpI
  rw [decide_eq_decide]
  split <;> (try split) <;> omega
theorem weak_cfE (l : List Event) : Weak (ltC (cfE l)) where
  irr a := by rw [ltC_cfE]; simp
  tra a b c h1 h2 := by rw [ltC_cfE, decide_eq_true_eq] at *; omega
  neg a b c h1 h2 := by rw [ltC_cfE, decide_eq_false_iff_not] at *; omega
/-- An index of the list. -/
def idxOk (l : List Event) (x : Int) : Prop := 0 ≤ x ∧ x.toNat < l.length

theorem order_cmp {w : World} {A : Option Addr} {c bx : Nat} {l : List Event} (h : Evs w A c l) (hb : At w bx #[.slice A l.length c] 116) (x y : Int) (hx : idxOk l x) (hy : idxOk l y) :
    Calls Try.prog 87 #[.int .i64 x, .int .i64 y, .pointer (some ⟨bx, 0, none⟩)] w fun e w' => e = .returned (.int .i64 (cfE l x y)) ∧ Keep none_ w w' := by
  obtain ⟨hx0, hxl⟩ := hx
  obtain ⟨hy0, hyl⟩ := hy
  obtain ⟨i, rfl⟩ : ∃ i : Nat, x = i := ⟨x.toNat, by omega⟩
  obtain ⟨j, rfl⟩ : ∃ j : Nat, y = j := ⟨y.toNat, by omega⟩
  simp only [Int.toNat_natCast] at hxl hyl
  have ex : ptOf l (i : Int) = l[i].point := by simp [ptOf, List.getElem?_eq_getElem hxl]
  have ey : ptOf l (j : Int) = l[j].point := by simp [ptOf, List.getElem?_eq_getElem hyl]
  unfold cfE
  rw [ex, ey]
  obtain ⟨b, off, rfl, hbl, -⟩ := h.at_ (by omega)
  have hnc := h.2.2.1
  have hlc := h.2.1
  unfold maxLen at hnc
  obtain ⟨ι, hne, f, hf0, hfk, hfa⟩ := class_of none_ w
  have q1 : ∀ n, (f n).cell? ⟨b, off + i * 14 + 12, none⟩ = some (.int .i64 l[i].point) := fun n => (h.keep (hfk n) Off.none_).cellk hxl 12 (by omega)
  have q2 : ∀ n, (f n).cell? ⟨b, off + j * 14 + 12, none⟩ = some (.int .i64 l[j].point) := fun n => (h.keep (hfk n) Off.none_).cellk hyl 12 (by omega)
  have cb : ∀ n, (f n).cell? ⟨bx, 0, none⟩ = some (.slice (some ⟨b, off, none⟩) l.length c) := fun n => At.cell (Keep.at (hfk n) hb (fun e => e)) 0
  generalize l[i].point = px at *
  generalize l[j].point = py at *
  have hil : (i : Int) < (l.length : Int) := by omega
  have hjl : (j : Int) < (l.length : Int) := by omega
  clear h hb ex ey
  go_enter Try.func87, Try.ntmps87
  go_wp2_with fail
  refine wp_region_class f (by kernel_rfl) (by kernel_rfl) hf0 ?_
  repeat (go_big_quiet_step ((go_at_call 88; exact Calls.class_of hfa ((cmp_int _ _ _).mono fun e w' h => ⟨h.1, h.2 ▸ Keep.refl _ _⟩))))
  refine wpQuiet_nil ?_
  rintro _ ⟨n, rfl⟩
  go_wp2_with fail
  go_ret
  exact ⟨rfl, hfk n⟩
end Go.Proofs.Ytlnlbegcnhelmaa
