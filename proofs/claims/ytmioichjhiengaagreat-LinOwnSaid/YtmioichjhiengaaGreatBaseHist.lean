/-
  Texts of one kind, one behind the other.
-/
import Derived.Test.YtmioichjhiengaaGreatBaseEv
import Derived.Test.YtmioichjhiengaaGreatBaseSortB
import Derived.Test.YtmioichjhiengaaGreatCmp
set_option linter.unusedSimpArgs false
set_option linter.unusedVariables false
/-
  hist: one event, Ahead; the comparer of points.
-/
namespace Go.Proofs.YtmioichjhiengaaGreat
open Go.RowKit

def Event.one (x : Event) : Bool := decide ((x.point = 0 ∨ x.begin_ ≤ x.point) ∧ (x.end_ = 0 ∨ (x.point ≠ 0 ∧ x.point ≤ x.end_)) ∧ 0 ≤ x.client ∧ 0 ≤ x.n ∧ 1 ≤ x.begin_)
def Event.ahead (a b : Event) : Bool := decide (0 < a.end_ ∧ a.end_ < b.begin_)

set_option maxHeartbeats 4000000 in
theorem hist_one (w : World) (x : Event) : Calls Tryz.prog 101 #[.agg x.cells.toArray] w fun e w' => e = .returned (.bool x.one) ∧ Keep none_ w w' := by
  have hx := At.new w x.cells.toArray 75
  have kk : Keep none_ w (w.alloc (.cells x.cells.toArray 75)) := (by repeat' (first | assumption | with_reducible exact Keep.refl _ _ | with_reducible refine Keep.alloc ?_ _ | with_reducible refine Keep.drew ?_))
  obtain ⟨cl, n, cc, code, pn, bg, pt, en⟩ := x
  unfold Event.one
  simp only [Event.cells] at *
  have cx := At.cell hx
  have p3 : pt = 0 ∨ (pt ≠ 0 ∧ bg ≤ pt) ∨ (pt ≠ 0 ∧ ¬ bg ≤ pt) := by omega
  have e3 : en = 0 ∨ (en ≠ 0 ∧ pt ≤ en) ∨ (en ≠ 0 ∧ ¬ pt ≤ en) := by omega
  have r3 : ¬ 0 ≤ cl ∨ (0 ≤ cl ∧ ¬ 0 ≤ n) ∨ (0 ≤ cl ∧ 0 ≤ n ∧ ¬ 1 ≤ bg) ∨ (0 ≤ cl ∧ 0 ≤ n ∧ 1 ≤ bg) := by omega
  rcases p3 with p | ⟨p, p'⟩ | ⟨p, p'⟩ <;> rcases e3 with e | ⟨e, e'⟩ | ⟨e, e'⟩ <;> rcases r3 with r | ⟨r, r'⟩ | ⟨r, r', r''⟩ | ⟨r, r', r''⟩
  all_goals
    first
      | rw [show decide ((pt = 0 ∨ bg ≤ pt) ∧ (en = 0 ∨ (pt ≠ 0 ∧ pt ≤ en)) ∧ 0 ≤ cl ∧ 0 ≤ n ∧ 1 ≤ bg) = true by (rw [decide_eq_true_eq]; omega)]
      | rw [show decide ((pt = 0 ∨ bg ≤ pt) ∧ (en = 0 ∨ (pt ≠ 0 ∧ pt ≤ en)) ∧ 0 ≤ cl ∧ 0 ≤ n ∧ 1 ≤ bg) = false by (rw [decide_eq_false_iff_not]; omega)]
    first
      | have hp : (pt == 0) = true := by (simp [p]; done)
      | have hp : (pt == 0) = false := by (simp [p]; done)
    first
      | have he : (en == 0) = true := by (simp [e]; done)
      | have he : (en == 0) = false := by (simp [e]; done)
    have hpn : (pt != 0) = !(pt == 0) := rfl
    rw [hp] at hpn
    simp only [Bool.not_true, Bool.not_false] at hpn
    clear p e
    go_enter Tryz.func101, Tryz.ntmps101
    go_wp2_with fail
    go_ret
    exact ⟨rfl, kk⟩
theorem hist_ahead (w : World) (x y : Event) : Calls Tryz.prog 102 #[.agg x.cells.toArray, .agg y.cells.toArray] w fun e w' => e = .returned (.bool (x.ahead y)) ∧ Keep none_ w w' := by
  have hx := At.alloc (At.new w x.cells.toArray 75) (.cells y.cells.toArray 75)
  have hy : At ((w.alloc (.cells x.cells.toArray 75)).alloc (.cells y.cells.toArray 75)) (w.heap.size + 1) y.cells.toArray 75 := At.newAt (by simp) _ _
  have kk : Keep none_ w ((w.alloc (.cells x.cells.toArray 75)).alloc (.cells y.cells.toArray 75)) := (by repeat' (first | assumption | with_reducible exact Keep.refl _ _ | with_reducible refine Keep.alloc ?_ _ | with_reducible refine Keep.drew ?_))
  obtain ⟨cl, n, cc, code, pn, bg, pt, en⟩ := x
  obtain ⟨cl', n', cc', code', pn', bg', pt', en'⟩ := y
  unfold Event.ahead
  simp only [Event.cells] at *
  have cx := At.cell hx
  have cy := At.cell hy
  have r3 : ¬ 0 < en ∨ (0 < en ∧ ¬ en < bg') ∨ (0 < en ∧ en < bg') := by omega
  rcases r3 with r | ⟨r, r'⟩ | ⟨r, r'⟩
  all_goals
    first
      | rw [show decide (0 < en ∧ en < bg') = true by (rw [decide_eq_true_eq]; omega)]
      | rw [show decide (0 < en ∧ en < bg') = false by (rw [decide_eq_false_iff_not]; omega)]
    go_enter Tryz.func102, Tryz.ntmps102
    go_wp2_with fail
    go_ret
    exact ⟨rfl, kk⟩

theorem nan_int (w : World) (a : Int) : Calls Tryz.prog 130 #[.int .i64 a] w fun e w' => e = .returned (.bool false) ∧ w = w' := by
  go_enter Tryz.func130, Tryz.ntmps130
  go_wp2
  go_ret
  exact ⟨rfl, rfl⟩
theorem cmp_int (w : World) (a b : Int) : Calls Tryz.prog 105 #[.int .i64 a, .int .i64 b] w fun e w' => e = .returned (.int .i64 (cmpI a b)) ∧ w = w' := by
  unfold cmpI
  by_cases h : a < b
  · rw [if_pos h]
    go_enter Tryz.func105, Tryz.ntmps105
    go_wp2
    go_ret
    exact ⟨rfl, rfl⟩
  · by_cases h2 : b < a
    · rw [if_neg h, if_pos h2]
      go_enter Tryz.func105, Tryz.ntmps105
      go_wp2
      go_ret
      exact ⟨rfl, rfl⟩
    · rw [if_neg h, if_neg h2]
      go_enter Tryz.func105, Tryz.ntmps105
      go_wp2
      go_ret
      exact ⟨rfl, rfl⟩

abbrev Evs (w : World) (A : Option Addr) (c : Nat) (l : List Event) : Prop := Sl Event.cells 14 w A l.length c l
def ptOf (l : List Event) (x : Int) : Int := match l[x.toNat]? with | some e => e.point | none => 0
def cfE (l : List Event) (x y : Int) : Int := cmpI (ptOf l x) (ptOf l y)
theorem ltC_cfE (l : List Event) (x y : Int) : ltC (cfE l) x y = decide (ptOf l x < ptOf l y) := by
  unfold ltC cfE cmpI
  rw [decide_eq_decide]
  split <;> (try split) <;> omega
theorem weak_cfE (l : List Event) : Weak (ltC (cfE l)) where
  irr a := by rw [ltC_cfE]; simp
  tra a b c h1 h2 := by rw [ltC_cfE, decide_eq_true_eq] at *; omega
  neg a b c h1 h2 := by rw [ltC_cfE, decide_eq_false_iff_not] at *; omega
/-- An index of the list. -/
def idxOk (l : List Event) (x : Int) : Prop := 0 ≤ x ∧ x.toNat < l.length

theorem order_cmp {w : World} {A : Option Addr} {c bx : Nat} {l : List Event} (h : Evs w A c l) (hb : At w bx #[.slice A l.length c] 73) (x y : Int) (hx : idxOk l x) (hy : idxOk l y) :
    Calls Tryz.prog 104 #[.int .i64 x, .int .i64 y, .pointer (some ⟨bx, 0, none⟩)] w fun e w' => e = .returned (.int .i64 (cfE l x y)) ∧ Keep none_ w w' := by
  obtain ⟨hx0, hxl⟩ := hx
  obtain ⟨hy0, hyl⟩ := hy
  obtain ⟨i, rfl⟩ : ∃ i : Nat, x = i := ⟨x.toNat, by omega⟩
  obtain ⟨j, rfl⟩ : ∃ j : Nat, y = j := ⟨y.toNat, by omega⟩
  simp only [Int.toNat_natCast] at hxl hyl
  have ex : ptOf l (i : Int) = l[i].point := by simp [ptOf, List.getElem?_eq_getElem hxl]
  have ey : ptOf l (j : Int) = l[j].point := by simp [ptOf, List.getElem?_eq_getElem hyl]
  unfold cfE
  rw [ex, ey]
  obtain ⟨b, off, rfl, hbl, -⟩ := h.at_ (by omega)
  have hnc := h.2.2.1
  have hlc := h.2.1
  unfold maxLen at hnc
  obtain ⟨ι, hne, f, hf0, hfk, hfa⟩ := class_of none_ w
  have q1 : ∀ n, (f n).cell? ⟨b, off + i * 14 + 12, none⟩ = some (.int .i64 l[i].point) := fun n => (h.keep (hfk n) Off.none_).cellk hxl 12 (by omega)
  have q2 : ∀ n, (f n).cell? ⟨b, off + j * 14 + 12, none⟩ = some (.int .i64 l[j].point) := fun n => (h.keep (hfk n) Off.none_).cellk hyl 12 (by omega)
  have cb : ∀ n, (f n).cell? ⟨bx, 0, none⟩ = some (.slice (some ⟨b, off, none⟩) l.length c) := fun n => At.cell (Keep.at (hfk n) hb (fun e => e)) 0
  generalize l[i].point = px at *
  generalize l[j].point = py at *
  have hil : (i : Int) < (l.length : Int) := by omega
  have hjl : (j : Int) < (l.length : Int) := by omega
  clear h hb ex ey
  go_enter Tryz.func104, Tryz.ntmps104
  go_wp2_with fail
  refine wp_region_class f (by kernel_rfl) (by kernel_rfl) hf0 ?_
  repeat (go_big_quiet_step ((go_at_call 105; exact Calls.class_of hfa ((cmp_int _ _ _).mono fun e w' h => ⟨h.1, h.2 ▸ Keep.refl _ _⟩))))
  refine wpQuiet_nil ?_
  rintro _ ⟨n, rfl⟩
  go_wp2_with fail
  go_ret
  exact ⟨rfl, hfk n⟩
end Go.Proofs.YtmioichjhiengaaGreat

/-
  hist.Order.
-/
namespace Go.Proofs.YtmioichjhiengaaGreat
open Go.RowKit

theorem insertI_nil (w : World) (f : Value) : Calls Tryz.prog 149 #[.slice none 0 0, .int .i64 0, .int .i64 0, f] w fun e w' => e = .returned (.tuple #[]) ∧ w = w' := by
  go_enter Tryz.func149, Tryz.ntmps149
  go_wp2_with fail
  go_loopw [8, 9] (fun iv _ wr => iv = .int .i64 1 ∧ w = wr) (fun _ _ _ => 0)
  case atStart => exact ⟨rfl, rfl⟩
  case round =>
    obtain ⟨rfl, rfl⟩ := hrel
    go_wp2_with fail
    refine bodyPost_end (v := .tuple #[]) ?_ ?_ ?_
    · exact results_none Tryz.results149 _ _ _
    · rfl
    · exact ⟨rfl, rfl⟩
theorem stable_nil (w : World) (f : Value) : Calls Tryz.prog 129 #[.slice none 0 0, .int .i64 0, f] w fun e w' => e = .returned (.tuple #[]) ∧ w = w' := by
  go_enter Tryz.func129, Tryz.ntmps129
  go_wp2_with fail
  go_loopw [7, 8] (fun av bv wr => av = .int .i64 0 ∧ bv = .int .i64 20 ∧ w = wr) (fun _ _ _ => 0)
  case atStart => exact ⟨rfl, rfl, rfl⟩
  case round =>
    obtain ⟨rfl, rfl, rfl⟩ := hrel
    go_wp2_with fail
    refine (insertI_nil _ _).mono ?_
    rintro e w1 ⟨rfl, rfl⟩
    go_wp2_with fail
    go_loopw [6, 7, 8, 9] (fun sv _ _ _ wr => sv = .int .i64 20 ∧ w = wr) (fun _ _ _ _ _ => 0)
    case atStart => exact ⟨rfl, rfl⟩
    case round =>
      obtain ⟨rfl, rfl⟩ := hrel
      go_wp2_with fail
      refine bodyPost_end (v := .tuple #[]) ?_ ?_ ?_
      · exact results_none Tryz.results129 _ _ _
      · rfl
      · exact ⟨rfl, rfl⟩
theorem sort_nil (w : World) (f : Value) : Calls Tryz.prog 103 #[.slice none 0 0, f] w fun e w' => e = .returned (.tuple #[]) ∧ w = w' := by
  go_enter Tryz.func103, Tryz.ntmps103
  go_wp2_with fail
  refine (stable_nil _ _).mono ?_
  rintro e w1 ⟨rfl, rfl⟩
  go_wp2_with fail
  refine bodyPost_end (v := .tuple #[]) ?_ ?_ ?_
  · exact results_none Tryz.results103 _ _ _
  · rfl
  · exact ⟨rfl, rfl⟩

/-- The indexes of those of the first k that have a point. -/
def idxs (l : List Event) (k : Nat) : List Int := ((List.range k).filter (fun i : Nat => ptOf l (i : Int) != 0)).map (fun i : Nat => (i : Int))
theorem idxs_succ (l : List Event) (k : Nat) : idxs l (k + 1) = if ptOf l (k : Int) = 0 then idxs l k else idxs l k ++ [(k : Int)] := by
  unfold idxs
  rw [List.range_succ, List.filter_append, List.map_append]
  by_cases h : ptOf l (k : Int) = 0
  · rw [if_pos h]; simp [h]
  · rw [if_neg h]; simp [h]
theorem idxs_len (l : List Event) (k : Nat) : (idxs l k).length ≤ k := by
  unfold idxs
  rw [List.length_map]
  have := List.length_filter_le (fun i : Nat => ptOf l (i : Int) != 0) (List.range k)
  simpa using this
theorem idxs_in (l : List Event) : SortIn (idxOk l) (idxs l l.length) where
  tags := by
    unfold idxs
    rw [List.pairwise_map]
    exact (List.pairwise_lt_range.filter _).imp (fun h => by simpa using h)
  ok := by
    intro x hx
    unfold idxs at hx
    rw [List.mem_map] at hx
    obtain ⟨i, hi, rfl⟩ := hx
    have := List.mem_range.1 (List.mem_filter.1 hi).1
    exact ⟨Int.natCast_nonneg i, by simpa using this⟩
theorem row_intH : Row Tryz.prog 72 3 1 := row_of Tryz.underlying72 (b := 8) (z := .int .i64 0) (by kernel_rfl) rfl (by decide) (by decide)

/-- What Order hands back. -/
def OrderDone (w : World) (l : List Event) (e : Ending) (w' : World) : Prop :=
  ∃ v S, e = .returned v ∧ w'.ownsRow w.heap.size 3 1 v S.length (flat encI S) ∧ S.Perm (idxs l l.length) ∧ SortedC (cfE l) S ∧ Keep none_ w w'
set_option maxHeartbeats 4000000 in
set_option maxRecDepth 100000 in
theorem hist_order {w : World} {A : Option Addr} {c : Nat} {l : List Event} (h : Evs w A c l) (hlen : l.length ≤ 100) (hpn : ∀ x ∈ l, ∃ A n c, x.panes = .slice A n c) :
    Calls Tryz.prog 68 #[.slice A l.length c] w (OrderDone w l) := by
  have hmf : ∀ (fn : Fn) (first cap : Array Value) (w : World), (Instr.makeFunc fn first cap).run Tryz.prog w = .ok (.func fn first cap) w := fun _ _ _ _ => rfl
  have hbx := At.new w #[.slice A l.length c] 73
  have k0 : Keep none_ w (w.alloc (.cells #[.slice A l.length c] 73)) := (by repeat' (first | assumption | with_reducible exact Keep.refl _ _ | with_reducible refine Keep.alloc ?_ _ | with_reducible refine Keep.drew ?_))
  have hs0 : w.heap.size + 1 = (w.alloc (.cells #[.slice A l.length c] 73)).heap.size := by simp
  have hnc := h.2.2.1
  have hlc := h.2.1
  unfold maxLen at hnc
  go_enter Tryz.func68, Tryz.ntmps68
  go_wp2_with fail
  generalize w.alloc _ = w1 at *
  have hsz := k0.size
  obtain ⟨bx, hbxe⟩ : ∃ bx, bx = w.heap.size := ⟨_, rfl⟩
  rw [← hbxe] at hbx ⊢
  replace hbxe := Lib.hid hbxe
  replace hs0 := Lib.hid hs0
  go_loopw [3, 4, 5, 8] (fun ov _ _ iv wr => ∃ (k : Nat), iv = .int .i64 k ∧ k ≤ l.length ∧ wr.ownsRow w1.heap.size 3 1 ov (idxs l k).length (flat encI (idxs l k)) ∧ Keep none_ w1 wr)
    (fun _ _ _ iv _ => l.length - (intOf iv).toNat)
  case atStart => exact ⟨0, rfl, Nat.zero_le _, World.ownsRow_nil _ _ _ _, Keep.refl _ _⟩
  case round =>
    obtain ⟨k, rfl, hk, own, kk⟩ := hrel
    by_cases hlt : k < l.length
    · obtain ⟨b, off, rfl, hbl, -⟩ := h.at_ (by omega)
      have ck := (h.keep (k0.trans kk) Off.none_).cellk hlt
      have hpt : ptOf l (k : Int) = l[k].point := by simp [ptOf, List.getElem?_eq_getElem hlt]
      have hsu := idxs_succ l k
      rw [hpt] at hsu
      obtain ⟨pA, pN, pC, hpe⟩ := hpn l[k] (List.getElem_mem _)
      generalize l[k] = ev at *
      obtain ⟨cl, n, ⟨co, cy, ct, cv, cf, cg, cs⟩, code, pn, bg, pt, en⟩ := ev
      simp only at hpe
      subst hpe
      have i0 := ck 0 (by omega)
      have i1 := ck 1 (by omega)
      have i2 := ck 2 (by omega)
      have i3 := ck 3 (by omega)
      have i4 := ck 4 (by omega)
      have i5 := ck 5 (by omega)
      have i6 := ck 6 (by omega)
      have i7 := ck 7 (by omega)
      have i8 := ck 8 (by omega)
      have i9 := ck 9 (by omega)
      have i10 := ck 10 (by omega)
      have i11 := ck 11 (by omega)
      have i12 := ck 12 (by omega)
      have i13 := ck 13 (by omega)
      simp only [Event.cells, Nat.add_zero, List.getElem?_cons_zero, List.getElem?_cons_succ] at i0 i1 i2 i3 i4 i5 i6 i7 i8 i9 i10 i11 i12 i13 hsu hpt
      clear ck hpt
      have hil := idxs_len l k
      generalize idxs l k = q at *
      by_cases hp : pt = 0
      · have hpb : (pt != 0) = false := by simp [hp]
        rw [if_pos hp] at hsu
        replace hsu := Lib.hid hsu
        clear hp
        go_wp2_with fail
        go_roundw
        case rel => exact ⟨k + 1, by go_num, by omega, by rw [hsu.out]; exact own_keep own (S := none_) (Keep.alloc (Keep.refl _ _) _) (fun _ _ e => e), kk.alloc _⟩
        case measure => simp [intOf]; omega
      · have hpb : (pt != 0) = true := by simp [hp]
        rw [if_neg hp] at hsu
        replace hsu := Lib.hid hsu
        clear hp
        have kb := kk.size
        have own2 := own_keep own (S := none_) (Keep.alloc (Keep.refl none_ wr) (.cells #[.int .i64 cl, .int .i64 n, .int .i64 co, .string cy, .int .i64 ct, .int .i64 cv, .int .i64 cf, .int .i64 cg, .int .i64 cs, .int .i64 code, .slice pA pN pC, .int .i64 bg, .int .i64 pt, .int .i64 en] 75)) (fun _ _ e => e)
        go_wp2_with (at_builtin; refine wpList_append_sl _ rfl _ _ _ rfl w1.heap.size 3 row_intH encI_len encI_one _ q.length q rfl (own_keep own2 (S := none_) (by repeat' (first | assumption | with_reducible exact Keep.refl _ _ | with_reducible refine Keep.alloc ?_ _ | with_reducible refine Keep.drew ?_)) (fun _ _ e => e)) (some ⟨_, 0, none⟩) 1 1 [(k : Int)] rfl (Sl.of_at (cs := #[.int .i64 (k : Int)]) (e := 3) (by repeat' (first | ((with_reducible refine At.newAt ?_ _ _); (first | (simp; done) | rfl)) | with_reducible refine At.drew ?_ | with_reducible refine At.alloc ?_ _)) encI_len (by decide) rfl rfl (by unfold maxLen; omega)) (by omega) (by simp; omega) ?_)
        intro v1 w5 own1 grow1 loc1
        have kA : Keep none_ w1 w5 := keep_grown (a := w1) (S := none_) (kk.trans (by repeat' (first | assumption | with_reducible exact Keep.refl _ _ | with_reducible refine Keep.alloc ?_ _ | with_reducible refine Keep.drew ?_))) (own_keep own2 (S := none_) (by repeat' (first | assumption | with_reducible exact Keep.refl _ _ | with_reducible refine Keep.alloc ?_ _ | with_reducible refine Keep.drew ?_)) (fun _ _ e => e)) grow1 (Nat.le_refl _)
        go_wp2_with fail
        go_roundw
        case rel => exact ⟨k + 1, by go_num, by omega, by rw [hsu.out, List.length_append]; exact own1, kA⟩
        case measure => simp [intOf]; omega
    · obtain rfl : k = l.length := by omega
      have hin := idxs_in l
      have hil := idxs_len l l.length
      have hrow := own
      rcases own.2 with ⟨rfl, h0⟩ | ⟨g, cap, cur, rfl, hbg, hcur, -⟩
      · have hnil : idxs l l.length = [] := List.length_eq_zero_iff.1 h0
        clear hlt hin hil hrow
        go_wp2_with fail
        refine (sort_nil _ _).mono ?_
        rintro e w2 ⟨rfl, rfl⟩
        go_wp2_with fail
        go_ret
        exact ⟨_, [], rfl, World.ownsRow_nil _ _ _ _, by rw [hnil], List.Pairwise.nil, k0.trans kk⟩
      · have hcmp : CmpI (.pointer (some ⟨bx, 0, none⟩)) (cfE l) (idxOk l) g wr := fun w' k' x y hx hy => by
          have hgb : bx ≠ g := by have := hbxe.out; have := hs0.out; omega
          refine order_cmp (h.keep (S := one g) (((k0.trans kk).mono (fun _ _ e => e.elim)).trans k') (fun ad he => ?_)) (Keep.at k' (Keep.at kk hbx (fun e => e)) (fun e => hgb e)) x y hx hy
          intro e9
          obtain ⟨b, off, e8, hbl, -⟩ := h.at_ (by have := hx.2; omega)
          rw [e8] at he
          have : ad = ⟨b, off, none⟩ := by simpa using he.symm
          subst this
          unfold one at e9
          simp only at e9
          have := hs0.out
          omega
        have c1 := sort_int (weak_cfE l) hrow hcmp hin (by omega)
        replace c1 := Lib.hid c1
        clear hlt hin hil hrow hcmp
        go_wp2_with fail
        refine c1.out.mono ?_
        rintro e w2 ⟨rfl, S, pS, sS, rS, kS⟩
        go_wp2_with fail
        go_ret
        refine ⟨_, S, rfl, ?_, pS, sS, (k0.trans kk).fresh kS (fun q hq e => by unfold one at e; omega)⟩
        have e1 := pS.length_eq
        rw [e1]
        exact own_lower rS hsz
end Go.Proofs.YtmioichjhiengaaGreat

/-
  When a history is fine (plain): event by event.
-/
namespace Go.Proofs.YtmioichjhiengaaGreat
open Go.RowKit

/-- How many of a client there are; how many have a point. -/
def cntC (l : List Event) (c : Int) : Nat := (l.filter (fun e => e.client == c)).length
def cntP (l : List Event) (p : Int) : Nat := (l.filter (fun e => e.point == p)).length
def lastOf (l : List Event) (c : Int) : Option Event := (l.filter (fun e => e.client == c)).getLast?
/-- An event is fine behind some. -/
def fineAt (l : List Event) (e : Event) : Prop :=
  (0 ≤ e.client ∧ 0 ≤ e.n ∧ 1 ≤ e.begin_ ∧ 0 ≤ e.point ∧ 0 ≤ e.end_) ∧ ¬ (0 < e.point ∧ e.point < e.begin_) ∧ ¬ (0 < e.end_ ∧ (e.point = 0 ∨ e.end_ < e.point)) ∧
  (∀ k ∈ l, ¬ (0 < e.point ∧ k.point = e.point)) ∧ (∀ k ∈ l, k.client = e.client → ¬ (k.end_ = 0 ∨ e.begin_ ≤ k.end_)) ∧ e.n = cntC l e.client
inductive FineE : List Event → Prop
  | nil : FineE []
  | snoc (l : List Event) (e : Event) : FineE l → fineAt l e → FineE (l ++ [e])
theorem cntC_snoc (l : List Event) (e : Event) (c : Int) : cntC (l ++ [e]) c = if e.client = c then cntC l c + 1 else cntC l c := by
  unfold cntC
  rw [List.filter_append, List.length_append]
  by_cases h : e.client = c
  · rw [if_pos h]; simp [h]
  · rw [if_neg h]; simp [h]
theorem cntP_snoc (l : List Event) (e : Event) (p : Int) : cntP (l ++ [e]) p = if e.point = p then cntP l p + 1 else cntP l p := by
  unfold cntP
  rw [List.filter_append, List.length_append]
  by_cases h : e.point = p
  · rw [if_pos h]; simp [h]
  · rw [if_neg h]; simp [h]
theorem lastOf_snoc (l : List Event) (e : Event) (c : Int) : lastOf (l ++ [e]) c = if e.client = c then some e else lastOf l c := by
  unfold lastOf
  rw [List.filter_append]
  by_cases h : e.client = c
  · rw [if_pos h]; simp [h]
  · rw [if_neg h]; simp [h]
theorem cntP_pos {l : List Event} {p : Int} : 0 < cntP l p ↔ ∃ k ∈ l, k.point = p := by
  unfold cntP
  rw [List.length_pos_iff_exists_mem]
  constructor
  · rintro ⟨a, ha⟩
    have := List.mem_filter.1 ha
    exact ⟨a, this.1, by simpa using this.2⟩
  · rintro ⟨k, hk, rfl⟩
    exact ⟨k, List.mem_filter.2 ⟨hk, by simp⟩⟩
theorem FineE.inv {l : List Event} {e : Event} (h : FineE (l ++ [e])) : FineE l ∧ fineAt l e := by
  generalize hm : l ++ [e] = m at h
  cases h with
  | nil => simp at hm
  | snoc l' e' h1 h2 =>
    obtain ⟨rfl, he⟩ := List.append_inj' hm rfl
    obtain rfl : e = e' := by simpa using he
    exact ⟨h1, h2⟩
theorem FineE.take {l : List Event} (h : FineE l) (k : Nat) : FineE (l.take k) := by
  induction h with
  | nil => simp; exact .nil
  | snoc l e h1 h2 ih =>
    by_cases hk : k ≤ l.length
    · rw [List.take_append_of_le_length hk]; exact ih
    · rw [List.take_of_length_le (by simp; omega)]; exact .snoc l e h1 h2
theorem lastOf_none {l : List Event} {c : Int} (h : lastOf l c = none) : cntC l c = 0 ∧ ∀ k ∈ l, k.client ≠ c := by
  unfold lastOf at h
  rw [List.getLast?_eq_none_iff] at h
  refine ⟨by unfold cntC; rw [h]; rfl, fun k hk e => ?_⟩
  have : k ∈ l.filter (fun e => e.client == c) := List.mem_filter.2 ⟨hk, by simp [e]⟩
  rw [h] at this; cases this
/-- The last one of a client, in a fine history. -/
theorem FineE.last {l : List Event} (h : FineE l) {c : Int} {x : Event} (hx : lastOf l c = some x) :
    x ∈ l ∧ x.client = c ∧ (cntC l c : Int) = x.n + 1 ∧ (x.end_ ≠ 0 → x.begin_ ≤ x.end_) ∧ 0 ≤ x.end_ ∧ ∀ k ∈ l, k.client = c → k = x ∨ (k.end_ ≠ 0 ∧ k.end_ < x.begin_) := by
  induction h with
  | nil => simp [lastOf] at hx
  | snoc l e h1 h2 ih =>
    rw [lastOf_snoc] at hx
    rw [cntC_snoc]
    by_cases hc : e.client = c
    · rw [if_pos hc] at hx ⊢
      obtain rfl : e = x := by simpa using hx
      obtain ⟨a1, a2, a3, a4, a5, a6⟩ := h2
      refine ⟨by simp, hc, by rw [a6, hc]; simp, fun hne => by omega, by omega, fun k hk hkc => ?_⟩
      rcases List.mem_append.1 hk with hk | hk
      · right
        have := a5 k hk (hkc.trans hc.symm)
        omega
      · left; simpa using hk
    · rw [if_neg hc] at hx ⊢
      obtain ⟨b1, b2, b3, b4, b5, b6⟩ := ih hx
      refine ⟨List.mem_append_left _ b1, b2, b3, b4, b5, fun k hk hkc => ?_⟩
      rcases List.mem_append.1 hk with hk | hk
      · exact b6 k hk hkc
      · obtain rfl : k = e := by simpa using hk
        exact absurd hkc hc
/-- What the code asks of an event. -/
def codeAt (l : List Event) (e : Event) : Prop :=
  e.one = true ∧ e.n = (match lastOf l e.client with | some x => x.n + 1 | none => 0) ∧ (∀ x, lastOf l e.client = some x → x.ahead e = true) ∧ (e.point ≠ 0 → cntP l e.point = 0)
theorem codeAt_iff {l : List Event} (h : FineE l) (e : Event) : codeAt l e ↔ fineAt l e := by
  unfold codeAt fineAt Event.one
  rw [decide_eq_true_eq]
  have hp : (∀ k ∈ l, ¬ (0 < e.point ∧ k.point = e.point)) ↔ (0 < e.point → cntP l e.point = 0) := by
    constructor
    · intro h1 h0
      rcases Nat.eq_zero_or_pos (cntP l e.point) with h2 | h2
      · exact h2
      · obtain ⟨k, hk, he⟩ := cntP_pos.1 h2
        exact absurd ⟨h0, he⟩ (h1 k hk)
    · intro h1 k hk ⟨h0, he⟩
      have := h1 h0
      have h3 := cntP_pos.2 ⟨k, hk, he⟩
      omega
  rw [hp]
  cases hl : lastOf l e.client with
  | none =>
    obtain ⟨h0, hn⟩ := lastOf_none hl
    rw [h0]
    constructor
    · rintro ⟨a, b, -, d⟩
      refine ⟨by omega, by omega, by omega, fun h => d (by omega), fun k hk hc => absurd hc (hn k hk), by simpa using b⟩
    · rintro ⟨a, b, c, d, -, f⟩
      refine ⟨by omega, by simpa using f, ?_, fun h => d (by omega)⟩
      intro x hx
      cases hx
  | some x =>
    obtain ⟨b1, b2, b3, b4, b5, b6⟩ := h.last hl
    constructor
    · rintro ⟨a, b, c, d⟩
      have hx := c x rfl
      unfold Event.ahead at hx
      rw [decide_eq_true_eq] at hx
      refine ⟨by omega, by omega, by omega, fun h => d (by omega), fun k hk hc => ?_, by simp only at b; omega⟩
      rcases b6 k hk hc with rfl | h9
      · omega
      · have := b4 (by omega)
        omega
    · rintro ⟨a, b, c, d, f, g⟩
      refine ⟨by omega, by simp only; omega, fun y hy => ?_, fun h => d (by omega)⟩
      obtain rfl : x = y := by simpa using hy
      have := f x b1 b2
      unfold Event.ahead
      rw [decide_eq_true_eq]
      omega
end Go.Proofs.YtmioichjhiengaaGreat

/-
  The reference's Order of histories: the same list.
-/
namespace Go.Proofs.YtmioichjhiengaaGreat
open Go.RowKit

theorem Sl.takeR {α : Type} {enc : α → List Value} {k : Nat} {w : World} {A : Option Addr} {n c : Nat} {xs : List α} (h : Sl enc k w A n c xs) (i : Nat) (hi : i ≤ n) : Sl enc k w A i c (xs.take i) := by
  obtain ⟨h1, h2, h3, h4⟩ := h
  refine ⟨by rw [List.length_take, ← h1, Nat.min_eq_left hi], by omega, h3, fun hn => ?_⟩
  obtain ⟨b, off, rfl, hb, hc⟩ := h4 (by omega)
  refine ⟨b, off, rfl, hb, fun j hj l hl => ?_⟩
  rw [List.length_take] at hj
  rw [List.getElem_take]
  exact hc j (by omega) l hl
theorem Sl.zeroR {α : Type} {enc : α → List Value} {k : Nat} {w : World} {A : Option Addr} {n c : Nat} {xs : List α} (hn : n = 0) (hx : xs = []) (hc : c ≤ maxLen) : Sl enc k w A n c xs := by
  subst hn hx
  exact ⟨rfl, Nat.zero_le _, hc, fun h => absurd h (Nat.lt_irrefl _)⟩
/-- The new one behind the last one that is not behind it. -/
theorem insert_at {l : List Event} {S : List Int} {i : Nat} (sS : SortedC (cfE l) S) (htag : ∀ x ∈ S, x.toNat < i) {at_ : Nat} (hat : at_ ≤ S.length)
    (h2 : ∀ p (hp : p < S.length), at_ ≤ p → ptOf l (i : Int) < ptOf l S[p]) (h1 : ∀ x, 0 < at_ → S[at_ - 1]? = some x → ptOf l x ≤ ptOf l (i : Int)) : SortedC (cfE l) (S.take at_ ++ (i : Int) :: S.drop at_) := by
  refine insert_ok (weak_cfE l) (by rw [List.take_append_drop]; exact sS) (fun x hx => by simpa using htag x (List.mem_of_mem_take hx)) (fun x hx => ?_) (fun y hy => ?_)
  · obtain ⟨p, hp, rfl⟩ := List.getElem_of_mem hx
    rw [List.length_drop] at hp
    rw [List.getElem_drop, ltC_cfE, decide_eq_true_eq]
    exact h2 _ (by omega) (by omega)
  · obtain ⟨h0, hy⟩ := getLast_take hat hy
    rw [ltC_cfE, decide_eq_false_iff_not]
    have := h1 y h0 hy
    omega
theorem idxs_tag {l : List Event} {k : Nat} {x : Int} (hx : x ∈ idxs l k) : ∃ i : Nat, x = i ∧ i < k := by
  unfold idxs at hx
  rw [List.mem_map] at hx
  obtain ⟨i, hi, rfl⟩ := hx
  exact ⟨i, rfl, List.mem_range.1 (List.mem_filter.1 hi).1⟩

set_option maxHeartbeats 4000000 in
set_option maxRecDepth 100000 in
theorem ref12_order {w : World} {A : Option Addr} {c : Nat} {l : List Event} (h : Evs w A c l) (hlen : l.length ≤ 100) :
    Calls Tryz.prog 70 #[.slice A l.length c] w (OrderDone w l) := by
  have hnc := h.2.2.1
  have hlc := h.2.1
  unfold maxLen at hnc
  go_enter Tryz.func70, Tryz.ntmps70
  go_wp2_with fail
  go_loopw [3, 4, 5, 6] (fun ov iv _ _ wr => ∃ (i : Nat) (S : List Int), iv = .int .i64 i ∧ i ≤ l.length ∧ wr.ownsRow w.heap.size 3 1 ov S.length (flat encI S) ∧ Hid (S.Perm (idxs l i)) ∧ Hid (SortedC (cfE l) S) ∧ (S = [] → ov = .slice none 0 0) ∧ Keep none_ w wr)
    (fun _ iv _ _ _ => l.length - (intOf iv).toNat)
  case atStart => exact ⟨0, [], rfl, Nat.zero_le _, World.ownsRow_nil _ _ _ _, Lib.hid (List.Perm.refl _), Lib.hid List.Pairwise.nil, fun _ => rfl, Keep.refl _ _⟩
  case round =>
    obtain ⟨i, S, rfl, hi, own, pS, sS, hnil, kk⟩ := hrel
    by_cases hlt : i < l.length
    · obtain ⟨b, off, rfl, hbl, -⟩ := h.at_ (by omega)
      have ci : wr.cell? ⟨b, off + i * 14 + 12, none⟩ = some (.int .i64 l[i].point) := (h.keep kk Off.none_).cellk hlt 12 (by omega)
      have hpi : ptOf l (i : Int) = l[i].point := by simp [ptOf, List.getElem?_eq_getElem hlt]
      have hsu := idxs_succ l i
      rw [hpi] at hsu
      generalize l[i].point = pt at *
      obtain ⟨vA, vc, rfl⟩ := own_form own
      have hSl : S.length ≤ 100 := by have := pS.out.length_eq; have := idxs_len l i; omega
      by_cases hp : pt = 0
      · have hpb : (pt == 0) = true := by simp [hp]
        rw [if_pos hp] at hsu
        replace hsu := Lib.hid hsu
        clear hp
        go_wp2_with fail
        go_roundw
        case rel => exact ⟨i + 1, S, by go_num, by omega, own, Lib.hid (by rw [hsu.out]; exact pS.out), sS, hnil, kk⟩
        case measure => simp [intOf]; omega
      · have hpb : (pt == 0) = false := by simp [hp]
        rw [if_neg hp] at hsu
        replace hsu := Lib.hid hsu
        clear hp
        go_wp2_with fail
        go_loopw [5] (fun av wr => ∃ (a : Nat), av = .int .i64 a ∧ a ≤ S.length ∧ Hid (∀ p (hp : p < S.length), a ≤ p → ptOf l (i : Int) < ptOf l S[p]) ∧ Keep none_ w wr ∧ wr.ownsRow w.heap.size 3 1 (.slice vA S.length vc) S.length (flat encI S))
          (fun av _ => (intOf av).toNat)
        case atStart => exact ⟨S.length, rfl, Nat.le_refl _, Lib.hid (fun p hp h9 => by omega), kk, own⟩
        case round =>
          clear own kk ci
          obtain ⟨a, rfl, ha, h2, kk, own⟩ := hrel
          have hlen0 := own_len encI_len (by decide) own
          obtain ⟨ι, hnn, f, hf0, hfk, hfa⟩ := class_of none_ wr
          by_cases ha1 : 0 < a
          · have hSpos : 0 < S.length := by omega
            obtain ⟨g, cap, hv9, hbg, hgl, hgc, hgm⟩ := own_some own hSpos
            obtain ⟨a', ha'⟩ : ∃ a', a' = a - 1 := ⟨_, rfl⟩
            have ea : (a : Int) - 1 = (a' : Int) := by omega
            have ha'S : a' < S.length := by omega
            obtain ⟨jx, ej, hjx⟩ := idxs_tag (pS.out.mem_iff.1 (List.getElem_mem ha'S))
            have hjl : jx < l.length := by omega
            have hpj : ptOf l (jx : Int) = l[jx].point := by simp [ptOf, List.getElem?_eq_getElem hjl]
            injection hv9 with e1 e2 e3
            subst e1 e3
            have cj : ∀ n, (f n).cell? ⟨g, a', none⟩ = some (.int .i64 (jx : Int)) := fun n => (show IRow (f n) w.heap.size g S.length vc S from own_keep own (hfk n) (fun _ _ e => e)).cell (by rw [List.getElem?_eq_getElem ha'S, ej])
            have cpj : ∀ n, (f n).cell? ⟨b, off + jx * 14 + 12, none⟩ = some (.int .i64 l[jx].point) := fun n => (h.keep (kk.trans (hfk n)) Off.none_).cellk hjl 12 (by omega)
            have cpi : ∀ n, (f n).cell? ⟨b, off + i * 14 + 12, none⟩ = some (.int .i64 pt) := fun n => by
              have := (h.keep (kk.trans (hfk n)) Off.none_).cellk hlt 12 (by omega)
              rw [this]
              have h9 := hpi
              simp only [ptOf, Int.toNat_natCast, List.getElem?_eq_getElem hlt] at h9
              simp [Event.cells, h9]
            have hjI : (jx : Int) < (l.length : Int) := by omega
            have hj0 := Int.natCast_nonneg jx
            have haI' : (a' : Int) < (S.length : Int) := by omega
            have ha'0 := Int.natCast_nonneg a'
            have ha0' : (0 : Int) < (a : Int) := by omega
            generalize l[jx].point = pj at *
            replace ha' := Lib.hid ha'
            replace ej := Lib.hid ej
            replace hpj := Lib.hid hpj
            by_cases hgt : pt < pj
            · go_wp2_with fail
              refine wp_region_class f (by kernel_rfl) (by kernel_rfl) hf0 ?_
              repeat (go_big_quiet_step (fail))
              refine wpQuiet_nil ?_
              rintro _ ⟨nn, rfl⟩
              replace kk := kk.trans (hfk nn)
              replace own := own_keep own (hfk nn) (fun _ _ e => e)
              clear hf0 hfk hfa hlen0 cj cpj cpi
              go_wp2_with fail
              go_roundw
              case rel => exact ⟨a', by go_num, by omega, Lib.hid (fun p hp h9 => by
                by_cases e : p = a'
                · subst e
                  rw [ej.out, hpj.out, hpi]; exact hgt
                · exact h2.out p hp (by have := ha'.out; omega)), kk, own⟩
              case measure => have := ha'.out; simp [intOf]; omega
            · have h1 : Hid (∀ x, 0 < a → S[a - 1]? = some x → ptOf l x ≤ ptOf l (i : Int)) := Lib.hid (fun x _ hx => by
                have := ha'.out
                rw [← this, List.getElem?_eq_getElem ha'S, ej.out] at hx
                rw [← Option.some.inj hx, hpj.out, hpi]; omega)
              go_wp2_with fail
              refine wp_region_class f (by kernel_rfl) (by kernel_rfl) hf0 ?_
              repeat (go_big_quiet_step (fail))
              refine wpQuiet_nil ?_
              rintro _ ⟨nn, rfl⟩
              replace kk := kk.trans (hfk nn)
              replace own := own_keep own (hfk nn) (fun _ _ e => e)
              clear hf0 hfk hfa hlen0 cj cpj cpi
              generalize f nn = wr at *
              have hT : Hid ((S.take a ++ (i : Int) :: S.drop a).Perm (idxs l (i + 1))) := Lib.hid (by
                rw [hsu.out]
                refine List.perm_middle.trans ?_
                rw [List.take_append_drop]
                exact (List.Perm.cons _ pS.out).trans (List.perm_append_comm (l₁ := [(i : Int)])))
              have hO : Hid (SortedC (cfE l) (S.take a ++ (i : Int) :: S.drop a)) := Lib.hid (insert_at sS.out (fun x hx => by
                obtain ⟨q, rfl, hq⟩ := idxs_tag (pS.out.mem_iff.1 hx)
                simpa using hq) ha h2.out (fun x h0 hx => h1.out x h0 hx))
              have hlen9 : (S.take a ++ (i : Int) :: S.drop a).length = a + 1 + (S.length - a) := by rw [List.length_append, List.length_cons, List.length_take, List.length_drop]; omega
              clear h1 h2
              have slq := Sl.of_own encI_len (by decide) own
              have hvc := slq.2.1
              have hvm := slq.2.2.1
              unfold maxLen at hvm
              have ha0 := Int.natCast_nonneg a
              have haI : (a : Int) ≤ (S.length : Int) := by omega
              have havI : (a : Int) ≤ (vc : Int) := by omega
              have hav : a ≤ vc := by omega
              have hkq := kk.size
              have hown5 := own_empty (k := 1) (enc := encI) (At.new wr #[] 3) (Nat.le_refl wr.heap.size)
              have kq5 : Keep none_ wr (wr.alloc (.cells #[] 3)) := (by repeat' (first | assumption | with_reducible exact Keep.refl _ _ | with_reducible refine Keep.alloc ?_ _ | with_reducible refine Keep.drew ?_))
              clear hnil
              by_cases hca : vc = a
              · have hSa : S.length = a := by omega
                have hdn : S.drop a = [] := by rw [List.drop_eq_nil_iff]; omega
                replace hdn := Lib.hid hdn
                replace hSa := Lib.hid hSa
                replace hca := hca.symm
                subst hca
                go_wp2_with (at_builtin; refine wpList_append_sl _ rfl _ _ _ rfl wr.heap.size 3 row_intH encI_len encI_one _ 0 [] rfl hown5 (some ⟨g, 0, none⟩) _ _ (S.take a) rfl ((slq.takeR a ha).keep kq5 Off.none_) (by omega) (by simp) ?_)
                intro v1 w5 own1 grow1 loc1
                try simp only [Nat.zero_add, List.nil_append] at own1
                have kA : Keep none_ wr w5 := keep_grown (a := wr) (S := none_) kq5 hown5 grow1 (Nat.le_refl _)
                have own1' := own_keep own1 (S := none_) (Keep.alloc (Keep.refl none_ w5) (.cells #[.int .i64 (i : Int)] 3)) (fun _ _ e => e)
                have hbs5 : wr.heap.size ≤ (w5.alloc (.cells #[.int .i64 (i : Int)] 3)).heap.size := by have := kA.size; simp; omega
                have sl1 : Sl encI 1 (w5.alloc (.cells #[.int .i64 (i : Int)] 3)) (some ⟨w5.heap.size, 0, none⟩) 1 1 [(i : Int)] := Sl.of_at (At.new w5 #[.int .i64 (i : Int)] 3) encI_len (by decide) rfl rfl (by unfold maxLen; simp)
                replace own1 := Lib.hid own1
                replace own1' := Lib.hid own1'
                replace sl1 := Lib.hid sl1
                replace hbs5 := Lib.hid hbs5
                have h630 : a + 1 ≤ 1000000 := by omega
                go_wp2_with (at_builtin; refine wpList_append_sl _ rfl _ _ _ rfl wr.heap.size 3 row_intH encI_len encI_one _ a (S.take a) rfl own1'.out (some ⟨_, 0, none⟩) 1 1 [(i : Int)] rfl sl1.out h630 hbs5.out ?_)
                intro v2 w6 own2 grow2 loc2
                have kB : Keep none_ wr w6 := keep_grown (a := wr) (S := none_) (Keep.alloc kA _) own1'.out grow2 (Nat.le_refl _)
                replace own2 := Lib.hid own2
                have hsum : a + 1 + (S.length - a) ≤ 1000000 := by omega
                go_wp2_with (at_builtin; refine wpList_append_sl _ rfl _ _ _ rfl wr.heap.size 3 row_intH encI_len encI_one _ (a + 1) (S.take a ++ [(i : Int)]) rfl own2.out _ _ _ (S.drop a) rfl (Sl.zeroR (by have := hSa.out; omega) hdn.out (by unfold maxLen; omega)) (by omega) kB.size ?_)
                intro v3 w7 own3 grow3 loc3
                have kC : Keep none_ wr w7 := keep_grown (a := wr) (S := none_) kB own2.out grow3 (Nat.le_refl _)
                replace own3 := Lib.hid own3
                go_wp2_with fail
                go_roundw
                case rel => exact ⟨i + 1, S.take a ++ (i : Int) :: S.drop a, by go_num, by omega, by
                  have h9 := own_lower own3.out hkq
                  have hn9 := own_len encI_len (by decide) own3.out
                  have e9 : S.take a ++ [(i : Int)] ++ S.drop a = S.take a ++ (i : Int) :: S.drop a := by simp
                  try rw [e9] at hn9
                  try rw [e9] at h9
                  rw [← hn9]
                  exact h9, hT, hO, fun h => by simp at h, kk.trans kC⟩
                case measure => simp [intOf]; omega
              · go_wp2_with (at_builtin; refine wpList_append_sl _ rfl _ _ _ rfl wr.heap.size 3 row_intH encI_len encI_one _ 0 [] rfl hown5 (some ⟨g, 0, none⟩) _ _ (S.take a) rfl ((slq.takeR a ha).keep kq5 Off.none_) (by omega) (by simp) ?_)
                intro v1 w5 own1 grow1 loc1
                try simp only [Nat.zero_add, List.nil_append] at own1
                have kA : Keep none_ wr w5 := keep_grown (a := wr) (S := none_) kq5 hown5 grow1 (Nat.le_refl _)
                have own1' := own_keep own1 (S := none_) (Keep.alloc (Keep.refl none_ w5) (.cells #[.int .i64 (i : Int)] 3)) (fun _ _ e => e)
                have hbs5 : wr.heap.size ≤ (w5.alloc (.cells #[.int .i64 (i : Int)] 3)).heap.size := by have := kA.size; simp; omega
                have sl1 : Sl encI 1 (w5.alloc (.cells #[.int .i64 (i : Int)] 3)) (some ⟨w5.heap.size, 0, none⟩) 1 1 [(i : Int)] := Sl.of_at (At.new w5 #[.int .i64 (i : Int)] 3) encI_len (by decide) rfl rfl (by unfold maxLen; simp)
                replace own1 := Lib.hid own1
                replace own1' := Lib.hid own1'
                replace sl1 := Lib.hid sl1
                replace hbs5 := Lib.hid hbs5
                have h630 : a + 1 ≤ 1000000 := by omega
                go_wp2_with (at_builtin; refine wpList_append_sl _ rfl _ _ _ rfl wr.heap.size 3 row_intH encI_len encI_one _ a (S.take a) rfl own1'.out (some ⟨_, 0, none⟩) 1 1 [(i : Int)] rfl sl1.out h630 hbs5.out ?_)
                intro v2 w6 own2 grow2 loc2
                have kB : Keep none_ wr w6 := keep_grown (a := wr) (S := none_) (Keep.alloc kA _) own1'.out grow2 (Nat.le_refl _)
                replace own2 := Lib.hid own2
                have hsum : a + 1 + (S.length - a) ≤ 1000000 := by omega
                go_wp2_with (at_builtin; refine wpList_append_sl _ rfl _ _ _ rfl wr.heap.size 3 row_intH encI_len encI_one _ (a + 1) (S.take a ++ [(i : Int)]) rfl own2.out _ _ _ (S.drop a) rfl ((slq.drop a ha (by omega) rfl rfl rfl).keep kB Off.none_) (by omega) kB.size ?_)
                intro v3 w7 own3 grow3 loc3
                have kC : Keep none_ wr w7 := keep_grown (a := wr) (S := none_) kB own2.out grow3 (Nat.le_refl _)
                replace own3 := Lib.hid own3
                go_wp2_with fail
                go_roundw
                case rel => exact ⟨i + 1, S.take a ++ (i : Int) :: S.drop a, by go_num, by omega, by
                  have h9 := own_lower own3.out hkq
                  have hn9 := own_len encI_len (by decide) own3.out
                  have e9 : S.take a ++ [(i : Int)] ++ S.drop a = S.take a ++ (i : Int) :: S.drop a := by simp
                  try rw [e9] at hn9
                  try rw [e9] at h9
                  rw [← hn9]
                  exact h9, hT, hO, fun h => by simp at h, kk.trans kC⟩
                case measure => simp [intOf]; omega
          · have h1 : Hid (∀ x, 0 < a → S[a - 1]? = some x → ptOf l x ≤ ptOf l (i : Int)) := Lib.hid (fun x h => absurd h ha1)
            have hd0 : decide ((0 : Int) < (a : Int)) = false := by simp; omega
            go_wp2_with fail
            refine wp_region_class f (by kernel_rfl) (by kernel_rfl) hf0 ?_
            repeat (go_big_quiet_step (fail))
            refine wpQuiet_nil ?_
            rintro _ ⟨nn, rfl⟩
            replace kk := kk.trans (hfk nn)
            replace own := own_keep own (hfk nn) (fun _ _ e => e)
            clear hf0 hfk hfa hlen0
            generalize f nn = wr at *
            have hT : Hid ((S.take a ++ (i : Int) :: S.drop a).Perm (idxs l (i + 1))) := Lib.hid (by
              rw [hsu.out]
              refine List.perm_middle.trans ?_
              rw [List.take_append_drop]
              exact (List.Perm.cons _ pS.out).trans (List.perm_append_comm (l₁ := [(i : Int)])))
            have hO : Hid (SortedC (cfE l) (S.take a ++ (i : Int) :: S.drop a)) := Lib.hid (insert_at sS.out (fun x hx => by
              obtain ⟨q, rfl, hq⟩ := idxs_tag (pS.out.mem_iff.1 hx)
              simpa using hq) ha h2.out (fun x h0 hx => h1.out x h0 hx))
            have hlen9 : (S.take a ++ (i : Int) :: S.drop a).length = a + 1 + (S.length - a) := by rw [List.length_append, List.length_cons, List.length_take, List.length_drop]; omega
            clear h1 h2
            have slq := Sl.of_own encI_len (by decide) own
            have hvc := slq.2.1
            have hvm := slq.2.2.1
            unfold maxLen at hvm
            have ha0 := Int.natCast_nonneg a
            have haI : (a : Int) ≤ (S.length : Int) := by omega
            have havI : (a : Int) ≤ (vc : Int) := by omega
            have hav : a ≤ vc := by omega
            have hkq := kk.size
            have hown5 := own_empty (k := 1) (enc := encI) (At.new wr #[] 3) (Nat.le_refl wr.heap.size)
            have kq5 : Keep none_ wr (wr.alloc (.cells #[] 3)) := (by repeat' (first | assumption | with_reducible exact Keep.refl _ _ | with_reducible refine Keep.alloc ?_ _ | with_reducible refine Keep.drew ?_))
            rcases List.eq_nil_or_concat S with hS0 | ⟨q0, y0, hS0⟩
            · obtain rfl : vA = none := by
                have := hnil hS0
                injection this
              have haz : a = 0 := by rw [hS0] at ha; simpa using ha
              have hvc0 : vc = 0 := by
                have := hnil hS0
                injection this
              subst hvc0
              have hSl0 : S.length = 0 := by rw [hS0]; rfl
              clear hnil slq
              have hT0 : S.take a ++ (i : Int) :: S.drop a = [(i : Int)] := by rw [hS0]; simp
              replace hT0 := Lib.hid hT0
              replace hS0 := Lib.hid hS0
              replace haz := Lib.hid haz
              go_wp2_with (at_builtin; refine wpList_append_sl _ rfl _ _ _ rfl wr.heap.size 3 row_intH encI_len encI_one _ 0 [] rfl hown5 none 0 0 [] rfl (Sl.nil _ _ _ _ _ (by decide)) (by decide) (by simp) ?_)
              intro v1 w5 own1 grow1 loc1
              try simp only [Nat.zero_add, List.nil_append] at own1
              have kA : Keep none_ wr w5 := keep_grown (a := wr) (S := none_) kq5 hown5 grow1 (Nat.le_refl _)
              have own1' := own_keep own1 (S := none_) (Keep.alloc (Keep.refl none_ w5) (.cells #[.int .i64 (i : Int)] 3)) (fun _ _ e => e)
              have hbs5 : wr.heap.size ≤ (w5.alloc (.cells #[.int .i64 (i : Int)] 3)).heap.size := by have := kA.size; simp; omega
              have sl1 : Sl encI 1 (w5.alloc (.cells #[.int .i64 (i : Int)] 3)) (some ⟨w5.heap.size, 0, none⟩) 1 1 [(i : Int)] := Sl.of_at (At.new w5 #[.int .i64 (i : Int)] 3) encI_len (by decide) rfl rfl (by unfold maxLen; simp)
              replace own1 := Lib.hid own1
              replace own1' := Lib.hid own1'
              replace sl1 := Lib.hid sl1
              replace hbs5 := Lib.hid hbs5
              go_wp2_with (at_builtin; refine wpList_append_sl _ rfl _ _ _ rfl wr.heap.size 3 row_intH encI_len encI_one _ 0 [] rfl own1'.out (some ⟨_, 0, none⟩) 1 1 [(i : Int)] rfl sl1.out (by decide) hbs5.out ?_)
              intro v2 w6 own2 grow2 loc2
              have kB : Keep none_ wr w6 := keep_grown (a := wr) (S := none_) (Keep.alloc kA _) own1'.out grow2 (Nat.le_refl _)
              replace own2 := Lib.hid own2
              go_wp2_with (at_builtin; refine wpList_append_sl _ rfl _ _ _ rfl wr.heap.size 3 row_intH encI_len encI_one _ 1 [(i : Int)] rfl own2.out none 0 0 [] rfl (Sl.nil _ _ _ _ _ (by decide)) (by decide) kB.size ?_)
              intro v3 w7 own3 grow3 loc3
              have kC : Keep none_ wr w7 := keep_grown (a := wr) (S := none_) kB own2.out grow3 (Nat.le_refl _)
              replace own3 := Lib.hid own3
              go_wp2_with fail
              go_roundw
              case rel => exact ⟨i + 1, S.take a ++ (i : Int) :: S.drop a, by go_num, by omega, by
                have h9 := own_lower own3.out hkq
                rw [hT0.out]
                exact h9, hT, hO, fun h => by simp at h, kk.trans kC⟩
              case measure => simp [intOf]; omega
            · have hSpos : 0 < S.length := by rw [hS0]; simp
              obtain ⟨g, cap, hv9, hbg, hgl, hgc, hgm⟩ := own_some own hSpos
              injection hv9 with e1 e2 e3
              subst e1 e3
              clear hS0
              clear hnil
              have hca : ¬ vc = a := by omega
              go_wp2_with (at_builtin; refine wpList_append_sl _ rfl _ _ _ rfl wr.heap.size 3 row_intH encI_len encI_one _ 0 [] rfl hown5 (some ⟨g, 0, none⟩) _ _ (S.take a) rfl ((slq.takeR a ha).keep kq5 Off.none_) (by omega) (by simp) ?_)
              intro v1 w5 own1 grow1 loc1
              try simp only [Nat.zero_add, List.nil_append] at own1
              have kA : Keep none_ wr w5 := keep_grown (a := wr) (S := none_) kq5 hown5 grow1 (Nat.le_refl _)
              have own1' := own_keep own1 (S := none_) (Keep.alloc (Keep.refl none_ w5) (.cells #[.int .i64 (i : Int)] 3)) (fun _ _ e => e)
              have hbs5 : wr.heap.size ≤ (w5.alloc (.cells #[.int .i64 (i : Int)] 3)).heap.size := by have := kA.size; simp; omega
              have sl1 : Sl encI 1 (w5.alloc (.cells #[.int .i64 (i : Int)] 3)) (some ⟨w5.heap.size, 0, none⟩) 1 1 [(i : Int)] := Sl.of_at (At.new w5 #[.int .i64 (i : Int)] 3) encI_len (by decide) rfl rfl (by unfold maxLen; simp)
              replace own1 := Lib.hid own1
              replace own1' := Lib.hid own1'
              replace sl1 := Lib.hid sl1
              replace hbs5 := Lib.hid hbs5
              have h630 : a + 1 ≤ 1000000 := by omega
              go_wp2_with (at_builtin; refine wpList_append_sl _ rfl _ _ _ rfl wr.heap.size 3 row_intH encI_len encI_one _ a (S.take a) rfl own1'.out (some ⟨_, 0, none⟩) 1 1 [(i : Int)] rfl sl1.out h630 hbs5.out ?_)
              intro v2 w6 own2 grow2 loc2
              have kB : Keep none_ wr w6 := keep_grown (a := wr) (S := none_) (Keep.alloc kA _) own1'.out grow2 (Nat.le_refl _)
              replace own2 := Lib.hid own2
              have hsum : a + 1 + (S.length - a) ≤ 1000000 := by omega
              go_wp2_with (at_builtin; refine wpList_append_sl _ rfl _ _ _ rfl wr.heap.size 3 row_intH encI_len encI_one _ (a + 1) (S.take a ++ [(i : Int)]) rfl own2.out _ _ _ (S.drop a) rfl ((slq.drop a ha (by omega) rfl rfl rfl).keep kB Off.none_) (by omega) kB.size ?_)
              intro v3 w7 own3 grow3 loc3
              have kC : Keep none_ wr w7 := keep_grown (a := wr) (S := none_) kB own2.out grow3 (Nat.le_refl _)
              replace own3 := Lib.hid own3
              go_wp2_with fail
              go_roundw
              case rel => exact ⟨i + 1, S.take a ++ (i : Int) :: S.drop a, by go_num, by omega, by
                have h9 := own_lower own3.out hkq
                have hn9 := own_len encI_len (by decide) own3.out
                have e9 : S.take a ++ [(i : Int)] ++ S.drop a = S.take a ++ (i : Int) :: S.drop a := by simp
                try rw [e9] at hn9
                try rw [e9] at h9
                rw [← hn9]
                exact h9, hT, hO, fun h => by simp at h, kk.trans kC⟩
              case measure => simp [intOf]; omega
    · obtain rfl : i = l.length := by omega
      go_wp2_with fail
      go_ret
      exact ⟨_, S, rfl, own, pS.out, sS.out, kk⟩
end Go.Proofs.YtmioichjhiengaaGreat
