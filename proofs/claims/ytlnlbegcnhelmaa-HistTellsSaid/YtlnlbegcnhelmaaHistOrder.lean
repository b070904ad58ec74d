/-
  hist.Order.
-/
import Derived.Test.YtlnlbegcnhelmaaHistOne
namespace Go.Proofs.Ytlnlbegcnhelmaa
open Go.RowKit

theorem insert_nil (w : World) (f : Value) : Calls Try.prog 100 #[.slice none 0 0, .int .i64 0, .int .i64 0, f] w fun e w' => e = .returned (.tuple #[]) ∧ w = w' := by
  go_enter Try.func100, Try.ntmps100
  go_wp2_with fail
  go_loopw [8, 9] (fun iv _ wr => iv = .int .i64 1 ∧ w = wr) (fun _ _ _ => 0)
  case atStart => exact ⟨rfl, rfl⟩
  case round =>
    obtain ⟨rfl, rfl⟩ := hrel
    go_wp2_with fail
    refine bodyPost_end (v := .tuple #[]) ?_ ?_ ?_
    · exact results_none Try.results100 _ _ _
    · rfl
    · exact ⟨rfl, rfl⟩
theorem stable_nil (w : World) (f : Value) : Calls Try.prog 97 #[.slice none 0 0, .int .i64 0, f] w fun e w' => e = .returned (.tuple #[]) ∧ w = w' := by
  go_enter Try.func97, Try.ntmps97
  go_wp2_with fail
  go_loopw [7, 8] (fun av bv wr => av = .int .i64 0 ∧ bv = .int .i64 20 ∧ w = wr) (fun _ _ _ => 0)
  case atStart => exact ⟨rfl, rfl, rfl⟩
  case round =>
    obtain ⟨rfl, rfl, rfl⟩ := hrel
    go_wp2_with fail
    refine (insert_nil _ _).mono ?_
    rintro e w1 ⟨rfl, rfl⟩
    go_wp2_with fail
    go_loopw [6, 7, 8, 9] (fun sv _ _ _ wr => sv = .int .i64 20 ∧ w = wr) (fun _ _ _ _ _ => 0)
    case atStart => exact ⟨rfl, rfl⟩
    case round =>
      obtain ⟨rfl, rfl⟩ := hrel
      go_wp2_with fail
      refine bodyPost_end (v := .tuple #[]) ?_ ?_ ?_
      · exact results_none Try.results97 _ _ _
      · rfl
      · exact ⟨rfl, rfl⟩
theorem sort_nil (w : World) (f : Value) : Calls Try.prog 86 #[.slice none 0 0, f] w fun e w' => e = .returned (.tuple #[]) ∧ w = w' := by
  go_enter Try.func86, Try.ntmps86
  go_wp2_with fail
  refine (stable_nil _ _).mono ?_
  rintro e w1 ⟨rfl, rfl⟩
  go_wp2_with fail
  refine bodyPost_end (v := .tuple #[]) ?_ ?_ ?_
  · exact results_none Try.results86 _ _ _
  · rfl
  · exact ⟨rfl, rfl⟩

/-- The indexes of those of the first k that have a point. -/
def idxs (l : List Event) (k : Nat) : List Int := ((List.range k).filter (fun i : Nat => ptOf l (i : Int) != 0)).map (fun i : Nat => (i : Int))
theorem idxs_succ (l : List Event) (k : Nat) : idxs l (k + 1) = if ptOf l (k : Int) = 0 then idxs l k else idxs l k ++ [(k : Int)] := by
  unfold idxs
  rw [List.range_succ, List.filter_append, List.map_append]
  by_cases h : ptOf l (k : Int) = 0
  · rw [if_pos h]; simp [h]
  · rw [if_neg h]; simp [h]
theorem idxs_len (l : List Event) (k : Nat) : (idxs l k).length ≤ k := by
  unfold idxs
  rw [List.length_map]
  have := List.length_filter_le (fun i : Nat => ptOf l (i : Int) != 0) (List.range k)
  simpa using this
theorem idxs_in (l : List Event) : SortIn (idxOk l) (idxs l l.length) where
  tags := by
    unfold idxs
    rw [List.pairwise_map]
    exact (List.pairwise_lt_range.filter _).imp (fun h => by simpa using h)
  ok := by
    intro x hx
    unfold idxs at hx
    rw [List.mem_map] at hx
    obtain ⟨i, hi, rfl⟩ := hx
    have := List.mem_range.1 (List.mem_filter.1 hi).1
    exact ⟨Int.natCast_nonneg i, by simpa using this⟩
theorem row_intH : Row Try.prog 23 3 1 := row_of Try.underlying23 (b := 8) (z := .int .i64 0) (by kernel_rfl) rfl (by decide) (by decide)

/-- What Order hands back. -/
def OrderDone (w : World) (l : List Event) (e : Ending) (w' : World) : Prop :=
  ∃ v S, e = .returned v ∧ w'.ownsRow w.heap.size 3 1 v S.length (flat encI S) ∧ S.Perm (idxs l l.length) ∧ SortedC (cfE l) S ∧ Keep none_ w w'
set_option maxHeartbeats 4000000 in
set_option maxRecDepth 100000 in
theorem hist_order {w : World} {A : Option Addr} {c : Nat} {l : List Event} (h : Evs w A c l) (hlen : l.length ≤ 100) (hpn : ∀ x ∈ l, ∃ A n c, x.panes = .slice A n c) :
    Calls Try.prog 64 #[.slice A l.length c] w (OrderDone w l) := by
  have hmf : ∀ (fn : Fn) (first cap : Array Value) (w : World), (Instr.makeFunc fn first cap).run Try.prog w = .ok (.func fn first cap) w := fun _ _ _ _ => rfl
  have hbx := At.new w #[.slice A l.length c] 116
  have k0 : Keep none_ w (w.alloc (.cells #[.slice A l.length c] 116)) := (by repeat' (first | assumption | with_reducible exact Keep.refl _ _ | with_reducible refine Keep.alloc ?_ _ | with_reducible refine Keep.drew ?_))
  have hs0 : w.heap.size + 1 = (w.alloc (.cells #[.slice A l.length c] 116)).heap.size := by simp
  have hnc := h.2.2.1
  have hlc := h.2.1
  unfold maxLen at hnc
  go_enter Try.func64, Try.ntmps64
  go_wp2_with fail
  generalize w.alloc _ = w1 at *
  have hsz := k0.size
  obtain ⟨bx, hbxe⟩ : ∃ bx, bx = w.heap.size := ⟨_, rfl⟩
  rw [← hbxe] at hbx ⊢
  replace hbxe := Lib.hid hbxe
  replace hs0 := Lib.hid hs0
  go_loopw [3, 4, 5, 8] (fun ov _ _ iv wr => ∃ (k : Nat), iv = .int .i64 k ∧ k ≤ l.length ∧ wr.ownsRow w1.heap.size 3 1 ov (idxs l k).length (flat encI (idxs l k)) ∧ Keep none_ w1 wr)
    (fun _ _ _ iv _ => l.length - (intOf iv).toNat)
  case atStart => exact ⟨0, rfl, Nat.zero_le _, World.ownsRow_nil _ _ _ _, Keep.refl _ _⟩
  case round =>
    obtain ⟨k, rfl, hk, own, kk⟩ := hrel
    by_cases hlt : k < l.length
    · obtain ⟨b, off, rfl, hbl, -⟩ := h.at_ (by omega)
      have ck := (h.keep (k0.trans kk) Off.none_).cellk hlt
      have hpt : ptOf l (k : Int) = l[k].point := by simp [ptOf, List.getElem?_eq_getElem hlt]
      have hsu := idxs_succ l k
      rw [hpt] at hsu
      obtain ⟨pA, pN, pC, hpe⟩ := hpn l[k] (List.getElem_mem _)
      generalize l[k] = ev at *
      obtain ⟨cl, n, ⟨co, cy, ct, cv, cf, cg, cs⟩, code, pn, bg, pt, en⟩ := ev
      simp only at hpe
      subst hpe
      have i0 := ck 0 (by omega)
      have i1 := ck 1 (by omega)
      have i2 := ck 2 (by omega)
      have i3 := ck 3 (by omega)
      have i4 := ck 4 (by omega)
      have i5 := ck 5 (by omega)
      have i6 := ck 6 (by omega)
      have i7 := ck 7 (by omega)
      have i8 := ck 8 (by omega)
      have i9 := ck 9 (by omega)
      have i10 := ck 10 (by omega)
      have i11 := ck 11 (by omega)
      have i12 := ck 12 (by omega)
      have i13 := ck 13 (by omega)
      simp only [Event.cells, Nat.add_zero, List.getElem?_cons_zero, List.getElem?_cons_succ] at i0 i1 i2 i3 i4 i5 i6 i7 i8 i9 i10 i11 i12 i13 hsu hpt
      clear ck hpt
      have hil := idxs_len l k
      generalize idxs l k = q at *
      by_cases hp : pt = 0
      · have hpb : (pt != 0) = false := by simp [hp]
        rw [if_pos hp] at hsu
        replace hsu := Lib.hid hsu
        clear hp
        go_wp2_with fail
        go_roundw
        case rel => exact ⟨k + 1, by go_num, by omega, by rw [hsu.out]; exact own_keep own (S := none_) (Keep.alloc (Keep.refl _ _) _) (fun _ _ e => e), kk.alloc _⟩
        case measure => simp [intOf]; omega
      · have hpb : (pt != 0) = true := by simp [hp]
        rw [if_neg hp] at hsu
        replace hsu := Lib.hid hsu
        clear hp
        have kb := kk.size
        have own2 := own_keep own (S := none_) (Keep.alloc (Keep.refl none_ wr) (.cells #[.int .i64 cl, .int .i64 n, .int .i64 co, .string cy, .int .i64 ct, .int .i64 cv, .int .i64 cf, .int .i64 cg, .int .i64 cs, .int .i64 code, .slice pA pN pC, .int .i64 bg, .int .i64 pt, .int .i64 en] 120)) (fun _ _ e => e)
        go_wp2_with (at_builtin; refine wpList_append_sl _ rfl _ _ _ rfl w1.heap.size 3 row_intH encI_len encI_one _ q.length q rfl (own_keep own2 (S := none_) (by repeat' (first | assumption | with_reducible exact Keep.refl _ _ | with_reducible refine Keep.alloc ?_ _ | with_reducible refine Keep.drew ?_)) (fun _ _ e => e)) (some ⟨_, 0, none⟩) 1 1 [(k : Int)] rfl (Sl.of_at (cs := #[.int .i64 (k : Int)]) (e := 3) (by repeat' (first | ((with_reducible refine At.newAt ?_ _ _); (first | (simp; done) | rfl)) | with_reducible refine At.drew ?_ | with_reducible refine At.alloc ?_ _)) encI_len (by decide) rfl rfl (by unfold maxLen; omega)) (by omega) (by simp; omega) ?_)
        intro v1 w5 own1 grow1 loc1
        have kA : Keep none_ w1 w5 := keep_grown (a := w1) (S := none_) (kk.trans (by repeat' (first | assumption | with_reducible exact Keep.refl _ _ | with_reducible refine Keep.alloc ?_ _ | with_reducible refine Keep.drew ?_))) (own_keep own2 (S := none_) (by repeat' (first | assumption | with_reducible exact Keep.refl _ _ | with_reducible refine Keep.alloc ?_ _ | with_reducible refine Keep.drew ?_)) (fun _ _ e => e)) grow1 (Nat.le_refl _)
        go_wp2_with fail
        go_roundw
        case rel => exact ⟨k + 1, by go_num, by omega, by rw [hsu.out, List.length_append]; exact own1, kA⟩
        case measure => simp [intOf]; omega
    · obtain rfl : k = l.length := by omega
      have hin := idxs_in l
      have hil := idxs_len l l.length
      have hrow := own
      rcases own.2 with ⟨rfl, h0⟩ | ⟨g, cap, cur, rfl, hbg, hcur, -⟩
      · have hnil : idxs l l.length = [] := List.length_eq_zero_iff.1 h0
        clear hlt hin hil hrow
        go_wp2_with fail
        refine (sort_nil _ _).mono ?_
        rintro e w2 ⟨rfl, rfl⟩
        go_wp2_with fail
        go_ret
        exact ⟨_, [], rfl, World.ownsRow_nil _ _ _ _, by rw [hnil], List.Pairwise.nil, k0.trans kk⟩
      · have hcmp : CmpI (.pointer (some ⟨bx, 0, none⟩)) (cfE l) (idxOk l) g wr := fun w' k' x y hx hy => by
          have hgb : bx ≠ g := by have := hbxe.out; have := hs0.out; omega
          refine order_cmp (h.keep (S := one g) (((k0.trans kk).mono (fun _ _ e => e.elim)).trans k') (fun ad he => ?_)) (Keep.at k' (Keep.at kk hbx (fun e => e)) (fun e => hgb e)) x y hx hy
          intro e9
          obtain ⟨b, off, e8, hbl, -⟩ := h.at_ (by have := hx.2; omega)
          rw [e8] at he
          have : ad = ⟨b, off, none⟩ := by simpa using he.symm
          subst this
          unfold one at e9
          simp only at e9
          have := hs0.out
          omega
        have c1 := sort_int (weak_cfE l) hrow hcmp hin (by omega)
        replace c1 := Lib.hid c1
        clear hlt hin hil hrow hcmp
        go_wp2_with fail
        refine c1.out.mono ?_
        rintro e w2 ⟨rfl, S, pS, sS, rS, kS⟩
        go_wp2_with fail
        go_ret
        refine ⟨_, S, rfl, ?_, pS, sS, (k0.trans kk).fresh kS (fun q hq e => by unfold one at e; omega)⟩
        have e1 := pS.length_eq
        rw [e1]
        exact own_lower rS hsz
end Go.Proofs.Ytlnlbegcnhelmaa
