/-
  The walk of the law OutlogSorts.
-/
import Derived.Test.YtmioichjhiengaaUpLog
import Derived.Test.YtmioichjhiengaaOutSorted
import Derived.Deep.CutRange
namespace Go.Proofs.Ytmioichjhiengaa
open Go.RowKit

theorem StableP.again {xs S : List Pane} (h : StableP xs S) : StableP S S := by
  refine ⟨tagL S, List.Perm.refl _, ?_, (tagL_fst S).symm⟩
  have h1 := h.sorted
  have h2 := tagL_lt S
  show (tagL S).Pairwise (lL (ltP cfO) tgP)
  rw [List.pairwise_iff_getElem] at h1 h2 ⊢
  intro i j hi hj hij
  have h3 := h2 i j hi hj hij
  rw [tagL_len] at hi hj
  have h4 := h1 i j hi hj hij
  unfold lL ltP cfO
  simp only [Pane.cmp_lt]
  have ei : (tagL S)[i].1 = S[i] := by simp [tagL]
  have ej : (tagL S)[j].1 = S[j] := by simp [tagL]
  rw [ei, ej]
  exact .inr ⟨h4, h3⟩
def cntE (l : List Pane) (y : Pane) : Nat := l.countP (fun x => x.eqB y)
theorem cntE_step {l : List Pane} {k : Nat} (hk : k < l.length) (y : Pane) : cntE (l.take (k + 1)) y = cntE (l.take k) y + (if l[k].eqB y then 1 else 0) := by
  unfold cntE
  rw [List.take_succ_eq_append_getElem hk, List.countP_append, List.countP_singleton]
theorem cntE_le (l : List Pane) (y : Pane) : cntE l y ≤ l.length := List.countP_le_length
theorem cntE_perm {a b : List Pane} (h : a.Perm b) (y : Pane) : cntE a y = cntE b y := h.countP_eq _
theorem lt_parts {x y : Pane} (h : x.lt y = false) : Op.bytesLess x.key.toList y.key.toList = false ∧ ((x.key.toList == y.key.toList) = true → decide (x.span.e < y.span.e) = false) := by
  unfold Pane.lt ltB eqS at h
  rw [Bool.or_eq_false_iff, Bool.and_eq_false_iff, Bool.or_eq_false_iff] at h
  refine ⟨h.1, fun e => ?_⟩
  rcases h.2 with h2 | h2
  · rw [e] at h2; cases h2
  · exact h2.1

set_option maxHeartbeats 8000000 in
set_option maxRecDepth 100000 in
theorem law_OutlogSorts (l : List Pane) (v : Value) (W : World) (hv : rSlice 7 rPane W l [v]) :
    Calls Try.prog 4 #[v] W fun e W' => e = .returned (.bool true) ∧ Below W.heap.size W W' := by
  obtain ⟨A, m, c, rfl, h, -⟩ := sl_of Pane.cells Pane.ok (fun _ _ _ h => h) hv
  clear hv
  have hml := h.len
  have hlc := h.2.1
  have hnc := h.2.2.1
  unfold maxLen at hnc
  by_cases h100 : 100 < m
  · have hd : decide ((100 : Int) < (m : Int)) = true := by simp; omega
    clear hml h
    go_enter Try.func4, Try.ntmps4
    go_wp2_with fail
    refine (up9 _).mono ?_
    rintro e w1 ⟨rfl, k1⟩
    go_wp2_with fail
    go_ret
    exact ⟨by simp, k1.below (Nat.le_refl _) not_none⟩
  · have hd : decide ((100 : Int) < (m : Int)) = false := by simp; omega
    replace hml := Lib.hid hml
    go_enter Try.func4, Try.ntmps4
    go_wp2_with fail
    refine (up9 _).mono ?_
    rintro e w1 ⟨rfl, k1⟩
    go_wp2_with fail
    go_loopw [4] (fun iv wr => ∃ i : Nat, iv = .int .i64 i ∧ i ≤ m ∧ wr = w1) (fun iv _ => m - (intOf iv).toNat)
    case atStart => exact ⟨0, rfl, Nat.zero_le _, rfl⟩
    case round =>
      obtain ⟨i, rfl, him, rfl⟩ := hrel
      by_cases hlt : i < m
      · have hix : i < l.length := by have := hml.out; omega
        have hsl := h.keep k1 Off.none_
        obtain ⟨b, off, rfl, hbl, -⟩ := hsl.at_ (by omega)
        obtain ⟨q0, q1, q2, q3, q4, q5, q6⟩ := hsl.pane hix
        generalize l[i] = x at *
        have hlt' : (i : Int) < (m : Int) := by omega
        have hi0 := Int.natCast_nonneg i
        clear hsl h
        by_cases hk : 100 < x.key.size
        · have hkb : decide ((100 : Int) < (x.key.size : Int)) = true := by simp; omega
          go_wp2_with fail
          go_ret
          exact ⟨by simp, k1.below (Nat.le_refl _) not_none⟩
        · have hkb : decide ((100 : Int) < (x.key.size : Int)) = false := by simp; omega
          go_wp2_with fail
          go_roundw
          case rel => exact ⟨i + 1, by go_num, by omega, by first | rfl | trivial⟩
          case measure => simp [intOf]; omega
      · obtain rfl : i = m := by omega
        have c1 := Lib.hid (out_sorted (h.keep k1 Off.none_) (by omega))
        clear hlt
        go_wp2_with fail
        refine c1.out.mono ?_
        rintro e w2 ⟨vs, S, rfl, st, o2, k2⟩
        have hSl : S.length = i := by rw [st.perm.length_eq, hml.out]
        have o2' : w2.ownsRow wr.heap.size 32 7 vs S.length (flat Pane.cells S) := o2
        rw [hSl] at o2'
        obtain ⟨A2, d2, rfl⟩ := own_form o2'
        have s2 := Sl.of_own pane_len (by decide) o2'
        have k02 := k1.trans k2
        have c2 := Lib.hid (out_sorted s2 (by omega))
        clear c1 k1 k2 o2
        have hsc := s2.2.1
        have hsm := s2.2.2.1
        unfold maxLen at hsm
        replace hSl := Lib.hid hSl
        have hnn : ((i : Int) != (i : Int)) = false := by simp
        go_wp2_with fail
        refine c2.out.mono ?_
        rintro e w3 ⟨vt, S', rfl, st', o3, k3⟩
        obtain rfl : S' = S := st'.unique st.again
        obtain ⟨A3, d3, rfl⟩ := own_form o3
        have s3 := Sl.of_own pane_len (by decide) o3
        have o3' := own_keep o2' k3 (fun _ _ e => e)
        have s23 := Sl.of_own pane_len (by decide) o3'
        have c3 := Lib.hid (log_same s3 s23 (by have := hSl.out; omega) (by omega))
        rw [panesB_self] at c3
        have k03 := k02.trans k3
        have e9 : S'.length = i := hSl.out
        rw [e9] at c3 ⊢
        clear c2 o2' s2 s3 o3 k3 k02 st' o3' e9
        go_wp2_with fail
        refine c3.out.mono ?_
        rintro e w4 ⟨rfl, k4⟩
        have k04 := k03.trans k4
        have sS := s23.keep k4 Off.none_
        have sL := h.keep k04 Off.none_
        have hperm := Lib.hid st.perm
        have hsrt := Lib.hid st.sorted
        clear c3 k03 k4 s23 st h
        generalize i = m at *
        go_wp2_with fail
        go_loopw [6, 7, 8, 9] (fun iv _ _ _ wr => ∃ i : Nat, iv = .int .i64 i ∧ i ≤ m ∧ Keep none_ w4 wr) (fun iv _ _ _ _ => m - (intOf iv).toNat)
        case atStart => exact ⟨0, rfl, Nat.zero_le _, Keep.refl _ _⟩
        case round =>
          obtain ⟨i, rfl, him, kr⟩ := hrel
          by_cases hlt : i < m
          · have hix : i < l.length := by have := hml.out; omega
            have hiS : i < S'.length := by have := hSl.out; omega
            have hlt' : (i : Int) < (m : Int) := by omega
            have hi0 := Int.natCast_nonneg i
            obtain ⟨y, hy⟩ : ∃ y, y = l[i] := ⟨_, rfl⟩
            have hYk : Hid (∀ W', Keep none_ w4 W' → ∀ b off, A = some ⟨b, off, none⟩ → PaneIn W' b (off + i * 7) y) := Lib.hid (fun W' k b off e => by
              subst e
              rw [hy]
              exact (sL.keep k Off.none_).pane hix)
            clear hy
            have hceq : Hid (cntE S' y = cntE l y) := Lib.hid (cntE_perm hperm.out y)
            go_wp2_with fail
            go_loopw [7, 8, 9] (fun av bv kv wr => ∃ k : Nat, kv = .int .i64 k ∧ k ≤ m ∧ av = .int .i64 (cntE (l.take k) y : Nat) ∧ bv = .int .i64 (cntE (S'.take k) y : Nat) ∧ Keep none_ w4 wr) (fun _ _ kv _ => m - (intOf kv).toNat)
            case atStart => exact ⟨0, rfl, Nat.zero_le _, rfl, rfl, kr⟩
            case round =>
              clear kr
              obtain ⟨k, rfl, hkm, rfl, rfl, kr⟩ := hrel
              by_cases hkl : k < m
              · have hkx : k < l.length := by have := hml.out; omega
                have hkS : k < S'.length := by have := hSl.out; omega
                have e1 := cntE_step hkx y
                have e2 := cntE_step hkS y
                have z1 : cntE (l.take k) y ≤ k := Nat.le_trans (cntE_le _ _) (by rw [List.length_take]; omega)
                have z2 : cntE (S'.take k) y ≤ k := Nat.le_trans (cntE_le _ _) (by rw [List.length_take]; omega)
                have hL := sL.keep kr Off.none_
                have hS := sS.keep kr Off.none_
                obtain ⟨b, off, rfl, hbl, -⟩ := hL.at_ (by omega)
                obtain ⟨bs, os, rfl, hbs, -⟩ := hS.at_ (by omega)
                obtain ⟨x0, x1, x2, x3, x4, x5, x6⟩ := hL.pane hkx
                obtain ⟨t0, t1, t2, t3, t4, t5, t6⟩ := hS.pane hkS
                obtain ⟨y0, y1, y2, y3, y4, y5, y6⟩ := hYk.out _ kr b off rfl
                generalize l[k] = x at *
                generalize S'[k] = z at *
                have he1 := run_eql_Pane x y
                have he2 := run_eql_Pane z y
                generalize cntE (l.take k) y = ca at *
                generalize cntE (S'.take k) y = cb at *
                generalize x.eqB y = b1 at *
                generalize z.eqB y = b2 at *
                have hkl' : (k : Int) < (m : Int) := by omega
                have hk0 := Int.natCast_nonneg k
                have ha0 := Int.natCast_nonneg ca
                have hb0 := Int.natCast_nonneg cb
                simp only [Pane.cells] at he1 he2
                clear hL hS hYk sL sS hceq
                cases b1 <;> cases b2
                · replace e1 := Lib.hid e1
                  replace e2 := Lib.hid e2
                  go_wp2_with fail
                  go_quiet (fail)
                  go_wp2_with fail
                  go_quiet (fail)
                  go_wp2_with fail
                  go_roundw
                  case rel => exact ⟨k + 1, by go_num, by omega, by rw [e1.out]; simp, by rw [e2.out]; simp, Keep.trans kr (keep_drewN wr _)⟩
                  case measure => simp [intOf]; omega
                · replace e1 := Lib.hid e1
                  replace e2 := Lib.hid e2
                  go_wp2_with fail
                  go_quiet (fail)
                  go_wp2_with fail
                  go_quiet (fail)
                  go_wp2_with fail
                  go_roundw
                  case rel => exact ⟨k + 1, by go_num, by omega, by rw [e1.out]; simp, by rw [e2.out]; go_num, Keep.trans kr (keep_drewN wr _)⟩
                  case measure => simp [intOf]; omega
                · replace e1 := Lib.hid e1
                  replace e2 := Lib.hid e2
                  go_wp2_with fail
                  go_quiet (fail)
                  go_wp2_with fail
                  go_quiet (fail)
                  go_wp2_with fail
                  go_roundw
                  case rel => exact ⟨k + 1, by go_num, by omega, by rw [e1.out]; go_num, by rw [e2.out]; simp, Keep.trans kr (keep_drewN wr _)⟩
                  case measure => simp [intOf]; omega
                · replace e1 := Lib.hid e1
                  replace e2 := Lib.hid e2
                  go_wp2_with fail
                  go_quiet (fail)
                  go_wp2_with fail
                  go_quiet (fail)
                  go_wp2_with fail
                  go_roundw
                  case rel => exact ⟨k + 1, by go_num, by omega, by rw [e1.out]; go_num, by rw [e2.out]; go_num, Keep.trans kr (keep_drewN wr _)⟩
                  case measure => simp [intOf]; omega
              · obtain rfl : k = m := by omega
                have t1 : l.take k = l := List.take_of_length_le (by have := hml.out; omega)
                have t2 : S'.take k = S' := List.take_of_length_le (by have := hSl.out; omega)
                rw [t1, t2, hceq.out]
                generalize cntE l y = cc at *
                have hcc : ((cc : Int) != (cc : Int)) = false := by simp
                clear hkl hkm t1 t2 hYk hceq
                by_cases hi1 : i = 0
                · have hz : decide ((0 : Int) < (i : Int)) = false := by simp; omega
                  go_wp2_with fail
                  go_quiet (fail)
                  go_wp2_with fail
                  go_roundw
                  case rel => exact ⟨i + 1, by go_num, by omega, Keep.trans kr (keep_drewN _ _)⟩
                  case measure => simp [intOf]; omega
                · have hz : decide ((0 : Int) < (i : Int)) = true := by simp; omega
                  have hz2 : 0 < i := by omega
                  have hz3 : (0 : Int) < (i : Int) := by omega
                  obtain ⟨i', hi'⟩ : ∃ i', Hid (i = i' + 1) := ⟨i - 1, Lib.hid (by omega)⟩
                  have hi'S : i' < S'.length := by have := hi'.out; omega
                  have hlo := (List.pairwise_iff_getElem.1 hsrt.out) i' i hi'S hiS (by have := hi'.out; omega)
                  obtain ⟨g1, g2⟩ := lt_parts hlo
                  have hS := sS.keep kr Off.none_
                  obtain ⟨bs, os, rfl, hbs, -⟩ := hS.at_ (by omega)
                  obtain ⟨x0, x1, x2, x3, x4, x5, x6⟩ := hS.pane hiS
                  obtain ⟨t0, t1, t2, t3, t4, t5, t6⟩ := hS.pane (i := i') hi'S
                  have ei : (i : Int) - 1 = (i' : Int) := by have := hi'.out; omega
                  have hik : (i : Int) < (k : Int) := by omega
                  have hik2 : decide ((i : Int) < (k : Int)) = true := by simp; omega
                  have hi'm : (i' : Int) < (k : Int) := by have := hi'.out; omega
                  have hi'0 := Int.natCast_nonneg i'
                  clear hlo hS sS sL
                  generalize S'[i] = x at *
                  generalize S'[i']'_ = z at *
                  generalize hb2 : (x.key.toList == z.key.toList) = b2 at *
                  cases b2
                  · clear g2
                    go_wp2_with fail
                    go_quiet (fail)
                    go_wp2_with fail
                    go_roundw
                    case rel => exact ⟨i + 1, by go_num, by omega, Keep.trans kr (keep_drewN _ _)⟩
                    case measure => simp [intOf]; omega
                  · replace g2 := g2 rfl
                    go_wp2_with fail
                    go_quiet (fail)
                    go_wp2_with fail
                    go_roundw
                    case rel => exact ⟨i + 1, by go_num, by omega, Keep.trans kr (keep_drewN _ _)⟩
                    case measure => simp [intOf]; omega
          · clear sS sL
            have kf := k04.trans kr
            go_wp2_with fail
            go_ret
            exact ⟨by simp, kf.below (Nat.le_refl _) not_none⟩
end Go.Proofs.Ytmioichjhiengaa
