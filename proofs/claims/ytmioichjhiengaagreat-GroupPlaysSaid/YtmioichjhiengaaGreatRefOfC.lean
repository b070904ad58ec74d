/-
  easelref01.Of: the reference's windows of a time.
-/
import Derived.Test.YtmioichjhiengaaGreatBaseOf
import Derived.Laws.AppendOwnNone
set_option linter.unusedSimpArgs false
set_option linter.unusedVariables false
namespace Go.Proofs.YtmioichjhiengaaGreat
open Go.RowKit

def RefPost2 (w : World) (D : Option (List Span)) (e : Ending) (w' : World) : Prop :=
  ∃ v b, e = .returned (.tuple #[v, .bool b]) ∧ Keep none_ w w' ∧
    ((∃ l, D = some l ∧ b = true ∧ w'.ownsRow w.heap.size 84 2 v l.length (flatS l)) ∨ (D = none ∧ b = false ∧ v = .slice none 0 0))

set_option maxHeartbeats 1000000 in
theorem ref_of_session2 (w : World) (c : Config) (t : Int) (hc : c.ok) (ht : I64 t) (k2 : c.kind = 2) : Calls Tryz.prog 53 #[.agg c.cells.toArray, .int .i64 t] w (RefPost2 w (ofL c t)) := by
  have hx := At.new w c.cells.toArray 23
  have kk : Keep none_ w (w.alloc (.cells c.cells.toArray 23)) := (by repeat' (first | exact Keep.refl _ _ | refine Keep.set1 ?_ _ | refine Keep.alloc ?_ _ | refine Keep.drew ?_ | refine Keep.setNew ?_ (by simp) _))
  obtain ⟨kind, size, slide, gap, late, shards, groups, cap⟩ := c
  simp only [Config.ok] at hc
  obtain ⟨hk, hs, hl, hg, ha, -⟩ := hc
  obtain ⟨D, hD⟩ : ∃ D, D = ofL ⟨kind, size, slide, gap, late, shards, groups, cap⟩ t := ⟨_, rfl⟩
  rw [← hD]
  unfold ofL at hD
  simp only at k2
  subst k2
  rw [if_pos rfl] at hD
  simp only [Config.cells] at hx kk hD ⊢
  have c2 := fun w => ref_window w t gap late ht hg ha
  cases hok : winOk t gap late
  · rw [hok] at hD c2
    rw [if_neg (by decide)] at hD
    generalize winS t gap = S at *
    replace hD := Lib.hid hD
    replace c2 := Lib.hid c2
    clear hok
    go_enter Tryz.func53, Tryz.ntmps53
    go_wp2_with (first
      | (go_at_call 88; (with_reducible refine (c2.out _).mono ?_); rintro e w' ⟨rfl, k⟩; replace kk := Keep.trans kk k; replace hx := Keep.at k hx (fun e => e); have cx := At.cell hx; have fx := At.frozen hx; clear k))
    go_ret2
    exact ⟨_, _, rfl, (by repeat' (first | exact kk | refine Keep.alloc ?_ _ | refine Keep.drew ?_ | refine Keep.setNew ?_ (by simp) _)), .inr ⟨hD.out, rfl, rfl⟩⟩
  · rw [hok] at hD c2
    rw [if_pos rfl] at hD
    generalize winS t gap = S at *
    replace hD := Lib.hid hD
    replace c2 := Lib.hid c2
    clear hok
    go_enter Tryz.func53, Tryz.ntmps53
    go_wp2_with (first
      | (go_at_call 88; (with_reducible refine (c2.out _).mono ?_); rintro e w' ⟨rfl, k⟩; replace kk := Keep.trans kk k; replace hx := Keep.at k hx (fun e => e); have cx := At.cell hx; have fx := At.frozen hx; clear k))
    go_ret2
    exact ⟨_, _, rfl, (by repeat' (first | exact kk | refine Keep.alloc ?_ _ | refine Keep.drew ?_ | refine Keep.setNew ?_ (by simp) _)), .inl ⟨[S], hD.out, rfl, owns_one (Nat.le_trans kk.size (by simp)) (by simp) _ _⟩⟩

theorem downAll_one (t s late : Int) (h : 1 ≤ s) : (downAll t s s late).map List.reverse = downAll t s s late := by
  unfold downAll
  split
  · rw [downL]
    split
    · rw [if_pos (by have := Int.emod_nonneg t (show s ≠ 0 by omega); omega)]; rfl
    · rfl
  · rfl

theorem flatS_one (l : List Span) : ∀ u ∈ flatS l, u.oneCell' = true := by
  intro u hu
  simp only [flatS, List.mem_flatMap] at hu
  obtain ⟨s, -, hs⟩ := hu
  simp only [Span.cells, List.mem_cons, List.not_mem_nil, or_false] at hs
  rcases hs with rfl | rfl <;> rfl

set_option maxHeartbeats 4000000 in
set_option maxRecDepth 100000 in
theorem ref_of_down2 (w : World) (t kind size slide gap late shards groups cap sl : Int) (ht : I64 t) (hs : I64 size) (hsl : I64 sl) (ha : I64 late)
    (hk : (kind = 0 ∧ sl = size) ∨ (kind = 1 ∧ sl = slide)) (h1 : 1 ≤ sl) (h2 : sl ≤ size) (h16 : size ≤ 16 * sl) :
    Calls Tryz.prog 53 #[.agg #[.int .i64 kind, .int .i64 size, .int .i64 slide, .int .i64 gap, .int .i64 late, .int .i64 shards, .int .i64 groups, .int .i64 cap], .int .i64 t] w (RefPost2 w ((downAll t size sl late).map List.reverse)) := by
  have hx := At.new w #[.int .i64 kind, .int .i64 size, .int .i64 slide, .int .i64 gap, .int .i64 late, .int .i64 shards, .int .i64 groups, .int .i64 cap] 23
  have kk : Keep none_ w (w.alloc (.cells #[.int .i64 kind, .int .i64 size, .int .i64 slide, .int .i64 gap, .int .i64 late, .int .i64 shards, .int .i64 groups, .int .i64 cap] 23)) := (by repeat' (first | exact Keep.refl _ _ | refine Keep.set1 ?_ _ | refine Keep.alloc ?_ _ | refine Keep.drew ?_ | refine Keep.setNew ?_ (by simp) _))
  obtain ⟨D, hD⟩ : ∃ D, D = downAll t size sl late := ⟨_, rfl⟩
  rw [← hD]
  have c1 := fun w => ref_down w t sl ht hsl h1
  have hr0 := Int.emod_nonneg t (show sl ≠ 0 by omega)
  have hr1 := Int.emod_lt_of_pos t (show 0 < sl by omega)
  unfold downAll at hD
  generalize t % sl = r at *
  obtain ⟨i0, hi, hz0, hz1, hz2⟩ := info_parts spanInfo
  have H : (fitB (t - r) = true ∧ I64 (t - r) ∧ fitN (t - r) = t - r ∧ D = downL t size sl late 16 (t - r)) ∨ (fitB (t - r) = false ∧ D = none) := by
    by_cases hf : I64 (t - r)
    · rw [(fit_yes hf).2.2, if_pos rfl] at hD
      exact .inl ⟨(fit_yes hf).2.2, hf, (fit_yes hf).1, hD⟩
    · rw [(fit_no hf).2.2, if_neg (by decide)] at hD
      exact .inr ⟨(fit_no hf).2.2, hD⟩
  clear hD
  rcases H with ⟨hb, hf, hn, hD⟩ | ⟨hb, hD⟩
  · rw [hb, hn] at c1
    replace c1 := Lib.hid c1
    replace hD := Lib.hid hD
    clear hb hn
    rcases hk with ⟨rfl, rfl⟩ | ⟨rfl, rfl⟩
    · go_enter Tryz.func53, Tryz.ntmps53
      go_wp2_with (first
        | (go_at_call 89; (with_reducible refine (c1.out _).mono ?_); rintro e w' ⟨rfl, k⟩; replace kk := Keep.trans kk k; replace hx := Keep.at k hx (fun e => e); have cx := At.cell hx; have fx := At.frozen hx; clear k))
      go_loopw [9, 10, 11, 12] (fun at_ ok out n wr => Keep none_ w wr ∧ At wr w.heap.size #[_, _, _, _, _, _, _, _] 23 ∧ ∃ (x : Int) (k : Nat) (acc : List Span), at_ = .int .i64 x ∧ ok = .bool true ∧ n = .int .i64 (acc.length : Nat) ∧ I64 x ∧ x ≤ t ∧ t - x < sl ∧ acc.length * sl ≤ t - x ∧ acc.length + k = 16 ∧
          D = (downL t sl sl late k x).map (acc ++ ·) ∧ wr.ownsRow w.heap.size 84 2 out acc.length (flatS acc.reverse))
        (fun st _ _ _ _ => (intOf st - (t - sl)).toNat)
      case atStart => exact ⟨kk, hx, t - r, 16, [], rfl, rfl, rfl, hf, by omega, by omega, by simp; omega, rfl, by rw [hD.out]; simp, World.ownsRow_nil _ _ _ _⟩
      case round =>
        obtain ⟨kk, hx, x, k, acc, rfl, rfl, rfl, hxi, hxt, htx, hacc, hk, hD, hown⟩ := hrel
        have hn : acc.length < 16 := by
          apply Classical.byContradiction
          intro h
          have : (16 : Int) * sl ≤ acc.length * sl := Int.mul_le_mul_of_nonneg_right (by omega) (by omega)
          omega
        obtain ⟨k, rfl⟩ : ∃ k', k = k' + 1 := ⟨k - 1, by omega⟩
        rw [downL] at hD
        have c2 := fun w => ref_window w x sl late hxi hs ha
        have cx := At.cell hx
        have hwp : w.heap.size ≤ wr.heap.size := kk.size
        have hvb := hown.lt
        have ax := At.new wr #[.int .i64 0, .int .i64 0] 84
        cases hw : winOk x sl late
        · rw [hw] at hD c2
          rw [if_neg (by decide)] at hD
          replace hD := Lib.hid hD
          replace c2 := Lib.hid c2
          generalize winS x sl = S at *
          go_wp2_with (first
            | (go_at_call 88; (with_reducible refine (c2.out _).mono ?_); rintro e w' ⟨rfl, k⟩; replace kk := Keep.trans kk k; replace hx := Keep.at k hx (fun e => e); have cx := At.cell hx; have fx := At.frozen hx; clear k))
          go_ret2
          exact ⟨_, _, rfl, (by repeat' (first | exact kk | refine Keep.alloc ?_ _ | refine Keep.drew ?_ | refine Keep.setNew ?_ (by simp) _)), .inr ⟨by rw [hD.out]; rfl, rfl, rfl⟩⟩
        · rw [hw] at hD c2
          rw [if_pos rfl] at hD
          obtain ⟨S, hS⟩ : ∃ S, S = winS x sl := ⟨_, rfl⟩
          have hSe : S.e = x + sl := by rw [hS, (winOk_yes hw).2]
          have hte : decide (S.e ≤ t) = false := by simp; omega
          have hte2 : ¬ S.e ≤ t := by omega
          rw [← hS] at hD c2
          replace c2 := Lib.hid c2
          clear hS hw hSe
          have c3 := fun w => ref_sub w x sl hxi hsl
          have hts : 0 ≤ t - x := by omega
          have hts2 : t - x ≤ 9223372036854775807 := by unfold I64 at hs; omega
          have hss : 0 ≤ sl - sl := by omega
          have hss2 : sl - sl ≤ 9223372036854775807 := by unfold I64 at hs hsl; omega
          have hlen2 : (acc ++ [S]).length = 1 + acc.length := by rw [List.length_append, List.length_singleton]; omega
          have hfl2 : flatS (acc ++ [S]).reverse = [.int .i64 S.s, .int .i64 S.e] ++ flatS acc.reverse := by rw [List.reverse_append]; rfl
          by_cases hlast : sl - sl ≤ t - x
          · rw [if_pos hlast] at hD
            have hlast2 : decide (sl - sl ≤ t - x) = true := decide_eq_true hlast
            replace hD := Lib.hid hD
            rcases hown.2 with ⟨rfl, hl0⟩ | ⟨g, cap, cur, rfl, hgb, hgg, hnc, hcm, hcs, htake⟩
            · obtain rfl : acc = [] := List.length_eq_zero_iff.1 hl0
              go_wp2_with (first
                | (go_at_call 88; (with_reducible refine (c2.out _).mono ?_); rintro e w' ⟨rfl, k⟩; replace kk := Keep.trans kk k; replace hx := Keep.at k hx (fun e => e); replace hown := ownsRow_keep hown k (fun _ _ e => e); have cx := At.cell hx; have fx := At.frozen hx; have hlt := At.lt hx; clear k)
                | (at_builtin; refine wpList_append_own_none rfl _ _ 104 rfl w.heap.size 84 i0 2 Tryz.underlying104 hi _ _ _ rfl (owns_one (b := w.heap.size) (Nat.le_trans kk.size (by simp)) (by simp) _ _) rfl ?_))
              go_ret2
              exact ⟨_, _, rfl, (by repeat' (first | exact kk | refine Keep.alloc ?_ _ | refine Keep.drew ?_ | refine Keep.setNew ?_ (by simp) _)), .inl ⟨[S], by rw [hD.out]; rfl, rfl, owns_one (Nat.le_trans kk.size (by simp)) (by simp) _ _⟩⟩
            · have hfl := flatS_length acc.reverse
              rw [List.length_reverse] at hfl
              have hone := flatS_one acc.reverse
              go_wp2_with (first
                | (go_at_call 88; (with_reducible refine (c2.out _).mono ?_); rintro e w' ⟨rfl, k⟩; replace kk := Keep.trans kk k; replace hx := Keep.at k hx (fun e => e); replace hown := ownsRow_keep hown k (fun _ _ e => e); have cx := At.cell hx; have fx := At.frozen hx; have hlt := At.lt hx; clear k)
                | (at_builtin; go_loud (refine wpList_append_own _ rfl _ _ 104 rfl w.heap.size 84 i0 (.agg #[.int .i64 0, .int .i64 0]) 2 16 Tryz.underlying104 hi hz0 hz1 hz2 rfl (by decide) _ _ _ rfl (owns_one (b := w.heap.size) (Nat.le_trans kk.size (by simp)) (by simp) _ _) ⟨_, 0, none⟩ acc.length _ (flatS acc.reverse) rfl hfl (((hown.alloc _).alloc _).cells rfl) hone (by unfold maxLen; omega) (by omega) (by simp; have := At.lt hx; omega) ?_)))
              intro v' w3 hown' hgrow hnil
              have kf := Keep.grown (Keep.alloc (Keep.alloc kk (.cells #[.int .i64 S.s, .int .i64 S.e] 84)) (.cells #[.int .i64 S.s, .int .i64 S.e] 84)) hgrow (fun g hg h => by have := kk.size; simp [Value.ownBlock] at hg; omega)
              have hx3 := Keep.at (Keep.grown (Keep.refl (fun g => g ≠ w.heap.size) _) hgrow (fun g hg h => by simp [Value.ownBlock] at hg; omega)) (At.alloc (At.alloc hx (.cells #[.int .i64 S.s, .int .i64 S.e] 84)) (.cells #[.int .i64 S.s, .int .i64 S.e] 84)) (fun e => e rfl)
              clear hgrow hnil hown kk cx fx hx
              have cx := At.cell hx3
              go_wp2_with fail
              go_ret2
              exact ⟨_, _, rfl, kf, .inl ⟨(acc ++ [S]).reverse, by rw [hD.out]; rfl, rfl, by rw [List.length_reverse, hlen2, hfl2]; exact hown'⟩⟩
          · try (exfalso; omega)
            all_goals
              rw [if_neg hlast] at hD
              have hlast2 : decide (sl - sl ≤ t - x) = false := decide_eq_false hlast
              replace hD := Lib.hid hD
              replace c3 := Lib.hid c3
              rcases hown.2 with ⟨rfl, hl0⟩ | ⟨g, cap, cur, rfl, hgb, hgg, hnc, hcm, hcs, htake⟩
              · obtain rfl : acc = [] := List.length_eq_zero_iff.1 hl0
                go_wp2_with (first
                  | (go_at_call 88; (with_reducible refine (c2.out _).mono ?_); rintro e w' ⟨rfl, k⟩; replace kk := Keep.trans kk k; replace hx := Keep.at k hx (fun e => e); replace hown := ownsRow_keep hown k (fun _ _ e => e); have cx := At.cell hx; have fx := At.frozen hx; have hlt := At.lt hx; clear k)
                  | (at_builtin; refine wpList_append_own_none rfl _ _ 104 rfl w.heap.size 84 i0 2 Tryz.underlying104 hi _ _ _ rfl (owns_one (b := w.heap.size) (Nat.le_trans kk.size (by simp)) (by simp) _ _) rfl ?_))
                have hx3 := At.alloc (At.alloc hx (.cells #[.int .i64 S.s, .int .i64 S.e] 84)) (.cells #[.int .i64 S.s, .int .i64 S.e] 84)
                have kf := Keep.alloc (Keep.alloc kk (.cells #[.int .i64 S.s, .int .i64 S.e] 84)) (.cells #[.int .i64 S.s, .int .i64 S.e] 84)
                replace hD := hD.out
                replace c3 := c3.out
                by_cases hf : I64 (x - sl)
                · rw [(fit_yes hf).1, (fit_yes hf).2.2] at c3
                  rw [(fit_yes hf).2.2, if_pos rfl] at hD
                  replace c3 := Lib.hid c3
                  replace hD := Lib.hid hD
                  replace hf := Lib.hid hf
                  refine (c3.out _).mono ?_
                  rintro e w4 ⟨rfl, k4⟩
                  go_wp2_with fail
                  go_roundw
                  case rel => exact ⟨kf.trans k4, Keep.at k4 hx3 (fun e => e), x - sl, k, [S], rfl, rfl, by simp, hf.out, by omega, by omega, by simp; omega, by simp at hk ⊢; omega, by rw [hD.out, Option.map_map]; rfl, ownsRow_keep (owns_one (Nat.le_trans kk.size (by simp)) (by simp) _ _) k4 (fun _ _ e => e)⟩
                  case measure => simp [intOf]; omega
                · rw [(fit_no hf).1, (fit_no hf).2.2] at c3
                  rw [(fit_no hf).2.2, if_neg (by decide)] at hD
                  replace c3 := Lib.hid c3
                  replace hD := Lib.hid hD
                  refine (c3.out _).mono ?_
                  rintro e w4 ⟨rfl, k4⟩
                  go_wp2_with fail
                  go_ret2
                  exact ⟨_, _, rfl, kf.trans k4, .inr ⟨by rw [hD.out]; rfl, rfl, rfl⟩⟩
              · have hfl := flatS_length acc.reverse
                rw [List.length_reverse] at hfl
                have hone := flatS_one acc.reverse
                go_wp2_with (first
                  | (go_at_call 88; (with_reducible refine (c2.out _).mono ?_); rintro e w' ⟨rfl, k⟩; replace kk := Keep.trans kk k; replace hx := Keep.at k hx (fun e => e); replace hown := ownsRow_keep hown k (fun _ _ e => e); have cx := At.cell hx; have fx := At.frozen hx; have hlt := At.lt hx; clear k)
                  | (at_builtin; go_loud (refine wpList_append_own _ rfl _ _ 104 rfl w.heap.size 84 i0 (.agg #[.int .i64 0, .int .i64 0]) 2 16 Tryz.underlying104 hi hz0 hz1 hz2 rfl (by decide) _ _ _ rfl (owns_one (b := w.heap.size) (Nat.le_trans kk.size (by simp)) (by simp) _ _) ⟨_, 0, none⟩ acc.length _ (flatS acc.reverse) rfl hfl (((hown.alloc _).alloc _).cells rfl) hone (by unfold maxLen; omega) (by omega) (by simp; have := At.lt hx; omega) ?_)))
                intro v' w3 hown' hgrow hnil
                have kf := Keep.grown (Keep.alloc (Keep.alloc kk (.cells #[.int .i64 S.s, .int .i64 S.e] 84)) (.cells #[.int .i64 S.s, .int .i64 S.e] 84)) hgrow (fun g hg h => by have := kk.size; simp [Value.ownBlock] at hg; omega)
                have hx3 := Keep.at (Keep.grown (Keep.refl (fun g => g ≠ w.heap.size) _) hgrow (fun g hg h => by simp [Value.ownBlock] at hg; omega)) (At.alloc (At.alloc hx (.cells #[.int .i64 S.s, .int .i64 S.e] 84)) (.cells #[.int .i64 S.s, .int .i64 S.e] 84)) (fun e => e rfl)
                clear hgrow hnil hown kk cx fx hx
                have cx := At.cell hx3
                have hn2 : ((acc.length : Int) + 1) = (((acc ++ [S]).length : Nat) : Int) := by have := hlen2; omega
                replace hD := hD.out
                replace c3 := c3.out
                by_cases hf : I64 (x - sl)
                · rw [(fit_yes hf).1, (fit_yes hf).2.2] at c3
                  rw [(fit_yes hf).2.2, if_pos rfl] at hD
                  replace c3 := Lib.hid c3
                  replace hD := Lib.hid hD
                  replace hf := Lib.hid hf
                  go_wp2_with fail
                  refine (c3.out _).mono ?_
                  rintro e w4 ⟨rfl, k4⟩
                  go_wp2_with fail
                  go_roundw
                  case rel => exact ⟨kf.trans k4, Keep.at k4 hx3 (fun e => e), x - sl, k, acc ++ [S], rfl, rfl, congrArg (Value.int .i64) (by omega), hf.out, by omega, by omega, by rw [← hn2, Int.add_mul]; omega, by rw [hlen2]; omega, by rw [hD.out, Option.map_map]; congr 1; funext l; simp, by rw [hlen2, hfl2]; exact ownsRow_keep hown' k4 (fun _ _ e => e)⟩
                  case measure => simp [intOf]; omega
                · rw [(fit_no hf).1, (fit_no hf).2.2] at c3
                  rw [(fit_no hf).2.2, if_neg (by decide)] at hD
                  replace c3 := Lib.hid c3
                  replace hD := Lib.hid hD
                  go_wp2_with fail
                  refine (c3.out _).mono ?_
                  rintro e w4 ⟨rfl, k4⟩
                  go_wp2_with fail
                  go_ret2
                  exact ⟨_, _, rfl, kf.trans k4, .inr ⟨by rw [hD.out]; rfl, rfl, rfl⟩⟩
    · go_enter Tryz.func53, Tryz.ntmps53
      go_wp2_with (first
        | (go_at_call 89; (with_reducible refine (c1.out _).mono ?_); rintro e w' ⟨rfl, k⟩; replace kk := Keep.trans kk k; replace hx := Keep.at k hx (fun e => e); have cx := At.cell hx; have fx := At.frozen hx; clear k))
      go_loopw [9, 10, 11, 12] (fun at_ ok out n wr => Keep none_ w wr ∧ At wr w.heap.size #[_, _, _, _, _, _, _, _] 23 ∧ ∃ (x : Int) (k : Nat) (acc : List Span), at_ = .int .i64 x ∧ ok = .bool true ∧ n = .int .i64 (acc.length : Nat) ∧ I64 x ∧ x ≤ t ∧ t - x < size ∧ acc.length * sl ≤ t - x ∧ acc.length + k = 16 ∧
          D = (downL t size sl late k x).map (acc ++ ·) ∧ wr.ownsRow w.heap.size 84 2 out acc.length (flatS acc.reverse))
        (fun st _ _ _ _ => (intOf st - (t - size)).toNat)
      case atStart => exact ⟨kk, hx, t - r, 16, [], rfl, rfl, rfl, hf, by omega, by omega, by simp; omega, rfl, by rw [hD.out]; simp, World.ownsRow_nil _ _ _ _⟩
      case round =>
        obtain ⟨kk, hx, x, k, acc, rfl, rfl, rfl, hxi, hxt, htx, hacc, hk, hD, hown⟩ := hrel
        have hn : acc.length < 16 := by
          apply Classical.byContradiction
          intro h
          have : (16 : Int) * sl ≤ acc.length * sl := Int.mul_le_mul_of_nonneg_right (by omega) (by omega)
          omega
        obtain ⟨k, rfl⟩ : ∃ k', k = k' + 1 := ⟨k - 1, by omega⟩
        rw [downL] at hD
        have c2 := fun w => ref_window w x size late hxi hs ha
        have cx := At.cell hx
        have hwp : w.heap.size ≤ wr.heap.size := kk.size
        have hvb := hown.lt
        have ax := At.new wr #[.int .i64 0, .int .i64 0] 84
        cases hw : winOk x size late
        · rw [hw] at hD c2
          rw [if_neg (by decide)] at hD
          replace hD := Lib.hid hD
          replace c2 := Lib.hid c2
          generalize winS x size = S at *
          go_wp2_with (first
            | (go_at_call 88; (with_reducible refine (c2.out _).mono ?_); rintro e w' ⟨rfl, k⟩; replace kk := Keep.trans kk k; replace hx := Keep.at k hx (fun e => e); have cx := At.cell hx; have fx := At.frozen hx; clear k))
          go_ret2
          exact ⟨_, _, rfl, (by repeat' (first | exact kk | refine Keep.alloc ?_ _ | refine Keep.drew ?_ | refine Keep.setNew ?_ (by simp) _)), .inr ⟨by rw [hD.out]; rfl, rfl, rfl⟩⟩
        · rw [hw] at hD c2
          rw [if_pos rfl] at hD
          obtain ⟨S, hS⟩ : ∃ S, S = winS x size := ⟨_, rfl⟩
          have hSe : S.e = x + size := by rw [hS, (winOk_yes hw).2]
          have hte : decide (S.e ≤ t) = false := by simp; omega
          have hte2 : ¬ S.e ≤ t := by omega
          rw [← hS] at hD c2
          replace c2 := Lib.hid c2
          clear hS hw hSe
          have c3 := fun w => ref_sub w x sl hxi hsl
          have hts : 0 ≤ t - x := by omega
          have hts2 : t - x ≤ 9223372036854775807 := by unfold I64 at hs; omega
          have hss : 0 ≤ size - sl := by omega
          have hss2 : size - sl ≤ 9223372036854775807 := by unfold I64 at hs hsl; omega
          have hlen2 : (acc ++ [S]).length = 1 + acc.length := by rw [List.length_append, List.length_singleton]; omega
          have hfl2 : flatS (acc ++ [S]).reverse = [.int .i64 S.s, .int .i64 S.e] ++ flatS acc.reverse := by rw [List.reverse_append]; rfl
          by_cases hlast : size - sl ≤ t - x
          · rw [if_pos hlast] at hD
            have hlast2 : decide (size - sl ≤ t - x) = true := decide_eq_true hlast
            replace hD := Lib.hid hD
            rcases hown.2 with ⟨rfl, hl0⟩ | ⟨g, cap, cur, rfl, hgb, hgg, hnc, hcm, hcs, htake⟩
            · obtain rfl : acc = [] := List.length_eq_zero_iff.1 hl0
              go_wp2_with (first
                | (go_at_call 88; (with_reducible refine (c2.out _).mono ?_); rintro e w' ⟨rfl, k⟩; replace kk := Keep.trans kk k; replace hx := Keep.at k hx (fun e => e); replace hown := ownsRow_keep hown k (fun _ _ e => e); have cx := At.cell hx; have fx := At.frozen hx; have hlt := At.lt hx; clear k)
                | (at_builtin; refine wpList_append_own_none rfl _ _ 104 rfl w.heap.size 84 i0 2 Tryz.underlying104 hi _ _ _ rfl (owns_one (b := w.heap.size) (Nat.le_trans kk.size (by simp)) (by simp) _ _) rfl ?_))
              go_ret2
              exact ⟨_, _, rfl, (by repeat' (first | exact kk | refine Keep.alloc ?_ _ | refine Keep.drew ?_ | refine Keep.setNew ?_ (by simp) _)), .inl ⟨[S], by rw [hD.out]; rfl, rfl, owns_one (Nat.le_trans kk.size (by simp)) (by simp) _ _⟩⟩
            · have hfl := flatS_length acc.reverse
              rw [List.length_reverse] at hfl
              have hone := flatS_one acc.reverse
              go_wp2_with (first
                | (go_at_call 88; (with_reducible refine (c2.out _).mono ?_); rintro e w' ⟨rfl, k⟩; replace kk := Keep.trans kk k; replace hx := Keep.at k hx (fun e => e); replace hown := ownsRow_keep hown k (fun _ _ e => e); have cx := At.cell hx; have fx := At.frozen hx; have hlt := At.lt hx; clear k)
                | (at_builtin; go_loud (refine wpList_append_own _ rfl _ _ 104 rfl w.heap.size 84 i0 (.agg #[.int .i64 0, .int .i64 0]) 2 16 Tryz.underlying104 hi hz0 hz1 hz2 rfl (by decide) _ _ _ rfl (owns_one (b := w.heap.size) (Nat.le_trans kk.size (by simp)) (by simp) _ _) ⟨_, 0, none⟩ acc.length _ (flatS acc.reverse) rfl hfl (((hown.alloc _).alloc _).cells rfl) hone (by unfold maxLen; omega) (by omega) (by simp; have := At.lt hx; omega) ?_)))
              intro v' w3 hown' hgrow hnil
              have kf := Keep.grown (Keep.alloc (Keep.alloc kk (.cells #[.int .i64 S.s, .int .i64 S.e] 84)) (.cells #[.int .i64 S.s, .int .i64 S.e] 84)) hgrow (fun g hg h => by have := kk.size; simp [Value.ownBlock] at hg; omega)
              have hx3 := Keep.at (Keep.grown (Keep.refl (fun g => g ≠ w.heap.size) _) hgrow (fun g hg h => by simp [Value.ownBlock] at hg; omega)) (At.alloc (At.alloc hx (.cells #[.int .i64 S.s, .int .i64 S.e] 84)) (.cells #[.int .i64 S.s, .int .i64 S.e] 84)) (fun e => e rfl)
              clear hgrow hnil hown kk cx fx hx
              have cx := At.cell hx3
              go_wp2_with fail
              go_ret2
              exact ⟨_, _, rfl, kf, .inl ⟨(acc ++ [S]).reverse, by rw [hD.out]; rfl, rfl, by rw [List.length_reverse, hlen2, hfl2]; exact hown'⟩⟩
          · try (exfalso; omega)
            all_goals
              rw [if_neg hlast] at hD
              have hlast2 : decide (size - sl ≤ t - x) = false := decide_eq_false hlast
              replace hD := Lib.hid hD
              replace c3 := Lib.hid c3
              rcases hown.2 with ⟨rfl, hl0⟩ | ⟨g, cap, cur, rfl, hgb, hgg, hnc, hcm, hcs, htake⟩
              · obtain rfl : acc = [] := List.length_eq_zero_iff.1 hl0
                go_wp2_with (first
                  | (go_at_call 88; (with_reducible refine (c2.out _).mono ?_); rintro e w' ⟨rfl, k⟩; replace kk := Keep.trans kk k; replace hx := Keep.at k hx (fun e => e); replace hown := ownsRow_keep hown k (fun _ _ e => e); have cx := At.cell hx; have fx := At.frozen hx; have hlt := At.lt hx; clear k)
                  | (at_builtin; refine wpList_append_own_none rfl _ _ 104 rfl w.heap.size 84 i0 2 Tryz.underlying104 hi _ _ _ rfl (owns_one (b := w.heap.size) (Nat.le_trans kk.size (by simp)) (by simp) _ _) rfl ?_))
                have hx3 := At.alloc (At.alloc hx (.cells #[.int .i64 S.s, .int .i64 S.e] 84)) (.cells #[.int .i64 S.s, .int .i64 S.e] 84)
                have kf := Keep.alloc (Keep.alloc kk (.cells #[.int .i64 S.s, .int .i64 S.e] 84)) (.cells #[.int .i64 S.s, .int .i64 S.e] 84)
                replace hD := hD.out
                replace c3 := c3.out
                by_cases hf : I64 (x - sl)
                · rw [(fit_yes hf).1, (fit_yes hf).2.2] at c3
                  rw [(fit_yes hf).2.2, if_pos rfl] at hD
                  replace c3 := Lib.hid c3
                  replace hD := Lib.hid hD
                  replace hf := Lib.hid hf
                  refine (c3.out _).mono ?_
                  rintro e w4 ⟨rfl, k4⟩
                  go_wp2_with fail
                  go_roundw
                  case rel => exact ⟨kf.trans k4, Keep.at k4 hx3 (fun e => e), x - sl, k, [S], rfl, rfl, by simp, hf.out, by omega, by omega, by simp; omega, by simp at hk ⊢; omega, by rw [hD.out, Option.map_map]; rfl, ownsRow_keep (owns_one (Nat.le_trans kk.size (by simp)) (by simp) _ _) k4 (fun _ _ e => e)⟩
                  case measure => simp [intOf]; omega
                · rw [(fit_no hf).1, (fit_no hf).2.2] at c3
                  rw [(fit_no hf).2.2, if_neg (by decide)] at hD
                  replace c3 := Lib.hid c3
                  replace hD := Lib.hid hD
                  refine (c3.out _).mono ?_
                  rintro e w4 ⟨rfl, k4⟩
                  go_wp2_with fail
                  go_ret2
                  exact ⟨_, _, rfl, kf.trans k4, .inr ⟨by rw [hD.out]; rfl, rfl, rfl⟩⟩
              · have hfl := flatS_length acc.reverse
                rw [List.length_reverse] at hfl
                have hone := flatS_one acc.reverse
                go_wp2_with (first
                  | (go_at_call 88; (with_reducible refine (c2.out _).mono ?_); rintro e w' ⟨rfl, k⟩; replace kk := Keep.trans kk k; replace hx := Keep.at k hx (fun e => e); replace hown := ownsRow_keep hown k (fun _ _ e => e); have cx := At.cell hx; have fx := At.frozen hx; have hlt := At.lt hx; clear k)
                  | (at_builtin; go_loud (refine wpList_append_own _ rfl _ _ 104 rfl w.heap.size 84 i0 (.agg #[.int .i64 0, .int .i64 0]) 2 16 Tryz.underlying104 hi hz0 hz1 hz2 rfl (by decide) _ _ _ rfl (owns_one (b := w.heap.size) (Nat.le_trans kk.size (by simp)) (by simp) _ _) ⟨_, 0, none⟩ acc.length _ (flatS acc.reverse) rfl hfl (((hown.alloc _).alloc _).cells rfl) hone (by unfold maxLen; omega) (by omega) (by simp; have := At.lt hx; omega) ?_)))
                intro v' w3 hown' hgrow hnil
                have kf := Keep.grown (Keep.alloc (Keep.alloc kk (.cells #[.int .i64 S.s, .int .i64 S.e] 84)) (.cells #[.int .i64 S.s, .int .i64 S.e] 84)) hgrow (fun g hg h => by have := kk.size; simp [Value.ownBlock] at hg; omega)
                have hx3 := Keep.at (Keep.grown (Keep.refl (fun g => g ≠ w.heap.size) _) hgrow (fun g hg h => by simp [Value.ownBlock] at hg; omega)) (At.alloc (At.alloc hx (.cells #[.int .i64 S.s, .int .i64 S.e] 84)) (.cells #[.int .i64 S.s, .int .i64 S.e] 84)) (fun e => e rfl)
                clear hgrow hnil hown kk cx fx hx
                have cx := At.cell hx3
                have hn2 : ((acc.length : Int) + 1) = (((acc ++ [S]).length : Nat) : Int) := by have := hlen2; omega
                replace hD := hD.out
                replace c3 := c3.out
                by_cases hf : I64 (x - sl)
                · rw [(fit_yes hf).1, (fit_yes hf).2.2] at c3
                  rw [(fit_yes hf).2.2, if_pos rfl] at hD
                  replace c3 := Lib.hid c3
                  replace hD := Lib.hid hD
                  replace hf := Lib.hid hf
                  go_wp2_with fail
                  refine (c3.out _).mono ?_
                  rintro e w4 ⟨rfl, k4⟩
                  go_wp2_with fail
                  go_roundw
                  case rel => exact ⟨kf.trans k4, Keep.at k4 hx3 (fun e => e), x - sl, k, acc ++ [S], rfl, rfl, congrArg (Value.int .i64) (by omega), hf.out, by omega, by omega, by rw [← hn2, Int.add_mul]; omega, by rw [hlen2]; omega, by rw [hD.out, Option.map_map]; congr 1; funext l; simp, by rw [hlen2, hfl2]; exact ownsRow_keep hown' k4 (fun _ _ e => e)⟩
                  case measure => simp [intOf]; omega
                · rw [(fit_no hf).1, (fit_no hf).2.2] at c3
                  rw [(fit_no hf).2.2, if_neg (by decide)] at hD
                  replace c3 := Lib.hid c3
                  replace hD := Lib.hid hD
                  go_wp2_with fail
                  refine (c3.out _).mono ?_
                  rintro e w4 ⟨rfl, k4⟩
                  go_wp2_with fail
                  go_ret2
                  exact ⟨_, _, rfl, kf.trans k4, .inr ⟨by rw [hD.out]; rfl, rfl, rfl⟩⟩
  · rw [hb] at c1
    generalize fitN (t - r) = z at *
    replace c1 := Lib.hid c1
    replace hD := Lib.hid hD
    clear hb
    rcases hk with ⟨rfl, rfl⟩ | ⟨rfl, rfl⟩
    all_goals
      go_enter Tryz.func53, Tryz.ntmps53
      go_wp2_with (first
        | (go_at_call 89; (with_reducible refine (c1.out _).mono ?_); rintro e w' ⟨rfl, k⟩; replace kk := Keep.trans kk k; replace hx := Keep.at k hx (fun e => e); have cx := At.cell hx; have fx := At.frozen hx; clear k))
      go_ret2
      exact ⟨_, _, rfl, (by repeat' (first | exact kk | refine Keep.alloc ?_ _ | refine Keep.drew ?_ | refine Keep.setNew ?_ (by simp) _)), .inr ⟨by rw [hD.out]; rfl, rfl, rfl⟩⟩
theorem ref_ofc (w : World) (c : Config) (t : Int) (hc : c.ok) (ht : I64 t) (h : c.mayB = true) : Calls Tryz.prog 53 #[.agg c.cells.toArray, .int .i64 t] w (RefPost2 w (ofL c t)) := by
  by_cases k2 : c.kind = 2
  · exact ref_of_session2 w c t hc ht k2
  · have hw : c.winB = true := by simp only [Config.mayB, Bool.and_eq_true] at h; exact h.1.1.1.1
    unfold Config.winB at hw
    obtain ⟨kind, size, slide, gap, late, shards, groups, cap⟩ := c
    simp only [Config.ok] at hc
    obtain ⟨hk, hs, hl, hg, ha, -⟩ := hc
    simp only at k2 hw
    by_cases k0 : kind = 0
    · rw [if_pos k0] at hw
      have h1 : 0 < size := by simpa using hw
      have := ref_of_down2 w t kind size slide gap late shards groups cap size ht hs hs ha (.inl ⟨k0, rfl⟩) (by omega) (by omega) (by omega)
      rw [downAll_one _ _ _ (by omega)] at this
      unfold ofL
      simp only
      rw [if_neg k2, if_pos k0]
      exact this
    · rw [if_neg k0] at hw
      have k1 : kind = 1 := by
        apply Classical.byContradiction
        intro k1
        rw [if_neg k1, if_neg k2] at hw
        exact absurd hw (by decide)
      rw [if_pos k1] at hw
      simp only [Bool.and_eq_true, decide_eq_true_eq] at hw
      obtain ⟨⟨h1, h2⟩, h3⟩ := hw
      have h4 : size - 1 < 16 * slide := (Int.ediv_lt_iff_lt_mul h1).1 h3
      unfold ofL
      simp only
      rw [if_neg k2, if_neg k0]
      exact ref_of_down2 w t kind size slide gap late shards groups cap slide ht hs hl ha (.inr ⟨k1, rfl⟩) (by omega) h2 (by omega)
end Go.Proofs.YtmioichjhiengaaGreat
