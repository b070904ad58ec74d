/-
  The walk of the law AssignHas.
-/
import Derived.Test.YtkbaijdamddipaaWalkAssignTells
import Derived.Test.YtkbaijdamddipaaHas
namespace Go.Proofs.Ytkbaijdamddipaa
open Go.RowKit

set_option maxRecDepth 100000 in
theorem has_no (c : Config) (t u : Int) (W : World) (hc : c.ok) (hm : c.mayB = false) :
    Calls Try.prog 14 #[.agg c.cells.toArray, .int .i64 t, .int .i64 u] W fun e W' => e = .returned (.bool true) ∧ Below W.heap.size W W' := by
  have hx := At.new W c.cells.toArray 72
  have kk : Keep none_ W (W.alloc (.cells c.cells.toArray 72)) := (by repeat' (first | exact Keep.refl _ _ | refine Keep.set1 ?_ _ | refine Keep.alloc ?_ _ | refine Keep.drew ?_ | refine Keep.setNew ?_ (by simp) _))
  have c1 := fun t w => assign_of_no w c t hc hm
  simp only [Config.cells] at hx kk c1 ⊢
  replace c1 := Lib.hid c1
  clear hm
  go_enter Try.func14, Try.ntmps14
  go_wp2_with (first
    | (go_at_call 58; (with_reducible refine (assignUp _).mono ?_); rintro e w' ⟨rfl, k⟩; replace kk := Keep.trans kk k; replace hx := Keep.at k hx (fun e => e); have cx := At.cell hx; have fx := At.frozen hx; clear k)
    | (go_at_call 59; (with_reducible refine (c1.out _ _).mono ?_); rintro e w' ⟨rfl, k⟩; replace kk := Keep.trans kk k; replace hx := Keep.at k hx (fun e => e); have cx := At.cell hx; have fx := At.frozen hx; clear k))
  go_ret
  exact ⟨rfl, kk.below (Nat.le_refl _) not_none⟩

set_option maxHeartbeats 1000000 in
set_option maxRecDepth 100000 in
theorem has_yes (c : Config) (t u : Int) (W : World) (hc : c.ok) (ht : I64 t) (hu : I64 u) (hm : c.mayB = true) :
    Calls Try.prog 14 #[.agg c.cells.toArray, .int .i64 t, .int .i64 u] W fun e W' => e = .returned (.bool true) ∧ Below W.heap.size W W' := by
  have hx := At.new W c.cells.toArray 72
  have kk : Keep none_ W (W.alloc (.cells c.cells.toArray 72)) := (by repeat' (first | exact Keep.refl _ _ | refine Keep.set1 ?_ _ | refine Keep.alloc ?_ _ | refine Keep.drew ?_ | refine Keep.setNew ?_ (by simp) _))
  have c1 := Lib.hid (fun t ht w => assign_of w c t hc ht hm)
  have g1 := fun l h => ofL_wins c t l hc ht hm h
  have g2 := fun l h => ofL_wins c u l hc hu hm h
  have hk : c.kind = 0 ∨ c.kind = 1 ∨ c.kind = 2 := by
    have hw : c.winB = true := by simp only [Config.mayB, Bool.and_eq_true] at hm; exact hm.1.1.1.1
    unfold Config.winB at hw
    by_cases h0 : c.kind = 0
    · exact .inl h0
    · by_cases h1 : c.kind = 1
      · exact .inr (.inl h1)
      · by_cases h2 : c.kind = 2
        · exact .inr (.inr h2)
        · rw [if_neg h0, if_neg h1, if_neg h2] at hw; exact absurd hw (by decide)
  have okc := hc
  obtain ⟨kind, size, slide, gap, late, shards, groups, cap⟩ := c
  simp only [Config.cells] at hx kk c1 ⊢
  simp only [Config.ok] at okc
  obtain ⟨-, os, ol, og, -⟩ := okc
  simp only at hk
  clear hm
  go_enter Try.func14, Try.ntmps14
  go_wp2_with (first
    | (go_at_call 58; (with_reducible refine (assignUp _).mono ?_); rintro e w' ⟨rfl, k⟩; replace kk := Keep.trans kk k; replace hx := Keep.at k hx (fun e => e); have cx := At.cell hx; have fx := At.frozen hx; clear k))
  refine (c1.out _ ht _).mono ?_
  rintro e w2 ⟨v, er, rfl, k2, h2⟩
  replace kk := Keep.trans kk k2
  replace hx := Keep.at k2 hx (fun e => e)
  have cx := At.cell hx
  replace h2 := Lib.hid h2
  go_wp2_with fail
  refine (c1.out _ hu _).mono ?_
  rintro e w3 ⟨v3, er3, rfl, k3, h3⟩
  replace kk := Keep.trans kk k3
  replace hx := Keep.at k3 hx (fun e => e)
  have cx := At.cell hx
  clear c1
  rcases h2.out with ⟨l, hD, rfl, hown⟩ | ⟨hD, rfl, rfl⟩
  · rcases h3 with ⟨m, hE, rfl, hown2⟩ | ⟨hE, rfl, rfl⟩
    · replace g1 := g1 l hD
      replace g2 := g2 m hE
      replace hown := ownsRow_keep hown k3 (fun _ _ e => e)
      clear h2 hD hE k2 k3 hc
      obtain ⟨-, b, cp, rfl, hc1, hm1, hbg, hb, hcell⟩ := owned_cells hown (by have := g1.pos; omega)
      obtain ⟨-, b2, cp2, rfl, hc2, hm2, hbg2, hb2, hcell2⟩ := owned_cells hown2 (by have := g2.pos; omega)
      clear hown hown2 hc1 hm1 hbg hc2 hm2 hbg2
      have lp := g1.pos
      have lf := g1.few
      have mp := g2.pos
      have mf := g2.few
      have lp2 : ((l.length : Int) == 0) = false := by simp; intro h; simp [h] at lp
      have mp2 : ((m.length : Int) == 0) = false := by simp; intro h; simp [h] at mp
      have lh := g1.has
      have lu := g1.up
      rcases hk with rfl | rfl | rfl
      · go_wp2_with fail
        go_loopw [12, 13] (fun i lg wr => Keep none_ W wr ∧ Keep none_ w3 wr ∧ ∃ k : Nat, k ≤ l.length ∧ i = .int .i64 k) (fun i _ _ => l.length - (intOf i).toNat)
        case atStart => exact ⟨kk, Keep.refl _ _, 0, Nat.zero_le _, rfl⟩
        case round =>
          obtain ⟨kw, k3w, k, hk, rfl⟩ := hrel
          have hxw := Keep.at k3w hx (fun e => e)
          have cxw := At.cell hxw
          by_cases hlt : k < l.length
          · obtain ⟨h1, h2, h3, h4, h5⟩ := lh k hlt
            simp only [Int.reduceEq, if_true, if_false] at h3
            have hc1 := hcell k hlt
            generalize hS : l[k].s = S at *
            generalize l[k].e = E at *
            have t1 : decide (t < S) = false := by simp; omega
            have t2 : decide (E ≤ t) = false := by simp; omega
            have t3 : wrap64 (E - S) = size := by unfold I64 at *; unfold wrap64; omega
            have t4 : wrap64 size = size := by unfold I64 at *; unfold wrap64; omega
            go_wp2_with fail
            obtain ⟨ι, hne, f, hf0, hfk, hfa⟩ := class_of none_ wr
            have e1 := fun n => (((k3w.trans (hfk n)).below (Nat.le_refl _) not_none).cell hb).trans hc1.1
            have e2 := fun n => (((k3w.trans (hfk n)).below (Nat.le_refl _) not_none).cell hb).trans hc1.2
            refine wp_region_class f (by kernel_rfl) (by kernel_rfl) hf0 ?_
            repeat (go_big_quiet_step (fail))
            refine wpQuiet_nil ?_
            rintro _ ⟨n, rfl⟩
            replace kw := kw.trans (hfk n)
            replace k3w := k3w.trans (hfk n)
            clear e1 e2 hf0 hfk hfa hxw cxw
            generalize f n = wq at *
            go_wp2_with fail
            have hxw := Keep.at k3w hx (fun e => e)
            have cxw := At.cell hxw
            obtain ⟨ι, hne, f, hf0, hfk, hfa⟩ := class_of none_ wq
            rcases Nat.eq_zero_or_pos k with h0 | h0
            · subst h0
              refine wp_region_class f (by kernel_rfl) (by kernel_rfl) hf0 ?_
              repeat (go_big_quiet_step (fail))
              refine wpQuiet_nil ?_
              rintro _ ⟨n, rfl⟩
              go_wp2_with fail
              go_roundw
              case rel => exact ⟨kw.trans (hfk n), k3w.trans (hfk n), 1, by omega, rfl⟩
              case measure => simp [intOf]; omega
            · obtain ⟨j, rfl⟩ : ∃ j, k = j + 1 := ⟨k - 1, by omega⟩
              have hu := lu j hlt
              have hc2 := hcell j (by omega)
              have hj := lh j (by omega)
              generalize l[j].s = S0 at *
              rw [hS] at hu
              obtain ⟨hu1, hu2⟩ := hu
              have t5 : decide (S ≤ S0) = false := by simp; omega
              have t6 : IntKind.u64.wrap (IntKind.u64.wrap S - IntKind.u64.wrap S0) = IntKind.u64.wrap slide := by rw [hu1]; simp only [IntKind.wrap, IntKind.signed, IntKind.bits]; simp; omega
              have t7 : (((j + 1 : Nat) : Int) - 1) = (j : Int) := by omega
              replace hu1 := Lib.hid hu1
              have e1 := fun n => (((k3w.trans (hfk n)).below (Nat.le_refl _) not_none).cell hb).trans hc1.1
              have e2 := fun n => (((k3w.trans (hfk n)).below (Nat.le_refl _) not_none).cell hb).trans hc2.1
              have e3 : ∀ n i, (f n).cell? ⟨W.heap.size, i, none⟩ = _ := fun n => At.cell (Keep.at (hfk n) hxw (fun e => e))
              refine wp_region_class f (by kernel_rfl) (by kernel_rfl) hf0 ?_
              repeat (go_big_quiet_step (fail))
              refine wpQuiet_nil ?_
              rintro _ ⟨n, rfl⟩
              go_wp2_with fail
              go_roundw
              case rel => exact ⟨kw.trans (hfk n), k3w.trans (hfk n), j + 2, by omega, by go_num⟩
              case measure => simp [intOf]; omega
          · obtain rfl : k = l.length := by omega
            clear hlt hk lh lu
            have l1 : ((l.length : Int) != 1) = false := by have := g1.lone (by simp); simp [this]
            have m1 : ((m.length : Int) != 1) = false := by have := g2.lone (by simp); simp [this]
            obtain ⟨hs0, hs1⟩ := g1.tum rfl
            obtain ⟨-, hs2⟩ := g2.tum rfl
            obtain ⟨-, -, hs3, -⟩ := g1.has 0 (by omega)
            obtain ⟨-, -, hs4, -⟩ := g2.has 0 (by omega)
            replace hs1 := hs1 (by omega)
            replace hs2 := hs2 (by omega)
            simp only [Int.reduceEq, if_false] at hs3 hs4
            have hc1 := hcell 0 (by omega)
            have hc2 := hcell2 0 (by omega)
            generalize l[0].s = S at *
            generalize l[0].e = E at *
            generalize m[0].s = S2 at *
            generalize m[0].e = E2 at *
            have hor : (S = S2 ∧ E = E2) ∨ (S ≠ S2 ∧ decide (E ≤ S2) = true) ∨ (S ≠ S2 ∧ decide (E ≤ S2) = false ∧ decide (E2 ≤ S) = true) := by
              by_cases h : S = S2
              · exact .inl ⟨h, by omega⟩
              · have h2 := mult_apart size t u hs0 (by rw [← hs1, ← hs2]; exact h)
                rw [← hs1, ← hs2] at h2
                clear hs1 hs2
                rcases h2 with h2 | h2
                · exact .inr (.inl ⟨h, decide_eq_true (by omega)⟩)
                · by_cases h3 : E ≤ S2
                  · exact .inr (.inl ⟨h, decide_eq_true h3⟩)
                  · exact .inr (.inr ⟨h, decide_eq_false h3, decide_eq_true (by omega)⟩)
            clear g1 g2 hcell hcell2 hs1 hs2 hs3 hs4
            go_wp2_with fail
            obtain ⟨ι, hne, f, hf0, hfk, hfa⟩ := class_of none_ wr
            have e1 := fun n => (((k3w.trans (hfk n)).below (Nat.le_refl _) not_none).cell hb).trans hc1.1
            have e2 := fun n => (((k3w.trans (hfk n)).below (Nat.le_refl _) not_none).cell hb).trans hc1.2
            have e3 := fun n => (((k3w.trans (hfk n)).below (Nat.le_refl _) not_none).cell hb2).trans hc2.1
            have e4 := fun n => (((k3w.trans (hfk n)).below (Nat.le_refl _) not_none).cell hb2).trans hc2.2
            rcases hor with ⟨rfl, rfl⟩ | ⟨h1, h2⟩ | ⟨h1, h2, h3⟩
            all_goals
              refine wp_region_class f (by kernel_rfl) (by kernel_rfl) hf0 ?_
              repeat (go_big_quiet_step (fail))
              refine wpQuiet_nil ?_
              rintro _ ⟨n, rfl⟩
              go_wp2_with fail
              go_ret
              exact ⟨by simp, (kw.trans (hfk n)).below (Nat.le_refl _) not_none⟩
      · go_wp2_with fail
        go_loopw [12, 13] (fun i lg wr => Keep none_ W wr ∧ Keep none_ w3 wr ∧ ∃ k : Nat, k ≤ l.length ∧ i = .int .i64 k) (fun i _ _ => l.length - (intOf i).toNat)
        case atStart => exact ⟨kk, Keep.refl _ _, 0, Nat.zero_le _, rfl⟩
        case round =>
          obtain ⟨kw, k3w, k, hk, rfl⟩ := hrel
          have hxw := Keep.at k3w hx (fun e => e)
          have cxw := At.cell hxw
          by_cases hlt : k < l.length
          · obtain ⟨h1, h2, h3, h4, h5⟩ := lh k hlt
            simp only [Int.reduceEq, if_true, if_false] at h3
            have hc1 := hcell k hlt
            generalize hS : l[k].s = S at *
            generalize l[k].e = E at *
            have t1 : decide (t < S) = false := by simp; omega
            have t2 : decide (E ≤ t) = false := by simp; omega
            have t3 : wrap64 (E - S) = size := by unfold I64 at *; unfold wrap64; omega
            have t4 : wrap64 size = size := by unfold I64 at *; unfold wrap64; omega
            go_wp2_with fail
            obtain ⟨ι, hne, f, hf0, hfk, hfa⟩ := class_of none_ wr
            have e1 := fun n => (((k3w.trans (hfk n)).below (Nat.le_refl _) not_none).cell hb).trans hc1.1
            have e2 := fun n => (((k3w.trans (hfk n)).below (Nat.le_refl _) not_none).cell hb).trans hc1.2
            refine wp_region_class f (by kernel_rfl) (by kernel_rfl) hf0 ?_
            repeat (go_big_quiet_step (fail))
            refine wpQuiet_nil ?_
            rintro _ ⟨n, rfl⟩
            replace kw := kw.trans (hfk n)
            replace k3w := k3w.trans (hfk n)
            clear e1 e2 hf0 hfk hfa hxw cxw
            generalize f n = wq at *
            go_wp2_with fail
            have hxw := Keep.at k3w hx (fun e => e)
            have cxw := At.cell hxw
            obtain ⟨ι, hne, f, hf0, hfk, hfa⟩ := class_of none_ wq
            rcases Nat.eq_zero_or_pos k with h0 | h0
            · subst h0
              refine wp_region_class f (by kernel_rfl) (by kernel_rfl) hf0 ?_
              repeat (go_big_quiet_step (fail))
              refine wpQuiet_nil ?_
              rintro _ ⟨n, rfl⟩
              go_wp2_with fail
              go_roundw
              case rel => exact ⟨kw.trans (hfk n), k3w.trans (hfk n), 1, by omega, rfl⟩
              case measure => simp [intOf]; omega
            · obtain ⟨j, rfl⟩ : ∃ j, k = j + 1 := ⟨k - 1, by omega⟩
              have hu := lu j hlt
              have hc2 := hcell j (by omega)
              have hj := lh j (by omega)
              generalize l[j].s = S0 at *
              rw [hS] at hu
              obtain ⟨hu1, hu2⟩ := hu
              have t5 : decide (S ≤ S0) = false := by simp; omega
              have t6 : IntKind.u64.wrap (IntKind.u64.wrap S - IntKind.u64.wrap S0) = IntKind.u64.wrap slide := by rw [hu1]; simp only [IntKind.wrap, IntKind.signed, IntKind.bits]; simp; omega
              have t7 : (((j + 1 : Nat) : Int) - 1) = (j : Int) := by omega
              replace hu1 := Lib.hid hu1
              have e1 := fun n => (((k3w.trans (hfk n)).below (Nat.le_refl _) not_none).cell hb).trans hc1.1
              have e2 := fun n => (((k3w.trans (hfk n)).below (Nat.le_refl _) not_none).cell hb).trans hc2.1
              have e3 : ∀ n i, (f n).cell? ⟨W.heap.size, i, none⟩ = _ := fun n => At.cell (Keep.at (hfk n) hxw (fun e => e))
              refine wp_region_class f (by kernel_rfl) (by kernel_rfl) hf0 ?_
              repeat (go_big_quiet_step (fail))
              refine wpQuiet_nil ?_
              rintro _ ⟨n, rfl⟩
              go_wp2_with fail
              go_roundw
              case rel => exact ⟨kw.trans (hfk n), k3w.trans (hfk n), j + 2, by omega, by go_num⟩
              case measure => simp [intOf]; omega
          · obtain rfl : k = l.length := by omega
            clear hlt hk lh lu
            have hw2 := wins_two _ _ _ _ _ g1 g2 rfl
            obtain ⟨hw2, hw3⟩ := hw2
            have t1 : (l.length : Int) - m.length ≤ 1 := by omega
            have t2 : (m.length : Int) - l.length ≤ 1 := by omega
            clear g1 g2 hcell hcell2
            go_wp2_with fail
            go_ret
            exact ⟨by simp, kw.below (Nat.le_refl _) not_none⟩
      · go_wp2_with fail
        go_loopw [12, 13] (fun i lg wr => Keep none_ W wr ∧ Keep none_ w3 wr ∧ ∃ k : Nat, k ≤ l.length ∧ i = .int .i64 k) (fun i _ _ => l.length - (intOf i).toNat)
        case atStart => exact ⟨kk, Keep.refl _ _, 0, Nat.zero_le _, rfl⟩
        case round =>
          obtain ⟨kw, k3w, k, hk, rfl⟩ := hrel
          have hxw := Keep.at k3w hx (fun e => e)
          have cxw := At.cell hxw
          by_cases hlt : k < l.length
          · obtain ⟨h1, h2, h3, h4, h5⟩ := lh k hlt
            simp only [Int.reduceEq, if_true, if_false] at h3
            have hc1 := hcell k hlt
            generalize hS : l[k].s = S at *
            generalize l[k].e = E at *
            have t1 : decide (t < S) = false := by simp; omega
            have t2 : decide (E ≤ t) = false := by simp; omega
            have t3 : wrap64 (E - S) = gap := by unfold I64 at *; unfold wrap64; omega
            have t4 : wrap64 gap = gap := by unfold I64 at *; unfold wrap64; omega
            go_wp2_with fail
            obtain ⟨ι, hne, f, hf0, hfk, hfa⟩ := class_of none_ wr
            have e1 := fun n => (((k3w.trans (hfk n)).below (Nat.le_refl _) not_none).cell hb).trans hc1.1
            have e2 := fun n => (((k3w.trans (hfk n)).below (Nat.le_refl _) not_none).cell hb).trans hc1.2
            refine wp_region_class f (by kernel_rfl) (by kernel_rfl) hf0 ?_
            repeat (go_big_quiet_step (fail))
            refine wpQuiet_nil ?_
            rintro _ ⟨n, rfl⟩
            replace kw := kw.trans (hfk n)
            replace k3w := k3w.trans (hfk n)
            clear e1 e2 hf0 hfk hfa hxw cxw
            generalize f n = wq at *
            go_wp2_with fail
            have hxw := Keep.at k3w hx (fun e => e)
            have cxw := At.cell hxw
            obtain ⟨ι, hne, f, hf0, hfk, hfa⟩ := class_of none_ wq
            rcases Nat.eq_zero_or_pos k with h0 | h0
            · subst h0
              refine wp_region_class f (by kernel_rfl) (by kernel_rfl) hf0 ?_
              repeat (go_big_quiet_step (fail))
              refine wpQuiet_nil ?_
              rintro _ ⟨n, rfl⟩
              go_wp2_with fail
              go_roundw
              case rel => exact ⟨kw.trans (hfk n), k3w.trans (hfk n), 1, by omega, rfl⟩
              case measure => simp [intOf]; omega
            · obtain ⟨j, rfl⟩ : ∃ j, k = j + 1 := ⟨k - 1, by omega⟩
              have hu := lu j hlt
              have hc2 := hcell j (by omega)
              have hj := lh j (by omega)
              generalize l[j].s = S0 at *
              rw [hS] at hu
              obtain ⟨hu1, hu2⟩ := hu
              have t5 : decide (S ≤ S0) = false := by simp; omega
              have t6 : IntKind.u64.wrap (IntKind.u64.wrap S - IntKind.u64.wrap S0) = IntKind.u64.wrap slide := by rw [hu1]; simp only [IntKind.wrap, IntKind.signed, IntKind.bits]; simp; omega
              have t7 : (((j + 1 : Nat) : Int) - 1) = (j : Int) := by omega
              replace hu1 := Lib.hid hu1
              have e1 := fun n => (((k3w.trans (hfk n)).below (Nat.le_refl _) not_none).cell hb).trans hc1.1
              have e2 := fun n => (((k3w.trans (hfk n)).below (Nat.le_refl _) not_none).cell hb).trans hc2.1
              have e3 : ∀ n i, (f n).cell? ⟨W.heap.size, i, none⟩ = _ := fun n => At.cell (Keep.at (hfk n) hxw (fun e => e))
              refine wp_region_class f (by kernel_rfl) (by kernel_rfl) hf0 ?_
              repeat (go_big_quiet_step (fail))
              refine wpQuiet_nil ?_
              rintro _ ⟨n, rfl⟩
              go_wp2_with fail
              go_roundw
              case rel => exact ⟨kw.trans (hfk n), k3w.trans (hfk n), j + 2, by omega, by go_num⟩
              case measure => simp [intOf]; omega
          · obtain rfl : k = l.length := by omega
            clear hlt hk lh lu
            have l1 : ((l.length : Int) != 1) = false := by have := g1.lone (by simp); simp [this]
            have m1 : ((m.length : Int) != 1) = false := by have := g2.lone (by simp); simp [this]
            have hs := g1.sess rfl (by omega)
            have hc1 := (hcell 0 (by omega)).1
            rw [hs] at hc1
            replace hc1 := ((k3w.below (Nat.le_refl _) not_none).cell hb).trans hc1
            clear g1 g2 hcell hcell2 hs
            go_wp2_with fail
            go_ret
            exact ⟨by simp, kw.below (Nat.le_refl _) not_none⟩
    · clear h2 hD hE g1 g2 k2 k3
      go_wp2_with fail
      go_ret
      exact ⟨rfl, kk.below (Nat.le_refl _) not_none⟩
  · clear h2 hD g1 g2 h3 k2 k3
    go_wp2_with fail
    go_ret
    exact ⟨rfl, kk.below (Nat.le_refl _) not_none⟩

theorem law_AssignHas (c : Config) (t u : Int) (W : World) (hc : c.ok) (ht : I64 t) (hu : I64 u) :
    Calls Try.prog 14 #[.agg c.cells.toArray, .int .i64 t, .int .i64 u] W fun e W' => e = .returned (.bool true) ∧ Below W.heap.size W W' := by
  cases hm : c.mayB
  · exact has_no c t u W hc hm
  · exact has_yes c t u W hc ht hu hm
end Go.Proofs.Ytkbaijdamddipaa
