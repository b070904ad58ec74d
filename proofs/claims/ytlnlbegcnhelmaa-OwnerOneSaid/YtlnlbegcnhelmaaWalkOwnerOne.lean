/-
  The walk of the law OwnerOne.
-/
import Derived.Test.YtlnlbegcnhelmaaOwnerAny
import Derived.Test.YtlnlbegcnhelmaaWalkOwnerPlays
namespace Go.Proofs.Ytlnlbegcnhelmaa
open Go.RowKit

set_option maxRecDepth 100000 in
theorem owner_one_no (n s : Int) (v : Value) (W : World) (h : n < 1 ∨ 16 < n ∨ s < 1 ∨ 8 < s) (hv : ∃ A m c, v = .slice A m c) :
    Calls Try.prog 6 #[.int .i64 n, .int .i64 s, v] W fun e W' => e = .returned (.bool true) ∧ Below W.heap.size W W' := by
  obtain ⟨A, m, c, rfl⟩ := hv
  have c1 := Lib.hid (fun w => owner_new_no w n s h)
  clear h
  go_enter Try.func6, Try.ntmps6
  go_wp2_with fail
  refine (ownerUp _).mono ?_
  rintro e w1 ⟨rfl, k1⟩
  go_wp2_with fail
  refine (c1.out _).mono ?_
  rintro e w2 ⟨rfl, rfl⟩
  go_wp2_with fail
  go_ret
  exact ⟨rfl, k1.below (Nat.le_refl _) not_none⟩

structure OO (W : World) (p g n s k : Nat) (T : List Own) (w : World) : Prop where
  tab : TabAt w p g T s
  len : T.length = n
  inv : OInv s k T
  keep : Keep none_ W w
theorem OO.none {W : World} {p g n s k : Nat} {T : List Own} {w w' : World} (h : OO W p g n s k T w) (kk : Keep none_ w w') : OO W p g n s k T w' :=
  ⟨h.tab.keep kk (fun e => e) (fun e => e), h.len, h.inv, h.keep.trans kk⟩

set_option maxHeartbeats 4000000 in
set_option maxRecDepth 100000 in
theorem owner_one_yes (n s : Nat) (l : List Deed11) (v : Value) (W : World) (h1 : 1 ≤ n) (h2 : n ≤ 16) (h3 : 1 ≤ s) (h4 : s ≤ 8) (hv : rSlice 3 rDeed11 W l [v]) :
    Calls Try.prog 6 #[.int .i64 n, .int .i64 s, v] W fun e W' => e = .returned (.bool true) ∧ Below W.heap.size W W' := by
  obtain ⟨A, m, c, rfl, hsl, hok⟩ := sl_of enc11 Deed11.ok deed11_of hv
  clear hv
  obtain rfl := hsl.len
  have hnc := hsl.2.2.1
  have hlc := hsl.2.1
  unfold maxLen at hnc
  obtain ⟨i0, hi, hz0, hz1, hz2⟩ := info_parts (show (Try.prog.info? 3).map (fun i => (i.zero, i.size, i.bytes)) = some (some (.int .i64 0), 1, 8) by kernel_rfl)
  have hmk := fun w => run_make w 23 3 i0 _ Try.underlying23 hi hz0 .i64 .i64 (n : Int) (n : Int) (by omega) (Int.le_refl _) (by rw [hz2]; omega) (by omega)
  simp only [Int.toNat_natCast] at hmk
  rw [hz1] at hmk
  have hmf := made_flat (enc := encI) encI_len (by decide) #[.int .i64 0] 0 rfl n
  simp only [Value.cells] at hmk
  generalize madeCells #[.int .i64 0] (n * 1) = mc at *
  clear hi hz0 hz1 hz2
  replace hmf := Lib.hid hmf
  go_enter Try.func6, Try.ntmps6
  go_wp2_with fail
  refine (ownerUp _).mono ?_
  rintro e w1 ⟨rfl, k1⟩
  go_wp2_with fail
  refine (owner_new _ n s h1 h2 h3 h4).mono ?_
  rintro e w2 ⟨p, g, rfl, k2, hp, hg, ht⟩
  have k2 := k1.trans k2
  have hpW := Nat.le_trans k1.size hp
  have hgW := Nat.le_trans k1.size hg
  clear k1 hp hg
  by_cases h200 : 100 < l.length
  · have h200' : decide ((100 : Int) < l.length) = true := by simp; omega
    go_wp2_with fail
    go_ret
    exact ⟨by simp, k2.below (Nat.le_refl _) not_none⟩
  · have h200' : decide ((100 : Int) < l.length) = false := by simp; omega
    go_wp2_with fail
    have hoi : OO W p g n s 0 (initT n s) w2 := ⟨ht, initT_len _ _, fun i hi => by
      rw [initT_len] at hi
      have := Nat.mod_lt i (show 0 < s by omega)
      have e : (initT n s)[i]'(by rw [initT_len]; exact hi) = ⟨((i % s : Nat) : Int), 0, false⟩ := by simp [initT]
      rw [e]
      exact ⟨Int.natCast_nonneg _, Int.ofNat_lt.2 this, Int.le_refl _, Int.le_refl _⟩, k2⟩
    clear ht k2
    go_loopw [10, 11, 12, 13, 14] (fun i _ _ _ _ wr => ∃ (k : Nat) (T : List Own), k ≤ l.length ∧ i = .int .i64 k ∧ OO W p g n s k T wr)
      (fun i _ _ _ _ _ => l.length - (intOf i).toNat)
    case atStart => exact ⟨0, _, Nat.zero_le _, rfl, hoi⟩
    case round =>
      clear hoi
      obtain ⟨k, T, hk, rfl, hoi⟩ := hrel
      by_cases hlt : k < l.length
      · obtain ⟨b, off, rfl, hbl, -⟩ := hsl.at_ (by omega)
        have e0 : W.cell? ⟨b, off + k * 3, none⟩ = some (.bool l[k].publish) := hsl.cellk hlt 0 (by omega)
        have e1 : W.cell? ⟨b, off + k * 3 + 1, none⟩ = some (.int .i64 l[k].group) := hsl.cellk hlt 1 (by omega)
        have e2 : W.cell? ⟨b, off + k * 3 + 2, none⟩ = some (.int .i64 l[k].shard) := hsl.cellk hlt 2 (by omega)
        generalize l[k].publish = pu at *
        generalize l[k].group = gr at *
        generalize l[k].shard = sd at *
        have f1 := ((hoi.keep.below (Nat.le_refl _) not_none).cell hbl).trans e1
        have c1 := Lib.hid (owner_of_any hoi.tab gr)
        go_wp2_with fail
        refine c1.out.mono ?_
        rintro e w3 ⟨rfl, k3⟩
        replace hoi := hoi.none k3
        clear f1 c1 k3
        have hw3p : w3.heap.size ≠ g := fun e => by have := hoi.tab.row.lt; omega
        have kb := Keep.alloc (Keep.refl none_ w3) (.cells (look T gr).cells.toArray 54)
        have hx := At.new w3 (look T gr).cells.toArray 54
        replace hoi := hoi.none kb
        have f0 := ((hoi.keep.below (Nat.le_refl _) not_none).cell hbl).trans e0
        have f1 := ((hoi.keep.below (Nat.le_refl _) not_none).cell hbl).trans e1
        have f2 := ((hoi.keep.below (Nat.le_refl _) not_none).cell hbl).trans e2
        clear kb
        cases pu
        · have c2 := Lib.hid (owner_freeze_any hoi.tab hoi.inv gr)
          go_wp2_with fail
          refine c2.out.mono ?_
          rintro e w4 ⟨er, T', rfl, k4, tab4, st⟩
          have hb := hoi.inv.look gr
          have hx4 := Keep.at k4 hx hw3p
          have hoi4 : OO W p g n s (k + 1) T' w4 := ⟨tab4, by rw [st.len]; exact hoi.len, st.inv, Keep.fresh hoi.keep k4 (fun z hz e => by unfold one at e; omega)⟩
          have f1 := ((hoi4.keep.below (Nat.le_refl _) not_none).cell hbl).trans e1
          have c3 := Lib.hid (owner_of_any hoi4.tab gr)
          have t1 := st.ver
          have t2 := st.sh
          clear hx k4 c2 tab4 st hoi
          go_wp2_with fail
          refine c3.out.mono ?_
          rintro e w5 ⟨rfl, k5⟩
          have kb := Keep.alloc k5 (.cells (look T' gr).cells.toArray 54)
          have hx5 := Keep.at kb hx4 (fun e => e)
          have hx6 := At.new w5 (look T' gr).cells.toArray 54
          have hoi5 := hoi4.none kb
          clear c3 f1 k5 hx4 hoi4 kb
          generalize look T gr = H at *
          generalize look T' gr = N at *
          obtain ⟨hs, hv, hm⟩ := H
          obtain ⟨ns, nv, nm⟩ := N
          simp only at t1 t2 hb
          simp only [Own.cells] at hx5 hx6 ⊢
          have cx5 := At.cell hx5
          have cx6 := At.cell hx6
          have d1 : decide (nv < hv) = false := by simp; omega
          have hwr : wrap64 (hv + 1) = hv + 1 := by unfold wrap64; omega
          by_cases hse : ns = hs
          · have d2 : (ns != hs) = false := by simp [hse]
            clear hse t2
            go_wp2_with fail
            go_roundw
            case rel => exact ⟨k + 1, T', by omega, by go_num, hoi5⟩
            case measure => simp [intOf]; omega
          · have d2 : (ns != hs) = true := by simp [hse]
            have d3 : (nv != hv + 1) = false := by
              rcases t2 with t2 | t2
              · exact absurd t2 hse
              · simp [t2]
            clear hse t2
            go_wp2_with fail
            go_roundw
            case rel => exact ⟨k + 1, T', by omega, by go_num, hoi5⟩
            case measure => simp [intOf]; omega
        · have c2 := Lib.hid (owner_publish_any hoi.tab hoi.inv (by omega) gr sd)
          go_wp2_with fail
          generalize w3.alloc _ = w3' at *
          obtain ⟨ι, hne, f, hf0, hfk, hfa⟩ := class_of none_ w3'
          have g1 : ∀ n, (f n).cell? ⟨b, off + k * 3 + 1, none⟩ = _ := fun n => (((hoi.keep.trans (hfk n)).below (Nat.le_refl _) not_none).cell hbl).trans e1
          have g2 : ∀ n, (f n).cell? ⟨b, off + k * 3 + 2, none⟩ = _ := fun n => (((hoi.keep.trans (hfk n)).below (Nat.le_refl _) not_none).cell hbl).trans e2
          refine wp_region_class_tail f 11 (by kernel_rfl) (by kernel_rfl) hf0 ?_
          simp only [List.take_succ_cons, List.take_zero, List.drop_succ_cons, List.drop_zero]
          repeat (go_big_quiet_step (fail))
          refine wpQuiet_nil ?_
          intro mm
          replace hx := Keep.at (hfk mm) hx (fun e => e)
          replace hoi := hoi.none (hfk mm)
          clear g1 g2 hf0 hfk hfa c2 f0 f1 f2
          generalize f mm = w3'' at *
          have c2 := Lib.hid (owner_publish_any hoi.tab hoi.inv (by omega) gr sd)
          go_wp2_with fail
          refine c2.out.mono ?_
          rintro e w4 ⟨er, T', rfl, k4, tab4, st⟩
          have hb := hoi.inv.look gr
          have hx4 := Keep.at k4 hx hw3p
          have hoi4 : OO W p g n s (k + 1) T' w4 := ⟨tab4, by rw [st.len]; exact hoi.len, st.inv, Keep.fresh hoi.keep k4 (fun z hz e => by unfold one at e; omega)⟩
          have f1 := ((hoi4.keep.below (Nat.le_refl _) not_none).cell hbl).trans e1
          have c3 := Lib.hid (owner_of_any hoi4.tab gr)
          have t1 := st.ver
          have t2 := st.sh
          clear hx k4 c2 tab4 st hoi
          go_wp2_with fail
          refine c3.out.mono ?_
          rintro e w5 ⟨rfl, k5⟩
          have kb := Keep.alloc k5 (.cells (look T' gr).cells.toArray 54)
          have hx5 := Keep.at kb hx4 (fun e => e)
          have hx6 := At.new w5 (look T' gr).cells.toArray 54
          have hoi5 := hoi4.none kb
          clear c3 f1 k5 hx4 hoi4 kb
          generalize look T gr = H at *
          generalize look T' gr = N at *
          obtain ⟨hs, hv, hm⟩ := H
          obtain ⟨ns, nv, nm⟩ := N
          simp only at t1 t2 hb
          simp only [Own.cells] at hx5 hx6 ⊢
          have cx5 := At.cell hx5
          have cx6 := At.cell hx6
          have d1 : decide (nv < hv) = false := by simp; omega
          have hwr : wrap64 (hv + 1) = hv + 1 := by unfold wrap64; omega
          by_cases hse : ns = hs
          · have d2 : (ns != hs) = false := by simp [hse]
            clear hse t2
            go_wp2_with fail
            go_roundw
            case rel => exact ⟨k + 1, T', by omega, by go_num, hoi5⟩
            case measure => simp [intOf]; omega
          · have d2 : (ns != hs) = true := by simp [hse]
            have d3 : (nv != hv + 1) = false := by
              rcases t2 with t2 | t2
              · exact absurd t2 hse
              · simp [t2]
            clear hse t2
            go_wp2_with fail
            go_roundw
            case rel => exact ⟨k + 1, T', by omega, by go_num, hoi5⟩
            case measure => simp [intOf]; omega
      · go_wp2_with fail
        have hTn1 : T.length ≤ n := by rw [hoi.len]; omega
        have hTn2 : n ≤ T.length := by rw [hoi.len]; omega
        have hr0 := Flat.new wr mc 3 (manyT T 0 0) (by rw [manyT_zero T (fun i hi => (hoi.inv i hi).1), hoi.len]; exact hmf.out)
        have hgm1 : p ≠ wr.heap.size := fun e => by have := hoi.tab.self.lt; omega
        have hgm2 : g ≠ wr.heap.size := fun e => by have := hoi.tab.row.lt; omega
        have hgmW : W.heap.size ≤ wr.heap.size := hoi.keep.size
        replace hoi := hoi.none (Keep.alloc (Keep.refl none_ wr) (.cells mc 3))
        clear hlt hk hmf
        obtain ⟨gm, hgm⟩ : ∃ gm, gm = wr.heap.size := ⟨_, rfl⟩
        rw [← hgm] at hr0 hgm1 hgm2 hgmW ⊢
        generalize wr.alloc _ = w5 at *
        clear hgm
        go_loopw [16, 17, 18] (fun i _ _ wr => ∃ x : Nat, x ≤ s ∧ i = .int .i64 x ∧ OO W p g n s k T wr ∧ Flat encI wr gm (manyT T x 0) 3)
          (fun i _ _ _ => s - (intOf i).toNat)
        case atStart => exact ⟨0, Nat.zero_le _, rfl, hoi, hr0⟩
        case round =>
          clear hoi hr0
          obtain ⟨x, hx, rfl, hoi, hr⟩ := hrel
          by_cases hxs : x < s
          · have c1 := Lib.hid (owner_groups hoi.tab x)
            go_wp2_with fail
            refine c1.out.mono ?_
            rintro e w4 ⟨A2, c2, rfl, k4, hown⟩
            have hoi4 := hoi.none k4
            have hr4 := hr.keep k4 (fun e => e)
            have hsl4 := Sl.of_own encI_len (by decide) hown
            have hgl := hr.lt
            have hAg : ∀ a, A2 = some a → a.block ≠ gm := fun a ha e => by subst ha; have := (hown.lt a.block rfl).1; omega
            have hGl := ofShard_le T x T.length
            clear k4 c1 hown hoi hr hgl
            go_wp2_with fail
            obtain ⟨wo, rfl⟩ : ∃ wo : World, wo = w4 := ⟨_, rfl⟩
            go_loopw [18] (fun i wr => ∃ q : Nat, q ≤ (ofShard T x T.length).length ∧ i = .int .i64 q ∧ OO W p g n s k T wr ∧ Flat encI wr gm (manyT T x q) 3 ∧ Sl encI 1 wr A2 (ofShard T x T.length).length c2 (ofShard T x T.length)) (fun i _ => (ofShard T x T.length).length - (intOf i).toNat)
            case atStart => exact ⟨0, Nat.zero_le _, rfl, hoi4, hr4, hsl4⟩
            case round =>
              clear hoi4 hr4 hsl4
              obtain ⟨q, hq, rfl, hoi, hr, hsl4⟩ := hrel
              by_cases hql : q < (ofShard T x T.length).length
              · obtain ⟨gg, hgg, hgl, hgs⟩ := ofShard_at T x T.length q hql
                obtain ⟨hm0, hm1⟩ := manyT_step T x q hql gg hgg hgl hgs
                obtain ⟨b2, off2, rfl, hb2, -⟩ := hsl4.at_ (by omega)
                have cg := hsl4.cell1 hql
                rw [hgg] at cg
                simp only [encI, List.getElem?_cons_zero] at cg
                have hgn : gg < n := by omega
                have hgn2 : decide ((n : Int) ≤ (gg : Int)) = false := by simp; omega
                have hgn3 : decide (n ≤ gg) = false := by simp; omega
                have hml : gg < (manyT T x q).length := by rw [manyT_len]; exact hgl
                have cm := hr.cell encI_len hml 0 (by omega)
                rw [hm0] at cm
                simp only [encI, List.getElem?_cons_zero, Nat.mul_one, Nat.add_zero] at cm
                have fm := hr.frozen
                have hr2 := hr.set encI_len hml 1 0 (.int .i64 1) (by omega) (by simp [encI])
                rw [hm1] at hr2
                simp only [Nat.mul_one, Nat.add_zero] at hr2
                have hne := hAg _ rfl
                have kg := Keep.set1 (p := gm) (i := gg) (Keep.refl _ wr) (.int .i64 1)
                have hsl5 := hsl4.keep kg (fun a ha e => hAg a ha e)
                have hoi5 : OO W p g n s k T _ := ⟨hoi.tab.keep kg hgm1 hgm2, hoi.len, hoi.inv, Keep.setNew hoi.keep hgmW (.int .i64 1)⟩
                clear hm0 hm1 hgs hgg hr hoi hsl4 kg
                generalize (ofShard T x T.length).length = zz at *
                go_wp2_with fail
                go_roundw
                case rel => exact ⟨q + 1, by omega, by go_num, hoi5, hr2, hsl5⟩
                case measure => first | (simp [intOf]; done) | (simp [intOf]; omega)
              · have hr5 : Flat encI wr gm (manyT T (x + 1) 0) 3 := by
                  rw [← manyT_next, show (ofShard T x T.length).length = q by omega]; exact hr
                clear hr hsl4
                generalize (ofShard T x T.length).length = zz at *
                go_wp2_with fail
                go_roundw
                case rel => exact ⟨x + 1, by omega, by go_num, hoi, hr5⟩
                case measure => first | (simp [intOf]; done) | (simp [intOf]; omega)
          · obtain rfl : x = s := by omega
            go_wp2_with fail
            go_loopw [19] (fun i wr2 => ∃ q : Nat, q ≤ n ∧ i = .int .i64 q ∧ wr2 = wr) (fun i _ => n - (intOf i).toNat)
            case atStart => exact ⟨0, Nat.zero_le _, rfl, rfl⟩
            case round =>
              obtain ⟨q, hq, rfl, rfl⟩ := hrel
              by_cases hqn : q < n
              · have hqT : q < T.length := by omega
                have cm := hr.cell encI_len (i := q) (by rw [manyT_len]; exact hqT) 0 (by omega)
                rw [manyT_all T x (fun i hi => (hoi.inv i hi).2.1) q hqT] at cm
                simp only [encI, List.getElem?_cons_zero, Nat.mul_one, Nat.add_zero] at cm
                go_wp2_with fail
                go_roundw
                case rel => exact ⟨q + 1, by omega, by go_num, by trivial⟩
                case measure => first | (simp [intOf]; done) | (simp [intOf]; omega)
              · have kk := hoi.keep
                clear hoi hr
                go_wp2_with fail
                go_ret
                exact ⟨by simp, kk.below (Nat.le_refl _) not_none⟩

theorem law_OwnerOne (n s : Int) (l : List Deed11) (v : Value) (W : World) (hn : I64 n) (hs : I64 s) (hv : rSlice 3 rDeed11 W l [v]) :
    Calls Try.prog 6 #[.int .i64 n, .int .i64 s, v] W fun e W' => e = .returned (.bool true) ∧ Below W.heap.size W W' := by
  by_cases h : n < 1 ∨ 16 < n ∨ s < 1 ∨ 8 < s
  · obtain ⟨A, m, c, hv, -, -⟩ := sl_of enc11 Deed11.ok deed11_of hv
    exact owner_one_no n s v W h ⟨_, _, _, hv⟩
  · obtain ⟨n, rfl⟩ : ∃ k : Nat, n = k := ⟨n.toNat, by omega⟩
    obtain ⟨s, rfl⟩ : ∃ k : Nat, s = k := ⟨s.toNat, by omega⟩
    exact owner_one_yes n s l v W (by omega) (by omega) (by omega) (by omega) hv
end Go.Proofs.Ytlnlbegcnhelmaa
