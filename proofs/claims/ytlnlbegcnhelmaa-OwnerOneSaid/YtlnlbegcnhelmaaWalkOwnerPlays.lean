/-
  The walk of the law OwnerPlays.
-/
import Derived.Test.YtlnlbegcnhelmaaOwner
namespace Go.Proofs.Ytlnlbegcnhelmaa
open Go.RowKit

theorem upGroups : ofShard (initT 3 2) 0 3 = [0, 2] := by decide
theorem ownerUp (w : World) : Calls Try.prog 27 #[] w fun e w' => e = .returned (.bool true) ∧ Keep none_ w w' := by
  have he := fun w a b => eq_err w a b
  go_enter Try.func27, Try.ntmps27
  go_wp2_with fail
  refine (owner_new _ 3 2 (by omega) (by omega) (by omega) (by omega)).mono ?_
  rintro e w1 ⟨p, g, rfl, k1, hp, hg, ht⟩
  go_wp2_with fail
  refine (owner_new_no _ 0 2 (by omega)).mono ?_
  rintro e w2 ⟨rfl, rfl⟩
  go_wp2_with fail
  refine (owner_groups ht 0).mono ?_
  rintro e w3 ⟨A, c, rfl, k3, hown⟩
  rw [initT_len, upGroups] at hown ⊢
  have ht := ht.keep k3 (fun e => e) (fun e => e)
  have k3 := k1.trans k3
  clear k1
  go_wp2_with fail
  refine (owner_of ht 1 (by rw [initT_len]; decide)).mono ?_
  rintro e w4 ⟨rfl, k4⟩
  have e1 : (initT 3 2)[1]'(by rw [initT_len]; decide) = ⟨1, 0, false⟩ := by simp [initT]
  rw [e1]
  have ht := ht.keep k4 (fun e => e) (fun e => e)
  replace k4' := k3.trans k4
  have hsl := Sl.of_own encI_len (by decide) (own_keep hown k4 (fun _ _ e => e))
  obtain ⟨b, off, rfl, hb, -⟩ := hsl.at_ (by decide)
  have c0 : w4.cell? ⟨b, off, none⟩ = some (.int .i64 0) := hsl.cell1 (i := 0) (by decide)
  have c1 : w4.cell? ⟨b, off + 1, none⟩ = some (.int .i64 2) := hsl.cell1 (i := 1) (by decide)
  clear k3 k4 hown
  go_wp2_with fail
  refine (owner_shards (ht.keep (Keep.alloc (Keep.refl none_ w4) (.cells #[.int .i64 1, .int .i64 0, .bool false] 54)) (fun e => e) (fun e => e))).mono ?_
  rintro e w5 ⟨rfl, rfl⟩
  go_wp2_with fail
  go_ret
  exact ⟨rfl, (by repeat' (first | assumption | with_reducible exact Keep.refl _ _ | with_reducible refine Keep.alloc ?_ _ | with_reducible refine Keep.drew ?_))⟩

def enc11 (d : Deed11) : List Value := d.cells
theorem deed11_of (w : World) (x : Deed11) (cs : List Value) (h : rDeed11 w x cs) : cs = enc11 x ∧ x.ok := h

set_option maxRecDepth 100000 in
theorem owner_plays_no (n s : Int) (v : Value) (W : World) (h : n < 1 ∨ 16 < n ∨ s < 1 ∨ 8 < s) (hv : ∃ A m c, v = .slice A m c) :
    Calls Try.prog 5 #[.int .i64 n, .int .i64 s, v] W fun e W' => e = .returned (.bool true) ∧ Below W.heap.size W W' := by
  obtain ⟨A, m, c, rfl⟩ := hv
  have he := fun w a b => eq_err w a b
  have c1 := Lib.hid (fun w => owner_new_no w n s h)
  by_cases h1 : n < 1
  · go_enter Try.func5, Try.ntmps5
    go_wp2_with fail
    refine (ownerUp _).mono ?_
    rintro e w1 ⟨rfl, k1⟩
    go_wp2_with fail
    refine (c1.out _).mono ?_
    rintro e w2 ⟨rfl, rfl⟩
    go_wp2_with fail
    go_ret
    exact ⟨rfl, k1.below (Nat.le_refl _) not_none⟩
  by_cases h2 : 16 < n
  · go_enter Try.func5, Try.ntmps5
    go_wp2_with fail
    refine (ownerUp _).mono ?_
    rintro e w1 ⟨rfl, k1⟩
    go_wp2_with fail
    refine (c1.out _).mono ?_
    rintro e w2 ⟨rfl, rfl⟩
    go_wp2_with fail
    go_ret
    exact ⟨rfl, k1.below (Nat.le_refl _) not_none⟩
  by_cases h3 : s < 1
  · go_enter Try.func5, Try.ntmps5
    go_wp2_with fail
    refine (ownerUp _).mono ?_
    rintro e w1 ⟨rfl, k1⟩
    go_wp2_with fail
    refine (c1.out _).mono ?_
    rintro e w2 ⟨rfl, rfl⟩
    go_wp2_with fail
    go_ret
    exact ⟨rfl, k1.below (Nat.le_refl _) not_none⟩
  · have h4 : 8 < s := by omega
    clear h
    go_enter Try.func5, Try.ntmps5
    go_wp2_with fail
    refine (ownerUp _).mono ?_
    rintro e w1 ⟨rfl, k1⟩
    go_wp2_with fail
    refine (c1.out _).mono ?_
    rintro e w2 ⟨rfl, rfl⟩
    go_wp2_with fail
    go_ret
    exact ⟨rfl, k1.below (Nat.le_refl _) not_none⟩

/-- What holds behind each of a law's deeds: the table, and the law's own list, in block gm. -/
structure OI (W : World) (p g gm n s k : Nat) (T : List Own) (w : World) : Prop where
  tab : TabAt w p g T s
  row : Flat Own.cells w gm T 54
  len : T.length = n
  ver : ∀ i (h : i < T.length), 0 ≤ T[i].version ∧ T[i].version ≤ k
  keep : Keep none_ W w
theorem OI.none {W : World} {p g gm n s k : Nat} {T : List Own} {w w' : World} (h : OI W p g gm n s k T w) (kk : Keep none_ w w') : OI W p g gm n s k T w' :=
  ⟨h.tab.keep kk (fun e => e) (fun e => e), h.row.keep kk (fun e => e), h.len, h.ver, h.keep.trans kk⟩
theorem OI.next {W : World} {p g gm n s k : Nat} {T : List Own} {w : World} (h : OI W p g gm n s k T w) : OI W p g gm n s (k + 1) T w :=
  ⟨h.tab, h.row, h.len, fun i hi => ⟨(h.ver i hi).1, by have := (h.ver i hi).2; omega⟩, h.keep⟩
/-- Both tables have one owner turned. -/
theorem OI.set {W : World} {p g gm n s k : Nat} {T : List Own} {w w' : World} (h : OI W p g gm n s k T w) (i : Nat) (hi : i < T.length) (y : Own) (hy0 : 0 ≤ y.version) (hy1 : y.version ≤ k + 1)
    (tab : TabAt w' p g (T.set i y) s) (row : Flat Own.cells w' gm (T.set i y) 54) (kk : Keep none_ W w') : OI W p g gm n s (k + 1) (T.set i y) w' :=
  ⟨tab, row, by rw [List.length_set]; exact h.len, fun j hj => by
    rw [List.length_set] at hj
    by_cases e : i = j
    · subst e; rw [List.getElem_set_self]; exact ⟨hy0, by omega⟩
    · rw [List.getElem_set_ne e]; have := h.ver j hj; exact ⟨this.1, by omega⟩, kk⟩

set_option maxHeartbeats 4000000 in
set_option maxRecDepth 100000 in
theorem owner_plays_yes (n s : Nat) (l : List Deed11) (v : Value) (W : World) (h1 : 1 ≤ n) (h2 : n ≤ 16) (h3 : 1 ≤ s) (h4 : s ≤ 8) (hv : rSlice 3 rDeed11 W l [v]) :
    Calls Try.prog 5 #[.int .i64 n, .int .i64 s, v] W fun e W' => e = .returned (.bool true) ∧ Below W.heap.size W W' := by
  obtain ⟨A, m, c, rfl, hsl, hok⟩ := sl_of enc11 Deed11.ok deed11_of hv
  clear hv
  obtain rfl := hsl.len
  have hnc := hsl.2.2.1
  have hlc := hsl.2.1
  unfold maxLen at hnc
  have n1 : ¬ (16 < (n : Int)) := by omega
  have n2 : ¬ (8 < (s : Int)) := by omega
  obtain ⟨i0, hi, hz0, hz1, hz2⟩ := info_parts ownInfo
  have hmk := fun w => run_make w 52 54 i0 _ Try.underlying52 hi hz0 .i64 .i64 (n : Int) (n : Int) (by omega) (Int.le_refl _) (by rw [hz2]; omega) (by omega)
  simp only [Int.toNat_natCast] at hmk
  rw [hz1] at hmk
  have hmf := made_flat (enc := Own.cells) own_cells_len (by decide) #[.int .i64 0, .int .i64 0, .bool false] Own.zero rfl n
  rw [← partT_zero n s] at hmf
  simp only [Value.cells] at hmk
  generalize madeCells #[.int .i64 0, .int .i64 0, .bool false] (n * 3) = mc at *
  clear hi hz0 hz1 hz2
  replace hmf := Lib.hid hmf
  go_enter Try.func5, Try.ntmps5
  go_wp2_with fail
  refine (ownerUp _).mono ?_
  rintro e w1 ⟨rfl, k1⟩
  go_wp2_with fail
  refine (owner_new _ n s h1 h2 h3 h4).mono ?_
  rintro e w2 ⟨p, g, rfl, k2, hp, hg, ht⟩
  have k2 := k1.trans k2
  have hpW := Nat.le_trans k1.size hp
  have hgW := Nat.le_trans k1.size hg
  clear k1 hp hg
  by_cases h200 : 100 < l.length
  · have h200' : decide ((100 : Int) < l.length) = true := by simp; omega
    go_wp2_with fail
    go_ret
    exact ⟨by simp, k2.below (Nat.le_refl _) not_none⟩
  · have h200' : decide ((100 : Int) < l.length) = false := by simp; omega
    go_wp2_with fail
    clear hmk
    have hpg : p < w2.heap.size := ht.self.lt
    have hgg : g < w2.heap.size := ht.row.lt
    have hr0 := Flat.new w2 mc 54 (partT n s 0) hmf.out
    have kn : Keep none_ w2 (w2.alloc (.cells mc 54)) := (by repeat' (first | assumption | with_reducible exact Keep.refl _ _ | with_reducible refine Keep.alloc ?_ _ | with_reducible refine Keep.drew ?_))
    have ht := ht.keep kn (fun e => e) (fun e => e)
    replace k2 := k2.trans kn
    obtain ⟨gm, hgm⟩ : ∃ gm, gm = w2.heap.size := ⟨_, rfl⟩
    have hgmW : W.heap.size ≤ gm := by rw [hgm]; have := k2.size; omega
    have hgp : gm ≠ p := by omega
    have hgg2 : gm ≠ g := by omega
    rw [← hgm] at hr0 ⊢
    clear kn hmf hpg hgg hgm
    generalize w2.alloc _ = w3 at *
    go_loopw [11] (fun i wr => ∃ j : Nat, j ≤ n ∧ i = .int .i64 j ∧ Keep none_ W wr ∧ TabAt wr p g (initT n s) s ∧ Flat Own.cells wr gm (partT n s j) 54)
      (fun i _ => n - (intOf i).toNat)
    case atStart => exact ⟨0, Nat.zero_le _, rfl, k2, ht, hr0⟩
    case round =>
      clear k2 ht hr0
      obtain ⟨j, hj, rfl, kk, ht, hr⟩ := hrel
      by_cases hlt : j < n
      · have s2 : (j : Int).tmod (s : Int) = ((j % s : Nat) : Int) := by rw [Int.ofNat_tmod]
        have s3 : ¬ ((s : Int) = 0) := by omega
        have s7 : ¬ (s = 0) := by omega
        have hjl : j < (partT n s j).length := by rw [partT_len]; exact hlt
        have c0 : wr.cell? ⟨gm, j * 3, none⟩ = some _ := (hr.cell own_cells_len hjl 0 (by omega)).trans (List.getElem?_eq_getElem (by simp [Own.cells]))
        have f0 := hr.frozen
        go_wp2_with fail
        go_roundw
        case rel =>
          refine ⟨j + 1, by omega, by go_num, Keep.setNew kk hgmW _, ht.keep (S := one gm) (Keep.set1 (Keep.refl _ _) _) (fun e => hgp e.symm) (fun e => hgg2 e.symm), ?_⟩
          have := hr.set own_cells_len hjl ⟨((j % s : Nat) : Int), 0, false⟩ 0 (.int .i64 ((j % s : Nat) : Int)) (by omega) (by rw [partT_get n s j hlt]; rfl)
          rw [partT_set n s j hlt] at this
          exact this
        case measure => simp [intOf]; omega
      · obtain rfl : j = n := by omega
        rw [partT_all] at hr
        have hoi : OI W p g gm j s 0 (initT j s) wr := ⟨ht, hr, initT_len _ _, fun i hi => by simp [initT], kk⟩
        clear ht hr kk hlt hj
        go_wp2_with fail
        go_loopw [12, 13, 14, 15] (fun i _ _ _ wr => ∃ (k : Nat) (T : List Own), k ≤ l.length ∧ i = .int .i64 k ∧ OI W p g gm j s k T wr)
          (fun i _ _ _ _ => l.length - (intOf i).toNat)
        case atStart => exact ⟨0, _, Nat.zero_le _, rfl, hoi⟩
        case round =>
          clear hoi
          obtain ⟨k, T, hk, rfl, hoi⟩ := hrel
          by_cases hlt : k < l.length
          · obtain ⟨b, off, rfl, hbl, -⟩ := hsl.at_ (by omega)
            have e0 : wr.cell? ⟨b, off + k * 3, none⟩ = some (.bool l[k].publish) := (hsl.keep hoi.keep Off.none_).cellk hlt 0 (by omega)
            have e1 : wr.cell? ⟨b, off + k * 3 + 1, none⟩ = some (.int .i64 l[k].group) := (hsl.keep hoi.keep Off.none_).cellk hlt 1 (by omega)
            have e2 : wr.cell? ⟨b, off + k * 3 + 2, none⟩ = some (.int .i64 l[k].shard) := (hsl.keep hoi.keep Off.none_).cellk hlt 2 (by omega)
            generalize l[k].publish = pu at *
            generalize hgr : l[k].group = gr at *
            generalize hsd : l[k].shard = sd at *
            have hT := hoi.len
            obtain ⟨hg1, hg2⟩ : I64 gr ∧ I64 sd := by have := hok l[k] (List.getElem_mem _); exact ⟨hgr ▸ this.1, hsd ▸ this.2⟩
            have k1 : Keep none_ wr (wr.alloc (.cells #[.bool pu, .int .i64 gr, .int .i64 sd] 56)) := (by repeat' (first | assumption | with_reducible exact Keep.refl _ _ | with_reducible refine Keep.alloc ?_ _ | with_reducible refine Keep.drew ?_))
            have hw1 : wr.heap.size ≠ gm := fun e => by have := hoi.row.lt; omega
            have hw2 : gm ≠ wr.heap.size := fun e => hw1 e.symm
            replace hoi := hoi.none k1
            have hx1 := At.new wr #[.bool pu, .int .i64 gr, .int .i64 sd] 56
            clear k1 hgr hsd
            by_cases hin : 0 ≤ gr ∧ gr < j
            · obtain ⟨i, rfl⟩ : ∃ i : Nat, gr = i := ⟨gr.toNat, by omega⟩
              have hij : i < T.length := by omega
              have d1 : decide ((i : Int) < (j : Int)) = true := by simp; omega
              have hv0 := (hoi.ver i hij).1
              have hv1 := (hoi.ver i hij).2
              have cm : ∀ x, T[i].moving = x → (wr.alloc (.cells #[.bool pu, .int .i64 i, .int .i64 sd] 56)).cell? ⟨gm, i * 3 + 2, none⟩ = some (.bool x) := fun x hx => by rw [hoi.row.cell own_cells_len hij 2 (by omega), ← hx]; rfl
              have fm := hoi.row.frozen
              cases pu
              · have kg := Keep.set1 (p := gm) (i := i * 3 + 2) (Keep.refl _ (wr.alloc (.cells #[.bool false, .int .i64 i, .int .i64 sd] 56))) (.bool true)
                have tab2 := hoi.tab.keep kg (fun e => hgp e.symm) (fun e => hgg2 e.symm)
                have kW : Keep none_ W _ := Keep.setNew (i := i * 3 + 2) hoi.keep hgmW (.bool true)
                have row2 := hoi.row.set own_cells_len hij { T[i] with moving := true } 2 (.bool true) (by omega) rfl
                cases hm : T[i].moving
                · have c1 := Lib.hid (owner_freeze tab2 i hij hm)
                  replace cm := cm _ hm
                  clear hx1 kg
                  go_wp2_with fail
                  refine c1.out.mono ?_
                  rintro e w4 ⟨rfl, k4, tab4⟩
                  have row4 := row2.keep k4 hgg2
                  have kW4 := Keep.fresh kW k4 (fun z hz e => by unfold one at e; omega)
                  replace hoi := hoi.set i hij { T[i] with moving := true } hv0 (by show T[i].version ≤ _; omega) tab4 row4 kW4
                  clear row4 kW4 tab4 k4 kW row2 tab2 cm fm c1
                  go_wp2_with fail
                  refine (code_nil _).mono ?_
                  rintro e w5 ⟨rfl, rfl⟩
                  go_wp2_with fail
                  go_roundw
                  case rel => exact ⟨k + 1, _, by omega, by go_num, hoi⟩
                  case measure => simp [intOf]; omega
                · have c1 := Lib.hid (owner_freeze_busy tab2 i hij hm)
                  replace cm := cm _ hm
                  have hself : T.set i { T[i] with moving := true } = T := by
                    rw [show ({ T[i] with moving := true } : Own) = T[i] by rw [← hm]]
                    exact List.set_getElem_self _
                  rw [hself] at row2
                  replace hoi : OI W p g gm j s (k + 1) T _ := (OI.mk tab2 row2 hoi.len hoi.ver kW).next
                  clear hx1 kg tab2 kW row2 hself hm
                  go_wp2_with fail
                  refine c1.out.mono ?_
                  rintro e w4 ⟨rfl, rfl⟩
                  go_wp2_with fail
                  refine (code_err _ 7 (by omega) (by omega)).mono ?_
                  rintro e w5 ⟨rfl, rfl⟩
                  go_wp2_with fail
                  go_roundw
                  case rel => exact ⟨k + 1, _, by omega, by go_num, hoi⟩
                  case measure => simp [intOf]; omega
              · by_cases hs : 0 ≤ sd ∧ sd < s
                · obtain ⟨a, rfl⟩ : ∃ a : Nat, sd = a := ⟨sd.toNat, by omega⟩
                  have d2 : decide ((s : Int) ≤ (a : Int)) = false := by simp; omega
                  cases hm : T[i].moving
                  · have c1 := Lib.hid (owner_publish_busy hoi.tab i a hij (by omega) hm)
                    replace cm := cm _ hm
                    clear hx1 hm
                    go_wp2_with fail
                    refine c1.out.mono ?_
                    rintro e w4 ⟨rfl, rfl⟩
                    go_wp2_with fail
                    refine (code_err _ 7 (by omega) (by omega)).mono ?_
                    rintro e w5 ⟨rfl, rfl⟩
                    go_wp2_with fail
                    go_roundw
                    case rel => exact ⟨k + 1, T, by omega, by go_num, hoi.next⟩
                    case measure => simp [intOf]; omega
                  · replace cm := cm _ hm
                    have hwr : IntKind.i64.wrap (T[i].version + 1) = T[i].version + 1 := by rw [IntKind.wrap_i64]; omega
                    go_wp2_with fail
                    generalize wr.alloc _ = w1 at *
                    obtain ⟨ι, hne, f, hf0, hfk, hfa⟩ := class_of none_ w1
                    have cf : ∀ n i, (f n).cell? ⟨_, i, none⟩ = _ := fun n => At.cell (Keep.at (hfk n) hx1 (fun e => e))
                    have cv : ∀ n, (f n).cell? ⟨gm, i * 3 + 1, none⟩ = some (.int .i64 T[i].version) := fun n => (hoi.row.keep (hfk n) (fun e => e)).cell own_cells_len hij 1 (by omega)
                    refine wp_region_class_tail f 14 (by kernel_rfl) (by kernel_rfl) hf0 ?_
                    simp only [List.take_succ_cons, List.take_zero, List.drop_succ_cons, List.drop_zero]
                    repeat (go_big_quiet_step (fail))
                    refine wpQuiet_nil ?_
                    intro mm
                    replace hoi := hoi.none (hfk mm)
                    replace hx1 := Keep.at (hfk mm) hx1 (fun e => e)
                    clear cf cv hf0 hfk hfa cm fm
                    generalize f mm = w2 at *
                    have cx := At.cell hx1
                    have c0 := hoi.row.cell own_cells_len hij 0 (by omega)
                    have c1 := hoi.row.cell own_cells_len hij 1 (by omega)
                    have c2 := hoi.row.cell own_cells_len hij 2 (by omega)
                    have f0 := hoi.row.frozen
                    have r1 := hoi.row.set own_cells_len hij { T[i] with shard := a } 0 (.int .i64 a) (by omega) rfl
                    have r2 := r1.set own_cells_len (by rw [List.length_set]; exact hij) ⟨a, T[i].version + 1, T[i].moving⟩ 1 (.int .i64 (T[i].version + 1)) (by omega) (by rw [List.getElem_set_self]; rfl)
                    have r3 := r2.set own_cells_len (by rw [List.length_set, List.length_set]; exact hij) ⟨a, T[i].version + 1, false⟩ 2 (.bool false) (by omega) (by rw [List.getElem_set_self]; rfl)
                    rw [List.set_set, List.set_set] at r3
                    have kg := Keep.set1 (p := gm) (i := i * 3 + 2) (Keep.set1 (p := gm) (i := i * 3 + 1) (Keep.set1 (p := gm) (i := i * 3 + 0) (Keep.refl _ w2) (.int .i64 a)) (.int .i64 (T[i].version + 1))) (.bool false)
                    have tab2 := hoi.tab.keep kg (fun e => hgp e.symm) (fun e => hgg2 e.symm)
                    have kW : Keep none_ W _ := Keep.setNew (i := i * 3 + 2) (Keep.setNew (i := i * 3 + 1) (Keep.setNew (i := i * 3 + 0) hoi.keep hgmW (.int .i64 a)) hgmW (.int .i64 (T[i].version + 1))) hgmW (.bool false)
                    have cc := Lib.hid (owner_publish tab2 i a hij (by omega) hm hv0 (by omega))
                    simp only [Own.cells, List.getElem?_cons_zero, List.getElem?_cons_succ, Nat.add_zero] at c0 c1 c2 cc tab2 kW r3
                    clear r1 r2 kg hm hwr
                    go_wp2_with fail
                    refine cc.out.mono ?_
                    rintro e w4 ⟨rfl, k4, tab4⟩
                    have row4 := r3.keep k4 hgg2
                    have kW4 := Keep.fresh kW k4 (fun z hz e => by unfold one at e; omega)
                    replace hoi := hoi.set i hij ⟨a, T[i].version + 1, false⟩ (by show 0 ≤ T[i].version + 1; omega) (by show T[i].version + 1 ≤ _; omega) tab4 row4 kW4
                    clear row4 kW4 tab4 k4 kW r3 tab2 c0 c1 c2 f0 cc hx1 cx
                    go_wp2_with fail
                    refine (code_nil _).mono ?_
                    rintro e w5 ⟨rfl, rfl⟩
                    go_wp2_with fail
                    go_roundw
                    case rel => exact ⟨k + 1, _, by omega, by go_num, hoi⟩
                    case measure => simp [intOf]; omega
                · have c1 := Lib.hid (owner_publish_arg hoi.tab i sd hij (by omega))
                  by_cases hs0 : sd < 0
                  · go_wp2_with fail
                    refine c1.out.mono ?_
                    rintro e w4 ⟨rfl, rfl⟩
                    go_wp2_with fail
                    refine (code_err _ 1 (by omega) (by omega)).mono ?_
                    rintro e w5 ⟨rfl, rfl⟩
                    go_wp2_with fail
                    go_roundw
                    case rel => exact ⟨k + 1, T, by omega, by go_num, hoi.next⟩
                    case measure => simp [intOf]; omega
                  · have d2 : decide ((s : Int) ≤ sd) = true := by simp; omega
                    go_wp2_with fail
                    refine c1.out.mono ?_
                    rintro e w4 ⟨rfl, rfl⟩
                    go_wp2_with fail
                    refine (code_err _ 1 (by omega) (by omega)).mono ?_
                    rintro e w5 ⟨rfl, rfl⟩
                    go_wp2_with fail
                    go_roundw
                    case rel => exact ⟨k + 1, T, by omega, by go_num, hoi.next⟩
                    case measure => simp [intOf]; omega
            · have hout : gr < 0 ∨ (T.length : Int) ≤ gr := by omega
              have c1 := Lib.hid (owner_publish_no hoi.tab gr sd hout)
              have c2 := Lib.hid (owner_freeze_no hoi.tab gr hout)
              by_cases hg0 : 0 ≤ gr
              · have d1 : decide (gr < (j : Int)) = false := by simp; omega
                cases pu
                · go_wp2_with fail
                  refine c2.out.mono ?_
                  rintro e w4 ⟨rfl, rfl⟩
                  go_wp2_with fail
                  refine (code_err _ 6 (by omega) (by omega)).mono ?_
                  rintro e w5 ⟨rfl, rfl⟩
                  go_wp2_with fail
                  go_roundw
                  case rel => exact ⟨k + 1, T, by omega, by go_num, hoi.next⟩
                  case measure => simp [intOf]; omega
                · go_wp2_with fail
                  refine c1.out.mono ?_
                  rintro e w4 ⟨rfl, rfl⟩
                  go_wp2_with fail
                  refine (code_err _ 6 (by omega) (by omega)).mono ?_
                  rintro e w5 ⟨rfl, rfl⟩
                  go_wp2_with fail
                  go_roundw
                  case rel => exact ⟨k + 1, T, by omega, by go_num, hoi.next⟩
                  case measure => simp [intOf]; omega
              · cases pu
                · go_wp2_with fail
                  refine c2.out.mono ?_
                  rintro e w4 ⟨rfl, rfl⟩
                  go_wp2_with fail
                  refine (code_err _ 6 (by omega) (by omega)).mono ?_
                  rintro e w5 ⟨rfl, rfl⟩
                  go_wp2_with fail
                  go_roundw
                  case rel => exact ⟨k + 1, T, by omega, by go_num, hoi.next⟩
                  case measure => simp [intOf]; omega
                · go_wp2_with fail
                  refine c1.out.mono ?_
                  rintro e w4 ⟨rfl, rfl⟩
                  go_wp2_with fail
                  refine (code_err _ 6 (by omega) (by omega)).mono ?_
                  rintro e w5 ⟨rfl, rfl⟩
                  go_wp2_with fail
                  go_roundw
                  case rel => exact ⟨k + 1, T, by omega, by go_num, hoi.next⟩
                  case measure => simp [intOf]; omega
          · have hTn1 : T.length ≤ j := by rw [hoi.len]; omega
            have hTn2 : j ≤ T.length := by rw [hoi.len]; omega
            go_wp2_with fail
            clear hlt hk
            go_loopw [16, 17, 18] (fun i _ _ wr => ∃ x : Int, -1 ≤ x ∧ x ≤ j + 1 ∧ i = .int .i64 x ∧ OI W p g gm j s k T wr)
              (fun i _ _ _ => (j + 1 - intOf i).toNat)
            case atStart => exact ⟨-1, by omega, by omega, rfl, hoi⟩
            case round =>
              clear hoi
              obtain ⟨x, hx1, hx2, rfl, hoi⟩ := hrel
              by_cases hxj : x ≤ j
              · by_cases hx0 : x < 0
                · have c1 := Lib.hid (owner_of_no hoi.tab x (by omega))
                  go_wp2_with fail
                  refine c1.out.mono ?_
                  rintro e w4 ⟨rfl, k4⟩
                  simp only [Own.zero, Own.cells]
                  replace hoi := hoi.none (k4.trans (Keep.alloc (Keep.refl _ w4) (.cells #[.int .i64 0, .int .i64 0, .bool false] 54)))
                  clear k4 c1
                  go_wp2_with fail
                  go_roundw
                  case rel => exact ⟨x + 1, by omega, by omega, by go_num, hoi⟩
                  case measure => first | (simp [intOf]; done) | (simp [intOf]; omega)
                · by_cases hxe : x = j
                  · subst hxe
                    have c1 := Lib.hid (owner_of_no hoi.tab (j : Int) (by omega))
                    go_wp2_with fail
                    refine c1.out.mono ?_
                    rintro e w4 ⟨rfl, k4⟩
                    simp only [Own.zero, Own.cells]
                    replace hoi := hoi.none (k4.trans (Keep.alloc (Keep.refl _ w4) (.cells #[.int .i64 0, .int .i64 0, .bool false] 54)))
                    clear k4 c1
                    go_wp2_with fail
                    go_roundw
                    case rel => exact ⟨(j : Int) + 1, by omega, by omega, by go_num, hoi⟩
                    case measure => first | (simp [intOf]; done) | (simp [intOf]; omega)
                  · obtain ⟨i, rfl⟩ : ∃ i : Nat, x = i := ⟨x.toNat, by omega⟩
                    have hiT : i < T.length := by omega
                    have hne : ((i : Int) == (j : Int)) = false := by first | (simp; done) | (simp; omega)
                    have c1 := Lib.hid (owner_of hoi.tab i hiT)
                    go_wp2_with fail
                    refine c1.out.mono ?_
                    rintro e w4 ⟨rfl, k4⟩
                    replace hoi := hoi.none k4
                    have kb := Keep.alloc (Keep.refl none_ w4) (.cells T[i].cells.toArray 54)
                    have hx := At.new w4 T[i].cells.toArray 54
                    replace hoi := hoi.none kb
                    clear k4 c1 kb
                    go_wp2_with fail
                    generalize w4.alloc _ = w5 at *
                    obtain ⟨ι, hne, f, hf0, hfk, hfa⟩ := class_of none_ w5
                    have cf : ∀ n i, (f n).cell? ⟨_, i, none⟩ = _ := fun n => At.cell (Keep.at (hfk n) hx (fun e => e))
                    have cv : ∀ n l, l < 3 → (f n).cell? ⟨gm, i * 3 + l, none⟩ = _ := fun n l hl => (hoi.row.keep (hfk n) (fun e => e)).cell own_cells_len hiT l hl
                    have cv0 := fun n => cv n 0 (by omega)
                    have cv1 := fun n => cv n 1 (by omega)
                    have cv2 := fun n => cv n 2 (by omega)
                    clear cv
                    simp only [Own.cells, List.getElem?_cons_zero, List.getElem?_cons_succ, Nat.add_zero] at cv0 cv1 cv2 cf
                    refine wp_region_class f (by kernel_rfl) (by kernel_rfl) hf0 ?_
                    repeat (go_big_quiet_step (fail))
                    refine wpQuiet_nil ?_
                    rintro _ ⟨nn, rfl⟩
                    replace hoi := hoi.none (hfk nn)
                    clear cf cv0 cv1 cv2
                    go_wp2_with fail
                    go_roundw
                    case rel => exact ⟨(i : Int) + 1, by omega, by omega, by go_num, hoi⟩
                    case measure => first | (simp [intOf]; done) | (simp [intOf]; omega)
              · clear hx1 hx2
                go_wp2_with fail
                go_loopw [19, 20, 21, 22] (fun i _ _ _ wr => ∃ x : Int, -1 ≤ x ∧ x ≤ s + 1 ∧ i = .int .i64 x ∧ OI W p g gm j s k T wr)
                  (fun i _ _ _ _ => (s + 1 - intOf i).toNat)
                case atStart => exact ⟨-1, by omega, by omega, rfl, hoi⟩
                case round =>
                  clear hoi hxj
                  obtain ⟨x, hx1, hx2, rfl, hoi⟩ := hrel
                  by_cases hxs : x ≤ s
                  · have c1 := Lib.hid (owner_groups hoi.tab x)
                    go_wp2_with fail
                    refine c1.out.mono ?_
                    rintro e w4 ⟨A2, c2, rfl, k4, hown⟩
                    have hoi4 := hoi.none k4
                    have hsl4 := Sl.of_own encI_len (by decide) hown
                    have hGl := ofShard_le T x T.length
                    clear k4 c1 hown hoi
                    go_wp2_with fail
                    go_loopw [21, 22] (fun nn i wr => ∃ q : Nat, q ≤ j ∧ i = .int .i64 q ∧ nn = .int .i64 ((ofShard T x q).length : Nat) ∧ wr = w4) (fun _ i _ => j - (intOf i).toNat)
                    case atStart => exact ⟨0, Nat.zero_le _, rfl, rfl, rfl⟩
                    case round =>
                      obtain ⟨q, hq, rfl, rfl, rfl⟩ := hrel
                      by_cases hqj : q < j
                      · have hqT : q < T.length := by omega
                        have cq := hoi4.row.cell own_cells_len hqT 0 (by omega)
                        simp only [Own.cells, List.getElem?_cons_zero, Nat.add_zero] at cq
                        by_cases hs : T[q].shard = x
                        · have hsb : (T[q].shard != x) = false := by simp [hs]
                          obtain ⟨hl, hg⟩ := ofShard_next T x q hqT hs
                          have hy := ofShard_yes T x q hqT hs
                          have hyl : (ofShard T x (q + 1)).length = (ofShard T x q).length + 1 := by rw [hy]; simp
                          obtain ⟨b2, off2, rfl, hb2, -⟩ := hsl4.at_ (by omega)
                          have cg := hsl4.cell1 hl
                          rw [hg] at cg
                          simp only [encI, List.getElem?_cons_zero] at cg
                          have hll : decide (((ofShard T x T.length).length : Int) ≤ ((ofShard T x q).length : Int)) = false := by simp; omega
                          have hll2 : decide ((ofShard T x T.length).length ≤ (ofShard T x q).length) = false := by simp; omega
                          have hll3 : ¬ ((ofShard T x T.length).length ≤ (ofShard T x q).length) := by omega
                          replace hyl := Lib.hid hyl
                          clear hy hg hs
                          have hq1 := ofShard_le T x q
                          generalize (ofShard T x q).length = z at *
                          generalize (ofShard T x T.length).length = zz at *
                          go_wp2_with fail
                          go_roundw
                          case rel => exact ⟨q + 1, by omega, by go_num, by rw [hyl.out]; go_num, by trivial⟩
                          case measure => first | (simp [intOf]; done) | (simp [intOf]; omega)
                        · have hsb : (T[q].shard != x) = true := by simp [hs]
                          have hy := ofShard_not T x q hqT hs
                          replace hy := Lib.hid hy
                          clear hs
                          go_wp2_with fail
                          go_roundw
                          case rel => exact ⟨q + 1, by omega, by go_num, by rw [hy.out], by trivial⟩
                          case measure => first | (simp [intOf]; done) | (simp [intOf]; omega)
                      · obtain rfl : q = j := by omega
                        have hqe : (ofShard T x q).length = (ofShard T x T.length).length := by rw [hoi4.len]
                        rw [hqe]
                        generalize (ofShard T x T.length).length = zz at *
                        clear hqe
                        go_wp2_with fail
                        go_roundw
                        case rel => exact ⟨x + 1, by omega, by omega, by go_num, hoi4⟩
                        case measure => first | (simp [intOf]; done) | (simp [intOf]; omega)
                  · have c1 := Lib.hid (owner_shards hoi.tab)
                    have kk := hoi.keep
                    clear hoi
                    go_wp2_with fail
                    refine c1.out.mono ?_
                    rintro e w4 ⟨rfl, rfl⟩
                    go_wp2_with fail
                    go_ret
                    exact ⟨by simp, kk.below (Nat.le_refl _) not_none⟩

theorem law_OwnerPlays (n s : Int) (l : List Deed11) (v : Value) (W : World) (hn : I64 n) (hs : I64 s) (hv : rSlice 3 rDeed11 W l [v]) :
    Calls Try.prog 5 #[.int .i64 n, .int .i64 s, v] W fun e W' => e = .returned (.bool true) ∧ Below W.heap.size W W' := by
  by_cases h : n < 1 ∨ 16 < n ∨ s < 1 ∨ 8 < s
  · obtain ⟨A, m, c, hv, -, -⟩ := sl_of enc11 Deed11.ok deed11_of hv
    exact owner_plays_no n s v W h ⟨_, _, _, hv⟩
  · obtain ⟨n, rfl⟩ : ∃ k : Nat, n = k := ⟨n.toNat, by omega⟩
    obtain ⟨s, rfl⟩ : ∃ k : Nat, s = k := ⟨s.toNat, by omega⟩
    exact owner_plays_yes n s l v W (by omega) (by omega) (by omega) (by omega) hv
end Go.Proofs.Ytlnlbegcnhelmaa
