/-
  The walk of the law BoxKeeps.
-/
import Derived.Test.YtlnlbegcnhelmaaWalkBoxPlays
namespace Go.Proofs.Ytlnlbegcnhelmaa
open Go.RowKit

theorem row_string : Row Try.prog 22 9 1 := row_of Try.underlying22 info_string rfl (by decide) (by decide)

theorem box_keeps_no (room : Int) (v u : Value) (W : World) (h : room < 1 ∨ 16 < room) (hv : ∃ A n c, v = .slice A n c) (hu : ∃ A n c, u = .slice A n c) :
    Calls Try.prog 3 #[.int .i64 room, v, u] W fun e W' => e = .returned (.bool true) ∧ Below W.heap.size W W' := by
  obtain ⟨A, n, c, rfl⟩ := hv
  obtain ⟨A2, n2, c2, rfl⟩ := hu
  have he := fun w a b => eq_err w a b
  have c1 := Lib.hid (fun w => box_new_no_string w room h)
  clear h
  go_enter Try.func3, Try.ntmps3
  go_wp2_with fail
  refine (boxUp _).mono ?_
  rintro e w1 ⟨rfl, k1⟩
  go_wp2_with fail
  refine (c1.out _).mono ?_
  rintro e w2 ⟨rfl, rfl⟩
  go_wp2_with fail
  go_ret
  exact ⟨rfl, k1.below (Nat.le_refl _) not_none⟩

set_option maxHeartbeats 4000000 in
set_option maxRecDepth 100000 in
theorem box_keeps_yes (room : Nat) (l : List ByteArray) (v : Value) (al : List Int) (u : Value) (W : World) (h1 : 1 ≤ room) (h2 : room ≤ 16) (hv : rSlice 1 rStr W l [v]) (hu : rSlice 1 rInt W al [u]) :
    Calls Try.prog 3 #[.int .i64 room, v, u] W fun e W' => e = .returned (.bool true) ∧ Below W.heap.size W W' := by
  obtain ⟨A, n, c, rfl, hsl, -⟩ := sl_of encS _ rStr_of hv
  obtain ⟨A2, n2, c2, rfl, hsl2, -⟩ := sl_of encI _ rInt_of hu
  clear hv hu
  obtain rfl := hsl.len
  obtain rfl := hsl2.len
  have hnc := hsl.2.2.1
  have hlc := hsl.2.1
  have hnc2 := hsl2.2.2.1
  have hlc2 := hsl2.2.1
  unfold maxLen at hnc hnc2
  go_enter Try.func3, Try.ntmps3
  go_wp2_with fail
  refine (boxUp _).mono ?_
  rintro e w1 ⟨rfl, k1⟩
  go_wp2_with fail
  refine (box_new_string _ room h1 h2).mono ?_
  rintro e w2 ⟨p, g, rfl, k2, hp, hg, hb⟩
  have k2 := k1.trans k2
  have hpW := Nat.le_trans k1.size hp
  have hgW := Nat.le_trans k1.size hg
  clear k1 hp hg
  by_cases h200 : 100 < l.length
  · have h200' : decide ((100 : Int) < l.length) = true := by simp; omega
    go_wp2_with fail
    go_ret
    exact ⟨by simp, k2.below (Nat.le_refl _) not_none⟩
  · have h200' : decide ((100 : Int) < l.length) = false := by simp; omega
    by_cases hla : al.length < l.length
    · have hla' : decide ((al.length : Int) < l.length) = true := by simp; omega
      go_wp2_with fail
      go_ret
      exact ⟨by simp, k2.below (Nat.le_refl _) not_none⟩
    · have hla' : decide ((al.length : Int) < l.length) = false := by simp; omega
      go_wp2_with fail
      obtain ⟨base, hbase⟩ : ∃ base, base = w2.heap.size := ⟨_, rfl⟩
      have hbs : base ≤ w2.heap.size := by omega
      have hpb : p < base := by rw [hbase]; exact hb.lt.1
      have hgb : g < base := by rw [hbase]; exact hb.lt.2
      have hWb : W.heap.size ≤ base := by rw [hbase]; exact k2.size
      clear hbase
      go_loopw [10, 11, 12, 13, 14, 15] (fun nx pt i _ _ _ wr => ∃ (k nn : Nat) (ps : List ByteArray), k ≤ l.length ∧ ps.length ≤ k ∧ nn ≤ ps.length ∧ nx = .int .i64 nn ∧ i = .int .i64 k ∧ wr.ownsRow base 9 1 pt ps.length (flat encS ps) ∧ Box_string wr p g room (ps.drop nn) false ∧ Keep none_ W wr ∧ base ≤ wr.heap.size)
        (fun _ _ i _ _ _ _ => l.length - (intOf i).toNat)
      case atStart => exact ⟨0, 0, [], Nat.zero_le _, Nat.le_refl _, Nat.le_refl _, rfl, rfl, World.ownsRow_nil _ _ _ _, hb, k2, hbs⟩
      case round =>
        clear hb k2 hbs
        obtain ⟨k, nn, ps, hk, hpk, hnp, rfl, rfl, hown, hb, kk, hbs⟩ := hrel
        by_cases hlt : k < l.length
        · obtain ⟨b, off, rfl, hbl, -⟩ := hsl.at_ (by omega)
          obtain ⟨b2, off2, rfl, hbl2, -⟩ := hsl2.at_ (by omega)
          have hka : k < al.length := by omega
          have e0 : W.cell? ⟨b, off + k, none⟩ = some (.string l[k]) := hsl.cell1 hlt
          have e1 : W.cell? ⟨b2, off2 + k, none⟩ = some (.int .i64 al[k]) := hsl2.cell1 hka
          generalize l[k] = x at *
          generalize al[k] = a at *
          obtain ⟨A3, c3, rfl⟩ := own_form hown
          obtain ⟨wo, rfl⟩ : ∃ wo : World, wo = wr := ⟨_, rfl⟩
          go_wp2_with fail
          go_loopw [10, 13, 14, 15] (fun nx j _ _ wr => ∃ (nn j' : Nat), j' ≤ 20 ∧ nn ≤ ps.length ∧ nx = .int .i64 nn ∧ j = .int .i64 j' ∧ wr.ownsRow base 9 1 (.slice A3 ps.length c3) ps.length (flat encS ps) ∧ Box_string wr p g room (ps.drop nn) false ∧ Keep none_ W wr ∧ base ≤ wr.heap.size)
            (fun _ j _ _ _ => 20 - (intOf j).toNat)
          case atStart => exact ⟨nn, 0, Nat.zero_le _, hnp, rfl, rfl, hown, hb, kk, hbs⟩
          case round =>
            clear hown hb kk hbs hnp
            obtain ⟨nn, j, hj, hnp, rfl, rfl, hown, hb, kk, hbs⟩ := hrel
            have e1w := ((kk.below (Nat.le_refl _) not_none).cell hbl2).trans e1
            by_cases hja : (j : Int) < a
            · have hja' : decide ((j : Int) < a) = true := by simpa using hja
              by_cases hj20 : j < 20
              · by_cases hn : nn < ps.length
                · have hn' : decide ((nn : Int) < ps.length) = true := by simpa using hn
                  have hd : ps.drop nn = ps[nn] :: ps.drop (nn + 1) := List.drop_eq_getElem_cons hn
                  rw [hd] at hb
                  have c1 := Lib.hid (box_take_string ps[nn] hb)
                  clear hd
                  go_wp2_with fail
                  refine c1.out.mono ?_
                  rintro e w4 ⟨rfl, k4, hb4⟩
                  have hown4 := own_keep hown k4 (fun z hz e => by have := (hown.lt z hz).1; unfold two at e; omega)
                  replace kk := Keep.fresh kk k4 (fun z hz e => by unfold two at e; omega)
                  replace hbs := Nat.le_trans hbs k4.size
                  have hsl4 := Sl.of_own encS_len (by decide) hown4
                  obtain ⟨b3, off3, rfl, hb3, -⟩ := hsl4.at_ (by omega)
                  have ex : w4.cell? ⟨b3, off3 + nn, none⟩ = some (.string ps[nn]) := hsl4.cell1 hn
                  generalize ps[nn] = y at *
                  clear k4 c1 hb hown e1w
                  go_wp2_with fail
                  go_roundw
                  case rel => exact ⟨nn + 1, j + 1, by omega, by omega, by go_num, by go_num, hown4, hb4, kk, hbs⟩
                  case measure => simp [intOf]; omega
                · have hn' : decide ((nn : Int) < ps.length) = false := by simpa using hn
                  have hd : ps.drop nn = [] := List.drop_eq_nil_of_le (by omega)
                  have c1 := Lib.hid (box_take_no_string (by rw [hd] at hb; exact hb))
                  clear hd
                  go_wp2_with fail
                  refine c1.out.mono ?_
                  rintro e w4 ⟨rfl, rfl⟩
                  go_wp2_with fail
                  go_roundw
                  case rel => exact ⟨nn, j + 1, by omega, by omega, rfl, by go_num, hown, hb, kk, hbs⟩
                  case measure => simp [intOf]; omega
              · have hj20' : ¬ ((j : Int) < 20) := by omega
                have e0w := ((kk.below (Nat.le_refl _) not_none).cell hbl).trans e0
                have hdl : (((ps.drop nn).length : Nat) : Int) = (ps.length : Int) - nn := by rw [List.length_drop]; omega
                have hlr := hb.le
                rw [List.length_drop] at hlr
                have hd0 : 0 ≤ (ps.length : Int) - nn := by omega
                by_cases hf : (ps.drop nn).length = room
                · have c1 := Lib.hid (box_put_full_string x hb hf)
                  rw [List.length_drop] at hf
                  have hd1 : ¬ ((room : Int) < (ps.length : Int) - nn) := by omega
                  replace hf := Lib.hid hf
                  replace hdl := Lib.hid hdl
                  go_wp2_with fail
                  refine c1.out.mono ?_
                  rintro e w4 ⟨rfl, k4⟩
                  replace hb := hb.keep k4 (fun e => e) (fun e => e)
                  replace hown := own_keep hown k4 (fun _ _ e => e)
                  replace kk := kk.trans k4
                  replace hbs := Nat.le_trans hbs k4.size
                  have c4 := box_len_string hb
                  rw [hdl.out] at c4
                  replace c4 := Lib.hid c4
                  clear k4 e0w e1w
                  go_wp2_with fail
                  refine (c4.out).mono ?_
                  rintro e w6 ⟨rfl, rfl⟩
                  go_wp2_with fail
                  refine (c4.out).mono ?_
                  rintro e w6 ⟨rfl, rfl⟩
                  go_wp2_with fail
                  go_roundw
                  case rel => exact ⟨k + 1, nn, ps, by omega, by omega, by omega, rfl, by go_num, hown, hb, kk, hbs⟩
                  case measure => simp [intOf]; omega
                · have c1 := Lib.hid (box_put_string x hb (by rw [List.length_drop] at hf ⊢; omega))
                  rw [List.length_drop] at hf
                  have hd1 : ¬ ((room : Int) < (ps.length : Int) + 1 - nn) := by omega
                  have hd2 : 0 ≤ (ps.length : Int) + 1 - nn := by omega
                  replace hf := Lib.hid hf
                  go_wp2_with fail
                  refine c1.out.mono ?_
                  rintro e w4 ⟨rfl, k4, hb4⟩
                  have hown4 := own_keep hown k4 (fun z hz e => by have := (hown.lt z hz).1; unfold two at e; omega)
                  replace kk := Keep.fresh kk k4 (fun z hz e => by unfold two at e; omega)
                  replace hbs := Nat.le_trans hbs k4.size
                  replace e0w := ((kk.below (Nat.le_refl _) not_none).cell hbl).trans e0
                  clear k4 c1 hb hown e1w
                  replace hdl := Lib.hid hdl
                  have hx4 := At.new w4 #[.string x] 9
                  go_wp2_with (at_builtin; refine wpList_append_sl _ rfl _ _ _ rfl base 9 row_string encS_len encS_one _ ps.length ps rfl (hown4.alloc _) (some ⟨_, 0, none⟩) 1 1 [x] rfl (Sl.of_at hx4 encS_len (by decide) rfl rfl (by unfold maxLen; omega)) (by omega) (by simp; omega) ?_)
                  intro v5 w5 own5 grow5 loc5
                  have k5 : Keep (fun z => base ≤ z) w4 w5 := Keep.grown (Keep.alloc (Keep.refl _ w4) (.cells #[.string x] 9)) grow5 (fun z hz hl => (hown4.lt z hz).1)
                  have hb := hb4.keep k5 (by omega) (by omega)
                  have hl2 : (ps ++ [x]).length = ps.length + 1 := by simp
                  have hdr : ps.drop nn ++ [x] = (ps ++ [x]).drop nn := by rw [List.drop_append_of_le_length (by omega)]
                  have hdl2 : (((ps.drop nn ++ [x]).length : Nat) : Int) = (ps.length : Int) + 1 - nn := by rw [hdr, List.length_drop]; simp; omega
                  have hown : w5.ownsRow base 9 1 v5 (ps.length + 1) (flat encS (ps ++ [x])) := own5
                  replace kk := Keep.fresh kk k5 (fun z hz e => by omega)
                  replace hbs := Nat.le_trans hbs k5.size
                  have c4 := box_len_string hb
                  rw [hdl2] at c4
                  rw [hdr] at hb
                  replace c4 := Lib.hid c4
                  obtain ⟨A5, c5, rfl⟩ := own_form hown
                  clear k5 own5 grow5 loc5 hown4 hb4 e0w hx4 hdr hdl2
                  go_wp2_with fail
                  refine (c4.out).mono ?_
                  rintro e w6 ⟨rfl, rfl⟩
                  go_wp2_with fail
                  refine (c4.out).mono ?_
                  rintro e w6 ⟨rfl, rfl⟩
                  go_wp2_with fail
                  go_roundw
                  case rel => exact ⟨k + 1, nn, ps ++ [x], by omega, by omega, by omega, rfl, by go_num, by rw [hl2]; exact hown, hb, kk, hbs⟩
                  case measure => simp [intOf]; omega
            · have hja' : decide ((j : Int) < a) = false := by simpa using hja
              have e0w := ((kk.below (Nat.le_refl _) not_none).cell hbl).trans e0
              have hdl : (((ps.drop nn).length : Nat) : Int) = (ps.length : Int) - nn := by rw [List.length_drop]; omega
              have hlr := hb.le
              rw [List.length_drop] at hlr
              have hd0 : 0 ≤ (ps.length : Int) - nn := by omega
              by_cases hf : (ps.drop nn).length = room
              · have c1 := Lib.hid (box_put_full_string x hb hf)
                rw [List.length_drop] at hf
                have hd1 : ¬ ((room : Int) < (ps.length : Int) - nn) := by omega
                replace hf := Lib.hid hf
                replace hdl := Lib.hid hdl
                go_wp2_with fail
                refine c1.out.mono ?_
                rintro e w4 ⟨rfl, k4⟩
                replace hb := hb.keep k4 (fun e => e) (fun e => e)
                replace hown := own_keep hown k4 (fun _ _ e => e)
                replace kk := kk.trans k4
                replace hbs := Nat.le_trans hbs k4.size
                have c4 := box_len_string hb
                rw [hdl.out] at c4
                replace c4 := Lib.hid c4
                clear k4 e0w e1w
                go_wp2_with fail
                refine (c4.out).mono ?_
                rintro e w6 ⟨rfl, rfl⟩
                go_wp2_with fail
                refine (c4.out).mono ?_
                rintro e w6 ⟨rfl, rfl⟩
                go_wp2_with fail
                go_roundw
                case rel => exact ⟨k + 1, nn, ps, by omega, by omega, by omega, rfl, by go_num, hown, hb, kk, hbs⟩
                case measure => simp [intOf]; omega
              · have c1 := Lib.hid (box_put_string x hb (by rw [List.length_drop] at hf ⊢; omega))
                rw [List.length_drop] at hf
                have hd1 : ¬ ((room : Int) < (ps.length : Int) + 1 - nn) := by omega
                have hd2 : 0 ≤ (ps.length : Int) + 1 - nn := by omega
                replace hf := Lib.hid hf
                go_wp2_with fail
                refine c1.out.mono ?_
                rintro e w4 ⟨rfl, k4, hb4⟩
                have hown4 := own_keep hown k4 (fun z hz e => by have := (hown.lt z hz).1; unfold two at e; omega)
                replace kk := Keep.fresh kk k4 (fun z hz e => by unfold two at e; omega)
                replace hbs := Nat.le_trans hbs k4.size
                replace e0w := ((kk.below (Nat.le_refl _) not_none).cell hbl).trans e0
                clear k4 c1 hb hown e1w
                replace hdl := Lib.hid hdl
                have hx4 := At.new w4 #[.string x] 9
                go_wp2_with (at_builtin; refine wpList_append_sl _ rfl _ _ _ rfl base 9 row_string encS_len encS_one _ ps.length ps rfl (hown4.alloc _) (some ⟨_, 0, none⟩) 1 1 [x] rfl (Sl.of_at hx4 encS_len (by decide) rfl rfl (by unfold maxLen; omega)) (by omega) (by simp; omega) ?_)
                intro v5 w5 own5 grow5 loc5
                have k5 : Keep (fun z => base ≤ z) w4 w5 := Keep.grown (Keep.alloc (Keep.refl _ w4) (.cells #[.string x] 9)) grow5 (fun z hz hl => (hown4.lt z hz).1)
                have hb := hb4.keep k5 (by omega) (by omega)
                have hl2 : (ps ++ [x]).length = ps.length + 1 := by simp
                have hdr : ps.drop nn ++ [x] = (ps ++ [x]).drop nn := by rw [List.drop_append_of_le_length (by omega)]
                have hdl2 : (((ps.drop nn ++ [x]).length : Nat) : Int) = (ps.length : Int) + 1 - nn := by rw [hdr, List.length_drop]; simp; omega
                have hown : w5.ownsRow base 9 1 v5 (ps.length + 1) (flat encS (ps ++ [x])) := own5
                replace kk := Keep.fresh kk k5 (fun z hz e => by omega)
                replace hbs := Nat.le_trans hbs k5.size
                have c4 := box_len_string hb
                rw [hdl2] at c4
                rw [hdr] at hb
                replace c4 := Lib.hid c4
                obtain ⟨A5, c5, rfl⟩ := own_form hown
                clear k5 own5 grow5 loc5 hown4 hb4 e0w hx4 hdr hdl2
                go_wp2_with fail
                refine (c4.out).mono ?_
                rintro e w6 ⟨rfl, rfl⟩
                go_wp2_with fail
                refine (c4.out).mono ?_
                rintro e w6 ⟨rfl, rfl⟩
                go_wp2_with fail
                go_roundw
                case rel => exact ⟨k + 1, nn, ps ++ [x], by omega, by omega, by omega, rfl, by go_num, by rw [hl2]; exact hown, hb, kk, hbs⟩
                case measure => simp [intOf]; omega
        · go_wp2_with fail
          go_ret
          exact ⟨by simp, kk.below (Nat.le_refl _) not_none⟩

theorem law_BoxKeeps (room : Int) (l : List ByteArray) (v : Value) (al : List Int) (u : Value) (W : World) (hr : I64 room) (hv : rSlice 1 rStr W l [v]) (hu : rSlice 1 rInt W al [u]) :
    Calls Try.prog 3 #[.int .i64 room, v, u] W fun e W' => e = .returned (.bool true) ∧ Below W.heap.size W W' := by
  by_cases h : room < 1 ∨ 16 < room
  · obtain ⟨A, n, c, hv, -, -⟩ := sl_of encS _ rStr_of hv
    obtain ⟨A2, n2, c2, hu, -, -⟩ := sl_of encI _ rInt_of hu
    exact box_keeps_no room v u W h ⟨_, _, _, hv⟩ ⟨_, _, _, hu⟩
  · obtain ⟨n, rfl⟩ : ∃ n : Nat, room = n := ⟨room.toNat, by omega⟩
    exact box_keeps_yes n l v al u W (by omega) (by omega) hv hu
end Go.Proofs.Ytlnlbegcnhelmaa
