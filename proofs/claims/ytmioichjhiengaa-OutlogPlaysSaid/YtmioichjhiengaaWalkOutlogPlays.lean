/-
  The walk of the law OutlogPlays.
-/
import Derived.Test.YtmioichjhiengaaPlayInv
import Derived.Test.YtmioichjhiengaaRefSorted
import Derived.Test.YtmioichjhiengaaRefIn
import Derived.Deep.CutRange
namespace Go.Proofs.Ytmioichjhiengaa
open Go.RowKit

def flatTo (l : List (List Pane)) (i : Nat) : List Pane := (l.take i).flatten
theorem flatTo_step {l : List (List Pane)} {i : Nat} (hi : i < l.length) : flatTo l (i + 1) = flatTo l i ++ l[i] := by
  unfold flatTo
  rw [List.take_succ_eq_append_getElem hi, List.flatten_append]
  simp

set_option maxHeartbeats 8000000 in
set_option maxRecDepth 100000 in
theorem law_OutlogPlays (l : List (List Pane)) (v : Value) (key : ByteArray) (W : World) (hv : rSlice 1 (rSlice 7 rPane) W l [v]) (hk : key.size ≤ maxLen) :
    Calls Try.prog 3 #[v, .string key] W fun e W' => e = .returned (.bool true) ∧ Below W.heap.size W W' := by
  obtain ⟨A, n, c, hd, rfl, hn, hsl, hel⟩ := nest_of Pane.cells Pane.ok (fun _ _ _ h => h) hv
  have hhd : hd.length = n := hsl.len.symm
  have hlc := hsl.2.1
  have hnc := hsl.2.2.1
  unfold maxLen at hnc
  replace hn := Lib.hid hn
  replace hhd := Lib.hid hhd
  clear hv hk
  go_enter Try.func3, Try.ntmps3
  go_wp2_with fail
  refine (up9 _).mono ?_
  rintro e w1 ⟨rfl, k1⟩
  go_wp2_with fail
  refine (log_new _).mono ?_
  rintro e w2 ⟨rfl, rfl⟩
  have L1 := log_made w1
  have kA : Keep none_ w1 (w1.alloc (.cells #[.slice none 0 0] 92)) := Keep.alloc (Keep.refl _ _) _
  obtain ⟨p, hp⟩ : ∃ p, p = w1.heap.size := ⟨_, rfl⟩
  have hWp : W.heap.size ≤ p := by rw [hp]; exact k1.size
  rw [← hp] at L1
  rw [← hp]
  generalize w1.alloc _ = w2 at *
  have k02 := k1.trans kA
  have inv0 : PInv W w2 p (.slice none 0 0) (.slice none 0 0) [] [] := ⟨L1, ⟨rfl, .inl ⟨rfl, rfl⟩⟩, (fun q hq => by cases hq), k02⟩
  clear L1 kA hp k1
  by_cases h20 : 20 < n
  · have hd20 : decide ((20 : Int) < (n : Int)) = true := by simp; omega
    clear hsl hel
    go_wp2_with fail
    go_ret
    exact ⟨by simp, inv0.keep.below (Nat.le_refl _) not_none⟩
  · have hd20 : decide ((20 : Int) < (n : Int)) = false := by simp; omega
    by_cases h100 : 100 < key.size
    · have hd100 : decide ((100 : Int) < (key.size : Int)) = true := by simp; omega
      clear hsl hel
      go_wp2_with fail
      go_ret
      exact ⟨by simp, inv0.keep.below (Nat.le_refl _) not_none⟩
    · have hd100 : decide ((100 : Int) < (key.size : Int)) = false := by simp; omega
      replace inv0 := Lib.hid inv0
      go_wp2_with fail
      go_loopw [7, 8, 9] (fun mv iv _ wr => ∃ (i : Nat) (vL : Value), iv = .int .i64 i ∧ i ≤ n ∧ Hid (PInv W wr p mv vL (flatTo l i) (flatTo l i)) ∧ Hid ((flatTo l i).length ≤ 20 * i)) (fun _ iv _ _ => n - (intOf iv).toNat)
      case atStart => exact ⟨0, _, rfl, Nat.zero_le _, Lib.hid (by simpa [flatTo] using inv0.out), Lib.hid (by simp [flatTo])⟩
      case round =>
        clear inv0 k02 w1 w2
        obtain ⟨i, vL, rfl, hin, hinv, hlen⟩ := hrel
        by_cases hlt : i < n
        · have hix : i < l.length := by have := hn.out; omega
          have hih : i < hd.length := by have := hhd.out; omega
          obtain ⟨B, m, d, eB, hB, -⟩ := hel i hih hix
          obtain ⟨b, off, rfl, hbl, -⟩ := hsl.at_ (by omega)
          have hcell : Hid (∀ W', Keep none_ W W' → W'.cell? ⟨b, off + i, none⟩ = some (.slice B m d)) := Lib.hid (fun W' k => by
            have := (hsl.keep k Off.none_).cell1 hih
            rw [this, encV, eB]; rfl)
          have hM : Hid (flatTo l (i + 1) = flatTo l i ++ l[i]) := Lib.hid (flatTo_step hix)
          have hxl : Hid (m = l[i].length) := Lib.hid hB.len
          obtain ⟨x, hx⟩ : ∃ x, x = l[i] := ⟨_, rfl⟩
          rw [← hx] at hB hM hxl
          have hBs : Hid (∀ W', Keep none_ W W' → Sl Pane.cells 7 W' B m d x) := Lib.hid (fun W' k => hB.keep k Off.none_)
          have hdc := hB.2.1
          have hdm := hB.2.2.1
          unfold maxLen at hdm
          have hlt' : (i : Int) < (n : Int) := by omega
          have hi0 := Int.natCast_nonneg i
          have q0 := hcell.out wr hinv.out.keep
          clear hx hel hsl eB hih hB
          by_cases h20m : 20 < m
          · have hdm20 : decide ((20 : Int) < (m : Int)) = true := by simp; omega
            have kf := hinv.out.keep
            go_wp2_with fail
            go_ret
            exact ⟨by simp, kf.below (Nat.le_refl _) not_none⟩
          · have hdm20 : decide ((20 : Int) < (m : Int)) = false := by simp; omega
            go_wp2_with fail
            go_loopw [9] (fun kv wq => ∃ k : Nat, kv = .int .i64 k ∧ k ≤ m ∧ wq = wr) (fun kv _ => m - (intOf kv).toNat)
            case atStart => exact ⟨0, rfl, Nat.zero_le _, rfl⟩
            case round =>
              obtain ⟨k, rfl, hkm, rfl⟩ := hrel
              by_cases hkl : k < m
              · have hkx : k < x.length := by have := hxl.out; omega
                have hs1 := hBs.out wr hinv.out.keep
                obtain ⟨bx, fx, rfl, hbx, -⟩ := hs1.at_ (by omega)
                obtain ⟨r0, r1, r2, r3, r4, r5, r6⟩ := hs1.pane hkx
                generalize x[k] = y at *
                have hkl' : (k : Int) < (m : Int) := by omega
                have hk0 := Int.natCast_nonneg k
                have kf := Lib.hid hinv.out.keep
                clear hs1 hBs hxl r1 r2 r3 r4 r5 r6
                by_cases hky : 100 < y.key.size
                · have hkb : decide ((100 : Int) < (y.key.size : Int)) = true := by simp; omega
                  go_wp2_with fail
                  go_ret
                  exact ⟨by simp, kf.out.below (Nat.le_refl _) not_none⟩
                · have hkb : decide ((100 : Int) < (y.key.size : Int)) = false := by simp; omega
                  go_wp2_with fail
                  go_roundw
                  case rel => exact ⟨k + 1, by go_num, by omega, by first | rfl | trivial⟩
                  case measure => simp [intOf]; omega
              · obtain rfl : k = m := by omega
                have hbw : p ≤ wr.heap.size := by have := hinv.out.log.at_.lt; omega
                have c1 := Lib.hid (log_put hinv.out.log (hBs.out wr hinv.out.keep) (by have := hlen.out; omega) hbw)
                clear hkl hkm
                go_wp2_with fail
                refine c1.out.mono ?_
                intro e w2 hput
                obtain ⟨v2, rfl, inv2⟩ := hinv.out.put hWp hput
                have q2 := hcell.out w2 inv2.keep
                have own2 := inv2.own
                have s2 := hBs.out w2 inv2.keep
                have hbw2 : p + 1 ≤ w2.heap.size := by have := inv2.log.at_.lt; omega
                replace inv2 := Lib.hid inv2
                clear c1 hput hinv q0
                generalize flatTo l i = L at *
                go_wp2_with (at_builtin; refine wpList_append_sl _ rfl _ _ _ rfl (p + 1) 32 row_pane pane_len pane_one _ _ _ rfl own2 B k d x rfl s2 (by have := hlen.out; omega) hbw2 ?_)
                intro mv3 w3 own3 hg3 hb3
                have e3 : L.length + k = (L ++ x).length := by rw [List.length_append, hxl.out]
                rw [e3] at own3
                have inv3 := inv2.out.grow hWp own3 hg3 hb3
                have hlM : Hid ((L ++ x).length ≤ 20 * (i + 1)) := Lib.hid (by rw [← e3]; have := hlen.out; omega)
                generalize L ++ x = M at *
                clear own2 s2 q2 own3 hg3 hb3 e3 inv2 hlen L
                have hMn : M.length ≤ 400 := by have := hlM.out; omega
                obtain ⟨A3, d3, rfl⟩ := own_form inv3.own
                have c2 := Lib.hid (log_all inv3.log (by omega))
                replace inv3 := Lib.hid inv3
                go_wp2_with fail
                refine c2.out.mono ?_
                rintro e w4 ⟨va, rfl, oa, k4⟩
                obtain ⟨A4, d4, rfl⟩ := own_form oa
                have inv4 := inv3.out.on k4
                have c3 := Lib.hid (ref_same w4 (Sl.of_own pane_len (by decide) oa) (Sl.of_own pane_len (by decide) inv4.own))
                rw [panesB_self] at c3
                clear c2 oa k4 inv3
                replace inv4 := Lib.hid inv4
                go_wp2_with fail
                refine c3.out.mono ?_
                rintro e w5 ⟨rfl, k5⟩
                have inv5 := inv4.out.on k5
                have c4 := Lib.hid (log_of inv5.log (by omega) key)
                replace inv5 := Lib.hid inv5
                clear c3 k5 inv4
                go_wp2_with fail
                refine c4.out.mono ?_
                rintro e w6 ⟨vo, rfl, oo, k6⟩
                obtain ⟨A6, d6, rfl⟩ := own_form oo
                have inv6 := inv5.out.on k6
                have c5 := Lib.hid (ref_of (Sl.of_own pane_len (by decide) inv6.own) (by omega) key)
                replace inv6 := Lib.hid inv6
                clear c4 k6 inv5
                go_wp2_with fail
                refine c5.out.mono ?_
                rintro e w7 ⟨vr, rfl, oR, k7⟩
                obtain ⟨A7, d7, rfl⟩ := own_form oR
                have inv7 := inv6.out.on k7
                have oo7 := own_keep oo k7 (fun _ _ e => e)
                have c6 := Lib.hid (ref_same w7 (Sl.of_own pane_len (by decide) oo7) (Sl.of_own pane_len (by decide) oR))
                rw [panesB_self] at c6
                clear c5 k7 inv6 oo oR oo7
                replace inv7 := Lib.hid inv7
                go_wp2_with fail
                refine c6.out.mono ?_
                rintro e w8 ⟨rfl, k8⟩
                have inv8 := inv7.out.on k8
                have c7 := Lib.hid (log_fine inv8.log (by omega))
                replace inv8 := Lib.hid inv8
                clear c6 k8 inv7
                go_wp2_with fail
                refine c7.out.mono ?_
                rintro e w9 ⟨b9, rfl, hb9, k9⟩
                have inv9 := inv8.out.on k9
                have c8 := Lib.hid (ref6_fine (Sl.of_own pane_len (by decide) inv9.own) (by omega))
                replace inv9 := Lib.hid inv9
                clear c7 k9 inv8
                go_wp2_with fail
                refine c8.out.mono ?_
                rintro e w10 ⟨b10, rfl, hb10, k10⟩
                have inv10 := inv9.out.on k10
                obtain rfl : b10 = b9 := by rw [Bool.eq_iff_iff, hb10, hb9]
                have hnb : (b10 != b10) = false := by cases b10 <;> rfl
                clear c8 k10 inv9 hb9 hb10
                obtain ⟨ι, hne, f, hf0, hfk, hfa⟩ := class_of none_ w10
                have qf : ∀ z, (f z).cell? ⟨b, off + i, none⟩ = some (.slice B k d) := fun z => hcell.out _ (inv10.keep.trans (hfk z))
                have sMf : ∀ z, Sl Pane.cells 7 (f z) A3 M.length d3 M := fun z => Sl.of_own pane_len (by decide) ((inv10.on (hfk z)).own)
                have sXf : ∀ z, Sl Pane.cells 7 (f z) B k d x := fun z => hBs.out _ (inv10.keep.trans (hfk z))
                have d1 := Lib.hid (fun z => log_same (sMf z) (sXf z) (by omega) (by omega))
                have d2 := Lib.hid (fun z => ref_same (f z) (sMf z) (sXf z))
                have d4' := Lib.hid (fun z => log_same (sMf z) (sMf z) (by omega) (by omega))
                rw [panesB_self] at d4'
                generalize panesB M x = bb at *
                have hnbb : (bb != bb) = false := by cases bb <;> rfl
                replace inv10 := Lib.hid inv10
                clear sMf sXf
                go_wp2_with fail
                refine wp_region_class f (by kernel_rfl) (by kernel_rfl) hf0 ?_
                repeat (go_big_quiet_step (first
                  | (go_at_call 18; first | exact Calls.class_of hfa (d1.out _) | exact Calls.class_of hfa (d4'.out _))
                  | (go_at_call 12; exact Calls.class_of hfa (d2.out _))))
                refine wpQuiet_nil ?_
                rintro _ ⟨nn, rfl⟩
                have inv11 := Lib.hid (inv10.out.on (hfk nn))
                clear d1 d2 d4' qf hf0 hfk hfa inv10
                go_wp2_with fail
                go_roundw
                case rel => exact ⟨i + 1, v2, by go_num, by omega, Lib.hid (by rw [hM.out]; exact inv11.out), Lib.hid (by rw [hM.out]; exact hlM.out)⟩
                case measure => simp [intOf]; omega
        · obtain rfl : i = n := by omega
          have hln := hlen.out
          have inv := hinv.out
          generalize flatTo l i = M at *
          clear hlt hsl hel hinv hlen
          obtain ⟨A3, d3, rfl⟩ := own_form inv.own
          have c1 := Lib.hid (out_sorted (Sl.of_own pane_len (by decide) inv.own) (by omega))
          replace inv := Lib.hid inv
          go_wp2_with fail
          refine c1.out.mono ?_
          rintro e w2 ⟨v2, S, rfl, st, o2, k2⟩
          have inv2 := inv.out.on k2
          have c2 := Lib.hid (ref_sorted (Sl.of_own pane_len (by decide) inv2.own) (by omega))
          obtain ⟨A4, d4, rfl⟩ := own_form o2
          replace inv2 := Lib.hid inv2
          clear c1 k2 inv
          go_wp2_with fail
          refine c2.out.mono ?_
          rintro e w3 ⟨v3, S', rfl, st', o3, k3⟩
          obtain rfl : S' = S := st'.unique st
          have inv3 := inv2.out.on k3
          obtain ⟨A5, d5, rfl⟩ := own_form o3
          have o2' := own_keep o2 k3 (fun _ _ e => e)
          have c3 := Lib.hid (ref_same w3 (Sl.of_own pane_len (by decide) o2') (Sl.of_own pane_len (by decide) o3))
          rw [panesB_self] at c3
          clear c2 k3 inv2 o2 o2' o3 st st'
          have kf3 := inv3.keep
          clear inv3
          go_wp2_with fail
          refine c3.out.mono ?_
          rintro e w4 ⟨rfl, k4⟩
          have kf := kf3.trans k4
          clear c3
          go_wp2_with fail
          go_ret
          exact ⟨by simp, kf.below (Nat.le_refl _) not_none⟩
end Go.Proofs.Ytmioichjhiengaa
