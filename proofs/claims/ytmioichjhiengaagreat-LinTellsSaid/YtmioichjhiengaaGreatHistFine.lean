/-
  hist.Fine.
-/
import Derived.Test.YtmioichjhiengaaGreatBaseHist
import Derived.Test.YtmioichjhiengaaGreatBaseEv
set_option linter.unusedSimpArgs false
set_option linter.unusedVariables false
namespace Go.Proofs.YtmioichjhiengaaGreat
open Go.RowKit

def lastMap (l : List Event) : Int → Option Value := fun c => (lastOf l c).map (fun e => .agg e.cells.toArray)
def ptsMap (l : List Event) : Int → Option Value := fun p => if cntP l p = 0 then none else some (.int .i64 (cntP l p : Nat))
theorem lastMap_snoc (l : List Event) (e : Event) : lastMap (l ++ [e]) = fun c => if c = e.client then some (.agg e.cells.toArray) else lastMap l c := by
  funext c
  unfold lastMap
  rw [lastOf_snoc]
  by_cases h : e.client = c
  · rw [if_pos h, if_pos h.symm]; rfl
  · rw [if_neg h, if_neg (fun e => h e.symm)]
theorem ptsMap_snoc (l : List Event) (e : Event) : ptsMap (l ++ [e]) = fun p => if p = e.point then some (.int .i64 ((cntP l e.point : Int) + 1)) else ptsMap l p := by
  funext p
  unfold ptsMap
  rw [cntP_snoc]
  by_cases h : e.point = p
  · subst h
    rw [if_pos rfl, if_neg (by omega), if_pos rfl]
    simp
  · rw [if_neg h]
    simp only [if_neg (fun e9 : p = e.point => h e9.symm)]
theorem zero_event (w : World) : (zeroValue 75).run Tryz.prog w = .ok (.agg #[.int .i64 0, .int .i64 0, .int .i64 0, .string ⟨#[]⟩, .int .i64 0, .int .i64 0, .int .i64 0, .int .i64 0, .int .i64 0, .int .i64 0, .slice none 0 0, .int .i64 0, .int .i64 0, .int .i64 0]) w := by kernel_rfl
theorem zero_int (w : World) : (zeroValue 3).run Tryz.prog w = .ok (.int .i64 0) w := by kernel_rfl
theorem cntP_le (l : List Event) (p : Int) : cntP l p ≤ l.length := List.length_filter_le _ _
theorem cntC_le (l : List Event) (p : Int) : cntC l p ≤ l.length := List.length_filter_le _ _
theorem ptsMap_get (l : List Event) (p : Int) : (ptsMap l p).getD (.int .i64 0) = .int .i64 (cntP l p : Nat) := by
  unfold ptsMap
  by_cases h : cntP l p = 0
  · rw [if_pos h, h]; rfl
  · rw [if_neg h]; rfl

set_option maxHeartbeats 8000000 in
set_option maxRecDepth 100000 in
theorem hist_fine {w : World} {A : Option Addr} {c : Nat} {l : List Event} (h : Evs w A c l) (hlen : l.length ≤ 100) (hok : ∀ x ∈ l, x.ok) :
    Calls Tryz.prog 67 #[.slice A l.length c] w fun e w' => ∃ b, e = .returned (.bool b) ∧ (b = true ↔ FineE l) ∧ Keep none_ w w' := by
  have hmm : ∀ w : World, (Instr.makeMap 163 none).run Tryz.prog w = .ok (.map (some w.heap.size)) (w.alloc (.map #[] 0)) := fun w => by kernel_rfl
  have hmm2 : ∀ w : World, (Instr.makeMap 164 none).run Tryz.prog w = .ok (.map (some w.heap.size)) (w.alloc (.map #[] 0)) := fun w => by kernel_rfl
  have hnc := h.2.2.1
  have hlc := h.2.1
  unfold maxLen at hnc
  go_enter Tryz.func67, Tryz.ntmps67
  go_wp2_with fail
  have k00 : Keep none_ w ((w.alloc (.map #[] 0)).alloc (.map #[] 0)) := (by repeat' (first | assumption | with_reducible exact Keep.refl _ _ | with_reducible refine Keep.alloc ?_ _ | with_reducible refine Keep.drew ?_))
  have m1 := (imap_made w).keep (S := none_) (Keep.alloc (Keep.refl _ _) (.map #[] 0)) (fun e => e)
  have m2 := imap_made (w.alloc (.map #[] 0))
  have hb2s : (w.alloc (.map #[] 0)).heap.size = w.heap.size + 1 := by simp
  rw [hb2s] at m2
  have hsz := k00.size
  have hW1 : w.heap.size + 1 < ((w.alloc (.map #[] 0)).alloc (.map #[] 0)).heap.size := by simp
  generalize World.alloc (World.alloc w _) _ = w1 at *
  obtain ⟨b1, hb1⟩ : ∃ b1, b1 = w.heap.size := ⟨_, rfl⟩
  obtain ⟨b2, hb2⟩ : ∃ b2, b2 = w.heap.size + 1 := ⟨_, rfl⟩
  have hb12 : b1 ≠ b2 := by omega
  have hb1w : w.heap.size ≤ b1 := by omega
  have hb2w : w.heap.size ≤ b2 := by omega
  have hb1l : b1 < w1.heap.size := by omega
  have hb2l : b2 < w1.heap.size := by omega
  rw [← hb1] at m1
  rw [← hb2] at m2
  try rw [← hb2]
  rw [← hb1]
  clear hb1 hb2 hb2s hW1 hmm hmm2
  go_loopw [6, 7, 8, 9, 14] (fun _ _ _ _ iv wr => ∃ (k : Nat), iv = .int .i64 k ∧ k ≤ l.length ∧ IMap wr b1 k (lastMap (l.take k)) ∧ IMap wr b2 k (ptsMap (l.take k)) ∧ Hid (FineE (l.take k)) ∧ Keep none_ w wr)
    (fun _ _ _ _ iv _ => l.length - (intOf iv).toNat)
  case atStart => exact ⟨0, rfl, Nat.zero_le _, m1, m2, Lib.hid .nil, k00⟩
  case round =>
    clear m1 m2 k00
    obtain ⟨k, rfl, hk, im1, im2, hF, k00⟩ := hrel
    by_cases hlt : k < l.length
    · obtain ⟨b, off, rfl, hbl, -⟩ := h.at_ (by omega)
      have hevok := hok l[k] (List.getElem_mem _)
      have htake : l.take (k + 1) = l.take k ++ [l[k]] := (List.take_append_getElem hlt).symm
      have hfx : FineE l → codeAt (l.take k) l[k] := fun hf => by
        have h9 := hf.take (k + 1)
        rw [htake] at h9
        exact (codeAt_iff hF.out _).2 h9.inv.2
      have ck := (h.keep k00 Off.none_).cellk hlt
      have hlast : ∀ x, lastOf (l.take k) l[k].client = some x → x ∈ l := fun x hx => List.mem_of_mem_take (hF.out.last hx).1
      have hone := fun w => hist_one w l[k]
      have hahe := fun x w => hist_ahead w x l[k]
      generalize l[k] = ev at *
      obtain ⟨hcl, hnI, hcok, hcode, ⟨pA, pN, pC, hpe⟩, hbg, hpt, hen⟩ := hevok
      obtain ⟨cl, n, ⟨co, cy, ct, cv, cf, cg, cs⟩, code, pn, bg, pt, en⟩ := ev
      simp only at hpe hcl hnI hpt hlast
      subst hpe
      have i0 := ck 0 (by omega)
      have i1 := ck 1 (by omega)
      have i2 := ck 2 (by omega)
      have i3 := ck 3 (by omega)
      have i4 := ck 4 (by omega)
      have i5 := ck 5 (by omega)
      have i6 := ck 6 (by omega)
      have i7 := ck 7 (by omega)
      have i8 := ck 8 (by omega)
      have i9 := ck 9 (by omega)
      have i10 := ck 10 (by omega)
      have i11 := ck 11 (by omega)
      have i12 := ck 12 (by omega)
      have i13 := ck 13 (by omega)
      simp only [Event.cells, Nat.add_zero, List.getElem?_cons_zero, List.getElem?_cons_succ] at i0 i1 i2 i3 i4 i5 i6 i7 i8 i9 i10 i11 i12 i13 hone hahe
      clear ck hcode hcok hbg hen
      have kA : Keep none_ wr (wr.alloc (.cells #[.int .i64 cl, .int .i64 n, .int .i64 co, .string cy, .int .i64 ct, .int .i64 cv, .int .i64 cf, .int .i64 cg, .int .i64 cs, .int .i64 code, .slice pA pN pC, .int .i64 bg, .int .i64 pt, .int .i64 en] 75)) := (by repeat' (first | assumption | with_reducible exact Keep.refl _ _ | with_reducible refine Keep.alloc ?_ _ | with_reducible refine Keep.drew ?_))
      have he0 := At.new wr #[.int .i64 cl, .int .i64 n, .int .i64 co, .string cy, .int .i64 ct, .int .i64 cv, .int .i64 cf, .int .i64 cg, .int .i64 cs, .int .i64 code, .slice pA pN pC, .int .i64 bg, .int .i64 pt, .int .i64 en] 75
      have q6 := (im1.keep kA (fun e => e)).look_ok (t := 163) Tryz.underlying163 (zero_event _) cl hcl
      have hb1e : b1 ≠ wr.heap.size := fun e => by have := im1.lt; omega
      replace hfx := Lib.hid hfx
      replace htake := Lib.hid htake
      cases hlo : lastOf (l.take k) cl with
      | none =>
        have e6 : lastMap (l.take k) cl = none := by unfold lastMap; rw [hlo]; rfl
        rw [e6] at q6
        simp only [Option.getD_none, Option.isSome_none] at q6
        replace hone := Lib.hid hone
        have hbz := At.new (wr.alloc (.cells #[.int .i64 cl, .int .i64 n, .int .i64 co, .string cy, .int .i64 ct, .int .i64 cv, .int .i64 cf, .int .i64 cg, .int .i64 cs, .int .i64 code, .slice pA pN pC, .int .i64 bg, .int .i64 pt, .int .i64 en] 75)) #[.int .i64 0, .int .i64 0, .int .i64 0, .string ⟨#[]⟩, .int .i64 0, .int .i64 0, .int .i64 0, .int .i64 0, .int .i64 0, .int .i64 0, .slice none 0 0, .int .i64 0, .int .i64 0, .int .i64 0] 75
        have he1 := At.alloc he0 (.cells #[.int .i64 0, .int .i64 0, .int .i64 0, .string ⟨#[]⟩, .int .i64 0, .int .i64 0, .int .i64 0, .int .i64 0, .int .i64 0, .int .i64 0, .slice none 0 0, .int .i64 0, .int .i64 0, .int .i64 0] 75)
        have kB : Keep none_ wr _ := Keep.alloc kA (.cells #[.int .i64 0, .int .i64 0, .int .i64 0, .string ⟨#[]⟩, .int .i64 0, .int .i64 0, .int .i64 0, .int .i64 0, .int .i64 0, .int .i64 0, .slice none 0 0, .int .i64 0, .int .i64 0, .int .i64 0] 75)
        have cx := At.cell he1
        go_wp2_with fail
        refine (hone.out _).mono ?_
        rintro e w9 ⟨rfl, k9⟩
        have kk := kB
        have he9 := Keep.at k9 he1 (fun e => e)
        have cx9 := At.cell he9
        replace im1 := im1.keep (kk.trans k9) (fun e => e)
        replace im2 := im2.keep (kk.trans k9) (fun e => e)
        have hah : Hid (∀ x, lastOf (l.take k) cl = some x → x.ahead ⟨cl, n, ⟨co, cy, ct, cv, cf, cg, cs⟩, code, .slice pA pN pC, bg, pt, en⟩ = true) := Lib.hid (fun x hx => by rw [hlo] at hx; cases hx)
        clear i0 i1 i2 i3 i4 i5 i6 i7 i8 i9 i10 i11 i12 i13 he0 he1 hbz cx q6 kA hahe hlast hone
        cases ho : Event.one ⟨cl, n, ⟨co, cy, ct, cv, cf, cg, cs⟩, code, .slice pA pN pC, bg, pt, en⟩
        · have hno : ¬ FineE l := fun hf => by
            have := (hfx.out hf).1
            rw [ho] at this; cases this
          replace hno := Lib.hid hno
          replace ho := Lib.hid ho
          go_wp2_with fail
          go_ret
          exact ⟨false, rfl, ⟨fun h => (by cases h), fun h => absurd h hno.out⟩, k00.trans (kk.trans k9)⟩
        · replace ho := Lib.hid ho
          by_cases hnn : n = 0
          · have hnb : (n != 0) = false := by simp [hnn]
            have hn2 : Hid (n = (match lastOf (l.take k) cl with | some x => x.n + 1 | none => 0)) := Lib.hid (by rw [hlo]; exact hnn)
            clear hnn hlo e6
            by_cases hp : pt = 0
            · have hpb : (pt != 0) = false := by simp [hp]
              have hcode : codeAt (l.take k) ⟨cl, n, ⟨co, cy, ct, cv, cf, cg, cs⟩, code, .slice pA pN pC, bg, pt, en⟩ := ⟨ho.out, hn2.out, hah.out, fun h => absurd hp h⟩
              replace hcode := Lib.hid hcode
              clear hp
              obtain ⟨w10, r10, im1', k10⟩ := im1.store (t := 163) Tryz.underlying163 (by unfold maxLen; omega) cl hcl (.agg #[.int .i64 cl, .int .i64 n, .int .i64 co, .string cy, .int .i64 ct, .int .i64 cv, .int .i64 cf, .int .i64 cg, .int .i64 cs, .int .i64 code, .slice pA pN pC, .int .i64 bg, .int .i64 pt, .int .i64 en])
              have im2' := im2.keep k10 (fun e => hb12 e.symm)
              have q13 := im2'.look (t := 164) Tryz.underlying164 (zero_int _) pt hpt
              rw [ptsMap_get] at q13
              have hcn := cntP_le (l.take k) pt
              have htk : (l.take k).length ≤ 100 := by rw [List.length_take]; omega
              obtain ⟨w11, r11, im2'', k11⟩ := im2'.store (t := 164) Tryz.underlying164 (by unfold maxLen; omega) pt hpt (.int .i64 ((cntP (l.take k) pt : Int) + 1))
              have im1'' := im1'.keep k11 (fun e => hb12 e)
              have cx10 := At.cell (Keep.at k10 he9 (fun e => hb1e e.symm))
              have cn1 : ((cntP (l.take k) pt : Nat) : Int) + 1 ≤ 9223372036854775807 := by omega
              have kfin := Keep.fresh (Keep.fresh (k00.trans (kk.trans k9)) k10 (fun z hz e => by unfold one at e; omega)) k11 (fun z hz e => by unfold one at e; omega)
              have hsnoc : l.take (k + 1) = l.take k ++ [⟨cl, n, ⟨co, cy, ct, cv, cf, cg, cs⟩, code, .slice pA pN pC, bg, pt, en⟩] := htake.out
              have L1 := lastMap_snoc (l.take k) ⟨cl, n, ⟨co, cy, ct, cv, cf, cg, cs⟩, code, .slice pA pN pC, bg, pt, en⟩
              have L2 := ptsMap_snoc (l.take k) ⟨cl, n, ⟨co, cy, ct, cv, cf, cg, cs⟩, code, .slice pA pN pC, bg, pt, en⟩
              rw [← hsnoc] at L1 L2
              simp only [Event.cells] at L1 L2
              rw [← L1] at im1''
              rw [← L2] at im2''
              have hF2 : FineE (l.take (k + 1)) := by rw [hsnoc]; exact .snoc _ _ hF.out ((codeAt_iff hF.out _).1 hcode.out)
              replace hF2 := Lib.hid hF2
              clear L1 L2 hsnoc im1 im2 im1' im2'
              generalize cntP (l.take k) pt = cn at *
              go_wp2_with fail
              go_roundw
              case rel => exact ⟨k + 1, by go_num, by omega, im1'', im2'', hF2, kfin⟩
              case measure => simp [intOf]; omega
            · have hpb : (pt != 0) = true := by simp [hp]
              have q9 := im2.look (t := 164) Tryz.underlying164 (zero_int _) pt hpt
              rw [ptsMap_get] at q9
              by_cases h0 : cntP (l.take k) pt = 0
              · have hcode : codeAt (l.take k) ⟨cl, n, ⟨co, cy, ct, cv, cf, cg, cs⟩, code, .slice pA pN pC, bg, pt, en⟩ := ⟨ho.out, hn2.out, hah.out, fun _ => h0⟩
                rw [h0] at q9
                replace hcode := Lib.hid hcode
                replace h0 := Lib.hid h0
                clear hp
                obtain ⟨w10, r10, im1', k10⟩ := im1.store (t := 163) Tryz.underlying163 (by unfold maxLen; omega) cl hcl (.agg #[.int .i64 cl, .int .i64 n, .int .i64 co, .string cy, .int .i64 ct, .int .i64 cv, .int .i64 cf, .int .i64 cg, .int .i64 cs, .int .i64 code, .slice pA pN pC, .int .i64 bg, .int .i64 pt, .int .i64 en])
                have im2' := im2.keep k10 (fun e => hb12 e.symm)
                have q13 := im2'.look (t := 164) Tryz.underlying164 (zero_int _) pt hpt
                rw [ptsMap_get] at q13
                have hcn := cntP_le (l.take k) pt
                have htk : (l.take k).length ≤ 100 := by rw [List.length_take]; omega
                obtain ⟨w11, r11, im2'', k11⟩ := im2'.store (t := 164) Tryz.underlying164 (by unfold maxLen; omega) pt hpt (.int .i64 ((cntP (l.take k) pt : Int) + 1))
                have im1'' := im1'.keep k11 (fun e => hb12 e)
                have cx10 := At.cell (Keep.at k10 he9 (fun e => hb1e e.symm))
                have cn1 : ((cntP (l.take k) pt : Nat) : Int) + 1 ≤ 9223372036854775807 := by omega
                have kfin := Keep.fresh (Keep.fresh (k00.trans (kk.trans k9)) k10 (fun z hz e => by unfold one at e; omega)) k11 (fun z hz e => by unfold one at e; omega)
                have hsnoc : l.take (k + 1) = l.take k ++ [⟨cl, n, ⟨co, cy, ct, cv, cf, cg, cs⟩, code, .slice pA pN pC, bg, pt, en⟩] := htake.out
                have L1 := lastMap_snoc (l.take k) ⟨cl, n, ⟨co, cy, ct, cv, cf, cg, cs⟩, code, .slice pA pN pC, bg, pt, en⟩
                have L2 := ptsMap_snoc (l.take k) ⟨cl, n, ⟨co, cy, ct, cv, cf, cg, cs⟩, code, .slice pA pN pC, bg, pt, en⟩
                rw [← hsnoc] at L1 L2
                simp only [Event.cells] at L1 L2
                rw [← L1] at im1''
                rw [← L2] at im2''
                have hF2 : FineE (l.take (k + 1)) := by rw [hsnoc]; exact .snoc _ _ hF.out ((codeAt_iff hF.out _).1 hcode.out)
                replace hF2 := Lib.hid hF2
                clear L1 L2 hsnoc im1 im2 im1' im2'
                generalize cntP (l.take k) pt = cn at *
                go_wp2_with fail
                go_roundw
                case rel => exact ⟨k + 1, by go_num, by omega, im1'', im2'', hF2, kfin⟩
                case measure => simp [intOf]; omega
              · have hno : ¬ FineE l := fun hf => by
                  have := hfx.out hf
                  exact h0 (this.2.2.2 hp)
                replace hno := Lib.hid hno
                have hc0 : (0 : Int) < ((cntP (l.take k) pt : Nat) : Int) := by omega
                generalize cntP (l.take k) pt = cn at *
                clear hp h0
                go_wp2_with fail
                go_ret
                exact ⟨false, rfl, ⟨fun h => (by cases h), fun h => absurd h hno.out⟩, k00.trans (kk.trans k9)⟩
          · have hnb : (n != 0) = true := by simp [hnn]
            have hno : ¬ FineE l := fun hf => by
              have := (hfx.out hf).2.1
              simp only at this
              rw [hlo] at this
              exact hnn this
            replace hno := Lib.hid hno
            clear hnn
            go_wp2_with fail
            go_ret
            exact ⟨false, rfl, ⟨fun h => (by cases h), fun h => absurd h hno.out⟩, k00.trans (kk.trans k9)⟩
      | some x =>
        have e6 : lastMap (l.take k) cl = some (.agg x.cells.toArray) := by unfold lastMap; rw [hlo]; rfl
        rw [e6] at q6
        simp only [Option.getD_some, Option.isSome_some] at q6
        obtain ⟨-, -, hcnt, -, -, -⟩ := hF.out.last hlo
        have hcl2 := cntC_le (l.take k) cl
        rw [List.length_take] at hcl2
        have hxn : x.n + 1 ≤ 100 := by omega
        have hxn0 : 0 ≤ x.n + 1 := by omega
        obtain ⟨xA, xN, xC, hxp⟩ := (hok x (hlast x hlo)).panes
        have hahe' := hahe x
        clear hcnt hcl2 hahe
        obtain ⟨xcl, xn, ⟨xco, xcy, xct, xcv, xcf, xcg, xcs⟩, xcode, xpn, xbg, xpt, xen⟩ := x
        simp only at hxp hxn hxn0
        subst hxp
        simp only [Event.cells] at q6 hahe'
        replace hone := Lib.hid hone
        replace hahe' := Lib.hid hahe'
        have hbz := At.newAt (n := wr.heap.size + 1) (w := wr.alloc (.cells #[.int .i64 cl, .int .i64 n, .int .i64 co, .string cy, .int .i64 ct, .int .i64 cv, .int .i64 cf, .int .i64 cg, .int .i64 cs, .int .i64 code, .slice pA pN pC, .int .i64 bg, .int .i64 pt, .int .i64 en] 75)) (by simp) #[.int .i64 xcl, .int .i64 xn, .int .i64 xco, .string xcy, .int .i64 xct, .int .i64 xcv, .int .i64 xcf, .int .i64 xcg, .int .i64 xcs, .int .i64 xcode, .slice xA xN xC, .int .i64 xbg, .int .i64 xpt, .int .i64 xen] 75
        have he1 := At.alloc he0 (.cells #[.int .i64 xcl, .int .i64 xn, .int .i64 xco, .string xcy, .int .i64 xct, .int .i64 xcv, .int .i64 xcf, .int .i64 xcg, .int .i64 xcs, .int .i64 xcode, .slice xA xN xC, .int .i64 xbg, .int .i64 xpt, .int .i64 xen] 75)
        have kB : Keep none_ wr _ := Keep.alloc kA (.cells #[.int .i64 xcl, .int .i64 xn, .int .i64 xco, .string xcy, .int .i64 xct, .int .i64 xcv, .int .i64 xcf, .int .i64 xcg, .int .i64 xcs, .int .i64 xcode, .slice xA xN xC, .int .i64 xbg, .int .i64 xpt, .int .i64 xen] 75)
        have cx := At.cell he1
        have cz := At.cell hbz
        obtain ⟨xn1, hxn1⟩ : ∃ xn1, xn1 = xn + 1 := ⟨_, rfl⟩
        rw [← hxn1] at hxn hxn0
        have exn : xn + 1 = xn1 := hxn1.symm
        have exw : IntKind.i64.wrap xn1 = xn1 := by rw [IntKind.wrap_i64]; omega
        replace hxn1 := Lib.hid hxn1
        replace hlo := Lib.hid hlo
        go_wp2_with fail
        refine (hone.out _).mono ?_
        rintro e w8 ⟨rfl, k8⟩
        have kk := kB.trans k8
        have he8 := Keep.at k8 he1 (fun e => e)
        have hb8 := Keep.at k8 hbz (fun e => e)
        have cx8 := At.cell he8
        have cz8 := At.cell hb8
        clear i0 i1 i2 i3 i4 i5 i6 i7 i8 i9 i10 i11 i12 i13 he0 he1 hbz cx cz q6 kA hlast hone kB
        cases ho : Event.one ⟨cl, n, ⟨co, cy, ct, cv, cf, cg, cs⟩, code, .slice pA pN pC, bg, pt, en⟩
        · have hno : ¬ FineE l := fun hf => by
            have := (hfx.out hf).1
            rw [ho] at this; cases this
          replace hno := Lib.hid hno
          replace ho := Lib.hid ho
          go_wp2_with fail
          go_ret
          exact ⟨false, rfl, ⟨fun h => (by cases h), fun h => absurd h hno.out⟩, k00.trans kk⟩
        · replace ho := Lib.hid ho
          by_cases hnn : n = xn1
          · have hnb : (n != xn1) = false := by simp [hnn]
            have hn2 : Hid (n = (match lastOf (l.take k) cl with | some x => x.n + 1 | none => 0)) := Lib.hid (by rw [hlo.out]; simp only; rw [hnn, hxn1.out])
            replace hnn := Lib.hid hnn
            clear e6
            go_wp2_with fail
            refine (hahe'.out _).mono ?_
            rintro e w9 ⟨rfl, k9⟩
            have he9 := Keep.at k9 he8 (fun e => e)
            have cx9 := At.cell he9
            replace im1 := im1.keep (kk.trans k9) (fun e => e)
            replace im2 := im2.keep (kk.trans k9) (fun e => e)
            clear cx8 cz8 he8 hb8 hahe'
            cases hq : Event.ahead ⟨xcl, xn, ⟨xco, xcy, xct, xcv, xcf, xcg, xcs⟩, xcode, .slice xA xN xC, xbg, xpt, xen⟩ ⟨cl, n, ⟨co, cy, ct, cv, cf, cg, cs⟩, code, .slice pA pN pC, bg, pt, en⟩
            · have hno : ¬ FineE l := fun hf => by
                have := (hfx.out hf).2.2.1 _ hlo.out
                rw [hq] at this; cases this
              replace hno := Lib.hid hno
              replace hq := Lib.hid hq
              go_wp2_with fail
              go_ret
              exact ⟨false, rfl, ⟨fun h => (by cases h), fun h => absurd h hno.out⟩, k00.trans (kk.trans k9)⟩
            · have hah : Hid (∀ x, lastOf (l.take k) cl = some x → x.ahead ⟨cl, n, ⟨co, cy, ct, cv, cf, cg, cs⟩, code, .slice pA pN pC, bg, pt, en⟩ = true) := Lib.hid (fun x hx => by
                rw [hlo.out] at hx
                rw [← Option.some.inj hx]; exact hq)
              replace hq := Lib.hid hq
              by_cases hp : pt = 0
              · have hpb : (pt != 0) = false := by simp [hp]
                have hcode : codeAt (l.take k) ⟨cl, n, ⟨co, cy, ct, cv, cf, cg, cs⟩, code, .slice pA pN pC, bg, pt, en⟩ := ⟨ho.out, hn2.out, hah.out, fun h => absurd hp h⟩
                replace hcode := Lib.hid hcode
                clear hp
                obtain ⟨w10, r10, im1', k10⟩ := im1.store (t := 163) Tryz.underlying163 (by unfold maxLen; omega) cl hcl (.agg #[.int .i64 cl, .int .i64 n, .int .i64 co, .string cy, .int .i64 ct, .int .i64 cv, .int .i64 cf, .int .i64 cg, .int .i64 cs, .int .i64 code, .slice pA pN pC, .int .i64 bg, .int .i64 pt, .int .i64 en])
                have im2' := im2.keep k10 (fun e => hb12 e.symm)
                have q13 := im2'.look (t := 164) Tryz.underlying164 (zero_int _) pt hpt
                rw [ptsMap_get] at q13
                have hcn := cntP_le (l.take k) pt
                have htk : (l.take k).length ≤ 100 := by rw [List.length_take]; omega
                obtain ⟨w11, r11, im2'', k11⟩ := im2'.store (t := 164) Tryz.underlying164 (by unfold maxLen; omega) pt hpt (.int .i64 ((cntP (l.take k) pt : Int) + 1))
                have im1'' := im1'.keep k11 (fun e => hb12 e)
                have cx10 := At.cell (Keep.at k10 he9 (fun e => hb1e e.symm))
                have cn1 : ((cntP (l.take k) pt : Nat) : Int) + 1 ≤ 9223372036854775807 := by omega
                have kfin := Keep.fresh (Keep.fresh (k00.trans (kk.trans k9)) k10 (fun z hz e => by unfold one at e; omega)) k11 (fun z hz e => by unfold one at e; omega)
                have hsnoc : l.take (k + 1) = l.take k ++ [⟨cl, n, ⟨co, cy, ct, cv, cf, cg, cs⟩, code, .slice pA pN pC, bg, pt, en⟩] := htake.out
                have L1 := lastMap_snoc (l.take k) ⟨cl, n, ⟨co, cy, ct, cv, cf, cg, cs⟩, code, .slice pA pN pC, bg, pt, en⟩
                have L2 := ptsMap_snoc (l.take k) ⟨cl, n, ⟨co, cy, ct, cv, cf, cg, cs⟩, code, .slice pA pN pC, bg, pt, en⟩
                rw [← hsnoc] at L1 L2
                simp only [Event.cells] at L1 L2
                rw [← L1] at im1''
                rw [← L2] at im2''
                have hF2 : FineE (l.take (k + 1)) := by rw [hsnoc]; exact .snoc _ _ hF.out ((codeAt_iff hF.out _).1 hcode.out)
                replace hF2 := Lib.hid hF2
                clear L1 L2 hsnoc im1 im2 im1' im2'
                generalize cntP (l.take k) pt = cn at *
                go_wp2_with fail
                go_roundw
                case rel => exact ⟨k + 1, by go_num, by omega, im1'', im2'', hF2, kfin⟩
                case measure => simp [intOf]; omega
              · have hpb : (pt != 0) = true := by simp [hp]
                have q9 := im2.look (t := 164) Tryz.underlying164 (zero_int _) pt hpt
                rw [ptsMap_get] at q9
                by_cases h0 : cntP (l.take k) pt = 0
                · have hcode : codeAt (l.take k) ⟨cl, n, ⟨co, cy, ct, cv, cf, cg, cs⟩, code, .slice pA pN pC, bg, pt, en⟩ := ⟨ho.out, hn2.out, hah.out, fun _ => h0⟩
                  rw [h0] at q9
                  replace hcode := Lib.hid hcode
                  replace h0 := Lib.hid h0
                  clear hp
                  obtain ⟨w10, r10, im1', k10⟩ := im1.store (t := 163) Tryz.underlying163 (by unfold maxLen; omega) cl hcl (.agg #[.int .i64 cl, .int .i64 n, .int .i64 co, .string cy, .int .i64 ct, .int .i64 cv, .int .i64 cf, .int .i64 cg, .int .i64 cs, .int .i64 code, .slice pA pN pC, .int .i64 bg, .int .i64 pt, .int .i64 en])
                  have im2' := im2.keep k10 (fun e => hb12 e.symm)
                  have q13 := im2'.look (t := 164) Tryz.underlying164 (zero_int _) pt hpt
                  rw [ptsMap_get] at q13
                  have hcn := cntP_le (l.take k) pt
                  have htk : (l.take k).length ≤ 100 := by rw [List.length_take]; omega
                  obtain ⟨w11, r11, im2'', k11⟩ := im2'.store (t := 164) Tryz.underlying164 (by unfold maxLen; omega) pt hpt (.int .i64 ((cntP (l.take k) pt : Int) + 1))
                  have im1'' := im1'.keep k11 (fun e => hb12 e)
                  have cx10 := At.cell (Keep.at k10 he9 (fun e => hb1e e.symm))
                  have cn1 : ((cntP (l.take k) pt : Nat) : Int) + 1 ≤ 9223372036854775807 := by omega
                  have kfin := Keep.fresh (Keep.fresh (k00.trans (kk.trans k9)) k10 (fun z hz e => by unfold one at e; omega)) k11 (fun z hz e => by unfold one at e; omega)
                  have hsnoc : l.take (k + 1) = l.take k ++ [⟨cl, n, ⟨co, cy, ct, cv, cf, cg, cs⟩, code, .slice pA pN pC, bg, pt, en⟩] := htake.out
                  have L1 := lastMap_snoc (l.take k) ⟨cl, n, ⟨co, cy, ct, cv, cf, cg, cs⟩, code, .slice pA pN pC, bg, pt, en⟩
                  have L2 := ptsMap_snoc (l.take k) ⟨cl, n, ⟨co, cy, ct, cv, cf, cg, cs⟩, code, .slice pA pN pC, bg, pt, en⟩
                  rw [← hsnoc] at L1 L2
                  simp only [Event.cells] at L1 L2
                  rw [← L1] at im1''
                  rw [← L2] at im2''
                  have hF2 : FineE (l.take (k + 1)) := by rw [hsnoc]; exact .snoc _ _ hF.out ((codeAt_iff hF.out _).1 hcode.out)
                  replace hF2 := Lib.hid hF2
                  clear L1 L2 hsnoc im1 im2 im1' im2'
                  generalize cntP (l.take k) pt = cn at *
                  go_wp2_with fail
                  go_roundw
                  case rel => exact ⟨k + 1, by go_num, by omega, im1'', im2'', hF2, kfin⟩
                  case measure => simp [intOf]; omega
                · have hno : ¬ FineE l := fun hf => by
                    have := hfx.out hf
                    exact h0 (this.2.2.2 hp)
                  replace hno := Lib.hid hno
                  have hc0 : (0 : Int) < ((cntP (l.take k) pt : Nat) : Int) := by omega
                  generalize cntP (l.take k) pt = cn at *
                  clear hp h0
                  go_wp2_with fail
                  go_ret
                  exact ⟨false, rfl, ⟨fun h => (by cases h), fun h => absurd h hno.out⟩, k00.trans (kk.trans k9)⟩
          · have hnb : (n != xn1) = true := by simp [hnn]
            have hno : ¬ FineE l := fun hf => by
              have := (hfx.out hf).2.1
              simp only at this
              rw [hlo.out] at this
              simp only at this
              rw [hxn1.out] at hnn
              exact hnn this
            replace hno := Lib.hid hno
            clear hnn
            go_wp2_with fail
            go_ret
            exact ⟨false, rfl, ⟨fun h => (by cases h), fun h => absurd h hno.out⟩, k00.trans kk⟩
    · obtain rfl : k = l.length := by omega
      have hfin : FineE l := by have := hF.out; rwa [List.take_length] at this
      go_wp2_with fail
      go_ret
      exact ⟨true, rfl, ⟨fun _ => hfin, fun _ => rfl⟩, k00⟩
end Go.Proofs.YtmioichjhiengaaGreat
