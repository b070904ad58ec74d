/-
  pane.Merge.
-/
import Derived.Test.YtmioichjhiengaaGreatBasePane
import Derived.Deep.CutRange
set_option linter.unusedSimpArgs false
set_option linter.unusedVariables false
namespace Go.Proofs.YtmioichjhiengaaGreat
open Go.RowKit

set_option maxHeartbeats 4000000 in
set_option maxRecDepth 100000 in
theorem pane_merge {w : World} {A : Option Addr} {n c : Nat} {xs : List Pane} (h : Sl Pane.cells 7 w A n c xs) (hs : SortedP xs) (hok : ∀ p ∈ xs, p.ok) (hn : n ≤ 800000) (key : ByteArray) (s : Span) (v : Int) (hv : I64 v) :
    Calls Tryz.prog 86 #[.slice A n c, .string key, .agg s.cells.toArray, .int .i64 v] w (Merged w key s v xs) := by
  have hlen := h.len
  have hmf : ∀ (fn : Fn) (first cap : Array Value) (w : World), (Instr.makeFunc fn first cap).run Tryz.prog w = .ok (.func fn first cap) w := fun _ _ _ _ => rfl
  have kk : Keep none_ w ((w.alloc (.cells s.cells.toArray 84)).alloc (.cells #[.int .i64 0, .int .i64 0] 84)) := (by repeat' (first | assumption | with_reducible exact Keep.refl _ _ | with_reducible refine Keep.alloc ?_ _ | with_reducible refine Keep.drew ?_))
  have hx := At.alloc (At.new w s.cells.toArray 84) (.cells #[.int .i64 0, .int .i64 0] 84)
  have hr := At.newAt (w := w.alloc (.cells s.cells.toArray 84)) (n := w.heap.size + 1) (by simp) #[.int .i64 0, .int .i64 0] 84
  have hsz : ((w.alloc (.cells s.cells.toArray 84)).alloc (.cells #[.int .i64 0, .int .i64 0] 84)).heap.size = w.heap.size + 2 := by simp
  simp only [Span.cells] at kk hx hr hsz ⊢
  replace hlen := Lib.hid hlen
  go_enter Tryz.func86, Tryz.ntmps86
  go_wp2_with fail
  generalize (w.alloc _).alloc _ = w0 at *
  generalize hsb : w.heap.size = sb at *
  generalize hrb : sb + 1 = rb at *
  have cs := At.cell hx
  have hxs := Lib.hid (fun W (k : Keep none_ w0 W) => At.cell (Keep.at k hx (fun e => e)))
  have hw0l : sb < w0.heap.size := hx.lt
  go_cut [11] from 18 to 22 (fun pv w' => ∃ pb, pv = .pointer (some ⟨pb, 0, none⟩) ∧ At w' pb #[.string key, .int .i64 s.s, .int .i64 s.e, .int .i64 1, .int .i64 v, .int .i64 v, .int .i64 v] 88 ∧ Keep none_ w0 w' ∧ w0.heap.size ≤ pb)
  case first =>
    go_region_with (first
        | (go_at_call 114; refine (agg_of_x _ _).mono ?_; rintro e wA ⟨rfl, rfl⟩))
    all_goals
      go_wp2_with fail
      go_meet
      first
        | exact ⟨sb + 2, rfl, At.drew (At.alloc (At.newAt hsz.symm _ _) _), (by repeat' (first | assumption | with_reducible exact Keep.refl _ _ | with_reducible refine Keep.alloc ?_ _ | with_reducible refine Keep.drew ?_)), by omega⟩
        | exact ⟨sb + 2 + 1, rfl, At.drew (At.newAt (by simp [hsz]) _ _), (by repeat' (first | assumption | with_reducible exact Keep.refl _ _ | with_reducible refine Keep.alloc ?_ _ | with_reducible refine Keep.drew ?_)), by omega⟩
  case rest =>
    obtain ⟨pb, rfl, hp, k0, hpb⟩ := hcut
    replace hx := Keep.at k0 hx (fun e => e)
    replace hr := Keep.at k0 hr (fun e => e)
    have kw := kk.trans k0
    have hpl := hp.lt
    have hm0 : MInv w wc wc.heap.size pb sb rb key s v (xs.take 0) (.slice none 0 0) (.slice none 0 0) := ⟨⟨rfl, .inl ⟨rfl, rfl⟩⟩, ⟨rfl, .inl ⟨rfl, rfl⟩⟩, (fun g e => by cases e), hp, hx, hr, kw, Nat.le_refl _⟩
    have hsbl : sb < wc.heap.size := hx.lt
    have hrbl : rb < wc.heap.size := hr.lt
    have hwb : w.heap.size ≤ wc.heap.size := kw.size
    generalize wc.heap.size = base at *
    have L : MLow w base pb sb rb := ⟨hpl, hsbl, hrbl, by omega, by omega, by omega⟩
    clear cs hxs hx hr hp kk k0 kw hsz hw0l hpb
    go_wp2_with fail
    go_loopw [12, 13, 15, 25] (fun vo vg _ kv wr => ∃ k : Nat, kv = .int .i64 k ∧ k ≤ n ∧ MInv w wr base pb sb rb key s v (xs.take k) vo vg)
      (fun _ _ _ kv _ => n - (intOf kv).toNat)
    case atStart => exact ⟨0, rfl, Nat.zero_le _, hm0⟩
    case round =>
      clear hm0
      obtain ⟨k, rfl, hk, hm⟩ := hrel
      by_cases hlt : k < n
      · have hkx : k < xs.length := by have := hlen.out; omega
        have hsl := h.keep hm.keep Off.none_
        obtain ⟨b, off, rfl, hbl, -⟩ := hsl.at_ (by omega)
        obtain ⟨q0, q1, q2, q3, q4, q5, q6⟩ := hsl.pane hkx
        have ha := accP_succ (key := key) (s := s) (v := v) hkx
        have ho := outP_succ (s := s) hkx
        have hg := metP_succ (s := s) hkx
        have hxok := hok _ (List.getElem_mem hkx)
        have haok := accP_ok (key := key) (s := s) hv (xs := xs.take k) (fun x hx => hok x (List.mem_of_mem_take hx))
        generalize xs[k] = x at *
        have hlt' : (k : Int) < (n : Int) := by omega
        have hk0 := Int.natCast_nonneg k
        have hol : (outP (xs.take k) s).length ≤ 800000 := Nat.le_trans (List.length_filter_le _ _) (by rw [List.length_take]; omega)
        have hgl : ((metP (xs.take k) s).map (·.span)).length ≤ 800000 := by rw [List.length_map]; exact Nat.le_trans (List.length_filter_le _ _) (by rw [List.length_take]; omega)
        have hnx := At.new wr x.cells.toArray 88
        have k1 : Keep none_ wr (wr.alloc (.cells x.cells.toArray 88)) := (by repeat' (first | assumption | with_reducible exact Keep.refl _ _ | with_reducible refine Keep.alloc ?_ _ | with_reducible refine Keep.drew ?_))
        have cs := At.cell (Keep.at k1 hm.sp (fun e => e))
        have c2 := fun W => span_meet W x.span s
        obtain ⟨bb, hbb⟩ : ∃ bb, bb = x.span.meetB s := ⟨_, rfl⟩
        rw [← hbb] at c2 ha ho hg
        simp only [Span.cells, Pane.cells] at c2 cs hnx k1 q0 q1 q2 q3 q4 q5 q6
        replace ha := Lib.hid ha
        replace ho := Lib.hid ho
        replace hg := Lib.hid hg
        replace c2 := Lib.hid c2
        have hbs := hm.size
        clear hsl
        go_wp2_with fail
        refine (c2.out _).mono ?_
        rintro e w1 ⟨rfl, k2⟩
        have hn1 := Keep.at k2 hnx (fun e => e)
        have k12 := k1.trans k2
        have cn := At.cell hn1
        have hs12 := k12.size
        clear c2 q0 q1 q2 q3 q4 q5 q6 cs hnx k1 k2 hbb
        cases bb
        · have hsl1 := Sl.of_at (xs := [x]) (At.new w1 x.cells.toArray 88) pane_len (by decide) (rfl : (1 : Nat) = [x].length) (by simp [flat_one]) (by unfold maxLen; omega)
          have kb : Keep none_ wr (w1.alloc (.cells x.cells.toArray 88)) := Keep.alloc k12 _
          have own1 := own_keep hm.out kb (fun _ _ e => e)
          simp only [Pane.cells] at hsl1 kb own1
          have hbase1 : base ≤ (w1.alloc (.cells #[.string x.key, .int .i64 x.span.s, .int .i64 x.span.e, .int .i64 x.agg.count, .int .i64 x.agg.sum, .int .i64 x.agg.lo, .int .i64 x.agg.hi] 88)).heap.size := by simp; omega
          go_wp2_with (at_builtin; refine wpList_append_sl _ rfl _ _ _ rfl base 88 row_pane pane_len pane_one _ _ _ rfl own1 (some ⟨w1.heap.size, 0, none⟩) 1 1 [x] rfl hsl1 (by omega) hbase1 ?_)
          intro vo' w2 own2 hg2 hb2
          have hm' := hm.addOut (l' := xs.take (k + 1)) L kb own2 rfl hg2 (by simpa using hb2) (by rw [ho.out]; rfl) (by rw [hg.out]; simp) (by rw [ha.out]; rfl)
          clear hm own1 own2 hg2 hb2 hsl1 kb cn hn1
          go_wp2_with fail
          go_roundw
          case rel => exact ⟨k + 1, by go_num, by omega, hm'⟩
          case measure => simp [intOf]; omega
        · have hp1 := Keep.at k12 hm.pane (fun e => e)
          obtain ⟨p, hp⟩ : ∃ p, p = accP key s v (xs.take k) := ⟨_, rfl⟩
          rw [← hp] at hp1 haok
          have hstep : accP key s v (xs.take (k + 1)) = mergeStep p x := by rw [ha.out, hp]; rfl
          replace hstep := Lib.hid hstep
          obtain ⟨tb, htb⟩ : ∃ tb, tb = wr.heap.size := ⟨_, rfl⟩
          rw [← htb] at cn hn1 ⊢
          have hne : tb ≠ pb := by have := L.p_lt; omega
          have hne2 : pb ≠ tb := fun e => hne e.symm
          have cp1 := At.cell hp1
          have c3 := Lib.hid (fun W => span_join W p.span x.span)
          have c4 := Lib.hid (fun W => agg_merge W p.agg x.agg haok hxok.2.2)
          obtain ⟨js, hjs⟩ : ∃ js, js = p.span.join x.span := ⟨_, rfl⟩
          rw [← hjs] at c3
          obtain ⟨ja, hja⟩ : ∃ ja, ja = p.agg.merge x.agg := ⟨_, rfl⟩
          rw [← hja] at c4
          replace hjs := Lib.hid hjs
          replace hja := Lib.hid hja
          simp only [Span.cells, Agg.cells, Pane.cells] at c3 c4 cp1 hp1
          clear hp htb haok hxok
          go_wp2_with fail
          refine (c3.out _).mono ?_
          rintro e w3 ⟨rfl, k3⟩
          have hp3 := Keep.at k3 hp1 (fun e => e)
          have hn3 := Keep.at k3 hn1 (fun e => e)
          have cp3 := At.cell hp3
          have fp3 := At.frozen hp3
          have cn3 := At.cell hn3
          clear c3 cp1 hp1 hn1 cn
          go_wp2_with fail
          refine (c4.out _).mono ?_
          rintro e w4 ⟨rfl, k4⟩
          have hp4 := Keep.at k4 (At.set (At.set hp3 1 (.int .i64 js.s)) 2 (.int .i64 js.e)) (fun e => e)
          have hn4 := Keep.at k4 (At.set_other (At.set_other hn3 (a := ⟨pb, 1, none⟩) hne2 (.int .i64 js.s)) (a := ⟨pb, 2, none⟩) hne2 (.int .i64 js.e)) (fun e => e)
          have k14 : Keep (one pb) wr w4 := (Keep.set1 (Keep.set1 (k12.trans k3).of_none _) _).trans k4.of_none
          simp only [List.setIfInBounds_toArray, List.set_cons_succ, List.set_cons_zero] at hp4
          have cp4 := At.cell hp4
          have fp4 := At.frozen hp4
          have cn4 := At.cell hn4
          have k5 := Keep.set1 (i := 6) (Keep.set1 (i := 5) (Keep.set1 (i := 4) (Keep.set1 (i := 3) k14 (.int .i64 ja.count)) (.int .i64 ja.sum)) (.int .i64 ja.lo)) (.int .i64 ja.hi)
          have hp5 := At.set (At.set (At.set (At.set hp4 3 (.int .i64 ja.count)) 4 (.int .i64 ja.sum)) 5 (.int .i64 ja.lo)) 6 (.int .i64 ja.hi)
          simp only [List.setIfInBounds_toArray, List.set_cons_succ, List.set_cons_zero] at hp5
          have hs5 := k5.size
          have hsz5 : (World.setCell (World.setCell (World.setCell (World.setCell w4 ⟨pb, 3, none⟩ (.int .i64 ja.count)) ⟨pb, 4, none⟩ (.int .i64 ja.sum)) ⟨pb, 5, none⟩ (.int .i64 ja.lo)) ⟨pb, 6, none⟩ (.int .i64 ja.hi)).heap.size = w4.heap.size := by simp
          clear c4 hp3 hn3 hn4 k4 k14 k3 cp3 fp3 cn3 hp4
          generalize hW5 : World.setCell (World.setCell (World.setCell (World.setCell w4 ⟨pb, 3, none⟩ _) ⟨pb, 4, none⟩ _) ⟨pb, 5, none⟩ _) ⟨pb, 6, none⟩ _ = W5 at *
          have kb := Keep.alloc k5 (.cells x.span.cells.toArray 84)
          have hpA := At.alloc hp5 (.cells x.span.cells.toArray 84)
          have hsl5 := Sl.of_at (xs := [x.span]) (At.newAt (w := W5) (n := w4.heap.size) hsz5.symm x.span.cells.toArray 84) span_len (by decide) (rfl : (1 : Nat) = [x.span].length) (by simp [flat_one]) (by unfold maxLen; omega)
          have own5 := own_keep hm.gone kb (fun g hg e => by have := own_of_ge hm.gone g hg; have := L.p_lt; unfold one at e; omega)
          have hbase5 : base ≤ (W5.alloc (.cells x.span.cells.toArray 84)).heap.size := by simp; omega
          simp only [Span.cells] at kb hpA hsl5 own5 hbase5
          subst hW5
          go_wp2_with (at_builtin; refine wpList_append_sl _ rfl _ _ _ rfl base 84 row_span span_len span_one _ _ _ rfl own5 (some ⟨w4.heap.size, 0, none⟩) 1 1 [x.span] rfl hsl5 (by omega) hbase5 ?_)
          intro vg' w5 own6 hg5 hb5
          have hm' := hm.addGone (l' := xs.take (k + 1)) L kb own6 (by simp) hg5 (by simpa using hb5) (by rw [ho.out]; simp) (by rw [hg.out]; rfl) (by
            rw [hstep.out]
            show At _ pb #[.string p.key, .int .i64 (p.span.join x.span).s, .int .i64 (p.span.join x.span).e, .int .i64 (p.agg.merge x.agg).count, .int .i64 (p.agg.merge x.agg).sum, .int .i64 (p.agg.merge x.agg).lo, .int .i64 (p.agg.merge x.agg).hi] _
            rw [← hjs.out, ← hja.out]
            exact hpA)
          clear hm own5 own6 hg5 hb5 hsl5 kb hpA hp5 k5 cp4 fp4 cn4 hbase5 hsz5
          go_wp2_with fail
          go_roundw
          case rel => exact ⟨k + 1, by go_num, by omega, hm'⟩
          case measure => simp [intOf]; omega
      · obtain rfl : k = n := by omega
        have htk : xs.take k = xs := by rw [hlen.out, List.take_length]
        rw [htk] at hm
        have hok' : ∀ p ∈ outP xs s, p.ok := fun p hp => hok p (List.mem_filter.1 hp).1
        have hso : SortedP (outP xs s) := hs.filter _
        have hol : (outP xs s).length ≤ 800000 := Nat.le_trans (List.length_filter_le _ _) (by have := hlen.out; omega)
        have hgl : ((metP xs s).map (·.span)).length ≤ 800000 := by rw [List.length_map]; exact Nat.le_trans (List.length_filter_le _ _) (by have := hlen.out; omega)
        have hgb := own_of_ge hm.gone
        have hob := own_of_ge hm.out
        have c1 := delete_fun hm.gone (by omega) hm.pane (fun e => by have := hgb pb e; have := L.p_lt; omega)
        obtain ⟨Ao, co, rfl⟩ := own_form hm.out
        have c2 := fun W (k' : Keep (own_of u13) wr W) => pane_at (Sl.of_own (enc := Pane.cells) pane_len (by decide) (own_keep hm.out k' (fun g hg e => hm.apart g hg e))) hso (by omega) (accP key s v xs).span
        have c3 := fun W vb (k' : Keep (own_of u13) wr W) (hbase : base ≤ W.heap.size) (hv' : At W vb (accP key s v xs).cells.toArray 88) (hvb : wr.heap.size ≤ vb) =>
          pane_insert (v := .slice Ao (outP xs s).length co) hbase (own_keep hm.out k' (fun g hg e => hm.apart g hg e)) (lbP (outP xs s) (accP key s v xs).span) (lbP_le _ _) (by omega) (accP key s v xs) hv' (fun e => by have := (hm.out.lt vb e).2; omega)
        have hpane := fun W (k' : Keep (own_of u13) wr W) => Keep.at k' hm.pane (fun e => by have := hgb pb e; have := L.p_lt; omega)
        have hres := fun W (k' : Keep (own_of u13) wr W) => Keep.at k' hm.res (fun e => by have := hgb rb e; have := L.r_lt; omega)
        have hfin : Hid (accP key s v xs = accP key s v xs) := Lib.hid rfl
        generalize hacc : accP key s v xs = p at *
        simp only [Pane.cells, Span.cells] at c1 c2 c3 hpane
        replace c1 := Lib.hid c1
        replace c2 := Lib.hid c2
        replace c3 := Lib.hid c3
        replace hpane := Lib.hid hpane
        replace hres := Lib.hid hres
        have hkw := hm.keep
        have hsz := hm.size
        have hgw := hm.gone
        have hap := Lib.hid hm.apart
        have hac := Lib.hid hacc
        have hwb2 : w.heap.size ≤ base := hwb
        clear hso hok' hm h hacc hlt
        go_wp2_with fail
        refine c1.out.mono ?_
        rintro e w1 ⟨vg, rfl, og1, kg1, hvg⟩
        have hp1 := hpane.out _ kg1
        have cp1 := At.cell hp1
        clear c1
        go_wp2_with fail
        refine (c2.out _ kg1).mono ?_
        rintro e w2 ⟨rfl, k2⟩
        have kg2 := kg1.trans k2.of_none
        have og2 := own_keep og1 k2 (fun _ _ e => e)
        have hp2 := hpane.out _ kg2
        have hr2 := hres.out _ kg2
        have cp2 := At.cell hp2
        have cr2 := At.cell hr2
        have fr2 := At.frozen hr2
        clear c2 cp1 hp1 og1
        go_wp2_with fail
        have hs2 := kg2.size
        have hpl2 := hp2.lt
        have hrl2 := hr2.lt
        have c4 := c3.out (w2.drew.alloc (.cells #[.string p.key, .int .i64 p.span.s, .int .i64 p.span.e, .int .i64 p.agg.count, .int .i64 p.agg.sum, .int .i64 p.agg.lo, .int .i64 p.agg.hi] 88)) w2.heap.size (Keep.alloc kg2.drew _) (by simp; omega) (At.newAt (w := w2.drew) rfl _ _) hs2
        replace c4 := Lib.hid c4
        have hpW : At (w2.drew.alloc (.cells #[.string p.key, .int .i64 p.span.s, .int .i64 p.span.e, .int .i64 p.agg.count, .int .i64 p.agg.sum, .int .i64 p.agg.lo, .int .i64 p.agg.hi] 88)) pb _ _ := At.alloc (At.drew hp2) _
        have hrW : At (w2.drew.alloc (.cells #[.string p.key, .int .i64 p.span.s, .int .i64 p.span.e, .int .i64 p.agg.count, .int .i64 p.agg.sum, .int .i64 p.agg.lo, .int .i64 p.agg.hi] 88)) rb _ _ := At.alloc (At.drew hr2) _
        have hpn : ¬ own_of (.slice Ao (outP xs s).length co) pb := fun e => by have := hob pb e; have := L.p_lt; omega
        have hrn : ¬ own_of (.slice Ao (outP xs s).length co) rb := fun e => by have := hob rb e; have := L.r_lt; omega
        clear c3
        go_region_with (first
          | (go_at_call 113; refine c4.out.mono ?_; rintro e w3 ⟨v3, rfl, o3, k3⟩; have hp3 := Keep.at k3 hpW hpn; have hr3 := Keep.at k3 hrW hrn; have cp3 := At.cell hp3; have cr3 := At.cell hr3; have fr3 := At.frozen hr3))
        all_goals
          have kW : Keep none_ w2 (w2.drew.alloc (.cells #[.string p.key, .int .i64 p.span.s, .int .i64 p.span.e, .int .i64 p.agg.count, .int .i64 p.agg.sum, .int .i64 p.agg.lo, .int .i64 p.agg.hi] 88)) := Keep.alloc (Keep.refl _ _).drew _
          have og3 := own_keep (own_keep og2 kW (fun _ _ e => e)) k3 (fun g hg e => hap.out g e (by rw [← hvg]; exact hg))
          have kw2 : Keep none_ w w2 := Keep.fresh hkw kg2 (fun q hq e => by have := hgb q e; omega)
          have kw3 : Keep none_ w w3 := Keep.fresh (kw2.trans kW) k3 (fun q hq e => by have := hob q e; omega)
          have hg3 := own_of_ge og3
          have ho3 := own_of_ge o3
          have og9 := own_lower og3 (b' := w.heap.size) hwb2
          have o9 := own_lower o3 (b' := w.heap.size) hwb2
          have hrb9 := L.r_lt
          clear c4 hpane hres hpW hrW k3 og2 og3 o3 kW kw2 kg2 kg1 k2 hkw cp2 cr2 fr2 cp3
          go_wp2_with fail
          refine bodyPost_ret (v := .tuple #[v3, vg, .agg #[.int .i64 p.span.s, .int .i64 p.span.e]]) (by simp [results, Tryz.results86, go_sem, cr3, fr3]) rfl ⟨v3, vg, by rw [hac.out], ?_, ?_, ?_⟩
          · unfold mergeP
            rw [hac.out]
            exact own_keep (own_keep o9 (Keep.set1 (p := rb) (Keep.refl _ _) _) (fun g hg e => by have := ho3 g hg; unfold one at e; omega)) (Keep.set1 (p := rb) (Keep.refl _ _) _) (fun g hg e => by have := ho3 g hg; unfold one at e; omega)
          · unfold goneP
            rw [hac.out]
            exact own_keep (own_keep og9 (Keep.set1 (p := rb) (Keep.refl _ _) _) (fun g hg e => by have := hg3 g hg; unfold one at e; omega)) (Keep.set1 (p := rb) (Keep.refl _ _) _) (fun g hg e => by have := hg3 g hg; unfold one at e; omega)
          · exact Keep.setNew (Keep.setNew kw3 (by omega) _) (by omega) _
end Go.Proofs.YtmioichjhiengaaGreat
