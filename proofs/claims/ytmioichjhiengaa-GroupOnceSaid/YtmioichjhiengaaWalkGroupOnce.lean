/-
  For every config, deeds and marks easellaw08.GroupOnce yields true.
-/
import Derived.Test.YtmioichjhiengaaOnceInv
import Derived.Test.YtmioichjhiengaaGroupUp
import Derived.Test.YtmioichjhiengaaRefOfC
import Derived.Test.YtmioichjhiengaaSpanRef
import Derived.Test.YtmioichjhiengaaPick
import Derived.Deep.CutRange
namespace Go.Proofs.Ytmioichjhiengaa
open Go.RowKit

def enc08 (d : Deed08) : List Value := d.cells
theorem deed08_of (w : World) (x : Deed08) (cs : List Value) (h : rDeed08 w x cs) : cs = enc08 x ∧ x.ok := h
set_option maxHeartbeats 40000000 in
set_option maxRecDepth 100000 in
theorem law_GroupOnce (c : Config) (l : List Deed08) (v : Value) (rs : List Int) (u : Value) (W : World) (hc : c.ok) (hv : rSlice 5 rDeed08 W l [v]) (hu : rSlice 1 rInt W rs [u]) :
    Calls Try.prog 7 #[.agg c.cells.toArray, v, u] W fun e W' => e = .returned (.bool true) ∧ Below W.heap.size W W' := by
  obtain ⟨A, n, cc, rfl, hsl, hok⟩ := sl_of enc08 Deed08.ok deed08_of hv
  obtain ⟨A2, n2, cc2, rfl, hsl2, hok2⟩ := sl_of encI I64 rInt_of hu
  clear hv hu
  obtain rfl := hsl.len
  obtain rfl := hsl2.len
  have hnc := hsl.2.2.1
  have hlc := hsl.2.1
  have hnc2 := hsl2.2.2.1
  have hlc2 := hsl2.2.1
  unfold maxLen at hnc hnc2
  have hx := At.new W c.cells.toArray 64
  have k0 : Keep none_ W (W.alloc (.cells c.cells.toArray 64)) := (by repeat' (first | assumption | with_reducible exact Keep.refl _ _ | with_reducible refine Keep.alloc ?_ _ | with_reducible refine Keep.drew ?_))
  have hb0 : ∀ w', Keep none_ W w' → Below W.heap.size W w' := fun w' k => k.below (Nat.le_refl _) not_none
  simp only [Config.cells] at hx k0 ⊢
  cases hm : c.mayB
  · have cno := fun W => group_new_no W c hc hm
    simp only [Config.cells] at cno
    replace cno := Lib.hid cno
    clear hm
    go_enter Try.func7, Try.ntmps7
    go_wp2_with fail
    refine (group_up _).mono ?_
    rintro e w1 ⟨rfl, k1⟩
    have hx1 := Keep.at k1 hx (fun e => e)
    have cx := At.cell hx1
    replace hx := Lib.hid hx
    go_wp2_with fail
    refine (cno.out _).mono ?_
    rintro e w2 ⟨rfl, k2⟩
    clear cx hx1 hx
    go_wp2_with fail
    go_ret
    exact ⟨rfl, hb0 _ ((k0.trans k1).trans k2)⟩
  · have cyes := fun W => group_born W c hc hm
    simp only [Config.cells] at cyes
    replace cyes := Lib.hid cyes
    go_enter Try.func7, Try.ntmps7
    go_wp2_with fail
    refine (group_up _).mono ?_
    rintro e w1 ⟨rfl, k1⟩
    have hx1 := Keep.at k1 hx (fun e => e)
    have cx := At.cell hx1
    replace hx := Lib.hid hx
    go_wp2_with fail
    refine (cyes.out _).mono ?_
    rintro e w2 ⟨gp, mp, tp, rfl, hg, k2, lg, lm, lt⟩
    have hx2 := Keep.at k2 hx1 (fun e => e)
    have kW2 := (k0.trans k1).trans k2
    have hs01 := (k0.trans k1).size
    have hxl : W.heap.size < w1.heap.size := hx1.lt
    clear cx hx hx1 cyes
    by_cases h50 : 50 < l.length ∨ rs.length < l.length
    · have hlong : decide ((50 : Int) < (l.length : Int)) = true ∨ (decide ((50 : Int) < (l.length : Int)) = false ∧ decide ((rs.length : Int) < (l.length : Int)) = true) := by
        by_cases e : 50 < l.length
        · exact .inl (by simp; omega)
        · exact .inr ⟨by simp; omega, by simp; omega⟩
      clear hg hx2
      rcases hlong with h9 | ⟨h9, h8⟩
      · go_wp2_with fail
        go_ret
        exact ⟨rfl, hb0 _ kW2⟩
      · have h8n : decide (rs.length < l.length) = true := by simpa using h8
        have h8m : rs.length < l.length := by simpa using h8
        have h8i : (rs.length : Int) < (l.length : Int) := by omega
        go_wp2_with fail
        go_ret
        exact ⟨rfl, hb0 _ kW2⟩
    · have h9 : decide ((50 : Int) < (l.length : Int)) = false := by simp; omega
      have h8 : decide ((rs.length : Int) < (l.length : Int)) = false := by simp; omega
      have h8n : decide (rs.length < l.length) = false := by simp; omega
      have hl50 : l.length ≤ 50 := by omega
      have hlr : l.length ≤ rs.length := by omega
      have st0 : OnceSt W w2 gp mp tp W.heap.size 0 c (-9223372036854775808) (.slice none 0 0) [] (fun _ => []) (.slice none 0 0) [] 0 := by
        refine ⟨hg _ (fun q e => (by unfold ownX at e; simp [Value.ownBlock] at e)), Once.zero _ _, ⟨rfl, .inl ⟨rfl, rfl⟩⟩, fun g e => (by simp [Value.ownBlock] at e), kW2, by unfold I64; omega, Int.le_refl _, Int.le_refl _, hx2, ?_, ?_⟩
        · rintro (e | e | e)
          · omega
          · omega
          · simp [Value.ownBlock] at e
        · rintro q (e | e | e)
          · omega
          · omega
          · simp [Value.ownBlock] at e
      clear hg hx2 kW2 k2 k1 k0 lg lm lt h50
      go_wp2_with fail
      go_loopw [10, 11, 12, 13, 14, 15, 16, 17, 18, 19, 20, 21, 22, 23] (fun mk mn ov iv _ _ _ _ _ _ _ _ _ _ wr => ∃ (k : Nat) (mark many : Int) (O : List Pane) (M : KM) (vq : Value) (T : List Timer), iv = .int .i64 k ∧ k ≤ l.length ∧ mk = .int .i64 mark ∧ mn = .int .i64 many ∧ OnceSt W wr gp mp tp W.heap.size k c mark ov O M vq T many)
        (fun _ _ _ iv _ _ _ _ _ _ _ _ _ _ _ => l.length - (intOf iv).toNat)
      case atStart => exact ⟨0, _, 0, [], _, _, [], rfl, Nat.zero_le _, rfl, rfl, st0⟩
      case round =>
        clear st0 hs01 hxl
        obtain ⟨k, mark, many, O, M, vq, T, rfl, hk, rfl, rfl, st⟩ := hrel
        have hk0 := Int.natCast_nonneg k
        by_cases hlt : k < l.length
        · have hlt1 : (k : Int) < (l.length : Int) := by omega
          have hk50 : k < 50 := by omega
          have hkr : k < rs.length := by omega
          have hkr1 : (k : Int) < (rs.length : Int) := by omega
          obtain ⟨Ao, co, rfl⟩ := own_form st.out
          obtain ⟨b, off, rfl, hbl, -⟩ := hsl.at_ (by omega)
          obtain ⟨b2, off2, rfl, hbl2, -⟩ := hsl2.at_ (by omega)
          have ck := fun w' (kz : Keep none_ W w') => (hsl.keep kz Off.none_).cellk hlt
          have rk := fun w' (kz : Keep none_ W w') => (hsl2.keep kz Off.none_).cellk hkr 0 (by omega)
          have hdk := hok l[k] (List.getElem_mem _)
          have hrk := hok2 rs[k] (List.getElem_mem _)
          generalize l[k] = d at *
          generalize rs[k] = r at *
          obtain ⟨ds, dk, dt, dv, dm⟩ := d
          obtain ⟨-, hdt, hdv, -⟩ := hdk
          simp only at hdt hdv
          have i2 := fun w' (kz : Keep none_ W w') => ck w' kz 2 (by omega)
          have i3 := fun w' (kz : Keep none_ W w') => ck w' kz 3 (by omega)
          simp only [enc08, Deed08.cells, encI, Nat.mul_one, Nat.add_zero, List.getElem?_cons_zero, List.getElem?_cons_succ] at i2 i3 rk
          clear ck
          have st' := st
          have kW := st.keep
          have r0 := rk wr kW
          have hrl : b2 < wr.heap.size := Nat.lt_of_lt_of_le hbl2 kW.size
          replace rk := Lib.hid rk
          have hsplit : (mark < r ∧ mark ≤ r ∧ I64 r) ∨ (¬ mark < r ∧ mark ≤ mark ∧ I64 mark) := by
            by_cases e : mark < r
            · exact .inl ⟨e, by omega, hrk⟩
            · exact .inr ⟨e, by omega, st.mark⟩
          clear hrk
          rcases hsplit with ⟨hmr, hle, hI⟩ | ⟨hmr, hle, hI⟩
          all_goals
            go_wp2_with fail
            first
              | (have hq : mark < r := hmr; clear hq; obtain ⟨m', rfl⟩ : ∃ m', m' = r := ⟨r, rfl⟩)
              | (obtain ⟨m', rfl⟩ : ∃ m', m' = mark := ⟨mark, rfl⟩)
            clear hmr r0 rk
            have ctk : ∀ W', Keep none_ wr W' → Calls Try.prog 35 #[.pointer (some ⟨gp, 0, none⟩), .string ⟨#[107]⟩, .int .i64 dt, .int .i64 dv, .int .i64 m'] W' (Taken W' gp mp tp (16 * k) (1000 * k) c vq (ownX (.slice Ao O.length co)) m' kK dt dv M) :=
              fun W' kz => group_take (st.grp.none kz) (by omega) (by omega) hc hm kK kK_ok dt dv m' hdt hdv hI
            have t2 := i2 wr kW
            have t3 := i3 wr kW
            have hbw : b < wr.heap.size := Nat.lt_of_lt_of_le hbl kW.size
            replace i2 := Lib.hid i2
            replace i3 := Lib.hid i3
            replace ctk := Lib.hid ctk
            replace hm := Lib.hid hm
            go_cut [14, 15] from 72 to 87 (fun cv ov w' => TakeSt wr gp mp tp k c vq (ownX (.slice Ao O.length co)) m' dt dv M cv ov w')
            case first =>
              go_region_law (first
                | (go_simp; go_at_call 35; refine (ctk.out _ (show Keep none_ wr _ from (by repeat' (first | assumption | with_reducible exact Keep.refl _ _ | with_reducible refine Keep.alloc ?_ _ | with_reducible refine Keep.drew ?_)))).mono ?_; rintro e w6 ⟨vo2, O1, M1, M2, code, rfl, hst, hcalm, hM, hn, own⟩; replace hM := Lib.hid hM)
                | fail)
              all_goals
                go_wp2_with fail
                go_meet
                first
                  | (refine ⟨_, O1, M1, M2, code, rfl, ?_, hst, hcalm, hM.out, hn, own⟩; exact (by repeat' (first | assumption | with_reducible exact Keep.refl _ _ | with_reducible refine Keep.alloc ?_ _ | with_reducible refine Keep.drew ?_)))
                  | (trace_state; fail)
            case rest =>
              obtain ⟨wt, O1, M1, M2, code, rfl, kz, hst, hcalm, hM, hn, ownM⟩ := hcut
              have ⟨vqa, Ta, hga, ka, soa⟩ := hn
              have hlen0 := st.lens
              obtain ⟨Am, cm, rfl⟩ := own_form ownM
              have hovw : ∀ g, (Value.slice Ao O.length co).ownBlock = some g → W.heap.size ≤ g ∧ g < wr.heap.size := fun g hg => st.out.lt g hg
              have outc : PRow wc W.heap.size (.slice Ao O.length co) O := own_keep (own_keep st.out kz (fun _ _ e => e)) ka (fun g hg e => (st.ng g hg).1 e)
              have hslM : Sl Pane.cells 7 wc Am O1.length cm O1 := Sl.of_own pane_len (by decide) ownM
              have hWc : W.heap.size ≤ wc.heap.size := Nat.le_trans kW.size (Nat.le_trans kz.size ka.size)
              have hlen1 : (O ++ O1).length ≤ 16 * (k + 1) := by
                have hset := st.once.settle hle hst hcalm
                have h1 := cnt_len (l := O ++ O1) (fun p hp => hset.pos p (List.mem_append.2 (.inl hp)))
                have h2 := cnt_nonneg (l := M1 kK) (fun p hp => hset.pos p (List.mem_append.2 (.inr hp)))
                have h3 := hset.all
                rw [cnt_app] at h3
                have := st.few
                omega
              have hlen2 : O.length + O1.length ≤ 1000000 := by rw [List.length_append] at hlen1; omega
              clear t2 t3 ctk hga ka soa hbw
              go_wp2_with (at_builtin; refine wpList_append_sl _ rfl _ _ _ rfl W.heap.size 32 row_pane pane_len pane_one _ O.length O rfl outc Am O1.length cm O1 rfl hslM hlen2 hWc ?_)
              intro v3 w3 own3 hg3 hb3
              have k3 : Keep (ownX (.slice Ao O.length co)) wc w3 := Keep.grown (Keep.refl _ _) hg3 (fun q hq _ => hq)
              have own3' : PRow w3 W.heap.size v3 (O ++ O1) := by
                have : (O ++ O1).length = O.length + O1.length := by simp
                unfold PRow
                rw [this]
                exact own3
              obtain ⟨vq3, T3, st3⟩ := OnceSt.next st (by omega) hle hI kz hc hm.out hdt hst hcalm (hM.imp (fun h => ⟨h.1, h.2.2⟩) (fun ⟨l, h1, h2, h3⟩ => ⟨l, h1, h3⟩)) hn k3 own3' (hb3.imp id (fun e => ⟨_, e, Nat.le_refl _⟩))
              obtain ⟨A3, c3, rfl⟩ := own_form own3'
              generalize O ++ O1 = O2 at *
              have hcode : (ofL c dt = none ∧ code = 4) ∨ ∃ l, ofL c dt = some l ∧ code = codeG c.late m' l := hM.imp (fun h => ⟨h.1, h.2.1⟩) (fun ⟨l, h1, h2, _⟩ => ⟨l, h1, h2⟩)
              have hfew := st.few
              have hpos := st.pos
              replace hcode := Lib.hid hcode
              clear st' st kz hst hcalm hM hn ownM outc hslM hWc own3 hg3 hb3 k3 own3' hovw hlen0 kW
              have kW3 := st3.keep
              have t2 := i2.out w3 kW3
              have hbw3 : b < w3.heap.size := Nat.lt_of_lt_of_le hbl kW3.size
              have xc := At.cell st3.hx
              have x0 : w3.cell? ⟨W.heap.size, 0, none⟩ = some (.int .i64 c.kind) := xc 0
              have x1 : w3.cell? ⟨W.heap.size, 1, none⟩ = some (.int .i64 c.size) := xc 1
              have x2 : w3.cell? ⟨W.heap.size, 2, none⟩ = some (.int .i64 c.slide) := xc 2
              have x3 : w3.cell? ⟨W.heap.size, 3, none⟩ = some (.int .i64 c.gap) := xc 3
              have x4 : w3.cell? ⟨W.heap.size, 4, none⟩ = some (.int .i64 c.late) := xc 4
              have x5 : w3.cell? ⟨W.heap.size, 5, none⟩ = some (.int .i64 c.shards) := xc 5
              have x6 : w3.cell? ⟨W.heap.size, 6, none⟩ = some (.int .i64 c.groups) := xc 6
              have x7 : w3.cell? ⟨W.heap.size, 7, none⟩ = some (.int .i64 c.cap) := xc 7
              clear xc
              have cof := fun w => ref_ofc w c dt hc hdt hm.out
              simp only [Config.cells] at cof
              replace cof := Lib.hid cof
              replace st3 := Lib.hid st3
              go_wp2_with fail
              go_cut [16, 17] from 91 to 100 (fun wv okv w' => ∃ wt, Keep none_ w3 wt ∧ RefPost2 wt (ofL c dt) (.returned (.tuple #[wv, okv])) w')
              case first =>
                go_region_law (first
                  | (go_simp; go_at_call 36; refine (cof.out _).mono ?_; rintro e w6 ⟨wv, bv, rfl, k6, h6⟩; replace h6 := Lib.hid h6)
                  | fail)
                all_goals
                  go_wp2_with fail
                  go_meet
                  first
                    | (refine ⟨_, ?_, wv, bv, rfl, k6, h6.out⟩; exact (by repeat' (first | assumption | with_reducible exact Keep.refl _ _ | with_reducible refine Keep.alloc ?_ _ | with_reducible refine Keep.drew ?_)))
                    | (trace_state; fail)
              case rest =>
                obtain ⟨wt, kt, wv, bv, he, kk6, hh⟩ := hcut
                have he2 : u16 = wv ∧ u17 = .bool bv := by simpa using he
                obtain ⟨rfl, rfl⟩ := he2
                clear he x0 x1 x2 x3 x4 x5 x6 x7 cof t2
                obtain ⟨lw, Aw, cw, rfl, hslw, hcase⟩ : ∃ lw Aw cw, u16 = .slice Aw lw.length cw ∧ Sl Span.cells 2 wc Aw lw.length cw lw ∧ ((ofL c dt = some lw ∧ bv = true) ∨ (ofL c dt = none ∧ bv = false ∧ lw = [])) := by
                  rcases hh with ⟨l9, h1, h2, h3⟩ | ⟨h1, h2, h3⟩
                  · obtain ⟨A9, c9, rfl⟩ := own_form h3
                    exact ⟨l9, A9, c9, rfl, Sl.of_own span_len (by decide) h3, .inl ⟨h1, h2⟩⟩
                  · exact ⟨[], none, 0, by rw [h3]; rfl, Sl.nil _ _ _ _ _ (by decide), .inr ⟨h1, h2, rfl⟩⟩
                have kwc : Keep none_ w3 wc := kt.trans kk6
                have hw16 : lw.length ≤ 16 ∧ ∀ s ∈ lw, s.ok := by
                  rcases hcase with ⟨h1, -⟩ | ⟨-, -, rfl⟩
                  · have hw := ofL_wins c dt lw hc hdt hm.out h1
                    refine ⟨hw.few, fun s hs => ?_⟩
                    obtain ⟨i, hi, rfl⟩ := List.getElem_of_mem hs
                    have := hw.has i hi
                    exact ⟨this.2.2.2.1, this.2.2.2.2⟩
                  · exact ⟨by simp, fun s hs => (by cases hs)⟩
                have hmatch : openD c.late m' (ofL c dt) = (openN c.late m' lw : Int) := by
                  rcases hcase with ⟨h1, -⟩ | ⟨h1, -, rfl⟩
                  · rw [h1]; rfl
                  · rw [h1]; rfl
                have hABC : (bv = false ∧ code = 4 ∧ openN c.late m' lw = 0) ∨ (bv = true ∧ openN c.late m' lw = 0 ∧ code = 1) ∨ (bv = true ∧ 0 < openN c.late m' lw ∧ code = 0) := by
                  rcases hcase with ⟨h1, h2⟩ | ⟨h1, h2, rfl⟩
                  · rcases hcode.out with ⟨h3, -⟩ | ⟨l9, h3, h4⟩
                    · rw [h1] at h3; cases h3
                    · rw [h1] at h3
                      obtain rfl := Option.some.inj h3
                      unfold codeG at h4
                      by_cases e : openN c.late m' lw = 0
                      · rw [if_pos e] at h4; exact .inr (.inl ⟨h2, e, h4⟩)
                      · rw [if_neg e] at h4; exact .inr (.inr ⟨h2, by omega, h4⟩)
                  · rcases hcode.out with ⟨-, h4⟩ | ⟨l9, h3, -⟩
                    · exact .inl ⟨h2, h4, rfl⟩
                    · rw [h1] at h3; cases h3
                have st4 := (st3.out).none kwc
                rw [hmatch] at st4
                have hlate : I64 c.late := hc.2.2.2.2.1
                have x4 := fun w' (kz : Keep none_ wc w') => At.cell (st4.none kz).hx 4
                have hxl : W.heap.size < wc.heap.size := st4.hx.lt
                replace x4 : ∀ w', Keep none_ wc w' → w'.cell? ⟨W.heap.size, 4, none⟩ = some (.int .i64 c.late) := x4
                replace x4 := Lib.hid x4
                replace hABC := Lib.hid hABC
                replace st4 := Lib.hid st4
                clear hh hcase hmatch kt kk6 hcode hbw3
                go_wp2_with fail
                go_loopw [18, 19, 20] (fun nv jv _ wq => ∃ j : Nat, jv = .int .i64 j ∧ j ≤ lw.length ∧ nv = .int .i64 (openN c.late m' (lw.take j) : Nat) ∧ Keep none_ wc wq) (fun _ jv _ _ => lw.length - (intOf jv).toNat)
                case atStart => exact ⟨0, rfl, Nat.zero_le _, by simp [openN], Keep.refl _ _⟩
                case round =>
                  obtain ⟨j, rfl, hj, rfl, kq⟩ := hrel
                  have hj0 := Int.natCast_nonneg j
                  by_cases hjl : j < lw.length
                  · have hjl1 : (j : Int) < (lw.length : Int) := by omega
                    have hslq := hslw.keep kq Off.none_
                    have hdq := hslq.2.1
                    obtain ⟨bw, ow, rfl, hbw, -⟩ := hslq.at_ (by omega)
                    have q := hslq.cellk hjl
                    have q0 := q 0 (by omega)
                    have q1 := q 1 (by omega)
                    have hsok := hw16.2 lw[j] (List.getElem_mem _)
                    have hN := openN_snoc c.late m' (lw.take j) lw[j]
                    rw [← List.take_succ_eq_append_getElem hjl] at hN
                    have y4 := x4.out wr kq
                    have hxlr : W.heap.size < wr.heap.size := Nat.lt_of_lt_of_le hxl kq.size
                    clear q hslq
                    simp only [Span.cells, Nat.add_zero, List.getElem?_cons_zero, List.getElem?_cons_succ] at q0 q1
                    generalize lw[j] = s at *
                    have cover := fun W => ref_over W s c.late m' hsok hlate hI
                    obtain ⟨ov, hov⟩ : ∃ b, s.overB c.late m' = b := ⟨_, rfl⟩
                    rw [hov] at cover hN
                    simp only [Span.cells] at cover
                    replace cover := Lib.hid cover
                    have hN2 : openN c.late m' (lw.take (j + 1)) = openN c.late m' (lw.take j) + (if ov = true then 0 else 1) := hN
                    have hNs : openN c.late m' (lw.take j) ≤ 16 := Nat.le_trans (openN_le _ _ _) (by rw [List.length_take]; omega)
                    generalize openN c.late m' (lw.take j) = a0 at *
                    replace hN2 := Lib.hid hN2
                    clear hN hov
                    go_wp2_with fail
                    go_cut [20] from 107 to 114 (fun bv w' => bv = .bool ov ∧ Keep none_ wr w')
                    case first =>
                      go_region_law (first
                        | (go_simp; go_at_call 37; refine (cover.out _).mono ?_; rintro e w6 ⟨rfl, k6⟩; have kc6 : Keep none_ wr w6 := (by refine Keep.trans ?_ k6; exact (by repeat' (first | assumption | with_reducible exact Keep.refl _ _ | with_reducible refine Keep.alloc ?_ _ | with_reducible refine Keep.drew ?_))))
                        | fail)
                      all_goals
                        go_wp2_with fail
                        go_meet
                        first
                          | exact ⟨rfl, kc6⟩
                          | (trace_state; fail)
                    case rest =>
                      obtain ⟨rfl, kq6⟩ := hcut
                      have kq7 := kq.trans kq6
                      have ha0 := Int.natCast_nonneg a0
                      clear q0 q1 y4 cover kq kq6
                      cases ov
                      · go_wp2_with fail
                        go_roundw
                        case rel => exact ⟨j + 1, by go_num, by omega, by rw [hN2.out]; simp only [Bool.false_eq_true, if_false]; go_num, kq7⟩
                        case measure => simp [intOf]; omega
                      · go_wp2_with fail
                        go_roundw
                        case rel => exact ⟨j + 1, by go_num, by omega, by rw [hN2.out]; simp, kq7⟩
                        case measure => simp [intOf]; omega
                  · have htk : lw.take j = lw := List.take_of_length_le (by omega)
                    rw [htk]
                    have hn16 : openN c.late m' lw ≤ 16 := Nat.le_trans (openN_le _ _ _) hw16.1
                    have hjl1 : ¬ ((j : Int) < (lw.length : Int)) := by omega
                    generalize openN c.late m' lw = nN at *
                    have hnN := Int.natCast_nonneg nN
                    clear htk hslw x4
                    replace kq := Lib.hid kq
                    go_upto_region 23 with fail
                    go_cut [144] from 119 to 144 (fun tv w' => tv = .bool false ∧ w' = wr)
                    case first =>
                      rcases hABC.out with ⟨rfl, rfl, h0⟩ | ⟨rfl, h0, rfl⟩ | ⟨rfl, h0, rfl⟩
                      · clear h0
                        go_wp2_with fail
                        go_meet
                        exact ⟨rfl, rfl⟩
                      · have e1 : ((nN : Int) == 0) = true := by simp; omega
                        have e2 : decide ((0 : Int) < (nN : Int)) = false := by simp; omega
                        have e3 : decide (0 < nN) = false := by simp; omega
                        have e4 : (nN == 0) = true := by simp; omega
                        clear h0
                        go_wp2_with fail
                        go_meet
                        exact ⟨rfl, rfl⟩
                      · have e1 : ((nN : Int) == 0) = false := by simp; omega
                        have e2 : decide ((0 : Int) < (nN : Int)) = true := by simp; omega
                        have e3 : decide (0 < nN) = true := by simp; omega
                        have e4 : (nN == 0) = false := by simp; omega
                        clear h0
                        go_wp2_with fail
                        go_meet
                        exact ⟨rfl, rfl⟩
                    case rest =>
                      obtain ⟨rfl, rfl⟩ := hcut
                      have st5 := st4.out.none kq.out
                      clear st4 kq hABC st3
                      obtain ⟨mn2, hmn2⟩ : ∃ x, many + (nN : Int) = x := ⟨_, rfl⟩
                      rw [hmn2] at st5
                      have hfew5 := st5.few
                      have hpos5 := st5.pos
                      have hwrap : IntKind.i64.wrap (many + (nN : Int)) = mn2 := by rw [IntKind.wrap_i64]; omega
                      have hall := st5.once.all
                      have hposA := st5.once.pos
                      have hfine := st5.once.fineP
                      have hlenO : O2.length ≤ 16 * (k + 1) := st5.lens
                      have hlenM : (M2 kK).length ≤ 16 * (k + 1) := st5.grp.inv.len kK
                      have slO : Sl Pane.cells 7 wc A3 O2.length c3 O2 := Sl.of_own pane_len (by decide) st5.out
                      have hgp := st5.grp
                      have cpn : ∀ W', Keep none_ wc W' → Calls Try.prog 38 #[.pointer (some ⟨gp, 0, none⟩), .string ⟨#[107]⟩] W' (Cloned W' (M2 kK)) := fun W' kz => group_panes (hgp.none kz).self rfl (hgp.none kz).map kK kK_ok (by omega)
                      replace cpn := Lib.hid cpn
                      have kb0 : Keep none_ wc (wc.alloc (.cells #[] 32)) := Keep.alloc (Keep.refl _ _) _
                      have own0 : (wc.alloc (.cells #[] 32)).ownsRow wc.heap.size 32 7 (.slice (some ⟨wc.heap.size, 0, none⟩) 0 0) 0 (flat Pane.cells []) := own_empty (At.new wc #[] 32) (Nat.le_refl _)
                      have slO0 := slO.keep kb0 Off.none_
                      have hlb0 : 0 + O2.length ≤ 1000000 := by omega
                      have hb0' : wc.heap.size ≤ (wc.alloc (.cells #[] 32)).heap.size := kb0.size
                      replace st5 := Lib.hid st5
                      replace hall := Lib.hid hall
                      replace hfine := Lib.hid hfine
                      replace hposA := Lib.hid hposA
                      clear hgp hmn2
                      go_wp2_with (at_builtin; refine wpList_append_sl _ rfl _ _ _ rfl wc.heap.size 32 row_pane pane_len pane_one _ 0 [] rfl own0 A3 O2.length c3 O2 rfl slO0 hlb0 hb0' ?_)
                      intro v6 w6 own6 hg6 hb6
                      have k6 : Keep none_ wc w6 := keep_grown kb0 own0 hg6 (Nat.le_refl _)
                      replace own6 : w6.ownsRow wc.heap.size 32 7 v6 O2.length (flat Pane.cells O2) := by simpa using own6
                      obtain ⟨A6, c6, rfl⟩ := own_form own6
                      clear own0 slO0 hg6 hb6 kb0 hb0'
                      go_wp2_with fail
                      refine (cpn.out _ k6).mono ?_
                      rintro e w7 ⟨v7, rfl, o7, k7⟩
                      obtain ⟨A7, c7, rfl⟩ := own_form o7
                      have own7 := own_keep own6 k7 (fun _ _ e => e)
                      have sl7 : Sl Pane.cells 7 w7 A7 (M2 kK).length c7 (M2 kK) := Sl.of_own pane_len (by decide) o7
                      have hb7 : wc.heap.size ≤ w7.heap.size := Nat.le_trans k6.size k7.size
                      have hlb7 : O2.length + (M2 kK).length ≤ 1000000 := by omega
                      clear cpn own6
                      go_wp2_with (at_builtin; refine wpList_append_sl _ rfl _ _ _ rfl wc.heap.size 32 row_pane pane_len pane_one _ O2.length O2 rfl own7 A7 (M2 kK).length c7 (M2 kK) rfl sl7 hlb7 hb7 ?_)
                      intro v8 w8 own8 hg8 hb8
                      have k8 : Keep none_ wc w8 := keep_grown (k6.trans k7) own7 hg8 (Nat.le_refl _)
                      have hnA0 : O2.length + (M2 kK).length = (O2 ++ M2 kK).length := by simp
                      obtain ⟨nA, hnA⟩ : ∃ x, O2.length + (M2 kK).length = x := ⟨_, rfl⟩
                      rw [hnA] at own8 hnA0 hlb7
                      obtain ⟨A8, c8, rfl⟩ := own_form own8
                      have sl8 : Sl Pane.cells 7 w8 A8 nA c8 (O2 ++ M2 kK) := Sl.of_own pane_len (by decide) own8
                      have cfin := Lib.hid (ref_fine6 (slO.keep k8 Off.none_) (by omega))
                      generalize O2 ++ M2 kK = All at *
                      have hd8 := sl8.2.1
                      replace hnA0 := Lib.hid hnA0
                      clear own8 hg8 hb8 own7 sl7 o7 slO hnA
                      go_wp2_with fail
                      go_loopw [21, 23] (fun gv jv wq => ∃ j : Nat, jv = .int .i64 j ∧ j ≤ nA ∧ gv = .int .i64 (cnt (All.take j)) ∧ wq = w8) (fun _ jv _ => nA - (intOf jv).toNat)
                      case atStart => exact ⟨0, rfl, Nat.zero_le _, by simp [cnt], rfl⟩
                      case round =>
                        obtain ⟨j, rfl, hj, rfl, rfl⟩ := hrel
                        have hj0 := Int.natCast_nonneg j
                        by_cases hjl : j < nA
                        · have hjA : j < All.length := by have := hnA0.out; omega
                          have hjl1 : (j : Int) < (nA : Int) := by omega
                          obtain ⟨b9, o9, rfl, hb9, -⟩ := sl8.at_ (by omega)
                          obtain ⟨z0, z1, z2, z3, z4, z5, z6⟩ := sl8.pane hjA
                          have hsum : cnt (All.take (j + 1)) = cnt (All.take j) + All[j].agg.count := by
                            rw [List.take_succ_eq_append_getElem hjA, cnt_app]
                            simp [cnt]
                          have hb1 : cnt (All.take (j + 1)) ≤ 1000000 ∧ 0 ≤ cnt (All.take (j + 1)) := by
                            have e1 : cnt All = cnt (All.take (j + 1)) + cnt (All.drop (j + 1)) := by rw [← cnt_app, List.take_append_drop]
                            have e2 := cnt_nonneg (l := All.drop (j + 1)) (fun p hp => hposA.out p (List.mem_of_mem_drop hp))
                            have e3 := cnt_nonneg (l := All.take (j + 1)) (fun p hp => hposA.out p (List.mem_of_mem_take hp))
                            have e4 := hall.out
                            omega
                          obtain ⟨a1, ha1⟩ : ∃ x, cnt (All.take (j + 1)) = x := ⟨_, rfl⟩
                          rw [ha1] at hsum hb1
                          replace ha1 := Lib.hid ha1
                          generalize cnt (List.take j All) = a0 at *
                          generalize All[j] = y at *
                          have hw1 : IntKind.i64.wrap (a0 + y.agg.count) = a1 := by rw [IntKind.wrap_i64]; omega
                          clear hsum hb1
                          go_wp2_with fail
                          go_roundw
                          case rel => exact ⟨j + 1, by go_num, by omega, by rw [ha1.out], by first | rfl | trivial⟩
                          case measure => simp [intOf]; omega
                        · have htk : All.take j = All := List.take_of_length_le (by have := hnA0.out; omega)
                          rw [htk, hall.out]
                          have hjl1 : ¬ ((j : Int) < (nA : Int)) := by omega
                          have hbq : (mn2 != mn2) = false := by simp
                          clear htk sl8
                          go_wp2_with fail
                          refine cfin.out.mono ?_
                          rintro e w9 ⟨bf, rfl, hbf, k9⟩
                          obtain rfl : bf = true := hbf.2 hfine.out
                          have kz := k8.trans k9
                          clear hbf cfin
                          have k1w : IntKind.i64.wrap ((k : Int) + 1) = ((k + 1 : Nat) : Int) := by rw [IntKind.wrap_i64]; omega
                          go_wp2_with fail
                          go_roundw
                          case rel => exact ⟨k + 1, m', mn2, O2, M2, vq3, T3, by go_num, by omega, rfl, rfl, st5.out.none kz⟩
                          case measure => simp [intOf]; omega
        · have kf := st.keep
          have hn1 : ¬ ((k : Int) < (l.length : Int)) := by omega
          clear st
          go_wp2_with (first
            | (go_at_call 27; refine (pick_any _ _ _ (by decide) (by decide) (by decide) (by decide)).mono ?_; rintro e w9 ⟨rfl, rfl⟩) | fail)
          go_ret
          exact ⟨by first | rfl | decide, hb0 _ (by first | exact kf | exact Keep.drew kf)⟩
end Go.Proofs.Ytmioichjhiengaa
