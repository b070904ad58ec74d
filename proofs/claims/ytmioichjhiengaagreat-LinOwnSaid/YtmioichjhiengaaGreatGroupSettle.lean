/-
  Group.Settle.
-/
import Derived.Test.YtmioichjhiengaaGreatGroupPop
set_option linter.unusedSimpArgs false
set_option linter.unusedVariables false
namespace Go.Proofs.YtmioichjhiengaaGreat
open Go.RowKit

/-- What settling leaves. -/
def Settled (w : World) (gp mp tp N Q : Nat) (c : Config) (vq : Value) (X : Nat → Prop) (mark : Int) (M : KM) (e : Ending) (w' : World) : Prop :=
  ∃ v O M' vq' T', e = .returned v ∧ Steps c.late mark M O M' ∧ Calm c.late mark M' ∧ GrpAt w' gp mp tp N (Q + N) c vq' X M' T' ∧ vq'.ownBlock = vq.ownBlock ∧ PRow w' w.heap.size v O ∧ Keep (grpF mp tp vq) w w'
theorem put_at {Q : Exit → Act → World → Prop} {a : Act} {d d' : Option Nat} {v : Value} {W : World} (e : d = d') (h : Q .normal (a.put d v) W) : Q .normal (a.put d' v) W := e ▸ h
/-- A slice's length. -/
def lenV : Value → Nat
  | .slice _ n _ => n
  | _ => 0
set_option maxHeartbeats 4000000 in
set_option maxRecDepth 100000 in
theorem group_settle {w : World} {gp mp tp N Q : Nat} {c : Config} {vq : Value} {X : Nat → Prop} {M : KM} {T : List Timer} (h : GrpAt w gp mp tp N Q c vq X M T) (hN : N ≤ 80000) (hQ : Q ≤ 1000000) (hc : c.ok) (mark : Int) (hm : I64 mark) :
    Calls Tryz.prog 12 #[.pointer (some ⟨gp, 0, none⟩), .int .i64 mark] w (Settled w gp mp tp N Q c vq X mark M) := by
  have hgl := h.self.lt
  have hF := h.F_lt
  have hgf := h.gf
  have cg4 : ∀ W', Keep none_ w W' → W'.cell? ⟨gp, 4, none⟩ = some (.int .i64 c.late) := fun W' k => At.cell (h.none k).self 4
  have cg9 : ∀ W', Keep none_ w W' → W'.cell? ⟨gp, 9, none⟩ = some (.pointer (some ⟨tp, 0, none⟩)) := fun W' k => At.cell (h.none k).self 9
  have cp := Lib.hid (fun W' (k : Keep none_ w W') => group_pop (R := N) (h.tim.none k) h.inv h.inv.tim (by omega) hc mark hm)
  have hno : ¬ tset tp vq w.heap.size := fun e => by have := hF _ (.inr e); omega
  have g4 := cg4 w (Keep.refl _ _)
  have g9 := cg9 w (Keep.refl _ _)
  go_enter Tryz.func12, Tryz.ntmps12
  go_wp2_with fail
  go_cut [6, 7] from 12 to 25 (fun xv iv w' => ∃ xb x is, xv = .pointer (some ⟨xb, 0, none⟩) ∧ iv = .bool is ∧ SetInv w w' gp mp tp N Q 0 c vq X mark M (.slice none 0 0) xb x is [] M)
  case first =>
    go_region_law (first
      | (go_simp; go_at_call 44; refine (cp.out _ (show Keep none_ w _ from (by repeat' (first | assumption | with_reducible exact Keep.refl _ _ | with_reducible refine Keep.alloc ?_ _ | with_reducible refine Keep.drew ?_)))).mono ?_; rintro e w2 ⟨x, is, rfl, hst, k2⟩; obtain ⟨xk, ⟨xs, xe⟩⟩ := x; simp only [Timer.cells]; have kc : Keep (tset tp vq) w w2 := (by refine Keep.trans (Keep.of_none ?_) k2; exact (by repeat' (first | assumption | with_reducible exact Keep.refl _ _ | with_reducible refine Keep.alloc ?_ _ | with_reducible refine Keep.drew ?_)));
          (try (have hnb := Keep.at k2 (At.drew (At.new w #[.string ⟨#[]⟩, .int .i64 0, .int .i64 0] 95)) hno; have cnb := At.cell hnb; have fnb := At.frozen hnb)); (try (have hnb := Keep.at k2 (At.new w.drew #[.string ⟨#[]⟩, .int .i64 0, .int .i64 0] 95) hno; have cnb := At.cell hnb; have fnb := At.frozen hnb)))
      | fail)
    all_goals
      go_wp2_with fail
      go_meet
      first
        | exact ⟨_, _, _, rfl, rfl, SetInv.first h hst kc (Keep.alloc (Keep.refl _ _) _) (by have := kc.size; omega) (At.new w2 _ _)⟩
        | exact ⟨_, _, _, rfl, rfl, SetInv.first h hst kc (Keep.set1 (Keep.set1 (Keep.set1 (Keep.refl _ _) _) _) _) (Nat.le_refl _) (by have := At.set (At.set (At.set hnb 0 (.string xk)) 1 (.int .i64 xs)) 2 (.int .i64 xe); simpa using this)⟩
        | (trace_state; fail)
  case rest =>
    obtain ⟨xb, x, is, rfl, rfl, I⟩ := hcut
    clear cp cg4 cg9 g4 g9 hno
    go_wp2_with fail
    go_loopw [5, 6, 7, 8, 9, 10] (fun ov xv iv _ _ _ wr => ∃ xb x is O M1, xv = .pointer (some ⟨xb, 0, none⟩) ∧ iv = .bool is ∧ SetInv w wr gp mp tp N Q (lenV ov) c vq X mark M ov xb x is O M1) (fun ov _ _ _ _ _ _ => N - lenV ov)
    case atStart => exact ⟨xb, x, is, [], M, rfl, rfl, I⟩
    case round =>
      clear I
      obtain ⟨xb, x, is, O, M1, rfl, rfl, I⟩ := hrel
      obtain ⟨A0, d0, rfl⟩ := own_form I.out
      simp only [lenV] at I
      have hcx := At.cell I.hx
      have hsf := I.setF_lt
      have hgr := I.self
      have hgrl := hgr.lt
      have hmpl : mp < wr.heap.size := hsf mp (.inl (.inl (.inl rfl)))
      have hxl := I.hx.lt
      have hOn := I.jn
      obtain ⟨vq1, T1, hob, ht1, hTl, hcase⟩ := I.st
      cases is
      · rcases hcase with ⟨-, hok, hcalm⟩ | ⟨h9, -⟩
        · have hfin : Settled w gp mp tp N Q c vq X mark M (.returned (.slice A0 O.length d0)) wr := by
            refine ⟨_, O, M1, vq1, T1, rfl, I.steps, hcalm, ⟨I.self, ?_, ht1, by rw [tset_eq hob]; exact I.mt, by rw [grpF_eq hob]; exact I.gf, hok, I.ap, fun q hq => by have := I.xl q hq; have := I.keep.size; omega⟩, hob, I.out, I.keep⟩
            obtain ⟨n9, f9, h9, h8, h7⟩ := I.map.sets (F' := grpX mp tp vq1 X) (fun q _ e => .inl (e.imp (fun e => by rw [← grpF_eq hob]; exact e) id))
            exact ⟨n9, f9, by omega, h8, h7⟩
          clear I hcx hgr ht1 hok hcalm
          go_wp2_with fail
          go_ret
          exact hfin
        · cases h9
      · rcases hcase with ⟨h9, -⟩ | ⟨-, p, T0, hnd, hok, hperm, hnext, hxe⟩
        · cases h9
        subst hxe
        have hlen1 := hok.len p.key
        have hkm := hok.km
        have hcs := cut_spec (hok.srt p.key) hnext.mem
        obtain ⟨A, m, d, hlk, hsl, hAF⟩ := I.map.looks Tryz.underlying89 zero_panes p.key hnext.key
        have hml : m ≤ 80000 := by have := hsl.len; omega
        have cm := fun W' (kz : Keep none_ wr W') => pane_cut (hsl.keep kz Off.none_) (hok.srt p.key) (by omega) p.span
        unfold CutDone at cm
        rw [hcs.1] at cm
        simp only [Span.cells, Pane.cells] at cm
        replace cm := Lib.hid cm
        have g8 : wr.cell? ⟨gp, 8, none⟩ = some (.map (some mp)) := At.cell hgr 8
        have hlk1 := hlk wr.drew (Keep.drew (Keep.refl _ _))
        have hlk2 := hlk (wr.drew.alloc (.cells #[.string ⟨#[]⟩, .int .i64 0, .int .i64 0, .int .i64 0, .int .i64 0, .int .i64 0, .int .i64 0] 88)) (Keep.alloc (Keep.drew (Keep.refl _ _)) _)
        have hlk3 := hlk (wr.alloc (.cells #[.string ⟨#[]⟩, .int .i64 0, .int .i64 0, .int .i64 0, .int .i64 0, .int .i64 0, .int .i64 0] 88)).drew (Keep.drew (Keep.alloc (Keep.refl _ _) _))
        replace hlk := Lib.hid hlk
        simp only [Timer.cells, Span.cells] at hcx
        have x0 : wr.cell? ⟨xb, 0, none⟩ = some (.string p.key) := hcx 0
        have x1 : wr.cell? ⟨xb, 1, none⟩ = some (.int .i64 p.span.s) := hcx 1
        have x2 : wr.cell? ⟨xb, 2, none⟩ = some (.int .i64 p.span.e) := hcx 2
        clear hcx
        have hTl1 : T1.length + 1 ≤ N - O.length := hTl
        clear hTl
        go_wp2_with fail
        go_cut [8, 9, 10] from 40 to 53 (fun lv pv zv w' => ∃ pb, pv = .pointer (some ⟨pb, 0, none⟩) ∧ zv = .bool true ∧ PRow w' wr.heap.size lv (cutP (M1 p.key) p.span) ∧ At w' pb p.cells.toArray 88 ∧ Keep none_ wr w' ∧ wr.heap.size ≤ pb)
        case first =>
          go_region_law (first
            | (go_simp; go_at_call 45; refine (cm.out _ (show Keep none_ wr _ from (by repeat' (first | assumption | with_reducible exact Keep.refl _ _ | with_reducible refine Keep.alloc ?_ _ | with_reducible refine Keep.drew ?_)))).mono ?_; rintro e w2 ⟨vo, rfl, o2, k2⟩; have kc : Keep none_ wr w2 := (by refine Keep.trans ?_ k2; exact (by repeat' (first | assumption | with_reducible exact Keep.refl _ _ | with_reducible refine Keep.alloc ?_ _ | with_reducible refine Keep.drew ?_)));
                (try (have hnb := Keep.at k2 (At.drew (At.new wr #[.string ⟨#[]⟩, .int .i64 0, .int .i64 0, .int .i64 0, .int .i64 0, .int .i64 0, .int .i64 0] 88)) (fun e => e); have cnb := At.cell hnb; have fnb := At.frozen hnb)); (try (have hnb := Keep.at k2 (At.new wr.drew #[.string ⟨#[]⟩, .int .i64 0, .int .i64 0, .int .i64 0, .int .i64 0, .int .i64 0, .int .i64 0] 88) (fun e => e); have cnb := At.cell hnb; have fnb := At.frozen hnb)))
            | fail)
          all_goals
            go_wp2_with fail
            go_meet
            first
              | (have hq := hnb; exact ⟨_, rfl, rfl, own_lower (own_keep o2 (Keep.set1 (Keep.set1 (Keep.set1 (Keep.set1 (Keep.set1 (Keep.set1 (Keep.set1 (Keep.refl _ _) _) _) _) _) _) _) _) (fun g hg e => by have := own_of_ge o2 g hg; unfold one at e; simp at this; omega)) (by simp),
                  (by have := At.whole hnb p.cells rfl; simp only [stores, Pane.cells, Nat.zero_add, Nat.reduceAdd] at this; exact this), (Keep.setNew (Keep.setNew (Keep.setNew (Keep.setNew (Keep.setNew (Keep.setNew (Keep.setNew kc (Nat.le_refl _) _) (Nat.le_refl _) _) (Nat.le_refl _) _) (Nat.le_refl _) _) (Nat.le_refl _) _) (Nat.le_refl _) _) (Nat.le_refl _) _), Nat.le_refl _⟩)
              | exact ⟨_, rfl, rfl, own_lower (own_keep o2 (Keep.alloc (Keep.refl none_ _) _) (fun _ _ e => e)) (Nat.le_refl _), At.new w2 _ _, Keep.alloc kc _, kc.size⟩
              | (trace_state; fail)
        case rest =>
          obtain ⟨pb, rfl, rfl, o2, hpb, kc, hpbl⟩ := hcut
          obtain ⟨A2, d2, rfl⟩ := own_form o2
          have hset := Lib.hid (group_set (Keep.at kc hgr (fun e => e)) rfl (I.map.keep kc (fun _ e => e.elim) (fun e => e)) (.inl (.inl (.inl rfl))) (by unfold maxLen; omega) p.key hnext.key (Sl.of_own pane_len (by decide) o2) (fun a ha e => by have e1 := own_block_ge o2 a ha; have e2 := hsf _ e; omega))
          have hxc := Keep.at kc I.hx (fun e => e)
          have hpl := hpb.lt
          have x0' := At.cell hxc
          simp only [Timer.cells, Span.cells] at x0'
          have x0 : wc.cell? ⟨xb, 0, none⟩ = some (.string p.key) := x0' 0
          clear x0' cm hlk hlk1 hlk2 hlk3 hsl hAF g8 x1 x2
          go_wp2_with fail
          refine hset.out.mono ?_
          rintro e w3 ⟨rfl, hm3, k3⟩
          clear hset x0
          have hov : ∀ g, (Value.slice A0 O.length d0).ownBlock = some g → w.heap.size ≤ g := fun g hg => (I.out.lt g hg).1
          have hov2 : ∀ g, (Value.slice A0 O.length d0).ownBlock = some g → g < wr.heap.size := fun g hg => (I.out.lt g hg).2
          have hmw : mp < w.heap.size := I.lt mp (.inl rfl)
          have hx3 := Keep.at k3 hxc (fun e => by unfold one at e; have := I.low; omega)
          have hp3 := Keep.at k3 hpb (fun e => by unfold one at e; omega)
          have out3 : PRow w3 w.heap.size (.slice A0 O.length d0) O := own_keep (own_keep I.out kc (fun _ _ e => e)) k3 (fun g hg e => by have := hov g hg; unfold one at e; omega)
          have ht3 := (ht1.none kc).keep k3 (fun q hq e => I.mt (by unfold one at e; rw [← e]; exact (tset_eq hob ▸ hq)))
          have hgm : gp ≠ mp := fun e => I.gf (.inl e)
          have hg3 := Keep.at k3 (Keep.at kc hgr (fun e => e)) (fun e => hgm e)
          have hcp := At.cell hp3
          have hfp := At.frozen hp3
          simp only [Pane.cells] at hcp
          have p0 : w3.cell? ⟨pb, 0, none⟩ = some (.string p.key) := hcp 0
          have p1 : w3.cell? ⟨pb, 1, none⟩ = some (.int .i64 p.span.s) := hcp 1
          have p2 : w3.cell? ⟨pb, 2, none⟩ = some (.int .i64 p.span.e) := hcp 2
          have p3 : w3.cell? ⟨pb, 3, none⟩ = some (.int .i64 p.agg.count) := hcp 3
          have p4 : w3.cell? ⟨pb, 4, none⟩ = some (.int .i64 p.agg.sum) := hcp 4
          have p5 : w3.cell? ⟨pb, 5, none⟩ = some (.int .i64 p.agg.lo) := hcp 5
          have p6 : w3.cell? ⟨pb, 6, none⟩ = some (.int .i64 p.agg.hi) := hcp 6
          clear hcp hp3 hfp
          have hsl1 := Sl.of_at (xs := [p]) (At.new w3 p.cells.toArray 88) pane_len (by decide) (rfl : (1 : Nat) = [p].length) (by simp [flat_one]) (by unfold maxLen; omega)
          have kb : Keep none_ w3 (w3.alloc (.cells p.cells.toArray 88)) := Keep.alloc (Keep.refl _ _) _
          have own1 := own_keep out3 kb (fun _ _ e => e)
          have hs3 : w.heap.size ≤ w3.heap.size := by have := I.keep.size; have := kc.size; have := k3.size; omega
          have hwr3 : wr.heap.size ≤ w3.heap.size := by have := kc.size; have := k3.size; omega
          have hbase1 : w.heap.size ≤ (w3.alloc (.cells p.cells.toArray 88)).heap.size := by simp; omega
          simp only [Pane.cells] at hsl1 kb own1 hbase1
          have hOl : O.length + 1 ≤ 1000000 := by omega
          go_wp2_with (at_builtin; refine wpList_append_sl _ rfl _ _ _ rfl w.heap.size 88 row_pane pane_len pane_one _ _ _ rfl own1 (some ⟨w3.heap.size, 0, none⟩) 1 1 [p] rfl hsl1 hOl hbase1 ?_)
          intro v' w4 own4 hgr4 hb4
          have k34 : Keep (fun q => (Value.slice A0 O.length d0).ownBlock = some q) w3 w4 := Keep.grown (Keep.of_none kb) hgr4 (fun k hk _ => hk)
          obtain ⟨A4, d4, rfl⟩ := own_form own4
          have hown4 := own4.lt
          have hso4 : (Value.slice A4 (O.length + 1) d4).ownBlock = (Value.slice A0 O.length d0).ownBlock ∨ ∃ g, (Value.slice A4 (O.length + 1) d4).ownBlock = some g ∧ w3.heap.size ≤ g := by
            rcases hb4 with e | e
            · exact .inl e
            · exact .inr ⟨_, e, by simp⟩
          have hs34 := k34.size
          have hx4 := Keep.at k34 hx3 I.oxb
          have hg4 := Keep.at k34 hg3 I.ngo
          have ht4 := ht3.keep k34 (fun q hq e => by have := I.lt q (.inr (tset_eq hob ▸ hq)); have := hov q e; omega)
          have own4' : PRow w4 w.heap.size (.slice A4 (O.length + 1) d4) (O ++ [p]) := by
            have : (O ++ [p]).length = O.length + 1 := by simp
            unfold PRow
            rw [this]
            exact own4
          have x0' := At.cell hx4
          simp only [Timer.cells, Span.cells] at x0'
          have x0 : w4.cell? ⟨xb, 0, none⟩ = some (.string p.key) := x0' 0
          have x1 : w4.cell? ⟨xb, 1, none⟩ = some (.int .i64 p.span.s) := x0' 1
          have x2 : w4.cell? ⟨xb, 2, none⟩ = some (.int .i64 p.span.e) := x0' 2
          clear x0' own4 hgr4 hb4 hsl1 kb own1 hbase1 p0 p1 p2 p3 p4 p5 p6 out3 ht3 hg3 hx3 hxc hpb o2
          go_wp2_with fail
          have hx5 := At.new w4 #[.string p.key, .int .i64 p.span.s, .int .i64 p.span.e] 95
          have k45 : Keep none_ w4 (w4.alloc (.cells #[.string p.key, .int .i64 p.span.s, .int .i64 p.span.e] 95)) := Keep.alloc (Keep.refl _ _) _
          have hown4' : ∀ g, (Value.slice A4 (O.length + 1) d4).ownBlock = some g → g ≠ w4.heap.size := fun g hg e => by have := (hown4 g hg).2; omega
          generalize hw5 : w4.alloc _ = w5 at *
          replace hw5 := Lib.hid hw5
          have hxb2 : w3.heap.size ≤ w4.heap.size := hs34
          have hs45 := k45.size
          generalize w4.heap.size = xb2 at *
          have hg5 := Keep.at k45 hg4 (fun e => e)
          have own5 := own_keep own4' k45 (fun _ _ e => e)
          have hok' := hok.cut hnext.mem hnd hperm
          have g4 : w5.cell? ⟨gp, 4, none⟩ = some (.int .i64 c.late) := At.cell hg5 4
          have g9 : w5.cell? ⟨gp, 9, none⟩ = some (.pointer (some ⟨tp, 0, none⟩)) := At.cell hg5 9
          have cp := Lib.hid (fun W' (kz : Keep none_ w5 W') => (group_pop (R := N - (O.length + 1)) ((ht4.none k45).none kz) hok' (by omega) (by omega) hc mark hm).mono (fun e w hh => popDone_eq hh hob))
          have hxt : ¬ tset tp vq xb2 := fun e => by have := I.lt _ (.inr e); omega
          have hx5l := hx5.lt
          have hgl5 := hg5.lt
          clear ht4 ht1 hx4 hg4 x0 x1 x2 own4'
          have kA : Keep (fun q => tset tp vq q ∨ (Value.slice A0 O.length d0).ownBlock = some q) w3 w5 := (k34.mono (fun q _ e => .inr e)).trans (Keep.of_none k45)
          clear k34 k45
          go_region_law (first
            | (go_simp; go_at_call 44; refine (cp.out _ (show Keep none_ w5 _ from (by repeat' (first | assumption | with_reducible exact Keep.refl _ _ | with_reducible refine Keep.alloc ?_ _ | with_reducible refine Keep.drew ?_)))).mono ?_; rintro e w6 ⟨x', is', rfl, hst, k6⟩; have kc6 : Keep (tset tp vq) w5 w6 := (by refine Keep.trans (Keep.of_none ?_) k6; exact (by repeat' (first | assumption | with_reducible exact Keep.refl _ _ | with_reducible refine Keep.alloc ?_ _ | with_reducible refine Keep.drew ?_))); have hx6 := Keep.at kc6 hx5 hxt; have c6 := At.cell hx6; have f6 := At.frozen hx6; obtain ⟨xk, ⟨xs, xe⟩⟩ := x'; simp only [Timer.cells])
            | fail)
          all_goals
            have hx7 := At.set (At.set (At.set hx6 0 (.string xk)) 1 (.int .i64 xs)) 2 (.int .i64 xe)
            have k7 : Keep (one xb2) w6 (((w6.setCell ⟨xb2, 0, none⟩ (.string xk)).setCell ⟨xb2, 1, none⟩ (.int .i64 xs)).setCell ⟨xb2, 2, none⟩ (.int .i64 xe)) := Keep.set1 (Keep.set1 (Keep.set1 (Keep.refl _ _) _) _) _
            have hst7 := hst.keep k7 (fun q hq e => hxt (by unfold one at e; rw [← e]; exact hq))
            have kW : Keep (fun q => tset tp vq q ∨ (Value.slice A0 O.length d0).ownBlock = some q) w3 (((w6.setCell ⟨xb2, 0, none⟩ (.string xk)).setCell ⟨xb2, 1, none⟩ (.int .i64 xs)).setCell ⟨xb2, 2, none⟩ (.int .i64 xe)) :=
              Keep.comb (kA.trans (kc6.mono (fun q _ e => .inl e))) k7 (fun q hq e => by unfold one at e; omega)
            have own7 := own_keep (own_keep own5 kc6 (fun g hg e => by
              rcases hso4 with h9 | ⟨g', h9, h8⟩
              · have h7 := hov g (h9 ▸ hg)
                have := I.lt g (.inr e)
                omega
              · rw [h9] at hg
                have : g' = g := by simpa using hg
                have := I.lt g (.inr e)
                omega)) k7 (fun g hg e => by unfold one at e; exact hown4' g hg e)
            have I2 : SetInv w _ gp mp tp N Q (O.length + 1) c vq X mark M _ xb2 ⟨xk, ⟨xs, xe⟩⟩ is' (O ++ [p]) (cutM M1 p) :=
              SetInv.next I hkm (by omega) hnext kc k3 hm3 kW hst7 own7 hso4 (by simpa using hx7) hxb2 (fun e => hown4' xb2 e rfl)
            replace I2 := Lib.hid I2
            clear hx7 k7 hst7 kW own7 hst k6 kc6 hx6 cp hok' hok hnext hkm I hx5 hg5 own5 g4 g9
            refine put_at (d := some 7) rfl ?_
            go_simp
            go_wp2_with fail
            go_roundw
            case rel => exact ⟨xb2, _, is', O ++ [p], cutM M1 p, rfl, rfl, I2.out⟩
            case measure => simp only [lenV]; omega
end Go.Proofs.YtmioichjhiengaaGreat
