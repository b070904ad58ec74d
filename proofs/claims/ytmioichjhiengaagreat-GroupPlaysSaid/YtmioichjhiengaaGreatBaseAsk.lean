/-
  Texts of one kind, one behind the other.
-/
import Derived.Test.YtmioichjhiengaaGreatBaseRef
import Derived.Test.YtmioichjhiengaaGreatBaseGood
import Derived.Test.YtmioichjhiengaaGreatRefOfC
import Derived.Test.YtmioichjhiengaaGreatBaseModel
import Derived.Test.YtmioichjhiengaaGreatOnceInv
import Derived.BigQuiet
set_option linter.unusedSimpArgs false
set_option linter.unusedVariables false
/-
  The reference's Group.put.
-/
namespace Go.Proofs.YtmioichjhiengaaGreat
open Go.RowKit

def pR (mg : Bool) (key : ByteArray) (s : Span) (v : Int) (L : List Pane) : Pane := (L.filter (hitR mg key s)).foldl mergeStep ⟨key, s, Agg.one v⟩
def rR (mg : Bool) (key : ByteArray) (s : Span) (L : List Pane) : List Pane := L.filter (fun x => !hitR mg key s x)
theorem pR_succ {mg : Bool} {key : ByteArray} {s : Span} {v : Int} {L : List Pane} {k : Nat} (hk : k < L.length) : pR mg key s v (L.take (k + 1)) = if hitR mg key s L[k] then mergeStep (pR mg key s v (L.take k)) L[k] else pR mg key s v (L.take k) := by
  unfold pR
  rw [take_succ_filter hk, List.foldl_append]
  cases hitR mg key s L[k] <;> simp
theorem rR_succ {mg : Bool} {key : ByteArray} {s : Span} {L : List Pane} {k : Nat} (hk : k < L.length) : rR mg key s (L.take (k + 1)) = rR mg key s (L.take k) ++ (if hitR mg key s L[k] then [] else [L[k]]) := by
  unfold rR
  rw [take_succ_filter hk]
  cases hitR mg key s L[k] <;> simp
theorem pR_ok {mg : Bool} {key : ByteArray} {s : Span} {v : Int} {L : List Pane} (hv : I64 v) (h : ∀ x ∈ L, x.ok) : (pR mg key s v L).agg.ok :=
  fold_ok _ _ (one_ok hv) (fun x hx => (h x (List.mem_filter.1 hx).1).2.2)
theorem rR_len (mg : Bool) (key : ByteArray) (s : Span) (L : List Pane) : (rR mg key s L).length ≤ L.length := List.length_filter_le _ _
def RPut (w : World) (p : Nat) (c : Config) (L' : List Pane) (e : Ending) (w' : World) : Prop :=
  ∃ A' d', e = .returned (.tuple #[]) ∧ RGAt w' p c A' d' L' ∧ Keep (one p) w w' ∧ (∀ a, A' = some a → w.heap.size ≤ a.block)
/-- What stands at the head of each round. -/
structure PutSt (w1 wr : World) (pb sb : Nat) (key : ByteArray) (s : Span) (v : Int) (mg : Bool) (L : List Pane) (rv : Value) (k : Nat) : Prop where
  row : PRow wr w1.heap.size rv (rR mg key s (L.take k))
  pane : At wr pb (pR mg key s v (L.take k)).cells.toArray 88
  keep : Keep (one pb) w1 wr
theorem PutSt.none {w1 wr w2 : World} {pb sb : Nat} {key : ByteArray} {s : Span} {v : Int} {mg : Bool} {L : List Pane} {rv : Value} {k : Nat} (h : PutSt w1 wr pb sb key s v mg L rv k) (kz : Keep none_ wr w2) : PutSt w1 w2 pb sb key s v mg L rv k :=
  ⟨own_keep h.row kz (fun _ _ e => e), Keep.at kz h.pane (fun e => e), h.keep.trans (Keep.of_none kz)⟩
set_option maxHeartbeats 1000000 in
set_option maxRecDepth 100000 in
theorem ref6_put {w : World} {p : Nat} {c : Config} {A : Option Addr} {d : Nat} {L : List Pane} (h : RGAt w p c A d L) (hn : L.length ≤ 400000) (key : ByteArray) (s : Span) (v : Int) (hv : I64 v) (hok' : ∀ x ∈ putR (decide (c.kind = 2)) L key s v, x.ok) :
    Calls Tryz.prog 54 #[.pointer (some ⟨p, 0, none⟩), .string key, .agg s.cells.toArray, .int .i64 v] w (RPut w p c (putR (decide (c.kind = 2)) L key s v)) := by
  have k0 : Keep none_ w (w.alloc (.cells s.cells.toArray 84)) := (by repeat' (first | assumption | with_reducible exact Keep.refl _ _ | with_reducible refine Keep.alloc ?_ _ | with_reducible refine Keep.drew ?_))
  have hs0 := At.new w s.cells.toArray 84
  have h0 := h.none k0
  have hok := h.ok
  have c1 := fun W => ref_one W v
  have hpw := h.at_.lt
  have hAw : ∀ a, A = some a → a.block < w.heap.size := h.lt
  obtain ⟨mg, hmg⟩ : ∃ mg, mg = decide (c.kind = 2) := ⟨_, rfl⟩
  rw [← hmg] at hok' ⊢
  have hkb : (c.kind == 2) = mg := by rw [hmg]; rfl
  replace hmg := Lib.hid hmg
  simp only [Span.cells, Agg.cells, Agg.one] at k0 hs0 h0 c1 ⊢
  replace c1 := Lib.hid c1
  clear h
  go_enter Tryz.func54, Tryz.ntmps54
  go_wp2_with fail
  generalize hsb : w.heap.size = sb at *
  generalize w.alloc _ = w0 at *
  have cs := At.cell hs0
  have s0 : w0.cell? ⟨sb, 0, none⟩ = some (.int .i64 s.s) := cs 0
  have s1 : w0.cell? ⟨sb, 1, none⟩ = some (.int .i64 s.e) := cs 1
  have hsl0 := hs0.lt
  clear cs
  replace hsb := Lib.hid hsb
  go_cut [8] from 13 to 17 (fun pv w' => ∃ pb, pv = .pointer (some ⟨pb, 0, none⟩) ∧ w0.heap.size ≤ pb ∧ At w' pb #[.string key, .int .i64 s.s, .int .i64 s.e, .int .i64 1, .int .i64 v, .int .i64 v, .int .i64 v] 88 ∧ Keep none_ w0 w')
  case first =>
    go_region_law (first
      | (go_simp; go_at_call 91; refine (c1.out _).mono ?_; rintro e w7 ⟨rfl, k7⟩; have kc : Keep none_ w0 w7 := (by refine Keep.trans ?_ k7; exact (by repeat' (first | assumption | with_reducible exact Keep.refl _ _ | with_reducible refine Keep.alloc ?_ _ | with_reducible refine Keep.drew ?_))); have cs7 := At.cell (Keep.at kc hs0 (fun e => e)); have hsl7 := (Keep.at kc hs0 (fun e => e)).lt;
          (try (have hnb := Keep.at k7 (At.drew (At.new w0 #[.string ⟨#[]⟩, .int .i64 0, .int .i64 0, .int .i64 0, .int .i64 0, .int .i64 0, .int .i64 0] 88)) (fun e => e); have cnb := At.cell hnb; have fnb := At.frozen hnb)); (try (have hnb := Keep.at k7 (At.new w0.drew #[.string ⟨#[]⟩, .int .i64 0, .int .i64 0, .int .i64 0, .int .i64 0, .int .i64 0, .int .i64 0] 88) (fun e => e); have cnb := At.cell hnb; have fnb := At.frozen hnb)))
      | fail)
    all_goals
      go_wp2_with fail
      go_meet
      first
        | exact ⟨_, rfl, kc.size, At.new _ _ _, Keep.alloc kc _⟩
        | exact ⟨_, rfl, Nat.le_refl _, At.whole hnb [.string key, .int .i64 s.s, .int .i64 s.e, .int .i64 1, .int .i64 v, .int .i64 v, .int .i64 v] rfl, Keep.setNew (Keep.setNew (Keep.setNew (Keep.setNew (Keep.setNew (Keep.setNew (Keep.setNew kc (Nat.le_refl _) _) (Nat.le_refl _) _) (Nat.le_refl _) _) (Nat.le_refl _) _) (Nat.le_refl _) _) (Nat.le_refl _) _) (Nat.le_refl _) _⟩
        | (trace_state; fail)
  case rest =>
    obtain ⟨pb, rfl, hpb, hpn, k1⟩ := hcut
    obtain ⟨w1, rfl⟩ : ∃ w1, w1 = wc := ⟨wc, rfl⟩
    have h1 := h0.none k1
    have hs1 := Keep.at k1 hs0 (fun e => e)
    have hpl := hpn.lt
    have hs01 := k1.size
    have hpw0 : p < w0.heap.size := Nat.lt_of_lt_of_le hpw (by have := hsb.out; omega)
    have hsbp : sb ≠ pb := by omega
    have hpp : p ≠ pb := by omega
    have hAp : ∀ a, A = some a → a.block ≠ pb := fun a ha => by have := hAw a ha; have := hsb.out; omega
    have st0 : PutSt w1 w1 pb sb key s v mg L (.slice none 0 0) 0 := ⟨⟨rfl, .inl ⟨rfl, rfl⟩⟩, hpn, Keep.refl _ _⟩
    have k01 := (show Keep none_ w w1 from k0.trans k1)
    have hsb0 : sb < w0.heap.size := hsl0
    clear h0 hs0 hpn c1 s0 s1 hsl0 k0 k1
    go_wp2_with fail
    go_loopw [9, 10, 11, 12] (fun rv iv _ _ wr => ∃ k : Nat, iv = .int .i64 k ∧ k ≤ L.length ∧ PutSt w1 wr pb sb key s v mg L rv k)
      (fun _ iv _ _ _ => L.length - (intOf iv).toNat)
    case atStart => exact ⟨0, rfl, Nat.zero_le _, st0⟩
    case round =>
      clear st0
      obtain ⟨k, rfl, hk, st⟩ := hrel
      obtain ⟨Ar, cr, rfl⟩ := own_form st.row
      have hk0 := Int.natCast_nonneg k
      by_cases hlt : k < L.length
      · have hlt1 : (k : Int) < (L.length : Int) := by omega
        have hr := h1.keep st.keep (fun e => hpp e) (fun a ha e => hAp a ha e)
        obtain ⟨bb, off, rfl, hbl, -⟩ := h1.sl.at_ (by omega)
        obtain ⟨q0, q1, q2, q3, q4, q5, q6⟩ := hr.sl.pane hlt
        have cp := At.cell hr.at_
        have p0 : wr.cell? ⟨p, 0, none⟩ = some (.int .i64 c.kind) := cp 0
        have p8 : wr.cell? ⟨p, 8, none⟩ = some (.slice (some ⟨bb, off, none⟩) L.length d) := cp 8
        have hplr := hr.at_.lt
        have hbr : bb < wr.heap.size := Nat.lt_of_lt_of_le hbl st.keep.size
        have hps := Lib.hid (pR_succ (mg := mg) (key := key) (s := s) (v := v) hlt)
        have hrs := Lib.hid (rR_succ (mg := mg) (key := key) (s := s) hlt)
        have hxok := (hok _ (List.getElem_mem hlt)).2.2
        have hyok : (pR mg key s v (L.take k)).agg.ok := pR_ok hv (fun x hx => hok x (List.mem_of_mem_take hx))
        have hpa := st.pane
        have hro := st.row
        have kst := st.keep
        generalize L[k] = x at *
        generalize pR mg key s v (L.take k) = y at *
        have hsr := Keep.at kst hs1 (fun e => hsbp e)
        have he := run_eql_Span x.span s
        have cme := fun W => ref_meet W x.span s
        obtain ⟨kb, hkeq⟩ : ∃ kb, kb = (x.key.toList == key.toList) := ⟨_, rfl⟩
        have hkeq' : (x.key.toList == key.toList) = kb := hkeq.symm
        have kx : Keep none_ wr (wr.alloc (.cells x.cells.toArray 88)) := Keep.alloc (Keep.refl _ _) _
        have hxn := At.new wr x.cells.toArray 88
        have hplr2 : pb < wr.heap.size := hpa.lt
        have hsl2 := hsr.lt
        have cs := At.cell hsr
        have s0 : wr.cell? ⟨sb, 0, none⟩ = some (.int .i64 s.s) := cs 0
        have s1 : wr.cell? ⟨sb, 1, none⟩ = some (.int .i64 s.e) := cs 1
        simp only [Span.cells, Pane.cells] at he cme kx hxn
        replace cme := Lib.hid cme
        replace hpa := Lib.hid hpa
        replace hsr := Lib.hid hsr
        clear cs cp hkeq hs1
        have hpbw : pb < w1.heap.size := hpl
        have hxk0 : wr.heap.size ≠ pb := by omega
        cases mg
        · obtain ⟨sm, hsm⟩ : ∃ sm, sm = x.span.eqB s := ⟨_, rfl⟩
          rw [← hsm] at he
          have hh : Hid (hitR false key s x = (kb && sm)) := Lib.hid (by rw [hsm, ← hkeq']; rfl)
          replace hsm := Lib.hid hsm
          obtain ⟨wz, hwz9⟩ : ∃ wz, wz = wr.alloc (.cells #[.string x.key, .int .i64 x.span.s, .int .i64 x.span.e, .int .i64 x.agg.count, .int .i64 x.agg.sum, .int .i64 x.agg.lo, .int .i64 x.agg.hi] 88) := ⟨_, rfl⟩
          have kz : Keep none_ wr wz := by rw [hwz9]; exact kx
          have hsz9 : wz.heap.size = wr.heap.size + 1 := by rw [hwz9]; simp
          replace hsz9 := Lib.hid hsz9
          cases kb
          · have rowz := own_keep hro kz (fun _ _ e => e)
            have hpz := Keep.at kz hpa.out (fun e => e)
            have kpz := kst.trans (Keep.of_none (S := one pb) kz)
            have st2 : Hid (∀ W rv2 m, m = (rR false key s (L.take k)).length + 1 → W.ownsRow w1.heap.size 88 7 rv2 m (flat Pane.cells (rR false key s (L.take k) ++ [x])) → Keep (own_of (.slice Ar (rR false key s (L.take k)).length cr)) wz W → (∀ g, (Value.slice Ar (rR false key s (L.take k)).length cr).ownBlock = some g → w1.heap.size ≤ g) → PutSt w1 W pb sb key s v false L rv2 (k + 1)) := Lib.hid (fun W rv2 m hm h1 h2 h3 => ⟨by
              unfold PRow
              rw [hrs.out, hh.out, if_neg (by simp)]
              have : (rR false key s (L.take k) ++ [x]).length = m := by rw [hm]; simp
              rw [this]
              exact h1, by rw [hps.out, hh.out, if_neg (by simp)]; exact Keep.at h2 hpz (fun e => by have := h3 _ e; omega), Keep.fresh kpz h2 (fun g hg e => by have := h3 _ e; omega)⟩)
            have hsl1 := Sl.of_at (xs := [x]) (At.new wz x.cells.toArray 88) pane_len (by decide) (rfl : (1 : Nat) = [x].length) (by simp [flat_one]) (by unfold maxLen; omega)
            have kb9 : Keep none_ wz (wz.alloc (.cells x.cells.toArray 88)) := Keep.alloc (Keep.refl _ _) _
            have own1 := own_keep rowz kb9 (fun _ _ e => e)
            have hsz := kpz.size
            have hbase1 : w1.heap.size ≤ (wz.alloc (.cells x.cells.toArray 88)).heap.size := by simp; omega
            have hrl := rR_len false key s (L.take k)
            have htl : (L.take k).length ≤ k := by rw [List.length_take]; omega
            have hwz : w1.heap.size ≤ wz.heap.size := hsz
            simp only [Pane.cells] at hsl1 kb9 own1 hbase1
            generalize hrR : rR false key s (L.take k) = rr at *
            replace hrR := Lib.hid hrR
            clear hps hrs hh hpz rowz hpa hro
            (subst hwz9; rw [hsz9.out] at hsl1)
            go_wp2_with (at_builtin; refine wpList_append_sl _ rfl _ _ _ rfl w1.heap.size 88 row_pane pane_len pane_one _ _ _ rfl own1 (some ⟨_, 0, none⟩) 1 1 [x] rfl hsl1 (by omega) hbase1 ?_)
            intro v2 w2 own2 hg2 hb2
            have hfin := st2.out w2 v2 _ rfl own2 (Keep.grown (Keep.of_none kb9) hg2 (fun g e _ => e)) (fun g e => (own1.lt g e).1)
            clear st2 own1 own2 hg2 hb2 hsl1 kb9 kpz kz hbase1
            go_wp2_with fail
            go_roundw
            case rel => exact ⟨k + 1, by go_num, by omega, hfin⟩
            case measure => simp [intOf]; omega
          · cases sm
            · have rowz := own_keep hro kz (fun _ _ e => e)
              have hpz := Keep.at kz hpa.out (fun e => e)
              have kpz := kst.trans (Keep.of_none (S := one pb) kz)
              have st2 : Hid (∀ W rv2 m, m = (rR false key s (L.take k)).length + 1 → W.ownsRow w1.heap.size 88 7 rv2 m (flat Pane.cells (rR false key s (L.take k) ++ [x])) → Keep (own_of (.slice Ar (rR false key s (L.take k)).length cr)) wz W → (∀ g, (Value.slice Ar (rR false key s (L.take k)).length cr).ownBlock = some g → w1.heap.size ≤ g) → PutSt w1 W pb sb key s v false L rv2 (k + 1)) := Lib.hid (fun W rv2 m hm h1 h2 h3 => ⟨by
                unfold PRow
                rw [hrs.out, hh.out, if_neg (by simp)]
                have : (rR false key s (L.take k) ++ [x]).length = m := by rw [hm]; simp
                rw [this]
                exact h1, by rw [hps.out, hh.out, if_neg (by simp)]; exact Keep.at h2 hpz (fun e => by have := h3 _ e; omega), Keep.fresh kpz h2 (fun g hg e => by have := h3 _ e; omega)⟩)
              have hsl1 := Sl.of_at (xs := [x]) (At.new wz x.cells.toArray 88) pane_len (by decide) (rfl : (1 : Nat) = [x].length) (by simp [flat_one]) (by unfold maxLen; omega)
              have kb9 : Keep none_ wz (wz.alloc (.cells x.cells.toArray 88)) := Keep.alloc (Keep.refl _ _) _
              have own1 := own_keep rowz kb9 (fun _ _ e => e)
              have hsz := kpz.size
              have hbase1 : w1.heap.size ≤ (wz.alloc (.cells x.cells.toArray 88)).heap.size := by simp; omega
              have hrl := rR_len false key s (L.take k)
              have htl : (L.take k).length ≤ k := by rw [List.length_take]; omega
              have hwz : w1.heap.size ≤ wz.heap.size := hsz
              simp only [Pane.cells] at hsl1 kb9 own1 hbase1
              generalize hrR : rR false key s (L.take k) = rr at *
              replace hrR := Lib.hid hrR
              clear hps hrs hh hpz rowz hpa hro
              (subst hwz9; rw [hsz9.out] at hsl1)
              go_wp2_with (at_builtin; refine wpList_append_sl _ rfl _ _ _ rfl w1.heap.size 88 row_pane pane_len pane_one _ _ _ rfl own1 (some ⟨_, 0, none⟩) 1 1 [x] rfl hsl1 (by omega) hbase1 ?_)
              intro v2 w2 own2 hg2 hb2
              have hfin := st2.out w2 v2 _ rfl own2 (Keep.grown (Keep.of_none kb9) hg2 (fun g e _ => e)) (fun g e => (own1.lt g e).1)
              clear st2 own1 own2 hg2 hb2 hsl1 kb9 kpz kz hbase1
              go_wp2_with fail
              go_roundw
              case rel => exact ⟨k + 1, by go_num, by omega, hfin⟩
              case measure => simp [intOf]; omega
            · have hxz : At wz wr.heap.size x.cells.toArray 88 := by rw [hwz9]; exact hxn
              have rowz := own_keep hro kz (fun _ _ e => e)
              have hpz := Keep.at kz hpa.out (fun e => e)
              have kpz := kst.trans (Keep.of_none (S := one pb) kz)
              obtain ⟨jn, hjn⟩ : ∃ jn, jn = y.span.join x.span := ⟨_, rfl⟩
              obtain ⟨mn, hmn⟩ : ∃ mn, mn = y.agg.merge x.agg := ⟨_, rfl⟩
              have hst : Hid (∀ W, At W pb #[.string y.key, .int .i64 jn.s, .int .i64 jn.e, .int .i64 mn.count, .int .i64 mn.sum, .int .i64 mn.lo, .int .i64 mn.hi] 88 → Keep (one pb) wz W → PutSt w1 W pb sb key s v false L (.slice Ar (rR false key s (L.take k)).length cr) (k + 1)) := Lib.hid (fun W h1 h2 => ⟨by
                unfold PRow
                rw [hrs.out, hh.out, if_pos (by simp), List.append_nil]
                exact own_keep rowz h2 (fun g hg e => by have := (rowz.lt g hg).1; unfold one at e; omega), by
                rw [hps.out, hh.out, if_pos (by simp)]
                unfold mergeStep
                rw [← hjn, ← hmn]
                exact h1, kpz.trans h2⟩)
              have cjo := fun W => ref_join W y.span x.span
              have cmg := fun W => ref_merge W y.agg x.agg hyok hxok
              rw [← hjn] at cjo
              rw [← hmn] at cmg
              simp only [Span.cells] at cjo
              simp only [Agg.cells] at cmg
              replace cjo := Lib.hid cjo
              replace cmg := Lib.hid cmg
              simp only [Pane.cells] at hpz hxz
              have cpz := At.cell hpz
              have lpz := hpz.lt
              have cxz := At.cell hxz
              have lxz := hxz.lt
              clear hps hrs hh rowz hpa hro hjn hmn
              subst hwz9
              go_wp2_with fail
              refine (cjo.out _).mono ?_
              rintro e w5 ⟨rfl, k5⟩
              have hp5 := Keep.at k5 hpz (fun e => e)
              have hx5 := Keep.at k5 hxz (fun e => e)
              have cp5 := At.cell hp5
              have fp5 := At.frozen hp5
              have lp5 := hp5.lt
              have cx5 := At.cell hx5
              have lx5 := hx5.lt
              have hp6 : At ((w5.setCell ⟨pb, 1, none⟩ (.int .i64 jn.s)).setCell ⟨pb, 2, none⟩ (.int .i64 jn.e)) pb #[.string y.key, .int .i64 jn.s, .int .i64 jn.e, .int .i64 y.agg.count, .int .i64 y.agg.sum, .int .i64 y.agg.lo, .int .i64 y.agg.hi] 88 := At.set (At.set hp5 1 _) 2 _
              have k56 : Keep (one pb) w5 ((w5.setCell ⟨pb, 1, none⟩ (.int .i64 jn.s)).setCell ⟨pb, 2, none⟩ (.int .i64 jn.e)) := Keep.set1 (Keep.set1 (Keep.refl _ _) _) _
              clear cpz cxz lpz lxz
              go_wp2_with fail
              refine (cmg.out _).mono ?_
              rintro e w7 ⟨rfl, k7⟩
              have hp7 := Keep.at k7 hp6 (fun e => e)
              have cp7 := At.cell hp7
              have fp7 := At.frozen hp7
              have lp7 := hp7.lt
              have hp8 : At ((((w7.setCell ⟨pb, 3, none⟩ (.int .i64 mn.count)).setCell ⟨pb, 4, none⟩ (.int .i64 mn.sum)).setCell ⟨pb, 5, none⟩ (.int .i64 mn.lo)).setCell ⟨pb, 6, none⟩ (.int .i64 mn.hi)) pb #[.string y.key, .int .i64 jn.s, .int .i64 jn.e, .int .i64 mn.count, .int .i64 mn.sum, .int .i64 mn.lo, .int .i64 mn.hi] 88 := At.set (At.set (At.set (At.set hp7 3 _) 4 _) 5 _) 6 _
              have k78 : Keep (one pb) w7 ((((w7.setCell ⟨pb, 3, none⟩ (.int .i64 mn.count)).setCell ⟨pb, 4, none⟩ (.int .i64 mn.sum)).setCell ⟨pb, 5, none⟩ (.int .i64 mn.lo)).setCell ⟨pb, 6, none⟩ (.int .i64 mn.hi)) := Keep.set1 (Keep.set1 (Keep.set1 (Keep.set1 (Keep.refl _ _) _) _) _) _
              have hfin := hst.out _ hp8 ((((Keep.of_none k5).trans k56).trans (Keep.of_none k7)).trans k78)
              clear hst cjo cmg cp5 fp5 cx5 hp5 hx5 hp6 k56 hp7 hp8 k78 k5 k7
              go_wp2_with fail
              go_roundw
              case rel => exact ⟨k + 1, by go_num, by omega, hfin⟩
              case measure => simp [intOf]; omega
        · obtain ⟨sm, hsm⟩ : ∃ sm, sm = x.span.meetR s := ⟨_, rfl⟩
          rw [← hsm] at cme
          have hh : Hid (hitR true key s x = (kb && sm)) := Lib.hid (by rw [hsm, ← hkeq']; rfl)
          replace hsm := Lib.hid hsm
          go_wp2_with fail
          refine (cme.out _).mono ?_
          rintro e wz ⟨rfl, kz0⟩
          have kz := kx.trans kz0
          have hxz := Keep.at kz0 hxn (fun e => e)
          have cxw := At.cell hxz
          have lxw := hxz.lt
          clear cme he
          cases kb
          · have rowz := own_keep hro kz (fun _ _ e => e)
            have hpz := Keep.at kz hpa.out (fun e => e)
            have kpz := kst.trans (Keep.of_none (S := one pb) kz)
            have st2 : Hid (∀ W rv2 m, m = (rR true key s (L.take k)).length + 1 → W.ownsRow w1.heap.size 88 7 rv2 m (flat Pane.cells (rR true key s (L.take k) ++ [x])) → Keep (own_of (.slice Ar (rR true key s (L.take k)).length cr)) wz W → (∀ g, (Value.slice Ar (rR true key s (L.take k)).length cr).ownBlock = some g → w1.heap.size ≤ g) → PutSt w1 W pb sb key s v true L rv2 (k + 1)) := Lib.hid (fun W rv2 m hm h1 h2 h3 => ⟨by
              unfold PRow
              rw [hrs.out, hh.out, if_neg (by simp)]
              have : (rR true key s (L.take k) ++ [x]).length = m := by rw [hm]; simp
              rw [this]
              exact h1, by rw [hps.out, hh.out, if_neg (by simp)]; exact Keep.at h2 hpz (fun e => by have := h3 _ e; omega), Keep.fresh kpz h2 (fun g hg e => by have := h3 _ e; omega)⟩)
            have hsl1 := Sl.of_at (xs := [x]) (At.new wz x.cells.toArray 88) pane_len (by decide) (rfl : (1 : Nat) = [x].length) (by simp [flat_one]) (by unfold maxLen; omega)
            have kb9 : Keep none_ wz (wz.alloc (.cells x.cells.toArray 88)) := Keep.alloc (Keep.refl _ _) _
            have own1 := own_keep rowz kb9 (fun _ _ e => e)
            have hsz := kpz.size
            have hbase1 : w1.heap.size ≤ (wz.alloc (.cells x.cells.toArray 88)).heap.size := by simp; omega
            have hrl := rR_len true key s (L.take k)
            have htl : (L.take k).length ≤ k := by rw [List.length_take]; omega
            have hwz : w1.heap.size ≤ wz.heap.size := hsz
            simp only [Pane.cells] at hsl1 kb9 own1 hbase1
            generalize hrR : rR true key s (L.take k) = rr at *
            replace hrR := Lib.hid hrR
            clear hps hrs hh hpz rowz hpa hro
            skip
            go_wp2_with (at_builtin; refine wpList_append_sl _ rfl _ _ _ rfl w1.heap.size 88 row_pane pane_len pane_one _ _ _ rfl own1 (some ⟨_, 0, none⟩) 1 1 [x] rfl hsl1 (by omega) hbase1 ?_)
            intro v2 w2 own2 hg2 hb2
            have hfin := st2.out w2 v2 _ rfl own2 (Keep.grown (Keep.of_none kb9) hg2 (fun g e _ => e)) (fun g e => (own1.lt g e).1)
            clear st2 own1 own2 hg2 hb2 hsl1 kb9 kpz kz hbase1
            go_wp2_with fail
            go_roundw
            case rel => exact ⟨k + 1, by go_num, by omega, hfin⟩
            case measure => simp [intOf]; omega
          · cases sm
            · have rowz := own_keep hro kz (fun _ _ e => e)
              have hpz := Keep.at kz hpa.out (fun e => e)
              have kpz := kst.trans (Keep.of_none (S := one pb) kz)
              have st2 : Hid (∀ W rv2 m, m = (rR true key s (L.take k)).length + 1 → W.ownsRow w1.heap.size 88 7 rv2 m (flat Pane.cells (rR true key s (L.take k) ++ [x])) → Keep (own_of (.slice Ar (rR true key s (L.take k)).length cr)) wz W → (∀ g, (Value.slice Ar (rR true key s (L.take k)).length cr).ownBlock = some g → w1.heap.size ≤ g) → PutSt w1 W pb sb key s v true L rv2 (k + 1)) := Lib.hid (fun W rv2 m hm h1 h2 h3 => ⟨by
                unfold PRow
                rw [hrs.out, hh.out, if_neg (by simp)]
                have : (rR true key s (L.take k) ++ [x]).length = m := by rw [hm]; simp
                rw [this]
                exact h1, by rw [hps.out, hh.out, if_neg (by simp)]; exact Keep.at h2 hpz (fun e => by have := h3 _ e; omega), Keep.fresh kpz h2 (fun g hg e => by have := h3 _ e; omega)⟩)
              have hsl1 := Sl.of_at (xs := [x]) (At.new wz x.cells.toArray 88) pane_len (by decide) (rfl : (1 : Nat) = [x].length) (by simp [flat_one]) (by unfold maxLen; omega)
              have kb9 : Keep none_ wz (wz.alloc (.cells x.cells.toArray 88)) := Keep.alloc (Keep.refl _ _) _
              have own1 := own_keep rowz kb9 (fun _ _ e => e)
              have hsz := kpz.size
              have hbase1 : w1.heap.size ≤ (wz.alloc (.cells x.cells.toArray 88)).heap.size := by simp; omega
              have hrl := rR_len true key s (L.take k)
              have htl : (L.take k).length ≤ k := by rw [List.length_take]; omega
              have hwz : w1.heap.size ≤ wz.heap.size := hsz
              simp only [Pane.cells] at hsl1 kb9 own1 hbase1
              generalize hrR : rR true key s (L.take k) = rr at *
              replace hrR := Lib.hid hrR
              clear hps hrs hh hpz rowz hpa hro
              skip
              go_wp2_with (at_builtin; refine wpList_append_sl _ rfl _ _ _ rfl w1.heap.size 88 row_pane pane_len pane_one _ _ _ rfl own1 (some ⟨_, 0, none⟩) 1 1 [x] rfl hsl1 (by omega) hbase1 ?_)
              intro v2 w2 own2 hg2 hb2
              have hfin := st2.out w2 v2 _ rfl own2 (Keep.grown (Keep.of_none kb9) hg2 (fun g e _ => e)) (fun g e => (own1.lt g e).1)
              clear st2 own1 own2 hg2 hb2 hsl1 kb9 kpz kz hbase1
              go_wp2_with fail
              go_roundw
              case rel => exact ⟨k + 1, by go_num, by omega, hfin⟩
              case measure => simp [intOf]; omega
            · have rowz := own_keep hro kz (fun _ _ e => e)
              have hpz := Keep.at kz hpa.out (fun e => e)
              have kpz := kst.trans (Keep.of_none (S := one pb) kz)
              obtain ⟨jn, hjn⟩ : ∃ jn, jn = y.span.join x.span := ⟨_, rfl⟩
              obtain ⟨mn, hmn⟩ : ∃ mn, mn = y.agg.merge x.agg := ⟨_, rfl⟩
              have hst : Hid (∀ W, At W pb #[.string y.key, .int .i64 jn.s, .int .i64 jn.e, .int .i64 mn.count, .int .i64 mn.sum, .int .i64 mn.lo, .int .i64 mn.hi] 88 → Keep (one pb) wz W → PutSt w1 W pb sb key s v true L (.slice Ar (rR true key s (L.take k)).length cr) (k + 1)) := Lib.hid (fun W h1 h2 => ⟨by
                unfold PRow
                rw [hrs.out, hh.out, if_pos (by simp), List.append_nil]
                exact own_keep rowz h2 (fun g hg e => by have := (rowz.lt g hg).1; unfold one at e; omega), by
                rw [hps.out, hh.out, if_pos (by simp)]
                unfold mergeStep
                rw [← hjn, ← hmn]
                exact h1, kpz.trans h2⟩)
              have cjo := fun W => ref_join W y.span x.span
              have cmg := fun W => ref_merge W y.agg x.agg hyok hxok
              rw [← hjn] at cjo
              rw [← hmn] at cmg
              simp only [Span.cells] at cjo
              simp only [Agg.cells] at cmg
              replace cjo := Lib.hid cjo
              replace cmg := Lib.hid cmg
              simp only [Pane.cells] at hpz hxz
              have cpz := At.cell hpz
              have lpz := hpz.lt
              have cxz := At.cell hxz
              have lxz := hxz.lt
              clear hps hrs hh rowz hpa hro hjn hmn
              skip
              go_wp2_with fail
              refine (cjo.out _).mono ?_
              rintro e w5 ⟨rfl, k5⟩
              have hp5 := Keep.at k5 hpz (fun e => e)
              have hx5 := Keep.at k5 hxz (fun e => e)
              have cp5 := At.cell hp5
              have fp5 := At.frozen hp5
              have lp5 := hp5.lt
              have cx5 := At.cell hx5
              have lx5 := hx5.lt
              have hp6 : At ((w5.setCell ⟨pb, 1, none⟩ (.int .i64 jn.s)).setCell ⟨pb, 2, none⟩ (.int .i64 jn.e)) pb #[.string y.key, .int .i64 jn.s, .int .i64 jn.e, .int .i64 y.agg.count, .int .i64 y.agg.sum, .int .i64 y.agg.lo, .int .i64 y.agg.hi] 88 := At.set (At.set hp5 1 _) 2 _
              have k56 : Keep (one pb) w5 ((w5.setCell ⟨pb, 1, none⟩ (.int .i64 jn.s)).setCell ⟨pb, 2, none⟩ (.int .i64 jn.e)) := Keep.set1 (Keep.set1 (Keep.refl _ _) _) _
              clear cpz cxz lpz lxz
              go_wp2_with fail
              refine (cmg.out _).mono ?_
              rintro e w7 ⟨rfl, k7⟩
              have hp7 := Keep.at k7 hp6 (fun e => e)
              have cp7 := At.cell hp7
              have fp7 := At.frozen hp7
              have lp7 := hp7.lt
              have hp8 : At ((((w7.setCell ⟨pb, 3, none⟩ (.int .i64 mn.count)).setCell ⟨pb, 4, none⟩ (.int .i64 mn.sum)).setCell ⟨pb, 5, none⟩ (.int .i64 mn.lo)).setCell ⟨pb, 6, none⟩ (.int .i64 mn.hi)) pb #[.string y.key, .int .i64 jn.s, .int .i64 jn.e, .int .i64 mn.count, .int .i64 mn.sum, .int .i64 mn.lo, .int .i64 mn.hi] 88 := At.set (At.set (At.set (At.set hp7 3 _) 4 _) 5 _) 6 _
              have k78 : Keep (one pb) w7 ((((w7.setCell ⟨pb, 3, none⟩ (.int .i64 mn.count)).setCell ⟨pb, 4, none⟩ (.int .i64 mn.sum)).setCell ⟨pb, 5, none⟩ (.int .i64 mn.lo)).setCell ⟨pb, 6, none⟩ (.int .i64 mn.hi)) := Keep.set1 (Keep.set1 (Keep.set1 (Keep.set1 (Keep.refl _ _) _) _) _) _
              have hfin := hst.out _ hp8 ((((Keep.of_none k5).trans k56).trans (Keep.of_none k7)).trans k78)
              clear hst cjo cmg cp5 fp5 cx5 hp5 hx5 hp6 k56 hp7 hp8 k78 k5 k7
              go_wp2_with fail
              go_roundw
              case rel => exact ⟨k + 1, by go_num, by omega, hfin⟩
              case measure => simp [intOf]; omega
      · have hkl : k = L.length := by omega
        have htk : L.take k = L := List.take_of_length_le (by omega)
        have hin : ¬ ((k : Int) < (L.length : Int)) := by omega
        have hpa := st.pane
        have hro := st.row
        have kst := st.keep
        rw [htk] at hpa hro ⊢
        have hr := h1.keep kst (fun e => hpp e) (fun a ha e => hAp a ha e)
        have hkp : Keep (one p) w wr := Keep.fresh (Keep.of_none k01) kst (fun q hq e => by have := hsb.out; unfold one at e; omega)
        have hL' : putR mg L key s v = rR mg key s L ++ [pR mg key s v L] := rfl
        rw [hL'] at hok'
        replace hL' := Lib.hid hL'
        have hrl := rR_len mg key s L
        have hsz := kst.size
        have hsw := hkp.size
        have hw1 : w.heap.size ≤ w1.heap.size := k01.size
        generalize pR mg key s v L = y at *
        generalize hrR : rR mg key s L = rr at *
        replace hrR := Lib.hid hrR
        have cp := At.cell hr.at_
        have p0 : wr.cell? ⟨p, 0, none⟩ = some (.int .i64 c.kind) := cp 0
        have p8 : wr.cell? ⟨p, 8, none⟩ = some (.slice A L.length d) := cp 8
        have hplr := hr.at_.lt
        have cy := At.cell hpa
        have hyl := hpa.lt
        have hsl1 := Sl.of_at (xs := [y]) (At.new wr y.cells.toArray 88) pane_len (by decide) (rfl : (1 : Nat) = [y].length) (by simp [flat_one]) (by unfold maxLen; omega)
        have kb9 : Keep none_ wr (wr.alloc (.cells y.cells.toArray 88)) := Keep.alloc (Keep.refl _ _) _
        have own1 := own_keep hro kb9 (fun _ _ e => e)
        have hbase1 : w1.heap.size ≤ (wr.alloc (.cells y.cells.toArray 88)).heap.size := by simp; omega
        simp only [Pane.cells] at hsl1 kb9 own1 hbase1 cy
        clear cp hpa
        go_wp2_with (at_builtin; refine wpList_append_sl _ rfl _ _ _ rfl w1.heap.size 88 row_pane pane_len pane_one _ _ _ rfl own1 (some ⟨wr.heap.size, 0, none⟩) 1 1 [y] rfl hsl1 (by omega) hbase1 ?_)
        intro v2 w2 own2 hg2 hb2
        have hovw : ∀ g, (Value.slice Ar rr.length cr).ownBlock = some g → w1.heap.size ≤ g := fun g e => (own1.lt g e).1
        have k2 : Keep (own_of (.slice Ar rr.length cr)) wr w2 := Keep.grown (Keep.of_none kb9) hg2 (fun g e _ => e)
        have own2' : PRow w2 w1.heap.size v2 (rr ++ [y]) := by
          have : (rr ++ [y]).length = rr.length + 1 := by simp
          unfold PRow
          rw [this]
          exact own2
        have hr2 := hr.keep k2 (fun e => by have := hovw p e; omega) (fun a ha e => by have := hovw _ e; have := hAw a ha; omega)
        have hk2w : Keep (one p) w w2 := Keep.fresh hkp k2 (fun q hq e => by have := hovw q e; omega)
        obtain ⟨A2, d2, rfl⟩ := own_form own2'
        have ge2 := own_block_ge own2'
        have lt2 : ∀ a, A2 = some a → a.block < w2.heap.size := fun a ha => (own2'.lt a.block (by rw [ha]; rfl)).2
        have fp := At.frozen hr2.at_
        have cp := At.cell hr2.at_
        have lp := hr2.at_.lt
        have at4 : At (w2.setCell ⟨p, 8, none⟩ (.slice A2 (rr ++ [y]).length d2)) p #[.int .i64 c.kind, .int .i64 c.size, .int .i64 c.slide, .int .i64 c.gap, .int .i64 c.late, .int .i64 c.shards, .int .i64 c.groups, .int .i64 c.cap, .slice A2 (rr ++ [y]).length d2] 36 := At.set hr2.at_ 8 _
        have k24 : Keep (one p) w2 (w2.setCell ⟨p, 8, none⟩ (.slice A2 (rr ++ [y]).length d2)) := Keep.set1 (Keep.refl _ _) _
        have hfin : RPut w p c (rr ++ [y]) (.returned (.tuple #[])) (w2.setCell ⟨p, 8, none⟩ (.slice A2 (rr ++ [y]).length d2)) :=
          ⟨A2, d2, rfl, ⟨at4, (Sl.of_own pane_len (by decide) own2').keep k24 (fun a ha e => by have := ge2 a ha; unfold one at e; omega), fun a ha e => by have := ge2 a ha; omega, fun a ha => by have := lt2 a ha; simp; omega, hok'⟩, hk2w.trans k24, fun a ha => by have := ge2 a ha; omega⟩
        clear own1 own2 hg2 hb2 hsl1 kb9 hbase1 hovw k2 own2' hr2 hk2w at4 k24 st hro kst hr hkp p0 p8 cy
        go_wp2_with fail
        refine bodyPost_end (v := .tuple #[]) ?_ ?_ ?_
        · exact results_none Tryz.results54 _ _ _
        · rfl
        · rw [hL'.out]
          have e9 : (rr ++ [y]).length = rr.length + 1 := by simp
          rw [e9] at hfin
          exact hfin
end Go.Proofs.YtmioichjhiengaaGreat

/-
  The reference's Group.Take.
-/
namespace Go.Proofs.YtmioichjhiengaaGreat
open Go.RowKit

def RTaken (w : World) (p n : Nat) (c : Config) (A : Option Addr) (L : List Pane) (mark : Int) (key : ByteArray) (t v : Int) (M : KM) (e : Ending) (w' : World) : Prop :=
  ∃ code vo O A' d' L' M1 M2, e = .returned (.tuple #[.int .i64 code, vo]) ∧ PRow w' w.heap.size vo O ∧ Steps c.late mark M O M1 ∧ Calm c.late mark M1 ∧
    ((ofL c t = none ∧ code = 4 ∧ M2 = M1) ∨ ∃ l, ofL c t = some l ∧ code = codeG c.late mark l ∧ M2 = takeM c.kind c.late mark key v l M1) ∧
    RelL L' M2 ∧ GoodM (n + 16) c.kind M2 ∧ RGAt w' p c A' d' L' ∧ Keep (one p) w w' ∧ (∀ a, A' = some a → A = some a ∨ w.heap.size ≤ a.block) ∧ L'.length ≤ L.length + 16
/-- What stands at the head of each round. -/
structure RTk (w wr : World) (p n : Nat) (c : Config) (A : Option Addr) (L : List Pane) (mark : Int) (key : ByteArray) (v : Int) (l : List Span) (M1 : KM) (O : List Pane) (vo : Value) (i : Nat) (code : Int) (A' : Option Addr) (d' : Nat) (L' : List Pane) : Prop where
  row : PRow wr w.heap.size vo O
  code_ : code = if openN c.late mark (l.take i) = 0 then 1 else 0
  rel : RelL L' (takeM c.kind c.late mark key v (l.take i) M1)
  good : GoodM (n + i) c.kind (takeM c.kind c.late mark key v (l.take i) M1)
  at_ : RGAt wr p c A' d' L'
  keep : Keep (one p) w wr
  own : ∀ a, A' = some a → A = some a ∨ w.heap.size ≤ a.block
  len : L'.length ≤ L.length + i
theorem RTk.none {w wr w2 : World} {p n : Nat} {c : Config} {A : Option Addr} {L : List Pane} {mark : Int} {key : ByteArray} {v : Int} {l : List Span} {M1 : KM} {O : List Pane} {vo : Value} {i : Nat} {code : Int} {A' : Option Addr} {d' : Nat} {L' : List Pane} (h : RTk w wr p n c A L mark key v l M1 O vo i code A' d' L') (k : Keep none_ wr w2) : RTk w w2 p n c A L mark key v l M1 O vo i code A' d' L' :=
  ⟨own_keep h.row k (fun _ _ e => e), h.code_, h.rel, h.good, h.at_.none k, h.keep.trans (Keep.of_none k), h.own, h.len⟩
theorem RTk.skip {w wr : World} {p n : Nat} {c : Config} {A : Option Addr} {L : List Pane} {mark : Int} {key : ByteArray} {v : Int} {l : List Span} {M1 : KM} {O : List Pane} {vo : Value} {i : Nat} {code : Int} {A' : Option Addr} {d' : Nat} {L' : List Pane} (h : RTk w wr p n c A L mark key v l M1 O vo i code A' d' L') (hi : i < l.length) (ho : l[i].overB c.late mark = true) : RTk w wr p n c A L mark key v l M1 O vo (i + 1) code A' d' L' := by
  have e1 := takeM_take (kind := c.kind) (late := c.late) (mark := mark) (v := v) (key := key) hi M1
  have e2 := openN_take (late := c.late) (mark := mark) hi
  rw [if_pos ho] at e1 e2
  refine ⟨h.row, by rw [e2]; exact h.code_, by rw [e1]; exact h.rel, by rw [e1]; exact h.good.up (by omega), h.at_, h.keep, h.own, by have := h.len; omega⟩
theorem RTk.put {w wr w2 : World} {p n : Nat} {c : Config} {A : Option Addr} {L : List Pane} {mark : Int} {key : ByteArray} {v : Int} {l : List Span} {M1 : KM} {O : List Pane} {vo : Value} {i : Nat} {code : Int} {A' A2 : Option Addr} {d' d2 : Nat} {L' : List Pane} (h : RTk w wr p n c A L mark key v l M1 O vo i code A' d' L') (hi : i < l.length) (ho : l[i].overB c.late mark = false) (hn : n + i ≤ 100000) (hk : key.size ≤ maxLen) (hs : l[i].ok) (hss : l[i].s < l[i].e) (hv : I64 v) (hp : p < w.heap.size)
    (hr2 : RGAt w2 p c A2 d2 (putR (decide (c.kind = 2)) L' key l[i] v)) (k2 : Keep (one p) wr w2) (hA : ∀ a, A2 = some a → wr.heap.size ≤ a.block) : RTk w w2 p n c A L mark key v l M1 O vo (i + 1) 0 A2 d2 (putR (decide (c.kind = 2)) L' key l[i] v) := by
  have e1 := takeM_take (kind := c.kind) (late := c.late) (mark := mark) (v := v) (key := key) hi M1
  have e2 := openN_take (late := c.late) (mark := mark) hi
  rw [ho] at e1 e2
  simp only [Bool.false_eq_true, if_false] at e1 e2
  refine ⟨own_keep h.row k2 (fun g hg e => by have := (h.row.lt g hg).1; unfold one at e; omega), by rw [e2, if_neg (by omega)], by rw [e1]; exact h.good.rel hn h.rel hk hss hv, by rw [e1]; exact (h.good.put hn hk hs hss hv), hr2, h.keep.trans k2, fun a ha => .inr (Nat.le_trans h.keep.size (hA a ha)), by have := h.len; have := putR_len (decide (c.kind = 2)) L' key l[i] v; omega⟩
set_option maxHeartbeats 2000000 in
set_option maxRecDepth 100000 in
theorem ref6_take {w : World} {p n : Nat} {c : Config} {A : Option Addr} {d : Nat} {L : List Pane} {M : KM} (h : RGAt w p c A d L) (hr : RelL L M) (hg : GoodM n c.kind M) (hn : n ≤ 90000) (hL : L.length ≤ 300000) (hc : c.ok) (hm : c.mayB = true) (key : ByteArray) (hk : key.size ≤ maxLen) (t v mark : Int) (ht : I64 t) (hv : I64 v) (hmk : I64 mark) :
    Calls Tryz.prog 15 #[.pointer (some ⟨p, 0, none⟩), .string key, .int .i64 t, .int .i64 v, .int .i64 mark] w (RTaken w p n c A L mark key t v M) := by
  have hpw := h.at_.lt
  have cst := Lib.hid (ref6_settle h hr hg.km (by omega) hc mark hmk)
  have cof := fun W => ref_ofc W c t hc ht hm
  simp only [Config.cells] at cof
  replace cof := Lib.hid cof
  have hlate : I64 c.late := hc.2.2.2.2.1
  clear h
  go_enter Tryz.func15, Tryz.ntmps15
  go_wp2_with fail
  refine cst.out.mono ?_
  rintro e w1 ⟨vo, O, A1, d1, L1, M1, rfl, row, hst, hcalm, hrel1, hat1, k1, own1, hlen1⟩
  obtain ⟨Ao, co, rfl⟩ := own_form row
  have hgood1 := hg.steps hst
  have cp := At.cell hat1.at_
  have hpl1 := hat1.at_.lt
  clear cst
  go_wp2_with fail
  refine (cof.out _).mono ?_
  rintro e w2 ⟨wv, bv, rfl, k2, hres⟩
  have hat2 := hat1.none k2
  have row2 := own_keep row k2 (fun _ _ e => e)
  have kw2 := k1.trans (Keep.of_none (S := one p) k2)
  clear cp cof hat1
  rcases hres with ⟨l, hl, rfl, hlo⟩ | ⟨hl, rfl, rfl⟩
  · obtain ⟨Al, cl, rfl⟩ := own_form hlo
    have hsl : Sl Span.cells 2 w2 Al l.length cl l := Sl.of_own span_len (by decide) hlo
    have hw := ofL_wins c t l hc ht hm hl
    have h16 := hw.few
    have hge := own_block_ge hlo
    have hlnp : ∀ a, Al = some a → a.block ≠ p := fun a ha e => by have := hge a ha; have := k1.size; omega
    have st0 : RTk w w2 p n c A L mark key v l M1 O (.slice Ao O.length co) 0 1 A1 d1 L1 :=
      ⟨row2, rfl, hrel1, hgood1, hat2, kw2, own1, by omega⟩
    clear row row2 hat2 kw2 own1 hrel1 hgood1 hlo hge k1 k2
    go_wp2_with fail
    go_loopw [15, 16, 17] (fun cv iv _ wr => ∃ (i : Nat) (code : Int) (A' : Option Addr) (d' : Nat) (L' : List Pane), iv = .int .i64 i ∧ i ≤ l.length ∧ cv = .int .i64 code ∧ RTk w wr p n c A L mark key v l M1 O (.slice Ao O.length co) i code A' d' L' ∧ Keep (one p) w2 wr)
      (fun _ iv _ _ => l.length - (intOf iv).toNat)
    case atStart => exact ⟨0, 1, A1, d1, L1, rfl, Nat.zero_le _, rfl, st0, Keep.refl _ _⟩
    case round =>
      clear st0
      obtain ⟨i, code, A', d', L', rfl, hi, rfl, st, kr⟩ := hrel
      have hi0 := Int.natCast_nonneg i
      by_cases hlt : i < l.length
      · have hlt1 : (i : Int) < (l.length : Int) := by omega
        obtain ⟨b, off, rfl, hbl, -⟩ := hsl.at_ (by omega)
        have hsr := hsl.keep kr (fun a ha e => hlnp a ha e)
        obtain ⟨ι, hne9, f, hf0, hfk, hfa⟩ := class_of none_ wr
        have hat := st.at_
        have f4 : ∀ z, (f z).cell? ⟨p, 4, none⟩ = some (.int .i64 c.late) := fun z => At.cell (hat.none (hfk z)).at_ 4
        have hpf : ∀ z, p < (f z).heap.size := fun z => (hat.none (hfk z)).at_.lt
        have hpr := hat.at_.lt
        have q0 : ∀ z, (f z).cell? ⟨b, off + i * 2, none⟩ = some (.int .i64 l[i].s) := fun z => (hsr.keep (hfk z) Off.none_).cellk hlt 0 (by omega)
        have q1 : ∀ z, (f z).cell? ⟨b, off + i * 2 + 1, none⟩ = some (.int .i64 l[i].e) := fun z => (hsr.keep (hfk z) Off.none_).cellk hlt 1 (by omega)
        have hwi := hw.has i hlt
        have hsok : l[i].ok := ⟨hwi.2.2.2.1, hwi.2.2.2.2⟩
        have hss : l[i].s < l[i].e := by omega
        have cov := fun W => ref_over W l[i] c.late mark hsok hlate hmk
        have hskip := st.skip hlt
        have hok' : ∀ x ∈ putR (decide (c.kind = 2)) L' key l[i] v, x.ok := (st.good.put (by omega) hk hsok hss hv).ok (st.good.rel (by omega) st.rel hk hss hv)
        have hput := fun (ho : l[i].overB c.late mark = false) w9 A2 d2 => st.put (w2 := w9) (A2 := A2) (d2 := d2) hlt ho (by omega) hk hsok hss hv hpw
        have cput := fun W (k : Keep none_ wr W) => ref6_put (hat.none k) (by have := st.len; omega) key l[i] v hv hok'
        simp only [Span.cells] at cov cput
        obtain ⟨ob, hob⟩ : ∃ ob, ob = l[i].overB c.late mark := ⟨_, rfl⟩
        rw [← hob] at cov hskip hput
        replace hob := Lib.hid hob
        replace cov := Lib.hid cov
        replace cput := Lib.hid cput
        replace hput := Lib.hid hput
        generalize l[i] = s at *
        cases ob
        · clear hskip
          go_wp2_with fail
          refine wp_region_class f (by kernel_rfl) (by kernel_rfl) hf0 ?_
          repeat (go_big_quiet_step ((go_at_call 47; exact Calls.class_of hfa (cov.out _))))
          refine wpQuiet_nil ?_
          rintro _ ⟨nn, rfl⟩
          have k9 := hfk nn
          have z0 := q0 nn
          have z1 := q1 nn
          have hbz : b < (f nn).heap.size := Nat.lt_of_lt_of_le hbl (Nat.le_trans kr.size k9.size)
          have hpz := hpf nn
          have cp9 := cput.out _ k9
          replace cp9 := Lib.hid cp9
          clear q0 q1 f4 hf0 hfk hfa cov hpf cput
          go_wp2_with fail
          refine cp9.out.mono ?_
          rintro e w9 ⟨A2, d2, rfl, hr2, k10, hA2⟩
          have kk : Keep (one p) wr w9 := (Keep.of_none k9).trans k10
          have hnew := hput.out (by first | rfl | trivial) w9 A2 d2 hr2 kk (fun a ha => Nat.le_trans k9.size (hA2 a ha))
          have kr2 := kr.trans kk
          clear cp9 hput z0 z1 hsr hat st
          go_wp2_with fail
          go_roundw
          case rel => exact ⟨i + 1, 0, A2, d2, _, by go_num, by omega, rfl, hnew, kr2⟩
          case measure => simp [intOf]; omega
        · have hnew := hskip (by first | rfl | trivial)
          clear hskip hput cput
          go_wp2_with fail
          refine wp_region_class f (by kernel_rfl) (by kernel_rfl) hf0 ?_
          repeat (go_big_quiet_step ((go_at_call 47; exact Calls.class_of hfa (cov.out _))))
          refine wpQuiet_nil ?_
          rintro _ ⟨nn, rfl⟩
          have k9 := hfk nn
          have hnew2 := hnew.none k9
          have kr2 := kr.trans (Keep.of_none (S := one p) k9)
          clear q0 q1 f4 hf0 hfk hfa cov hpf hsr hat st hnew
          go_wp2_with fail
          go_roundw
          case rel => exact ⟨i + 1, code, A', d', L', by go_num, by omega, rfl, hnew2, kr2⟩
          case measure => simp [intOf]; omega
      · have htk : l.take i = l := List.take_of_length_le (by omega)
        have hin : ¬ ((i : Int) < (l.length : Int)) := by omega
        have hfin : RTaken w p n c A L mark key t v M (.returned (.tuple #[.int .i64 code, .slice Ao O.length co])) wr := by
          have hrel := st.rel
          have hgd := st.good
          have hcd := st.code_
          rw [htk] at hrel hgd hcd
          exact ⟨code, _, O, A', d', L', M1, _, rfl, st.row, hst, hcalm, .inr ⟨l, hl, hcd, rfl⟩, hrel, hgd.up (by omega), st.at_, st.keep, st.own, by have := st.len; omega⟩
        clear st
        go_wp2_with fail
        go_ret2
        exact hfin
  · have hfin : RTaken w p n c A L mark key t v M (.returned (.tuple #[.int .i64 4, .slice Ao O.length co])) w2 :=
      ⟨4, _, O, A1, d1, L1, M1, M1, rfl, row2, hst, hcalm, .inl ⟨hl, rfl, rfl⟩, hrel1, hgood1.up (by omega), hat2, kw2, own1, by omega⟩
    clear row row2 hat2 kw2 own1 hrel1 hgood1 k1 k2
    go_wp2_with fail
    go_ret2
    exact hfin
end Go.Proofs.YtmioichjhiengaaGreat

/-
  The reference's Ask: a keyed call on its group.
-/
namespace Go.Proofs.YtmioichjhiengaaGreat
open Go.RowKit

/-- A pane of just these ends. -/
def atB (a b : Int) (p : Pane) : Bool := (p.span.s == a) && (p.span.e == b)
theorem atB_eq (a b : Int) (p : Pane) : atB a b p = sameQ false ⟨a, b⟩ p := by
  unfold atB sameQ
  simp only [Bool.false_eq_true, if_false]
  obtain ⟨k, ⟨s, e⟩, g⟩ := p
  by_cases h1 : s = a <;> by_cases h2 : e = b <;> simp [Span.eqB, h1, h2]
theorem shown_met {x : Call} {l : List Pane} (hs : SortedP l) (h4 : x.op = 4) : l.filter (atB x.time x.fin) = shownP x l := by
  have e : l.filter (atB x.time x.fin) = metQ false ⟨x.time, x.fin⟩ l := by
    unfold metQ
    exact List.filter_congr (fun p _ => atB_eq _ _ p)
  rw [e]
  unfold shownP
  rw [if_pos h4, find_is]
  cases hb : isP l ⟨x.time, x.fin⟩
  · rw [(put_none hs hb).1]; rfl
  · obtain ⟨hl, e2⟩ := isP_at hb
    rw [(put_some hs hb hl).1]
    have : (findP l ⟨x.time, x.fin⟩).1 = l[lbP l ⟨x.time, x.fin⟩] := by
      unfold findP
      rw [hb, List.getElem?_eq_getElem hl]
    rw [if_pos rfl, this]
theorem atB_succ {a b : Int} {l : List Pane} {k : Nat} (hk : k < l.length) : (l.take (k + 1)).filter (atB a b) = (l.take k).filter (atB a b) ++ (if atB a b l[k] then [l[k]] else []) := take_succ_filter hk
def AskRel (c : Config) (x : Call) (mark : Int) (M : KM) (code : Int) (R O : List Pane) (M1 M2 : KM) : Prop :=
  Steps c.late mark M O M1 ∧ Calm c.late mark M1 ∧
    (((x.op = 1 ∨ x.op = 2) ∧ R = [] ∧ ((ofL c x.time = none ∧ code = 4 ∧ M2 = M1) ∨ ∃ l, ofL c x.time = some l ∧ code = codeG c.late mark l ∧ M2 = takeM c.kind c.late mark x.key x.value l M1)) ∨
      (¬ (x.op = 1 ∨ x.op = 2) ∧ code = 0 ∧ M2 = M1 ∧ R = shownP x (M1 x.key)))
/-- Two answers to one question are one. -/
theorem AskRel.uniq {c : Config} {x : Call} {mark : Int} {M M1 M2 N1 N2 : KM} {code code2 : Int} {R O R2 O2 : List Pane} (hk : KMOK M) (h : AskRel c x mark M code R O M1 M2) (h2 : AskRel c x mark M code2 R2 O2 N1 N2) : code = code2 ∧ R = R2 ∧ O = O2 ∧ M2 = N2 := by
  obtain ⟨a1, a2, a3⟩ := h
  obtain ⟨b1, b2, b3⟩ := h2
  obtain ⟨rfl, rfl⟩ := Steps.uniq hk a1 a2 b1 b2
  rcases a3 with ⟨ho, rfl, a3⟩ | ⟨ho, rfl, rfl, rfl⟩
  · rcases b3 with ⟨-, rfl, b3⟩ | ⟨ho2, -⟩
    · rcases a3 with ⟨e1, rfl, rfl⟩ | ⟨l, e1, rfl, rfl⟩
      · rcases b3 with ⟨-, rfl, rfl⟩ | ⟨l, e2, -⟩
        · exact ⟨rfl, rfl, rfl, rfl⟩
        · rw [e1] at e2; cases e2
      · rcases b3 with ⟨e2, -⟩ | ⟨l2, e2, rfl, rfl⟩
        · rw [e1] at e2; cases e2
        · rw [e1] at e2
          obtain rfl := Option.some.inj e2
          exact ⟨rfl, rfl, rfl, rfl⟩
    · exact absurd ho ho2
  · rcases b3 with ⟨ho2, -⟩ | ⟨-, rfl, rfl, rfl⟩
    · exact absurd ho2 ho
    · exact ⟨rfl, rfl, rfl, rfl⟩
def RAsked (w : World) (p n : Nat) (c : Config) (A : Option Addr) (L : List Pane) (mark : Int) (x : Call) (M : KM) (e : Ending) (w' : World) : Prop :=
  ∃ code pA pn pd vo O A' d' L' M1 M2 R, e = .returned (.tuple #[.agg #[.int .i64 code, .slice pA pn pd], vo]) ∧ PRow w' w.heap.size vo O ∧ AskRel c x mark M code R O M1 M2 ∧ Sl Pane.cells 7 w' pA pn pd R ∧ (∀ a, pA = some a → w.heap.size ≤ a.block) ∧
    RelL L' M2 ∧ GoodM (n + 16) c.kind M2 ∧ RGAt w' p c A' d' L' ∧ Keep (one p) w w' ∧ (∀ a, A' = some a → A = some a ∨ w.heap.size ≤ a.block) ∧ L'.length ≤ L.length + 16
set_option maxHeartbeats 2000000 in
set_option maxRecDepth 100000 in
theorem ref12_ask {w : World} {p n : Nat} {c : Config} {A : Option Addr} {d : Nat} {L : List Pane} {M : KM} (h : RGAt w p c A d L) (hr : RelL L M) (hg : GoodM n c.kind M) (hn : n ≤ 90000) (hL : L.length ≤ 300000) (hc : c.ok) (hm : c.mayB = true) (x : Call) (hx : x.ok) (hkx : x.keyedB = true) (mark : Int) (hmk : I64 mark) :
    Calls Tryz.prog 35 #[.pointer (some ⟨p, 0, none⟩), .agg x.cells.toArray, .int .i64 mark] w (RAsked w p n c A L mark x M) := by
  have k0 : Keep none_ w ((w.alloc (.cells x.cells.toArray 60)).alloc (.cells #[.int .i64 0, .slice none 0 0] 57)) := (by repeat' (first | assumption | with_reducible exact Keep.refl _ _ | with_reducible refine Keep.alloc ?_ _ | with_reducible refine Keep.drew ?_))
  have hxb := At.alloc (At.new w x.cells.toArray 60) (.cells #[.int .i64 0, .slice none 0 0] 57)
  have hrb : At ((w.alloc (.cells x.cells.toArray 60)).alloc (.cells #[.int .i64 0, .slice none 0 0] 57)) (w.heap.size + 1) #[.int .i64 0, .slice none 0 0] 57 := At.newAt (by simp) _ _
  have h0 := h.none k0
  have hpw := h.at_.lt
  have hAw := h.lt
  have hops : x.op = 1 ∨ x.op = 2 ∨ x.op = 4 ∨ x.op = 5 := by
    unfold Call.keyedB at hkx
    simpa [or_assoc] using hkx
  obtain ⟨-, hxk, hxt, hxv, -⟩ := hx
  simp only [Call.cells] at k0 hxb hrb h0 ⊢
  by_cases hop : x.op = 1 ∨ x.op = 2
  · have hlt3 : decide (x.op < 3) = true := by simp; omega
    have hlt3i : x.op < 3 := by omega
    go_enter Tryz.func35, Tryz.ntmps35
    go_wp2_with fail
    generalize (w.alloc _).alloc _ = w0 at *
    have hr0 := hrb.lt
    generalize hrbe : w.heap.size + 1 = rb at *
    generalize hxbe : w.heap.size = xb at *
    have hxr : xb ≠ rb := by omega
    have hpx : p ≠ xb := by omega
    have hpr : p ≠ rb := by omega
    have cx := At.cell hxb
    have x0 : w0.cell? ⟨xb, 0, none⟩ = some (.int .i64 x.op) := cx 0
    have x1 : w0.cell? ⟨xb, 1, none⟩ = some (.string x.key) := cx 1
    have x2 : w0.cell? ⟨xb, 2, none⟩ = some (.int .i64 x.time) := cx 2
    have x3 : w0.cell? ⟨xb, 3, none⟩ = some (.int .i64 x.value) := cx 3
    have hxbl := hxb.lt
    have hs0 := k0.size
    replace hrbe := Lib.hid hrbe
    replace hxbe := Lib.hid hxbe
    clear cx h
    have ctk := Lib.hid (ref6_take h0 hr hg hn hL hc hm x.key hxk x.time x.value mark hxt hxv hmk)
    replace hop := Lib.hid hop
    clear hops h0
    go_wp2_with fail
    refine ctk.out.mono ?_
    rintro e w1 ⟨code, vo, O, A', d', L', M1, M2, rfl, row, hst, hcalm, hM, hrel, hgood, hat, k1, hown, hlen⟩
    obtain ⟨Ao, co, rfl⟩ := own_form row
    have hrb1 := Keep.at k1 hrb (fun e => hpr e.symm)
    have cr := At.cell hrb1
    have fr := At.frozen hrb1
    have hrl := hrb1.lt
    have hr9 := At.whole hrb1 [.int .i64 code, .slice none 0 0] rfl
    simp only [stores, Nat.zero_add, Nat.reduceAdd] at hr9
    have c9 := At.cell hr9
    have k9 : Keep (one rb) w1 ((w1.setCell ⟨rb, 0, none⟩ (.int .i64 code)).setCell ⟨rb, 1, none⟩ (.slice none 0 0)) := Keep.set1 (Keep.set1 (Keep.refl _ _) _) _
    have hrbw : xb ≤ rb := by have := hrbe.out; omega
    have hwx := hxbe.out
    have hs1 := k1.size
    have hfin : RAsked w p n c A L mark x M (.returned (.tuple #[.agg #[.int .i64 code, .slice none 0 0], .slice Ao O.length co])) ((w1.setCell ⟨rb, 0, none⟩ (.int .i64 code)).setCell ⟨rb, 1, none⟩ (.slice none 0 0)) :=
      ⟨code, none, 0, 0, _, O, A', d', L', M1, M2, [], rfl, own_lower (own_keep row k9 (fun g hg e => by have := (row.lt g hg).1; unfold one at e; omega)) hs0, ⟨hst, hcalm, .inl ⟨hop.out, rfl, hM⟩⟩, Sl.nil _ _ _ _ _ (by decide), fun a e => (by cases e), hrel, hgood, hat.keep k9 (fun e => hpr e) (fun a ha e => by
        unfold one at e
        rcases hown a ha with e2 | e2
        · have := hAw a e2; omega
        · omega), Keep.fresh ((Keep.of_none k0).trans k1) k9 (fun q hq e => by unfold one at e; omega), fun a ha => (hown a ha).imp id (fun e => by omega), hlen⟩
    clear ctk row hst hcalm hM hrel hgood hat k1 hown k9 hrb1 hr9 hrb hxb x0 x1 x2 x3
    go_wp2_with fail
    exact bodyPost_ret (v := .tuple #[.agg #[.int .i64 code, .slice none 0 0], .slice Ao O.length co]) (by simp [results, Tryz.results35, go_sem, c9]) rfl hfin
  · have hlt3 : decide (x.op < 3) = false := by simp; omega
    have hlt3i : ¬ x.op < 3 := by omega
    go_enter Tryz.func35, Tryz.ntmps35
    go_wp2_with fail
    generalize (w.alloc _).alloc _ = w0 at *
    have hr0 := hrb.lt
    generalize hrbe : w.heap.size + 1 = rb at *
    generalize hxbe : w.heap.size = xb at *
    have hxr : xb ≠ rb := by omega
    have hpx : p ≠ xb := by omega
    have hpr : p ≠ rb := by omega
    have cx := At.cell hxb
    have x0 : w0.cell? ⟨xb, 0, none⟩ = some (.int .i64 x.op) := cx 0
    have x1 : w0.cell? ⟨xb, 1, none⟩ = some (.string x.key) := cx 1
    have x2 : w0.cell? ⟨xb, 2, none⟩ = some (.int .i64 x.time) := cx 2
    have x3 : w0.cell? ⟨xb, 3, none⟩ = some (.int .i64 x.value) := cx 3
    have hxbl := hxb.lt
    have hs0 := k0.size
    replace hrbe := Lib.hid hrbe
    replace hxbe := Lib.hid hxbe
    clear cx h
    have cst := Lib.hid (ref6_settle h0 hr hg.km (by omega) hc mark hmk)
    replace hop := Lib.hid hop
    clear h0
    go_wp2_with fail
    refine cst.out.mono ?_
    rintro e w1 ⟨vo, O, A', d', L', M1, rfl, row, hst, hcalm, hrel, hat, k1, hown, hlen⟩
    obtain ⟨Ao, co, rfl⟩ := own_form row
    have hgood := hg.steps hst
    have hrb1 := Keep.at k1 hrb (fun e => hpr e.symm)
    have hxb1 := Keep.at k1 hxb (fun e => hpx e.symm)
    have cx := At.cell hxb1
    have x1 : w1.cell? ⟨xb, 1, none⟩ = some (.string x.key) := cx 1
    have hxl1 := hxb1.lt
    have cpn := Lib.hid (ref6_panes hat hrel hgood.km (by omega) x.key)
    clear cx cst x0 x2 x3 hrb hxb
    go_wp2_with fail
    refine cpn.out.mono ?_
    rintro e w2 ⟨v2, rfl, o2, k2⟩
    obtain ⟨A2, c2, rfl⟩ := own_form o2
    have hrb2 := Keep.at k2 hrb1 (fun e => e)
    have hxb2 := Keep.at k2 hxb1 (fun e => e)
    have hat2 := hat.none k2
    have row2 := own_keep row k2 (fun _ _ e => e)
    have cx := At.cell hxb2
    have x0 : w2.cell? ⟨xb, 0, none⟩ = some (.int .i64 x.op) := cx 0
    have x2 : w2.cell? ⟨xb, 2, none⟩ = some (.int .i64 x.time) := cx 2
    have x4 : w2.cell? ⟨xb, 4, none⟩ = some (.int .i64 x.fin) := cx 4
    have hxl2 := hxb2.lt
    have hrl2 := hrb2.lt
    have sl2 : Sl Pane.cells 7 w2 A2 (M1 x.key).length c2 (M1 x.key) := Sl.of_own pane_len (by decide) o2
    have ge2 := own_block_ge o2
    have hrbw : xb ≤ rb := by have := hrbe.out; omega
    have hwx := hxbe.out
    have hs1 := k1.size
    have hs2 := k2.size
    have hsrt := (hgood.play x.key).srt
    have hlenM := (hgood.play x.key).len
    have hend : Hid (∀ w3 w4 pA pn pd, Keep none_ w2 w3 → Keep (one rb) w3 w4 → Sl Pane.cells 7 w4 pA pn pd (shownP x (M1 x.key)) → (∀ a, pA = some a → xb ≤ a.block) →
        RAsked w p n c A L mark x M (.returned (.tuple #[.agg #[.int .i64 0, .slice pA pn pd], .slice Ao O.length co])) w4) := by
      refine Lib.hid fun w3 w4 pA pn pd k3 k4 hsl hge => ?_
      have hs3 := k3.size
      have hat3 := hat2.none k3
      have row3 := own_keep row2 k3 (fun _ _ e => e)
      refine ⟨0, pA, pn, pd, _, O, A', d', L', M1, M1, _, rfl, own_lower (own_keep row3 k4 (fun g hg e => by have := (row3.lt g hg).1; unfold one at e; omega)) hs0, ⟨hst, hcalm, .inr ⟨hop.out, rfl, rfl, rfl⟩⟩, hsl, fun a ha => by have := hge a ha; omega, hrel, hgood.up (by omega), hat3.keep k4 (fun e => hpr e) (fun a ha e => by
        unfold one at e
        rcases hown a ha with e2 | e2
        · have := hAw a e2; omega
        · omega), Keep.fresh (((Keep.of_none k0).trans k1).trans (Keep.of_none (k2.trans k3))) k4 (fun q hq e => by unfold one at e; omega), fun a ha => (hown a ha).imp id (fun e => by omega), by omega⟩
    clear cpn cx row hst hcalm hrel hgood hat hat2 row2 hown k1 k2 hxb1 hrb1 x1 o2
    have fr := At.frozen hrb2
    have cr := At.cell hrb2
    by_cases h4 : x.op = 4
    · have h4b : (x.op != 4) = false := by simp [h4]
      have hR := Lib.hid (shown_met (x := x) hsrt h4)
      clear h4 hops hlt3i hlt3
      generalize M1 x.key = l at *
      replace fr := Lib.hid fr
      replace cr := Lib.hid cr
      go_wp2_with fail
      go_loopw [12, 13] (fun mv iv wr => ∃ i : Nat, iv = .int .i64 i ∧ i ≤ l.length ∧ PRow wr w2.heap.size mv ((l.take i).filter (atB x.time x.fin)) ∧ Keep none_ w2 wr)
        (fun _ iv _ => l.length - (intOf iv).toNat)
      case atStart => exact ⟨0, rfl, Nat.zero_le _, ⟨rfl, .inl ⟨rfl, rfl⟩⟩, Keep.refl _ _⟩
      case round =>
        obtain ⟨i, rfl, hi, row, kk⟩ := hrel
        have hi0 := Int.natCast_nonneg i
        by_cases hlt : i < l.length
        · have hlt1 : (i : Int) < (l.length : Int) := by omega
          obtain ⟨b, off, rfl, hbl, -⟩ := sl2.at_ (by omega)
          obtain ⟨ι, hne9, f, hf0, hfk, hfa⟩ := class_of none_ wr
          have xf := fun z => At.cell (Keep.at (kk.trans (hfk z)) hxb2 (fun e => e))
          have f2 : ∀ z, (f z).cell? ⟨xb, 2, none⟩ = some (.int .i64 x.time) := fun z => xf z 2
          have f4 : ∀ z, (f z).cell? ⟨xb, 4, none⟩ = some (.int .i64 x.fin) := fun z => xf z 4
          have y1 := fun z => ((sl2.keep (kk.trans (hfk z)) Off.none_).pane hlt).c1
          have y2 := fun z => ((sl2.keep (kk.trans (hfk z)) Off.none_).pane hlt).c2
          have hY := Lib.hid (fun W (k : Keep none_ w2 W) => (sl2.keep k Off.none_).pane hlt)
          have hsc := Lib.hid (atB_succ (a := x.time) (b := x.fin) hlt)
          have hml : ((l.take i).filter (atB x.time x.fin)).length ≤ i := Nat.le_trans (List.length_filter_le _ _) (by rw [List.length_take]; omega)
          generalize l[i] = y at *
          obtain ⟨b1, hb1⟩ : ∃ b1, b1 = (y.span.s == x.time) := ⟨_, rfl⟩
          obtain ⟨b2, hb2⟩ : ∃ b2, b2 = (y.span.e == x.fin) := ⟨_, rfl⟩
          have hat9 : Hid (atB x.time x.fin y = (b1 && b2)) := Lib.hid (by rw [hb1, hb2]; rfl)
          have e1 := hb1.symm
          have e2 := hb2.symm
          clear hb1 hb2 xf
          cases b1
          · have hst9 : Hid ((l.take (i + 1)).filter (atB x.time x.fin) = (l.take i).filter (atB x.time x.fin)) := Lib.hid (by rw [hsc.out, hat9.out, if_neg (by simp), List.append_nil])
            clear hY
            go_wp2_with fail
            refine wp_region_class f (by kernel_rfl) (by kernel_rfl) hf0 ?_
            repeat (go_big_quiet_step (fail))
            refine wpQuiet_nil ?_
            rintro _ ⟨nn, rfl⟩
            have k9 := hfk nn
            clear f2 f4 y1 y2 hf0 hfk hfa
            go_wp2_with fail
            go_roundw
            case rel => exact ⟨i + 1, by go_num, by omega, by rw [hst9.out]; exact own_keep row k9 (fun _ _ e => e), kk.trans k9⟩
            case measure => simp [intOf]; omega
          · cases b2
            · have hst9 : Hid ((l.take (i + 1)).filter (atB x.time x.fin) = (l.take i).filter (atB x.time x.fin)) := Lib.hid (by rw [hsc.out, hat9.out, if_neg (by simp), List.append_nil])
              clear hY
              go_wp2_with fail
              refine wp_region_class f (by kernel_rfl) (by kernel_rfl) hf0 ?_
              repeat (go_big_quiet_step (fail))
              refine wpQuiet_nil ?_
              rintro _ ⟨nn, rfl⟩
              have k9 := hfk nn
              clear f2 f4 y1 y2 hf0 hfk hfa
              go_wp2_with fail
              go_roundw
              case rel => exact ⟨i + 1, by go_num, by omega, by rw [hst9.out]; exact own_keep row k9 (fun _ _ e => e), kk.trans k9⟩
              case measure => simp [intOf]; omega
            · have hst9 : Hid ((l.take (i + 1)).filter (atB x.time x.fin) = (l.take i).filter (atB x.time x.fin) ++ [y]) := Lib.hid (by rw [hsc.out, hat9.out, if_pos (by simp)])
              go_wp2_with fail
              refine wp_region_class f (by kernel_rfl) (by kernel_rfl) hf0 ?_
              repeat (go_big_quiet_step (fail))
              refine wpQuiet_nil ?_
              rintro _ ⟨nn, rfl⟩
              have k9 := hfk nn
              have row9 := own_keep row k9 (fun _ _ e => e)
              have kk9 := kk.trans k9
              clear f2 f4 y1 y2 hf0 hfk hfa
              generalize f nn = w9 at *
              obtain ⟨q0, q1, q2, q3, q4, q5, q6⟩ := hY.out w9 kk9
              have hb9 : b < w9.heap.size := Nat.lt_of_lt_of_le hbl kk9.size
              have hws := kk9.size
              have hsl1 := Sl.of_at (xs := [y]) (At.new w9 y.cells.toArray 88) pane_len (by decide) (rfl : (1 : Nat) = [y].length) (by simp [flat_one]) (by unfold maxLen; omega)
              have kb : Keep none_ w9 (w9.alloc (.cells y.cells.toArray 88)) := Keep.alloc (Keep.refl _ _) _
              have own1 := own_keep row9 kb (fun _ _ e => e)
              have hbase1 : w2.heap.size ≤ (w9.alloc (.cells y.cells.toArray 88)).heap.size := by simp; omega
              simp only [Pane.cells] at hsl1 kb own1 hbase1
              clear row
              go_wp2_with (at_builtin; refine wpList_append_sl _ rfl _ _ _ rfl w2.heap.size 88 row_pane pane_len pane_one _ _ _ rfl own1 (some ⟨w9.heap.size, 0, none⟩) 1 1 [y] rfl hsl1 (by omega) hbase1 ?_)
              intro v' w3 own2 hg2 hb2
              have k3 : Keep none_ w2 w3 := keep_grown (kk9.trans kb) own1 hg2 (Nat.le_refl _)
              have row3 : PRow w3 w2.heap.size v' ((l.take (i + 1)).filter (atB x.time x.fin)) := by
                unfold PRow
                rw [hst9.out, List.length_append]
                exact own2
              clear own1 own2 hg2 hb2 hsl1 kb q0 q1 q2 q3 q4 q5 q6 hY row9
              go_wp2_with fail
              go_roundw
              case rel => exact ⟨i + 1, by go_num, by omega, row3, k3⟩
              case measure => simp [intOf]; omega
        · have hin : ¬ ((i : Int) < (l.length : Int)) := by omega
          have htk : l.take i = l := List.take_of_length_le (by omega)
          rw [htk, hR.out] at row
          obtain ⟨Am, cm, rfl⟩ := own_form row
          have slm : Sl Pane.cells 7 wr Am (shownP x l).length cm (shownP x l) := Sl.of_own pane_len (by decide) row
          have gem := own_block_ge row
          have hrb3 := Keep.at kk hrb2 (fun e => e)
          have cr3 := At.cell hrb3
          have fr3 := At.frozen hrb3
          have hrl3 := hrb3.lt
          have hr9 := At.whole hrb3 [.int .i64 0, .slice Am (shownP x l).length cm] rfl
          simp only [stores, Nat.zero_add, Nat.reduceAdd] at hr9
          have c9 := At.cell hr9
          have k9 : Keep (one rb) wr ((wr.setCell ⟨rb, 0, none⟩ (.int .i64 0)).setCell ⟨rb, 1, none⟩ (.slice Am (shownP x l).length cm)) := Keep.set1 (Keep.set1 (Keep.refl _ _) _) _
          have hfin := hend.out wr _ Am (shownP x l).length cm kk k9 (slm.keep k9 (fun a ha e => by have := gem a ha; unfold one at e; omega)) (fun a ha => by have := gem a ha; omega)
          clear hend hr9 k9 sl2 hrb2 hxb2 hsrt hlenM slm row hR hrb3 fr cr x0 x2 x4
          go_wp2_with fail
          exact bodyPost_ret (v := .tuple #[.agg #[.int .i64 0, .slice Am (shownP x l).length cm], .slice Ao O.length co]) (by simp [results, Tryz.results35, go_sem, c9]) rfl hfin
    · have h4b : (x.op != 4) = true := by simp [h4]
      have hr9 := At.whole hrb2 [.int .i64 0, .slice A2 (M1 x.key).length c2] rfl
      simp only [stores, Nat.zero_add, Nat.reduceAdd] at hr9
      have c9 := At.cell hr9
      have k9 : Keep (one rb) w2 ((w2.setCell ⟨rb, 0, none⟩ (.int .i64 0)).setCell ⟨rb, 1, none⟩ (.slice A2 (M1 x.key).length c2)) := Keep.set1 (Keep.set1 (Keep.refl _ _) _) _
      have hsh : shownP x (M1 x.key) = M1 x.key := by unfold shownP; rw [if_neg h4]
      have hfin := hend.out w2 _ A2 (M1 x.key).length c2 (Keep.refl _ _) k9 (by rw [hsh]; exact sl2.keep k9 (fun a ha e => by have := ge2 a ha; unfold one at e; omega)) (fun a ha => by have := ge2 a ha; omega)
      clear hend hr9 k9 sl2 hrb2 hxb2 hsrt hlenM hops
      go_wp2_with fail
      exact bodyPost_ret (v := .tuple #[.agg #[.int .i64 0, .slice A2 (M1 x.key).length c2], .slice Ao O.length co]) (by simp [results, Tryz.results35, go_sem, c9]) rfl hfin
end Go.Proofs.YtmioichjhiengaaGreat

/-
  A group and the reference's, side by side.
-/
namespace Go.Proofs.YtmioichjhiengaaGreat
open Go.RowKit

structure AskSt (W wr : World) (gp mp tp p k : Nat) (c : Config) (vq : Value) (T : List Timer) (M : KM) (A : Option Addr) (d : Nat) (L : List Pane) : Prop where
  grp : GrpAt wr gp mp tp (16 * k) (1000 * k) c vq (fun q => q = p) M T
  ref : RGAt wr p c A d L
  rel : RelL L M
  good : GoodM (16 * k) c.kind M
  nF : ¬ grpF mp tp vq p ∧ p ≠ gp ∧ (∀ a, A = some a → ¬ grpF mp tp vq a.block)
  keep : Keep none_ W wr
  lowp : W.heap.size ≤ p
  lowF : ∀ q, grpF mp tp vq q → W.heap.size ≤ q
  len : L.length ≤ 16 * k
theorem AskSt.still {W wr w' : World} {gp mp tp p k : Nat} {c : Config} {vq : Value} {T : List Timer} {M : KM} {A : Option Addr} {d : Nat} {L : List Pane} (h : AskSt W wr gp mp tp p k c vq T M A d L) (kz : Keep none_ wr w') : AskSt W w' gp mp tp p k c vq T M A d L :=
  ⟨h.grp.none kz, h.ref.none kz, h.rel, h.good, h.nF, h.keep.trans kz, h.lowp, h.lowF, h.len⟩
/-- The group took a record, the reference not yet. -/
structure AskMid (W wr : World) (gp mp tp p k : Nat) (c : Config) (mark : Int) (key : ByteArray) (t v : Int) (vq : Value) (T : List Timer) (M M2 : KM) (A : Option Addr) (d : Nat) (L : List Pane) : Prop where
  grp : GrpAt wr gp mp tp (16 * k + 16) (1000 * k + 16 * k + 16) c vq (fun q => q = p) M2 T
  ref : RGAt wr p c A d L
  rel : RelL L M
  good : GoodM (16 * k) c.kind M
  ask : ∃ code O M1, Steps c.late mark M O M1 ∧ Calm c.late mark M1 ∧ ((ofL c t = none ∧ code = (4 : Int) ∧ M2 = M1) ∨ ∃ l, ofL c t = some l ∧ code = codeG c.late mark l ∧ M2 = takeM c.kind c.late mark key v l M1)
  nF : ¬ grpF mp tp vq p ∧ p ≠ gp ∧ (∀ a, A = some a → ¬ grpF mp tp vq a.block)
  keep : Keep none_ W wr
  lowp : W.heap.size ≤ p
  lowF : ∀ q, grpF mp tp vq q → W.heap.size ≤ q
  len : L.length ≤ 16 * k
theorem AskMid.still {W wr w' : World} {gp mp tp p k : Nat} {c : Config} {mark : Int} {key : ByteArray} {t v : Int} {vq : Value} {T : List Timer} {M M2 : KM} {A : Option Addr} {d : Nat} {L : List Pane} (h : AskMid W wr gp mp tp p k c mark key t v vq T M M2 A d L) (kz : Keep none_ wr w') : AskMid W w' gp mp tp p k c mark key t v vq T M M2 A d L :=
  ⟨h.grp.none kz, h.ref.none kz, h.rel, h.good, h.ask, h.nF, h.keep.trans kz, h.lowp, h.lowF, h.len⟩
/-- What is left of the group's blocks, where it changed. -/
theorem AskSt.changed {W wr w1 w2 : World} {gp mp tp p k N' Q' : Nat} {c : Config} {vq vq2 : Value} {T T2 : List Timer} {M M2 : KM} {A : Option Addr} {d : Nat} {L : List Pane} (h : AskSt W wr gp mp tp p k c vq T M A d L) (kz : Keep none_ wr w1) (hg : GrpAt w2 gp mp tp N' Q' c vq2 (fun q => q = p) M2 T2) (k2 : Keep (grpF mp tp vq) w1 w2) (so : SameOwn w1 vq vq2) :
    RGAt w2 p c A d L ∧ (¬ grpF mp tp vq2 p ∧ p ≠ gp ∧ (∀ a, A = some a → ¬ grpF mp tp vq2 a.block)) ∧ Keep none_ W w2 ∧ (∀ q, grpF mp tp vq2 q → W.heap.size ≤ q) := by
  have hs1 := kz.size
  have hsub : ∀ q, q < w1.heap.size → grpF mp tp vq2 q → grpF mp tp vq q := fun q hq e => by
    rcases e with e | e
    · exact .inl e
    · exact .inr (so.set q hq e)
  have hp := h.ref.at_.lt
  have hsW := h.keep.size
  refine ⟨(h.ref.none kz).keep k2 h.nF.1 (fun a ha e => h.nF.2.2 a ha e), ⟨fun e => h.nF.1 (hsub p (by omega) e), h.nF.2.1, fun a ha e => h.nF.2.2 a ha (hsub _ (by have := h.ref.lt a ha; omega) e)⟩, Keep.fresh (h.keep.trans kz) k2 (fun q hq e => by have := h.lowF q e; omega), fun q e => ?_⟩
  by_cases hq : q < w1.heap.size
  · exact h.lowF q (hsub q hq e)
  · omega
theorem AskSt.mid {W wr w1 w2 : World} {gp mp tp p k : Nat} {c : Config} {mark : Int} {key : ByteArray} {t v : Int} {vq : Value} {T : List Timer} {M : KM} {A : Option Addr} {d : Nat} {L : List Pane} {e : Ending} (h : AskSt W wr gp mp tp p k c vq T M A d L) (kz : Keep none_ wr w1) (hd : Taken w1 gp mp tp (16 * k) (1000 * k) c vq (fun q => q = p) mark key t v M e w2) : ∃ vq2 T2 M2 a1 v1, e = .returned (.tuple #[a1, v1]) ∧ AskMid W w2 gp mp tp p k c mark key t v vq2 T2 M M2 A d L := by
  obtain ⟨vo, O, M1, M2, code, rfl, hst, hcalm, hM, ⟨vq2, T2, hg, k2, so⟩, -⟩ := hd
  obtain ⟨h1, h2, h3, h4⟩ := h.changed kz hg k2 so
  exact ⟨vq2, T2, M2, _, _, rfl, hg, h1, h.rel, h.good, ⟨code, O, M1, hst, hcalm, hM⟩, h2, h3, h.lowp, h4, h.len⟩
/-- The reference took it too. -/
theorem AskMid.next {W wr w1 w2 : World} {gp mp tp p k : Nat} {c : Config} {mark : Int} {key : ByteArray} {t v : Int} {vq : Value} {T : List Timer} {M M2 : KM} {A : Option Addr} {d : Nat} {L : List Pane} {e : Ending} (h : AskMid W wr gp mp tp p k c mark key t v vq T M M2 A d L) (hk : k < 61) (kz : Keep none_ wr w1) (hd : RTaken w1 p (16 * k) c A L mark key t v M e w2) : ∃ A' d' L' a1 v1, e = .returned (.tuple #[a1, v1]) ∧ AskSt W w2 gp mp tp p (k + 1) c vq T M2 A' d' L' := by
  obtain ⟨code, vo, O, A', d', L', N1, N2, rfl, row, hst, hcalm, hN, hrel, hgood, hat, k2, hown, hlen⟩ := hd
  obtain ⟨code9, O9, M1, hst9, hcalm9, hM⟩ := h.ask
  obtain ⟨-, -, -, rfl⟩ := AskRel.uniq (x := ⟨1, key, t, v, 0, 0, 0⟩) h.good.km ⟨hst9, hcalm9, .inl ⟨.inl rfl, rfl, hM⟩⟩ ⟨hst, hcalm, .inl ⟨.inl rfl, rfl, hN⟩⟩
  have hp := h.ref.at_.lt
  have hs1 := kz.size
  have hgf := h.grp.F_lt
  have hgl := h.grp.self.lt
  refine ⟨A', d', L', _, _, rfl, ?_⟩
  have hg2 := ((h.grp.none kz).up (N' := 16 * (k + 1)) (Q' := 1000 * (k + 1)) (by omega) (by omega)).shift (X' := fun q => q = p) k2 (fun q _ e => e) (fun q e => by unfold one at e; rw [e]; exact h.nF.1) (fun e => h.nF.2.1 e.symm) (fun q _ e => e) (fun q e => by rw [e]; exact hat.at_.lt)
  exact ⟨hg2, hat, hrel, hgood.up (by omega), ⟨h.nF.1, h.nF.2.1, fun a ha e => by
    rcases hown a ha with e2 | e2
    · exact h.nF.2.2 a e2 e
    · have := hgf _ e; omega⟩, Keep.fresh (h.keep.trans kz) k2 (fun q hq e => by unfold one at e; have := h.lowp; omega), h.lowp, h.lowF, by have := h.len; omega⟩
/-- Both are new. -/
theorem AskSt.born {W w1 w2 wd w3 : World} {gp mp tp p : Nat} {c : Config} (hg : ∀ X : Nat → Prop, (∀ q, X q → q < w2.heap.size) → GrpAt w2 gp mp tp 0 0 c (.slice none 0 0) X (fun _ => []) []) (k1 : Keep none_ W w1) (k2 : Keep none_ w1 w2) (kd : Keep none_ w2 w3) (hp : w2.heap.size ≤ p) (hl : w1.heap.size ≤ gp ∧ w1.heap.size ≤ mp ∧ w1.heap.size ≤ tp)
    (ha : At w3 p #[.int .i64 c.kind, .int .i64 c.size, .int .i64 c.slide, .int .i64 c.gap, .int .i64 c.late, .int .i64 c.shards, .int .i64 c.groups, .int .i64 c.cap, .slice none 0 0] 36) : AskSt W w3 gp mp tp p 0 c (.slice none 0 0) [] (fun _ => []) none 0 [] := by
  have h0 := hg none_ (fun _ e => e.elim)
  have hF := h0.F_lt
  have hgl := h0.self.lt
  have hs1 := k1.size
  have hs2 := k2.size
  have hno : ∀ q, grpF mp tp (.slice none 0 0) q → q = mp ∨ q = tp := fun q e => by
    rcases e with e | e | e
    · exact .inl e
    · exact .inr e
    · simp [Value.ownBlock] at e
  refine ⟨h0.shift (X' := fun q => q = p) kd (fun q _ e => e.elim) (fun q e => e.elim) (fun e => e) (fun q hq e => by omega) (fun q e => by rw [e]; exact ha.lt), ⟨ha, Sl.nil _ _ _ _ _ (by decide), fun a e => (by cases e), fun a e => (by cases e), fun x hx => (by cases hx)⟩, RelL.zero, GoodM.zero _, ⟨fun e => by have := hF p e; omega, by omega, fun a e => (by cases e)⟩, (k1.trans k2).trans kd, by omega, fun q e => ?_, Nat.le_refl _⟩
  rcases hno q e with rfl | rfl <;> omega
end Go.Proofs.YtmioichjhiengaaGreat
