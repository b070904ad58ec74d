/-
  The walk of the law TimerPlays.
-/
import Derived.Test.YtlnlbegcnhelmaaTimerPane
import Derived.Test.YtlnlbegcnhelmaaWalkTimerRises
import Derived.Test.YtlnlbegcnhelmaaPick
import Derived.Deep.RegionHeld3
import Derived.Deep.CutBlock
import Derived.Lib.Bytealg
namespace Go.Proofs.Ytlnlbegcnhelmaa
open Go.RowKit

def enc06 (d : Deed06) : List Value := d.cells
theorem deed06_of (w : World) (x : Deed06) (cs : List Value) (h : rDeed06 w x cs) : cs = enc06 x ∧ x.ok := h

set_option maxHeartbeats 40000000 in
set_option maxRecDepth 100000 in
theorem law_TimerPlays (l : List Deed06) (v : Value) (late : Int) (W : World) (hv : rSlice 5 rDeed06 W l [v]) (hl : I64 late) :
    Calls Try.prog 11 #[v, .int .i64 late] W fun e W' => e = .returned (.bool true) ∧ Below W.heap.size W W' := by
  obtain ⟨A, n, c, rfl, hsl, hok⟩ := sl_of enc06 Deed06.ok deed06_of hv
  clear hv
  obtain rfl := hsl.len
  have hnc := hsl.2.2.1
  have hlc := hsl.2.1
  unfold maxLen at hnc
  go_enter Try.func11, Try.ntmps11
  go_wp2_with fail
  refine (timerUp _).mono ?_
  rintro e w1 ⟨rfl, k1⟩
  go_wp2_with fail
  refine (timers_new _).mono ?_
  rintro e w2 ⟨rfl, t2, k2⟩
  have hpW := k1.size
  generalize w1.heap.size = p at *
  replace k2 := k1.trans k2
  clear k1
  by_cases h100 : 100 < l.length
  · have h100' : decide ((100 : Int) < l.length) = true := by simp; omega
    go_wp2_with fail
    go_ret
    exact ⟨by simp, k2.below (Nat.le_refl _) not_none⟩
  · have h100' : decide ((100 : Int) < l.length) = false := by simp; omega
    go_wp2_with fail
    go_loopw [7, 8, 9, 10, 11, 12, 13, 14, 15, 16, 17, 18, 19] (fun mv ii _ _ _ _ _ _ _ _ _ _ _ wr => ∃ (k : Nat) (tv : Value) (l1 ms : List Timer), ii = .int .i64 k ∧ k ≤ l.length ∧ ms.length ≤ k ∧ wr.ownsRow W.heap.size 113 7 mv ms.length (flat encP ms) ∧ TAt wr p tv l1 ∧ Hid (l1.Perm ms) ∧ Hid (∀ y ∈ ms, y.ok) ∧ Keep none_ W wr ∧ Hid (ApM p tv mv))
      (fun _ ii _ _ _ _ _ _ _ _ _ _ _ _ => l.length - (intOf ii).toNat)
    case atStart => exact ⟨0, _, [], [], rfl, Nat.zero_le _, Nat.le_refl _, World.ownsRow_nil _ _ _ _, t2, Lib.hid (List.Perm.refl _), Lib.hid (fun y hy => absurd hy (List.not_mem_nil)), k2, Lib.hid (fun g hg => by cases hg)⟩
    case round =>
      clear t2 k2
      obtain ⟨k, tv, l1, ms, rfl, hk, hmk, own, t, pe, hmok, kk, ap⟩ := hrel
      obtain ⟨M, cm, rfl⟩ := own_form own
      by_cases hlt : k < l.length
      · obtain ⟨b, off, rfl, hbl, -⟩ := hsl.at_ (by omega)
        have hdk := hok l[k] (List.getElem_mem _)
        have ck := (hsl.keep kk Off.none_).cellk hlt
        generalize l[k] = d at *
        obtain ⟨what, x, mark⟩ := d
        obtain ⟨hw, hxok, hmark⟩ := hdk
        simp only at hw hxok hmark
        have hle : ms.length ≤ 100 := by omega
        have hl1 : l1.length ≤ 100 := by have := pe.out.length_eq; omega
        have hpr := pick_range what 4 (by omega)
        have i0 := ck 0 (by omega)
        have i1 := ck 1 (by omega)
        have i2 := ck 2 (by omega)
        have i3 := ck 3 (by omega)
        have i4 := ck 4 (by omega)
        simp only [enc06, Deed06.cells, Nat.add_zero, List.getElem?_cons_zero, List.getElem?_cons_succ] at i0 i1 i2 i3 i4
        clear ck
        by_cases hkey : 100 < x.key.size
        · have hkd : decide ((100 : Int) < (x.key.size : Int)) = true := by simp; omega
          go_wp2_with fail
          go_ret
          exact ⟨rfl, (kk.alloc _).below (Nat.le_refl _) not_none⟩
        · have hkd : decide ((100 : Int) < (x.key.size : Int)) = false := by simp; omega
          have k9 : Keep none_ wr ((wr.alloc (.cells #[.int .i64 what, .string x.key, .int .i64 x.span.s, .int .i64 x.span.e, .int .i64 mark] 109)).alloc (.cells (encP x).toArray 113)) := (by repeat' (first | assumption | with_reducible exact Keep.refl _ _ | with_reducible refine Keep.alloc ?_ _ | with_reducible refine Keep.drew ?_))
          have h9 := At.alloc (At.new wr #[.int .i64 what, .string x.key, .int .i64 x.span.s, .int .i64 x.span.e, .int .i64 mark] 109) (.cells (encP x).toArray 113)
          have h10 : At ((wr.alloc (.cells #[.int .i64 what, .string x.key, .int .i64 x.span.s, .int .i64 x.span.e, .int .i64 mark] 109)).alloc (.cells (encP x).toArray 113)) (wr.heap.size + 1) (encP x).toArray 113 := At.newAt (by simp) _ _
          simp only [encP] at k9 h9 h10
          have hll := h9.lt
          have hs9 : wr.heap.size + 1 < ((wr.alloc (.cells #[.int .i64 what, .string x.key, .int .i64 x.span.s, .int .i64 x.span.e, .int .i64 mark] 109)).alloc (.cells #[.string x.key, .int .i64 x.span.s, .int .i64 x.span.e, .int .i64 0, .int .i64 0, .int .i64 0, .int .i64 0] 113)).heap.size := by simp
          have own0 := Sl.of_own encP_len (by decide) own
          go_wp2_with fail
          generalize World.alloc (World.alloc wr _) _ = w6 at *
          have t6 := t.none k9
          replace own := own_keep own k9 (fun _ _ e => e)
          replace kk := kk.trans k9
          have sl6 := own0.keep k9 Off.none_
          replace sl6 := Lib.hid sl6
          have hdt := Lib.hid (fun z (hz : tset p tv z) => t.lt hz)
          clear own0 t k9 i0 i1 i2 i3 i4 hll
          generalize hdx : wr.heap.size = dx at *
          clear hdx
          go_loopw [11, 12] (fun av jv wr => ∃ (j : Nat) (a : Int), jv = .int .i64 j ∧ av = .int .i64 a ∧ j ≤ ms.length ∧ Keep none_ w6 wr ∧ Hid ((a = -1 ∧ ∀ i (h : i < ms.length), i < j → ms[i] ≠ x) ∨ ∃ k : Nat, a = k ∧ ms[k]? = some x))
            (fun _ jv _ => ms.length - (intOf jv).toNat)
          case atStart => exact ⟨0, -1, rfl, rfl, Nat.zero_le _, Keep.refl _ _, Lib.hid (.inl ⟨rfl, fun i _ h => absurd h (Nat.not_lt_zero _)⟩)⟩
          case round =>
            obtain ⟨j, a, rfl, rfl, hj, kj, hat⟩ := hrel
            by_cases hjl : j < ms.length
            · obtain ⟨b1, o1, rfl, hb1, -⟩ := sl6.out.at_ (by omega)
              have hj0 := Int.natCast_nonneg j
              have hcase : ∀ q, (ms[j]).eqB x = q → (q = true → ms[j]? = some x) ∧ (q = false → ms[j] ≠ x) := fun q hq =>
                ⟨fun hq2 => by rw [List.getElem?_eq_getElem hjl, (Timer.eqB_iff _ _).1 (hq.trans hq2)], fun hq2 e => by
                  rw [(Timer.eqB_iff _ _).2 e] at hq
                  rw [← hq] at hq2; cases hq2⟩
              have hne := fun w' => run_eql_encP ms[j] x w'
              have ci := fun w' (k' : Keep none_ w6 w') => Sl.cellk (sl6.out.keep k' Off.none_) hjl
              replace hcase := Lib.hid (hcase _ rfl)
              generalize hyj : ms[j] = y at *
              replace hyj := Lib.hid hyj
              generalize hq9 : y.eqB x = q at *
              clear hq9
              simp only [encP] at hne ci
              obtain ⟨ι, hnn, f, hf0, hfk, hfa⟩ := class_of none_ wr
              have q0 := fun n => ci (f n) (kj.trans (hfk n)) 0 (by omega)
              have q1 := fun n => ci (f n) (kj.trans (hfk n)) 1 (by omega)
              have q2 := fun n => ci (f n) (kj.trans (hfk n)) 2 (by omega)
              have q3 := fun n => ci (f n) (kj.trans (hfk n)) 3 (by omega)
              have q4 := fun n => ci (f n) (kj.trans (hfk n)) 4 (by omega)
              have q5 := fun n => ci (f n) (kj.trans (hfk n)) 5 (by omega)
              have q6 := fun n => ci (f n) (kj.trans (hfk n)) 6 (by omega)
              have cx : ∀ n i, (f n).cell? ⟨dx + 1, i, none⟩ = _ := fun n => At.cell (Keep.at (kj.trans (hfk n)) h10 (fun e => e))
              clear ci
              simp only [Nat.add_zero, List.getElem?_cons_zero, List.getElem?_cons_succ] at q0 q1 q2 q3 q4 q5 q6
              go_wp2_with fail
              refine wp_region_class f (by kernel_rfl) (by kernel_rfl) hf0 ?_
              repeat (go_big_quiet_step (fail))
              refine wpQuiet_nil ?_
              rintro _ ⟨nn, rfl⟩
              replace kj := kj.trans (hfk nn)
              clear q0 q1 q2 q3 q4 q5 q6 cx hne
              cases q
              · go_wp2_with fail
                go_roundw
                case rel => exact ⟨j + 1, a, by go_num, rfl, by omega, kj, Lib.hid (by
                  rcases hat.out with ⟨h1, h2⟩ | h1
                  · refine .inl ⟨h1, fun i hi hij => ?_⟩
                    by_cases e : i = j
                    · subst e
                      rw [hyj.out]; exact hcase.out.2 (by first | rfl | trivial)
                    · exact h2 i hi (by omega)
                  · exact .inr h1)⟩
                case measure => simp [intOf]; omega
              · go_wp2_with fail
                go_roundw
                case rel => exact ⟨j + 1, j, by go_num, rfl, by omega, kj, Lib.hid (.inr ⟨j, rfl, hcase.out.1 (by first | rfl | trivial)⟩)⟩
                case measure => simp [intOf]; omega
            · have hatl : AtL ms x a := by
                rcases hat.out with ⟨h1, h2⟩ | h1
                · refine .inl ⟨h1, fun hm => ?_⟩
                  obtain ⟨i, hi, e⟩ := List.getElem_of_mem hm
                  exact h2 i hi (by omega) e
                · exact .inr h1
              replace hatl := Lib.hid hatl
              clear hat hj
              have c1 := Lib.hid (law_first (sl6.out.keep kj Off.none_) (by omega))
              go_wp2_with fail
              refine c1.out.mono ?_
              rintro e w7 ⟨best, rfl, k7, hbest⟩
              replace hbest := Lib.hid hbest
              replace k7 := kj.trans k7
              have h9' := Keep.at k7 h9 (fun e => e)
              have t7 := t6.none k7
              have own7 := own_keep own k7 (fun _ _ e => e)
              replace kk := kk.trans k7
              have cd := At.cell h9'
              clear c1 kj own t6 sl6
              go_wp2_with fail
              refine (pick_any _ _ _ hw.1 hw.2 (by omega) (by omega)).mono ?_
              rintro e w8 ⟨rfl, rfl⟩
              generalize pick what 4 = u at hpr ⊢
              replace hpr := Lib.hid hpr
              go_upto_block 4 with fail
              go_cut [7, 14, 15, 16] from 34 to 212 (fun mv _ _ _ wx => ∃ (tv' : Value) (l1' ms' : List Timer) (M' : Option Addr) (cm' : Nat), mv = .slice M' ms'.length cm' ∧ wx.ownsRow W.heap.size 113 7 mv ms'.length (flat encP ms') ∧ TAt wx p tv' l1' ∧ Hid (l1'.Perm ms') ∧ ms'.length ≤ k + 1 ∧ Hid (∀ y ∈ ms', y.ok) ∧ Keep none_ W wx ∧ Hid (ApM p tv' mv))
              case first =>
                clear_value *
                have hxc : x.cells.toArray = #[.string x.key, .int .i64 x.span.s, .int .i64 x.span.e] := rfl
                rcases (show u = 0 ∨ u = 1 ∨ u = 2 ∨ u = 3 by have := hpr.out; omega) with rfl | rfl | rfl | rfl
                · by_cases hm : x ∈ ms
                  · obtain ⟨b0, rfl, hb0⟩ : ∃ b0 : Nat, a = b0 ∧ ms[b0]? = some x := by
                      rcases hatl.out with ⟨-, h⟩ | h
                      · exact absurd hm h
                      · exact h
                    have hb00 := Int.natCast_nonneg b0
                    have hml := pe.out.mem_iff.2 hm
                    as_aux_lemma =>
                      have cc := timers_put_in t7 (by omega) x hml
                      rw [hxc] at cc
                      replace cc := Lib.hid cc
                      replace hb0 := Lib.hid hb0
                      replace hml := Lib.hid hml
                      replace hm := Lib.hid hm
                      go_wp2_with fail
                      refine cc.out.mono ?_
                      rintro e w10 ⟨rfl, k10⟩
                      clear cc cd h9'
                      obtain ⟨ms', hms'⟩ : ∃ ms', ms' = ms := ⟨_, rfl⟩
                      have own' := own_keep own7 k10 (fun _ _ e => e)
                      rw [← hms'] at own'
                      have t' := t7.none k10
                      have pe' : Hid (l1.Perm ms') := by rw [hms']; exact pe
                      have hmk' : ms'.length ≤ k + 1 := by rw [hms']; omega
                      have hmok' : Hid (∀ y ∈ ms', y.ok) := by rw [hms']; exact hmok
                      have ap' := ap
                      rw [← hms'] at ap'
                      replace kk := kk.trans k10
                      obtain ⟨tv', htv⟩ : ∃ tv', tv' = tv := ⟨_, rfl⟩
                      obtain ⟨l1', hl1'⟩ : ∃ l1', l1' = l1 := ⟨_, rfl⟩
                      rw [← htv, ← hl1'] at t'
                      rw [← htv] at ap'
                      rw [← hl1'] at pe'
                      rw [← hms']
                      clear htv hl1' hms' own7 t7 pe hmok ap k10 hmk hle hl1
                      go_wp2_with fail
                      go_meet
                      exact ⟨tv', l1', ms', _, _, rfl, own', t', pe', hmk', hmok', kk, ap'⟩
                  · obtain rfl : a = -1 := by
                      rcases hatl.out with ⟨h, -⟩ | ⟨b0, -, h⟩
                      · exact h
                      · exact absurd (List.mem_of_getElem? h) hm
                    have cc := timers_put t7 (by omega) x (fun h => hm (pe.out.mem_iff.1 h))
                    rw [hxc] at cc
                    replace cc := Lib.hid cc
                    replace hm := Lib.hid hm
                    have h10' := Keep.at k7 h10 (fun e => e)
                    go_wp2_with fail
                    refine cc.out.mono ?_
                    rintro e w9 ⟨rfl, tv', l1', t9, pe9, k9, ow9⟩
                    have own9 := own_keep own7 k9 (fun g hg e => ap.out g hg e)
                    have h11 := Keep.at k9 h10' (fun e => by have := hdt.out _ e; omega)
                    replace kk := Keep.fresh kk k9 (fun z hz e => by have := t7.ge e; omega)
                    have pe2 := Lib.hid (pe9.trans (pe.out.append_right [x]))
                    clear cc cd h9' own7 t7 pe pe9 k9 ow9 ap h10'
                    go_wp2_with fail
                    go_region_held3 (fun w' => w'.cell? ⟨dx + 1, 0, none⟩ = some (.string x.key) ∧ w'.cell? ⟨dx + 1, 1, none⟩ = some (.int .i64 x.span.s) ∧ w'.cell? ⟨dx + 1, 2, none⟩ = some (.int .i64 x.span.e) ∧ w'.cell? ⟨dx + 1, 3, none⟩ = some (.int .i64 0) ∧ w'.cell? ⟨dx + 1, 4, none⟩ = some (.int .i64 0) ∧ w'.cell? ⟨dx + 1, 5, none⟩ = some (.int .i64 0) ∧ w'.cell? ⟨dx + 1, 6, none⟩ = some (.int .i64 0) ∧ Keep none_ w9 w')
                      (first | exact keep7 h11 (Keep.refl _ _).drew | (go_split_ands; exact keep7 h11 (by repeat' (first | assumption | with_reducible exact Keep.refl _ _ | with_reducible refine Keep.alloc ?_ _ | with_reducible refine Keep.drew ?_))) | fail)
                      ((first
                        | (refine step_append_sl _ (by rfl) _ _ _ (by rfl) w9.heap.size 113 row_paneT encP_len encP_one (.slice (some ⟨_, 0, none⟩) 0 0) 0 [] (by rfl) (own_empty (by repeat' (first | ((with_reducible refine At.newAt ?_ _ _); (first | (simp; done) | rfl)) | with_reducible refine At.drew ?_ | with_reducible refine At.alloc ?_ _)) (by first | (simp; done) | (simp; omega))) M ms.length cm ms (by rfl) ((Sl.of_own encP_len (by decide) own9).keep (by repeat' (first | assumption | with_reducible exact Keep.refl _ _ | with_reducible refine Keep.alloc ?_ _ | with_reducible refine Keep.drew ?_)) Off.none_) (by omega) (show Keep none_ w9 _ from (by repeat' (first | assumption | with_reducible exact Keep.refl _ _ | with_reducible refine Keep.alloc ?_ _ | with_reducible refine Keep.drew ?_))).size ?_
                           intro v1 wA own1 grow1 loc1
                           have kA : Keep none_ w9 wA := Keep.grown (by repeat' (first | assumption | with_reducible exact Keep.refl _ _ | with_reducible refine Keep.alloc ?_ _ | with_reducible refine Keep.drew ?_)) grow1 (by intro z hz hl; simp [Value.ownBlock] at hz; omega))
                        | (refine step_append_sl _ (by rfl) _ _ _ (by rfl) w9.heap.size 113 row_paneT encP_len encP_one v1 (0 + ms.length) ([] ++ ms) (by rfl) ?_ (some ⟨_, 0, none⟩) 1 1 [x] (by rfl) (Sl.of_at (cs := #[.string x.key, .int .i64 x.span.s, .int .i64 x.span.e, .int .i64 0, .int .i64 0, .int .i64 0, .int .i64 0]) (e := 113) ?_ encP_len (by decide) rfl rfl (by unfold maxLen; omega)) (by omega) ?_ ?_
                           · exact (by repeat' (first | with_reducible exact own1 | with_reducible refine World.ownsRow.alloc ?_ _ | with_reducible refine own_drew ?_))
                           · exact (by repeat' (first | ((with_reducible refine At.newAt ?_ _ _); (first | (simp; done) | rfl)) | with_reducible refine At.drew ?_ | with_reducible refine At.alloc ?_ _ | refine At.grown ?_ grow1 (by simp [Value.ownBlock])))
                           · exact (show Keep none_ w9 _ from (by repeat' (first | assumption | with_reducible exact Keep.refl _ _ | with_reducible refine Keep.alloc ?_ _ | with_reducible refine Keep.drew ?_))).size
                           intro v2 w10 own2 grow2 loc2
                           have kB : Keep none_ w9 w10 := Keep.grown (by repeat' (first | assumption | with_reducible exact Keep.refl _ _ | with_reducible refine Keep.alloc ?_ _ | with_reducible refine Keep.drew ?_)) grow2 (by intro z hz hl; have := (own1.lt z hz).1; omega))
                        | (fail)))
                    all_goals
                      as_aux_lemma =>
                        obtain ⟨ms', hms'⟩ : ∃ ms', ms' = ms ++ [x] := ⟨_, rfl⟩
                        have hlen' : ms'.length = ms.length + 1 := by rw [hms', List.length_append]; rfl
                        have own' : w10.ownsRow W.heap.size 113 7 v2 ms'.length (flat encP ms') := by
                          have h2 := own_lower own2 kk.size
                          have hn2 := own_len encP_len (by decide) own2
                          rw [List.nil_append, ← hms'] at hn2 h2
                          rw [← hn2]
                          exact h2
                        have t' := t9.none kB
                        have pe' : Hid (l1'.Perm ms') := Lib.hid (by rw [hms']; exact pe2.out)
                        have hmk' : ms'.length ≤ k + 1 := by omega
                        have hmok' : Hid (∀ y ∈ ms', y.ok) := Lib.hid (fun y hy => by
                          rw [hms', List.mem_append] at hy
                          rcases hy with hy | hy
                          · exact hmok.out y hy
                          · have : y = x := by simpa using hy
                            rw [this]; exact hxok)
                        have ap' : Hid (ApM p tv' v2) := Lib.hid (fun g hg e => by
                          have := (own2.lt g hg).1
                          have := t9.lt e
                          omega)
                        replace kk := kk.trans kB
                        obtain ⟨M', cm', rfl⟩ := own_form own'
                        clear hms' hlen' own1 own2 grow1 grow2 loc1 loc2 kA kB own9 t9 pe2 hmok hmk hle hl1 h11
                        go_wp2_with fail
                        go_meet
                        exact ⟨tv', l1', ms', _, _, rfl, own', t', pe', hmk', hmok', kk, ap'⟩
                · by_cases hm : x ∈ ms
                  · obtain ⟨b0, rfl, hb0⟩ : ∃ b0 : Nat, a = b0 ∧ ms[b0]? = some x := by
                      rcases hatl.out with ⟨-, h⟩ | h
                      · exact absurd hm h
                      · exact h
                    have hb00 := Int.natCast_nonneg b0
                    have hml := pe.out.mem_iff.2 hm
                    as_aux_lemma =>
                      have cc := timers_put_in t7 (by omega) x hml
                      rw [hxc] at cc
                      replace cc := Lib.hid cc
                      replace hb0 := Lib.hid hb0
                      replace hml := Lib.hid hml
                      replace hm := Lib.hid hm
                      go_wp2_with fail
                      refine cc.out.mono ?_
                      rintro e w10 ⟨rfl, k10⟩
                      clear cc cd h9'
                      obtain ⟨ms', hms'⟩ : ∃ ms', ms' = ms := ⟨_, rfl⟩
                      have own' := own_keep own7 k10 (fun _ _ e => e)
                      rw [← hms'] at own'
                      have t' := t7.none k10
                      have pe' : Hid (l1.Perm ms') := by rw [hms']; exact pe
                      have hmk' : ms'.length ≤ k + 1 := by rw [hms']; omega
                      have hmok' : Hid (∀ y ∈ ms', y.ok) := by rw [hms']; exact hmok
                      have ap' := ap
                      rw [← hms'] at ap'
                      replace kk := kk.trans k10
                      obtain ⟨tv', htv⟩ : ∃ tv', tv' = tv := ⟨_, rfl⟩
                      obtain ⟨l1', hl1'⟩ : ∃ l1', l1' = l1 := ⟨_, rfl⟩
                      rw [← htv, ← hl1'] at t'
                      rw [← htv] at ap'
                      rw [← hl1'] at pe'
                      rw [← hms']
                      clear htv hl1' hms' own7 t7 pe hmok ap k10 hmk hle hl1
                      go_wp2_with fail
                      go_meet
                      exact ⟨tv', l1', ms', _, _, rfl, own', t', pe', hmk', hmok', kk, ap'⟩
                  · obtain rfl : a = -1 := by
                      rcases hatl.out with ⟨h, -⟩ | ⟨b0, -, h⟩
                      · exact h
                      · exact absurd (List.mem_of_getElem? h) hm
                    have cc := timers_put t7 (by omega) x (fun h => hm (pe.out.mem_iff.1 h))
                    rw [hxc] at cc
                    replace cc := Lib.hid cc
                    replace hm := Lib.hid hm
                    have h10' := Keep.at k7 h10 (fun e => e)
                    go_wp2_with fail
                    refine cc.out.mono ?_
                    rintro e w9 ⟨rfl, tv', l1', t9, pe9, k9, ow9⟩
                    have own9 := own_keep own7 k9 (fun g hg e => ap.out g hg e)
                    have h11 := Keep.at k9 h10' (fun e => by have := hdt.out _ e; omega)
                    replace kk := Keep.fresh kk k9 (fun z hz e => by have := t7.ge e; omega)
                    have pe2 := Lib.hid (pe9.trans (pe.out.append_right [x]))
                    clear cc cd h9' own7 t7 pe pe9 k9 ow9 ap h10'
                    go_wp2_with fail
                    go_region_held3 (fun w' => w'.cell? ⟨dx + 1, 0, none⟩ = some (.string x.key) ∧ w'.cell? ⟨dx + 1, 1, none⟩ = some (.int .i64 x.span.s) ∧ w'.cell? ⟨dx + 1, 2, none⟩ = some (.int .i64 x.span.e) ∧ w'.cell? ⟨dx + 1, 3, none⟩ = some (.int .i64 0) ∧ w'.cell? ⟨dx + 1, 4, none⟩ = some (.int .i64 0) ∧ w'.cell? ⟨dx + 1, 5, none⟩ = some (.int .i64 0) ∧ w'.cell? ⟨dx + 1, 6, none⟩ = some (.int .i64 0) ∧ Keep none_ w9 w')
                      (first | exact keep7 h11 (Keep.refl _ _).drew | (go_split_ands; exact keep7 h11 (by repeat' (first | assumption | with_reducible exact Keep.refl _ _ | with_reducible refine Keep.alloc ?_ _ | with_reducible refine Keep.drew ?_))) | fail)
                      ((first
                        | (refine step_append_sl _ (by rfl) _ _ _ (by rfl) w9.heap.size 113 row_paneT encP_len encP_one (.slice (some ⟨_, 0, none⟩) 0 0) 0 [] (by rfl) (own_empty (by repeat' (first | ((with_reducible refine At.newAt ?_ _ _); (first | (simp; done) | rfl)) | with_reducible refine At.drew ?_ | with_reducible refine At.alloc ?_ _)) (by first | (simp; done) | (simp; omega))) M ms.length cm ms (by rfl) ((Sl.of_own encP_len (by decide) own9).keep (by repeat' (first | assumption | with_reducible exact Keep.refl _ _ | with_reducible refine Keep.alloc ?_ _ | with_reducible refine Keep.drew ?_)) Off.none_) (by omega) (show Keep none_ w9 _ from (by repeat' (first | assumption | with_reducible exact Keep.refl _ _ | with_reducible refine Keep.alloc ?_ _ | with_reducible refine Keep.drew ?_))).size ?_
                           intro v1 wA own1 grow1 loc1
                           have kA : Keep none_ w9 wA := Keep.grown (by repeat' (first | assumption | with_reducible exact Keep.refl _ _ | with_reducible refine Keep.alloc ?_ _ | with_reducible refine Keep.drew ?_)) grow1 (by intro z hz hl; simp [Value.ownBlock] at hz; omega))
                        | (refine step_append_sl _ (by rfl) _ _ _ (by rfl) w9.heap.size 113 row_paneT encP_len encP_one v1 (0 + ms.length) ([] ++ ms) (by rfl) ?_ (some ⟨_, 0, none⟩) 1 1 [x] (by rfl) (Sl.of_at (cs := #[.string x.key, .int .i64 x.span.s, .int .i64 x.span.e, .int .i64 0, .int .i64 0, .int .i64 0, .int .i64 0]) (e := 113) ?_ encP_len (by decide) rfl rfl (by unfold maxLen; omega)) (by omega) ?_ ?_
                           · exact (by repeat' (first | with_reducible exact own1 | with_reducible refine World.ownsRow.alloc ?_ _ | with_reducible refine own_drew ?_))
                           · exact (by repeat' (first | ((with_reducible refine At.newAt ?_ _ _); (first | (simp; done) | rfl)) | with_reducible refine At.drew ?_ | with_reducible refine At.alloc ?_ _ | refine At.grown ?_ grow1 (by simp [Value.ownBlock])))
                           · exact (show Keep none_ w9 _ from (by repeat' (first | assumption | with_reducible exact Keep.refl _ _ | with_reducible refine Keep.alloc ?_ _ | with_reducible refine Keep.drew ?_))).size
                           intro v2 w10 own2 grow2 loc2
                           have kB : Keep none_ w9 w10 := Keep.grown (by repeat' (first | assumption | with_reducible exact Keep.refl _ _ | with_reducible refine Keep.alloc ?_ _ | with_reducible refine Keep.drew ?_)) grow2 (by intro z hz hl; have := (own1.lt z hz).1; omega))
                        | (fail)))
                    all_goals
                      as_aux_lemma =>
                        obtain ⟨ms', hms'⟩ : ∃ ms', ms' = ms ++ [x] := ⟨_, rfl⟩
                        have hlen' : ms'.length = ms.length + 1 := by rw [hms', List.length_append]; rfl
                        have own' : w10.ownsRow W.heap.size 113 7 v2 ms'.length (flat encP ms') := by
                          have h2 := own_lower own2 kk.size
                          have hn2 := own_len encP_len (by decide) own2
                          rw [List.nil_append, ← hms'] at hn2 h2
                          rw [← hn2]
                          exact h2
                        have t' := t9.none kB
                        have pe' : Hid (l1'.Perm ms') := Lib.hid (by rw [hms']; exact pe2.out)
                        have hmk' : ms'.length ≤ k + 1 := by omega
                        have hmok' : Hid (∀ y ∈ ms', y.ok) := Lib.hid (fun y hy => by
                          rw [hms', List.mem_append] at hy
                          rcases hy with hy | hy
                          · exact hmok.out y hy
                          · have : y = x := by simpa using hy
                            rw [this]; exact hxok)
                        have ap' : Hid (ApM p tv' v2) := Lib.hid (fun g hg e => by
                          have := (own2.lt g hg).1
                          have := t9.lt e
                          omega)
                        replace kk := kk.trans kB
                        obtain ⟨M', cm', rfl⟩ := own_form own'
                        clear hms' hlen' own1 own2 grow1 grow2 loc1 loc2 kA kB own9 t9 pe2 hmok hmk hle hl1 h11
                        go_wp2_with fail
                        go_meet
                        exact ⟨tv', l1', ms', _, _, rfl, own', t', pe', hmk', hmok', kk, ap'⟩
                · as_aux_lemma =>
                    by_cases hm : x ∈ ms
                    · obtain ⟨b0, rfl, hb0⟩ : ∃ b0 : Nat, a = b0 ∧ ms[b0]? = some x := by
                        rcases hatl.out with ⟨-, h⟩ | h
                        · exact absurd hm h
                        · exact h
                      have hb00 := Int.natCast_nonneg b0
                      have hml := pe.out.mem_iff.2 hm
                      have cc := timers_drop t7 (by omega) x hml
                      rw [hxc] at cc
                      replace cc := Lib.hid cc
                      have pe0 := Lib.hid (perm_erase hb0)
                      replace hb0 := Lib.hid hb0
                      replace hml := Lib.hid hml
                      replace hm := Lib.hid hm
                      go_wp2_with fail
                      refine cc.out.mono ?_
                      rintro e w9 ⟨rfl, tv', l1', t9, pe9, k9, ow9⟩
                      have own9 := own_keep own7 k9 (fun g hg e => ap.out g hg e)
                      replace kk := Keep.fresh kk k9 (fun z hz e => by have := t7.ge e; omega)
                      have pe2 := Lib.hid (List.Perm.cons_inv (pe9.symm.trans (pe.out.trans pe0.out)))
                      clear cc cd h9' own7 t7 pe pe0 pe9 k9 ow9 ap
                      obtain ⟨hbl0, -⟩ := List.getElem?_eq_some_iff.1 hb0.out
                      obtain ⟨b1, hb1⟩ : ∃ b1, b1 = b0 + 1 := ⟨_, rfl⟩
                      have eb1 : (b0 : Int) + 1 = (b1 : Int) := by omega
                      have sl9 := Sl.of_own encP_len (by decide) own9
                      try (obtain ⟨bm, om, rfl, hbm, -⟩ := sl9.at_ (by omega))
                      have hmc := sl9.2.1
                      have hmm := sl9.2.2.1
                      unfold maxLen at hmm
                      replace sl9 := Lib.hid sl9
                      have hb0c : b0 ≤ cm := by omega
                      have hb1c : b1 ≤ cm := by omega
                      have hb1m : b1 ≤ ms.length := by omega
                      have hb1M : (b1 : Int) ≤ (ms.length : Int) := by omega
                      have hb1C : (b1 : Int) ≤ (cm : Int) := by omega
                      have hb1z := Int.natCast_nonneg b1
                      have hb1u : (b1 : Int) ≤ 9223372036854775807 := by omega
                      have hb1l : -9223372036854775808 ≤ (b1 : Int) := by omega
                      have hw2 : IntKind.i64.wrap (b1 : Int) = (b1 : Int) := by rw [IntKind.wrap_i64]; omega
                      have hw1 : IntKind.i64.wrap ((b0 : Int) + 1) = (b1 : Int) := by rw [eb1, hw2]
                      replace hb1 := Lib.hid hb1
                      by_cases hcm : cm = b1
                      · subst hcm
                        go_wp2_with fail
                        go_region_held3 (fun w' => Keep none_ w9 w')
                          (first | exact (Keep.refl _ _).drew | exact (by repeat' (first | assumption | with_reducible exact Keep.refl _ _ | with_reducible refine Keep.alloc ?_ _ | with_reducible refine Keep.drew ?_)) | fail)
                          ((first
                            | (refine step_append_sl _ (by rfl) _ _ _ (by rfl) w9.heap.size 113 row_paneT encP_len encP_one (.slice (some ⟨_, 0, none⟩) 0 0) 0 [] (by rfl) (own_empty (by repeat' (first | ((with_reducible refine At.newAt ?_ _ _); (first | (simp; done) | rfl)) | with_reducible refine At.drew ?_ | with_reducible refine At.alloc ?_ _)) (by first | (simp; done) | (simp; omega))) (some ⟨bm, om, none⟩) b0 _ (ms.take b0) (by rfl) ((sl9.out.take b0 (by omega)).keep (by repeat' (first | assumption | with_reducible exact Keep.refl _ _ | with_reducible refine Keep.alloc ?_ _ | with_reducible refine Keep.drew ?_)) Off.none_) (by omega) (show Keep none_ w9 _ from (by repeat' (first | assumption | with_reducible exact Keep.refl _ _ | with_reducible refine Keep.alloc ?_ _ | with_reducible refine Keep.drew ?_))).size ?_; intro v1 wA own1 grow1 loc1; have kA : Keep none_ w9 wA := Keep.grown (by repeat' (first | assumption | with_reducible exact Keep.refl _ _ | with_reducible refine Keep.alloc ?_ _ | with_reducible refine Keep.drew ?_)) grow1 (by intro z hz hl; simp [Value.ownBlock] at hz; omega))
                            | (refine step_append_sl _ (by rfl) _ _ _ (by rfl) w9.heap.size 113 row_paneT encP_len encP_one v1 (0 + b0) ([] ++ ms.take b0) (by rfl) ?_ (some ⟨bm, om, none⟩) _ _ (ms.drop cm) (by rfl) ?_ (by omega) ?_ ?_
                               · exact (by repeat' (first | with_reducible exact own1 | with_reducible refine World.ownsRow.alloc ?_ _ | with_reducible refine own_drew ?_))
                               · exact Sl.zero (by omega) (List.drop_eq_nil_of_le (by omega)) (by omega)
                               · exact (show Keep none_ w9 _ from (by repeat' (first | assumption | with_reducible exact Keep.refl _ _ | with_reducible refine Keep.alloc ?_ _ | with_reducible refine Keep.drew ?_))).size
                               intro v2 w10 own2 grow2 loc2
                               have kB : Keep none_ w9 w10 := Keep.grown (by repeat' (first | assumption | with_reducible exact Keep.refl _ _ | with_reducible refine Keep.alloc ?_ _ | with_reducible refine Keep.drew ?_)) grow2 (by intro z hz hl; have := (own1.lt z hz).1; omega))
                            | (fail)))
                        all_goals
                          obtain ⟨ms', hms'⟩ : ∃ ms', ms' = ms.take b0 ++ ms.drop cm := ⟨_, rfl⟩
                          have hlen' : ms'.length = b0 + (ms.length - cm) := by rw [hms', List.length_append, List.length_take, List.length_drop]; omega
                          have own' : w10.ownsRow W.heap.size 113 7 v2 ms'.length (flat encP ms') := by
                            have h2 := own_lower own2 kk.size
                            have hn2 := own_len encP_len (by decide) own2
                            rw [List.nil_append, ← hms'] at hn2 h2
                            rw [← hn2]
                            exact h2
                          have t' := t9.none kB
                          have pe' : Hid (l1'.Perm ms') := Lib.hid (by rw [hms', hb1.out]; exact pe2.out)
                          have hmk' : ms'.length ≤ k + 1 := by omega
                          have hmok' : Hid (∀ y ∈ ms', y.ok) := Lib.hid (fun y hy => by
                            rw [hms', List.mem_append] at hy
                            rcases hy with hy | hy
                            · exact hmok.out y (List.mem_of_mem_take hy)
                            · exact hmok.out y (List.mem_of_mem_drop hy))
                          have ap' : Hid (ApM p tv' v2) := Lib.hid (fun g hg e => by
                            have := (own2.lt g hg).1
                            have := t9.lt e
                            omega)
                          replace kk := kk.trans kB
                          obtain ⟨M', cm', rfl⟩ := own_form own'
                          clear hms' hlen' own1 own2 grow1 grow2 loc1 loc2 kA kB own9 t9 pe2 hmok hmk hle hl1 hb1 hw1 hw2 hb1u hb1l hb1z hb1C hb1M hb1m hb1c hb0c hmc hmm eb1 hbl0 sl9 hbm hb0 hb00
                          go_wp2_with fail
                          go_meet
                          exact ⟨tv', l1', ms', _, _, rfl, own', t', pe', hmk', hmok', kk, ap'⟩
                      · go_wp2_with fail
                        go_region_held3 (fun w' => Keep none_ w9 w')
                          (first | exact (Keep.refl _ _).drew | exact (by repeat' (first | assumption | with_reducible exact Keep.refl _ _ | with_reducible refine Keep.alloc ?_ _ | with_reducible refine Keep.drew ?_)) | fail)
                          ((first
                            | (refine step_append_sl _ (by rfl) _ _ _ (by rfl) w9.heap.size 113 row_paneT encP_len encP_one (.slice (some ⟨_, 0, none⟩) 0 0) 0 [] (by rfl) (own_empty (by repeat' (first | ((with_reducible refine At.newAt ?_ _ _); (first | (simp; done) | rfl)) | with_reducible refine At.drew ?_ | with_reducible refine At.alloc ?_ _)) (by first | (simp; done) | (simp; omega))) (some ⟨bm, om, none⟩) b0 _ (ms.take b0) (by rfl) ((sl9.out.take b0 (by omega)).keep (by repeat' (first | assumption | with_reducible exact Keep.refl _ _ | with_reducible refine Keep.alloc ?_ _ | with_reducible refine Keep.drew ?_)) Off.none_) (by omega) (show Keep none_ w9 _ from (by repeat' (first | assumption | with_reducible exact Keep.refl _ _ | with_reducible refine Keep.alloc ?_ _ | with_reducible refine Keep.drew ?_))).size ?_; intro v1 wA own1 grow1 loc1; have kA : Keep none_ w9 wA := Keep.grown (by repeat' (first | assumption | with_reducible exact Keep.refl _ _ | with_reducible refine Keep.alloc ?_ _ | with_reducible refine Keep.drew ?_)) grow1 (by intro z hz hl; simp [Value.ownBlock] at hz; omega))
                            | (refine step_append_sl _ (by rfl) _ _ _ (by rfl) w9.heap.size 113 row_paneT encP_len encP_one v1 (0 + b0) ([] ++ ms.take b0) (by rfl) ?_ (some ⟨bm, om + b1 * 7, none⟩) _ _ (ms.drop b1) (by rfl) ?_ (by omega) ?_ ?_
                               · exact (by repeat' (first | with_reducible exact own1 | with_reducible refine World.ownsRow.alloc ?_ _ | with_reducible refine own_drew ?_))
                               · exact (sl9.out.drop b1 (by omega) (by omega) (by omega) (by omega) rfl).keep (by repeat' (first | assumption | with_reducible exact Keep.refl _ _ | with_reducible refine Keep.alloc ?_ _ | with_reducible refine Keep.drew ?_)) Off.none_
                               · exact (show Keep none_ w9 _ from (by repeat' (first | assumption | with_reducible exact Keep.refl _ _ | with_reducible refine Keep.alloc ?_ _ | with_reducible refine Keep.drew ?_))).size
                               intro v2 w10 own2 grow2 loc2
                               have kB : Keep none_ w9 w10 := Keep.grown (by repeat' (first | assumption | with_reducible exact Keep.refl _ _ | with_reducible refine Keep.alloc ?_ _ | with_reducible refine Keep.drew ?_)) grow2 (by intro z hz hl; have := (own1.lt z hz).1; omega))
                            | (fail)))
                        all_goals
                          obtain ⟨ms', hms'⟩ : ∃ ms', ms' = ms.take b0 ++ ms.drop b1 := ⟨_, rfl⟩
                          have hlen' : ms'.length = b0 + (ms.length - b1) := by rw [hms', List.length_append, List.length_take, List.length_drop]; omega
                          have own' : w10.ownsRow W.heap.size 113 7 v2 ms'.length (flat encP ms') := by
                            have h2 := own_lower own2 kk.size
                            have hn2 := own_len encP_len (by decide) own2
                            rw [List.nil_append, ← hms'] at hn2 h2
                            rw [← hn2]
                            exact h2
                          have t' := t9.none kB
                          have pe' : Hid (l1'.Perm ms') := Lib.hid (by rw [hms', hb1.out]; exact pe2.out)
                          have hmk' : ms'.length ≤ k + 1 := by omega
                          have hmok' : Hid (∀ y ∈ ms', y.ok) := Lib.hid (fun y hy => by
                            rw [hms', List.mem_append] at hy
                            rcases hy with hy | hy
                            · exact hmok.out y (List.mem_of_mem_take hy)
                            · exact hmok.out y (List.mem_of_mem_drop hy))
                          have ap' : Hid (ApM p tv' v2) := Lib.hid (fun g hg e => by
                            have := (own2.lt g hg).1
                            have := t9.lt e
                            omega)
                          replace kk := kk.trans kB
                          obtain ⟨M', cm', rfl⟩ := own_form own'
                          clear hms' hlen' own1 own2 grow1 grow2 loc1 loc2 kA kB own9 t9 pe2 hmok hmk hle hl1 hb1 hw1 hw2 hb1u hb1l hb1z hb1C hb1M hb1m hb1c hb0c hmc hmm eb1 hbl0 sl9 hbm hb0 hb00
                          go_wp2_with fail
                          go_meet
                          exact ⟨tv', l1', ms', _, _, rfl, own', t', pe', hmk', hmok', kk, ap'⟩
                    · obtain rfl : a = -1 := by
                        rcases hatl.out with ⟨h, -⟩ | ⟨b0, -, h⟩
                        · exact h
                        · exact absurd (List.mem_of_getElem? h) hm
                      have cc := timers_drop_no t7 (by omega) x (fun h => hm (pe.out.mem_iff.1 h))
                      rw [hxc] at cc
                      replace cc := Lib.hid cc
                      replace hm := Lib.hid hm
                      go_wp2_with fail
                      refine cc.out.mono ?_
                      rintro e w10 ⟨rfl, k10⟩
                      clear cc cd h9'
                      obtain ⟨ms', hms'⟩ : ∃ ms', ms' = ms := ⟨_, rfl⟩
                      have own' := own_keep own7 k10 (fun _ _ e => e)
                      rw [← hms'] at own'
                      have t' := t7.none k10
                      have pe' : Hid (l1.Perm ms') := by rw [hms']; exact pe
                      have hmk' : ms'.length ≤ k + 1 := by rw [hms']; omega
                      have hmok' : Hid (∀ y ∈ ms', y.ok) := by rw [hms']; exact hmok
                      have ap' := ap
                      rw [← hms'] at ap'
                      replace kk := kk.trans k10
                      obtain ⟨tv', htv⟩ : ∃ tv', tv' = tv := ⟨_, rfl⟩
                      obtain ⟨l1', hl1'⟩ : ∃ l1', l1' = l1 := ⟨_, rfl⟩
                      rw [← htv, ← hl1'] at t'
                      rw [← htv] at ap'
                      rw [← hl1'] at pe'
                      rw [← hms']
                      clear htv hl1' hms' own7 t7 pe hmok ap k10 hmk hle hl1
                      go_wp2_with fail
                      go_meet
                      exact ⟨tv', l1', ms', _, _, rfl, own', t', pe', hmk', hmok', kk, ap'⟩
                · as_aux_lemma =>
                    rcases hbest.out with ⟨rfl, hnil⟩ | ⟨b0, z, rfl, hb0, hmin⟩
                    · have hl0 : l1 = [] := by
                        have := pe.out
                        rw [hnil] at this
                        exact this.eq_nil
                      have cc : Calls Try.prog 56 #[.pointer (some ⟨p, 0, none⟩), .int .i64 late, .int .i64 mark] w7 _ := timers_pop_nil (hl0 ▸ t7) late mark
                      replace cc := Lib.hid cc
                      have hne := fun w => run_neq_Timer ⟨⟨#[]⟩, ⟨0, 0⟩⟩ ⟨⟨#[]⟩, ⟨0, 0⟩⟩ w
                      rw [(Timer.eqB_iff _ _).2 rfl] at hne
                      simp only [Timer.cells, Bool.not_true] at hne
                      clear hnil hl0
                      go_wp2_with fail
                      refine cc.out.mono ?_
                      rintro e w9 ⟨rfl, k9⟩
                      have y9 := At.new w9 #[.string ⟨#[]⟩, .int .i64 0, .int .i64 0] 101
                      have k10 := Keep.alloc k9 (.cells #[.string ⟨#[]⟩, .int .i64 0, .int .i64 0] 101)
                      have cy := At.cell y9
                      clear cc cd h9'
                      go_wp2_with fail
                      clear hne cy y9
                      generalize World.alloc w9 _ = w10 at *
                      obtain ⟨ms', hms'⟩ : ∃ ms', ms' = ms := ⟨_, rfl⟩
                      have own' := own_keep own7 k10 (fun _ _ e => e)
                      rw [← hms'] at own'
                      have t' := t7.none k10
                      have pe' : Hid (l1.Perm ms') := by rw [hms']; exact pe
                      have hmk' : ms'.length ≤ k + 1 := by rw [hms']; omega
                      have hmok' : Hid (∀ y ∈ ms', y.ok) := by rw [hms']; exact hmok
                      have ap' := ap
                      rw [← hms'] at ap'
                      replace kk := kk.trans k10
                      obtain ⟨tv', htv⟩ : ∃ tv', tv' = tv := ⟨_, rfl⟩
                      obtain ⟨l1', hl1'⟩ : ∃ l1', l1' = l1 := ⟨_, rfl⟩
                      rw [← htv, ← hl1'] at t'
                      rw [← htv] at ap'
                      rw [← hl1'] at pe'
                      rw [← hms']
                      clear htv hl1' hms' own7 t7 pe hmok ap k10 hmk hle hl1
                      go_wp2_with fail
                      go_meet
                      exact ⟨tv', l1', ms', _, _, rfl, own', t', pe', hmk', hmok', kk, ap'⟩
                    · have hz0 := t7.head pe.out (List.mem_of_getElem? hb0) hmin
                      have hzok := hmok.out z (List.mem_of_getElem? hb0)
                      have hb00 := Int.natCast_nonneg b0
                      obtain ⟨hkl, hkx⟩ := List.getElem?_eq_some_iff.1 hb0
                      have hkl' : (b0 : Int) < (ms.length : Int) := by omega
                      have slt := Lib.hid (fun w' (k : Keep none_ w7 w') => Sl.keep (Sl.of_own encP_len (by decide) own7) k Off.none_)
                      have co := fun w => ref_over w z.span late mark hzok.2 hl hmark
                      clear hmin
                      cases ho : z.span.overB late mark
                      · rw [ho] at co
                        have cc := Lib.hid (timers_pop_no t7 late mark z hz0 hzok hl hmark ho)
                        have hne := fun w => run_neq_Timer ⟨⟨#[]⟩, ⟨0, 0⟩⟩ ⟨⟨#[]⟩, ⟨0, 0⟩⟩ w
                        rw [(Timer.eqB_iff _ _).2 rfl] at hne
                        simp only [Timer.cells, Bool.not_true] at hne
                        obtain ⟨bm, om, rfl, hbm, -⟩ := (slt.out w7 (Keep.refl _ _)).at_ (by omega)
                        simp only [Span.cells] at co
                        replace co := Lib.hid co
                        replace hb0 := Lib.hid hb0
                        clear hz0 hzok ho
                        go_wp2_with fail
                        refine cc.out.mono ?_
                        rintro e w9 ⟨rfl, k9⟩
                        have y9 := At.new w9 #[.string ⟨#[]⟩, .int .i64 0, .int .i64 0] 101
                        have k9' := Keep.alloc k9 (.cells #[.string ⟨#[]⟩, .int .i64 0, .int .i64 0] 101)
                        have h99 := Keep.at k9' h9' (fun e => e)
                        clear cc cd k9
                        go_wp2_with fail
                        generalize World.alloc w9 _ = wy at *
                        obtain ⟨ι, hnn, f, hf0, hfk, hfa⟩ := class_of none_ wy
                        have q1 := fun n => (slt.out (f n) (k9'.trans (hfk n))).cellk hkl 1 (by omega)
                        have q2 := fun n => (slt.out (f n) (k9'.trans (hfk n))).cellk hkl 2 (by omega)
                        have r9 : ∀ n i, (f n).cell? ⟨dx, i, none⟩ = _ := fun n => At.cell (Keep.at (hfk n) h99 (fun e => e))
                        rw [hkx] at q1 q2
                        simp only [encP, Nat.add_zero, List.getElem?_cons_zero, List.getElem?_cons_succ] at q1 q2
                        go_wp2_with fail
                        refine wp_region_class f (by kernel_rfl) (by kernel_rfl) hf0 ?_
                        repeat (go_big_quiet_step ((go_at_call 57; exact Calls.class_of hfa (co.out _))))
                        refine wpQuiet_nil ?_
                        rintro _ ⟨nn, rfl⟩
                        have k10 := k9'.trans (hfk nn)
                        have y10 := Keep.at (hfk nn) y9 (fun e => e)
                        clear hf0 hfk hfa q1 q2 r9 co y9 h99 k9'
                        generalize f nn = w10 at *
                        have cy := At.cell y10
                        go_wp2_with fail
                        clear hne cy y10
                        obtain ⟨ms', hms'⟩ : ∃ ms', ms' = ms := ⟨_, rfl⟩
                        have own' := own_keep own7 k10 (fun _ _ e => e)
                        rw [← hms'] at own'
                        have t' := t7.none k10
                        have pe' : Hid (l1.Perm ms') := by rw [hms']; exact pe
                        have hmk' : ms'.length ≤ k + 1 := by rw [hms']; omega
                        have hmok' : Hid (∀ y ∈ ms', y.ok) := by rw [hms']; exact hmok
                        have ap' := ap
                        rw [← hms'] at ap'
                        replace kk := kk.trans k10
                        obtain ⟨tv', htv⟩ : ∃ tv', tv' = tv := ⟨_, rfl⟩
                        obtain ⟨l1', hl1'⟩ : ∃ l1', l1' = l1 := ⟨_, rfl⟩
                        rw [← htv, ← hl1'] at t'
                        rw [← htv] at ap'
                        rw [← hl1'] at pe'
                        rw [← hms']
                        clear htv hl1' hms' own7 t7 pe hmok ap k10 hmk hle hl1
                        go_wp2_with fail
                        go_meet
                        exact ⟨tv', l1', ms', _, _, rfl, own', t', pe', hmk', hmok', kk, ap'⟩
                      · rw [ho] at co
                        have cc := timers_pop t7 (by omega) late mark z hz0 hzok hl hmark ho
                        have pe0 := Lib.hid (perm_erase hb0)
                        have hb0' := Lib.hid hb0
                        obtain ⟨bm, om, rfl, hbm, -⟩ := (slt.out w7 (Keep.refl _ _)).at_ (by omega)
                        have hneS := fun w => run_neq_Span z.span z.span w
                        rw [(Span.eqB_iff _ _).2 rfl] at hneS
                        clear hz0 hzok ho hb0
                        obtain ⟨zk, ⟨zs, ze⟩⟩ := z
                        simp only [Span.cells, Timer.cells, Bool.not_true] at co cc hneS
                        replace cc := Lib.hid cc
                        replace co := Lib.hid co
                        go_wp2_with fail
                        refine cc.out.mono ?_
                        rintro e w9 ⟨rfl, tv', l1', t9, pe9, k9, ow9⟩
                        have own9 := own_keep own7 k9 (fun g hg e => ap.out g hg e)
                        have y9 := At.new w9 #[.string zk, .int .i64 zs, .int .i64 ze] 101
                        have k9' := Keep.alloc (Keep.refl none_ w9) (.cells #[.string zk, .int .i64 zs, .int .i64 ze] 101)
                        have h99 := At.alloc (Keep.at k9 h9' (fun e => by have := hdt.out _ e; omega)) (.cells #[.string zk, .int .i64 zs, .int .i64 ze] 101)
                        have pe2 := Lib.hid (List.Perm.cons_inv (pe9.symm.trans (pe.out.trans pe0.out)))
                        replace kk := Keep.fresh kk k9 (fun z hz e => by have := t7.ge e; omega)
                        replace slt := Lib.hid (fun w' (k : Keep none_ w9 w') => Sl.keep (Sl.of_own encP_len (by decide) own9) k Off.none_)
                        clear cc cd own7 t7 pe pe0 pe9 k9 ow9 ap h9'
                        go_wp2_with fail
                        generalize World.alloc w9 _ = wy at *
                        obtain ⟨ι, hnn, f, hf0, hfk, hfa⟩ := class_of none_ wy
                        have q1 := fun n => (slt.out (f n) (k9'.trans (hfk n))).cellk hkl 1 (by omega)
                        have q2 := fun n => (slt.out (f n) (k9'.trans (hfk n))).cellk hkl 2 (by omega)
                        have r9 : ∀ n i, (f n).cell? ⟨dx, i, none⟩ = _ := fun n => At.cell (Keep.at (hfk n) h99 (fun e => e))
                        rw [hkx] at q1 q2
                        simp only [encP, Nat.add_zero, List.getElem?_cons_zero, List.getElem?_cons_succ] at q1 q2
                        go_wp2_with fail
                        refine wp_region_class f (by kernel_rfl) (by kernel_rfl) hf0 ?_
                        repeat (go_big_quiet_step ((go_at_call 57; exact Calls.class_of hfa (co.out _))))
                        refine wpQuiet_nil ?_
                        rintro _ ⟨nn, rfl⟩
                        have k10 := k9'.trans (hfk nn)
                        have y10 := Keep.at (hfk nn) y9 (fun e => e)
                        clear hf0 hfk hfa q1 q2 r9 co y9 h99 k9'
                        generalize f nn = wz at *
                        obtain ⟨ι, hnn, f, hf0, hfk, hfa⟩ := class_of none_ wz
                        have q0 := fun n => (slt.out (f n) (k10.trans (hfk n))).cellk hkl 0 (by omega)
                        have q1 := fun n => (slt.out (f n) (k10.trans (hfk n))).cellk hkl 1 (by omega)
                        have q2 := fun n => (slt.out (f n) (k10.trans (hfk n))).cellk hkl 2 (by omega)
                        have r9 : ∀ n i, (f n).cell? ⟨_, i, none⟩ = _ := fun n => At.cell (Keep.at (hfk n) y10 (fun e => e))
                        rw [hkx] at q0 q1 q2
                        simp only [encP, Nat.add_zero, List.getElem?_cons_zero, List.getElem?_cons_succ] at q0 q1 q2
                        go_wp2_with fail
                        refine wp_region_class f (by kernel_rfl) (by kernel_rfl) hf0 ?_
                        repeat (go_big_quiet_step (fail))
                        refine wpQuiet_nil ?_
                        rintro _ ⟨nn, rfl⟩
                        have k11 := k10.trans (hfk nn)
                        clear hf0 hfk hfa q0 q1 q2 r9 slt y10 hneS hkx hkl' k10
                        replace own9 := own_keep own9 k11 (fun _ _ e => e)
                        replace t9 := t9.none k11
                        replace kk := kk.trans k11
                        clear k11
                        generalize f nn = w9 at *
                        have hb0 := hb0'
                        clear hb0'
                        obtain ⟨hbl0, -⟩ := List.getElem?_eq_some_iff.1 hb0.out
                        obtain ⟨b1, hb1⟩ : ∃ b1, b1 = b0 + 1 := ⟨_, rfl⟩
                        have eb1 : (b0 : Int) + 1 = (b1 : Int) := by omega
                        have sl9 := Sl.of_own encP_len (by decide) own9
                        try (obtain ⟨bm, om, rfl, hbm, -⟩ := sl9.at_ (by omega))
                        have hmc := sl9.2.1
                        have hmm := sl9.2.2.1
                        unfold maxLen at hmm
                        replace sl9 := Lib.hid sl9
                        have hb0c : b0 ≤ cm := by omega
                        have hb1c : b1 ≤ cm := by omega
                        have hb1m : b1 ≤ ms.length := by omega
                        have hb1M : (b1 : Int) ≤ (ms.length : Int) := by omega
                        have hb1C : (b1 : Int) ≤ (cm : Int) := by omega
                        have hb1z := Int.natCast_nonneg b1
                        have hb1u : (b1 : Int) ≤ 9223372036854775807 := by omega
                        have hb1l : -9223372036854775808 ≤ (b1 : Int) := by omega
                        have hw2 : IntKind.i64.wrap (b1 : Int) = (b1 : Int) := by rw [IntKind.wrap_i64]; omega
                        have hw1 : IntKind.i64.wrap ((b0 : Int) + 1) = (b1 : Int) := by rw [eb1, hw2]
                        replace hb1 := Lib.hid hb1
                        by_cases hcm : cm = b1
                        · subst hcm
                          go_wp2_with fail
                          go_region_held3 (fun w' => Keep none_ w9 w')
                            (first | exact (Keep.refl _ _).drew | exact (by repeat' (first | assumption | with_reducible exact Keep.refl _ _ | with_reducible refine Keep.alloc ?_ _ | with_reducible refine Keep.drew ?_)) | fail)
                            ((first
                              | (refine step_append_sl _ (by rfl) _ _ _ (by rfl) w9.heap.size 113 row_paneT encP_len encP_one (.slice (some ⟨_, 0, none⟩) 0 0) 0 [] (by rfl) (own_empty (by repeat' (first | ((with_reducible refine At.newAt ?_ _ _); (first | (simp; done) | rfl)) | with_reducible refine At.drew ?_ | with_reducible refine At.alloc ?_ _)) (by first | (simp; done) | (simp; omega))) (some ⟨bm, om, none⟩) b0 _ (ms.take b0) (by rfl) ((sl9.out.take b0 (by omega)).keep (by repeat' (first | assumption | with_reducible exact Keep.refl _ _ | with_reducible refine Keep.alloc ?_ _ | with_reducible refine Keep.drew ?_)) Off.none_) (by omega) (show Keep none_ w9 _ from (by repeat' (first | assumption | with_reducible exact Keep.refl _ _ | with_reducible refine Keep.alloc ?_ _ | with_reducible refine Keep.drew ?_))).size ?_; intro v1 wA own1 grow1 loc1; have kA : Keep none_ w9 wA := Keep.grown (by repeat' (first | assumption | with_reducible exact Keep.refl _ _ | with_reducible refine Keep.alloc ?_ _ | with_reducible refine Keep.drew ?_)) grow1 (by intro z hz hl; simp [Value.ownBlock] at hz; omega))
                              | (refine step_append_sl _ (by rfl) _ _ _ (by rfl) w9.heap.size 113 row_paneT encP_len encP_one v1 (0 + b0) ([] ++ ms.take b0) (by rfl) ?_ (some ⟨bm, om, none⟩) _ _ (ms.drop cm) (by rfl) ?_ (by omega) ?_ ?_
                                 · exact (by repeat' (first | with_reducible exact own1 | with_reducible refine World.ownsRow.alloc ?_ _ | with_reducible refine own_drew ?_))
                                 · exact Sl.zero (by omega) (List.drop_eq_nil_of_le (by omega)) (by omega)
                                 · exact (show Keep none_ w9 _ from (by repeat' (first | assumption | with_reducible exact Keep.refl _ _ | with_reducible refine Keep.alloc ?_ _ | with_reducible refine Keep.drew ?_))).size
                                 intro v2 w10 own2 grow2 loc2
                                 have kB : Keep none_ w9 w10 := Keep.grown (by repeat' (first | assumption | with_reducible exact Keep.refl _ _ | with_reducible refine Keep.alloc ?_ _ | with_reducible refine Keep.drew ?_)) grow2 (by intro z hz hl; have := (own1.lt z hz).1; omega))
                              | (fail)))
                          all_goals
                            obtain ⟨ms', hms'⟩ : ∃ ms', ms' = ms.take b0 ++ ms.drop cm := ⟨_, rfl⟩
                            have hlen' : ms'.length = b0 + (ms.length - cm) := by rw [hms', List.length_append, List.length_take, List.length_drop]; omega
                            have own' : w10.ownsRow W.heap.size 113 7 v2 ms'.length (flat encP ms') := by
                              have h2 := own_lower own2 kk.size
                              have hn2 := own_len encP_len (by decide) own2
                              rw [List.nil_append, ← hms'] at hn2 h2
                              rw [← hn2]
                              exact h2
                            have t' := t9.none kB
                            have pe' : Hid (l1'.Perm ms') := Lib.hid (by rw [hms', hb1.out]; exact pe2.out)
                            have hmk' : ms'.length ≤ k + 1 := by omega
                            have hmok' : Hid (∀ y ∈ ms', y.ok) := Lib.hid (fun y hy => by
                              rw [hms', List.mem_append] at hy
                              rcases hy with hy | hy
                              · exact hmok.out y (List.mem_of_mem_take hy)
                              · exact hmok.out y (List.mem_of_mem_drop hy))
                            have ap' : Hid (ApM p tv' v2) := Lib.hid (fun g hg e => by
                              have := (own2.lt g hg).1
                              have := t9.lt e
                              omega)
                            replace kk := kk.trans kB
                            obtain ⟨M', cm', rfl⟩ := own_form own'
                            clear hms' hlen' own1 own2 grow1 grow2 loc1 loc2 kA kB own9 t9 pe2 hmok hmk hle hl1 hb1 hw1 hw2 hb1u hb1l hb1z hb1C hb1M hb1m hb1c hb0c hmc hmm eb1 hbl0 sl9 hbm hb0 hb00
                            go_wp2_with fail
                            go_meet
                            exact ⟨tv', l1', ms', _, _, rfl, own', t', pe', hmk', hmok', kk, ap'⟩
                        · go_wp2_with fail
                          go_region_held3 (fun w' => Keep none_ w9 w')
                            (first | exact (Keep.refl _ _).drew | exact (by repeat' (first | assumption | with_reducible exact Keep.refl _ _ | with_reducible refine Keep.alloc ?_ _ | with_reducible refine Keep.drew ?_)) | fail)
                            ((first
                              | (refine step_append_sl _ (by rfl) _ _ _ (by rfl) w9.heap.size 113 row_paneT encP_len encP_one (.slice (some ⟨_, 0, none⟩) 0 0) 0 [] (by rfl) (own_empty (by repeat' (first | ((with_reducible refine At.newAt ?_ _ _); (first | (simp; done) | rfl)) | with_reducible refine At.drew ?_ | with_reducible refine At.alloc ?_ _)) (by first | (simp; done) | (simp; omega))) (some ⟨bm, om, none⟩) b0 _ (ms.take b0) (by rfl) ((sl9.out.take b0 (by omega)).keep (by repeat' (first | assumption | with_reducible exact Keep.refl _ _ | with_reducible refine Keep.alloc ?_ _ | with_reducible refine Keep.drew ?_)) Off.none_) (by omega) (show Keep none_ w9 _ from (by repeat' (first | assumption | with_reducible exact Keep.refl _ _ | with_reducible refine Keep.alloc ?_ _ | with_reducible refine Keep.drew ?_))).size ?_; intro v1 wA own1 grow1 loc1; have kA : Keep none_ w9 wA := Keep.grown (by repeat' (first | assumption | with_reducible exact Keep.refl _ _ | with_reducible refine Keep.alloc ?_ _ | with_reducible refine Keep.drew ?_)) grow1 (by intro z hz hl; simp [Value.ownBlock] at hz; omega))
                              | (refine step_append_sl _ (by rfl) _ _ _ (by rfl) w9.heap.size 113 row_paneT encP_len encP_one v1 (0 + b0) ([] ++ ms.take b0) (by rfl) ?_ (some ⟨bm, om + b1 * 7, none⟩) _ _ (ms.drop b1) (by rfl) ?_ (by omega) ?_ ?_
                                 · exact (by repeat' (first | with_reducible exact own1 | with_reducible refine World.ownsRow.alloc ?_ _ | with_reducible refine own_drew ?_))
                                 · exact (sl9.out.drop b1 (by omega) (by omega) (by omega) (by omega) rfl).keep (by repeat' (first | assumption | with_reducible exact Keep.refl _ _ | with_reducible refine Keep.alloc ?_ _ | with_reducible refine Keep.drew ?_)) Off.none_
                                 · exact (show Keep none_ w9 _ from (by repeat' (first | assumption | with_reducible exact Keep.refl _ _ | with_reducible refine Keep.alloc ?_ _ | with_reducible refine Keep.drew ?_))).size
                                 intro v2 w10 own2 grow2 loc2
                                 have kB : Keep none_ w9 w10 := Keep.grown (by repeat' (first | assumption | with_reducible exact Keep.refl _ _ | with_reducible refine Keep.alloc ?_ _ | with_reducible refine Keep.drew ?_)) grow2 (by intro z hz hl; have := (own1.lt z hz).1; omega))
                              | (fail)))
                          all_goals
                            obtain ⟨ms', hms'⟩ : ∃ ms', ms' = ms.take b0 ++ ms.drop b1 := ⟨_, rfl⟩
                            have hlen' : ms'.length = b0 + (ms.length - b1) := by rw [hms', List.length_append, List.length_take, List.length_drop]; omega
                            have own' : w10.ownsRow W.heap.size 113 7 v2 ms'.length (flat encP ms') := by
                              have h2 := own_lower own2 kk.size
                              have hn2 := own_len encP_len (by decide) own2
                              rw [List.nil_append, ← hms'] at hn2 h2
                              rw [← hn2]
                              exact h2
                            have t' := t9.none kB
                            have pe' : Hid (l1'.Perm ms') := Lib.hid (by rw [hms', hb1.out]; exact pe2.out)
                            have hmk' : ms'.length ≤ k + 1 := by omega
                            have hmok' : Hid (∀ y ∈ ms', y.ok) := Lib.hid (fun y hy => by
                              rw [hms', List.mem_append] at hy
                              rcases hy with hy | hy
                              · exact hmok.out y (List.mem_of_mem_take hy)
                              · exact hmok.out y (List.mem_of_mem_drop hy))
                            have ap' : Hid (ApM p tv' v2) := Lib.hid (fun g hg e => by
                              have := (own2.lt g hg).1
                              have := t9.lt e
                              omega)
                            replace kk := kk.trans kB
                            obtain ⟨M', cm', rfl⟩ := own_form own'
                            clear hms' hlen' own1 own2 grow1 grow2 loc1 loc2 kA kB own9 t9 pe2 hmok hmk hle hl1 hb1 hw1 hw2 hb1u hb1l hb1z hb1C hb1M hb1m hb1c hb0c hmc hmm eb1 hbl0 sl9 hbm hb0 hb00
                            go_wp2_with fail
                            go_meet
                            exact ⟨tv', l1', ms', _, _, rfl, own', t', pe', hmk', hmok', kk, ap'⟩
              case rest =>
                clear own7 t7 pe hmok ap hatl hbest k7 kk h9' cd hdt h9 h10 hs9 hmk hl1 hle
                revert wc
                intro w10 hcut
                obtain ⟨tv', l1', ms', M', cm', rfl, own', t', pe', hmk', hmok', kk, ap'⟩ := hcut
                have hl9 : ms'.length ≤ 101 := by omega
                have hlen9 := pe'.out.length_eq
                have slt := fun w' (k : Keep none_ w10 w') => Sl.keep (Sl.of_own encP_len (by decide) own') k Off.none_
                have c2 := Lib.hid (fun w' (k : Keep none_ w10 w') => law_first (slt w' k) (by omega))
                have c3 := fun w' (k : Keep none_ w10 w') => timers_len (t'.none k)
                rw [hlen9] at c3
                replace c3 := Lib.hid c3
                have ownk := Lib.hid (fun w' (k : Keep none_ w10 w') => own_keep own' k (fun _ _ e => e))
                have tk := Lib.hid (fun w' (k : Keep none_ w10 w') => t'.none k)
                by_cases h09 : ms'.length = 0
                · have hm0 : ms' = [] := List.length_eq_zero_iff.1 h09
                  have hl0 : l1' = [] := by
                    have := pe'.out
                    rw [hm0] at this
                    exact this.eq_nil
                  have c1 : Calls Try.prog 58 #[.pointer (some ⟨p, 0, none⟩)] w10 _ := timers_next_no (hl0 ▸ t')
                  replace c1 := Lib.hid c1
                  replace hm0 := Lib.hid hm0
                  replace h09 := Lib.hid h09
                  clear hl0 own' t' slt hlen9
                  try go_wp2_with fail
                  refine c1.out.mono ?_
                  rintro e w11 ⟨rfl, k11⟩
                  go_wp2_with fail
                  refine (c2.out _ (by repeat' (first | assumption | with_reducible exact Keep.refl _ _ | with_reducible refine Keep.alloc ?_ _ | with_reducible refine Keep.drew ?_))).mono ?_
                  rintro e w12 ⟨r9, rfl, k12, hr9⟩
                  obtain rfl : r9 = -1 := by
                    rcases hr9 with ⟨h, -⟩ | ⟨kb, z, -, h, -⟩
                    · exact h
                    · rw [hm0.out] at h; cases h
                  have kk12 := (show Keep none_ w10 _ from (by repeat' (first | assumption | with_reducible exact Keep.refl _ _ | with_reducible refine Keep.alloc ?_ _ | with_reducible refine Keep.drew ?_))).trans k12
                  clear k11 k12 hr9 c1 c2
                  go_wp2_with fail
                  refine (c3.out _ kk12).mono ?_
                  rintro e w13 ⟨rfl, rfl⟩
                  clear c3
                  obtain ⟨ι, hnn, f, hf0, hfk, hfa⟩ := class_of none_ w12
                  go_wp2_with fail
                  refine wp_region_class f (by kernel_rfl) (by kernel_rfl) hf0 ?_
                  repeat (go_big_quiet_step (fail))
                  refine wpQuiet_nil ?_
                  rintro _ ⟨nn, rfl⟩
                  replace kk12 := kk12.trans (hfk nn)
                  clear hf0 hfk hfa
                  go_wp2_with fail
                  go_roundw
                  case rel => exact ⟨k + 1, tv', l1', ms', by go_num, by omega, hmk', ownk.out _ kk12, tk.out _ kk12, pe', hmok', kk.trans kk12, ap'⟩
                  case measure => simp [intOf]; omega
                · obtain ⟨y, hy⟩ : ∃ y, l1'[0]? = some y := ⟨_, List.getElem?_eq_getElem (by omega)⟩
                  have c1 := timers_next t' y hy
                  have hfe := fun k z (h1 : ms'[k]? = some z) h2 => first_eq t' pe'.out hy h1 h2
                  obtain ⟨yk, ⟨ys, ye⟩⟩ := y
                  simp only [Timer.cells] at c1
                  replace c1 := Lib.hid c1
                  replace hfe := Lib.hid hfe
                  obtain ⟨bm, om, rfl, hbm, -⟩ := (slt w10 (Keep.refl _ _)).at_ (by omega)
                  have hneS := fun w => run_neq_Span ⟨ys, ye⟩ ⟨ys, ye⟩ w
                  rw [(Span.eqB_iff _ _).2 rfl] at hneS
                  simp only [Span.cells, Bool.not_true] at hneS
                  have hm0 : ¬ ms' = [] := fun e => h09 (by rw [e]; rfl)
                  have hmc := (slt w10 (Keep.refl _ _)).2.1
                  have hmm := (slt w10 (Keep.refl _ _)).2.2.1
                  unfold maxLen at hmm
                  replace slt := Lib.hid slt
                  replace hm0 := Lib.hid hm0
                  clear hy own' t' hlen9
                  try go_wp2_with fail
                  refine c1.out.mono ?_
                  rintro e w11 ⟨rfl, k11⟩
                  have y11 := At.new w11 #[.string yk, .int .i64 ys, .int .i64 ye] 101
                  have lt11 := y11.lt
                  go_wp2_with fail
                  refine (c2.out _ (by repeat' (first | assumption | with_reducible exact Keep.refl _ _ | with_reducible refine Keep.alloc ?_ _ | with_reducible refine Keep.drew ?_))).mono ?_
                  rintro e w12 ⟨r9, rfl, k12, hr9⟩
                  obtain ⟨kb, rfl, hkb⟩ : ∃ kb : Nat, r9 = kb ∧ ms'[kb]? = some ⟨yk, ⟨ys, ye⟩⟩ := by
                    rcases hr9 with ⟨-, h⟩ | ⟨kb, z, h, h1, h2⟩
                    · exact absurd h hm0.out
                    · exact ⟨kb, h, by rw [h1, hfe.out kb z h1 h2]⟩
                  obtain ⟨hkl, hkx⟩ := List.getElem?_eq_some_iff.1 hkb
                  have kk12 := (show Keep none_ w10 _ from (by repeat' (first | assumption | with_reducible exact Keep.refl _ _ | with_reducible refine Keep.alloc ?_ _ | with_reducible refine Keep.drew ?_))).trans k12
                  have y12 := Keep.at k12 y11 (fun e => e)
                  have hkl' : (kb : Int) < (ms'.length : Int) := by omega
                  have hkb0 := Int.natCast_nonneg kb
                  clear k11 k12 hr9 c1 c2 hfe y11 hkb
                  go_wp2_with fail
                  refine (c3.out _ kk12).mono ?_
                  rintro e w13 ⟨rfl, rfl⟩
                  clear c3
                  have cy := fun w' (k : Keep none_ w12 w') => At.cell (Keep.at k y12 (fun e => e))
                  have cm := fun w' (k : Keep none_ w12 w') => Sl.cellk (slt.out w' (kk12.trans k)) hkl
                  rw [hkx] at cm
                  obtain ⟨ι, hnn, f, hf0, hfk, hfa⟩ := class_of none_ w12
                  have q0 := fun n => cm (f n) (hfk n) 0 (by omega)
                  have q1 := fun n => cm (f n) (hfk n) 1 (by omega)
                  have q2 := fun n => cm (f n) (hfk n) 2 (by omega)
                  have r0 := fun n => cy (f n) (hfk n) 0
                  have r1 := fun n => cy (f n) (hfk n) 1
                  have r2 := fun n => cy (f n) (hfk n) 2
                  simp only [encP, Nat.add_zero, List.getElem?_cons_zero, List.getElem?_cons_succ, List.getElem?_toArray] at q0 q1 q2 r0 r1 r2
                  clear cm cy hkx slt
                  go_wp2_with fail
                  refine wp_region_class f (by kernel_rfl) (by kernel_rfl) hf0 ?_
                  repeat (go_big_quiet_step (fail))
                  refine wpQuiet_nil ?_
                  rintro _ ⟨nn, rfl⟩
                  replace kk12 := kk12.trans (hfk nn)
                  clear hf0 hfk hfa q0 q1 q2 r0 r1 r2 hneS y12
                  go_wp2_with fail
                  go_roundw
                  case rel => exact ⟨k + 1, tv', l1', ms', by go_num, by omega, hmk', ownk.out _ kk12, tk.out _ kk12, pe', hmok', kk.trans kk12, ap'⟩
                  case measure => simp [intOf]; omega
      · go_wp2_with fail
        go_ret
        exact ⟨rfl, kk.below (Nat.le_refl _) not_none⟩
end Go.Proofs.Ytlnlbegcnhelmaa
