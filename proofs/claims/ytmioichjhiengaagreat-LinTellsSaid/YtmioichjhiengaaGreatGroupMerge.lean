/-
  Group.put, of windows that merge (Session): a draft.
-/
import Derived.Test.YtmioichjhiengaaGreatBaseGrp
import Derived.Test.YtmioichjhiengaaGreatPaneMerge
import Derived.Deep.RegionLaw
import Derived.Deep.CutRange
set_option linter.unusedSimpArgs false
set_option linter.unusedVariables false
namespace Go.Proofs.YtmioichjhiengaaGreat
open Go.RowKit

/-- The merge's window, told into a block that was made ahead of the call, or behind it. -/
theorem merge_end {w0 w2 : World} {nb base : Nat} {vo vg : Value} {L : List Pane} {G : List Span} {x y : Value} {a b : Int} (hnb : At w2 nb #[x, y] 84) (hk : Keep none_ w0 w2) (hb : w0.heap.size ≤ base) (hn : w0.heap.size ≤ nb)
    (o2 : PRow w2 base vo L) (g2 : SRow w2 base vg G) (h1 : ∀ g, vo.ownBlock = some g → g ≠ nb) (h2 : ∀ g, vg.ownBlock = some g → g ≠ nb) :
    PRow ((w2.setCell ⟨nb, 0, none⟩ (.int .i64 a)).setCell ⟨nb, 1, none⟩ (.int .i64 b)) w0.heap.size vo L ∧ SRow ((w2.setCell ⟨nb, 0, none⟩ (.int .i64 a)).setCell ⟨nb, 1, none⟩ (.int .i64 b)) w0.heap.size vg G ∧
      At ((w2.setCell ⟨nb, 0, none⟩ (.int .i64 a)).setCell ⟨nb, 1, none⟩ (.int .i64 b)) nb #[.int .i64 a, .int .i64 b] 84 ∧ Keep none_ w0 ((w2.setCell ⟨nb, 0, none⟩ (.int .i64 a)).setCell ⟨nb, 1, none⟩ (.int .i64 b)) ∧ w0.heap.size ≤ nb := by
  have kz : Keep (one nb) w2 ((w2.setCell ⟨nb, 0, none⟩ (.int .i64 a)).setCell ⟨nb, 1, none⟩ (.int .i64 b)) := Keep.set1 (Keep.set1 (Keep.refl _ _) _) _
  refine ⟨own_lower (own_keep o2 kz (fun g hg => h1 g hg)) hb, own_lower (own_keep g2 kz (fun g hg => h2 g hg)) hb, ?_, Keep.setNew (Keep.setNew hk hn _) hn _, hn⟩
  have := At.set (At.set hnb 0 (.int .i64 a)) 1 (.int .i64 b)
  simpa using this
set_option maxHeartbeats 4000000 in
set_option maxRecDepth 100000 in
theorem group_put_session {w : World} {gp mp tp N Q : Nat} {c : Config} {vq : Value} {X : Nat → Prop} {M : ByteArray → List Pane} {T : List Timer} (h : GrpAt w gp mp tp N Q c vq X M T) (hkind : c.kind = 2) (hN : N ≤ 80000) (hQ : Q ≤ 1000000) (key : ByteArray) (hk : key.size ≤ maxLen) (s : Span) (hs : s.ok) (hss : s.s < s.e) (v : Int) (hv : I64 v) :
    Calls Tryz.prog 52 #[.pointer (some ⟨gp, 0, none⟩), .string key, .agg s.cells.toArray, .int .i64 v] w fun e w' => e = .returned (.tuple #[]) ∧ GrpNext w gp mp tp (N + 1) (Q + 1) c vq X (setM M key (mergeP key s v (M key))) w' := by
  have kk : Keep none_ w (w.alloc (.cells s.cells.toArray 84)) := (by repeat' (first | assumption | with_reducible exact Keep.refl _ _ | with_reducible refine Keep.alloc ?_ _ | with_reducible refine Keep.drew ?_))
  have hx := At.new w s.cells.toArray 84
  have h1 := h.none kk
  have hgl := h.self.lt
  simp only [Span.cells] at kk hx h1 ⊢
  have b0 : w.cell? ⟨gp, 0, none⟩ = some (.int .i64 2) := by rw [← hkind]; exact At.cell h.self 0
  go_enter Tryz.func52, Tryz.ntmps52
  go_wp2_with fail
  generalize hw0 : w.alloc _ = w0 at *
  generalize hsb : w.heap.size = sb at *
  have c8 : w0.cell? ⟨gp, 8, none⟩ = some (.map (some mp)) := At.cell h1.self 8
  have s0 : w0.cell? ⟨sb, 0, none⟩ = some (.int .i64 s.s) := At.cell hx 0
  have s1 : w0.cell? ⟨sb, 1, none⟩ = some (.int .i64 s.e) := At.cell hx 1
  obtain ⟨A, m, d, hlk, hsl, hAF⟩ := h1.map.looks Tryz.underlying89 zero_panes key hk
  have hlk1 := hlk w0.drew (Keep.drew (Keep.refl _ _))
  have hlk2 := hlk (w0.drew.alloc (.cells #[.int .i64 0, .int .i64 0] 84)) (Keep.alloc (Keep.drew (Keep.refl _ _)) _)
  have hlk3 := hlk (w0.alloc (.cells #[.int .i64 0, .int .i64 0] 84)).drew (Keep.drew (Keep.alloc (Keep.refl _ _) _))
  have hml : m ≤ 80000 := by have := h1.inv.len key; have := hsl.len; omega
  have hxl := hx.lt
  have hgl1 := h1.self.lt
  have cm := fun W' (kz : Keep none_ w0 W') => pane_merge (hsl.keep kz Off.none_) (h1.inv.srt key) (fun p hp => (h1.inv.ok key p hp).1) (by omega) key s v hv
  unfold Merged at cm
  simp only [Span.cells] at cm
  replace cm := Lib.hid cm
  replace hlk := Lib.hid hlk
  go_cut [6, 8, 9, 10] from 13 to 53 (fun sv lv gv nv w' => sv = .pointer (some ⟨sb, 0, none⟩) ∧ ∃ nb, nv = .pointer (some ⟨nb, 0, none⟩) ∧ PRow w' w0.heap.size lv (mergeP key s v (M key)) ∧ SRow w' w0.heap.size gv (goneP key s v (M key)) ∧
      At w' nb #[.int .i64 (accP key s v (M key)).span.s, .int .i64 (accP key s v (M key)).span.e] 84 ∧ Keep none_ w0 w' ∧ w0.heap.size ≤ nb)
  case first =>
    go_region_law (first
      | (go_simp; go_at_call 86; refine (cm.out _ (show Keep none_ w0 _ from (by repeat' (first | assumption | with_reducible exact Keep.refl _ _ | with_reducible refine Keep.alloc ?_ _ | with_reducible refine Keep.drew ?_)))).mono ?_; rintro e w2 ⟨vo, vg, rfl, o2, g2, k2⟩; have kc : Keep none_ w0 w2 := (by refine Keep.trans ?_ k2; exact (by repeat' (first | assumption | with_reducible exact Keep.refl _ _ | with_reducible refine Keep.alloc ?_ _ | with_reducible refine Keep.drew ?_)));
          (try (have hnb := Keep.at k2 (At.drew (At.new w0 #[.int .i64 0, .int .i64 0] 84)) (fun e => e); have cnb := At.cell hnb; have fnb := At.frozen hnb)); (try (have hnb := Keep.at k2 (At.new w0.drew #[.int .i64 0, .int .i64 0] 84) (fun e => e); have cnb := At.cell hnb; have fnb := At.frozen hnb)))
      | fail)
    all_goals
      go_wp2_with fail
      go_meet
      first
        | exact ⟨rfl, _, rfl, own_lower (own_keep o2 (Keep.alloc (Keep.refl none_ _) _) (fun _ _ e => e)) (Nat.le_refl _), own_lower (own_keep g2 (Keep.alloc (Keep.refl none_ _) _) (fun _ _ e => e)) (Nat.le_refl _), At.new w2 _ _, Keep.alloc kc _, kc.size⟩
        | exact ⟨rfl, _, rfl, merge_end hnb kc (by simp) (Nat.le_refl _) o2 g2 (fun g hg e => by have := own_of_ge o2 g hg; simp at this; omega) (fun g hg e => by have := own_of_ge g2 g hg; simp at this; omega)⟩
        | (trace_state; fail)
  case rest =>
    obtain ⟨rfl, nb, rfl, o2, g2, hnb, kc, hnbl⟩ := hcut
    obtain ⟨A2, d2, rfl⟩ := own_form o2
    obtain ⟨A3, d3, rfl⟩ := own_form g2
    have h2 := h1.none kc
    have hset := Lib.hid (group_set h2.self rfl h2.map (.inl (.inl rfl)) (by unfold maxLen; omega) key hk (Sl.of_own pane_len (by decide) o2) (fun a ha e => by have e1 := own_block_ge o2 a ha; have e2 := h1.X_lt _ e; omega))
    clear cm hlk hlk1 hlk2 hlk3 hsl
    go_wp2_with fail
    refine hset.out.mono ?_
    rintro e w3 ⟨rfl, hm3, k3⟩
    clear hset
    have hmpl := h1.map.lt
    have hgm : gp ≠ mp := fun e => h1.gf (.inl e)
    have hgt : ¬ tset tp vq gp := fun e => h1.gf (.inr e)
    have htl := h1.inv.tim
    have htF : ∀ q, tset tp vq q → q < w0.heap.size := fun q hq => h1.tim.lt hq
    have ht3 := h2.tim.keep k3 (fun q hq e => h1.mt (by unfold one at e; rw [← e]; exact hq))
    have hg3 := Keep.at k3 h2.self (fun e => hgm e)
    have hn3 := Keep.at k3 hnb (fun e => by unfold one at e; omega)
    have g3 := own_keep g2 k3 (fun g hg e => by unfold one at e; have := own_of_ge g2 g hg; omega)
    have hoff : ∀ a, A3 = some a → w0.heap.size ≤ a.block := own_block_ge g2
    have kw3 : Keep (grpF mp tp vq) w w3 := (Keep.of_none (kk.trans kc)).trans (k3.mono (fun q _ e => .inl e))
    have hfin : Hid (∀ (w4 : World) (vq' : Value) (T' : List Timer), Keep (tset tp vq) w3 w4 → SameOwn w3 vq vq' → TAt w4 tp vq' T' →
        (∀ x, x ∈ T' ↔ (x ∈ T ∧ ¬ (x.key = key ∧ x.span ∈ goneP key s v (M key))) ∨ x = ⟨key, (accP key s v (M key)).span⟩) → T'.length ≤ T.length + 1 →
        GrpNext w gp mp tp (N + 1) (Q + 1) c vq X (setM M key (mergeP key s v (M key))) w4) := by
      refine Lib.hid fun w4 vq' T' k4 hso ht hT hl => ?_
      have hap := merge_apart (h1.ap hkind key) key v hss
      have hsub : ∀ q, q < w3.heap.size → grpF mp tp vq' q → grpF mp tp vq q := fun q hq e => by
        rcases e with e | e
        · exact .inl e
        · exact .inr (hso.set q hq e)
      have hsubX : ∀ q, q < w3.heap.size → grpX mp tp vq' X q → grpX mp tp vq X q := fun q hq e => e.imp (hsub q hq) id
      refine ⟨vq', T', ⟨Keep.at k4 hg3 hgt, hm3.move k4 (fun q e _ => .inl (.inr e)) h1.mt hsubX, ht, fun e => h1.mt (hso.set mp (by have := hm3.lt; omega) e), fun e => h1.gf (hsub gp hg3.lt e),
        h1.inv.merge hk hs hv hap.sorted hT (by omega), fun _ k => ?_, fun q hq => by have := h1.xl q hq; have := kc.size; have := k3.size; have := k4.size; omega⟩, kw3.trans (k4.mono (fun q _ e => .inr e)), hso.up kw3.size⟩
      unfold setM
      split
      · exact hap
      · exact h1.ap hkind k
    have hw03 : w0.heap.size ≤ w3.heap.size := Nat.le_trans kc.size k3.size
    clear g2 o2 hm3 kw3 k3 kc h2 h1 h hx hnb hgl1 hxl c8 s0 s1 b0 kk
    generalize goneP key s v (M key) = G at *
    generalize (accP key s v (M key)).span = nw at *
    have cn0 : w3.cell? ⟨nb, 0, none⟩ = some (.int .i64 nw.s) := At.cell hn3 0
    have cn1 : w3.cell? ⟨nb, 1, none⟩ = some (.int .i64 nw.e) := At.cell hn3 1
    have hGl : G.length ≤ 9223372036854775807 := by
      have := Sl.of_own span_len (by decide) g3
      have h1 := this.2.1
      have h2 := this.2.2.1
      unfold maxLen at h2
      omega
    go_wp2_with fail
    go_loopw [12, 60] (fun _ kv wr => ∃ k : Nat, kv = .int .i64 k ∧ k ≤ G.length ∧ ∃ (vq1 : Value) (T1 : List Timer), TAt wr tp vq1 T1 ∧ Keep (tset tp vq) w3 wr ∧ vq1.ownBlock = vq.ownBlock ∧
        Hid ((∀ x, x ∈ T1 ↔ x ∈ T ∧ ¬ (x.key = key ∧ x.span ∈ G.take k)) ∧ T1.length ≤ T.length)) (fun _ kv _ => G.length - (intOf kv).toNat)
    case atStart => exact ⟨0, rfl, Nat.zero_le _, vq, T, ht3, Keep.refl _ _, rfl, Lib.hid ⟨fun x => by simp, Nat.le_refl _⟩⟩
    case round =>
      clear cn0 cn1
      obtain ⟨k, rfl, hk, vq1, T1, ht1, k4, hob, hh⟩ := hrel
      have hk0 := Int.natCast_nonneg k
      have hgr := Keep.at k4 hg3 hgt
      have hnr := Keep.at k4 hn3 (fun e => by have := htF _ e; omega)
      have gr := own_keep g3 k4 (fun g hg e => by have := htF _ e; have := own_of_ge g3 g hg; omega)
      have c9 : wr.cell? ⟨gp, 9, none⟩ = some (.pointer (some ⟨tp, 0, none⟩)) := At.cell hgr 9
      have hgl2 := hgr.lt
      by_cases hlt : k < G.length
      · have hlt1 : (k : Int) < (G.length : Int) := by omega
        have hsl := Sl.of_own span_len (by decide) gr
        have hd3 := hsl.2.1
        obtain ⟨b1, o1, rfl, hb1, -⟩ := hsl.at_ (by omega)
        have q := hsl.cellk hlt
        have q0 := q 0 (by omega)
        have q1 := q 1 (by omega)
        have hnx : Hid (∀ (T2 : List Timer), (∀ y, y ∈ T2 ↔ y ∈ T1 ∧ y ≠ ⟨key, G[k]⟩) → ∀ x, x ∈ T2 ↔ x ∈ T ∧ ¬ (x.key = key ∧ x.span ∈ G.take (k + 1))) := by
          refine Lib.hid fun T2 h2 x => ?_
          rw [h2, hh.out.1, List.take_succ_eq_append_getElem hlt, List.mem_append, List.mem_singleton]
          constructor
          · rintro ⟨⟨e1, e2⟩, e3⟩
            refine ⟨e1, ?_⟩
            rintro ⟨e4, e5 | e5⟩
            · exact e2 ⟨e4, e5⟩
            · refine e3 ?_
              obtain ⟨xk, xs⟩ := x
              simp only at e4 e5
              rw [e4, e5]
          · rintro ⟨e1, e2⟩
            refine ⟨⟨e1, fun e3 => e2 ⟨e3.1, .inl e3.2⟩⟩, ?_⟩
            rintro rfl
            exact e2 ⟨rfl, .inr rfl⟩
        have hT1 := hh.out.2
        have cd := Lib.hid (fun W' (kz : Keep none_ wr W') => timers_drop_all (ht1.none kz) (by omega) ⟨key, G[k]⟩)
        clear q hsl gr hh
        simp only [Timer.cells, Span.cells, Nat.add_zero, List.getElem?_cons_zero, List.getElem?_cons_succ] at q0 q1 cd
        generalize G[k] = u at *
        go_wp2_with fail
        have hxn := At.new wr #[.int .i64 u.s, .int .i64 u.e] 84
        have kn : Keep none_ wr (wr.alloc (.cells #[.int .i64 u.s, .int .i64 u.e] 84)) := (by repeat' (first | assumption | with_reducible exact Keep.refl _ _ | with_reducible refine Keep.alloc ?_ _ | with_reducible refine Keep.drew ?_))
        have c9' := At.cell (Keep.at kn hgr (fun e => e)) 9
        have cu0 := At.cell hxn 0
        have cu1 := At.cell hxn 1
        generalize hw5 : wr.alloc _ = w5 at *
        clear hw5 hxn q0 q1 c9 hnr ht1
        go_region_law (first
          | (go_simp; go_at_call 87; refine (cd.out _ (show Keep none_ wr _ from Keep.trans kn (by repeat' (first | assumption | with_reducible exact Keep.refl _ _ | with_reducible refine Keep.alloc ?_ _ | with_reducible refine Keep.drew ?_)))).mono ?_; rintro e w6 ⟨bb, vq2, T2, rfl, ht2, hm2, hl2, k6, ho2⟩; have kc6 : Keep (tset tp vq1) wr w6 := (by refine Keep.trans (Keep.of_none (kn.trans ?_)) k6; exact (by repeat' (first | assumption | with_reducible exact Keep.refl _ _ | with_reducible refine Keep.alloc ?_ _ | with_reducible refine Keep.drew ?_))))
          | fail)
        all_goals
          have k6' : Keep (tset tp vq) wr w6 := kc6.mono (fun q _ e => by unfold tset at e ⊢; rw [hob] at e; exact e)
          have hnew := hnx.out T2 hm2
          have hrd : ∃ (vq1 : Value) (T1 : List Timer), TAt w6 tp vq1 T1 ∧ Keep (tset tp vq) w3 w6 ∧ vq1.ownBlock = vq.ownBlock ∧ Hid ((∀ x, x ∈ T1 ↔ x ∈ T ∧ ¬ (x.key = key ∧ x.span ∈ G.take (k + 1))) ∧ T1.length ≤ T.length) :=
            ⟨vq2, T2, ht2, k4.trans k6', ho2.trans hob, Lib.hid ⟨hnew, by omega⟩⟩
          clear hnx cd hm2 ht2 k6 kc6 k6' hnew ho2 cu0 cu1 c9' kn ht3 hn3 g3 hg3
          replace hrd := Lib.hid hrd
          go_wp2_with fail
          go_roundw
          case rel => exact ⟨k + 1, by go_num, by omega, hrd.out⟩
          case measure => simp [intOf]; omega
      · have hn1 : ¬ ((k : Int) < (G.length : Int)) := by omega
        have hall : ∀ x, x ∈ T1 ↔ x ∈ T ∧ ¬ (x.key = key ∧ x.span ∈ G) := by
          have := hh.out.1
          rw [List.take_of_length_le (by omega)] at this
          exact this
        have hT1 := hh.out.2
        have cn0 : wr.cell? ⟨nb, 0, none⟩ = some (.int .i64 nw.s) := At.cell hnr 0
        have cn1 : wr.cell? ⟨nb, 1, none⟩ = some (.int .i64 nw.e) := At.cell hnr 1
        have cp := Lib.hid (fun W' (kz : Keep none_ wr W') => timers_put_all (ht1.none kz) (by omega) ⟨key, nw⟩)
        simp only [Timer.cells, Span.cells] at cp
        replace hall := Lib.hid hall
        clear hh ht1 gr ht3 hn3 g3 hg3 hnr hgr
        go_wp2_with fail
        go_region_law (first
          | (go_simp; go_at_call 85; refine (cp.out _ (show Keep none_ wr _ from (by repeat' (first | assumption | with_reducible exact Keep.refl _ _ | with_reducible refine Keep.alloc ?_ _ | with_reducible refine Keep.drew ?_)))).mono ?_; rintro e w6 ⟨bb, vq2, T2, rfl, ht2, hm2, hl2, k6, ho2⟩; have kc6 : Keep (tset tp vq1) wr w6 := (by refine Keep.trans (Keep.of_none ?_) k6; exact (by repeat' (first | assumption | with_reducible exact Keep.refl _ _ | with_reducible refine Keep.alloc ?_ _ | with_reducible refine Keep.drew ?_))); have ho6 : SameOwn wr vq1 vq2 := ho2.up (show Keep none_ wr _ from (by repeat' (first | assumption | with_reducible exact Keep.refl _ _ | with_reducible refine Keep.alloc ?_ _ | with_reducible refine Keep.drew ?_))).size)
          | fail)
        all_goals
          have k6' : Keep (tset tp vq) wr w6 := kc6.mono (fun q _ e => by unfold tset at e ⊢; rw [hob] at e; exact e)
          have ho7 : SameOwn w3 vq vq2 := by
            have e1 : SameOwn wr vq vq2 := by
              rcases ho6 with e | ⟨g, e1, e2⟩
              · exact .inl (e.trans hob)
              · exact .inr ⟨g, e1, e2⟩
            exact e1.up k4.size
          have hfin2 := hfin.out w6 vq2 T2 (k4.trans k6') ho7 ht2 (fun x => by rw [hm2, hall.out]) (by omega)
          clear cp hm2 ht2 k6 kc6 k6' ho2 ho6 ho7 hall cn0 cn1 c9 hfin
          go_wp2_with fail
          first
            | (refine bodyPost_end (v := .tuple #[]) ?_ ?_ ?_
               · exact results_none Tryz.results52 _ _ _
               · rfl
               · exact ⟨rfl, hfin2⟩)
            | exact bodyPost_ret (v := .tuple #[]) (results_none Tryz.results52 _ _ _) rfl ⟨rfl, hfin2⟩
end Go.Proofs.YtmioichjhiengaaGreat
