/-
  Group.put, of windows that do not merge.
-/
import Derived.Test.YtmioichjhiengaaGreatBaseGrp
import Derived.Test.YtmioichjhiengaaGreatPaneMerge
import Derived.Deep.RegionLaw
import Derived.Deep.CutRange
set_option linter.unusedSimpArgs false
set_option linter.unusedVariables false
namespace Go.Proofs.YtmioichjhiengaaGreat
open Go.RowKit

set_option maxHeartbeats 2000000 in
set_option maxRecDepth 100000 in
theorem group_put {w : World} {gp mp tp N Q : Nat} {c : Config} {vq : Value} {X : Nat → Prop} {M : ByteArray → List Pane} {T : List Timer} (h : GrpAt w gp mp tp N Q c vq X M T) (hkind : c.kind ≠ 2) (hN : N ≤ 80000) (hQ : Q ≤ 1000000) (key : ByteArray) (hk : key.size ≤ maxLen) (s : Span) (hs : s.ok) (v : Int) (hv : I64 v) :
    Calls Tryz.prog 52 #[.pointer (some ⟨gp, 0, none⟩), .string key, .agg s.cells.toArray, .int .i64 v] w fun e w' => e = .returned (.tuple #[]) ∧ GrpNext w gp mp tp (N + 1) (Q + 1) c vq X (setM M key (putP (M key) key s v)) w' := by
  have kk : Keep none_ w (w.alloc (.cells s.cells.toArray 84)) := (by repeat' (first | assumption | with_reducible exact Keep.refl _ _ | with_reducible refine Keep.alloc ?_ _ | with_reducible refine Keep.drew ?_))
  have hx := At.new w s.cells.toArray 84
  have h1 := h.none kk
  have hgl := h.self.lt
  simp only [Span.cells] at kk hx h1 ⊢
  have b0 : w.cell? ⟨gp, 0, none⟩ = some (.int .i64 c.kind) := At.cell h.self 0
  have hkb : (c.kind != 2) = true := by simp [hkind]
  go_enter Tryz.func52, Tryz.ntmps52
  go_wp2_with fail
  generalize hw0 : w.alloc _ = w0 at *
  generalize hsb : w.heap.size = sb at *
  have c8 : w0.cell? ⟨gp, 8, none⟩ = some (.map (some mp)) := At.cell h1.self 8
  have s0 : w0.cell? ⟨sb, 0, none⟩ = some (.int .i64 s.s) := At.cell hx 0
  have s1 : w0.cell? ⟨sb, 1, none⟩ = some (.int .i64 s.e) := At.cell hx 1
  obtain ⟨A, m, d, hlk, hsl, hAF⟩ := (h1.none (Keep.drew (Keep.refl none_ w0))).map.look Tryz.underlying89 (zero_panes _) key hk
  have hml : m ≤ 80000 := by have := h1.inv.len key; have := hsl.len; omega
  have cput := Lib.hid (fun W' (kz : Keep none_ w0.drew W') => pane_put (hsl.keep kz Off.none_) (h1.inv.srt key) (fun p hp => (h1.inv.ok key p hp).1) (by omega) key s v hv)
  simp only [Span.cells] at cput
  go_cut [6] from 13 to 31 (fun sv w' => sv = .pointer (some ⟨sb, 0, none⟩) ∧ MapAt w' mp (Q + 1) (grpX mp tp vq X) (setM M key (putP (M key) key s v)) ∧ Keep (one mp) w0 w')
  case first =>
    go_region_law (first
      | (go_simp; go_at_call 84; refine (cput.out _ (show Keep none_ w0.drew _ from (by repeat' (first | assumption | with_reducible exact Keep.refl _ _ | with_reducible refine Keep.alloc ?_ _ | with_reducible refine Keep.drew ?_)))).mono ?_; rintro e w2 ⟨v2, rfl, o2, k2⟩; obtain ⟨A2, d2, rfl⟩ := own_form o2; have kc : Keep none_ w0 w2 := (by refine Keep.trans ?_ k2; exact (by repeat' (first | assumption | with_reducible exact Keep.refl _ _ | with_reducible refine Keep.alloc ?_ _ | with_reducible refine Keep.drew ?_))); have h2 := h1.none kc)
      | (go_simp; go_at_call 46; refine (group_set h2.self rfl h2.map (.inl (.inl rfl)) (by unfold maxLen; omega) key hk (Sl.of_own pane_len (by decide) o2) (fun a ha e => by have e1 := own_block_ge o2 a ha; have e2 := h1.X_lt _ e; have e3 : w0.heap.size ≤ w0.drew.heap.size := Nat.le_refl _; simp at e1; omega)).mono ?_; rintro e w3 ⟨rfl, hm3, k3⟩)
      | fail)
    all_goals
      have kf : Keep (one mp) w0 w3 := Keep.trans (Keep.of_none kc) k3
      clear cput hlk hsl h2 o2 k2 kc k3
      go_wp2_with fail
      go_meet
      first
        | exact ⟨rfl, hm3, kf⟩
        | (trace_state; fail)
  case rest =>
    obtain ⟨rfl, hm3, k3⟩ := hcut
    have hgm : gp ≠ mp := fun e => h1.gf (.inl e)
    have ht3 := h1.tim.keep k3 (fun q hq e => h1.mt (by unfold one at e; rw [← e]; exact hq))
    have hg3 := Keep.at k3 h1.self (fun e => hgm e)
    have hx3 := Keep.at k3 hx (fun e => by unfold one at e; have := h1.map.lt; have := hx.lt; have := h.map.lt; omega)
    have c9 : wc.cell? ⟨gp, 9, none⟩ = some (.pointer (some ⟨tp, 0, none⟩)) := At.cell hg3 9
    have s0' : wc.cell? ⟨sb, 0, none⟩ = some (.int .i64 s.s) := At.cell hx3 0
    have s1' : wc.cell? ⟨sb, 1, none⟩ = some (.int .i64 s.e) := At.cell hx3 1
    have htl := h1.inv.tim
    clear cput hlk hsl c8 s0 s1
    by_cases hin : (⟨key, s⟩ : Timer) ∈ T
    · have ct := Lib.hid (fun W' (kz : Keep none_ wc W') => timers_put_in (ht3.none kz) (by omega) ⟨key, s⟩ hin)
      simp only [Timer.cells] at ct
      go_wp2_with fail
      go_region_law (first
        | (go_simp; go_at_call 85; refine (ct.out _ (show Keep none_ wc _ from (by repeat' (first | assumption | with_reducible exact Keep.refl _ _ | with_reducible refine Keep.alloc ?_ _ | with_reducible refine Keep.drew ?_)))).mono ?_; rintro e w4 ⟨rfl, k4⟩; have kc4 : Keep none_ wc w4 := (by refine Keep.trans ?_ k4; exact (by repeat' (first | assumption | with_reducible exact Keep.refl _ _ | with_reducible refine Keep.alloc ?_ _ | with_reducible refine Keep.drew ?_))))
        | fail)
      all_goals
        have hfin : GrpNext w gp mp tp (N + 1) (Q + 1) c vq X (setM M key (putP (M key) key s v)) w4 := ⟨vq, T, ⟨Keep.at kc4 hg3 (fun e => e), hm3.keep kc4 (fun _ e => e.elim) (fun e => e), ht3.none kc4, h1.mt, h1.gf,
          h1.inv.put hk hs hv (fun x => ⟨.inl, fun h9 => h9.elim id (fun e => e ▸ hin)⟩) (by omega), fun e => absurd e hkind, fun q hq => by have := h1.xl q hq; have := k3.size; have := kc4.size; omega⟩,
          (Keep.of_none kk).trans ((k3.mono (fun q _ e => .inl e)).trans (Keep.of_none kc4)), .inl rfl⟩
        clear ct ht3 hg3 hx3 hm3 h1 h k3 k4 kc4
        go_wp2_with fail
        first
          | (refine bodyPost_end (v := .tuple #[]) ?_ ?_ ?_
             · exact results_none Tryz.results52 _ _ _
             · rfl
             · exact ⟨rfl, hfin⟩)
          | exact bodyPost_ret (v := .tuple #[]) (results_none Tryz.results52 _ _ _) rfl ⟨rfl, hfin⟩
    · have ct := Lib.hid (fun W' (kz : Keep none_ wc W') => timers_put (ht3.none kz) (by omega) ⟨key, s⟩ hin)
      simp only [Timer.cells] at ct
      go_wp2_with fail
      go_region_law (first
        | (go_simp; go_at_call 85; refine (ct.out _ (show Keep none_ wc _ from (by repeat' (first | assumption | with_reducible exact Keep.refl _ _ | with_reducible refine Keep.alloc ?_ _ | with_reducible refine Keep.drew ?_)))).mono ?_; rintro e w4 ⟨rfl, vq', T', ht4, hperm, k4, hso⟩; have kc4 : Keep (tset tp vq) wc w4 := (by refine Keep.trans (Keep.of_none ?_) k4; exact (by repeat' (first | assumption | with_reducible exact Keep.refl _ _ | with_reducible refine Keep.alloc ?_ _ | with_reducible refine Keep.drew ?_))); have hso4 : SameOwn wc vq vq' := hso.up (show Keep none_ wc _ from (by repeat' (first | assumption | with_reducible exact Keep.refl _ _ | with_reducible refine Keep.alloc ?_ _ | with_reducible refine Keep.drew ?_))).size)
        | fail)
      all_goals
        have hfin : GrpNext w gp mp tp (N + 1) (Q + 1) c vq X (setM M key (putP (M key) key s v)) w4 := by
          have hsz : w.heap.size ≤ wc.heap.size := Nat.le_trans kk.size k3.size
          have hsub : ∀ q, q < wc.heap.size → grpF mp tp vq' q → grpF mp tp vq q := fun q hq e => by
            rcases e with e | e
            · exact .inl e
            · exact .inr (hso4.set q hq e)
          have hsubX : ∀ q, q < wc.heap.size → grpX mp tp vq' X q → grpX mp tp vq X q := fun q hq e => e.imp (hsub q hq) id
          refine ⟨vq', T', ⟨Keep.at kc4 hg3 (fun e => h1.gf (.inr e)), ?_, ht4, fun e => h1.mt (hso4.set mp (by have := hm3.lt; omega) e), fun e => h1.gf (hsub gp hg3.lt e),
            h1.inv.put hk hs hv (fun x => by rw [hperm.mem_iff, List.mem_append, List.mem_singleton]) (by rw [hperm.length_eq, List.length_append]; simp; omega), fun e => absurd e hkind, fun q hq => by have := h1.xl q hq; have := k3.size; have := kc4.size; omega⟩,
            (Keep.of_none kk).trans ((k3.mono (fun q _ e => .inl e)).trans (kc4.mono (fun q _ e => .inr e))), hso4.up hsz⟩
          exact hm3.move kc4 (fun q e _ => .inl (.inr e)) h1.mt hsubX
        clear ct ht3 hg3 hx3 hm3 h1 h k3 k4 kc4 ht4 hperm hso hso4
        go_wp2_with fail
        first
          | (refine bodyPost_end (v := .tuple #[]) ?_ ?_ ?_
             · exact results_none Tryz.results52 _ _ _
             · rfl
             · exact ⟨rfl, hfin⟩)
          | exact bodyPost_ret (v := .tuple #[]) (results_none Tryz.results52 _ _ _) rfl ⟨rfl, hfin⟩
end Go.Proofs.YtmioichjhiengaaGreat
