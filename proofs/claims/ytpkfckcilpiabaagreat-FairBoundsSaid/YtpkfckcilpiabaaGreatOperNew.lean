/-
  oper.New without clients, Machine.Over: a new machine.
-/
import Derived.Test.YtpkfckcilpiabaaGreatShardNew
import Derived.Test.YtpkfckcilpiabaaGreatOwner
import Derived.Deep.RegionLaw
namespace Go.Proofs.YtpkfckcilpiabaaGreat
open Go.RowKit

/-- The block of an own row's value. -/
def own_of (v : Value) : Nat → Prop := fun b => v.ownBlock = some b
abbrev encP (p : Nat) : List Value := [.pointer (some ⟨p, 0, none⟩)]
theorem encP_len (p : Nat) : (encP p).length = 1 := rfl
theorem encP_one (p : Nat) : ∀ u ∈ encP p, u.oneCell' = true := by
  intro u hu
  simp only [encP, List.mem_cons, List.not_mem_nil, or_false] at hu
  subst hu; rfl
theorem row_wk : Row Tryz.prog 51 56 1 := row_of (z := .pointer none) (b := 8) Tryz.underlying51 (by kernel_rfl) rfl (by decide) (by decide)
theorem row_bx : Row Tryz.prog 45 60 1 := row_of (z := .pointer none) (b := 8) Tryz.underlying45 (by kernel_rfl) rfl (by decide) (by decide)

theorem infoI : (Tryz.prog.info? 3).map (fun i => (i.zero, i.size, i.bytes)) = some (some (.int .i64 0), 1, 8) := by kernel_rfl
theorem ctl_new_x (w : World) : Calls Tryz.prog 12 #[] w fun e w' => e = .returned (.pointer (some ⟨w.heap.size, 0, none⟩)) ∧ w' = w.alloc (.cells #[.int .i64 0, .bool false, .int .i64 (-9223372036854775808), .bool false] 74) := by
  go_enter Tryz.func12, Tryz.ntmps12
  go_wp2
  go_ret
  exact ⟨rfl, rfl⟩
theorem log_new_x (w : World) : Calls Tryz.prog 13 #[] w fun e w' => e = .returned (.pointer (some ⟨w.heap.size, 0, none⟩)) ∧ w' = w.alloc (.cells #[.slice none 0 0] 77) := by
  go_enter Tryz.func13, Tryz.ntmps13
  go_wp2
  go_ret
  exact ⟨rfl, rfl⟩
theorem worker_box {w : World} {wp bp mp : Nat} {c : Config} (h : At w wp (c.cells ++ [Value.pointer (some ⟨bp, 0, none⟩), Value.map (some mp)]).toArray 87) :
    Calls Tryz.prog 16 #[.pointer (some ⟨wp, 0, none⟩)] w fun e w' => e = .returned (.pointer (some ⟨bp, 0, none⟩)) ∧ w = w' := by
  obtain ⟨kind, size, slide, gap, late, shards, groups, capc⟩ := c
  have c8 := At.cell h 8
  simp at c8
  go_enter Tryz.func16, Tryz.ntmps16
  go_wp2
  go_ret
  exact ⟨rfl, rfl⟩
theorem index_nil_calls (w : World) (v : Value) : Calls Tryz.prog 23 #[.slice none 0 0, v] w fun e w' => e = .returned (.int .i64 (-1)) ∧ w = w' := by
  go_enter Tryz.func23, Tryz.ntmps23
  go_wp2_with fail
  go_loopw [8] (fun iv wr => iv = .int .i64 0 ∧ wr = w) (fun _ _ => 0)
  case atStart => exact ⟨rfl, rfl⟩
  case round =>
    obtain ⟨rfl, rfl⟩ := hrel
    go_wp2_with fail
    go_ret
    exact ⟨rfl, rfl⟩
theorem contains_nil_calls (w : World) (v : Value) : Calls Tryz.prog 9 #[.slice none 0 0, v] w fun e w' => e = .returned (.bool false) ∧ w = w' := by
  go_enter Tryz.func9, Tryz.ntmps9
  go_wp2_with fail
  refine (index_nil_calls _ _).mono ?_
  rintro e w' ⟨rfl, rfl⟩
  go_wp2_with fail
  go_ret
  exact ⟨rfl, rfl⟩
theorem index_nil_clients (w : World) (v : Value) : Calls Tryz.prog 42 #[.slice none 0 0, v] w fun e w' => e = .returned (.int .i64 (-1)) ∧ w = w' := by
  go_enter Tryz.func42, Tryz.ntmps42
  go_wp2_with fail
  go_loopw [8] (fun iv wr => iv = .int .i64 0 ∧ wr = w) (fun _ _ => 0)
  case atStart => exact ⟨rfl, rfl⟩
  case round =>
    obtain ⟨rfl, rfl⟩ := hrel
    go_wp2_with fail
    go_ret
    exact ⟨rfl, rfl⟩
theorem contains_nil_clients (w : World) (v : Value) : Calls Tryz.prog 29 #[.slice none 0 0, v] w fun e w' => e = .returned (.bool false) ∧ w = w' := by
  go_enter Tryz.func29, Tryz.ntmps29
  go_wp2_with fail
  refine (index_nil_clients _ _).mono ?_
  rintro e w' ⟨rfl, rfl⟩
  go_wp2_with fail
  go_ret
  exact ⟨rfl, rfl⟩

/-- A machine without clients. -/
def NoClients (w : World) (mb : Nat) : Prop := w.cell? ⟨mb, 12, none⟩ = some (.slice none 0 0) ∧ mb < w.heap.size
theorem oper_over {w : World} {mb : Nat} (h : NoClients w mb) : Calls Tryz.prog 19 #[.pointer (some ⟨mb, 0, none⟩)] w fun e w' => e = .returned (.bool true) ∧ w = w' := by
  have h1 := h.1
  have hmf : ∀ (fn : Fn) (first cap : Array Value) (w : World), (Instr.makeFunc fn first cap).run Tryz.prog w = .ok (.func fn first cap) w := fun _ _ _ _ => rfl
  clear h
  go_enter Tryz.func19, Tryz.ntmps19
  go_wp2_with fail
  refine (contains_nil_clients _ _).mono ?_
  rintro e w' ⟨rfl, rfl⟩
  go_wp2_with fail
  go_ret
  exact ⟨rfl, rfl⟩

theorem cellf {S : Nat → Prop} {a w : World} {b i : Nat} {v : Value} (hb : b < a.heap.size) (hs : ¬ S b) (h : a.cell? ⟨b, i, none⟩ = some v) (hf : a.frozen? ⟨b, i, none⟩ = false) (kk : Keep S a w) : w.cell? ⟨b, i, none⟩ = some v ∧ w.frozen? ⟨b, i, none⟩ = false ∧ Keep S a w := by
  have e := kk.block b hb hs
  exact ⟨by rw [← h]; simp [World.cell?, e], by rw [← hf]; simp [World.frozen?, e], kk⟩
theorem ofShard_mem {t : List Own} {s x : Int} (h : x ∈ ofShard t s t.length) : 0 ≤ x ∧ x < t.length := by
  unfold ofShard at h
  simp at h
  omega
/-- The machine while it is made. -/
def MachAt (w : World) (mb : Nat) (c : Config) (cp tp lp : Nat) (wv bv lv : Value) : Prop :=
  At w mb (c.cells ++ [Value.pointer (some ⟨cp, 0, none⟩), .pointer (some ⟨tp, 0, none⟩), bv, wv, .slice none 0 0, .pointer (some ⟨lp, 0, none⟩), .slice none 0 0, lv, .int .i64 0]).toArray 55
def NewMach (w : World) (e : Ending) (w' : World) : Prop :=
  ∃ mb, e = .returned (.tuple #[.pointer (some ⟨mb, 0, none⟩), .nilIface]) ∧ Keep none_ w w' ∧ w.heap.size ≤ mb ∧ NoClients w' mb
set_option maxHeartbeats 8000000 in
set_option maxRecDepth 100000 in
theorem oper_new (w : World) (c : Config) (hc : c.ok) (h : c.mayB = true) : Calls Tryz.prog 6 #[.agg c.cells.toArray, .slice none 0 0] w (NewMach w) := by
  have c1 := fun w => assign_may w c hc
  rw [h] at c1
  replace c1 := Lib.hid c1
  obtain ⟨hc1, hc2, hc3, hc4, hc5, hc6⟩ := Config.may_cap h
  obtain ⟨ng, hng⟩ : ∃ ng : Nat, c.groups = ng := ⟨c.groups.toNat, by omega⟩
  obtain ⟨ns, hns⟩ : ∃ ns : Nat, c.shards = ns := ⟨c.shards.toNat, by omega⟩
  have c3 := Lib.hid (fun w => owner_new w ng ns (by omega) (by omega) (by omega) (by omega))
  have c2 := Lib.hid (fun w v => contains_nil_calls w v)
  have csh := Lib.hid (fun w A n cap gs hs hn hg => shard_new w c hc h (A := A) (n := n) (cap := cap) (gs := gs) hs hn hg)
  have kk : Keep none_ w (w.alloc (.cells c.cells.toArray 23)) := (by repeat' (first | assumption | with_reducible exact Keep.refl _ _ | with_reducible refine Keep.alloc ?_ _ | with_reducible refine Keep.drew ?_))
  have hx := At.new w c.cells.toArray 23
  have hmf : ∀ (fn : Fn) (first cap : Array Value) (w : World), (Instr.makeFunc fn first cap).run Tryz.prog w = .ok (.func fn first cap) w := fun _ _ _ _ => rfl
  clear h hc
  obtain ⟨kind, size, slide, gap, late, shards, groups, capc⟩ := c
  simp only at hng hns hc1 hc2 hc3 hc4 hc5 hc6
  subst hng hns
  simp only [Config.cells] at kk c1 hx csh ⊢
  go_enter Tryz.func6, Tryz.ntmps6
  go_wp2_with fail
  refine (c1.out _).mono ?_
  rintro e w1 ⟨rfl, k1⟩
  have kw := kk.trans k1
  have hx1 := Keep.at k1 hx (fun e => e)
  have hcx := At.cell hx1
  clear kk k1 hx c1
  generalize hcb : w.heap.size = cb at *
  go_wp2_with fail
  refine (c2.out _ _).mono ?_
  rintro e w' ⟨rfl, rfl⟩
  clear c2
  go_wp2_with fail
  refine (c3.out _).mono ?_
  rintro e w2 ⟨tp, tg, rfl, k2, -, -, htab⟩
  have kw2 := kw.trans k2
  have hx2 := Keep.at k2 hx1 (fun e => e)
  have hx2l := hx2.lt
  clear c3 kw k2 hx1 hcx
  go_wp2_with fail
  have z0 := At.cell hx2 0
  have z1 := At.cell hx2 1
  have z2 := At.cell hx2 2
  have z3 := At.cell hx2 3
  have z4 := At.cell hx2 4
  have z5 := At.cell hx2 5
  have z6 := At.cell hx2 6
  have z7 := At.cell hx2 7
  simp at z0 z1 z2 z3 z4 z5 z6 z7
  obtain ⟨i0, hi, hz0, hz1, hz2⟩ := info_parts infoI
  have hmk := fun w => run_make w 50 3 i0 (.int .i64 0) Tryz.underlying50 hi hz0 .i64 .i64 (0 : Int) (0 : Int) (by omega) (Int.le_refl _) (by rw [hz2]; omega) (by omega)
  simp only [Int.toNat_zero] at hmk
  clear hi hz0 hz1 hz2
  go_cut [8] from 37 to 46 (fun mv w' => ∃ mb cp lp lv, mv = .pointer (some ⟨mb, 0, none⟩) ∧ MachAt w' mb ⟨kind, size, slide, gap, late, ns, ng, capc⟩ cp tp lp (.slice none 0 0) (.slice none 0 0) lv ∧ Keep none_ w2 w' ∧ w2.heap.size ≤ mb)
  case first =>
    go_region_held3 (fun w' => w'.cell? ⟨cb, 0, none⟩ = some (.int .i64 kind) ∧ w'.cell? ⟨cb, 1, none⟩ = some (.int .i64 size) ∧ w'.cell? ⟨cb, 2, none⟩ = some (.int .i64 slide) ∧ w'.cell? ⟨cb, 3, none⟩ = some (.int .i64 gap) ∧
        w'.cell? ⟨cb, 4, none⟩ = some (.int .i64 late) ∧ w'.cell? ⟨cb, 5, none⟩ = some (.int .i64 ns) ∧ w'.cell? ⟨cb, 6, none⟩ = some (.int .i64 ng) ∧ w'.cell? ⟨cb, 7, none⟩ = some (.int .i64 capc) ∧ Keep none_ w2 w')
      (first
        | exact cells8 hx2l z0 z1 z2 z3 z4 z5 z6 z7 (Keep.refl _ _).drew
        | (go_split_ands; exact cells8 hx2l z0 z1 z2 z3 z4 z5 z6 z7 (by repeat' (first | assumption | with_reducible exact Keep.refl _ _ | with_reducible refine Keep.alloc ?_ _ | with_reducible refine Keep.drew ?_)))
        | fail)
      ((first
        | (go_at_call 12; refine (ctl_new_x _).mono ?_; rintro e w' ⟨rfl, rfl⟩)
        | (go_at_call 13; refine (log_new_x _).mono ?_; rintro e w' ⟨rfl, rfl⟩)
        | fail))
    all_goals
      go_wp2_with fail
      go_meet
      exact ⟨_, _, _, _, rfl, (by unfold MachAt; exact At.drew (At.newAt (by simp) _ _)), (by repeat' (first | assumption | with_reducible exact Keep.refl _ _ | with_reducible refine Keep.alloc ?_ _ | with_reducible refine Keep.drew ?_)), by omega⟩
  case rest =>
    obtain ⟨mb, cp, lp, lv, rfl, hm, k3, hmb⟩ := hcut
    have kw3 := kw2.trans k3
    have hx3 := Keep.at k3 hx2 (fun e => e)
    have htab3 := htab.keep k3 (fun e => e) (fun e => e)
    have hmw : w.heap.size ≤ mb := by rw [hcb]; omega
    have hml := hm.lt
    have hne3 : cb ≠ mb := by omega
    have hne1 : tp ≠ mb := by have := htab.self.lt; have := hmb; omega
    have hne2 : tg ≠ mb := by have := htab.row.lt; have := hmb; omega
    have htpl : tp < wc.heap.size ∧ tg < wc.heap.size := ⟨htab3.self.lt, htab3.row.lt⟩
    clear z0 z1 z2 z3 z4 z5 z6 z7 hmk htab hx2 kw2 k3 hmb
    have c0 := At.cell hx3
    generalize hbase : wc.heap.size = base at *
    have hwb : w.heap.size ≤ base := by omega
    go_wp2_with fail
    go_loopw [9, 10, 11, 49] (fun _ _ _ iv wr => ∃ (k : Nat) (wv bv : Value) (ws bs : List Nat), iv = .int .i64 k ∧ k ≤ ns ∧ MachAt wr mb ⟨kind, size, slide, gap, late, ns, ng, capc⟩ cp tp lp wv bv lv ∧
        wr.ownsRow base 56 1 wv ws.length (flat encP ws) ∧ wr.ownsRow base 60 1 bv bs.length (flat encP bs) ∧ (∀ g, wv.ownBlock = some g → bv.ownBlock ≠ some g) ∧ ws.length ≤ k ∧ bs.length ≤ k ∧
        TabAt wr tp tg (initT ng ns) ns ∧ At wr cb #[.int .i64 kind, .int .i64 size, .int .i64 slide, .int .i64 gap, .int .i64 late, .int .i64 ns, .int .i64 ng, .int .i64 capc] 23 ∧ Keep none_ w wr ∧ base ≤ wr.heap.size)
      (fun _ _ _ iv _ => ns - (intOf iv).toNat)
    case atStart => exact ⟨0, _, _, [], [], rfl, Nat.zero_le _, hm, ⟨rfl, .inl ⟨rfl, rfl⟩⟩, ⟨rfl, .inl ⟨rfl, rfl⟩⟩, (fun g e => by cases e), Nat.le_refl _, Nat.le_refl _, htab3, hx3, kw3, by omega⟩
    case round =>
      clear hm kw3 hx3 htab3 c0
      obtain ⟨k, wv, bv, ws, bs, rfl, hk, hm, ow, ob, hap, hwl, hbl, htab, hx, kw, hbw⟩ := hrel
      by_cases hlt : k < ns
      · have hlt' : (k : Int) < (ns : Int) := by omega
        have hk0 := Int.natCast_nonneg k
        obtain ⟨Aw, cw, rfl⟩ := own_form ow
        obtain ⟨Ab, cbx, rfl⟩ := own_form ob
        have z0 := At.cell hx 0
        have z1 := At.cell hx 1
        have z2 := At.cell hx 2
        have z3 := At.cell hx 3
        have z4 := At.cell hx 4
        have z5 := At.cell hx 5
        have z6 := At.cell hx 6
        have z7 := At.cell hx 7
        simp at z0 z1 z2 z3 z4 z5 z6 z7
        have hxl := hx.lt
        have hgl : (ofShard (initT ng ns) (k : Int) (initT ng ns).length).length ≤ 16 := Nat.le_trans (ofShard_le _ _ _) (by rw [initT_len]; omega)
        have hgm : ∀ x ∈ ofShard (initT ng ns) (k : Int) (initT ng ns).length, 0 ≤ x ∧ x < (ng : Int) := fun x hx => by
          have := ofShard_mem hx
          rw [initT_len] at this
          omega
        go_wp2_with fail
        go_region_held3 (fun w' => w'.cell? ⟨cb, 0, none⟩ = some (.int .i64 kind) ∧ w'.cell? ⟨cb, 1, none⟩ = some (.int .i64 size) ∧ w'.cell? ⟨cb, 2, none⟩ = some (.int .i64 slide) ∧ w'.cell? ⟨cb, 3, none⟩ = some (.int .i64 gap) ∧
            w'.cell? ⟨cb, 4, none⟩ = some (.int .i64 late) ∧ w'.cell? ⟨cb, 5, none⟩ = some (.int .i64 ns) ∧ w'.cell? ⟨cb, 6, none⟩ = some (.int .i64 ng) ∧ w'.cell? ⟨cb, 7, none⟩ = some (.int .i64 capc) ∧ Keep none_ wr w')
          (first
            | exact cells8 hxl z0 z1 z2 z3 z4 z5 z6 z7 (Keep.refl _ _).drew
            | (go_split_ands; exact cells8 hxl z0 z1 z2 z3 z4 z5 z6 z7 kc2)
            | (go_split_ands; exact cells8 hxl z0 z1 z2 z3 z4 z5 z6 z7 kc1)
            | (go_split_ands; exact cells8 hxl z0 z1 z2 z3 z4 z5 z6 z7 (by repeat' (first | assumption | with_reducible exact Keep.refl _ _ | with_reducible refine Keep.alloc ?_ _ | with_reducible refine Keep.drew ?_)))
            | fail)
          ((first
            | (go_at_call 15; refine (owner_groups (htab.keep (show Keep none_ wr _ from (by repeat' (first | assumption | with_reducible exact Keep.refl _ _ | with_reducible refine Keep.alloc ?_ _ | with_reducible refine Keep.drew ?_))) (fun e => e) (fun e => e)) _).mono ?_; rintro e wG ⟨AG, cG, rfl, kG, oG⟩; have kc1 : Keep none_ wr wG := (by refine Keep.trans ?_ kG; exact (by repeat' (first | assumption | with_reducible exact Keep.refl _ _ | with_reducible refine Keep.alloc ?_ _ | with_reducible refine Keep.drew ?_))))
            | (go_at_call 14; refine (csh.out _ _ _ _ _ ((Sl.of_own encI_len (by decide) oG).keep (show Keep none_ wG _ from (by repeat' (first | assumption | with_reducible exact Keep.refl _ _ | with_reducible refine Keep.alloc ?_ _ | with_reducible refine Keep.drew ?_))) Off.none_) hgl hgm).mono ?_; rintro e wS ⟨wp, bp, mp, nn, f, rfl, kS, hwp, -, hW, im⟩; have kc2 : Keep none_ wr wS := (by refine Keep.trans ?_ kS; exact (by repeat' (first | assumption | with_reducible exact Keep.refl _ _ | with_reducible refine Keep.alloc ?_ _ | with_reducible refine Keep.drew ?_))))
            | fail))
        all_goals
          have hm1 := Keep.at kc2 (show At _ _ _ _ from hm) (fun e => e)
          have hc11 := At.cell hm1 11
          have hc10 := At.cell hm1 10
          have hf1 := At.frozen hm1
          simp at hc11 hc10
          have kcA : Keep none_ wr (wS.alloc (.cells #[.pointer (some ⟨wp, 0, none⟩)] 56)) := Keep.alloc kc2 _
          have ow1 := own_keep ow kcA (fun _ _ e => e)
          have slw := Sl.of_at (enc := encP) (xs := [wp]) (At.new wS #[.pointer (some ⟨wp, 0, none⟩)] 56) encP_len (by decide) (rfl : (1 : Nat) = [wp].length) rfl (by unfold maxLen; omega)
          have hbA : base ≤ (wS.alloc (.cells #[.pointer (some ⟨wp, 0, none⟩)] 56)).heap.size := Nat.le_trans hbw kcA.size
          clear z0 z1 z2 z3 z4 z5 z6 z7 csh
          go_wp2_with (at_builtin; refine wpList_append_sl _ rfl _ _ _ rfl base 56 row_wk encP_len encP_one _ _ ws rfl ow1 (some ⟨wS.heap.size, 0, none⟩) 1 1 [wp] rfl slw (by omega) hbA ?_)
          intro wv4 w4 ow4 hg4 hb4
          obtain ⟨A4, c4, rfl⟩ := own_form ow4
          have hwmem := fun g hg => ow.lt g hg
          have hbmem := fun g hg => ob.lt g hg
          have kk4 : Keep (own_of (.slice Aw ws.length cw)) wr w4 := Keep.grown kcA.of_none hg4 (fun q hq _ => hq)
          have hm4 := Keep.at kk4 hm (fun e => by have := hwmem mb e; omega)
          have hwpr : wr.heap.size ≤ wp := by have := kc1.size; omega
          have hW4 := (At.alloc hW (.cells #[.pointer (some ⟨wp, 0, none⟩)] 56)).of_block (hg4.block wp (At.alloc hW _).lt (fun e => by have := hwmem wp e.symm; omega))
          have ob4 := own_keep ob kk4 (fun g hg e => hap g e hg)
          have hb4l := kk4.size
          have hap4 : ∀ g, (Value.slice A4 (ws.length + 1) c4).ownBlock = some g → (Value.slice Ab bs.length cbx).ownBlock ≠ some g := fun g e1 e2 => by
            rcases hb4 with hb4 | hb4
            · exact hap g (by rw [← hb4]; exact e1) e2
            · rw [hb4] at e1
              have h8 := (hbmem g e2).2
              have h9 := kcA.size
              have : (wS.alloc (.cells #[.pointer (some ⟨wp, 0, none⟩)] 56)).heap.size = g := by simpa using e1
              omega
          have hx4 := Keep.at kk4 hx (fun e => by have := hwmem cb e; omega)
          have htab4 := htab.keep kk4 (fun e => by have := hwmem tp e; have := htpl.1; omega) (fun e => by have := hwmem tg e; have := htpl.2; omega)
          unfold MachAt at hm4
          have hm5 := At.set hm4 11 (.slice A4 (ws.length + 1) c4)
          simp at hm5
          have hc4 := At.cell hm4
          have hf4 := At.frozen hm4
          have k45 : Keep (one mb) w4 (w4.setCell ⟨mb, 11, none⟩ (.slice A4 (ws.length + 1) c4)) := Keep.set1 (Keep.refl _ _) _
          clear hg4 hb4 ow1 slw kcA hbA hc11 hc10 hf1 hm1 hm ow ob htab hx
          go_wp2_with fail
          generalize hw5 : w4.setCell ⟨mb, 11, none⟩ _ = w5 at *
          have hs5 : w4.heap.size ≤ w5.heap.size := k45.size
          have hW5 := Keep.at k45 hW4 (fun e => by unfold one at e; omega)
          have ow5 := own_keep ow4 k45 (fun g hg e => by have := (ow4.lt g hg).1; unfold one at e; omega)
          have ob5 := own_keep ob4 k45 (fun g hg e => by have := (ob4.lt g hg).1; unfold one at e; omega)
          have hx5 := Keep.at k45 hx4 (fun e => by unfold one at e; exact hne3 e)
          have htab5 := htab4.keep k45 (fun e => by unfold one at e; exact hne1 e) (fun e => by unfold one at e; exact hne2 e)
          have kw5 : Keep none_ w w5 := Keep.fresh (Keep.fresh kw kk4 (fun q hq e => by have := (hwmem q e).1; omega)) k45 (fun q hq e => by unfold one at e; omega)
          have b10 := At.cell hm5 10
          have fr10 := At.frozen hm5 10
          simp at b10
          have hm5l := hm5.lt
          have hb5 : base ≤ w5.heap.size := by omega
          clear ow4 ob4 hx4 htab4 hm4 hc4 hf4 k45 kk4 hw5 hW4 hW kc1 kc2 kS kG oG im
          go_region_law (first
              | (go_simp; go_at_call 16; refine (worker_box (Keep.at (show Keep none_ w5 _ from (by repeat' (first | assumption | with_reducible exact Keep.refl _ _ | with_reducible refine Keep.alloc ?_ _ | with_reducible refine Keep.drew ?_))) hW5 (fun e => e))).mono ?_; rintro e w' ⟨rfl, rfl⟩)
              | (refine step_append_sl _ (by rfl) _ _ _ (by rfl) base 60 row_bx encP_len encP_one (.slice Ab bs.length cbx) bs.length bs (by rfl) (own_keep ob5 (show Keep none_ w5 _ from (by repeat' (first | assumption | with_reducible exact Keep.refl _ _ | with_reducible refine Keep.alloc ?_ _ | with_reducible refine Keep.drew ?_))) (fun _ _ e => e)) (some ⟨_, 0, none⟩) 1 1 [bp] (by rfl) (Sl.of_at (cs := #[.pointer (some ⟨bp, 0, none⟩)]) (e := 60) ?_ encP_len (by decide) rfl rfl (by unfold maxLen; omega)) (by omega) ?_ ?_
                 · first | exact (by repeat' (first | ((with_reducible refine At.newAt ?_ _ _); (first | (simp; done) | rfl)) | with_reducible refine At.drew ?_ | with_reducible refine At.alloc ?_ _)) | fail
                 · first | exact Nat.le_trans hb5 (show Keep none_ w5 _ from (by repeat' (first | assumption | with_reducible exact Keep.refl _ _ | with_reducible refine Keep.alloc ?_ _ | with_reducible refine Keep.drew ?_))).size | fail
                 intro vB wB oB gB lB
                 have kB : Keep (own_of (.slice Ab bs.length cbx)) w5 wB := Keep.grown (Keep.of_none (show Keep none_ w5 _ from (by repeat' (first | assumption | with_reducible exact Keep.refl _ _ | with_reducible refine Keep.alloc ?_ _ | with_reducible refine Keep.drew ?_)))) gB (fun q hq _ => hq)
                 have lB2 : vB.ownBlock = (Value.slice Ab bs.length cbx).ownBlock ∨ ∃ q, w5.heap.size ≤ q ∧ vB.ownBlock = some q := (by
                   rcases lB with e | e
                   · exact .inl e
                   · refine .inr ⟨_, ?_, e⟩
                     exact (show Keep none_ w5 _ from (by repeat' (first | assumption | with_reducible exact Keep.refl _ _ | with_reducible refine Keep.alloc ?_ _ | with_reducible refine Keep.drew ?_))).size)
                 have hmB := Keep.at kB hm5 (fun e => by have := (ob5.lt mb e).1; omega)
                 have fB := At.frozen hmB
                 have cB : wB.cell? ⟨mb, 10, none⟩ = some (.slice Ab bs.length cbx) := At.cell hmB 10
                 obtain ⟨A6, c6, rfl⟩ := own_form oB))
          all_goals
            have hm6 := At.set hmB 10 (.slice A6 (bs.length + 1) c6)
            simp only [List.setIfInBounds_toArray, List.set_cons_succ, List.set_cons_zero] at hm6
            have k6 : Keep (one mb) wB (wB.setCell ⟨mb, 10, none⟩ (.slice A6 (bs.length + 1) c6)) := Keep.set1 (Keep.refl _ _) _
            have hobm := fun g hg => ob5.lt g hg
            have how := fun g hg => ow5.lt g hg
            have hoB := fun g hg => oB.lt g hg
            have ow6 := own_keep (own_keep ow5 kB (fun g hg e => hap4 g hg e)) k6 (fun g hg e => by have := (how g hg).1; unfold one at e; omega)
            have ob6 := own_keep oB k6 (fun g hg e => by have := (hoB g hg).1; unfold one at e; omega)
            have hap6 : ∀ g, (Value.slice A4 (ws.length + 1) c4).ownBlock = some g → (Value.slice A6 (bs.length + 1) c6).ownBlock ≠ some g := fun g e1 e2 => by
              rcases lB2 with e | ⟨q, hq, e⟩
              · exact hap4 g e1 (by rw [← e]; exact e2)
              · rw [e] at e2
                have := (how g e1).2
                have : q = g := by simpa using e2
                omega
            have htab6 := (htab5.keep kB (fun e => by have := (hobm tp e).1; omega) (fun e => by have := (hobm tg e).1; omega)).keep k6 (fun e => by unfold one at e; exact hne1 e) (fun e => by unfold one at e; exact hne2 e)
            have hx6 := Keep.at k6 (Keep.at kB hx5 (fun e => by have := (hobm cb e).1; omega)) (fun e => by unfold one at e; exact hne3 e)
            have kw6 := Keep.fresh (Keep.fresh kw5 kB (fun q hq e => by have := (hobm q e).1; omega)) k6 (fun q hq e => by unfold one at e; omega)
            have hsz6 := Nat.le_trans kB.size k6.size
            clear kB gB lB lB2 oB k6 hmB fB cB ow5 ob5 htab5 hx5 kw5 hm5 b10 fr10 hW5
            go_wp2_with fail
            go_roundw
            case rel => exact ⟨k + 1, _, _, ws ++ [wp], bs ++ [bp], by go_num, by omega, hm6, by simpa using ow6, by simpa using ob6, hap6, by simp; omega, by simp; omega, htab6, hx6, kw6, by omega⟩
            case measure => simp [intOf]; omega
      · obtain rfl : k = ns := by omega
        have hc12 : wr.cell? ⟨mb, 12, none⟩ = some (.slice none 0 0) := At.cell hm 12
        have hml2 : mb < wr.heap.size := by omega
        clear hm ow ob htab hx csh
        go_wp2_with fail
        go_loopw [12, 13, 89] (fun _ _ iv wq => iv = .int .i64 0 ∧ wq = wr) (fun _ _ _ _ => 0)
        case atStart => exact ⟨rfl, rfl⟩
        case round =>
          obtain ⟨rfl, rfl⟩ := hrel
          go_wp2_with fail
          go_ret2
          exact ⟨mb, rfl, kw, hmw, hc12, hml2⟩
end Go.Proofs.YtpkfckcilpiabaaGreat
