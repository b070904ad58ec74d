/-
  box.New of messages, shard.New, Worker.Box: a new worker.
-/
import Derived.Test.YtpkfckcilpiabaaGreatGroupNew
import Derived.Test.YtpkfckcilpiabaaGreatIMap
import Derived.Test.YtpkfckcilpiabaaGreatRegion
import Derived.Laws.MakeOwn
import Derived.Deep.CutRange
import Derived.Deep.RegionHeld3
namespace Go.Proofs.YtpkfckcilpiabaaGreat
open Go.RowKit

section
variable {w : World} {b n : Nat} {f : Int → Option Value}
theorem step_mapUpdate {ops : Array Oper} {o : Oper} {a : Act} {K : Act → World → Prop} {Q : Exit → Act → World → Prop} {E : Prop} (hgd : o.guard = none) (t e : TypeId) (m k v : Operand) (ho : o.op = .mapUpdate t m k v)
    (ht : Tryz.prog.underlying t = some (.map 3 e)) (x : Int) (val : Value) (hm : a.eval m = .map (some b)) (hk : a.eval k = .int .i64 x) (hv : a.eval v = val) (im : IMap w b n f) (hn : n < maxLen) (hx : I64 x)
    (h : ∀ w', IMap w' b (n + 1) (fun y => if y = x then some val else f y) → Keep (one b) w w' → K (a.put o.dst undef) w') :
    if Region.wanted o (yielded ops a.tmps) = true then Oper.wp Tryz.prog o a w K Q else E := by
  have hw : Region.wanted o (yielded ops a.tmps) = true := by simp [Region.wanted, hgd]
  rw [if_pos hw]
  obtain ⟨w', hrun, h2, h3⟩ := im.store ht hn x hx val
  unfold Oper.wp execOp
  simp only [ho, hm, hk, hv, Sem.run_bind, hrun, Result.andThen_ok, Sem.run_pure]
  exact h w' h2 h3
end

theorem info_msg : (Tryz.prog.info? 84).map (fun i => (i.zero, i.size, i.bytes)) = some (some (.agg #[.int .i64 0, .int .i64 0, .int .i64 0, .string ⟨#[]⟩, .int .i64 0, .int .i64 0, .int .i64 0, .int .i64 0, .int .i64 0, .int .i64 0, .pointer none]), 11, 96) := by kernel_rfl
set_option maxRecDepth 100000 in
theorem box_new_msg (w : World) (room : Nat) (h1 : 1 ≤ room) (h2 : room ≤ 16) : Calls Tryz.prog 24 #[.int .i64 room] w fun e w' =>
    ∃ p, e = .returned (.tuple #[.pointer (some ⟨p, 0, none⟩), .nilIface]) ∧ Keep none_ w w' ∧ w.heap.size ≤ p := by
  obtain ⟨i0, hi, hz0, hz1, hz2⟩ := info_parts info_msg
  have hmk := fun w => run_make w 102 84 i0 _ Tryz.underlying102 hi hz0 .i64 .i64 (room : Int) (room : Int) (by omega) (Int.le_refl _) (by rw [hz2]; omega) (by omega)
  have hnot : ¬ (16 < (room : Int)) := by omega
  simp only [Int.toNat_natCast] at hmk
  clear hi hz0 hz1 hz2
  go_enter Tryz.func24, Tryz.ntmps24
  go_wp2
  go_ret2
  exact ⟨_, rfl, (by repeat' (first | exact Keep.refl _ _ | refine Keep.set1 ?_ _ | refine Keep.alloc ?_ _ | refine Keep.drew ?_ | refine Keep.setNew ?_ (by simp) _)), by simp⟩

/-- A new worker. -/
def NewWorker (c : Config) (w : World) (e : Ending) (w' : World) : Prop :=
  ∃ wp bp mp n f, e = .returned (.tuple #[.pointer (some ⟨wp, 0, none⟩), .nilIface]) ∧ Keep none_ w w' ∧ w.heap.size ≤ wp ∧ w.heap.size ≤ mp ∧
    At w' wp (c.cells ++ [Value.pointer (some ⟨bp, 0, none⟩), Value.map (some mp)]).toArray 87 ∧ IMap w' mp n f
theorem Config.may_cap {c : Config} (h : c.mayB = true) : 1 ≤ c.cap ∧ c.cap ≤ 16 ∧ 1 ≤ c.groups ∧ c.groups ≤ 16 ∧ 1 ≤ c.shards ∧ c.shards ≤ 8 := by
  simp only [Config.mayB, inB, Bool.and_eq_true, decide_eq_true_eq] at h
  omega
theorem cells9 {a w : World} {b wp mp : Nat} {v0 v1 v2 v3 v4 v5 v6 v7 v9 : Value} (hb : b < a.heap.size) (hwp : wp < a.heap.size) (h1 : b ≠ mp) (h2 : wp ≠ mp) (q0 : a.cell? ⟨b, 0, none⟩ = some v0) (q1 : a.cell? ⟨b, 1, none⟩ = some v1) (q2 : a.cell? ⟨b, 2, none⟩ = some v2) (q3 : a.cell? ⟨b, 3, none⟩ = some v3)
    (q4 : a.cell? ⟨b, 4, none⟩ = some v4) (q5 : a.cell? ⟨b, 5, none⟩ = some v5) (q6 : a.cell? ⟨b, 6, none⟩ = some v6) (q7 : a.cell? ⟨b, 7, none⟩ = some v7) (q9 : a.cell? ⟨wp, 9, none⟩ = some v9) (kk : Keep (one mp) a w) :
    w.cell? ⟨b, 0, none⟩ = some v0 ∧ w.cell? ⟨b, 1, none⟩ = some v1 ∧ w.cell? ⟨b, 2, none⟩ = some v2 ∧ w.cell? ⟨b, 3, none⟩ = some v3 ∧ w.cell? ⟨b, 4, none⟩ = some v4 ∧ w.cell? ⟨b, 5, none⟩ = some v5 ∧ w.cell? ⟨b, 6, none⟩ = some v6 ∧ w.cell? ⟨b, 7, none⟩ = some v7 ∧ w.cell? ⟨wp, 9, none⟩ = some v9 ∧ Keep (one mp) a w := by
  have e1 := kk.block b hb (fun e => h1 e)
  have e2 := kk.block wp hwp (fun e => h2 e)
  have f1 : ∀ i, w.cell? ⟨b, i, none⟩ = a.cell? ⟨b, i, none⟩ := fun i => by simp [World.cell?, e1]
  have f2 : ∀ i, w.cell? ⟨wp, i, none⟩ = a.cell? ⟨wp, i, none⟩ := fun i => by simp [World.cell?, e2]
  exact ⟨(f1 0).trans q0, (f1 1).trans q1, (f1 2).trans q2, (f1 3).trans q3, (f1 4).trans q4, (f1 5).trans q5, (f1 6).trans q6, (f1 7).trans q7, (f2 9).trans q9, kk⟩

set_option maxHeartbeats 8000000 in
set_option maxRecDepth 100000 in
theorem shard_new (w : World) (c : Config) (hc : c.ok) (h : c.mayB = true) {A : Option Addr} {n cap : Nat} {gs : List Int} (hs : Sl encI 1 w A n cap gs) (hn : n ≤ 16) (hg : ∀ x ∈ gs, 0 ≤ x ∧ x < c.groups) :
    Calls Tryz.prog 14 #[.agg c.cells.toArray, .slice A n cap] w (NewWorker c w) := by
  have c1 := fun w => assign_may w c hc
  rw [h] at c1
  replace c1 := Lib.hid c1
  obtain ⟨hc1, hc2, hc3, hc4, hc5, hc6⟩ := Config.may_cap h
  have cg := Lib.hid (fun w => group_new w c hc h)
  obtain ⟨room, hroom⟩ : ∃ room : Nat, c.cap = room := ⟨c.cap.toNat, by omega⟩
  have c2 := Lib.hid (fun w => box_new_msg w room (by omega) (by omega))
  have hmm := @run_makeMap Tryz.prog
  have kk : Keep none_ w (w.alloc (.cells c.cells.toArray 23)) := (by repeat' (first | assumption | with_reducible exact Keep.refl _ _ | with_reducible refine Keep.alloc ?_ _ | with_reducible refine Keep.drew ?_))
  have hx := At.new w c.cells.toArray 23
  have hln := Lib.hid hs.len
  have hnc := hs.2.1
  clear h hc
  obtain ⟨kind, size, slide, gap, late, shards, groups, capc⟩ := c
  simp only at hroom hc1 hc2 hc3 hc4 hc5 hc6 hg
  subst hroom
  simp only [Config.cells] at kk c1 hx cg ⊢
  go_enter Tryz.func14, Tryz.ntmps14
  go_wp2_with fail
  refine (c1.out _).mono ?_
  rintro e w1 ⟨rfl, k1⟩
  have kw := kk.trans k1
  have hx1 := Keep.at k1 hx (fun e => e)
  have hcx := At.cell hx1
  clear kk k1 hx c1
  generalize hcb : w.heap.size = cb at *
  go_wp2_with fail
  refine (c2.out _).mono ?_
  rintro e w2 ⟨bp, rfl, k2, -⟩
  have kw2 := kw.trans k2
  have hx2 := Keep.at k2 hx1 (fun e => e)
  have hcx2 := At.cell hx2
  have hx2l := hx2.lt
  clear c2 kw k2 hx1 hcx
  obtain ⟨mp, hmp⟩ : ∃ mp, mp = w2.heap.size := ⟨_, rfl⟩
  have hW : At ((w2.alloc (.map #[] 0)).alloc (.cells #[.int .i64 kind, .int .i64 size, .int .i64 slide, .int .i64 gap, .int .i64 late, .int .i64 shards, .int .i64 groups, .int .i64 room, .pointer (some ⟨bp, 0, none⟩), .map (some mp)] 87)) (mp + 1)
      #[.int .i64 kind, .int .i64 size, .int .i64 slide, .int .i64 gap, .int .i64 late, .int .i64 shards, .int .i64 groups, .int .i64 room, .pointer (some ⟨bp, 0, none⟩), .map (some mp)] 87 := At.newAt (by simp [hmp]) _ _
  have im0 : IMap ((w2.alloc (.map #[] 0)).alloc (.cells #[.int .i64 kind, .int .i64 size, .int .i64 slide, .int .i64 gap, .int .i64 late, .int .i64 shards, .int .i64 groups, .int .i64 room, .pointer (some ⟨bp, 0, none⟩), .map (some mp)] 87)) mp 0 (fun _ => none) := by
    rw [hmp]
    exact (imap_made w2).keep (S := none_) (Keep.alloc (Keep.refl _ _) _) (fun e => e)
  have hx3 : At ((w2.alloc (.map #[] 0)).alloc (.cells #[.int .i64 kind, .int .i64 size, .int .i64 slide, .int .i64 gap, .int .i64 late, .int .i64 shards, .int .i64 groups, .int .i64 room, .pointer (some ⟨bp, 0, none⟩), .map (some mp)] 87)) cb _ _ := At.alloc (At.alloc hx2 (.map #[] 0)) _
  have k3 : Keep none_ w ((w2.alloc (.map #[] 0)).alloc (.cells #[.int .i64 kind, .int .i64 size, .int .i64 slide, .int .i64 gap, .int .i64 late, .int .i64 shards, .int .i64 groups, .int .i64 room, .pointer (some ⟨bp, 0, none⟩), .map (some mp)] 87)) := Keep.alloc (Keep.alloc kw2 _) _
  have hcm : cb < mp := by rw [hmp]; exact hx2l
  have hwm : w.heap.size ≤ mp := by rw [hmp]; exact kw2.size
  go_wp2_with fail
  rw [← hmp]
  generalize (w2.alloc _).alloc _ = w3 at *
  clear hmp hcx2 hx2 kw2 hx2l hmm
  replace hg := Lib.hid hg
  go_loopw [7, 10, 31] (fun ev _ iv wr => ∃ (k m : Nat) (f : Int → Option Value), iv = .int .i64 k ∧ k ≤ n ∧ ev = .nilIface ∧ m ≤ k ∧ IMap wr mp m f ∧
      At wr (mp + 1) #[.int .i64 kind, .int .i64 size, .int .i64 slide, .int .i64 gap, .int .i64 late, .int .i64 shards, .int .i64 groups, .int .i64 room, .pointer (some ⟨bp, 0, none⟩), .map (some mp)] 87 ∧
      At wr cb #[.int .i64 kind, .int .i64 size, .int .i64 slide, .int .i64 gap, .int .i64 late, .int .i64 shards, .int .i64 groups, .int .i64 room] 23 ∧ Keep none_ w wr)
    (fun _ _ iv _ => n - (intOf iv).toNat)
  case atStart => exact ⟨0, 0, _, rfl, Nat.zero_le _, rfl, Nat.le_refl _, im0, hW, hx3, k3⟩
  case round =>
    clear im0 hW hx3 k3
    obtain ⟨k, m, f, rfl, hkn, rfl, hmk, im, hW, hx, kk⟩ := hrel
    by_cases hlt : k < n
    · have hkx : k < gs.length := by have := hln.out; omega
      have hsl := hs.keep kk Off.none_
      obtain ⟨b, off, rfl, hbl, -⟩ := hsl.at_ (by omega)
      have q0 : wr.cell? ⟨b, off + k, none⟩ = some (.int .i64 gs[k]) := hsl.cell1 hkx
      have hgx := hg.out _ (List.getElem_mem hkx)
      generalize gs[k] = x at *
      have hlt' : (k : Int) < (n : Int) := by omega
      have hk0 := Int.natCast_nonneg k
      have hx0 : decide (x < 0) = false := by simp; omega
      have hx1 : decide (groups ≤ x) = false := by simp; omega
      have hxi : I64 x := by unfold I64; omega
      have z0 := At.cell hx 0
      have z1 := At.cell hx 1
      have z2 := At.cell hx 2
      have z3 := At.cell hx 3
      have z4 := At.cell hx 4
      have z5 := At.cell hx 5
      have z6 := At.cell hx 6
      have z7 := At.cell hx 7
      have y9 := At.cell hW 9
      simp at z0 z1 z2 z3 z4 z5 z6 z7 y9
      have hxl := hx.lt
      have hWl := hW.lt
      clear hsl
      go_wp2_with fail
      have hne1 : cb ≠ mp := by omega
      have hne2 : mp + 1 ≠ mp := by omega
      go_region_held3 (fun w' => w'.cell? ⟨cb, 0, none⟩ = some (.int .i64 kind) ∧ w'.cell? ⟨cb, 1, none⟩ = some (.int .i64 size) ∧ w'.cell? ⟨cb, 2, none⟩ = some (.int .i64 slide) ∧ w'.cell? ⟨cb, 3, none⟩ = some (.int .i64 gap) ∧
          w'.cell? ⟨cb, 4, none⟩ = some (.int .i64 late) ∧ w'.cell? ⟨cb, 5, none⟩ = some (.int .i64 shards) ∧ w'.cell? ⟨cb, 6, none⟩ = some (.int .i64 groups) ∧ w'.cell? ⟨cb, 7, none⟩ = some (.int .i64 room) ∧ w'.cell? ⟨mp + 1, 9, none⟩ = some (.map (some mp)) ∧ Keep (one mp) wr w')
        (first
          | exact cells9 hxl hWl hne1 hne2 z0 z1 z2 z3 z4 z5 z6 z7 y9 (Keep.refl _ _).drew
          | (go_split_ands; exact cells9 hxl hWl hne1 hne2 z0 z1 z2 z3 z4 z5 z6 z7 y9 kcU)
          | (go_split_ands; exact cells9 hxl hWl hne1 hne2 z0 z1 z2 z3 z4 z5 z6 z7 y9 kcU.drew)
          | (go_split_ands; exact cells9 hxl hWl hne1 hne2 z0 z1 z2 z3 z4 z5 z6 z7 y9 (Keep.of_none (show Keep none_ wr _ from (by repeat' (first | assumption | with_reducible exact Keep.refl _ _ | with_reducible refine Keep.alloc ?_ _ | with_reducible refine Keep.drew ?_)))))
          | fail)
        ((first
          | (go_at_call 25; refine (cg.out _).mono ?_; rintro e w' ⟨gp, mp2, tp, ck, rfl, k9, -⟩; have kc0 : Keep none_ wr w' := (by refine Keep.trans ?_ k9; exact (by repeat' (first | assumption | with_reducible exact Keep.refl _ _ | with_reducible refine Keep.alloc ?_ _ | with_reducible refine Keep.drew ?_))); obtain ⟨wU, hU, imU, kU⟩ := (im.keep kc0 (fun e => e)).store (t := 85) Tryz.underlying85 (by unfold maxLen; omega) x hxi (.pointer (some ⟨gp, 0, none⟩)); have kcU : Keep (one mp) wr wU := Keep.trans (Keep.of_none kc0) kU)
          | fail))
      all_goals
        have hW' := Keep.at kcU hW (fun e => hne2 e)
        have hx' := Keep.at kcU hx (fun e => hne1 e)
        have kk' : Keep none_ w wU := Keep.fresh kk kcU (fun q hq e => by unfold one at e; omega)
        clear im hW hx kk kU k9 kc0 kcU z0 z1 z2 z3 z4 z5 z6 z7 y9 hU
        go_wp2_with fail
        go_roundw
        case rel => exact ⟨k + 1, m + 1, _, by go_num, by omega, rfl, by omega, imU, hW', hx', kk'⟩
        case measure => simp [intOf]; omega
    · clear hs
      go_wp2_with fail
      go_ret2
      exact ⟨mp + 1, bp, mp, m, f, rfl, kk, by omega, by omega, hW, im⟩
end Go.Proofs.YtpkfckcilpiabaaGreat
