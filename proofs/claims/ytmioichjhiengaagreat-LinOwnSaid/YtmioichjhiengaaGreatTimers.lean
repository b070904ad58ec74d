/-
  The contracts of timer.Timers, over a heap without doubles.
-/
import Derived.Test.YtmioichjhiengaaGreatBaseHeap
import Derived.Test.YtmioichjhiengaaGreatBaseA
import Derived.Test.YtmioichjhiengaaGreatSpan
import Derived.Outline
set_option linter.unusedSimpArgs false
set_option linter.unusedVariables false
namespace Go.Proofs.YtmioichjhiengaaGreat
open Go.RowKit

def idxI (l : List Timer) (x : Timer) : Int := if l.findIdx (fun y => x.eqB y) < l.length then (l.findIdx (fun y => x.eqB y) : Nat) else -1
theorem Timer.eqB_no {x y : Timer} (h : y ≠ x) : x.eqB y = false := by
  cases e : x.eqB y
  · rfl
  · exact absurd ((Timer.eqB_iff _ _).1 e).symm h
theorem idxI_at {l : List Timer} {x : Timer} {k : Nat} (hk : k < l.length) (hx : l[k]? = some x) (hall : ∀ i (h1 : i < l.length), i < k → l[i] ≠ x) : idxI l x = k := by
  have h : l.findIdx (fun y => x.eqB y) = k := (List.findIdx_eq hk).2 ⟨by
    rw [List.getElem?_eq_getElem hk] at hx
    rw [Option.some.inj hx, Timer.eqB_iff], fun j hj => Timer.eqB_no (hall j (by omega) hj)⟩
  unfold idxI
  rw [h, if_pos hk]
theorem idxI_no {l : List Timer} {x : Timer} (h : x ∉ l) : idxI l x = -1 := by
  have h : l.findIdx (fun y => x.eqB y) = l.length := List.findIdx_eq_length.2 (fun y hy => Timer.eqB_no (fun e => h (e ▸ hy)))
  unfold idxI
  rw [h, if_neg (Nat.lt_irrefl _)]
theorem idxI_spec (l : List Timer) (x : Timer) : (idxI l x = -1 ∧ x ∉ l) ∨ ∃ k : Nat, idxI l x = k ∧ l[k]? = some x := by
  by_cases h : l.findIdx (fun y => x.eqB y) < l.length
  · right
    refine ⟨_, by unfold idxI; rw [if_pos h], ?_⟩
    have := List.findIdx_getElem (p := fun y => x.eqB y) (xs := l) (w := h)
    rw [List.getElem?_eq_getElem h, ← (Timer.eqB_iff _ _).1 this]
  · left
    refine ⟨by unfold idxI; rw [if_neg h], fun hm => ?_⟩
    have h2 := List.findIdx_lt_length_of_exists (p := fun y => x.eqB y) (xs := l) ⟨x, hm, (Timer.eqB_iff _ _).2 rfl⟩
    exact h h2
set_option maxHeartbeats 1000000 in
theorem slices_index {w : World} {A : Option Addr} {c : Nat} {l : List Timer} (h : TS w A c l) (hlen : l.length ≤ 100000) (x : Timer) :
    Calls Tryz.prog 135 #[.slice A l.length c, .agg x.cells.toArray] w fun e w' => e = .returned (.int .i64 (idxI l x)) ∧ Keep none_ w w' := by
  have hlc := h.2.1
  have hnc := h.2.2.1
  unfold maxLen at hnc
  have hx := At.new w x.cells.toArray 95
  have k0 : Keep none_ w (w.alloc (.cells x.cells.toArray 95)) := (by repeat' (first | assumption | with_reducible exact Keep.refl _ _ | with_reducible refine Keep.alloc ?_ _ | with_reducible refine Keep.drew ?_))
  obtain ⟨xb, hxb⟩ : ∃ b, b = w.heap.size := ⟨_, rfl⟩
  rw [← hxb] at hx
  go_enter Tryz.func135, Tryz.ntmps135
  go_wp2_with fail
  rw [← hxb]
  generalize w.alloc _ = w1 at *
  clear hxb
  go_loopw [5, 8] (fun _ wn wr => ∃ k : Nat, k ≤ l.length ∧ wn = .int .i64 k ∧ Keep none_ w1 wr ∧ ∀ i (h1 : i < l.length), i < k → l[i] ≠ x) (fun _ wn _ => l.length - (intOf wn).toNat)
  case atStart => exact ⟨0, Nat.zero_le _, rfl, Keep.refl _ _, fun i _ h => absurd h (Nat.not_lt_zero _)⟩
  case round =>
    obtain ⟨k, hk, rfl, kk, hall⟩ := hrel
    by_cases hlt : k < l.length
    · obtain ⟨b1, o1, rfl, hb1, -⟩ := h.at_ (by omega)
      have kw := k0.trans kk
      have hcase : ∀ q, x.eqB l[k] = q → (q = true → idxI l x = k) ∧ (q = false → ∀ i (h1 : i < l.length), i < k + 1 → l[i] ≠ x) := fun q hq =>
        ⟨fun hq2 => by
          exact idxI_at hlt (by rw [List.getElem?_eq_getElem hlt, (Timer.eqB_iff _ _).1 (hq.trans hq2)]) hall,
         fun hq2 i h1 h3 => by
          by_cases e : i = k
          · subst e
            intro e2
            rw [(Timer.eqB_iff _ _).2 e2.symm] at hq
            rw [← hq] at hq2; cases hq2
          · exact hall i h1 (by omega)⟩
      have ci := fun w' (k' : Keep none_ wr w') => ((h.keep kw Off.none_).keep k' Off.none_).cellk hlt
      have hne := fun w' => run_eql_Timer x l[k] w'
      generalize l[k] = y at *
      replace hcase := hcase _ rfl
      generalize x.eqB y = q at *
      replace hcase := Lib.hid hcase
      clear hall
      obtain ⟨xk, ⟨xs, xe⟩⟩ := x
      obtain ⟨yk, ⟨ys, ye⟩⟩ := y
      simp only [Timer.cells] at hne ci
      have hx' := Keep.at kk hx (fun e => e)
      obtain ⟨ι, hnn, f, hf0, hfk, hfa⟩ := class_of none_ wr
      have q0 := fun n => ci (f n) (hfk n) 0 (by omega)
      have q1 := fun n => ci (f n) (hfk n) 1 (by omega)
      have q2 := fun n => ci (f n) (hfk n) 2 (by omega)
      have cx : ∀ n i, (f n).cell? ⟨xb, i, none⟩ = _ := fun n => At.cell (Keep.at (hfk n) hx' (fun e => e))
      clear ci
      simp only [Nat.add_zero, List.getElem?_cons_zero, List.getElem?_cons_succ] at q0 q1 q2
      go_wp2_with fail
      refine wp_region_class f (by kernel_rfl) (by kernel_rfl) hf0 ?_
      repeat (go_big_quiet_step (fail))
      refine wpQuiet_nil ?_
      rintro _ ⟨nn, rfl⟩
      replace kk := kk.trans (hfk nn)
      clear q0 q1 q2 cx hne
      cases q
      · go_wp2_with fail
        go_roundw
        case rel => exact ⟨k + 1, by omega, by go_num, kk, hcase.out.2 (by first | rfl | trivial)⟩
        case measure => simp [intOf]; omega
      · go_wp2_with fail
        go_ret
        rw [hcase.out.1 (by first | rfl | trivial)]
        exact ⟨rfl, k0.trans kk⟩
    · go_wp2_with fail
      go_ret
      rw [idxI_no (fun hm => by
        obtain ⟨i, h1, h2⟩ := List.getElem_of_mem hm
        exact hall i h1 (by omega) h2)]
      exact ⟨rfl, k0.trans kk⟩

/-- Timers at p that hold the list l, as a heap. -/
structure TAt (w : World) (p : Nat) (v : Value) (l : List Timer) : Prop where
  box : At w p #[v] 128
  row : QAt w (p + 1) v l
  heap : HeapOK tlt l l.length
  nodup : l.Nodup
section
variable {w w' : World} {p : Nat} {v : Value} {l : List Timer}
theorem TAt.keep {S : Nat → Prop} (h : TAt w p v l) (k : Keep S w w') (hs : ∀ q, tset p v q → ¬ S q) : TAt w' p v l :=
  ⟨Keep.at k h.box (hs p (.inl rfl)), own_keep h.row k (fun g hg => hs g (.inr hg)), h.heap, h.nodup⟩
theorem TAt.none (h : TAt w p v l) (k : Keep none_ w w') : TAt w' p v l := h.keep k (fun _ _ e => e)
theorem TAt.ge (h : TAt w p v l) {q : Nat} (hq : tset p v q) : p ≤ q := by
  rcases hq with rfl | e
  · exact Nat.le_refl _
  · have := (h.row.lt q e).1; omega
theorem TAt.lt (h : TAt w p v l) {q : Nat} (hq : tset p v q) : q < w.heap.size := by
  rcases hq with rfl | e
  · exact h.box.lt
  · exact (h.row.lt q e).2

theorem timers_new (w : World) : Calls Tryz.prog 43 #[] w fun e w' => e = .returned (.pointer (some ⟨w.heap.size, 0, none⟩)) ∧ TAt w' w.heap.size (.slice none 0 0) [] ∧ Keep none_ w w' := by
  go_enter Tryz.func43, Tryz.ntmps43
  go_wp2_with fail
  go_ret
  exact ⟨rfl, ⟨At.new w _ _, World.ownsRow_nil _ _ _ _, fun k h0 hk => absurd hk (Nat.not_lt_zero _), List.nodup_nil⟩, (by repeat' (first | assumption | with_reducible exact Keep.refl _ _ | with_reducible refine Keep.alloc ?_ _ | with_reducible refine Keep.drew ?_))⟩

theorem timers_at (h : TAt w p v l) (hlen : l.length ≤ 100000) (x : Timer) :
    Calls Tryz.prog 115 #[.pointer (some ⟨p, 0, none⟩), .agg x.cells.toArray] w fun e w' => e = .returned (.int .i64 (idxI l x)) ∧ Keep none_ w w' := by
  obtain ⟨A, c, rfl⟩ := own_form h.row
  have hs := fun w' (k : Keep none_ w w') => Sl.of_own (enc := Timer.cells) timer_len3 (by decide) (h.none k).row
  have c0 := fun w' (k : Keep none_ w w') => At.cell (h.none k).box 0
  have hx := At.new w x.cells.toArray 95
  have k0 : Keep none_ w (w.alloc (.cells x.cells.toArray 95)) := (by repeat' (first | assumption | with_reducible exact Keep.refl _ _ | with_reducible refine Keep.alloc ?_ _ | with_reducible refine Keep.drew ?_))
  have cc := Lib.hid (fun w' (k : Keep none_ w w') => slices_index (hs w' k) hlen x)
  clear hs
  obtain ⟨xk, ⟨xs, xe⟩⟩ := x
  simp only [Timer.cells] at *
  go_enter Tryz.func115, Tryz.ntmps115
  go_wp2_with fail
  generalize w.alloc _ = w1 at *
  obtain ⟨ι, hne, f, hf0, hfk, hfa⟩ := class_of none_ w1
  have cx : ∀ n i, (f n).cell? ⟨w.heap.size, i, none⟩ = _ := fun n => At.cell (Keep.at (hfk n) hx (fun e => e))
  have cp := fun n => c0 (f n) (k0.trans (hfk n))
  have cc2 := fun n => cc.out (f n) (k0.trans (hfk n))
  clear c0 cc
  refine wp_region_class f (by kernel_rfl) (by kernel_rfl) hf0 ?_
  repeat (go_big_quiet_step ((go_at_call 135; exact Calls.class_of hfa (cc2 _))))
  refine wpQuiet_nil ?_
  rintro _ ⟨n, rfl⟩
  go_wp2_with fail
  go_ret
  exact ⟨rfl, k0.trans (hfk n)⟩
theorem timers_next_no (h : TAt w p v []) : Calls Tryz.prog 73 #[.pointer (some ⟨p, 0, none⟩)] w fun e w' => e = .returned (.tuple #[.agg #[.string ⟨#[]⟩, .int .i64 0, .int .i64 0], .bool false]) ∧ Keep none_ w w' := by
  obtain ⟨A, c, rfl⟩ := own_form h.row
  have c0 := At.cell h.box 0
  have hb := h.box.lt
  simp only [List.length_nil] at c0
  clear h
  go_enter Tryz.func73, Tryz.ntmps73
  go_wp2_with fail
  exact bodyPost_ret (v := .tuple #[.agg #[.string ⟨#[]⟩, .int .i64 0, .int .i64 0], .bool false]) (by simp [results, Tryz.results73, go_sem]) rfl ⟨rfl, (by repeat' (first | assumption | with_reducible exact Keep.refl _ _ | with_reducible refine Keep.alloc ?_ _ | with_reducible refine Keep.drew ?_))⟩
theorem timers_next (h : TAt w p v l) (x : Timer) (hx : l[0]? = some x) : Calls Tryz.prog 73 #[.pointer (some ⟨p, 0, none⟩)] w fun e w' => e = .returned (.tuple #[.agg x.cells.toArray, .bool true]) ∧ Keep none_ w w' := by
  obtain ⟨h0, hx0⟩ := List.getElem?_eq_some_iff.1 hx
  have hs := own_some h.row h0
  obtain ⟨g, cap, rfl, hbg, hgl, hlc, hnc⟩ := hs
  have hs := Sl.of_own (enc := Timer.cells) timer_len3 (by decide) h.row
  have c0 := At.cell h.box 0
  have hb := h.box.lt
  have hl0 : ((l.length : Int) == 0) = false := beq_eq_false_iff_ne.2 (by omega)
  have ck := hs.cellk (i := 0) h0
  have i0 := ck 0 (by omega)
  have i1 := ck 1 (by omega)
  have i2 := ck 2 (by omega)
  rw [hx0] at i0 i1 i2
  simp only [Timer.cells, Nat.zero_mul, Nat.zero_add, Nat.add_zero, List.getElem?_cons_zero, List.getElem?_cons_succ] at i0 i1 i2
  obtain ⟨xk, ⟨xs, xe⟩⟩ := x
  simp only [Timer.cells] at *
  clear h ck hs hx hx0
  go_enter Tryz.func73, Tryz.ntmps73
  go_wp2_with fail
  exact bodyPost_ret (v := .tuple #[.agg #[.string xk, .int .i64 xs, .int .i64 xe], .bool true]) (by simp [results, Tryz.results73, go_sem]) rfl ⟨rfl, (by repeat' (first | assumption | with_reducible exact Keep.refl _ _ | with_reducible refine Keep.alloc ?_ _ | with_reducible refine Keep.drew ?_))⟩
theorem timers_put_in (h : TAt w p v l) (hlen : l.length ≤ 90000) (x : Timer) (hx : x ∈ l) :
    Calls Tryz.prog 85 #[.pointer (some ⟨p, 0, none⟩), .agg x.cells.toArray] w fun e w' => e = .returned (.bool false) ∧ Keep none_ w w' := by
  have hxa := At.new w x.cells.toArray 95
  have k0 : Keep none_ w (w.alloc (.cells x.cells.toArray 95)) := (by repeat' (first | assumption | with_reducible exact Keep.refl _ _ | with_reducible refine Keep.alloc ?_ _ | with_reducible refine Keep.drew ?_))
  have cc := timers_at (h.none k0) (by omega) x
  rcases idxI_spec l x with ⟨-, h9⟩ | ⟨k, hk, -⟩
  · exact absurd hx h9
  rw [hk] at cc
  replace cc := Lib.hid cc
  clear h hx hk
  obtain ⟨xk, ⟨xs, xe⟩⟩ := x
  simp only [Timer.cells] at *
  have cx := At.cell hxa
  go_enter Tryz.func85, Tryz.ntmps85
  go_wp2_with fail
  refine cc.out.mono ?_
  rintro e w2 ⟨rfl, k2⟩
  have hk0 := Int.natCast_nonneg k
  go_wp2_with fail
  go_ret
  exact ⟨rfl, k0.trans k2⟩
theorem timers_put (h : TAt w p v l) (hlen : l.length ≤ 90000) (x : Timer) (hx : x ∉ l) :
    Calls Tryz.prog 85 #[.pointer (some ⟨p, 0, none⟩), .agg x.cells.toArray] w fun e w' => e = .returned (.bool true) ∧
      ∃ v' l', TAt w' p v' l' ∧ l'.Perm (l ++ [x]) ∧ Keep (tset p v) w w' ∧ SameOwn w v v' := by
  have hxa := At.new w x.cells.toArray 95
  have k0 : Keep none_ w (w.alloc (.cells x.cells.toArray 95)) := (by repeat' (first | assumption | with_reducible exact Keep.refl _ _ | with_reducible refine Keep.alloc ?_ _ | with_reducible refine Keep.drew ?_))
  have cc := timers_at (h.none k0) (by omega) x
  rcases idxI_spec l x with ⟨hk, -⟩ | ⟨k, hk, h9⟩
  rotate_left
  · exact absurd (List.mem_of_getElem? h9) hx
  rw [hk] at cc
  replace cc := Lib.hid cc
  have h1 := h.none k0
  have hb := h1.box.lt
  have hnb : ¬ tset p v w.heap.size := fun e => absurd (h.lt e) (Nat.lt_irrefl _)
  obtain ⟨r1, r2, r3⟩ := push_ok tlt_strict l x h.heap
  have hnd : (l ++ [x]).Nodup := by
    rw [List.nodup_append]
    refine ⟨h.nodup, by simp, ?_⟩
    intro a ha b hb2
    have : b = x := by simpa using hb2
    rintro rfl
    exact hx (this ▸ ha)
  replace hnd := Lib.hid ((r2.nodup_iff).2 hnd)
  replace r1 := Lib.hid r1
  replace r2 := Lib.hid r2
  replace r3 := Lib.hid r3
  have cpush := fun w' (k : Keep none_ _ w') => Lib.hid (heap_push (h1.none k).box (h1.none k).row (by omega) x)
  clear h hx hk
  generalize upL tlt (l.length + 1) (l ++ [x]) l.length = l' at *
  obtain ⟨xk, ⟨xs, xe⟩⟩ := x
  simp only [Timer.cells] at *
  have cx := At.cell hxa
  go_enter Tryz.func85, Tryz.ntmps85
  go_wp2_with fail
  generalize w.alloc _ = w1 at *
  refine cc.out.mono ?_
  rintro e w2 ⟨rfl, k2⟩
  have hx2 := Keep.at k2 hxa (fun e => e)
  have cx2 := At.cell hx2
  have c4 := cpush w2.drew k2.drew
  have hx3 := At.drew hx2
  clear cpush cc cx hxa
  go_wp2_with fail
  go_region_with (go_at_call 116; refine c4.out.mono ?_; rintro e w3 ⟨rfl, v3, hp3, h3, k3, ow3⟩; have cx3 := At.cell (Keep.at k3 hx3 hnb))
  all_goals
    go_wp2_with fail
    go_ret
    refine ⟨rfl, v3, l', ⟨hp3, h3, by rw [r3.out]; exact r1.out, hnd.out⟩, r2.out, Keep.comb ((k0.mono (S' := tset p v) (fun _ _ e => e.elim)).trans (k2.mono (fun _ _ e => e.elim))).drew k3 (fun _ _ e => e), ow3.up (k0.trans k2).size⟩
theorem timers_drop_no (h : TAt w p v l) (hlen : l.length ≤ 90000) (x : Timer) (hx : x ∉ l) :
    Calls Tryz.prog 87 #[.pointer (some ⟨p, 0, none⟩), .agg x.cells.toArray] w fun e w' => e = .returned (.bool false) ∧ Keep none_ w w' := by
  have hxa := At.new w x.cells.toArray 95
  have k0 : Keep none_ w (w.alloc (.cells x.cells.toArray 95)) := (by repeat' (first | assumption | with_reducible exact Keep.refl _ _ | with_reducible refine Keep.alloc ?_ _ | with_reducible refine Keep.drew ?_))
  have cc := timers_at (h.none k0) (by omega) x
  rw [idxI_no hx] at cc
  replace cc := Lib.hid cc
  clear h hx
  obtain ⟨xk, ⟨xs, xe⟩⟩ := x
  simp only [Timer.cells] at *
  have cx := At.cell hxa
  go_enter Tryz.func87, Tryz.ntmps87
  go_wp2_with fail
  refine cc.out.mono ?_
  rintro e w2 ⟨rfl, k2⟩
  go_wp2_with fail
  go_ret
  exact ⟨rfl, k0.trans k2⟩
theorem timers_drop (h : TAt w p v l) (hlen : l.length ≤ 90000) (x : Timer) (hx : x ∈ l) :
    Calls Tryz.prog 87 #[.pointer (some ⟨p, 0, none⟩), .agg x.cells.toArray] w fun e w' => e = .returned (.bool true) ∧
      ∃ v' l', TAt w' p v' l' ∧ l.Perm (x :: l') ∧ Keep (tset p v) w w' ∧ v'.ownBlock = v.ownBlock := by
  have hxa := At.new w x.cells.toArray 95
  have k0 : Keep none_ w (w.alloc (.cells x.cells.toArray 95)) := (by repeat' (first | assumption | with_reducible exact Keep.refl _ _ | with_reducible refine Keep.alloc ?_ _ | with_reducible refine Keep.drew ?_))
  have cc := timers_at (h.none k0) (by omega) x
  rcases idxI_spec l x with ⟨-, h9⟩ | ⟨k, hk, h9⟩
  · exact absurd hx h9
  rw [hk] at cc
  replace cc := Lib.hid cc
  have h1 := h.none k0
  have hb := h1.box.lt
  obtain ⟨hkl, -⟩ := List.getElem?_eq_some_iff.1 h9
  have hrem : ∀ w', Keep none_ (w.alloc (.cells x.cells.toArray 95)) w' → Calls Tryz.prog 122 #[.iface 131 (.pointer (some ⟨p, 0, none⟩)), .int .i64 k] w' fun e w'' => e = .returned (.iface 95 (.agg x.cells.toArray)) ∧
      ∃ v' l', At w'' p #[v'] 128 ∧ QAt w'' (p + 1) v' l' ∧ HeapOK tlt l' l'.length ∧ l.Perm (x :: l') ∧ Keep (tset p v) w' w'' ∧ v'.ownBlock = v.ownBlock := fun w' k' => by
    have h2 := h1.none k'
    obtain ⟨n, hn⟩ : ∃ n, l.length = n + 1 := ⟨l.length - 1, by omega⟩
    by_cases hkn : k = n
    · subst hkn
      exact heap_rem_last h2.box h2.row (by omega) h2.heap k hn x h9
    · exact heap_rem h2.box h2.row (by omega) h2.heap k n hn (by omega) x h9
  replace hrem := Lib.hid hrem
  have hnd : ∀ l', l.Perm (x :: l') → l'.Nodup := fun l' hp => by
    have := (hp.nodup_iff).1 h.nodup
    exact (List.nodup_cons.1 this).2
  replace hnd := Lib.hid hnd
  clear h hx h9 hk h1
  obtain ⟨xk, ⟨xs, xe⟩⟩ := x
  simp only [Timer.cells] at *
  have cx := At.cell hxa
  go_enter Tryz.func87, Tryz.ntmps87
  go_wp2_with fail
  generalize w.alloc _ = w1 at *
  refine cc.out.mono ?_
  rintro e w2 ⟨rfl, k2⟩
  have hk0 := Int.natCast_nonneg k
  go_wp2_with fail
  refine (hrem.out w2 k2).mono ?_
  rintro e w3 ⟨rfl, v3, l3, hp3, h3, hh3, pe3, k3, ow3⟩
  go_wp2_with fail
  go_ret
  exact ⟨rfl, v3, l3, ⟨hp3, h3, hh3, hnd.out _ pe3⟩, pe3, Keep.comb ((k0.mono (S' := tset p v) (fun _ _ e => e.elim)).trans (k2.mono (fun _ _ e => e.elim))) k3 (fun _ _ e => e), ow3⟩
theorem timers_pop_nil (h : TAt w p v []) (late mark : Int) :
    Calls Tryz.prog 44 #[.pointer (some ⟨p, 0, none⟩), .int .i64 late, .int .i64 mark] w fun e w' => e = .returned (.tuple #[.agg #[.string ⟨#[]⟩, .int .i64 0, .int .i64 0], .bool false]) ∧ Keep none_ w w' := by
  have hb := h.box.lt
  have c1 := Lib.hid (fun w' (k : Keep none_ w w') => timers_next_no (h.none k))
  have hz := At.new w #[.string ⟨#[]⟩, .int .i64 0, .int .i64 0] 95
  clear h
  go_enter Tryz.func44, Tryz.ntmps44
  go_wp2_with fail
  refine (c1.out _ (by repeat' (first | assumption | with_reducible exact Keep.refl _ _ | with_reducible refine Keep.alloc ?_ _ | with_reducible refine Keep.drew ?_))).mono ?_
  rintro e w2 ⟨rfl, k2⟩
  have kk := (show Keep none_ w _ from (by repeat' (first | assumption | with_reducible exact Keep.refl _ _ | with_reducible refine Keep.alloc ?_ _ | with_reducible refine Keep.drew ?_))).trans k2
  have hz2 := Keep.at k2 hz (fun e => e)
  have hs2 := k2.size
  have hz3 := At.alloc hz2 (.cells #[.string ⟨#[]⟩, .int .i64 0, .int .i64 0] 95)
  have cz := At.cell hz3
  have fz := At.frozen hz3
  simp only [World.size_alloc] at hs2
  clear c1 k2 hz hz2
  have h9 := At.whole hz3 [.string ⟨#[]⟩, .int .i64 0, .int .i64 0] rfl
  simp only [stores, Nat.zero_add, Nat.reduceAdd] at h9
  have c9 := At.cell h9
  clear hz3
  go_wp2_with fail
  exact bodyPost_ret (v := .tuple #[.agg #[.string ⟨#[]⟩, .int .i64 0, .int .i64 0], .bool false]) (by simp [results, Tryz.results44, go_sem, c9]) rfl ⟨rfl, (Keep.setNew (Keep.setNew (Keep.setNew (kk.alloc _) (Nat.le_refl _) _) (Nat.le_refl _) _) (Nat.le_refl _) _)⟩
theorem timers_pop_no (h : TAt w p v l) (late mark : Int) (x : Timer) (hx : l[0]? = some x) (hok : x.ok) (hl : I64 late) (hm : I64 mark) (ho : x.span.overB late mark = false) :
    Calls Tryz.prog 44 #[.pointer (some ⟨p, 0, none⟩), .int .i64 late, .int .i64 mark] w fun e w' => e = .returned (.tuple #[.agg #[.string ⟨#[]⟩, .int .i64 0, .int .i64 0], .bool false]) ∧ Keep none_ w w' := by
  have hb := h.box.lt
  have c1 := Lib.hid (fun w' (k : Keep none_ w w') => timers_next (h.none k) x hx)
  have c2 := fun w => span_over w x.span late mark hok.2 hl hm
  rw [ho] at c2
  replace c2 := Lib.hid c2
  have hz := At.new w #[.string ⟨#[]⟩, .int .i64 0, .int .i64 0] 95
  clear h hok ho hx
  obtain ⟨xk, ⟨xs, xe⟩⟩ := x
  simp only [Timer.cells, Span.cells] at *
  go_enter Tryz.func44, Tryz.ntmps44
  go_wp2_with fail
  refine (c1.out _ (by repeat' (first | assumption | with_reducible exact Keep.refl _ _ | with_reducible refine Keep.alloc ?_ _ | with_reducible refine Keep.drew ?_))).mono ?_
  rintro e w2 ⟨rfl, k2⟩
  have kk := (show Keep none_ w _ from (by repeat' (first | assumption | with_reducible exact Keep.refl _ _ | with_reducible refine Keep.alloc ?_ _ | with_reducible refine Keep.drew ?_))).trans k2
  have hz2 := Keep.at k2 hz (fun e => e)
  have hs2 := k2.size
  clear c1 k2 hz
  have hy := At.new w2 #[.string xk, .int .i64 xs, .int .i64 xe] 95
  have hz3 := At.alloc hz2 (.cells #[.string xk, .int .i64 xs, .int .i64 xe] 95)
  have cy := At.cell hy
  clear hz2 hy
  go_wp2_with fail
  refine (c2.out _).mono ?_
  rintro e w3 ⟨rfl, k3⟩
  have hz4 := Keep.at k3 hz3 (fun e => e)
  have cz := At.cell hz4
  have fz := At.frozen hz4
  have kk := Keep.trans (Keep.alloc kk _) k3
  have h9 := At.whole hz4 [.string ⟨#[]⟩, .int .i64 0, .int .i64 0] rfl
  simp only [stores, Nat.zero_add, Nat.reduceAdd] at h9
  have c9 := At.cell h9
  clear hz3 hz4 k3
  go_wp2_with fail
  exact bodyPost_ret (v := .tuple #[.agg #[.string ⟨#[]⟩, .int .i64 0, .int .i64 0], .bool false]) (by simp [results, Tryz.results44, go_sem, c9]) rfl ⟨rfl, (Keep.setNew (Keep.setNew (Keep.setNew kk (Nat.le_refl _) _) (Nat.le_refl _) _) (Nat.le_refl _) _)⟩
theorem timers_pop (h : TAt w p v l) (hlen : l.length ≤ 90000) (late mark : Int) (x : Timer) (hx : l[0]? = some x) (hok : x.ok) (hl : I64 late) (hm : I64 mark) (ho : x.span.overB late mark = true) :
    Calls Tryz.prog 44 #[.pointer (some ⟨p, 0, none⟩), .int .i64 late, .int .i64 mark] w fun e w' => e = .returned (.tuple #[.agg x.cells.toArray, .bool true]) ∧
      ∃ v' l', TAt w' p v' l' ∧ l.Perm (x :: l') ∧ Keep (tset p v) w w' ∧ v'.ownBlock = v.ownBlock := by
  have hb := h.box.lt
  have hnb : ∀ q, w.heap.size ≤ q → ¬ tset p v q := fun q hq e => by have := h.lt e; omega
  have c1 := Lib.hid (fun w' (k : Keep none_ w w') => timers_next (h.none k) x hx)
  have c3 := Lib.hid (fun w' (k : Keep none_ w w') => heap_pop (h.none k).box (h.none k).row (by omega) h.heap x hx)
  have hnd : ∀ l', l.Perm (x :: l') → l'.Nodup := fun l' hp => by
    have := (hp.nodup_iff).1 h.nodup
    exact (List.nodup_cons.1 this).2
  replace hnd := Lib.hid hnd
  have c2 := fun w => span_over w x.span late mark hok.2 hl hm
  rw [ho] at c2
  replace c2 := Lib.hid c2
  have hz := At.new w #[.string ⟨#[]⟩, .int .i64 0, .int .i64 0] 95
  clear h hok ho hx
  obtain ⟨xk, ⟨xs, xe⟩⟩ := x
  simp only [Timer.cells, Span.cells] at *
  go_enter Tryz.func44, Tryz.ntmps44
  go_wp2_with fail
  refine (c1.out _ (by repeat' (first | assumption | with_reducible exact Keep.refl _ _ | with_reducible refine Keep.alloc ?_ _ | with_reducible refine Keep.drew ?_))).mono ?_
  rintro e w2 ⟨rfl, k2⟩
  have kk := (show Keep none_ w _ from (by repeat' (first | assumption | with_reducible exact Keep.refl _ _ | with_reducible refine Keep.alloc ?_ _ | with_reducible refine Keep.drew ?_))).trans k2
  have hz2 := Keep.at k2 hz (fun e => e)
  have hs2 := k2.size
  simp only [World.size_alloc] at hs2
  clear c1 k2 hz
  have hy := At.new w2 #[.string xk, .int .i64 xs, .int .i64 xe] 95
  have hz3 := At.alloc hz2 (.cells #[.string xk, .int .i64 xs, .int .i64 xe] 95)
  have cy := At.cell hy
  clear hz2
  go_wp2_with fail
  refine (c2.out _).mono ?_
  rintro e w3 ⟨rfl, k3⟩
  have hz4 := Keep.at k3 hz3 (fun e => e)
  have hy4 := Keep.at k3 hy (fun e => e)
  have kk := Keep.trans (Keep.alloc kk _) k3
  clear hz3 k3 hy cy c2
  go_wp2_with fail
  refine (c3.out _ kk).mono ?_
  rintro e w4 ⟨rfl, v4, l4, hp4, h4, hh4, pe4, k4, ow4⟩
  have hz5 := Keep.at k4 hz4 (hnb _ (Nat.le_refl _))
  have hy5 := Keep.at k4 hy4 (hnb _ (by omega))
  have cy := At.cell hy5
  have cz := At.cell hz5
  have fz := At.frozen hz5
  have kk := Keep.comb (S := tset p v) (kk.mono (fun _ _ e => e.elim)) k4 (fun _ _ e => e)
  have h9 := At.whole hz5 [.string xk, .int .i64 xs, .int .i64 xe] rfl
  simp only [stores, Nat.zero_add, Nat.reduceAdd] at h9
  have c9 := At.cell h9
  clear c3 k4 hz4 hy4
  go_wp2_with fail
  have tt : TAt w4 p v4 l4 := ⟨hp4, h4, hh4, hnd.out _ pe4⟩
  have ks : ∀ u0 u1 u2, Keep (one w.heap.size) w4 (((w4.setCell ⟨w.heap.size, 0, none⟩ u0).setCell ⟨w.heap.size, 1, none⟩ u1).setCell ⟨w.heap.size, 2, none⟩ u2) := fun u0 u1 u2 => Keep.set1 (Keep.set1 (Keep.set1 (Keep.refl _ _) _) _) _
  exact bodyPost_ret (v := .tuple #[.agg #[.string xk, .int .i64 xs, .int .i64 xe], .bool true]) (by simp [results, Tryz.results44, go_sem, c9]) rfl ⟨rfl, v4, l4, tt.keep (ks _ _ _) (fun q hq e => by
    unfold one at e
    subst e
    refine hnb _ (Nat.le_refl _) ?_
    rcases hq with h9 | h9
    · exact .inl h9
    · exact .inr (ow4 ▸ h9)), pe4, (Keep.setNew (Keep.setNew (Keep.setNew kk (Nat.le_refl _) _) (Nat.le_refl _) _) (Nat.le_refl _) _), ow4⟩
theorem timers_len (h : TAt w p v l) : Calls Tryz.prog 57 #[.pointer (some ⟨p, 0, none⟩)] w fun e w' => e = .returned (.int .i64 l.length) ∧ w = w' := by
  obtain ⟨A, c, rfl⟩ := own_form h.row
  have c0 := At.cell h.box 0
  have hb := h.box.lt
  clear h
  go_enter Tryz.func57, Tryz.ntmps57
  go_wp2_with fail
  go_ret
  exact ⟨rfl, rfl⟩
end
end Go.Proofs.YtmioichjhiengaaGreat
