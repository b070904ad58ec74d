/-
  The walk of the law TimerRises.
-/
import Derived.Test.YtlnlbegcnhelmaaTimerUp
import Derived.Test.YtlnlbegcnhelmaaSpanRef
import Derived.Test.YtlnlbegcnhelmaaArg
namespace Go.Proofs.Ytlnlbegcnhelmaa
open Go.RowKit

theorem timer_of (w : World) (x : Timer) (cs : List Value) (h : rTimer w x cs) : cs = Timer.cells x ∧ x.ok := h
theorem tlt_end {x y : Timer} (h : tlt y x = false) : x.span.e ≤ y.span.e := by
  rw [tlt_eq] at h
  by_cases e : y.span.e = x.span.e
  · omega
  · rw [if_pos e] at h
    simpa using h
/-- Two timers' rows are apart. -/
def Apart (p : Nat) (v : Value) (q : Nat) (u : Value) : Prop := ∀ z, tset p v z → ¬ tset q u z
theorem Apart.left {w : World} {p q : Nat} {v v' u : Value} {l : List Timer} (h : Apart p v q u) (t : TAt w q u l) (o : SameOwn w v v') : Apart p v' q u := by
  intro z hz hq
  have hlt := t.lt hq
  exact h z (SameOwn.set (p := p) o z hlt hz) hq
theorem Apart.symm {p q : Nat} {v u : Value} (h : Apart p v q u) : Apart q u p v := fun z hz hq => h z hq hz
theorem mem_take_succ {l : List Timer} {k : Nat} (hk : k < l.length) (y : Timer) : y ∈ l.take (k + 1) ↔ y ∈ l.take k ∨ y = l[k] := by
  rw [← List.take_append_getElem hk, List.mem_append, List.mem_singleton]
theorem mem_drop_pred {l : List Timer} {j : Nat} (hj : j < l.length) (y : Timer) : y ∈ l.drop j ↔ y ∈ l.drop (j + 1) ∨ y = l[j] := by
  rw [List.drop_eq_getElem_cons hj, List.mem_cons]
  exact or_comm

set_option maxHeartbeats 4000000 in
set_option maxRecDepth 100000 in
theorem law_TimerRises (l : List Timer) (v : Value) (late mark : Int) (W : World) (hv : rSlice 3 rTimer W l [v]) (hl : I64 late) (hm : I64 mark) :
    Calls Try.prog 10 #[v, .int .i64 late, .int .i64 mark] W fun e W' => e = .returned (.bool true) ∧ Below W.heap.size W W' := by
  obtain ⟨A, n, c, rfl, hsl, hok⟩ := sl_of Timer.cells Timer.ok timer_of hv
  clear hv
  obtain rfl := hsl.len
  have hnc := hsl.2.2.1
  have hlc := hsl.2.1
  unfold maxLen at hnc
  go_enter Try.func10, Try.ntmps10
  go_wp2_with fail
  refine (timerUp _).mono ?_
  rintro e w1 ⟨rfl, k1⟩
  go_wp2_with fail
  refine (timers_new _).mono ?_
  rintro e w2 ⟨rfl, t2, k2⟩
  have hpW := k1.size
  generalize w1.heap.size = p at *
  replace k2 := k1.trans k2
  clear k1
  go_wp2_with fail
  refine (timers_new _).mono ?_
  rintro e w3 ⟨rfl, u3, k3⟩
  have t3 := t2.none k3
  have hqW := k2.size
  have hap : Apart p (.slice none 0 0) w2.heap.size (.slice none 0 0) := fun z hz hq => by
    have := t2.lt hz
    have := u3.ge hq
    omega
  generalize w2.heap.size = q at *
  replace k3 := k2.trans k3
  clear k2 t2
  by_cases h100 : 100 < l.length
  · have h100' : decide ((100 : Int) < l.length) = true := by simp; omega
    go_wp2_with fail
    go_ret
    exact ⟨by simp, k3.below (Nat.le_refl _) not_none⟩
  · have h100' : decide ((100 : Int) < l.length) = false := by simp; omega
    go_wp2_with fail
    go_loopw [10] (fun ii wr => ∃ (k : Nat) (v1 v2 : Value) (l1 l2 : List Timer), ii = .int .i64 k ∧ k ≤ l.length ∧ TAt wr p v1 l1 ∧ TAt wr q v2 l2 ∧ Hid (∀ y, y ∈ l1 ↔ y ∈ l.take k) ∧ Hid (∀ y, y ∈ l2 ↔ y ∈ l.drop (l.length - k)) ∧ l1.length ≤ k ∧ l2.length ≤ k ∧ Keep none_ W wr ∧ Hid (Apart p v1 q v2))
      (fun ii _ => l.length - (intOf ii).toNat)
    case atStart => exact ⟨0, _, _, [], [], rfl, Nat.zero_le _, t3, u3, Lib.hid (by simp), Lib.hid (by simp), Nat.le_refl _, Nat.le_refl _, k3, Lib.hid hap⟩
    case round =>
      clear t3 u3 hap k3
      obtain ⟨k, v1, v2, l1, l2, rfl, hk, t1, t2, hs1, hs2, hn1, hn2, kk, hap⟩ := hrel
      by_cases hlt : k < l.length
      · obtain ⟨b, off, rfl, hbl, -⟩ := hsl.at_ (by omega)
        obtain ⟨j, hj⟩ : ∃ j, j + 1 + k = l.length := ⟨l.length - 1 - k, by omega⟩
        have hjl : j < l.length := by omega
        have ej : (l.length : Int) - 1 - (k : Int) = (j : Int) := by omega
        have m1 := mem_take_succ hlt
        have m2 := mem_drop_pred hjl
        have ck := (hsl.keep kk Off.none_).cellk hlt
        have cj := fun w' (k : Keep none_ W w') => (hsl.keep k Off.none_).cellk hjl
        have c1 := timers_put_any t1 (by omega) l[k]
        have c2 := fun w' (t : TAt w' q v2 l2) => timers_put_any t (by omega) l[j]
        generalize l[k] = x at *
        generalize l[j] = y at *
        obtain ⟨xk, ⟨xs, xe⟩⟩ := x
        obtain ⟨yk, ⟨ys, ye⟩⟩ := y
        have i0 := ck 0 (by omega)
        have i1 := ck 1 (by omega)
        have i2 := ck 2 (by omega)
        simp only [Timer.cells, Nat.add_zero, List.getElem?_cons_zero, List.getElem?_cons_succ] at i0 i1 i2 cj c1 c2
        replace m1 := Lib.hid m1
        replace m2 := Lib.hid m2
        replace cj := Lib.hid cj
        replace c1 := Lib.hid c1
        replace c2 := Lib.hid c2
        replace hj := Lib.hid hj
        have hj0 := Int.natCast_nonneg j
        have hjl' : (j : Int) < (l.length : Int) := by omega
        clear ck
        go_wp2_with fail
        refine c1.out.mono ?_
        rintro e w4 ⟨b1, v1', l1', rfl, t1', hs1', hn1', k4, o4⟩
        have t24 := t2.keep k4 (fun q hq h9 => hap.out q h9 hq)
        have hap4 := Apart.left hap.out t2 o4
        replace kk := Keep.fresh kk k4 (fun q hq h9 => by have := t1.ge h9; omega)
        have j0 := cj.out w4 kk 0 (by omega)
        have j1 := cj.out w4 kk 1 (by omega)
        have j2 := cj.out w4 kk 2 (by omega)
        simp only [Nat.add_zero, List.getElem?_cons_zero, List.getElem?_cons_succ] at j0 j1 j2
        clear cj c1 i0 i1 i2
        go_wp2_with fail
        refine (c2.out _ t24).mono ?_
        rintro e w5 ⟨b2, v2', l2', rfl, t25, hs2', hn2', k5, o5⟩
        have t15 := t1'.keep k5 (fun q hq h9 => hap4 q hq h9)
        have hap5 := (Apart.left hap4.symm t1' o5).symm
        replace kk := Keep.fresh kk k5 (fun q hq h9 => by have := t2.ge h9; omega)
        clear c2 j0 j1 j2
        go_wp2_with fail
        go_roundw
        case rel =>
          refine ⟨k + 1, v1', v2', l1', l2', by go_num, by omega, t15, t25, Lib.hid (fun y => ?_), Lib.hid (fun y => ?_), by omega, by omega, kk, Lib.hid hap5⟩
          · rw [hs1', hs1.out, m1.out]
          · have e1 : l.length - (k + 1) = j := by have := hj.out; omega
            have e2 : l.length - k = j + 1 := by have := hj.out; omega
            rw [hs2', hs2.out, e1, e2, m2.out]
        case measure => simp [intOf]; omega
      · have hkl : k = l.length := by omega
        subst hkl
        have hs : ∀ y, y ∈ l1 ↔ y ∈ l2 := fun y => by rw [hs1.out, hs2.out]; simp
        have pe := (List.perm_ext_iff_of_nodup t1.nodup t2.nodup).2 hs
        have hok1 : ∀ y ∈ l1, y.ok := fun y hy => by
          rw [hs1.out, List.take_length] at hy
          exact hok y hy
        have c1 := Lib.hid (timers_len t1)
        clear hs hs1 hs2 hn2 hk hlt hok
        replace hok1 := Lib.hid hok1
        replace pe := Lib.hid pe
        go_wp2_with fail
        refine c1.out.mono ?_
        rintro e w4 ⟨rfl, rfl⟩
        clear c1
        obtain ⟨had, hhad⟩ : ∃ had, had = l1.length := ⟨_, rfl⟩
        rw [← hhad] at hn1 ⊢
        replace hhad := Lib.hid hhad
        go_wp2_with fail
        go_loopw [12, 13, 14, 15, 16, 17, 18] (fun nn en _ _ _ _ _ wr => ∃ (n : Nat) (e : Int) (v1 v2 : Value) (l1 l2 : List Timer), nn = .int .i64 n ∧ en = .int .i64 e ∧ TAt wr p v1 l1 ∧ TAt wr q v2 l2 ∧ Hid (l1.Perm l2) ∧ Hid (n + l1.length = had) ∧ Hid (∀ y ∈ l1, e ≤ y.span.e) ∧ Hid (∀ y ∈ l1, y.ok) ∧ Keep none_ W wr ∧ Hid (Apart p v1 q v2))
          (fun nn _ _ _ _ _ _ _ => had - (intOf nn).toNat)
        case atStart => exact ⟨0, _, v1, v2, l1, l2, rfl, rfl, t1, t2, pe, Lib.hid (by have := hhad.out; omega), Lib.hid (fun y hy => (hok1.out y hy).2.2.1), hok1, kk, hap⟩
        case round =>
          clear t1 t2 pe hhad hok1 kk hap
          obtain ⟨n, en, v1, v2, l1, l2, rfl, rfl, t1, t2, pe, hn, hen, hok1, kk, hap⟩ := hrel
          have hb0 : (0 : Nat) ≤ n := Nat.zero_le n
          cases hl1 : l1 with
          | nil =>
            subst hl1
            have hl2 : l2 = [] := pe.out.symm.eq_nil
            subst hl2
            have c1 := Lib.hid (timers_pop_nil t1 late mark)
            have c2 := Lib.hid (fun w' (k : Keep none_ wr w') => timers_pop_nil (t2.none k) late mark)
            have c3 := Lib.hid (fun w' (k : Keep none_ wr w') => timers_next_no (t1.none k))
            have c4 := fun w' (k : Keep none_ wr w') => timers_len (t1.none k)
            have hn2 : n = had := by simpa using hn.out
            subst hn2
            simp only [List.length_nil] at c4
            replace c4 := Lib.hid c4
            have hne := fun w => run_neq_Timer ⟨⟨#[]⟩, ⟨0, 0⟩⟩ ⟨⟨#[]⟩, ⟨0, 0⟩⟩ w
            rw [(Timer.eqB_iff _ _).2 rfl] at hne
            simp only [Timer.cells, Bool.not_true] at hne
            go_wp2_with fail
            refine c1.out.mono ?_
            rintro e w5 ⟨rfl, k5⟩
            have y5 := At.new w5 #[.string ⟨#[]⟩, .int .i64 0, .int .i64 0] 101
            go_wp2_with fail
            refine (c2.out _ (by repeat' (first | assumption | with_reducible exact Keep.refl _ _ | with_reducible refine Keep.alloc ?_ _ | with_reducible refine Keep.drew ?_))).mono ?_
            rintro e w6 ⟨rfl, k6⟩
            have kk6 := (show Keep none_ wr _ from (by repeat' (first | assumption | with_reducible exact Keep.refl _ _ | with_reducible refine Keep.alloc ?_ _ | with_reducible refine Keep.drew ?_))).trans k6
            have y6 := At.alloc (Keep.at k6 y5 (fun e => e)) (.cells #[.string ⟨#[]⟩, .int .i64 0, .int .i64 0] 101)
            have z6 := At.new w6 #[.string ⟨#[]⟩, .int .i64 0, .int .i64 0] 101
            have cy := At.cell y6
            have cz := At.cell z6
            clear k5 k6 y5 c1 c2
            go_wp2_with fail
            refine (c3.out _ (by repeat' (first | assumption | with_reducible exact Keep.refl _ _ | with_reducible refine Keep.alloc ?_ _ | with_reducible refine Keep.drew ?_))).mono ?_
            rintro e w7 ⟨rfl, k7⟩
            have kk7 := (show Keep none_ wr _ from (by repeat' (first | assumption | with_reducible exact Keep.refl _ _ | with_reducible refine Keep.alloc ?_ _ | with_reducible refine Keep.drew ?_))).trans k7
            clear k7 kk6 c3 cy cz y6 z6
            go_wp2_with fail
            refine (c4.out _ (by repeat' (first | assumption | with_reducible exact Keep.refl _ _ | with_reducible refine Keep.alloc ?_ _ | with_reducible refine Keep.drew ?_))).mono ?_
            rintro e w8 ⟨rfl, rfl⟩
            go_wp2_with fail
            go_ret
            exact ⟨rfl, (kk.trans (by repeat' (first | assumption | with_reducible exact Keep.refl _ _ | with_reducible refine Keep.alloc ?_ _ | with_reducible refine Keep.drew ?_))).below (Nat.le_refl _) not_none⟩
          | cons x l1' =>
            subst hl1
            have hx1 : (x :: l1')[0]? = some x := rfl
            have hx2 : l2[0]? = some x := t2.head pe.out.symm (List.mem_cons_self) (t1.least hx1)
            have hxok : x.ok := hok1.out x (List.mem_cons_self)
            have hxe : en ≤ x.span.e := hen.out x (List.mem_cons_self)
            have hlx : (x :: l1').length ≤ 900 := by have := hn.out; omega
            have hl2 : l2.length = (x :: l1').length := pe.out.symm.length_eq
            have hlx2 : l2.length ≤ 900 := by omega
            have hne := fun w => run_neq_Timer x x w
            rw [(Timer.eqB_iff _ _).2 rfl] at hne
            have c0 := fun w => ref_over w x.span late mark hxok.2 hl hm
            cases ho : x.span.overB late mark
            · rw [ho] at c0
              have c1 := timers_pop_no t1 late mark x hx1 hxok hl hm ho
              have c2 := fun w' (k : Keep none_ wr w') => timers_pop_no (t2.none k) late mark x hx2 hxok hl hm ho
              have c3 := fun w' (k : Keep none_ wr w') => timers_next (t1.none k) x hx1
              have c4 := fun w' (k : Keep none_ wr w') => timers_len (t1.none k)
              have hn2 : (had : Int) - (n : Int) = ((x :: l1').length : Nat) := by have := hn.out; omega
              have hnz := fun w => run_neq_Timer ⟨⟨#[]⟩, ⟨0, 0⟩⟩ ⟨⟨#[]⟩, ⟨0, 0⟩⟩ w
              rw [(Timer.eqB_iff _ _).2 rfl] at hnz
              simp only [Timer.cells, Bool.not_true] at hnz
              generalize (x :: l1').length = len at *
              clear hne hx1 hx2 hxok hxe t1 t2 pe hen hok1
              obtain ⟨xk, ⟨xs, xe⟩⟩ := x
              simp only [Timer.cells, Span.cells] at c0 c1 c2 c3
              replace c0 := Lib.hid c0
              replace c1 := Lib.hid c1
              replace c2 := Lib.hid c2
              replace c3 := Lib.hid c3
              replace c4 := Lib.hid c4
              go_wp2_with fail
              refine c1.out.mono ?_
              rintro e w5 ⟨rfl, k5⟩
              have y5 := At.new w5 #[.string ⟨#[]⟩, .int .i64 0, .int .i64 0] 101
              go_wp2_with fail
              refine (c2.out _ (by repeat' (first | assumption | with_reducible exact Keep.refl _ _ | with_reducible refine Keep.alloc ?_ _ | with_reducible refine Keep.drew ?_))).mono ?_
              rintro e w6 ⟨rfl, k6⟩
              have kk6 := (show Keep none_ wr _ from (by repeat' (first | assumption | with_reducible exact Keep.refl _ _ | with_reducible refine Keep.alloc ?_ _ | with_reducible refine Keep.drew ?_))).trans k6
              have y6 := At.alloc (Keep.at k6 y5 (fun e => e)) (.cells #[.string ⟨#[]⟩, .int .i64 0, .int .i64 0] 101)
              have z6 := At.new w6 #[.string ⟨#[]⟩, .int .i64 0, .int .i64 0] 101
              have cy := At.cell y6
              have cz := At.cell z6
              clear k5 k6 y5 c1 c2
              go_wp2_with fail
              refine (c3.out _ (by repeat' (first | assumption | with_reducible exact Keep.refl _ _ | with_reducible refine Keep.alloc ?_ _ | with_reducible refine Keep.drew ?_))).mono ?_
              rintro e w7 ⟨rfl, k7⟩
              have kk7 := (show Keep none_ wr _ from (by repeat' (first | assumption | with_reducible exact Keep.refl _ _ | with_reducible refine Keep.alloc ?_ _ | with_reducible refine Keep.drew ?_))).trans k7
              have z7 := At.new w7 #[.string xk, .int .i64 xs, .int .i64 xe] 101
              have cy := At.cell z7
              clear k7 kk6 c3 cz y6 z6 z7
              go_wp2_with fail
              refine (c0.out _).mono ?_
              rintro e w8 ⟨rfl, k8⟩
              have kk8 := (show Keep none_ wr _ from (by repeat' (first | assumption | with_reducible exact Keep.refl _ _ | with_reducible refine Keep.alloc ?_ _ | with_reducible refine Keep.drew ?_))).trans k8
              clear kk7 cy k8 c0
              go_wp2_with fail
              refine (c4.out _ kk8).mono ?_
              rintro e w9 ⟨rfl, rfl⟩
              go_wp2_with fail
              go_ret
              exact ⟨rfl, (kk.trans kk8).below (Nat.le_refl _) not_none⟩
            · rw [ho] at c0
              have c1 := timers_pop t1 hlx late mark x hx1 hxok hl hm ho
              have c2 := fun w' (t : TAt w' q v2 l2) => timers_pop t hlx2 late mark x hx2 hxok hl hm ho
              have hleast := t1.least hx1
              have hnl : ((n : Int) + 1) ≤ (l.length : Int) := by have := hn.out; simp only [List.length_cons] at this; omega
              have hnh : n + 1 + l1'.length = had := by have := hn.out; simp only [List.length_cons] at this; omega
              obtain ⟨x', hx'⟩ : ∃ x', x' = x := ⟨_, rfl⟩
              have hend : ∀ y ∈ l1', x.span.e ≤ y.span.e := fun y hy => tlt_end (hleast y (List.mem_cons_of_mem _ hy))
              have hok2 : ∀ y ∈ l1', y.ok := fun y hy => hok1.out y (List.mem_cons_of_mem _ hy)
              replace hx' := Lib.hid hx'
              replace hend := Lib.hid hend
              replace hok2 := Lib.hid hok2
              replace hnh := Lib.hid hnh
              have hp1 : ∀ l1'', (x :: l1').Perm (x :: l1'') → l1'.Perm l1'' := fun l h => List.Perm.cons_inv h
              have hp2 : ∀ l2'', l2.Perm (x :: l2'') → l1'.Perm l2'' := fun l h => List.Perm.cons_inv (pe.out.trans h)
              replace hp1 := Lib.hid hp1
              replace hp2 := Lib.hid hp2
              have apL := fun v' (o : SameOwn wr v1 v') => Apart.left hap.out t2 o
              replace apL := Lib.hid apL
              have ge1 : ∀ z, tset p v1 z → p ≤ z := fun z h => t1.ge h
              have ge2 : ∀ z, tset q v2 z → q ≤ z := fun z h => t2.ge h
              have t2k := fun w' (k : Keep (tset p v1) wr w') => t2.keep k (fun z hz h9 => hap.out z h9 hz)
              replace ge1 := Lib.hid ge1
              replace ge2 := Lib.hid ge2
              replace t2k := Lib.hid t2k
              clear hx1 hx2 hxok t1 t2 pe hen hok1 hleast hn
              obtain ⟨xk, ⟨xs, xe⟩⟩ := x
              simp only [Timer.cells, Span.cells, Bool.not_true] at c0 c1 c2 hne hxe
              replace c0 := Lib.hid c0
              replace c1 := Lib.hid c1
              replace c2 := Lib.hid c2
              go_wp2_with fail
              refine c1.out.mono ?_
              rintro e w5 ⟨rfl, v1', l1'', t1, p1, k5, o5⟩
              have t2 := t2k.out w5 k5
              have ap5 := apL.out v1' (.inl o5)
              replace kk := Keep.fresh kk k5 (fun z hz h9 => by have := ge1.out z h9; omega)
              clear t2k apL k5 c1
              have a5 : Keep none_ w5 (w5.alloc (.cells #[.string xk, .int .i64 xs, .int .i64 xe] 101)) := (by repeat' (first | assumption | with_reducible exact Keep.refl _ _ | with_reducible refine Keep.alloc ?_ _ | with_reducible refine Keep.drew ?_))
              have y5 := At.new w5 #[.string xk, .int .i64 xs, .int .i64 xe] 101
              have lt1 := t1.lt (.inl rfl)
              have c2' := Lib.hid (c2.out _ (t2.none a5))
              have lt2 : ∀ z, tset q v2 z → z < w5.heap.size := fun z hz => t2.lt hz
              replace lt2 := Lib.hid lt2
              clear c2
              go_wp2_with fail
              refine c2'.out.mono ?_
              rintro e w6 ⟨rfl, v2', l2', t2', p2, k6, o6⟩
              have t1' := (t1.none a5).keep k6 (fun z hz h9 => ap5 z hz h9)
              have ap6 := (Apart.left ap5.symm t1 (w := w5) (.inl o6)).symm
              replace kk := Keep.fresh (kk.trans a5) k6 (fun z hz h9 => by have := ge2.out z h9; omega)
              have y6 := At.alloc (Keep.at k6 y5 (fun h9 => by have := lt2.out _ h9; omega)) (.cells #[.string xk, .int .i64 xs, .int .i64 xe] 101)
              have z6 := At.new w6 #[.string xk, .int .i64 xs, .int .i64 xe] 101
              have cy := At.cell y6
              have cz := At.cell z6
              have t16 := fun w' (k : Keep none_ w6 w') => t1'.none k
              have t26 := fun w' (k : Keep none_ w6 w') => t2'.none k
              replace t16 := Lib.hid t16
              replace t26 := Lib.hid t26
              replace ap6 := Lib.hid ap6
              replace p1 := Lib.hid p1
              replace p2 := Lib.hid p2
              clear k6 c2' t1 t2 t1' t2' a5 y5
              go_wp2_with fail
              refine (c0.out _).mono ?_
              rintro e w7 ⟨rfl, k7⟩
              have kk7 := (show Keep none_ w6 _ from (by repeat' (first | assumption | with_reducible exact Keep.refl _ _ | with_reducible refine Keep.alloc ?_ _ | with_reducible refine Keep.drew ?_))).trans k7
              have y7 := Keep.at k7 y6 (fun e => e)
              have cy := At.cell y7
              clear k7 y6 z6 cz y7 c0
              go_wp2_with fail
              go_roundw
              case rel => exact ⟨n + 1, xe, v1', v2', l1'', l2', by go_num, rfl, t16.out _ kk7, t26.out _ kk7, Lib.hid ((hp1.out _ p1.out).symm.trans (hp2.out _ p2.out)), Lib.hid (by rw [← (hp1.out _ p1.out).length_eq]; exact hnh.out), Lib.hid (fun y hy => hend.out y ((hp1.out _ p1.out).mem_iff.2 hy)), Lib.hid (fun y hy => hok2.out y ((hp1.out _ p1.out).mem_iff.2 hy)), kk.trans kk7, ap6⟩
              case measure => have := hnh.out; simp [intOf]; omega
end Go.Proofs.Ytlnlbegcnhelmaa
