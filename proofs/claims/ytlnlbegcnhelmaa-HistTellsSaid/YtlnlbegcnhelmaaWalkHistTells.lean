/-
  The walk of the law HistTells.
-/
import Derived.Test.YtlnlbegcnhelmaaHistUp
import Derived.Test.YtlnlbegcnhelmaaRefFine
import Derived.Test.YtlnlbegcnhelmaaRefOrder
namespace Go.Proofs.Ytlnlbegcnhelmaa
open Go.RowKit

set_option maxHeartbeats 8000000 in
set_option maxRecDepth 100000 in
theorem law_HistTells (l : List Event) (v : Value) (W : World) (hv : rSlice 14 rEvent W l [v]) :
    Calls Try.prog 12 #[v] W fun e W' => e = .returned (.bool true) ∧ Below W.heap.size W W' := by
  obtain ⟨A, n, c, rfl, hsl, hok⟩ := sl_of Event.cells Event.ok rEvent_of hv
  clear hv
  obtain rfl := hsl.len
  have hnc := hsl.2.2.1
  have hlc := hsl.2.1
  unfold maxLen at hnc
  go_enter Try.func12, Try.ntmps12
  go_wp2_with fail
  refine (histUp _).mono ?_
  rintro e w1 ⟨rfl, k1⟩
  by_cases h40 : 40 < l.length
  · have hd : decide ((40 : Int) < l.length) = true := by simp; omega
    go_wp2_with fail
    go_ret
    exact ⟨rfl, k1.below (Nat.le_refl _) not_none⟩
  · have hd : decide ((40 : Int) < l.length) = false := by simp; omega
    have c1 := Lib.hid (hist_fine (hsl.keep k1 Off.none_) (by omega) hok)
    go_wp2_with fail
    refine c1.out.mono ?_
    rintro e w2 ⟨b, rfl, hb, k2⟩
    replace k2 := k1.trans k2
    clear c1 k1
    have c2 := Lib.hid (ref12_fine (hsl.keep k2 Off.none_) (by omega) hok)
    go_wp2_with fail
    refine c2.out.mono ?_
    rintro e w3 ⟨b', rfl, hb', k3⟩
    replace k3 := k2.trans k3
    obtain rfl : b = b' := by
      cases b <;> cases b'
      · rfl
      · exact absurd (hb.2 (hb'.1 rfl)) (by decide)
      · exact absurd (hb'.2 (hb.1 rfl)) (by decide)
      · rfl
    clear hb hb' c2 k2
    have hbb : (b != b) = false := by cases b <;> rfl
    have c3 := Lib.hid (hist_order (hsl.keep k3 Off.none_) (by omega) (fun x hx => (hok x hx).panes))
    go_wp2_with fail
    refine c3.out.mono ?_
    rintro e w4 ⟨v, S, rfl, own, pS, sS, k4⟩
    replace k4 := k3.trans k4
    have c4 := Lib.hid (ref12_order (hsl.keep k4 Off.none_) (by omega))
    clear c3
    go_wp2_with fail
    refine c4.out.mono ?_
    rintro e w5 ⟨v', S', rfl, own', pS', sS', k5⟩
    obtain rfl : S = S' := sorted_unique (weak_cfE l) sS sS' (pS.trans pS'.symm)
    replace own := own_keep own k5 (fun _ _ e => e)
    replace k5 := k4.trans k5
    have hSl := pS.length_eq
    have hsl5 := hsl.keep k5 Off.none_
    clear pS pS' sS sS' c4 k4 k3
    obtain ⟨base, hbase⟩ : ∃ base, base = w3.heap.size := ⟨_, rfl⟩
    rw [← hbase] at own
    obtain ⟨base', hbase'⟩ : ∃ base, base = w4.heap.size := ⟨_, rfl⟩
    rw [← hbase'] at own'
    clear hbase hbase'
    obtain ⟨vA, vc, rfl⟩ := own_form own
    obtain ⟨vA', vc', rfl⟩ := own_form own'
    have hS40 : S.length ≤ 40 := by rw [hSl]; have := idxs_len l l.length; omega
    clear hSl
    go_wp2_with fail
    go_loopw [6, 7] (fun nv iv wr => ∃ k m : Nat, m ≤ k ∧ k ≤ l.length ∧ nv = .int .i64 m ∧ iv = .int .i64 k ∧ w5 = wr) (fun _ iv _ => l.length - (intOf iv).toNat)
    case atStart => exact ⟨0, 0, Nat.zero_le _, Nat.zero_le _, rfl, rfl, rfl⟩
    case round =>
      obtain ⟨k, m, hmk, hk, rfl, rfl, rfl⟩ := hrel
      by_cases hlt : k < l.length
      · obtain ⟨b, off, rfl, hbl, -⟩ := hsl5.at_ (by omega)
        have e0 : w5.cell? ⟨b, off + k * 14 + 12, none⟩ = some (.int .i64 l[k].point) := hsl5.cellk hlt 12 (by omega)
        generalize l[k].point = pt at *
        by_cases hp : pt < 0
        · have hd0 : decide (pt < 0) = true := by simpa using hp
          go_wp2_with fail
          go_roundw
          case rel => exact ⟨k + 1, m + 1, by omega, by omega, by go_num, by go_num, by first | rfl | trivial⟩
          case measure => simp [intOf]; omega
        · have hd0 : decide (pt < 0) = false := by simp; omega
          go_wp2_with fail
          go_roundw
          case rel => exact ⟨k + 1, m, by omega, by omega, rfl, by go_num, by first | rfl | trivial⟩
          case measure => simp [intOf]; omega
      · obtain rfl : k = l.length := by omega
        clear hlt hd
        by_cases hm0 : m = 0
        · have hmb : ((m : Int) == 0) = true := by simp [hm0]
          clear hm0
          go_wp2_with fail
          go_loopw [8] (fun iv wr => ∃ i : Nat, i ≤ S.length ∧ iv = .int .i64 i ∧ Keep none_ w5 wr) (fun iv _ => S.length - (intOf iv).toNat)
          case atStart => exact ⟨0, Nat.zero_le _, rfl, Keep.refl _ _⟩
          case round =>
            obtain ⟨i, hi, rfl, kk⟩ := hrel
            replace own := own_keep own kk (fun _ _ e => e)
            replace own' := own_keep own' kk (fun _ _ e => e)
            by_cases hil : i < S.length
            · obtain ⟨g, cap, hv9, hbg, hgl, hgc, hgm⟩ := own_some own (by omega)
              injection hv9 with e1 e2 e3
              subst e1 e3
              obtain ⟨g', cap', hv9, hbg', hgl', hgc', hgm'⟩ := own_some own' (by omega)
              injection hv9 with e1 e2 e3
              subst e1 e3
              have ci : wr.cell? ⟨g, i, none⟩ = some (.int .i64 S[i]) := (show IRow wr base g S.length vc S from own).cell (by rw [List.getElem?_eq_getElem hil])
              have ci' : wr.cell? ⟨g', i, none⟩ = some (.int .i64 S[i]) := (show IRow wr base' g' S.length vc' S from own').cell (by rw [List.getElem?_eq_getElem hil])
              generalize S[i] = x at *
              have hxx : (x != x) = false := by simp
              go_wp2_with fail
              go_quiet (fail)
              go_wp2_with fail
              go_roundw
              case rel => exact ⟨i + 1, by omega, by go_num, kk.trans (keep_drewN _ _)⟩
              case measure => simp [intOf]; omega
            · obtain rfl : i = S.length := by omega
              have hslR := hsl5.keep kk Off.none_
              have kR := k5.trans kk
              clear hsl5 k5 kk own own'
              generalize wr = wR at *
              go_wp2_with fail
              go_loopw [9, 10] (fun iv _ wr => ∃ i : Nat, i ≤ l.length ∧ iv = .int .i64 i ∧ Keep none_ wR wr) (fun iv _ _ => l.length - (intOf iv).toNat)
              case atStart => exact ⟨0, Nat.zero_le _, rfl, Keep.refl _ _⟩
              case round =>
                obtain ⟨i, hi, rfl, kk⟩ := hrel
                by_cases hil : i < l.length
                · go_wp2_with fail
                  go_loopw [10] (fun jv wr => ∃ k : Nat, k ≤ l.length ∧ jv = .int .i64 k ∧ Keep none_ wR wr) (fun jv _ => l.length - (intOf jv).toNat)
                  case atStart => exact ⟨0, Nat.zero_le _, rfl, kk⟩
                  case round =>
                    clear kk
                    obtain ⟨k, hk, rfl, kk⟩ := hrel
                    by_cases hkl : k < l.length
                    · by_cases he : 0 < l[i].end_
                      · by_cases hb : l[i].end_ < l[k].begin_
                        · have hd1 : decide ((0 : Int) < l[i].end_) = true := by simpa using he
                          have hd2 : decide (l[i].end_ < l[k].begin_) = true := by simpa using hb
                          have hcA := fun w => hist_ahead w l[i] l[k]
                          rw [show l[i].ahead l[k] = true by simp [Event.ahead]; omega] at hcA
                          obtain ⟨b, off, rfl, hbl, -⟩ := hslR.at_ (by omega)
                          have ckE := fun w' (k9 : Keep none_ wr w') => fun i (hi : i < l.length) => (hslR.keep (kk.trans k9) Off.none_).cellk hi
                          obtain ⟨ι, hnn, f, hf0, hfk, hfa⟩ := class_of none_ wr
                          have p0 := fun n => ckE (f n) (hfk n) _ hil 0 (by omega)
                          have p1 := fun n => ckE (f n) (hfk n) _ hil 1 (by omega)
                          have p2 := fun n => ckE (f n) (hfk n) _ hil 2 (by omega)
                          have p3 := fun n => ckE (f n) (hfk n) _ hil 3 (by omega)
                          have p4 := fun n => ckE (f n) (hfk n) _ hil 4 (by omega)
                          have p5 := fun n => ckE (f n) (hfk n) _ hil 5 (by omega)
                          have p6 := fun n => ckE (f n) (hfk n) _ hil 6 (by omega)
                          have p7 := fun n => ckE (f n) (hfk n) _ hil 7 (by omega)
                          have p8 := fun n => ckE (f n) (hfk n) _ hil 8 (by omega)
                          have p9 := fun n => ckE (f n) (hfk n) _ hil 9 (by omega)
                          have pA := fun n => ckE (f n) (hfk n) _ hil 10 (by omega)
                          have pB := fun n => ckE (f n) (hfk n) _ hil 11 (by omega)
                          have pC := fun n => ckE (f n) (hfk n) _ hil 12 (by omega)
                          have pD := fun n => ckE (f n) (hfk n) _ hil 13 (by omega)
                          have q0 := fun n => ckE (f n) (hfk n) _ hkl 0 (by omega)
                          have q1 := fun n => ckE (f n) (hfk n) _ hkl 1 (by omega)
                          have q2 := fun n => ckE (f n) (hfk n) _ hkl 2 (by omega)
                          have q3 := fun n => ckE (f n) (hfk n) _ hkl 3 (by omega)
                          have q4 := fun n => ckE (f n) (hfk n) _ hkl 4 (by omega)
                          have q5 := fun n => ckE (f n) (hfk n) _ hkl 5 (by omega)
                          have q6 := fun n => ckE (f n) (hfk n) _ hkl 6 (by omega)
                          have q7 := fun n => ckE (f n) (hfk n) _ hkl 7 (by omega)
                          have q8 := fun n => ckE (f n) (hfk n) _ hkl 8 (by omega)
                          have q9 := fun n => ckE (f n) (hfk n) _ hkl 9 (by omega)
                          have qA := fun n => ckE (f n) (hfk n) _ hkl 10 (by omega)
                          have qB := fun n => ckE (f n) (hfk n) _ hkl 11 (by omega)
                          have qC := fun n => ckE (f n) (hfk n) _ hkl 12 (by omega)
                          have qD := fun n => ckE (f n) (hfk n) _ hkl 13 (by omega)
                          generalize l[i] = ex at *
                          generalize l[k] = ey at *
                          obtain ⟨cl, n, ⟨co, cy, ct, cv, cf, cg, cs⟩, code, pn, bg, pt, en⟩ := ex
                          obtain ⟨cl', n', ⟨co', cy', ct', cv', cf', cg', cs'⟩, code', pn', bg', pt', en'⟩ := ey
                          simp only [Event.cells, Nat.add_zero, List.getElem?_cons_zero, List.getElem?_cons_succ] at p0 p1 p2 p3 p4 p5 p6 p7 p8 p9 pA pB pC pD q0 q1 q2 q3 q4 q5 q6 q7 q8 q9 qA qB qC qD hcA
                          replace hcA := Lib.hid hcA
                          clear ckE
                          go_wp2_with fail
                          refine wp_region_class f (by kernel_rfl) (by kernel_rfl) hf0 ?_
                          repeat (go_big_quiet_step ((go_at_call 66; exact Calls.class_of hfa (hcA.out _))))
                          refine wpQuiet_nil ?_
                          rintro _ ⟨nn, rfl⟩
                          replace kk := kk.trans (hfk nn)
                          clear p0 p1 p2 p3 p4 p5 p6 p7 p8 p9 pA pB pC pD q0 q1 q2 q3 q4 q5 q6 q7 q8 q9 qA qB qC qD hcA hf0 hfk hfa
                          go_wp2_with fail
                          go_roundw
                          case rel => exact ⟨k + 1, by omega, by go_num, kk⟩
                          case measure => simp [intOf]; omega
                        · have hd1 : decide ((0 : Int) < l[i].end_) = true := by simpa using he
                          have hd2 : decide (l[i].end_ < l[k].begin_) = false := by simp; omega
                          have hcA := fun w => hist_ahead w l[i] l[k]
                          rw [show l[i].ahead l[k] = false by simp [Event.ahead]; omega] at hcA
                          obtain ⟨b, off, rfl, hbl, -⟩ := hslR.at_ (by omega)
                          have ckE := fun w' (k9 : Keep none_ wr w') => fun i (hi : i < l.length) => (hslR.keep (kk.trans k9) Off.none_).cellk hi
                          obtain ⟨ι, hnn, f, hf0, hfk, hfa⟩ := class_of none_ wr
                          have p0 := fun n => ckE (f n) (hfk n) _ hil 0 (by omega)
                          have p1 := fun n => ckE (f n) (hfk n) _ hil 1 (by omega)
                          have p2 := fun n => ckE (f n) (hfk n) _ hil 2 (by omega)
                          have p3 := fun n => ckE (f n) (hfk n) _ hil 3 (by omega)
                          have p4 := fun n => ckE (f n) (hfk n) _ hil 4 (by omega)
                          have p5 := fun n => ckE (f n) (hfk n) _ hil 5 (by omega)
                          have p6 := fun n => ckE (f n) (hfk n) _ hil 6 (by omega)
                          have p7 := fun n => ckE (f n) (hfk n) _ hil 7 (by omega)
                          have p8 := fun n => ckE (f n) (hfk n) _ hil 8 (by omega)
                          have p9 := fun n => ckE (f n) (hfk n) _ hil 9 (by omega)
                          have pA := fun n => ckE (f n) (hfk n) _ hil 10 (by omega)
                          have pB := fun n => ckE (f n) (hfk n) _ hil 11 (by omega)
                          have pC := fun n => ckE (f n) (hfk n) _ hil 12 (by omega)
                          have pD := fun n => ckE (f n) (hfk n) _ hil 13 (by omega)
                          have q0 := fun n => ckE (f n) (hfk n) _ hkl 0 (by omega)
                          have q1 := fun n => ckE (f n) (hfk n) _ hkl 1 (by omega)
                          have q2 := fun n => ckE (f n) (hfk n) _ hkl 2 (by omega)
                          have q3 := fun n => ckE (f n) (hfk n) _ hkl 3 (by omega)
                          have q4 := fun n => ckE (f n) (hfk n) _ hkl 4 (by omega)
                          have q5 := fun n => ckE (f n) (hfk n) _ hkl 5 (by omega)
                          have q6 := fun n => ckE (f n) (hfk n) _ hkl 6 (by omega)
                          have q7 := fun n => ckE (f n) (hfk n) _ hkl 7 (by omega)
                          have q8 := fun n => ckE (f n) (hfk n) _ hkl 8 (by omega)
                          have q9 := fun n => ckE (f n) (hfk n) _ hkl 9 (by omega)
                          have qA := fun n => ckE (f n) (hfk n) _ hkl 10 (by omega)
                          have qB := fun n => ckE (f n) (hfk n) _ hkl 11 (by omega)
                          have qC := fun n => ckE (f n) (hfk n) _ hkl 12 (by omega)
                          have qD := fun n => ckE (f n) (hfk n) _ hkl 13 (by omega)
                          generalize l[i] = ex at *
                          generalize l[k] = ey at *
                          obtain ⟨cl, n, ⟨co, cy, ct, cv, cf, cg, cs⟩, code, pn, bg, pt, en⟩ := ex
                          obtain ⟨cl', n', ⟨co', cy', ct', cv', cf', cg', cs'⟩, code', pn', bg', pt', en'⟩ := ey
                          simp only [Event.cells, Nat.add_zero, List.getElem?_cons_zero, List.getElem?_cons_succ] at p0 p1 p2 p3 p4 p5 p6 p7 p8 p9 pA pB pC pD q0 q1 q2 q3 q4 q5 q6 q7 q8 q9 qA qB qC qD hcA
                          replace hcA := Lib.hid hcA
                          clear ckE
                          go_wp2_with fail
                          refine wp_region_class f (by kernel_rfl) (by kernel_rfl) hf0 ?_
                          repeat (go_big_quiet_step ((go_at_call 66; exact Calls.class_of hfa (hcA.out _))))
                          refine wpQuiet_nil ?_
                          rintro _ ⟨nn, rfl⟩
                          replace kk := kk.trans (hfk nn)
                          clear p0 p1 p2 p3 p4 p5 p6 p7 p8 p9 pA pB pC pD q0 q1 q2 q3 q4 q5 q6 q7 q8 q9 qA qB qC qD hcA hf0 hfk hfa
                          go_wp2_with fail
                          go_roundw
                          case rel => exact ⟨k + 1, by omega, by go_num, kk⟩
                          case measure => simp [intOf]; omega
                      · have hd1 : decide ((0 : Int) < l[i].end_) = false := by simp; omega
                        have hcA := fun w => hist_ahead w l[i] l[k]
                        rw [show l[i].ahead l[k] = false by simp [Event.ahead]; omega] at hcA
                        obtain ⟨b, off, rfl, hbl, -⟩ := hslR.at_ (by omega)
                        have ckE := fun w' (k9 : Keep none_ wr w') => fun i (hi : i < l.length) => (hslR.keep (kk.trans k9) Off.none_).cellk hi
                        obtain ⟨ι, hnn, f, hf0, hfk, hfa⟩ := class_of none_ wr
                        have p0 := fun n => ckE (f n) (hfk n) _ hil 0 (by omega)
                        have p1 := fun n => ckE (f n) (hfk n) _ hil 1 (by omega)
                        have p2 := fun n => ckE (f n) (hfk n) _ hil 2 (by omega)
                        have p3 := fun n => ckE (f n) (hfk n) _ hil 3 (by omega)
                        have p4 := fun n => ckE (f n) (hfk n) _ hil 4 (by omega)
                        have p5 := fun n => ckE (f n) (hfk n) _ hil 5 (by omega)
                        have p6 := fun n => ckE (f n) (hfk n) _ hil 6 (by omega)
                        have p7 := fun n => ckE (f n) (hfk n) _ hil 7 (by omega)
                        have p8 := fun n => ckE (f n) (hfk n) _ hil 8 (by omega)
                        have p9 := fun n => ckE (f n) (hfk n) _ hil 9 (by omega)
                        have pA := fun n => ckE (f n) (hfk n) _ hil 10 (by omega)
                        have pB := fun n => ckE (f n) (hfk n) _ hil 11 (by omega)
                        have pC := fun n => ckE (f n) (hfk n) _ hil 12 (by omega)
                        have pD := fun n => ckE (f n) (hfk n) _ hil 13 (by omega)
                        have q0 := fun n => ckE (f n) (hfk n) _ hkl 0 (by omega)
                        have q1 := fun n => ckE (f n) (hfk n) _ hkl 1 (by omega)
                        have q2 := fun n => ckE (f n) (hfk n) _ hkl 2 (by omega)
                        have q3 := fun n => ckE (f n) (hfk n) _ hkl 3 (by omega)
                        have q4 := fun n => ckE (f n) (hfk n) _ hkl 4 (by omega)
                        have q5 := fun n => ckE (f n) (hfk n) _ hkl 5 (by omega)
                        have q6 := fun n => ckE (f n) (hfk n) _ hkl 6 (by omega)
                        have q7 := fun n => ckE (f n) (hfk n) _ hkl 7 (by omega)
                        have q8 := fun n => ckE (f n) (hfk n) _ hkl 8 (by omega)
                        have q9 := fun n => ckE (f n) (hfk n) _ hkl 9 (by omega)
                        have qA := fun n => ckE (f n) (hfk n) _ hkl 10 (by omega)
                        have qB := fun n => ckE (f n) (hfk n) _ hkl 11 (by omega)
                        have qC := fun n => ckE (f n) (hfk n) _ hkl 12 (by omega)
                        have qD := fun n => ckE (f n) (hfk n) _ hkl 13 (by omega)
                        generalize l[i] = ex at *
                        generalize l[k] = ey at *
                        obtain ⟨cl, n, ⟨co, cy, ct, cv, cf, cg, cs⟩, code, pn, bg, pt, en⟩ := ex
                        obtain ⟨cl', n', ⟨co', cy', ct', cv', cf', cg', cs'⟩, code', pn', bg', pt', en'⟩ := ey
                        simp only [Event.cells, Nat.add_zero, List.getElem?_cons_zero, List.getElem?_cons_succ] at p0 p1 p2 p3 p4 p5 p6 p7 p8 p9 pA pB pC pD q0 q1 q2 q3 q4 q5 q6 q7 q8 q9 qA qB qC qD hcA
                        replace hcA := Lib.hid hcA
                        clear ckE
                        go_wp2_with fail
                        refine wp_region_class f (by kernel_rfl) (by kernel_rfl) hf0 ?_
                        repeat (go_big_quiet_step ((go_at_call 66; exact Calls.class_of hfa (hcA.out _))))
                        refine wpQuiet_nil ?_
                        rintro _ ⟨nn, rfl⟩
                        replace kk := kk.trans (hfk nn)
                        clear p0 p1 p2 p3 p4 p5 p6 p7 p8 p9 pA pB pC pD q0 q1 q2 q3 q4 q5 q6 q7 q8 q9 qA qB qC qD hcA hf0 hfk hfa
                        go_wp2_with fail
                        go_roundw
                        case rel => exact ⟨k + 1, by omega, by go_num, kk⟩
                        case measure => simp [intOf]; omega
                    · obtain rfl : k = l.length := by omega
                      go_wp2_with fail
                      go_roundw
                      case rel => exact ⟨i + 1, by omega, by go_num, kk⟩
                      case measure => simp [intOf]; omega
                · obtain rfl : i = l.length := by omega
                  go_wp2_with fail
                  go_ret
                  exact ⟨rfl, (kR.trans kk).below (Nat.le_refl _) not_none⟩
        · have hmb : ((m : Int) == 0) = false := beq_eq_false_iff_ne.2 (by omega)
          have hslR := hsl5
          have kR := k5
          clear hsl5 k5 own own'
          generalize w5 = wR at *
          clear hm0
          go_wp2_with fail
          go_loopw [9, 10] (fun iv _ wr => ∃ i : Nat, i ≤ l.length ∧ iv = .int .i64 i ∧ Keep none_ wR wr) (fun iv _ _ => l.length - (intOf iv).toNat)
          case atStart => exact ⟨0, Nat.zero_le _, rfl, Keep.refl _ _⟩
          case round =>
            obtain ⟨i, hi, rfl, kk⟩ := hrel
            by_cases hil : i < l.length
            · go_wp2_with fail
              go_loopw [10] (fun jv wr => ∃ k : Nat, k ≤ l.length ∧ jv = .int .i64 k ∧ Keep none_ wR wr) (fun jv _ => l.length - (intOf jv).toNat)
              case atStart => exact ⟨0, Nat.zero_le _, rfl, kk⟩
              case round =>
                clear kk
                obtain ⟨k, hk, rfl, kk⟩ := hrel
                by_cases hkl : k < l.length
                · by_cases he : 0 < l[i].end_
                  · by_cases hb : l[i].end_ < l[k].begin_
                    · have hd1 : decide ((0 : Int) < l[i].end_) = true := by simpa using he
                      have hd2 : decide (l[i].end_ < l[k].begin_) = true := by simpa using hb
                      have hcA := fun w => hist_ahead w l[i] l[k]
                      rw [show l[i].ahead l[k] = true by simp [Event.ahead]; omega] at hcA
                      obtain ⟨b, off, rfl, hbl, -⟩ := hslR.at_ (by omega)
                      have ckE := fun w' (k9 : Keep none_ wr w') => fun i (hi : i < l.length) => (hslR.keep (kk.trans k9) Off.none_).cellk hi
                      obtain ⟨ι, hnn, f, hf0, hfk, hfa⟩ := class_of none_ wr
                      have p0 := fun n => ckE (f n) (hfk n) _ hil 0 (by omega)
                      have p1 := fun n => ckE (f n) (hfk n) _ hil 1 (by omega)
                      have p2 := fun n => ckE (f n) (hfk n) _ hil 2 (by omega)
                      have p3 := fun n => ckE (f n) (hfk n) _ hil 3 (by omega)
                      have p4 := fun n => ckE (f n) (hfk n) _ hil 4 (by omega)
                      have p5 := fun n => ckE (f n) (hfk n) _ hil 5 (by omega)
                      have p6 := fun n => ckE (f n) (hfk n) _ hil 6 (by omega)
                      have p7 := fun n => ckE (f n) (hfk n) _ hil 7 (by omega)
                      have p8 := fun n => ckE (f n) (hfk n) _ hil 8 (by omega)
                      have p9 := fun n => ckE (f n) (hfk n) _ hil 9 (by omega)
                      have pA := fun n => ckE (f n) (hfk n) _ hil 10 (by omega)
                      have pB := fun n => ckE (f n) (hfk n) _ hil 11 (by omega)
                      have pC := fun n => ckE (f n) (hfk n) _ hil 12 (by omega)
                      have pD := fun n => ckE (f n) (hfk n) _ hil 13 (by omega)
                      have q0 := fun n => ckE (f n) (hfk n) _ hkl 0 (by omega)
                      have q1 := fun n => ckE (f n) (hfk n) _ hkl 1 (by omega)
                      have q2 := fun n => ckE (f n) (hfk n) _ hkl 2 (by omega)
                      have q3 := fun n => ckE (f n) (hfk n) _ hkl 3 (by omega)
                      have q4 := fun n => ckE (f n) (hfk n) _ hkl 4 (by omega)
                      have q5 := fun n => ckE (f n) (hfk n) _ hkl 5 (by omega)
                      have q6 := fun n => ckE (f n) (hfk n) _ hkl 6 (by omega)
                      have q7 := fun n => ckE (f n) (hfk n) _ hkl 7 (by omega)
                      have q8 := fun n => ckE (f n) (hfk n) _ hkl 8 (by omega)
                      have q9 := fun n => ckE (f n) (hfk n) _ hkl 9 (by omega)
                      have qA := fun n => ckE (f n) (hfk n) _ hkl 10 (by omega)
                      have qB := fun n => ckE (f n) (hfk n) _ hkl 11 (by omega)
                      have qC := fun n => ckE (f n) (hfk n) _ hkl 12 (by omega)
                      have qD := fun n => ckE (f n) (hfk n) _ hkl 13 (by omega)
                      generalize l[i] = ex at *
                      generalize l[k] = ey at *
                      obtain ⟨cl, n, ⟨co, cy, ct, cv, cf, cg, cs⟩, code, pn, bg, pt, en⟩ := ex
                      obtain ⟨cl', n', ⟨co', cy', ct', cv', cf', cg', cs'⟩, code', pn', bg', pt', en'⟩ := ey
                      simp only [Event.cells, Nat.add_zero, List.getElem?_cons_zero, List.getElem?_cons_succ] at p0 p1 p2 p3 p4 p5 p6 p7 p8 p9 pA pB pC pD q0 q1 q2 q3 q4 q5 q6 q7 q8 q9 qA qB qC qD hcA
                      replace hcA := Lib.hid hcA
                      clear ckE
                      go_wp2_with fail
                      refine wp_region_class f (by kernel_rfl) (by kernel_rfl) hf0 ?_
                      repeat (go_big_quiet_step ((go_at_call 66; exact Calls.class_of hfa (hcA.out _))))
                      refine wpQuiet_nil ?_
                      rintro _ ⟨nn, rfl⟩
                      replace kk := kk.trans (hfk nn)
                      clear p0 p1 p2 p3 p4 p5 p6 p7 p8 p9 pA pB pC pD q0 q1 q2 q3 q4 q5 q6 q7 q8 q9 qA qB qC qD hcA hf0 hfk hfa
                      go_wp2_with fail
                      go_roundw
                      case rel => exact ⟨k + 1, by omega, by go_num, kk⟩
                      case measure => simp [intOf]; omega
                    · have hd1 : decide ((0 : Int) < l[i].end_) = true := by simpa using he
                      have hd2 : decide (l[i].end_ < l[k].begin_) = false := by simp; omega
                      have hcA := fun w => hist_ahead w l[i] l[k]
                      rw [show l[i].ahead l[k] = false by simp [Event.ahead]; omega] at hcA
                      obtain ⟨b, off, rfl, hbl, -⟩ := hslR.at_ (by omega)
                      have ckE := fun w' (k9 : Keep none_ wr w') => fun i (hi : i < l.length) => (hslR.keep (kk.trans k9) Off.none_).cellk hi
                      obtain ⟨ι, hnn, f, hf0, hfk, hfa⟩ := class_of none_ wr
                      have p0 := fun n => ckE (f n) (hfk n) _ hil 0 (by omega)
                      have p1 := fun n => ckE (f n) (hfk n) _ hil 1 (by omega)
                      have p2 := fun n => ckE (f n) (hfk n) _ hil 2 (by omega)
                      have p3 := fun n => ckE (f n) (hfk n) _ hil 3 (by omega)
                      have p4 := fun n => ckE (f n) (hfk n) _ hil 4 (by omega)
                      have p5 := fun n => ckE (f n) (hfk n) _ hil 5 (by omega)
                      have p6 := fun n => ckE (f n) (hfk n) _ hil 6 (by omega)
                      have p7 := fun n => ckE (f n) (hfk n) _ hil 7 (by omega)
                      have p8 := fun n => ckE (f n) (hfk n) _ hil 8 (by omega)
                      have p9 := fun n => ckE (f n) (hfk n) _ hil 9 (by omega)
                      have pA := fun n => ckE (f n) (hfk n) _ hil 10 (by omega)
                      have pB := fun n => ckE (f n) (hfk n) _ hil 11 (by omega)
                      have pC := fun n => ckE (f n) (hfk n) _ hil 12 (by omega)
                      have pD := fun n => ckE (f n) (hfk n) _ hil 13 (by omega)
                      have q0 := fun n => ckE (f n) (hfk n) _ hkl 0 (by omega)
                      have q1 := fun n => ckE (f n) (hfk n) _ hkl 1 (by omega)
                      have q2 := fun n => ckE (f n) (hfk n) _ hkl 2 (by omega)
                      have q3 := fun n => ckE (f n) (hfk n) _ hkl 3 (by omega)
                      have q4 := fun n => ckE (f n) (hfk n) _ hkl 4 (by omega)
                      have q5 := fun n => ckE (f n) (hfk n) _ hkl 5 (by omega)
                      have q6 := fun n => ckE (f n) (hfk n) _ hkl 6 (by omega)
                      have q7 := fun n => ckE (f n) (hfk n) _ hkl 7 (by omega)
                      have q8 := fun n => ckE (f n) (hfk n) _ hkl 8 (by omega)
                      have q9 := fun n => ckE (f n) (hfk n) _ hkl 9 (by omega)
                      have qA := fun n => ckE (f n) (hfk n) _ hkl 10 (by omega)
                      have qB := fun n => ckE (f n) (hfk n) _ hkl 11 (by omega)
                      have qC := fun n => ckE (f n) (hfk n) _ hkl 12 (by omega)
                      have qD := fun n => ckE (f n) (hfk n) _ hkl 13 (by omega)
                      generalize l[i] = ex at *
                      generalize l[k] = ey at *
                      obtain ⟨cl, n, ⟨co, cy, ct, cv, cf, cg, cs⟩, code, pn, bg, pt, en⟩ := ex
                      obtain ⟨cl', n', ⟨co', cy', ct', cv', cf', cg', cs'⟩, code', pn', bg', pt', en'⟩ := ey
                      simp only [Event.cells, Nat.add_zero, List.getElem?_cons_zero, List.getElem?_cons_succ] at p0 p1 p2 p3 p4 p5 p6 p7 p8 p9 pA pB pC pD q0 q1 q2 q3 q4 q5 q6 q7 q8 q9 qA qB qC qD hcA
                      replace hcA := Lib.hid hcA
                      clear ckE
                      go_wp2_with fail
                      refine wp_region_class f (by kernel_rfl) (by kernel_rfl) hf0 ?_
                      repeat (go_big_quiet_step ((go_at_call 66; exact Calls.class_of hfa (hcA.out _))))
                      refine wpQuiet_nil ?_
                      rintro _ ⟨nn, rfl⟩
                      replace kk := kk.trans (hfk nn)
                      clear p0 p1 p2 p3 p4 p5 p6 p7 p8 p9 pA pB pC pD q0 q1 q2 q3 q4 q5 q6 q7 q8 q9 qA qB qC qD hcA hf0 hfk hfa
                      go_wp2_with fail
                      go_roundw
                      case rel => exact ⟨k + 1, by omega, by go_num, kk⟩
                      case measure => simp [intOf]; omega
                  · have hd1 : decide ((0 : Int) < l[i].end_) = false := by simp; omega
                    have hcA := fun w => hist_ahead w l[i] l[k]
                    rw [show l[i].ahead l[k] = false by simp [Event.ahead]; omega] at hcA
                    obtain ⟨b, off, rfl, hbl, -⟩ := hslR.at_ (by omega)
                    have ckE := fun w' (k9 : Keep none_ wr w') => fun i (hi : i < l.length) => (hslR.keep (kk.trans k9) Off.none_).cellk hi
                    obtain ⟨ι, hnn, f, hf0, hfk, hfa⟩ := class_of none_ wr
                    have p0 := fun n => ckE (f n) (hfk n) _ hil 0 (by omega)
                    have p1 := fun n => ckE (f n) (hfk n) _ hil 1 (by omega)
                    have p2 := fun n => ckE (f n) (hfk n) _ hil 2 (by omega)
                    have p3 := fun n => ckE (f n) (hfk n) _ hil 3 (by omega)
                    have p4 := fun n => ckE (f n) (hfk n) _ hil 4 (by omega)
                    have p5 := fun n => ckE (f n) (hfk n) _ hil 5 (by omega)
                    have p6 := fun n => ckE (f n) (hfk n) _ hil 6 (by omega)
                    have p7 := fun n => ckE (f n) (hfk n) _ hil 7 (by omega)
                    have p8 := fun n => ckE (f n) (hfk n) _ hil 8 (by omega)
                    have p9 := fun n => ckE (f n) (hfk n) _ hil 9 (by omega)
                    have pA := fun n => ckE (f n) (hfk n) _ hil 10 (by omega)
                    have pB := fun n => ckE (f n) (hfk n) _ hil 11 (by omega)
                    have pC := fun n => ckE (f n) (hfk n) _ hil 12 (by omega)
                    have pD := fun n => ckE (f n) (hfk n) _ hil 13 (by omega)
                    have q0 := fun n => ckE (f n) (hfk n) _ hkl 0 (by omega)
                    have q1 := fun n => ckE (f n) (hfk n) _ hkl 1 (by omega)
                    have q2 := fun n => ckE (f n) (hfk n) _ hkl 2 (by omega)
                    have q3 := fun n => ckE (f n) (hfk n) _ hkl 3 (by omega)
                    have q4 := fun n => ckE (f n) (hfk n) _ hkl 4 (by omega)
                    have q5 := fun n => ckE (f n) (hfk n) _ hkl 5 (by omega)
                    have q6 := fun n => ckE (f n) (hfk n) _ hkl 6 (by omega)
                    have q7 := fun n => ckE (f n) (hfk n) _ hkl 7 (by omega)
                    have q8 := fun n => ckE (f n) (hfk n) _ hkl 8 (by omega)
                    have q9 := fun n => ckE (f n) (hfk n) _ hkl 9 (by omega)
                    have qA := fun n => ckE (f n) (hfk n) _ hkl 10 (by omega)
                    have qB := fun n => ckE (f n) (hfk n) _ hkl 11 (by omega)
                    have qC := fun n => ckE (f n) (hfk n) _ hkl 12 (by omega)
                    have qD := fun n => ckE (f n) (hfk n) _ hkl 13 (by omega)
                    generalize l[i] = ex at *
                    generalize l[k] = ey at *
                    obtain ⟨cl, n, ⟨co, cy, ct, cv, cf, cg, cs⟩, code, pn, bg, pt, en⟩ := ex
                    obtain ⟨cl', n', ⟨co', cy', ct', cv', cf', cg', cs'⟩, code', pn', bg', pt', en'⟩ := ey
                    simp only [Event.cells, Nat.add_zero, List.getElem?_cons_zero, List.getElem?_cons_succ] at p0 p1 p2 p3 p4 p5 p6 p7 p8 p9 pA pB pC pD q0 q1 q2 q3 q4 q5 q6 q7 q8 q9 qA qB qC qD hcA
                    replace hcA := Lib.hid hcA
                    clear ckE
                    go_wp2_with fail
                    refine wp_region_class f (by kernel_rfl) (by kernel_rfl) hf0 ?_
                    repeat (go_big_quiet_step ((go_at_call 66; exact Calls.class_of hfa (hcA.out _))))
                    refine wpQuiet_nil ?_
                    rintro _ ⟨nn, rfl⟩
                    replace kk := kk.trans (hfk nn)
                    clear p0 p1 p2 p3 p4 p5 p6 p7 p8 p9 pA pB pC pD q0 q1 q2 q3 q4 q5 q6 q7 q8 q9 qA qB qC qD hcA hf0 hfk hfa
                    go_wp2_with fail
                    go_roundw
                    case rel => exact ⟨k + 1, by omega, by go_num, kk⟩
                    case measure => simp [intOf]; omega
                · obtain rfl : k = l.length := by omega
                  go_wp2_with fail
                  go_roundw
                  case rel => exact ⟨i + 1, by omega, by go_num, kk⟩
                  case measure => simp [intOf]; omega
            · obtain rfl : i = l.length := by omega
              go_wp2_with fail
              go_ret
              exact ⟨rfl, (kR.trans kk).below (Nat.le_refl _) not_none⟩
end Go.Proofs.Ytlnlbegcnhelmaa
