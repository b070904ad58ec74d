/-
  The walk of the law HistOrder.
-/
import Derived.Test.YtlnlbegcnhelmaaHistUp
namespace Go.Proofs.Ytlnlbegcnhelmaa
open Go.RowKit

theorem FineE.ev {l : List Event} (h : FineE l) : ∀ e ∈ l, 0 ≤ e.point ∧ (e.point ≠ 0 → e.begin_ ≤ e.point) ∧ (0 < e.end_ → e.point ≤ e.end_) := by
  induction h with
  | nil => intro e he; cases he
  | snoc l x h1 h2 ih =>
    intro e he
    rcases List.mem_append.1 he with he | he
    · exact ih e he
    · obtain rfl : e = x := by simpa using he
      obtain ⟨a1, a2, a3, -⟩ := h2
      exact ⟨by omega, fun h => by omega, fun h => by omega⟩
theorem idxs_mem {l : List Event} {x : Int} (hx : x ∈ idxs l l.length) : ∃ (i : Nat) (hi : i < l.length), x = i ∧ l[i].point ≠ 0 := by
  unfold idxs at hx
  rw [List.mem_map] at hx
  obtain ⟨i, hi, rfl⟩ := hx
  obtain ⟨h1, h2⟩ := List.mem_filter.1 hi
  have h3 := List.mem_range.1 h1
  exact ⟨i, h3, rfl, by simpa [ptOf, List.getElem?_eq_getElem h3] using h2⟩
theorem order_apart {l : List Event} (hF : FineE l) {S : List Int} (pS : S.Perm (idxs l l.length)) (sS : SortedC (cfE l) S) {j i : Nat} (hji : j < i) (hi : i < S.length) {ix jx : Nat} (hix : ix < l.length) (hjx : jx < l.length) (ei : S[i] = (ix : Int)) (ej : S[j] = (jx : Int)) :
    ((jx : Int) == (ix : Int)) = false ∧ l[ix].ahead l[jx] = false := by
  have h1 := List.pairwise_iff_getElem.1 sS j i (by omega) hi hji
  rw [ei, ej] at h1
  have hp : l[jx].point ≤ l[ix].point := by
    have e1 : ptOf l (ix : Int) = l[ix].point := by simp [ptOf, List.getElem?_eq_getElem hix]
    have e2 : ptOf l (jx : Int) = l[jx].point := by simp [ptOf, List.getElem?_eq_getElem hjx]
    rcases h1 with h1 | ⟨h1, -⟩
    · rw [ltC_cfE, decide_eq_true_eq] at h1; omega
    · rw [ltC_cfE, decide_eq_false_iff_not] at h1; omega
  have hne : (jx : Int) ≠ (ix : Int) := fun e => by
    rw [e] at h1
    rcases h1 with h1 | ⟨-, h1⟩
    · rw [(weak_cfE l).irr] at h1; cases h1
    · omega
  refine ⟨by simpa using hne, ?_⟩
  have hm : S[j] ∈ idxs l l.length := pS.mem_iff.1 (List.getElem_mem _)
  obtain ⟨k, hk, e3, e4⟩ := idxs_mem hm
  rw [ej] at e3
  obtain rfl : jx = k := by omega
  have f1 := hF.ev l[jx] (List.getElem_mem _)
  have f2 := hF.ev l[ix] (List.getElem_mem _)
  unfold Event.ahead
  rw [decide_eq_false_iff_not]
  intro ⟨h5, h6⟩
  have := f1.2.1 e4
  have := f2.2.2 h5
  omega
theorem Sl.takeE {α : Type} {enc : α → List Value} {k : Nat} {w : World} {A : Option Addr} {n c : Nat} {xs : List α} (h : Sl enc k w A n c xs) (i : Nat) (hi : i ≤ n) : Sl enc k w A i c (xs.take i) := by
  obtain ⟨h1, h2, h3, h4⟩ := h
  refine ⟨by rw [List.length_take, ← h1, Nat.min_eq_left hi], by omega, h3, fun hn => ?_⟩
  obtain ⟨b, off, rfl, hb, hc⟩ := h4 (by omega)
  refine ⟨b, off, rfl, hb, fun j hj l hl => ?_⟩
  rw [List.length_take] at hj
  rw [List.getElem_take]
  exact hc j (by omega) l hl

set_option maxHeartbeats 8000000 in
set_option maxRecDepth 100000 in
theorem law_HistOrder (l : List Event) (v : Value) (W : World) (hv : rSlice 14 rEvent W l [v]) :
    Calls Try.prog 13 #[v] W fun e W' => e = .returned (.bool true) ∧ Below W.heap.size W W' := by
  obtain ⟨A, n, c, rfl, hsl, hok⟩ := sl_of Event.cells Event.ok rEvent_of hv
  clear hv
  obtain rfl := hsl.len
  have hnc := hsl.2.2.1
  have hlc := hsl.2.1
  unfold maxLen at hnc
  go_enter Try.func13, Try.ntmps13
  go_wp2_with fail
  refine (histUp _).mono ?_
  rintro e w1 ⟨rfl, k1⟩
  by_cases h40 : 40 < l.length
  · have hd : decide ((40 : Int) < l.length) = true := by simp; omega
    go_wp2_with fail
    go_ret
    exact ⟨rfl, k1.below (Nat.le_refl _) not_none⟩
  · have hd : decide ((40 : Int) < l.length) = false := by simp; omega
    have c1 := Lib.hid (hist_fine (hsl.keep k1 Off.none_) (by omega) hok)
    go_wp2_with fail
    refine c1.out.mono ?_
    rintro e w2 ⟨b, rfl, hb, k2⟩
    replace k2 := k1.trans k2
    clear c1 k1
    cases b
    · go_wp2_with fail
      go_ret
      exact ⟨rfl, k2.below (Nat.le_refl _) not_none⟩
    · have hF := Lib.hid (hb.1 rfl)
      have c2 := Lib.hid (hist_order (hsl.keep k2 Off.none_) (by omega) (fun x hx => (hok x hx).panes))
      clear hb
      go_wp2_with fail
      refine c2.out.mono ?_
      rintro e w3 ⟨v, S, rfl, own, pS, sS, k3⟩
      replace k3 := k2.trans k3
      have hSl := pS.length_eq
      have hsl3 := hsl.keep k3 Off.none_
      replace pS := Lib.hid pS
      replace sS := Lib.hid sS
      obtain ⟨base, hbase⟩ : ∃ base, base = w2.heap.size := ⟨_, rfl⟩
      rw [← hbase] at own
      clear c2 k2 hbase
      obtain ⟨vA, vc, rfl⟩ := own_form own
      go_wp2_with fail
      go_loopw [5, 6] (fun nv iv wr => ∃ k : Nat, k ≤ l.length ∧ nv = .int .i64 ((idxs l k).length : Nat) ∧ iv = .int .i64 k ∧ w3 = wr) (fun _ iv _ => l.length - (intOf iv).toNat)
      case atStart => exact ⟨0, Nat.zero_le _, rfl, rfl, rfl⟩
      case round =>
        obtain ⟨k, hk, rfl, rfl, rfl⟩ := hrel
        by_cases hlt : k < l.length
        · obtain ⟨b, off, rfl, hbl, -⟩ := hsl3.at_ (by omega)
          have e0 : w3.cell? ⟨b, off + k * 14 + 12, none⟩ = some (.int .i64 l[k].point) := hsl3.cellk hlt 12 (by omega)
          have hsu := idxs_succ l k
          rw [show ptOf l (k : Int) = l[k].point by simp [ptOf, List.getElem?_eq_getElem hlt]] at hsu
          have hil := idxs_len l k
          generalize l[k].point = pt at *
          by_cases hp : pt = 0
          · have hpb : (pt != 0) = false := by simp [hp]
            rw [if_pos hp] at hsu
            replace hsu := Lib.hid hsu
            clear hp
            go_wp2_with fail
            go_roundw
            case rel => exact ⟨k + 1, by omega, by rw [hsu.out], by go_num, by first | rfl | trivial⟩
            case measure => simp [intOf]; omega
          · have hpb : (pt != 0) = true := by simp [hp]
            rw [if_neg hp] at hsu
            replace hsu := Lib.hid hsu
            generalize hq : (idxs l k).length = q at *
            replace hq := Lib.hid hq
            clear hp
            go_wp2_with fail
            go_roundw
            case rel => exact ⟨k + 1, by omega, by rw [hsu.out, List.length_append, hq.out]; simp, by go_num, by first | rfl | trivial⟩
            case measure => simp [intOf]; omega
        · obtain rfl : k = l.length := by omega
          rw [← hSl]
          replace hSl := Lib.hid hSl
          have hS40 : S.length ≤ 40 := by rw [hSl.out]; have := idxs_len l l.length; omega
          go_wp2_with fail
          go_loopw [7, 8] (fun iv _ wr => ∃ i : Nat, i ≤ S.length ∧ iv = .int .i64 i ∧ Keep none_ w3 wr) (fun iv _ _ => S.length - (intOf iv).toNat)
          case atStart => exact ⟨0, Nat.zero_le _, rfl, Keep.refl _ _⟩
          case round =>
            obtain ⟨i, hi, rfl, kk⟩ := hrel
            by_cases hil : i < S.length
            · obtain ⟨ix, hix, ei, -⟩ := idxs_mem (pS.out.mem_iff.1 (List.getElem_mem hil))
              obtain ⟨g, cap, hv9, hbg, hgl, hgc, hgm⟩ := own_some own (by omega)
              injection hv9 with e1 e2 e3
              subst e1 e3
              have own' := own_keep own kk (fun _ _ e => e)
              have ci : wr.cell? ⟨g, i, none⟩ = some (.int .i64 (ix : Int)) := by
                have := (show IRow wr base g S.length vc S from own').cell (i := i) (x := (ix : Int)) (by rw [List.getElem?_eq_getElem hil, ei])
                exact this
              have hixl : (ix : Int) < (l.length : Int) := by omega
              have hix0 := Int.natCast_nonneg ix
              have hilI : (i : Int) < (S.length : Int) := by omega
              replace ei := Lib.hid ei
              go_wp2_with fail
              go_loopw [8] (fun jv wr => ∃ j : Nat, j ≤ i ∧ jv = .int .i64 j ∧ Keep none_ w3 wr) (fun jv _ => i - (intOf jv).toNat)
              case atStart => exact ⟨0, Nat.zero_le _, rfl, kk⟩
              case round =>
                clear kk own' ci
                obtain ⟨j, hj, rfl, kk⟩ := hrel
                by_cases hjl : j < i
                · obtain ⟨jx, hjx, ej, -⟩ := idxs_mem (pS.out.mem_iff.1 (List.getElem_mem (show j < S.length by omega)))
                  obtain ⟨hne, hah⟩ := order_apart hF.out pS.out sS.out hjl hil hix hjx ei.out ej
                  have hcA := fun w => hist_ahead w l[ix] l[jx]
                  rw [hah] at hcA
                  obtain ⟨b, off, rfl, hbl, -⟩ := hsl3.at_ (by omega)
                  have ckE := fun w' (k : Keep none_ wr w') => fun i (hi : i < l.length) => (hsl3.keep (kk.trans k) Off.none_).cellk hi
                  have own' := fun w' (k : Keep none_ wr w') => own_keep own (kk.trans k) (fun _ _ e => e)
                  obtain ⟨ι, hnn, f, hf0, hfk, hfa⟩ := class_of none_ wr
                  have ci : ∀ n, (f n).cell? ⟨g, i, none⟩ = some (.int .i64 (ix : Int)) := fun n => (show IRow (f n) base g S.length vc S from own' _ (hfk n)).cell (by rw [List.getElem?_eq_getElem hil, ei.out])
                  have cj : ∀ n, (f n).cell? ⟨g, j, none⟩ = some (.int .i64 (jx : Int)) := fun n => (show IRow (f n) base g S.length vc S from own' _ (hfk n)).cell (by rw [List.getElem?_eq_getElem (show j < S.length by omega), ej])
                  have p0 := fun n => ckE (f n) (hfk n) _ hix 0 (by omega)
                  have p1 := fun n => ckE (f n) (hfk n) _ hix 1 (by omega)
                  have p2 := fun n => ckE (f n) (hfk n) _ hix 2 (by omega)
                  have p3 := fun n => ckE (f n) (hfk n) _ hix 3 (by omega)
                  have p4 := fun n => ckE (f n) (hfk n) _ hix 4 (by omega)
                  have p5 := fun n => ckE (f n) (hfk n) _ hix 5 (by omega)
                  have p6 := fun n => ckE (f n) (hfk n) _ hix 6 (by omega)
                  have p7 := fun n => ckE (f n) (hfk n) _ hix 7 (by omega)
                  have p8 := fun n => ckE (f n) (hfk n) _ hix 8 (by omega)
                  have p9 := fun n => ckE (f n) (hfk n) _ hix 9 (by omega)
                  have pA := fun n => ckE (f n) (hfk n) _ hix 10 (by omega)
                  have pB := fun n => ckE (f n) (hfk n) _ hix 11 (by omega)
                  have pC := fun n => ckE (f n) (hfk n) _ hix 12 (by omega)
                  have pD := fun n => ckE (f n) (hfk n) _ hix 13 (by omega)
                  have q0 := fun n => ckE (f n) (hfk n) _ hjx 0 (by omega)
                  have q1 := fun n => ckE (f n) (hfk n) _ hjx 1 (by omega)
                  have q2 := fun n => ckE (f n) (hfk n) _ hjx 2 (by omega)
                  have q3 := fun n => ckE (f n) (hfk n) _ hjx 3 (by omega)
                  have q4 := fun n => ckE (f n) (hfk n) _ hjx 4 (by omega)
                  have q5 := fun n => ckE (f n) (hfk n) _ hjx 5 (by omega)
                  have q6 := fun n => ckE (f n) (hfk n) _ hjx 6 (by omega)
                  have q7 := fun n => ckE (f n) (hfk n) _ hjx 7 (by omega)
                  have q8 := fun n => ckE (f n) (hfk n) _ hjx 8 (by omega)
                  have q9 := fun n => ckE (f n) (hfk n) _ hjx 9 (by omega)
                  have qA := fun n => ckE (f n) (hfk n) _ hjx 10 (by omega)
                  have qB := fun n => ckE (f n) (hfk n) _ hjx 11 (by omega)
                  have qC := fun n => ckE (f n) (hfk n) _ hjx 12 (by omega)
                  have qD := fun n => ckE (f n) (hfk n) _ hjx 13 (by omega)
                  generalize l[ix] = ex at *
                  generalize l[jx] = ey at *
                  obtain ⟨cl, n, ⟨co, cy, ct, cv, cf, cg, cs⟩, code, pn, bg, pt, en⟩ := ex
                  obtain ⟨cl', n', ⟨co', cy', ct', cv', cf', cg', cs'⟩, code', pn', bg', pt', en'⟩ := ey
                  simp only [Event.cells, Nat.add_zero, List.getElem?_cons_zero, List.getElem?_cons_succ] at p0 p1 p2 p3 p4 p5 p6 p7 p8 p9 pA pB pC pD q0 q1 q2 q3 q4 q5 q6 q7 q8 q9 qA qB qC qD hcA
                  replace hcA := Lib.hid hcA
                  have hjxl : (jx : Int) < (l.length : Int) := by omega
                  have hjx0 := Int.natCast_nonneg jx
                  have hjlI : (j : Int) < (S.length : Int) := by omega
                  clear ckE own' ej hah
                  go_wp2_with fail
                  refine wp_region_class f (by kernel_rfl) (by kernel_rfl) hf0 ?_
                  repeat (go_big_quiet_step ((go_at_call 66; exact Calls.class_of hfa (hcA.out _))))
                  refine wpQuiet_nil ?_
                  rintro _ ⟨nn, rfl⟩
                  replace kk := kk.trans (hfk nn)
                  clear p0 p1 p2 p3 p4 p5 p6 p7 p8 p9 pA pB pC pD q0 q1 q2 q3 q4 q5 q6 q7 q8 q9 qA qB qC qD hcA hf0 hfk hfa ci cj
                  go_wp2_with fail
                  go_roundw
                  case rel => exact ⟨j + 1, by omega, by go_num, kk⟩
                  case measure => simp [intOf]; omega
                · go_wp2_with fail
                  go_roundw
                  case rel => exact ⟨i + 1, by omega, by go_num, kk⟩
                  case measure => simp [intOf]; omega
            · by_cases hl0 : l.length = 0
              · have hl0b : ((l.length : Int) == 0) = true := by simp [hl0]
                go_wp2_with fail
                go_ret
                exact ⟨by simp [hl0], (k3.trans kk).below (Nat.le_refl _) not_none⟩
              · have hl0b : ((l.length : Int) == 0) = false := beq_eq_false_iff_ne.2 (by omega)
                obtain ⟨m, hm⟩ : ∃ m, m = l.length - 1 := ⟨_, rfl⟩
                have em : (l.length : Int) - 1 = (m : Int) := by omega
                have hmc : m ≤ c := by omega
                have hm0 := Int.natCast_nonneg m
                have hmI : (m : Int) ≤ (c : Int) := by omega
                obtain ⟨b, off, rfl, hbl, -⟩ := hsl3.at_ (by omega)
                have htl : (l.take m).length = m := by rw [List.length_take]; omega
                have c4 := hist_fine (l := l.take m) (w := wr) (A := some ⟨b, off, none⟩) (c := c) (by
                  unfold Evs
                  rw [htl]
                  exact (hsl3.keep kk Off.none_).takeE m (by omega)) (by rw [htl]; omega) (fun x hx => hok x (List.mem_of_mem_take hx))
                rw [htl] at c4
                replace c4 := Lib.hid c4
                replace hm := Lib.hid hm
                clear htl
                go_wp2_with fail
                refine c4.out.mono ?_
                rintro e w6 ⟨b6, rfl, hb6, k6⟩
                obtain rfl : b6 = true := hb6.2 (hF.out.take m)
                go_wp2_with fail
                go_ret
                exact ⟨by simp, (k3.trans (kk.trans k6)).below (Nat.le_refl _) not_none⟩
end Go.Proofs.Ytlnlbegcnhelmaa
