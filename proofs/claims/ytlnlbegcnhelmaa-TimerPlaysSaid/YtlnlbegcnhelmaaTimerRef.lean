/-
  The reference's order of timers, over panes; the first one of some.
-/
import Derived.Test.YtlnlbegcnhelmaaTimer
import Derived.Test.YtlnlbegcnhelmaaArg
import Derived.Test.YtlnlbegcnhelmaaEq
import Derived.Laws.Cover1
import Derived.Outline
namespace Go.Proofs.Ytlnlbegcnhelmaa
open Go.RowKit

/-- A timer aS a pane. -/
def encP (t : Timer) : List Value := [.string t.key, .int .i64 t.span.s, .int .i64 t.span.e, .int .i64 0, .int .i64 0, .int .i64 0, .int .i64 0]
theorem encP_len (x : Timer) : (encP x).length = 7 := rfl
theorem encP_one (x : Timer) : ∀ u ∈ encP x, u.oneCell' = true := by
  intro u hu
  simp only [encP, List.mem_cons, List.not_mem_nil, or_false] at hu
  rcases hu with rfl | rfl | rfl | rfl | rfl | rfl | rfl <;> rfl

theorem ref_less (w : World) (a b : Timer) : Calls Try.prog 83 #[.agg (encP a).toArray, .agg (encP b).toArray] w fun e w' => e = .returned (.bool (tlt a b)) ∧ Keep none_ w w' := by
  rw [tlt_eq]
  obtain ⟨ak, ⟨aS, ae⟩⟩ := a
  obtain ⟨bk, ⟨bs, be⟩⟩ := b
  simp only [encP]
  unfold ltB
  have hx := At.alloc (At.new w #[.string ak, .int .i64 aS, .int .i64 ae, .int .i64 0, .int .i64 0, .int .i64 0, .int .i64 0] 113) (.cells #[.string bk, .int .i64 bs, .int .i64 be, .int .i64 0, .int .i64 0, .int .i64 0, .int .i64 0] 113)
  have hy : At ((w.alloc (.cells #[.string ak, .int .i64 aS, .int .i64 ae, .int .i64 0, .int .i64 0, .int .i64 0, .int .i64 0] 113)).alloc (.cells #[.string bk, .int .i64 bs, .int .i64 be, .int .i64 0, .int .i64 0, .int .i64 0, .int .i64 0] 113)) (w.heap.size + 1) #[.string bk, .int .i64 bs, .int .i64 be, .int .i64 0, .int .i64 0, .int .i64 0, .int .i64 0] 113 := At.newAt (by simp) _ _
  have cx := At.cell hx
  have cy := At.cell hy
  clear hx hy
  by_cases h1 : ae = be
  · have b1 : (ae != be) = false := by simp [h1]
    rw [if_neg (by simp [h1])]
    by_cases h2 : aS = bs
    · have b2 : (aS != bs) = false := by simp [h2]
      rw [if_neg (by simp [h2])]
      clear h1 h2
      go_enter Try.func83, Try.ntmps83
      go_wp2_with fail
      go_ret
      exact ⟨rfl, (by repeat' (first | assumption | with_reducible exact Keep.refl _ _ | with_reducible refine Keep.alloc ?_ _ | with_reducible refine Keep.drew ?_))⟩
    · have b2 : (aS != bs) = true := by simp [h2]
      rw [if_pos h2]
      clear h1 h2
      go_enter Try.func83, Try.ntmps83
      go_wp2_with fail
      go_ret
      exact ⟨rfl, (by repeat' (first | assumption | with_reducible exact Keep.refl _ _ | with_reducible refine Keep.alloc ?_ _ | with_reducible refine Keep.drew ?_))⟩
  · have b1 : (ae != be) = true := by simp [h1]
    rw [if_pos h1]
    clear h1
    go_enter Try.func83, Try.ntmps83
    go_wp2_with fail
    go_ret
    exact ⟨rfl, (by repeat' (first | assumption | with_reducible exact Keep.refl _ _ | with_reducible refine Keep.alloc ?_ _ | with_reducible refine Keep.drew ?_))⟩

/-- Where the first one is: -1: there is none. -/
def FirstAt (l : List Timer) (r : Int) : Prop := (r = -1 ∧ l = []) ∨ ∃ (k : Nat) (x : Timer), r = k ∧ l[k]? = some x ∧ ∀ y ∈ l, tlt y x = false
set_option maxHeartbeats 1000000 in
theorem law_first {w : World} {A : Option Addr} {c : Nat} {l : List Timer} (h : Sl encP 7 w A l.length c l) (hlen : l.length ≤ 1000) :
    Calls Try.prog 59 #[.slice A l.length c] w fun e w' => ∃ r : Int, e = .returned (.int .i64 r) ∧ Keep none_ w w' ∧ FirstAt l r := by
  have hlc := h.2.1
  have hnc := h.2.2.1
  unfold maxLen at hnc
  go_enter Try.func59, Try.ntmps59
  go_wp2_with fail
  go_loopw [3, 4] (fun bn wn wr => ∃ k : Nat, k ≤ l.length ∧ wn = .int .i64 k ∧ Keep none_ w wr ∧ ((bn = .int .i64 (-1) ∧ k = 0) ∨ ∃ (b : Nat) (hb : b < l.length), bn = .int .i64 b ∧ 0 < k ∧ Hid (∀ i (h1 : i < l.length), i < k → tlt l[i] l[b] = false))) (fun _ wn _ => l.length - (intOf wn).toNat)
  case atStart => exact ⟨0, Nat.zero_le _, rfl, Keep.refl _ _, .inl ⟨rfl, rfl⟩⟩
  case round =>
    obtain ⟨k, hk, rfl, kk, hb⟩ := hrel
    by_cases hlt : k < l.length
    · rcases hb with ⟨rfl, rfl⟩ | ⟨b, hbl, rfl, hk0, hall⟩
      · go_wp2_with fail
        go_roundw
        case rel => exact ⟨1, by omega, by go_num, kk, .inr ⟨0, hlt, by go_num, by omega, Lib.hid (fun i h1 h2 => by
          have : i = 0 := by omega
          subst this
          exact tlt_strict.irr _)⟩⟩
        case measure => simp [intOf]; omega
      · obtain ⟨b1, o1, rfl, hb1, -⟩ := h.at_ (by omega)
        have hb0 := Int.natCast_nonneg b
        have hbl' : (b : Int) < (l.length : Int) := by omega
        have cl := fun w => ref_less w l[k] l[b]
        have hcase : ∀ q, tlt l[k] l[b] = q → (q = true → ∀ i (h1 : i < l.length), i < k + 1 → tlt l[i] l[k] = false) ∧ (q = false → ∀ i (h1 : i < l.length), i < k + 1 → tlt l[i] l[b] = false) := fun q hq =>
          ⟨fun hq2 i h1 h3 => by
            by_cases e : i = k
            · subst e; exact tlt_strict.irr _
            · exact tlt_strict.lt_le (hq.trans hq2) (hall.out i h1 (by omega)),
           fun hq2 i h1 h3 => by
            by_cases e : i = k
            · subst e; exact hq.trans hq2
            · exact hall.out i h1 (by omega)⟩
        have ci := fun w' (k' : Keep none_ wr w') => ((h.keep kk Off.none_).keep k' Off.none_).cellk hlt
        have cj := fun w' (k' : Keep none_ wr w') => ((h.keep kk Off.none_).keep k' Off.none_).cellk hbl
        generalize hxk : l[k] = x at *
        generalize hyb : l[b] = y at *
        replace hxk := Lib.hid hxk
        replace hyb := Lib.hid hyb
        replace hcase := hcase _ rfl
        generalize tlt x y = q at *
        replace hcase := Lib.hid hcase
        replace hall := trivial
        obtain ⟨xk, ⟨xs, xe⟩⟩ := x
        obtain ⟨yk, ⟨ys, ye⟩⟩ := y
        simp only [encP] at cl ci cj
        replace cl := Lib.hid cl
        obtain ⟨ι, hnn, f, hf0, hfk, hfa⟩ := class_of none_ wr
        have q0 := fun n => ci (f n) (hfk n) 0 (by omega)
        have q1 := fun n => ci (f n) (hfk n) 1 (by omega)
        have q2 := fun n => ci (f n) (hfk n) 2 (by omega)
        have q3 := fun n => ci (f n) (hfk n) 3 (by omega)
        have q4 := fun n => ci (f n) (hfk n) 4 (by omega)
        have q5 := fun n => ci (f n) (hfk n) 5 (by omega)
        have q6 := fun n => ci (f n) (hfk n) 6 (by omega)
        have r0 := fun n => cj (f n) (hfk n) 0 (by omega)
        have r1 := fun n => cj (f n) (hfk n) 1 (by omega)
        have r2 := fun n => cj (f n) (hfk n) 2 (by omega)
        have r3 := fun n => cj (f n) (hfk n) 3 (by omega)
        have r4 := fun n => cj (f n) (hfk n) 4 (by omega)
        have r5 := fun n => cj (f n) (hfk n) 5 (by omega)
        have r6 := fun n => cj (f n) (hfk n) 6 (by omega)
        clear ci cj
        simp only [Nat.add_zero, List.getElem?_cons_zero, List.getElem?_cons_succ] at q0 q1 q2 q3 q4 q5 q6 r0 r1 r2 r3 r4 r5 r6
        go_wp2_with fail
        refine wp_region_class f (by kernel_rfl) (by kernel_rfl) hf0 ?_
        repeat (go_big_quiet_step ((go_at_call 83; exact Calls.class_of hfa (cl.out _))))
        refine wpQuiet_nil ?_
        rintro _ ⟨nn, rfl⟩
        replace kk := kk.trans (hfk nn)
        clear q0 q1 q2 q3 q4 q5 q6 r0 r1 r2 r3 r4 r5 r6 cl
        cases q
        · go_wp2_with fail
          go_roundw
          case rel => exact ⟨k + 1, by omega, by go_num, kk, .inr ⟨b, hbl, rfl, by omega, Lib.hid (by rw [hyb.out]; exact hcase.out.2 (by first | rfl | trivial))⟩⟩
          case measure => simp [intOf]; omega
        · go_wp2_with fail
          go_roundw
          case rel => exact ⟨k + 1, by omega, by go_num, kk, .inr ⟨k, hlt, rfl, by omega, Lib.hid (by rw [hxk.out]; exact hcase.out.1 (by first | rfl | trivial))⟩⟩
          case measure => simp [intOf]; omega
    · go_wp2_with fail
      rcases hb with ⟨rfl, rfl⟩ | ⟨b, hbl, rfl, hk0, hall⟩
      · go_ret
        exact ⟨_, rfl, kk, .inl ⟨rfl, List.length_eq_zero_iff.1 (by omega)⟩⟩
      · go_ret
        refine ⟨_, rfl, kk, .inr ⟨b, l[b], rfl, List.getElem?_eq_getElem hbl, fun y hy => ?_⟩⟩
        obtain ⟨i, h1, rfl⟩ := List.getElem_of_mem hy
        exact hall.out i h1 (by omega)
end Go.Proofs.Ytlnlbegcnhelmaa
