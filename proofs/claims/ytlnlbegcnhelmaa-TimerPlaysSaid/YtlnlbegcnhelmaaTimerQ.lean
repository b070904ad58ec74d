/-
  The queue of timers: Len, Less, Swap.
-/
import Derived.Test.YtlnlbegcnhelmaaTimer
import Derived.Test.YtlnlbegcnhelmaaArg
import Derived.Test.YtlnlbegcnhelmaaFlat
import Derived.Test.YtlnlbegcnhelmaaOwnSet
import Derived.Handy
namespace Go.Proofs.Ytlnlbegcnhelmaa
open Go.RowKit

abbrev TS (w : World) (A : Option Addr) (c : Nat) (l : List Timer) : Prop := Sl Timer.cells 3 w A l.length c l

theorem queue_len (w : World) (A : Option Addr) (n c : Nat) : Calls Try.prog 125 #[.slice A n c] w fun e w' => e = .returned (.int .i64 n) ∧ w = w' := by
  go_enter Try.func125, Try.ntmps125
  go_wp2_with fail
  go_ret
  exact ⟨rfl, rfl⟩

theorem queue_less {w : World} {A : Option Addr} {c : Nat} {l : List Timer} (h : TS w A c l) (i j : Nat) (hi : i < l.length) (hj : j < l.length) :
    Calls Try.prog 126 #[.slice A l.length c, .int .i64 i, .int .i64 j] w fun e w' => e = .returned (.bool (tlt l[i] l[j])) ∧ Keep none_ w w' := by
  obtain ⟨b, off, rfl, hbl, -⟩ := h.at_ (by omega)
  have hlc := h.2.1
  have hnc := h.2.2.1
  unfold maxLen at hnc
  obtain ⟨ι, hne, f, hf0, hfk, hfa⟩ := class_of none_ (w)
  have i0 : ∀ n, (f n).cell? ⟨b, off + i * 3, none⟩ = _ := fun n => (h.keep (hfk n) Off.none_).cellk hi 0 (by omega)
  have i1 : ∀ n, (f n).cell? ⟨b, off + i * 3 + 1, none⟩ = _ := fun n => (h.keep (hfk n) Off.none_).cellk hi 1 (by omega)
  have i2 : ∀ n, (f n).cell? ⟨b, off + i * 3 + 2, none⟩ = _ := fun n => (h.keep (hfk n) Off.none_).cellk hi 2 (by omega)
  have j0 : ∀ n, (f n).cell? ⟨b, off + j * 3, none⟩ = _ := fun n => (h.keep (hfk n) Off.none_).cellk hj 0 (by omega)
  have j1 : ∀ n, (f n).cell? ⟨b, off + j * 3 + 1, none⟩ = _ := fun n => (h.keep (hfk n) Off.none_).cellk hj 1 (by omega)
  have j2 : ∀ n, (f n).cell? ⟨b, off + j * 3 + 2, none⟩ = _ := fun n => (h.keep (hfk n) Off.none_).cellk hj 2 (by omega)
  clear h
  simp only [Timer.cells] at i0 i1 i2 j0 j1 j2
  have cc := Lib.hid (fun w => timer_compare w l[i] l[j])
  unfold tlt
  generalize l[i] = x at *
  generalize l[j] = y at *
  obtain ⟨xk, xs, xe⟩ := x
  obtain ⟨yk, ys, ye⟩ := y
  go_enter Try.func126, Try.ntmps126
  go_wp2_with fail
  refine wp_region_class f (by kernel_rfl) (by kernel_rfl) hf0 ?_
  repeat (go_big_quiet_step ((go_at_call 128; exact Calls.class_of hfa (cc.out _))))
  refine wpQuiet_nil ?_
  rintro _ ⟨n, rfl⟩
  go_wp2_with fail
  go_ret
  exact ⟨rfl, hfk n⟩

/-- The queue's list, in a row of its own. -/
def QAt (w : World) (base : Nat) (v : Value) (l : List Timer) : Prop := w.ownsRow base 101 3 v l.length (flat Timer.cells l)
theorem timer_len3 (x : Timer) : (Timer.cells x).length = 3 := rfl
theorem queue_swap {w : World} {base g cap : Nat} {l : List Timer} (h : QAt w base (.slice (some ⟨g, 0, none⟩) l.length cap) l) (i j : Nat) (hi : i < l.length) (hj : j < l.length) :
    Calls Try.prog 127 #[.slice (some ⟨g, 0, none⟩) l.length cap, .int .i64 i, .int .i64 j] w fun e w' => e = .returned (.tuple #[]) ∧ QAt w' base (.slice (some ⟨g, 0, none⟩) l.length cap) (swapL l i j) ∧ Keep (one g) w w' := by
  have hs : TS w (some ⟨g, 0, none⟩) cap l := Sl.of_own (enc := Timer.cells) timer_len3 (by decide) h
  have hlc := hs.2.1
  have hnc := hs.2.2.1
  unfold maxLen at hnc
  have ci := hs.cellk hi
  have cj := hs.cellk hj
  have i0 := ci 0 (by omega)
  have i1 := ci 1 (by omega)
  have i2 := ci 2 (by omega)
  have j0 := cj 0 (by omega)
  have j1 := cj 1 (by omega)
  have j2 := cj 2 (by omega)
  clear ci cj
  simp only [Timer.cells, Nat.zero_add, Nat.add_zero] at i0 i1 i2 j0 j1 j2
  obtain ⟨cur, ha⟩ : ∃ cur, At w g cur 101 := by
    rcases h.2 with ⟨h0, -⟩ | ⟨g', cap', cur, he, hb, hg, -⟩
    · cases h0
    · obtain ⟨rfl, rfl⟩ : g = g' ∧ cap = cap' := by simpa using he
      exact ⟨cur, hg⟩
  have fz := ha.frozen
  have q1 := own_stores timer_len3 (by decide) h i hi l[j]
  have q2 := own_stores timer_len3 (by decide) q1 j (by simpa using hj) l[i]
  have e1 : (l.set i l[j])[j]'(by simpa using hj) = l[j] := by
    by_cases hij : i = j
    · subst hij; simp
    · rw [List.getElem_set_ne hij]
  have s1 : Sl Timer.cells 3 (stores w g (i * 3) l[j].cells) (some ⟨g, 0, none⟩) l.length cap (l.set i l[j]) := Sl.of_own (enc := Timer.cells) timer_len3 (by decide) q1
  have ck := s1.cellk (i := j) (by simpa using hj)
  rw [e1] at ck
  have k0 := ck 0 (by omega)
  have k1 := ck 1 (by omega)
  have k2 := ck 2 (by omega)
  have f2 := (At.setL (w := w) l[j].cells (o := i * 3) ha).frozen
  have kk := Keep.setL (S := one g) (fun _ => rfl) l[i].cells (o := j * 3) (Keep.setL (S := one g) (fun _ => rfl) l[j].cells (o := i * 3) (Keep.refl (one g) w))
  have hsw : swapL l i j = (l.set i l[j]).set j l[i] := by
    unfold swapL
    simp only [List.getElem?_eq_getElem hi, List.getElem?_eq_getElem hj]
  rw [hsw]
  clear q1 hs s1 ck e1 hsw ha h
  simp only [Timer.cells, stores, Nat.zero_add, Nat.add_zero, Nat.add_assoc, Nat.reduceAdd, List.getElem?_cons_zero, List.getElem?_cons_succ] at i0 i1 i2 j0 j1 j2 k0 k1 k2 q2 f2 kk
  go_enter Try.func127, Try.ntmps127
  go_region
  refine bodyPost_end (v := .tuple #[]) ?_ ?_ ?_
  · simp [results, Try.results127, go_sem]
  · rfl
  · refine ⟨rfl, ?_, ?_⟩
    · unfold QAt
      simp only [List.length_set]
      exact own_drew q2
    · exact Keep.drew kk
end Go.Proofs.Ytlnlbegcnhelmaa
