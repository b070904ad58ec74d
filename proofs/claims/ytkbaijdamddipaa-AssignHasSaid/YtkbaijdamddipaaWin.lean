/-
  One window from a time on: the code's and the reference's; slices that a call owns, under Keep.
-/
import Derived.Test.YtkbaijdamddipaaNumRef
import Derived.Test.YtkbaijdamddipaaAssign
namespace Go.Proofs.Ytkbaijdamddipaa
open Go.RowKit

def winS (s l : Int) : Span := if -9223372036854775808 ≤ s + l ∧ s + l ≤ 9223372036854775807 then ⟨s, s + l⟩ else ⟨0, 0⟩
def winE (s l t : Int) : Value := if -9223372036854775808 ≤ s + l ∧ s + l ≤ 9223372036854775807 then fitE (s + l + t) else errV 3
def winOk (s l t : Int) : Bool := fitB (s + l) && fitB (s + l + t)

theorem assign_window (w : World) (s l t : Int) (hs : I64 s) (hl : I64 l) (ht : I64 t) : Calls Try.prog 73 #[.int .i64 s, .int .i64 l, .int .i64 t] w fun e w' =>
    e = .returned (.tuple #[.agg (winS s l).cells.toArray, winE s l t]) ∧ Keep none_ w w' := by
  have c1 := fun w => num_add w s l hs hl
  unfold winS winE
  by_cases h : I64 (s + l)
  · have c2 := fun w => num_add w (s + l) t h ht
    rw [(fit_yes h).1, (fit_yes h).2.1] at c1
    unfold I64 at h
    rw [if_pos h, if_pos h]
    replace c1 := Lib.hid c1
    have kk : Keep none_ w w := Keep.refl _ _
    by_cases h2 : I64 (s + l + t)
    · rw [(fit_yes h2).1, (fit_yes h2).2.1] at c2
      rw [(fit_yes h2).2.1]
      replace c2 := Lib.hid c2
      clear hs hl ht h h2
      go_enter Try.func73, Try.ntmps73
      go_wp2_with (first
        | (go_at_call 38; (with_reducible refine (c1.out _).mono ?_); rintro e w' ⟨rfl, rfl⟩)
        | (go_at_call 38; (with_reducible refine (c2.out _).mono ?_); rintro e w' ⟨rfl, rfl⟩))
      exact bodyPost_ret (v := .tuple #[.agg #[.int .i64 s, .int .i64 (s + l)], .nilIface]) (by simp [results, Try.results73, go_sem]) rfl ⟨rfl, (by repeat' (first | exact Keep.refl _ _ | refine Keep.set1 ?_ _ | refine Keep.alloc ?_ _ | refine Keep.drew ?_ | refine Keep.setNew ?_ (by simp) _))⟩
    · rw [(fit_no h2).1, (fit_no h2).2.1] at c2
      rw [(fit_no h2).2.1]
      replace c2 := Lib.hid c2
      clear hs hl ht h h2
      go_enter Try.func73, Try.ntmps73
      go_wp2_with (first
        | (go_at_call 38; (with_reducible refine (c1.out _).mono ?_); rintro e w' ⟨rfl, rfl⟩)
        | (go_at_call 38; (with_reducible refine (c2.out _).mono ?_); rintro e w' ⟨rfl, rfl⟩))
      exact bodyPost_ret (v := .tuple #[.agg #[.int .i64 s, .int .i64 (s + l)], errV 3]) (by simp [results, Try.results73, go_sem]) rfl ⟨rfl, (by repeat' (first | exact Keep.refl _ _ | refine Keep.set1 ?_ _ | refine Keep.alloc ?_ _ | refine Keep.drew ?_ | refine Keep.setNew ?_ (by simp) _))⟩
  · rw [(fit_no h).1, (fit_no h).2.1] at c1
    unfold I64 at h
    rw [if_neg h, if_neg h]
    replace c1 := Lib.hid c1
    clear hs hl ht h
    go_enter Try.func73, Try.ntmps73
    go_wp2_with (first
      | (go_at_call 38; (with_reducible refine (c1.out _).mono ?_); rintro e w' ⟨rfl, rfl⟩))
    exact bodyPost_ret (v := .tuple #[.agg #[.int .i64 0, .int .i64 0], errV 3]) (by simp [results, Try.results73, go_sem]) rfl ⟨rfl, (by repeat' (first | exact Keep.refl _ _ | refine Keep.set1 ?_ _ | refine Keep.alloc ?_ _ | refine Keep.drew ?_ | refine Keep.setNew ?_ (by simp) _))⟩

theorem ref_window (w : World) (s l t : Int) (hs : I64 s) (hl : I64 l) (ht : I64 t) : Calls Try.prog 78 #[.int .i64 s, .int .i64 l, .int .i64 t] w fun e w' =>
    e = .returned (.tuple #[.agg (winS s l).cells.toArray, .bool (winOk s l t)]) ∧ Keep none_ w w' := by
  have c1 := fun w => ref_add w s l hs hl
  unfold winS winOk
  have hx := At.new w #[.int .i64 0, .int .i64 0] 62
  have kk : Keep none_ w (w.alloc (.cells #[.int .i64 0, .int .i64 0] 62)) := (by repeat' (first | exact Keep.refl _ _ | refine Keep.set1 ?_ _ | refine Keep.alloc ?_ _ | refine Keep.drew ?_ | refine Keep.setNew ?_ (by simp) _))
  by_cases h : I64 (s + l)
  · have c2 := fun w => ref_add w (s + l) t h ht
    rw [(fit_yes h).1, (fit_yes h).2.2] at c1
    rw [(fit_yes h).2.2]
    unfold I64 at h
    rw [if_pos h]
    replace c1 := Lib.hid c1
    generalize fitB (s + l + t) = b at *
    generalize fitN (s + l + t) = z at *
    replace c2 := Lib.hid c2
    clear hs hl ht h
    go_enter Try.func78, Try.ntmps78
    go_wp2_with (first
      | (go_at_call 42; (with_reducible refine (c1.out _).mono ?_); rintro e w' ⟨rfl, k⟩; replace kk := Keep.trans kk k; replace hx := Keep.at k hx (fun e => e); have cx := At.cell hx; have fx := At.frozen hx; clear k)
      | (go_at_call 42; (with_reducible refine (c2.out _).mono ?_); rintro e w' ⟨rfl, k⟩; replace kk := Keep.trans kk k; replace hx := Keep.at k hx (fun e => e); have cx := At.cell hx; have fx := At.frozen hx; clear k))
    exact bodyPost_ret (v := .tuple #[.agg #[.int .i64 s, .int .i64 (s + l)], .bool b]) (by simp [results, Try.results78, go_sem, cx, fx]) rfl ⟨by simp, by
      refine Keep.setNew (Keep.setNew kk ?_ _) ?_ _ <;> simp⟩
  · rw [(fit_no h).1, (fit_no h).2.2] at c1
    rw [(fit_no h).2.2]
    unfold I64 at h
    rw [if_neg h]
    replace c1 := Lib.hid c1
    clear hs hl ht h
    go_enter Try.func78, Try.ntmps78
    go_wp2_with (first
      | (go_at_call 42; (with_reducible refine (c1.out _).mono ?_); rintro e w' ⟨rfl, k⟩; replace kk := Keep.trans kk k; replace hx := Keep.at k hx (fun e => e); have cx := At.cell hx; have fx := At.frozen hx; clear k))
    exact bodyPost_ret (v := .tuple #[.agg #[.int .i64 0, .int .i64 0], .bool false]) (by simp [results, Try.results78, go_sem, cx, fx]) rfl ⟨by simp, by
      refine Keep.setNew (Keep.setNew kk ?_ _) ?_ _ <;> simp⟩

/-- What is owned stays owned where its block is kept. -/
theorem ownsRow_keep {S : Nat → Prop} {w w' : World} {base : Nat} {e : TypeId} {size n : Nat} {v : Value} {xs : List Value} (h : w.ownsRow base e size v n xs) (k : Keep S w w') (hs : ∀ g, v.ownBlock = some g → ¬ S g) : w'.ownsRow base e size v n xs := by
  refine ⟨h.1, ?_⟩
  rcases h.2 with hn | ⟨g, cap, cur, rfl, hb, hgg, rest⟩
  · exact .inl hn
  · exact .inr ⟨g, cap, cur, rfl, hb, (k.block g (Array.getElem?_eq_some_iff.1 hgg).1 (hs g rfl)).trans hgg, rest⟩
end Go.Proofs.Ytkbaijdamddipaa
