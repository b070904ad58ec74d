/-
  slices.SortStableFunc on no row of panes.
-/
import Derived.Test.YtmioichjhiengaaPSort
namespace Go.Proofs.Ytmioichjhiengaa
open Go.RowKit

theorem insert_nil_p (w : World) (f : Value) : Calls Try.prog 103 #[.slice none 0 0, .int .i64 0, .int .i64 0, f] w fun e w' => e = .returned (.tuple #[]) ∧ w = w' := by
  go_enter Try.func103, Try.ntmps103
  go_wp2_with fail
  go_loopw [8, 9] (fun iv _ wr => iv = .int .i64 1 ∧ w = wr) (fun _ _ _ => 0)
  case atStart => exact ⟨rfl, rfl⟩
  case round =>
    obtain ⟨rfl, rfl⟩ := hrel
    go_wp2_with fail
    refine bodyPost_end (v := .tuple #[]) ?_ ?_ ?_
    · exact results_none Try.results103 _ _ _
    · rfl
    · exact ⟨rfl, rfl⟩
theorem stable_nil_p (w : World) (f : Value) : Calls Try.prog 77 #[.slice none 0 0, .int .i64 0, f] w fun e w' => e = .returned (.tuple #[]) ∧ w = w' := by
  go_enter Try.func77, Try.ntmps77
  go_wp2_with fail
  go_loopw [7, 8] (fun av bv wr => av = .int .i64 0 ∧ bv = .int .i64 20 ∧ w = wr) (fun _ _ _ => 0)
  case atStart => exact ⟨rfl, rfl, rfl⟩
  case round =>
    obtain ⟨rfl, rfl, rfl⟩ := hrel
    go_wp2_with fail
    refine (insert_nil_p _ _).mono ?_
    rintro e w1 ⟨rfl, rfl⟩
    go_wp2_with fail
    go_loopw [6, 7, 8, 9] (fun sv _ _ _ wr => sv = .int .i64 20 ∧ w = wr) (fun _ _ _ _ _ => 0)
    case atStart => exact ⟨rfl, rfl⟩
    case round =>
      obtain ⟨rfl, rfl⟩ := hrel
      go_wp2_with fail
      refine bodyPost_end (v := .tuple #[]) ?_ ?_ ?_
      · exact results_none Try.results77 _ _ _
      · rfl
      · exact ⟨rfl, rfl⟩
theorem sort_nil_p (w : World) (f : Value) : Calls Try.prog 48 #[.slice none 0 0, f] w fun e w' => e = .returned (.tuple #[]) ∧ w = w' := by
  go_enter Try.func48, Try.ntmps48
  go_wp2_with fail
  refine (stable_nil_p _ _).mono ?_
  rintro e w1 ⟨rfl, rfl⟩
  go_wp2_with fail
  refine bodyPost_end (v := .tuple #[]) ?_ ?_ ?_
  · exact results_none Try.results48 _ _ _
  · rfl
  · exact ⟨rfl, rfl⟩
end Go.Proofs.Ytmioichjhiengaa
