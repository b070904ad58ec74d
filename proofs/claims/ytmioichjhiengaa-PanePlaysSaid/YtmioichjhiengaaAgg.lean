/-
  The contracts of package agg and of the reference's aggregates.
-/
import Derived.Test.YtmioichjhiengaaData
import Derived.Test.YtmioichjhiengaaHeap
import Derived.Outline
import Derived.Test.YtmioichjhiengaaRegion
namespace Go.Proofs.Ytmioichjhiengaa
open Go.RowKit

def Agg.one (v : Int) : Agg := ⟨1, v, v, v⟩
def Agg.merge (a b : Agg) : Agg :=
  if a.count < 1 then b else if b.count < 1 then a else
    ⟨wrap64 (a.count + b.count), wrap64 (a.sum + b.sum), if b.lo < a.lo then b.lo else a.lo, if a.hi < b.hi then b.hi else a.hi⟩

theorem agg_of (w : World) (v : Int) : Calls Try.prog 50 #[.int .i64 v] w fun e w' =>
    e = .returned (.agg (Agg.one v).cells.toArray) ∧ Keep none_ w w' := by
  simp only [Agg.cells, Agg.one]
  go_enter Try.func50, Try.ntmps50
  go_wp2
  exact bodyPost_ret (v := .agg #[.int .i64 1, .int .i64 v, .int .i64 v, .int .i64 v]) (by simp [results, Try.results50, go_sem]) rfl ⟨rfl, (by repeat' (first | exact Keep.refl _ _ | refine Keep.set1 ?_ _ | refine Keep.alloc ?_ _ | refine Keep.drew ?_ | refine Keep.setNew ?_ (by simp) _))⟩

theorem agg_merge (w : World) (a b : Agg) (ha : a.ok) (hb : b.ok) : Calls Try.prog 53 #[.agg a.cells.toArray, .agg b.cells.toArray] w fun e w' =>
    e = .returned (.agg (Agg.merge a b).cells.toArray) ∧ Keep none_ w w' := by
  by_cases h1 : a.count < 1
  · rw [show a.merge b = b by simp [Agg.merge, h1]]
    simp only [Agg.cells]
    go_enter Try.func53, Try.ntmps53
    go_wp2
    exact bodyPost_ret (v := .agg #[.int .i64 b.count, .int .i64 b.sum, .int .i64 b.lo, .int .i64 b.hi]) (by simp [results, Try.results53, go_sem]) rfl ⟨rfl, (by repeat' (first | exact Keep.refl _ _ | refine Keep.set1 ?_ _ | refine Keep.alloc ?_ _ | refine Keep.drew ?_ | refine Keep.setNew ?_ (by simp) _))⟩
  · by_cases h2 : b.count < 1
    · rw [show a.merge b = a by simp [Agg.merge, h1, h2]]
      simp only [Agg.cells]
      go_enter Try.func53, Try.ntmps53
      go_wp2
      exact bodyPost_ret (v := .agg #[.int .i64 a.count, .int .i64 a.sum, .int .i64 a.lo, .int .i64 a.hi]) (by simp [results, Try.results53, go_sem]) rfl ⟨rfl, (by repeat' (first | exact Keep.refl _ _ | refine Keep.set1 ?_ _ | refine Keep.alloc ?_ _ | refine Keep.drew ?_ | refine Keep.setNew ?_ (by simp) _))⟩
    · by_cases h3 : b.lo < a.lo <;> by_cases h4 : a.hi < b.hi
      all_goals
        rw [show a.merge b = _ by unfold Agg.merge; rw [if_neg h1, if_neg h2]]
        simp only [Agg.cells, h3, h4, if_true, if_false]
        go_enter Try.func53, Try.ntmps53
        go_wp2
        exact bodyPost_ret (v := .agg #[.int .i64 (wrap64 (a.count + b.count)), .int .i64 (wrap64 (a.sum + b.sum)), .int .i64 _, .int .i64 _]) (by simp [results, Try.results53, go_sem]) rfl ⟨rfl, (by repeat' (first | exact Keep.refl _ _ | refine Keep.set1 ?_ _ | refine Keep.alloc ?_ _ | refine Keep.drew ?_ | refine Keep.setNew ?_ (by simp) _))⟩

theorem one_ok {v : Int} (h : I64 v) : (Agg.one v).ok := ⟨by unfold I64; simp [Agg.one], h, h, h⟩
theorem ref_one (w : World) (v : Int) : Calls Try.prog 26 #[.int .i64 v] w fun e w' =>
    e = .returned (.agg (Agg.one v).cells.toArray) ∧ Keep none_ w w' := by
  simp only [Agg.cells, Agg.one]
  go_enter Try.func26, Try.ntmps26
  go_wp2
  exact bodyPost_ret (v := .agg #[.int .i64 1, .int .i64 v, .int .i64 v, .int .i64 v]) (by simp [results, Try.results26, go_sem]) rfl ⟨rfl, (by repeat' (first | exact Keep.refl _ _ | refine Keep.set1 ?_ _ | refine Keep.alloc ?_ _ | refine Keep.drew ?_ | refine Keep.setNew ?_ (by simp) _))⟩

theorem ref_merge (w : World) (a b : Agg) (ha : a.ok) (hb : b.ok) : Calls Try.prog 30 #[.agg a.cells.toArray, .agg b.cells.toArray] w fun e w' =>
    e = .returned (.agg (Agg.merge a b).cells.toArray) ∧ Keep none_ w w' := by
  by_cases h1 : a.count < 1
  · rw [show a.merge b = b by simp [Agg.merge, h1]]
    simp only [Agg.cells]
    go_enter Try.func30, Try.ntmps30
    go_wp2
    exact bodyPost_ret (v := .agg #[.int .i64 b.count, .int .i64 b.sum, .int .i64 b.lo, .int .i64 b.hi]) (by simp [results, Try.results30, go_sem]) rfl ⟨rfl, (by repeat' (first | exact Keep.refl _ _ | refine Keep.set1 ?_ _ | refine Keep.alloc ?_ _ | refine Keep.drew ?_ | refine Keep.setNew ?_ (by simp) _))⟩
  · by_cases h2 : b.count < 1
    · rw [show a.merge b = a by simp [Agg.merge, h1, h2]]
      simp only [Agg.cells]
      go_enter Try.func30, Try.ntmps30
      go_wp2
      exact bodyPost_ret (v := .agg #[.int .i64 a.count, .int .i64 a.sum, .int .i64 a.lo, .int .i64 a.hi]) (by simp [results, Try.results30, go_sem]) rfl ⟨rfl, (by repeat' (first | exact Keep.refl _ _ | refine Keep.set1 ?_ _ | refine Keep.alloc ?_ _ | refine Keep.drew ?_ | refine Keep.setNew ?_ (by simp) _))⟩
    · by_cases h3 : b.lo < a.lo <;> by_cases h4 : a.hi < b.hi
      all_goals
        rw [show a.merge b = _ by unfold Agg.merge; rw [if_neg h1, if_neg h2]]
        simp only [Agg.cells, h3, h4, if_true, if_false]
        go_enter Try.func30, Try.ntmps30
        go_wp2
        exact bodyPost_ret (v := .agg #[.int .i64 (wrap64 (a.count + b.count)), .int .i64 (wrap64 (a.sum + b.sum)), .int .i64 _, .int .i64 _]) (by simp [results, Try.results30, go_sem, wrap_u64_add]) rfl ⟨rfl, (by repeat' (first | exact Keep.refl _ _ | refine Keep.set1 ?_ _ | refine Keep.alloc ?_ _ | refine Keep.drew ?_ | refine Keep.setNew ?_ (by simp) _))⟩
end Go.Proofs.Ytmioichjhiengaa
