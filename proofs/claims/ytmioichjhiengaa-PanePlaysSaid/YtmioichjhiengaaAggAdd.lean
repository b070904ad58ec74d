/-
  The contract of agg.Add.
-/
import Derived.Test.YtmioichjhiengaaAgg
namespace Go.Proofs.Ytmioichjhiengaa
open Go.RowKit

theorem agg_add (w : World) (a : Agg) (v : Int) (ha : a.ok) (hv : I64 v) : Calls Try.prog 58 #[.agg a.cells.toArray, .int .i64 v] w fun e w' =>
    e = .returned (.agg (Agg.merge a (Agg.one v)).cells.toArray) ∧ Keep none_ w w' := by
  have hx := At.alloc (At.new w a.cells.toArray 30) (.cells #[.int .i64 0, .int .i64 0, .int .i64 0, .int .i64 0] 30)
  have hr : At ((w.alloc (.cells a.cells.toArray 30)).alloc (.cells #[.int .i64 0, .int .i64 0, .int .i64 0, .int .i64 0] 30)) (w.heap.size + 1) #[.int .i64 0, .int .i64 0, .int .i64 0, .int .i64 0] 30 := At.newAt (by simp) _ _
  have hk : Keep none_ w ((w.alloc (.cells a.cells.toArray 30)).alloc (.cells #[.int .i64 0, .int .i64 0, .int .i64 0, .int .i64 0] 30)) := (by repeat' (first | exact Keep.refl _ _ | refine Keep.set1 ?_ _ | refine Keep.alloc ?_ _ | refine Keep.drew ?_ | refine Keep.setNew ?_ (by simp) _))
  simp only [Agg.cells] at hx hr hk ⊢
  go_enter Try.func58, Try.ntmps58
  go_wp2_with fail
  generalize hw0 : (World.alloc (World.alloc w _) _) = w0 at hx hr hk ⊢
  obtain ⟨ι, hne, f, hf0, hfk, hfa⟩ := class_of none_ w0
  have cx : ∀ n i, (f n).cell? ⟨w.heap.size, i, none⟩ = _ := fun n => At.cell (Keep.at (hfk n) hx (fun e => e))
  clear hw0
  refine wp_region_class_tail f 4 (by kernel_rfl) (by kernel_rfl) hf0 ?_
  simp only [List.take_succ_cons, List.take_zero, List.drop_succ_cons, List.drop_zero]
  repeat (go_big_quiet_step (first
    | (go_at_call 50; exact Calls.class_of hfa (agg_of _ _))
    | (go_at_call 53; exact Calls.class_of hfa (agg_merge _ a (Agg.one v) ha (one_ok hv)))))
  refine wpQuiet_nil ?_
  intro n
  have h1 := Keep.at (hfk n) hr (fun e => e)
  have cr := At.cell h1
  have fr := At.frozen h1
  go_wp2
  exact bodyPost_ret (v := .agg #[.int .i64 (a.merge (Agg.one v)).count, .int .i64 (a.merge (Agg.one v)).sum, .int .i64 (a.merge (Agg.one v)).lo, .int .i64 (a.merge (Agg.one v)).hi])
    (by simp [results, Try.results58, go_sem, cr, fr]) rfl ⟨rfl, by
      refine Keep.setNew (Keep.setNew (Keep.setNew (Keep.setNew (hk.trans (hfk n)) ?_ _) ?_ _) ?_ _) ?_ _ <;> simp⟩
end Go.Proofs.Ytmioichjhiengaa
