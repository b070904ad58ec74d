/-
  The head of layer 19's laws.
-/
import Derived.Test.YtlnlbegcnhelmaaHistFine
import Derived.Test.YtlnlbegcnhelmaaHistOrder
namespace Go.Proofs.Ytlnlbegcnhelmaa
open Go.RowKit

abbrev ev (n bg pt en : Int) : Event := ⟨0, n, ⟨0, ⟨#[]⟩, 0, 0, 0, 0, 0⟩, 0, .slice none 0 0, bg, pt, en⟩
theorem ev_ok {n bg pt en : Int} (h1 : I64 n) (h2 : I64 bg) (h3 : I64 pt) (h4 : I64 en) : (ev n bg pt en).ok := ⟨by simp [I64], h1, by simp [Call.ok, I64, maxLen, ByteArray.size], by simp [I64], ⟨_, _, _, rfl⟩, h2, h3, h4⟩
theorem up_fine : FineE [ev 0 1 2 3, ev 1 4 0 0] := by
  have h1 : FineE [ev 0 1 2 3] := .snoc [] _ .nil (by
    refine ⟨by simp, by simp, by simp, fun k hk => ?_, fun k hk => ?_, by simp [cntC]⟩
    · cases hk
    · cases hk)
  refine .snoc [ev 0 1 2 3] _ h1 ?_
  refine ⟨by simp, by simp, by simp, fun k hk => by simp, fun k hk _ => ?_, by simp [cntC]⟩
  obtain rfl : k = ev 0 1 2 3 := by simpa using hk
  simp
theorem up_not : ¬ FineE [ev 1 4 0 0, ev 0 1 2 3] := fun h => by
  have h1 := h.take 1
  have h2 : FineE ([] ++ [ev 1 4 0 0]) := h1
  have h3 := h2.inv.2.2.2.2.2.2
  simp [cntC] at h3
theorem up_order {S : List Int} (hp : S.Perm (idxs [ev 0 1 5 0, ev 1 4 0 0, ev 0 1 2 3] 3)) (hs : SortedC (cfE [ev 0 1 5 0, ev 1 4 0 0, ev 0 1 2 3]) S) : S = [2, 0] := by
  have e : idxs [ev 0 1 5 0, ev 1 4 0 0, ev 0 1 2 3] 3 = [0, 2] := by rfl
  rw [e] at hp
  refine sorted_unique (weak_cfE _) hs ?_ (hp.trans (List.Perm.swap 2 0 []))
  refine List.pairwise_cons.2 ⟨fun y hy => ?_, List.pairwise_singleton _ _⟩
  obtain rfl : y = 0 := by simpa using hy
  left
  rw [ltC_cfE]
  rfl

set_option maxHeartbeats 4000000 in
set_option maxRecDepth 100000 in
theorem histUp (w : World) : Calls Try.prog 61 #[] w fun e w' => e = .returned (.bool true) ∧ Keep none_ w w' := by
  have z : ∀ x : Int, -10 ≤ x → x ≤ 10 → I64 x := fun x h1 h2 => by unfold I64; omega
  have oa := ev_ok (z 0 (by omega) (by omega)) (z 1 (by omega) (by omega)) (z 2 (by omega) (by omega)) (z 3 (by omega) (by omega))
  have ob := ev_ok (z 1 (by omega) (by omega)) (z 4 (by omega) (by omega)) (z 0 (by omega) (by omega)) (z 0 (by omega) (by omega))
  have oc := ev_ok (z 0 (by omega) (by omega)) (z 1 (by omega) (by omega)) (z 5 (by omega) (by omega)) (z 0 (by omega) (by omega))
  clear z
  have kA : Keep none_ w ((w.alloc (.cells (ev 0 1 2 3).cells.toArray 120)).alloc (.cells (ev 1 4 0 0).cells.toArray 120)) := (by repeat' (first | assumption | with_reducible exact Keep.refl _ _ | with_reducible refine Keep.alloc ?_ _ | with_reducible refine Keep.drew ?_))
  have ha := At.alloc (At.new w (ev 0 1 2 3).cells.toArray 120) (.cells (ev 1 4 0 0).cells.toArray 120)
  have hb : At ((w.alloc (.cells (ev 0 1 2 3).cells.toArray 120)).alloc (.cells (ev 1 4 0 0).cells.toArray 120)) (w.heap.size + 1) (ev 1 4 0 0).cells.toArray 120 := At.newAt (by simp) _ _
  have a1 := fun w => hist_ahead w (ev 0 1 2 3) (ev 1 4 0 0)
  have a2 := fun w => hist_ahead w (ev 1 4 0 0) (ev 0 1 2 3)
  rw [show (ev 0 1 2 3).ahead (ev 1 4 0 0) = true by simp [Event.ahead]] at a1
  rw [show (ev 1 4 0 0).ahead (ev 0 1 2 3) = false by simp [Event.ahead]] at a2
  simp only [Event.cells] at kA ha hb a1 a2
  replace a1 := Lib.hid a1
  replace a2 := Lib.hid a2
  replace oa := Lib.hid oa
  replace ob := Lib.hid ob
  replace oc := Lib.hid oc
  go_enter Try.func61, Try.ntmps61
  go_wp2_with fail
  have hsz : w.heap.size + 1 + 1 = ((w.alloc (.cells #[.int .i64 0, .int .i64 0, .int .i64 0, .string ⟨#[]⟩, .int .i64 0, .int .i64 0, .int .i64 0, .int .i64 0, .int .i64 0, .int .i64 0, .slice none 0 0, .int .i64 1, .int .i64 2, .int .i64 3] 120)).alloc (.cells #[.int .i64 0, .int .i64 1, .int .i64 0, .string ⟨#[]⟩, .int .i64 0, .int .i64 0, .int .i64 0, .int .i64 0, .int .i64 0, .int .i64 0, .slice none 0 0, .int .i64 4, .int .i64 0, .int .i64 0] 120)).heap.size := by simp
  generalize World.alloc (World.alloc w _) _ = w2 at *
  refine (hist_order (l := [ev 0 1 5 0, ev 1 4 0 0, ev 0 1 2 3]) ?_ (by simp) ?_).mono ?_
  · exact Sl.of_at (At.newAt hsz _ _) Event.len (by decide) rfl rfl (by unfold maxLen; simp)
  · intro x hx
    simp at hx
    rcases hx with rfl | rfl | rfl <;> exact ⟨_, _, _, rfl⟩
  rintro e w3 ⟨v, S, rfl, own, pS, sS, k3⟩
  obtain rfl := up_order pS sS
  obtain ⟨g, cap, rfl, hbg, hgl, hgc, hgm⟩ := own_some own (by decide)
  have k3' := (kA.trans (Keep.alloc (Keep.refl none_ w2) _)).trans k3
  have ha3 := Keep.at k3 (At.alloc ha _) (fun e => e)
  have hb3 := Keep.at k3 (At.alloc hb _) (fun e => e)
  clear ha hb k3 kA pS sS hsz oc
  have ca := At.cell ha3
  have cb := At.cell hb3
  go_wp2_with fail
  refine (a1.out _).mono ?_
  rintro e w4 ⟨rfl, k4⟩
  have ha4 := Keep.at k4 ha3 (fun e => e)
  have hb4 := Keep.at k4 hb3 (fun e => e)
  have ca := At.cell ha4
  have cb := At.cell hb4
  have kk4 := k3'.trans k4
  clear ha3 hb3
  go_wp2_with fail
  refine (a2.out _).mono ?_
  rintro e w5 ⟨rfl, k5⟩
  have ha5 := Keep.at k5 ha4 (fun e => e)
  have hb5 := Keep.at k5 hb4 (fun e => e)
  have ca := At.cell ha5
  have cb := At.cell hb5
  have kk5 := kk4.trans k5
  clear ha4 hb4
  go_wp2_with fail
  refine (hist_fine (l := [ev 0 1 2 3, ev 1 4 0 0]) ?_ (by simp) ?_).mono ?_
  · exact Sl.of_at (At.newAt rfl _ _) Event.len (by decide) rfl rfl (by unfold maxLen; simp)
  · intro x hx
    simp at hx
    rcases hx with rfl | rfl
    · exact oa.out
    · exact ob.out
  rintro e w6 ⟨b6, rfl, hb6, k6⟩
  obtain rfl : b6 = true := hb6.2 up_fine
  have ha6 := Keep.at k6 (At.alloc ha5 _) (fun e => e)
  have hb6' := Keep.at k6 (At.alloc hb5 _) (fun e => e)
  have ca := At.cell ha6
  have cb := At.cell hb6'
  have k56 := (Keep.alloc (Keep.refl none_ w5) _).trans k6
  clear ha5 hb5 hb6
  go_wp2_with fail
  refine (hist_fine (l := [ev 1 4 0 0, ev 0 1 2 3]) ?_ (by simp) ?_).mono ?_
  · exact Sl.of_at (At.newAt rfl _ _) Event.len (by decide) rfl rfl (by unfold maxLen; simp)
  · intro x hx
    simp at hx
    rcases hx with rfl | rfl
    · exact ob.out
    · exact oa.out
  rintro e w7 ⟨b7, rfl, hb7, k7⟩
  obtain rfl : b7 = false := by
    cases b7
    · rfl
    · exact absurd (hb7.1 rfl) up_not
  have k67 := (Keep.alloc (Keep.refl none_ w6) _).trans k7
  have own7 : IRow w7 _ g 2 cap [2, 0] := own_keep own (((k4.trans k5).trans k56).trans k67) (fun _ _ e => e)
  have c0 := own7.cell (i := 0) (x := 2) rfl
  have c1 := own7.cell (i := 1) (x := 0) rfl
  clear ha6 hb6' hb7 own own7 ca cb
  have kfin := (kk5.trans k56).trans k67
  clear k67 k56 k5 k4 kk4 kk5 k3'
  go_wp2_with fail
  go_ret
  exact ⟨rfl, kfin⟩
end Go.Proofs.Ytlnlbegcnhelmaa
