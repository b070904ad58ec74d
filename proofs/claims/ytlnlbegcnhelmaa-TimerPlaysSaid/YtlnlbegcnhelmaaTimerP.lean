/-
  The queue of timers: Push, Pop.
-/
import Derived.Test.YtlnlbegcnhelmaaTimerQ
import Derived.Deep.RegionLaw
namespace Go.Proofs.Ytlnlbegcnhelmaa
open Go.RowKit

theorem row_timer : Row Try.prog 139 101 3 := row_of (b := 32) (z := .agg #[.string ⟨#[]⟩, .int .i64 0, .int .i64 0]) Try.underlying139 (by kernel_rfl) rfl (by decide) (by decide)
theorem timer_one (x : Timer) : ∀ u ∈ Timer.cells x, u.oneCell' = true := by
  intro u hu
  simp [Timer.cells] at hu
  rcases hu with rfl | rfl | rfl <;> rfl
theorem assert_timer (w : World) (xT : TypeId) (v : Value) : (Instr.typeAssert (.iface 101 v) xT 101 true).run Try.prog w = .ok (.tuple #[v, .bool true]) w := by
  have h : Try.prog.underlying 101 = some (.struct (Try.prog.fieldsOf 101)) := by kernel_rfl
  simp [Instr.typeAssert, run_underlying h]
set_option maxRecDepth 100000 in
theorem queue_push {w : World} {p : Nat} {v : Value} {l : List Timer} (hp : At w p #[v] 141) (h : QAt w (p + 1) v l) (hlen : l.length ≤ 1000) (x : Timer) :
    Calls Try.prog 135 #[.pointer (some ⟨p, 0, none⟩), .iface 101 (.agg x.cells.toArray)] w fun e w' => e = .returned (.tuple #[]) ∧
      ∃ v', At w' p #[v'] 141 ∧ QAt w' (p + 1) v' (l ++ [x]) ∧ Keep (fun z => z = p ∨ v.ownBlock = some z) w w' ∧ (v'.ownBlock = v.ownBlock ∨ ∃ g, v'.ownBlock = some g ∧ w.heap.size ≤ g) := by
  obtain ⟨xk, xs, xe⟩ := x
  have cp := At.cell hp
  have hpl := hp.lt
  have ht := fun w xT v => assert_timer w xT v
  have hx := At.new w #[.string xk, .int .i64 xs, .int .i64 xe] 101
  have k1 : Keep none_ w (w.alloc (.cells #[.string xk, .int .i64 xs, .int .i64 xe] 101)) := (by repeat' (first | assumption | with_reducible exact Keep.refl _ _ | with_reducible refine Keep.alloc ?_ _ | with_reducible refine Keep.drew ?_))
  have hn : w.heap.size < (w.alloc (.cells #[.string xk, .int .i64 xs, .int .i64 xe] 101)).heap.size := by simp
  simp only [Timer.cells]
  go_enter Try.func135, Try.ntmps135
  go_wp2_with fail
  generalize w.alloc _ = w1 at *
  have hp1 := Keep.at k1 hp (fun e => e)
  have h1 : QAt w1 (p + 1) v l := own_keep h k1 (fun _ _ e => e)
  have cells : ∀ w', Keep none_ w1 w' → w'.cell? ⟨p, 0, none⟩ = some v ∧ w'.cell? ⟨w.heap.size, 0, none⟩ = some (.string xk) ∧ w'.cell? ⟨w.heap.size, 1, none⟩ = some (.int .i64 xs) ∧ w'.cell? ⟨w.heap.size, 2, none⟩ = some (.int .i64 xe) := fun w' k =>
    ⟨At.cell (Keep.at k hp1 (fun e => e)) 0, At.cell (Keep.at k hx (fun e => e)) 0, At.cell (Keep.at k hx (fun e => e)) 1, At.cell (Keep.at k hx (fun e => e)) 2⟩
  have hvp : v.ownBlock ≠ some p := fun e => by have := (h1.lt p e).1; omega
  clear cp ht hp h
  have c0 := cells w1 (Keep.refl _ _)
  obtain ⟨c0, c1, c2, c3⟩ := c0
  have hpl1 := hp1.lt
  have hxl := hx.lt
  have fz := hp1.frozen
  clear cells
  go_region_law (first
      | (refine step_append_sl _ (by rfl) _ _ _ (by rfl) (p + 1) 101 row_timer timer_len3 timer_one v l.length l (by rfl) ?_ (some ⟨_, 0, none⟩) 1 1 [⟨xk, xs, xe⟩] (by rfl) (Sl.of_at (cs := #[.string xk, .int .i64 xs, .int .i64 xe]) (e := 101) ?_ timer_len3 (by decide) rfl rfl (by unfold maxLen; omega)) (by omega) ?_ ?_
         · exact own_keep h1 (S := none_) (by repeat' (first | assumption | with_reducible exact Keep.refl _ _ | with_reducible refine Keep.alloc ?_ _ | with_reducible refine Keep.drew ?_)) (fun _ _ e => e)
         · exact (by repeat' (first | ((with_reducible refine At.newAt ?_ _ _); (first | (simp; done) | rfl)) | with_reducible refine At.drew ?_ | with_reducible refine At.alloc ?_ _))
         · (simp only [World.size_drew, World.size_alloc]; omega)
         intro v' wA own1 grow1 loc1
         have kA : Keep (fun z => z = p ∨ v.ownBlock = some z) w1 wA := Keep.grown (by repeat' (first | assumption | with_reducible exact Keep.refl _ _ | with_reducible refine Keep.alloc ?_ _ | with_reducible refine Keep.drew ?_)) grow1 (fun z hz _ => .inr hz)
         have hpA := At.grown (Keep.at (S := none_) (by repeat' (first | assumption | with_reducible exact Keep.refl _ _ | with_reducible refine Keep.alloc ?_ _ | with_reducible refine Keep.drew ?_)) hp1 (fun e => e)) grow1 hvp
         have cA := At.cell hpA 0
         have fA := At.frozen hpA 0
         simp only [List.getElem?_toArray, List.getElem?_cons_zero] at cA
         obtain ⟨A', c', rfl⟩ := own_form own1))
  all_goals
    have kp : ∀ u, Keep (one p) wA (wA.setCell ⟨p, 0, none⟩ u) := fun u => Keep.setCell (p := ⟨p, 0, none⟩) (Keep.refl (one p) wA) (fun _ => rfl) u
    have kk : ∀ u, Keep (fun z => z = p ∨ v.ownBlock = some z) w (wA.setCell ⟨p, 0, none⟩ u) := fun u => Keep.setCell (p := ⟨p, 0, none⟩) ((k1.mono (fun _ _ e => e.elim)).trans kA) (fun _ => .inl rfl) u
    simp only [Exit.inBlock]
    refine bodyPost_end (v := .tuple #[]) ?_ ?_ ?_
    · simp [results, Try.results135, go_sem]
    · rfl
    · refine ⟨rfl, .slice A' (l.length + 1) c', ?_, ?_, ?_, ?_⟩
      · exact At.set hpA 0 _
      · have := own_keep own1 (kp (.slice A' (l.length + 1) c')) (fun g hg e => by have := (own1.lt g hg).1; unfold one at e; omega)
        unfold QAt
        rw [List.length_append]
        exact this
      · exact kk _
      · rcases loc1 with h | h
        · exact .inl h
        · exact .inr ⟨_, h, (show Keep none_ w _ from (by repeat' (first | assumption | with_reducible exact Keep.refl _ _ | with_reducible refine Keep.alloc ?_ _ | with_reducible refine Keep.drew ?_))).size⟩

set_option maxRecDepth 100000 in
theorem queue_pop {w : World} {p : Nat} {v : Value} {l : List Timer} (hp : At w p #[v] 141) (h : QAt w (p + 1) v l) (h0 : 0 < l.length) :
    Calls Try.prog 134 #[.pointer (some ⟨p, 0, none⟩)] w fun e w' => e = .returned (.iface 101 (.agg (l[l.length - 1]).cells.toArray)) ∧
      ∃ v', At w' p #[v'] 141 ∧ QAt w' (p + 1) v' (l.take (l.length - 1)) ∧ Keep (one p) w w' ∧ v'.ownBlock = v.ownBlock := by
  obtain ⟨g, cap, rfl, hbg, hgl, hlc, hnc⟩ := own_some h h0
  have hs : TS w (some ⟨g, 0, none⟩) cap l := Sl.of_own (enc := Timer.cells) timer_len3 (by decide) h
  have hsh := own_shrink timer_len3 (by decide) h (Nat.sub_le l.length 1)
  have hsl := hs.len
  have cp := At.cell hp
  have fp := At.frozen hp
  have ci := hs.cellk (i := l.length - 1) (by omega)
  have i0 := ci 0 (by omega)
  have i1 := ci 1 (by omega)
  have i2 := ci 2 (by omega)
  have hpl := hp.lt
  have e1 : (l.length : Int) - 1 = ((l.length - 1 : Nat) : Int) := by omega
  unfold maxLen at hnc
  generalize l[l.length - 1] = x at *
  obtain ⟨xk, xs, xe⟩ := x
  clear ci hs
  simp only [Timer.cells, Nat.zero_add, Nat.add_zero] at i0 i1 i2 ⊢
  go_enter Try.func134, Try.ntmps134
  go_wp2_with fail
  go_ret
  have kp := Keep.setCell (p := ⟨p, 0, none⟩) (Keep.refl (one p) w) (fun _ => rfl) (.slice (some ⟨g, 0, none⟩) (l.length - 1) cap)
  have ka := Keep.alloc kp (.cells #[.string xk, .int .i64 xs, .int .i64 xe] 101)
  have hq := own_keep hsh ka (fun z hz e => by
    have : g = z := by simpa [Value.ownBlock] using hz
    unfold one at e; omega)
  refine ⟨rfl, .slice (some ⟨g, 0, none⟩) (l.length - 1) cap, At.alloc (At.set hp 0 _) _, ?_, ka, rfl⟩
  unfold QAt
  rw [List.length_take, Nat.min_eq_left (Nat.sub_le _ _)]
  exact hq
end Go.Proofs.Ytlnlbegcnhelmaa
