/-
  The walk of the law AssignTells.
-/
import Derived.Test.YtkbaijdamddipaaRefOfAll
namespace Go.Proofs.Ytkbaijdamddipaa
open Go.RowKit

theorem up_of : ofL ⟨1, 10, 5, 0, 0, 1, 1, 1⟩ (-3) = some [⟨-10, 0⟩, ⟨-5, 5⟩] := by
  simp [ofL, downAll, downL, winOk, fitB, winS]
theorem assignUp (w : World) : Calls Try.prog 58 #[] w fun e w' => e = .returned (.bool true) ∧ Keep none_ w w' := by
  have okc : Config.ok ⟨1, 10, 5, 0, 0, 1, 1, 1⟩ := by simp [Config.ok, I64]
  have ok0 : Config.ok ⟨0, 0, 0, 0, 0, 0, 0, 0⟩ := by simp [Config.ok, I64]
  have m1 : Config.mayB ⟨1, 10, 5, 0, 0, 1, 1, 1⟩ = true := by decide
  have m0 : Config.mayB ⟨0, 0, 0, 0, 0, 0, 0, 0⟩ = false := by decide
  have c1 := fun w => assign_of w ⟨1, 10, 5, 0, 0, 1, 1, 1⟩ (-3) okc (by simp [I64]) m1
  have c2 := fun w => assign_of_no w ⟨0, 0, 0, 0, 0, 0, 0, 0⟩ 0 ok0 m0
  have c3 := fun w => assign_may w ⟨1, 10, 5, 0, 0, 1, 1, 1⟩ okc
  rw [m1] at c3
  rw [up_of] at c1
  simp only [Config.cells] at c1 c2 c3
  replace c1 := Lib.hid c1
  replace c2 := Lib.hid c2
  replace c3 := Lib.hid c3
  clear okc ok0 m1 m0
  have hx := At.new w #[.int .i64 1, .int .i64 10, .int .i64 5, .int .i64 0, .int .i64 0, .int .i64 1, .int .i64 1, .int .i64 1] 72
  have kk : Keep none_ w (w.alloc (.cells #[.int .i64 1, .int .i64 10, .int .i64 5, .int .i64 0, .int .i64 0, .int .i64 1, .int .i64 1, .int .i64 1] 72)) := (by repeat' (first | exact Keep.refl _ _ | refine Keep.set1 ?_ _ | refine Keep.alloc ?_ _ | refine Keep.drew ?_ | refine Keep.setNew ?_ (by simp) _))
  go_enter Try.func58, Try.ntmps58
  go_wp2_with fail
  refine (c1.out _).mono ?_
  rintro e w2 ⟨v, er, rfl, k2, ⟨l, hl, rfl, hown⟩ | ⟨hl, -⟩⟩
  · obtain rfl := Option.some.inj hl
    replace hx := Keep.at k2 hx (fun e => e)
    replace kk := kk.trans k2
    have cx := At.cell hx
    go_wp2_with fail
    refine (c2.out _).mono ?_
    rintro e w3 ⟨rfl, k3⟩
    replace hx := Keep.at k3 hx (fun e => e)
    replace kk := kk.trans k3
    replace hown := ownsRow_keep hown k3 (fun _ _ e => e)
    have cx := At.cell hx
    go_wp2_with fail
    obtain ⟨-, g, cp, rfl, hc1, hm1, hbg, hg, hcell⟩ := owned_cells hown (by decide)
    have e0 := (hcell 0 (by decide)).1
    have e1 := (hcell 0 (by decide)).2
    have e2 := (hcell 1 (by decide)).1
    have e3 := (hcell 1 (by decide)).2
    simp only [List.getElem_cons_zero, List.getElem_cons_succ, Nat.zero_mul, Nat.one_mul, Nat.zero_add, List.length_cons, List.length_nil] at e0 e1 e2 e3 hown hc1 ⊢
    clear hcell
    refine (c3.out _).mono ?_
    rintro e w4 ⟨rfl, k4⟩
    replace e0 := ((k4.below (Nat.le_refl _) not_none).cell hg).trans e0
    replace e1 := ((k4.below (Nat.le_refl _) not_none).cell hg).trans e1
    replace e2 := ((k4.below (Nat.le_refl _) not_none).cell hg).trans e2
    replace e3 := ((k4.below (Nat.le_refl _) not_none).cell hg).trans e3
    replace kk := kk.trans k4
    have he := fun w a b => eq_err w a b
    go_wp2
    go_ret
    exact ⟨rfl, kk⟩
  · cases hl

set_option maxHeartbeats 1000000 in
theorem law_AssignTells (c : Config) (t : Int) (W : World) (hc : c.ok) (ht : I64 t) :
    Calls Try.prog 13 #[.agg c.cells.toArray, .int .i64 t] W fun e W' => e = .returned (.bool true) ∧ Below W.heap.size W W' := by
  have hx := At.new W c.cells.toArray 72
  have kk : Keep none_ W (W.alloc (.cells c.cells.toArray 72)) := (by repeat' (first | exact Keep.refl _ _ | refine Keep.set1 ?_ _ | refine Keep.alloc ?_ _ | refine Keep.drew ?_ | refine Keep.setNew ?_ (by simp) _))
  have c1 := fun h w => assign_of_no w c t hc h
  have c2 := fun h w => assign_of w c t hc ht h
  have c3 := fun w => ref_may w c hc
  have c4 := fun w => assign_may w c hc
  have c5 := fun h w => ref_of w c t hc ht h
  simp only [Config.cells] at hx kk c1 c2 c3 c4 c5 ⊢
  generalize ofL c t = D at *
  cases hm : c.mayB
  · rw [hm] at c3 c4
    replace c1 := Lib.hid (c1 hm)
    replace c3 := Lib.hid c3
    replace c4 := Lib.hid c4
    clear hm c2 c5
    have he := fun w a b => eq_err w a b
    go_enter Try.func13, Try.ntmps13
    go_wp2_with (first
      | (go_at_call 58; (with_reducible refine (assignUp _).mono ?_); rintro e w' ⟨rfl, k⟩; replace kk := Keep.trans kk k; replace hx := Keep.at k hx (fun e => e); have cx := At.cell hx; have fx := At.frozen hx; clear k)
      | (go_at_call 59; (with_reducible refine (c1.out _).mono ?_); rintro e w' ⟨rfl, k⟩; replace kk := Keep.trans kk k; replace hx := Keep.at k hx (fun e => e); have cx := At.cell hx; have fx := At.frozen hx; clear k)
      | (go_at_call 60; (with_reducible refine (c3.out _).mono ?_); rintro e w' ⟨rfl, k⟩; replace kk := Keep.trans kk k; replace hx := Keep.at k hx (fun e => e); have cx := At.cell hx; have fx := At.frozen hx; clear k)
      | (go_at_call 61; (with_reducible refine (c4.out _).mono ?_); rintro e w' ⟨rfl, k⟩; replace kk := Keep.trans kk k; replace hx := Keep.at k hx (fun e => e); have cx := At.cell hx; have fx := At.frozen hx; clear k))
    go_ret
    exact ⟨rfl, kk.below (Nat.le_refl _) not_none⟩
  · rw [hm] at c3 c4
    replace c2 := Lib.hid (c2 hm)
    replace c3 := Lib.hid c3
    replace c4 := Lib.hid c4
    replace c5 := Lib.hid (c5 hm)
    clear hm c1
    go_enter Try.func13, Try.ntmps13
    go_wp2_with (first
      | (go_at_call 58; (with_reducible refine (assignUp _).mono ?_); rintro e w' ⟨rfl, k⟩; replace kk := Keep.trans kk k; replace hx := Keep.at k hx (fun e => e); have cx := At.cell hx; have fx := At.frozen hx; clear k))
    refine (c2.out _).mono ?_
    rintro e w2 ⟨v, er, rfl, k2, h2⟩
    replace kk := Keep.trans kk k2
    replace hx := Keep.at k2 hx (fun e => e)
    have cx := At.cell hx
    replace h2 := Lib.hid h2
    go_wp2_with fail
    refine (c3.out _).mono ?_
    rintro e w3 ⟨rfl, k3⟩
    replace kk := Keep.trans kk k3
    replace hx := Keep.at k3 hx (fun e => e)
    have cx := At.cell hx
    go_wp2_with fail
    refine (c4.out _).mono ?_
    rintro e w4 ⟨rfl, k4⟩
    replace kk := Keep.trans kk k4
    replace hx := Keep.at k4 hx (fun e => e)
    have cx := At.cell hx
    go_wp2_with fail
    refine (c5.out _).mono ?_
    rintro e w5 ⟨v2, b2, rfl, k5, h5⟩
    replace kk := Keep.trans kk k5
    replace hx := Keep.at k5 hx (fun e => e)
    have cx := At.cell hx
    rcases h2.out with ⟨l, hD, rfl, hown⟩ | ⟨hD, rfl, rfl⟩
    · rcases h5 with ⟨l2, hD2, rfl, hown2⟩ | ⟨hD2, -⟩
      · rw [hD] at hD2
        obtain rfl := Option.some.inj hD2
        have hown1 := ownsRow_keep (ownsRow_keep (ownsRow_keep hown k3 (fun _ _ e => e)) k4 (fun _ _ e => e)) k5 (fun _ _ e => e)
        have c6 := Lib.hid (fun w (k : Keep none_ w5 w) => same_yes w _ _ v v2 l (ownsRow_keep hown1 k (fun _ _ e => e)) (ownsRow_keep hown2 k (fun _ _ e => e)))
        clear hown hown1 hown2 hD hD2 h2
        go_wp2_with fail
        refine (c6.out _ (Keep.refl _ _)).mono ?_
        rintro e w6 ⟨rfl, k6⟩
        go_wp2_with fail
        go_ret
        exact ⟨rfl, (kk.trans k6).below (Nat.le_refl _) not_none⟩
      · rw [hD] at hD2; cases hD2
    · rcases h5 with ⟨l2, hD2, rfl, hown2⟩ | ⟨hD2, rfl⟩
      · rw [hD] at hD2; cases hD2
      · clear hD hD2 h2
        have c7 := Lib.hid (fun w => code_err w 3 (by omega) (by omega))
        go_wp2_with fail
        refine (c7.out _).mono ?_
        rintro e w6 ⟨rfl, rfl⟩
        go_wp2_with fail
        go_ret
        exact ⟨rfl, kk.below (Nat.le_refl _) not_none⟩
end Go.Proofs.Ytkbaijdamddipaa
