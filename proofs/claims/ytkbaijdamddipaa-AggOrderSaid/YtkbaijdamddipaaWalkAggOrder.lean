/-
  The walk of the law AggOrder.
-/
import Derived.Test.YtkbaijdamddipaaWalkAggTells
import Derived.Test.YtkbaijdamddipaaAggFold
namespace Go.Proofs.Ytkbaijdamddipaa
open Go.RowKit

theorem mem_I64 {l m : List Int} (h : ∀ x ∈ l, I64 x) (hs : ∀ x ∈ m, x ∈ l) : ∀ x ∈ m, I64 x := fun x hx => h x (hs x hx)

/-- What a, b, c and d are ahead of round k. -/
theorem aggA (xs : List Int) (k : Nat) (hk : k < xs.length) (h : ∀ x ∈ xs, I64 x) (hl : xs.length ≤ 200) :
    (Agg.of (xs.take k)).merge (Agg.one xs[k]) = Agg.of (xs.take (k + 1)) := by
  rw [List.take_add_one, List.getElem?_eq_getElem hk]
  exact Agg.of_snoc (mem_I64 h fun x hx => List.mem_of_mem_take hx) (h _ (List.getElem_mem _)) (by rw [List.length_take]; unfold MaxI; omega)
theorem aggD (xs : List Int) (k t : Nat) (hk : k < xs.length) (ht : t ≤ k) (h : ∀ x ∈ xs, I64 x) (hl : xs.length ≤ 200) :
    (Agg.of ((xs.take k).drop t)).merge (Agg.one xs[k]) = Agg.of ((xs.take (k + 1)).drop t) := by
  rw [List.take_add_one, List.getElem?_eq_getElem hk, List.drop_append_of_le_length (by rw [List.length_take]; omega)]
  exact Agg.of_snoc (mem_I64 h fun x hx => List.mem_of_mem_take (List.mem_of_mem_drop hx)) (h _ (List.getElem_mem _)) (by rw [List.length_drop, List.length_take]; unfold MaxI; omega)
theorem of_ok (xs : List Int) (h : ∀ x ∈ xs, I64 x) (hl : xs.length ≤ 200) : (Agg.of xs).ok := (Agg.of_nice h (by unfold MaxI; omega)).1

theorem At.store4 {w : World} {p : Nat} {c0 c1 c2 c3 : Value} {T : TypeId} (h : At w p #[c0, c1, c2, c3] T) (a b c d : Value) :
    At ((((w.setCell ⟨p, 0, none⟩ a).setCell ⟨p, 1, none⟩ b).setCell ⟨p, 2, none⟩ c).setCell ⟨p, 3, none⟩ d) p #[a, b, c, d] T :=
  (((h.set 0 a).set 1 b).set 2 c).set 3 d
set_option maxHeartbeats 2000000 in
set_option maxRecDepth 100000 in
theorem aggOrder_in (xs : List Int) (v : Value) (at_ : Int) (W : World) (hl : xs.length ≤ 200) (hl0 : 0 < xs.length) (hv : rSlice 1 rInt W xs [v]) (ha : 0 ≤ at_) (ha2 : at_ ≤ xs.length) :
    Calls Try.prog 4 #[v, .int .i64 at_] W fun e W' => e = .returned (.bool true) ∧ Below W.heap.size W W' := by
  obtain ⟨ao, len, cap, e1, rfl, hcap, hcap2, hcells⟩ := hv
  obtain rfl : v = .slice ao xs.length cap := by simpa using e1
  obtain ⟨b, off, rfl, hb, hcells⟩ := hcells hl0
  obtain ⟨t, rfl⟩ : ∃ t : Nat, at_ = t := ⟨at_.toNat, by omega⟩
  have ht : t ≤ xs.length := by omega
  have hne : ((xs.length : Int) == 0) = false := by simp; intro h; simp [h] at hl0
  have hne2 : ¬ xs.length = 0 := by omega
  have hall : ∀ x ∈ xs, I64 x := fun x hx => by
    obtain ⟨k, hk, rfl⟩ := List.mem_iff_getElem.1 hx
    obtain ⟨es, h, -⟩ := hcells k hk
    exact h.2
  have hcell : ∀ k (h : k < xs.length), W.cell? ⟨b, off + k, none⟩ = some (.int .i64 xs[k]) := fun k hk => by
    obtain ⟨es, ⟨rfl, -⟩, -, h⟩ := hcells k hk
    simpa using h 0 (by omega)
  clear hcells e1
  go_enter Try.func4, Try.ntmps4
  go_wp2_with fail
  refine (aggUp _).mono ?_
  rintro e w1 ⟨rfl, k1⟩
  go_wp2_with fail
  have kk : Keep none_ W ((((w1.alloc (.cells Agg.zero.cells.toArray 23)).alloc (.cells Agg.zero.cells.toArray 23)).alloc (.cells Agg.zero.cells.toArray 23)).alloc (.cells Agg.zero.cells.toArray 23)) :=
    (((k1.alloc _).alloc _).alloc _).alloc _
  have hA := At.alloc (At.alloc (At.alloc (At.new w1 Agg.zero.cells.toArray 23) (.cells Agg.zero.cells.toArray 23)) (.cells Agg.zero.cells.toArray 23)) (.cells Agg.zero.cells.toArray 23)
  have hB := At.alloc (At.alloc (At.newAt (w := w1.alloc (.cells Agg.zero.cells.toArray 23)) (n := w1.heap.size + 1) (by simp) Agg.zero.cells.toArray 23) (.cells Agg.zero.cells.toArray 23)) (.cells Agg.zero.cells.toArray 23)
  have hC := At.alloc (At.newAt (w := (w1.alloc (.cells Agg.zero.cells.toArray 23)).alloc (.cells Agg.zero.cells.toArray 23)) (n := w1.heap.size + 1 + 1) (by simp) Agg.zero.cells.toArray 23) (.cells Agg.zero.cells.toArray 23)
  have hD := At.newAt (w := ((w1.alloc (.cells Agg.zero.cells.toArray 23)).alloc (.cells Agg.zero.cells.toArray 23)).alloc (.cells Agg.zero.cells.toArray 23)) (n := w1.heap.size + 1 + 1 + 1) (by simp) Agg.zero.cells.toArray 23
  have hpW : W.heap.size ≤ w1.heap.size := k1.size
  simp only [Agg.zero, Agg.cells] at hA hB hC hD kk
  generalize w1.heap.size = p at hA hB hC hD kk hpW ⊢
  generalize World.alloc _ _ = w2 at hA hB hC hD kk ⊢
  clear k1
  go_loopw [10] (fun i wr => ∃ (k : Nat) (A B C D : Agg), k ≤ xs.length ∧ i = .int .i64 k ∧ A = Agg.of (xs.take k) ∧ B = Agg.of (xs.reverse.take k) ∧ C = Agg.of ((xs.take k).take t) ∧ D = Agg.of ((xs.take k).drop t) ∧
      At wr p A.cells.toArray 23 ∧ At wr (p + 1) B.cells.toArray 23 ∧ At wr (p + 1 + 1) C.cells.toArray 23 ∧ At wr (p + 1 + 1 + 1) D.cells.toArray 23 ∧ Keep none_ W wr)
    (fun i _ => xs.length - (intOf i).toNat)
  case atStart => exact ⟨0, Agg.zero, Agg.zero, Agg.zero, Agg.zero, Nat.zero_le _, rfl, rfl, rfl, by simp [Agg.of], by simp [Agg.of], hA, hB, hC, hD, kk⟩
  case round =>
    clear hA hB hC hD kk
    obtain ⟨k, A, B, C, D, hk, rfl, eA, eB, eC, eD, hA, hB, hC, hD, kk⟩ := hrel
    simp only [Agg.cells] at hA hB hC hD
    by_cases hlt : k < xs.length
    · have hlr : k < xs.reverse.length := by simpa using hlt
      have hallr : ∀ x ∈ xs.reverse, I64 x := fun x hx => hall x (List.mem_reverse.1 hx)
      have e1 := aggA xs k hlt hall hl
      have e2 := aggA xs.reverse k hlr hallr (by simpa using hl)
      have hx1 := hall _ (List.getElem_mem hlt)
      have hx2 := hallr _ (List.getElem_mem hlr)
      have hr : xs.reverse[k] = xs[xs.length - 1 - k] := by rw [List.getElem_reverse]
      have hcx := hcell k hlt
      have hcy := hcell (xs.length - 1 - k) (by omega)
      rw [← hr] at hcy
      have e4 : t ≤ k → D.merge (Agg.one xs[k]) = Agg.of ((xs.take (k + 1)).drop t) := fun h => eD ▸ aggD xs k t hlt h hall hl
      have okD : D.ok := eD ▸ of_ok _ (mem_I64 hall fun x hx => List.mem_of_mem_take (List.mem_of_mem_drop hx)) (by rw [List.length_drop, List.length_take]; omega)
      rw [← eA] at e1
      rw [← eB] at e2
      have okA : A.ok := eA ▸ of_ok _ (mem_I64 hall fun x hx => List.mem_of_mem_take hx) (by rw [List.length_take]; omega)
      have okB : B.ok := eB ▸ of_ok _ (mem_I64 hallr fun x hx => List.mem_of_mem_take hx) (by rw [List.length_take]; simp; omega)
      obtain ⟨A2, eA2⟩ : ∃ A2, A2 = Agg.of (xs.take (k + 1)) := ⟨_, rfl⟩
      obtain ⟨B2, eB2⟩ : ∃ B2, B2 = Agg.of (xs.reverse.take (k + 1)) := ⟨_, rfl⟩
      have ca := fun w => agg_add w A _ okA hx1
      have cb := fun w => agg_add w B _ okB hx2
      rw [e1, ← eA2] at ca
      rw [e2, ← eB2] at cb
      replace ca := Lib.hid ca
      replace cb := Lib.hid cb
      replace eC := Lib.hid eC
      replace eD := Lib.hid eD
      replace eB := Lib.hid eB
      replace eA := Lib.hid eA
      replace eA2 := Lib.hid eA2
      replace eB2 := Lib.hid eB2
      clear e1 e2 hr
      simp only [Agg.cells] at ca cb
      have ix : (xs.length : Int) - 1 - k = ((xs.length - 1 - k : Nat) : Int) := by omega
      generalize xs[k] = x at *
      generalize xs.reverse[k] = y at *
      go_wp2_with fail
      obtain ⟨ι, hne9, f, hf0, hfk, hfa⟩ := class_of none_ wr
      have xA : ∀ n i, (f n).cell? ⟨p, i, none⟩ = _ := fun n => At.cell (Keep.at (hfk n) hA (fun e => e))
      have xB : ∀ n i, (f n).cell? ⟨p + 1, i, none⟩ = _ := fun n => At.cell (Keep.at (hfk n) hB (fun e => e))
      have xC : ∀ n i, (f n).cell? ⟨p + 1 + 1, i, none⟩ = _ := fun n => At.cell (Keep.at (hfk n) hC (fun e => e))
      have xD : ∀ n i, (f n).cell? ⟨p + 1 + 1 + 1, i, none⟩ = _ := fun n => At.cell (Keep.at (hfk n) hD (fun e => e))
      have xk := fun n => (((kk.trans (hfk n)).below (Nat.le_refl _) not_none).cell hb).trans (hcx)
      refine wp_region_class_tail f 6 (by kernel_rfl) (by kernel_rfl) hf0 ?_
      simp only [List.take_succ_cons, List.take_zero, List.drop_succ_cons, List.drop_zero]
      repeat (go_big_quiet_step (first | (go_at_call 18; exact Calls.class_of hfa (ca.out _)) | (go_at_call 16; exact Calls.class_of hfa (agg_of _ _)) | (go_at_call 20; exact Calls.class_of hfa (ca.out _))))
      refine wpQuiet_nil ?_
      intro n
      have zA := Keep.at (hfk n) hA (fun e => e)
      have zB := Keep.at (hfk n) hB (fun e => e)
      have zC := Keep.at (hfk n) hC (fun e => e)
      have zD := Keep.at (hfk n) hD (fun e => e)
      have kk2 := kk.trans (hfk n)
      clear xA xB xC xD xk hf0 hfk hfa hA hB hC hD kk
      generalize f n = wr at zA zB zC zD kk2 ⊢
      have hA := zA
      have hB := zB
      have hC := zC
      have hD := zD
      have kk := kk2
      clear zA zB zC zD kk2
      have cA := At.cell hA
      have cB := At.cell hB
      have cC := At.cell hC
      have cD := At.cell hD
      have fA := At.frozen hA
      have fB := At.frozen hB
      have fC := At.frozen hC
      have fD := At.frozen hD
      go_wp2_with fail
      have kk2 := Keep.setNew (Keep.setNew (Keep.setNew (Keep.setNew (i := 0) kk (p := p) (by omega) (.int .i64 A2.count)) (i := 1) (p := p) (by omega) (.int .i64 A2.sum)) (i := 2) (p := p) (by omega) (.int .i64 A2.lo)) (i := 3) (p := p) (by omega) (.int .i64 A2.hi)
      have oth : ∀ {q : Nat} {c : Array Value} {T : TypeId}, At wr q c T → p ≠ q → At ((((wr.setCell ⟨p, 0, none⟩ (.int .i64 A2.count)).setCell ⟨p, 1, none⟩ (.int .i64 A2.sum)).setCell ⟨p, 2, none⟩ (.int .i64 A2.lo)).setCell ⟨p, 3, none⟩ (.int .i64 A2.hi)) q c T :=
        fun h hn => (((h.set_other (a := ⟨p, 0, none⟩) hn _).set_other (a := ⟨p, 1, none⟩) hn _).set_other (a := ⟨p, 2, none⟩) hn _).set_other (a := ⟨p, 3, none⟩) hn _
      have same : ∀ {c0 c1 c2 c3 : Value} {T : TypeId}, At wr p #[c0, c1, c2, c3] T → At ((((wr.setCell ⟨p, 0, none⟩ (.int .i64 A2.count)).setCell ⟨p, 1, none⟩ (.int .i64 A2.sum)).setCell ⟨p, 2, none⟩ (.int .i64 A2.lo)).setCell ⟨p, 3, none⟩ (.int .i64 A2.hi)) p #[.int .i64 A2.count, .int .i64 A2.sum, .int .i64 A2.lo, .int .i64 A2.hi] T :=
        fun h => At.store4 h _ _ _ _
      replace hA := same hA
      replace hB := oth hB (by omega)
      replace hC := oth hC (by omega)
      replace hD := oth hD (by omega)
      clear oth same kk cA cB cC cD fA fB fC fD
      generalize World.setCell _ _ _ = wr at hA hB hC hD kk2 ⊢
      have kk := kk2
      clear kk2
      by_cases hkt : k < t
      · have hC2 : (xs.take k).take t = xs.take k := List.take_of_length_le (by rw [List.length_take]; omega)
        have hC3 : (xs.take (k + 1)).take t = xs.take (k + 1) := List.take_of_length_le (by rw [List.length_take]; omega)
        have hD2 : (xs.take k).drop t = [] := List.drop_eq_nil_of_le (by rw [List.length_take]; omega)
        have hD3 : (xs.take (k + 1)).drop t = [] := List.drop_eq_nil_of_le (by rw [List.length_take]; omega)
        have eCA : C = A := by rw [eC.out, hC2, eA.out]
        subst eCA
        obtain ⟨ι, hne9, f, hf0, hfk, hfa⟩ := class_of none_ wr
        have xA : ∀ n i, (f n).cell? ⟨p, i, none⟩ = _ := fun n => At.cell (Keep.at (hfk n) hA (fun e => e))
        have xB : ∀ n i, (f n).cell? ⟨p + 1, i, none⟩ = _ := fun n => At.cell (Keep.at (hfk n) hB (fun e => e))
        have xC : ∀ n i, (f n).cell? ⟨p + 1 + 1, i, none⟩ = _ := fun n => At.cell (Keep.at (hfk n) hC (fun e => e))
        have xD : ∀ n i, (f n).cell? ⟨p + 1 + 1 + 1, i, none⟩ = _ := fun n => At.cell (Keep.at (hfk n) hD (fun e => e))
        have xk := fun n => (((kk.trans (hfk n)).below (Nat.le_refl _) not_none).cell hb).trans (hcy)
        refine wp_region_class_tail f 10 (by kernel_rfl) (by kernel_rfl) hf0 ?_
        simp only [List.take_succ_cons, List.take_zero, List.drop_succ_cons, List.drop_zero]
        repeat (go_big_quiet_step (first | (go_at_call 18; exact Calls.class_of hfa (cb.out _)) | (go_at_call 16; exact Calls.class_of hfa (agg_of _ _)) | (go_at_call 20; exact Calls.class_of hfa (cb.out _))))
        refine wpQuiet_nil ?_
        intro n
        have zA := Keep.at (hfk n) hA (fun e => e)
        have zB := Keep.at (hfk n) hB (fun e => e)
        have zC := Keep.at (hfk n) hC (fun e => e)
        have zD := Keep.at (hfk n) hD (fun e => e)
        have kk2 := kk.trans (hfk n)
        clear xA xB xC xD xk hf0 hfk hfa hA hB hC hD kk
        generalize f n = wr at zA zB zC zD kk2 ⊢
        have hA := zA
        have hB := zB
        have hC := zC
        have hD := zD
        have kk := kk2
        clear zA zB zC zD kk2
        have cA := At.cell hA
        have cB := At.cell hB
        have cC := At.cell hC
        have cD := At.cell hD
        have fA := At.frozen hA
        have fB := At.frozen hB
        have fC := At.frozen hC
        have fD := At.frozen hD
        go_wp2_with fail
        have kk2 := Keep.setNew (Keep.setNew (Keep.setNew (Keep.setNew (i := 0) kk (p := (p + 1)) (by omega) (.int .i64 B2.count)) (i := 1) (p := (p + 1)) (by omega) (.int .i64 B2.sum)) (i := 2) (p := (p + 1)) (by omega) (.int .i64 B2.lo)) (i := 3) (p := (p + 1)) (by omega) (.int .i64 B2.hi)
        have oth : ∀ {q : Nat} {c : Array Value} {T : TypeId}, At wr q c T → (p + 1) ≠ q → At ((((wr.setCell ⟨(p + 1), 0, none⟩ (.int .i64 B2.count)).setCell ⟨(p + 1), 1, none⟩ (.int .i64 B2.sum)).setCell ⟨(p + 1), 2, none⟩ (.int .i64 B2.lo)).setCell ⟨(p + 1), 3, none⟩ (.int .i64 B2.hi)) q c T :=
          fun h hn => (((h.set_other (a := ⟨(p + 1), 0, none⟩) hn _).set_other (a := ⟨(p + 1), 1, none⟩) hn _).set_other (a := ⟨(p + 1), 2, none⟩) hn _).set_other (a := ⟨(p + 1), 3, none⟩) hn _
        have same : ∀ {c0 c1 c2 c3 : Value} {T : TypeId}, At wr (p + 1) #[c0, c1, c2, c3] T → At ((((wr.setCell ⟨(p + 1), 0, none⟩ (.int .i64 B2.count)).setCell ⟨(p + 1), 1, none⟩ (.int .i64 B2.sum)).setCell ⟨(p + 1), 2, none⟩ (.int .i64 B2.lo)).setCell ⟨(p + 1), 3, none⟩ (.int .i64 B2.hi)) (p + 1) #[.int .i64 B2.count, .int .i64 B2.sum, .int .i64 B2.lo, .int .i64 B2.hi] T :=
          fun h => At.store4 h _ _ _ _
        replace hA := oth hA (by omega)
        replace hB := same hB
        replace hC := oth hC (by omega)
        replace hD := oth hD (by omega)
        clear oth same kk cA cB cC cD fA fB fC fD
        generalize World.setCell _ _ _ = wr at hA hB hC hD kk2 ⊢
        have kk := kk2
        clear kk2
        obtain ⟨ι, hne9, f, hf0, hfk, hfa⟩ := class_of none_ wr
        have xA : ∀ n i, (f n).cell? ⟨p, i, none⟩ = _ := fun n => At.cell (Keep.at (hfk n) hA (fun e => e))
        have xB : ∀ n i, (f n).cell? ⟨p + 1, i, none⟩ = _ := fun n => At.cell (Keep.at (hfk n) hB (fun e => e))
        have xC : ∀ n i, (f n).cell? ⟨p + 1 + 1, i, none⟩ = _ := fun n => At.cell (Keep.at (hfk n) hC (fun e => e))
        have xD : ∀ n i, (f n).cell? ⟨p + 1 + 1 + 1, i, none⟩ = _ := fun n => At.cell (Keep.at (hfk n) hD (fun e => e))
        have xk := fun n => (((kk.trans (hfk n)).below (Nat.le_refl _) not_none).cell hb).trans (hcx)
        refine wp_region_class_tail f 6 (by kernel_rfl) (by kernel_rfl) hf0 ?_
        simp only [List.take_succ_cons, List.take_zero, List.drop_succ_cons, List.drop_zero]
        repeat (go_big_quiet_step (first | (go_at_call 18; exact Calls.class_of hfa (ca.out _)) | (go_at_call 16; exact Calls.class_of hfa (agg_of _ _)) | (go_at_call 20; exact Calls.class_of hfa (ca.out _))))
        refine wpQuiet_nil ?_
        intro n
        have zA := Keep.at (hfk n) hA (fun e => e)
        have zB := Keep.at (hfk n) hB (fun e => e)
        have zC := Keep.at (hfk n) hC (fun e => e)
        have zD := Keep.at (hfk n) hD (fun e => e)
        have kk2 := kk.trans (hfk n)
        clear xA xB xC xD xk hf0 hfk hfa hA hB hC hD kk
        generalize f n = wr at zA zB zC zD kk2 ⊢
        have hA := zA
        have hB := zB
        have hC := zC
        have hD := zD
        have kk := kk2
        clear zA zB zC zD kk2
        have cA := At.cell hA
        have cB := At.cell hB
        have cC := At.cell hC
        have cD := At.cell hD
        have fA := At.frozen hA
        have fB := At.frozen hB
        have fC := At.frozen hC
        have fD := At.frozen hD
        go_wp2_with fail
        have kk2 := Keep.setNew (Keep.setNew (Keep.setNew (Keep.setNew (i := 0) kk (p := (p + 1 + 1)) (by omega) (.int .i64 A2.count)) (i := 1) (p := (p + 1 + 1)) (by omega) (.int .i64 A2.sum)) (i := 2) (p := (p + 1 + 1)) (by omega) (.int .i64 A2.lo)) (i := 3) (p := (p + 1 + 1)) (by omega) (.int .i64 A2.hi)
        have oth : ∀ {q : Nat} {c : Array Value} {T : TypeId}, At wr q c T → (p + 1 + 1) ≠ q → At ((((wr.setCell ⟨(p + 1 + 1), 0, none⟩ (.int .i64 A2.count)).setCell ⟨(p + 1 + 1), 1, none⟩ (.int .i64 A2.sum)).setCell ⟨(p + 1 + 1), 2, none⟩ (.int .i64 A2.lo)).setCell ⟨(p + 1 + 1), 3, none⟩ (.int .i64 A2.hi)) q c T :=
          fun h hn => (((h.set_other (a := ⟨(p + 1 + 1), 0, none⟩) hn _).set_other (a := ⟨(p + 1 + 1), 1, none⟩) hn _).set_other (a := ⟨(p + 1 + 1), 2, none⟩) hn _).set_other (a := ⟨(p + 1 + 1), 3, none⟩) hn _
        have same : ∀ {c0 c1 c2 c3 : Value} {T : TypeId}, At wr (p + 1 + 1) #[c0, c1, c2, c3] T → At ((((wr.setCell ⟨(p + 1 + 1), 0, none⟩ (.int .i64 A2.count)).setCell ⟨(p + 1 + 1), 1, none⟩ (.int .i64 A2.sum)).setCell ⟨(p + 1 + 1), 2, none⟩ (.int .i64 A2.lo)).setCell ⟨(p + 1 + 1), 3, none⟩ (.int .i64 A2.hi)) (p + 1 + 1) #[.int .i64 A2.count, .int .i64 A2.sum, .int .i64 A2.lo, .int .i64 A2.hi] T :=
          fun h => At.store4 h _ _ _ _
        replace hA := oth hA (by omega)
        replace hB := oth hB (by omega)
        replace hC := same hC
        replace hD := oth hD (by omega)
        clear oth same kk cA cB cC cD fA fB fC fD
        generalize World.setCell _ _ _ = wr at hA hB hC hD kk2 ⊢
        have kk := kk2
        clear kk2
        go_roundw
        case rel => exact ⟨k + 1, _, B2, _, D, by omega, rfl, eA2.out, eB2.out, by rw [hC3]; exact eA2.out, by rw [hD3, eD.out, hD2], hA, hB, hC, hD, kk⟩
        case measure => simp [intOf]; omega
      · have hC2 : (xs.take (k + 1)).take t = (xs.take k).take t := by
          rw [List.take_take, List.take_take]; congr 1; omega
        obtain ⟨D2, eD2⟩ : ∃ D2, D2 = Agg.of ((xs.take (k + 1)).drop t) := ⟨_, rfl⟩
        have cd := fun w => agg_merge w D (Agg.one x) okD (one_ok hx1)
        rw [e4 (by omega), ← eD2] at cd
        replace cd := Lib.hid cd
        replace eD2 := Lib.hid eD2
        simp only [Agg.cells, Agg.one] at cd
        clear e4
        obtain ⟨ι, hne9, f, hf0, hfk, hfa⟩ := class_of none_ wr
        have xA : ∀ n i, (f n).cell? ⟨p, i, none⟩ = _ := fun n => At.cell (Keep.at (hfk n) hA (fun e => e))
        have xB : ∀ n i, (f n).cell? ⟨p + 1, i, none⟩ = _ := fun n => At.cell (Keep.at (hfk n) hB (fun e => e))
        have xC : ∀ n i, (f n).cell? ⟨p + 1 + 1, i, none⟩ = _ := fun n => At.cell (Keep.at (hfk n) hC (fun e => e))
        have xD : ∀ n i, (f n).cell? ⟨p + 1 + 1 + 1, i, none⟩ = _ := fun n => At.cell (Keep.at (hfk n) hD (fun e => e))
        have xk := fun n => (((kk.trans (hfk n)).below (Nat.le_refl _) not_none).cell hb).trans (hcy)
        refine wp_region_class_tail f 10 (by kernel_rfl) (by kernel_rfl) hf0 ?_
        simp only [List.take_succ_cons, List.take_zero, List.drop_succ_cons, List.drop_zero]
        repeat (go_big_quiet_step (first | (go_at_call 18; exact Calls.class_of hfa (cb.out _)) | (go_at_call 16; exact Calls.class_of hfa (agg_of _ _)) | (go_at_call 20; exact Calls.class_of hfa (cb.out _))))
        refine wpQuiet_nil ?_
        intro n
        have zA := Keep.at (hfk n) hA (fun e => e)
        have zB := Keep.at (hfk n) hB (fun e => e)
        have zC := Keep.at (hfk n) hC (fun e => e)
        have zD := Keep.at (hfk n) hD (fun e => e)
        have kk2 := kk.trans (hfk n)
        clear xA xB xC xD xk hf0 hfk hfa hA hB hC hD kk
        generalize f n = wr at zA zB zC zD kk2 ⊢
        have hA := zA
        have hB := zB
        have hC := zC
        have hD := zD
        have kk := kk2
        clear zA zB zC zD kk2
        have cA := At.cell hA
        have cB := At.cell hB
        have cC := At.cell hC
        have cD := At.cell hD
        have fA := At.frozen hA
        have fB := At.frozen hB
        have fC := At.frozen hC
        have fD := At.frozen hD
        go_wp2_with fail
        have kk2 := Keep.setNew (Keep.setNew (Keep.setNew (Keep.setNew (i := 0) kk (p := (p + 1)) (by omega) (.int .i64 B2.count)) (i := 1) (p := (p + 1)) (by omega) (.int .i64 B2.sum)) (i := 2) (p := (p + 1)) (by omega) (.int .i64 B2.lo)) (i := 3) (p := (p + 1)) (by omega) (.int .i64 B2.hi)
        have oth : ∀ {q : Nat} {c : Array Value} {T : TypeId}, At wr q c T → (p + 1) ≠ q → At ((((wr.setCell ⟨(p + 1), 0, none⟩ (.int .i64 B2.count)).setCell ⟨(p + 1), 1, none⟩ (.int .i64 B2.sum)).setCell ⟨(p + 1), 2, none⟩ (.int .i64 B2.lo)).setCell ⟨(p + 1), 3, none⟩ (.int .i64 B2.hi)) q c T :=
          fun h hn => (((h.set_other (a := ⟨(p + 1), 0, none⟩) hn _).set_other (a := ⟨(p + 1), 1, none⟩) hn _).set_other (a := ⟨(p + 1), 2, none⟩) hn _).set_other (a := ⟨(p + 1), 3, none⟩) hn _
        have same : ∀ {c0 c1 c2 c3 : Value} {T : TypeId}, At wr (p + 1) #[c0, c1, c2, c3] T → At ((((wr.setCell ⟨(p + 1), 0, none⟩ (.int .i64 B2.count)).setCell ⟨(p + 1), 1, none⟩ (.int .i64 B2.sum)).setCell ⟨(p + 1), 2, none⟩ (.int .i64 B2.lo)).setCell ⟨(p + 1), 3, none⟩ (.int .i64 B2.hi)) (p + 1) #[.int .i64 B2.count, .int .i64 B2.sum, .int .i64 B2.lo, .int .i64 B2.hi] T :=
          fun h => At.store4 h _ _ _ _
        replace hA := oth hA (by omega)
        replace hB := same hB
        replace hC := oth hC (by omega)
        replace hD := oth hD (by omega)
        clear oth same kk cA cB cC cD fA fB fC fD
        generalize World.setCell _ _ _ = wr at hA hB hC hD kk2 ⊢
        have kk := kk2
        clear kk2
        obtain ⟨ι, hne9, f, hf0, hfk, hfa⟩ := class_of none_ wr
        have xA : ∀ n i, (f n).cell? ⟨p, i, none⟩ = _ := fun n => At.cell (Keep.at (hfk n) hA (fun e => e))
        have xB : ∀ n i, (f n).cell? ⟨p + 1, i, none⟩ = _ := fun n => At.cell (Keep.at (hfk n) hB (fun e => e))
        have xC : ∀ n i, (f n).cell? ⟨p + 1 + 1, i, none⟩ = _ := fun n => At.cell (Keep.at (hfk n) hC (fun e => e))
        have xD : ∀ n i, (f n).cell? ⟨p + 1 + 1 + 1, i, none⟩ = _ := fun n => At.cell (Keep.at (hfk n) hD (fun e => e))
        have xk := fun n => (((kk.trans (hfk n)).below (Nat.le_refl _) not_none).cell hb).trans (hcx)
        refine wp_region_class_tail f 7 (by kernel_rfl) (by kernel_rfl) hf0 ?_
        simp only [List.take_succ_cons, List.take_zero, List.drop_succ_cons, List.drop_zero]
        repeat (go_big_quiet_step (first | (go_at_call 18; exact Calls.class_of hfa (cd.out _)) | (go_at_call 16; exact Calls.class_of hfa (agg_of _ _)) | (go_at_call 20; exact Calls.class_of hfa (cd.out _))))
        refine wpQuiet_nil ?_
        intro n
        have zA := Keep.at (hfk n) hA (fun e => e)
        have zB := Keep.at (hfk n) hB (fun e => e)
        have zC := Keep.at (hfk n) hC (fun e => e)
        have zD := Keep.at (hfk n) hD (fun e => e)
        have kk2 := kk.trans (hfk n)
        clear xA xB xC xD xk hf0 hfk hfa hA hB hC hD kk
        generalize f n = wr at zA zB zC zD kk2 ⊢
        have hA := zA
        have hB := zB
        have hC := zC
        have hD := zD
        have kk := kk2
        clear zA zB zC zD kk2
        have cA := At.cell hA
        have cB := At.cell hB
        have cC := At.cell hC
        have cD := At.cell hD
        have fA := At.frozen hA
        have fB := At.frozen hB
        have fC := At.frozen hC
        have fD := At.frozen hD
        go_wp2_with fail
        have kk2 := Keep.setNew (Keep.setNew (Keep.setNew (Keep.setNew (i := 0) kk (p := (p + 1 + 1 + 1)) (by omega) (.int .i64 D2.count)) (i := 1) (p := (p + 1 + 1 + 1)) (by omega) (.int .i64 D2.sum)) (i := 2) (p := (p + 1 + 1 + 1)) (by omega) (.int .i64 D2.lo)) (i := 3) (p := (p + 1 + 1 + 1)) (by omega) (.int .i64 D2.hi)
        have oth : ∀ {q : Nat} {c : Array Value} {T : TypeId}, At wr q c T → (p + 1 + 1 + 1) ≠ q → At ((((wr.setCell ⟨(p + 1 + 1 + 1), 0, none⟩ (.int .i64 D2.count)).setCell ⟨(p + 1 + 1 + 1), 1, none⟩ (.int .i64 D2.sum)).setCell ⟨(p + 1 + 1 + 1), 2, none⟩ (.int .i64 D2.lo)).setCell ⟨(p + 1 + 1 + 1), 3, none⟩ (.int .i64 D2.hi)) q c T :=
          fun h hn => (((h.set_other (a := ⟨(p + 1 + 1 + 1), 0, none⟩) hn _).set_other (a := ⟨(p + 1 + 1 + 1), 1, none⟩) hn _).set_other (a := ⟨(p + 1 + 1 + 1), 2, none⟩) hn _).set_other (a := ⟨(p + 1 + 1 + 1), 3, none⟩) hn _
        have same : ∀ {c0 c1 c2 c3 : Value} {T : TypeId}, At wr (p + 1 + 1 + 1) #[c0, c1, c2, c3] T → At ((((wr.setCell ⟨(p + 1 + 1 + 1), 0, none⟩ (.int .i64 D2.count)).setCell ⟨(p + 1 + 1 + 1), 1, none⟩ (.int .i64 D2.sum)).setCell ⟨(p + 1 + 1 + 1), 2, none⟩ (.int .i64 D2.lo)).setCell ⟨(p + 1 + 1 + 1), 3, none⟩ (.int .i64 D2.hi)) (p + 1 + 1 + 1) #[.int .i64 D2.count, .int .i64 D2.sum, .int .i64 D2.lo, .int .i64 D2.hi] T :=
          fun h => At.store4 h _ _ _ _
        replace hA := oth hA (by omega)
        replace hB := oth hB (by omega)
        replace hC := oth hC (by omega)
        replace hD := same hD
        clear oth same kk cA cB cC cD fA fB fC fD
        generalize World.setCell _ _ _ = wr at hA hB hC hD kk2 ⊢
        have kk := kk2
        clear kk2
        go_roundw
        case rel => exact ⟨k + 1, A2, B2, C, D2, by omega, rfl, eA2.out, eB2.out, by rw [hC2]; exact eC.out, eD2.out, hA, hB, hC, hD, kk⟩
        case measure => simp [intOf]; omega
    · have hkn : k = xs.length := by omega
      subst hkn
      rw [List.take_length] at eA eC eD
      rw [List.take_of_length_le (by simp)] at eB
      have eBA : B = A := by rw [eA, eB]; exact Agg.of_perm (List.reverse_perm xs) (fun x hx => hall x (List.mem_reverse.1 hx)) (by simp; unfold MaxI; omega)
      have hlC : (xs.take t).length + (xs.drop t).length = xs.length := by rw [List.length_take, List.length_drop]; omega
      have okCs := mem_I64 hall (m := xs.take t) fun x hx => List.mem_of_mem_take hx
      have okDs := mem_I64 hall (m := xs.drop t) fun x hx => List.mem_of_mem_drop hx
      have eCD : C.merge D = A := by
        rw [eA, eC, eD, Agg.of_append okCs okDs (by unfold MaxI; omega), List.take_append_drop]
      have eDC : D.merge C = A := by
        rw [← eCD, eC, eD]
        exact Agg.merge_comm (Agg.of_nice okDs (by unfold MaxI; omega)) (Agg.of_nice okCs (by unfold MaxI; omega))
      have okC : C.ok := eC ▸ of_ok _ okCs (by omega)
      have okD : D.ok := eD ▸ of_ok _ okDs (by omega)
      have hcount : A.count = xs.length := eA ▸ Agg.of_count hall (by unfold MaxI; omega)
      have hlohi : A.lo ≤ A.hi := eA ▸ Agg.of_lohi (by intro h; simp [h] at hl0) hall (by unfold MaxI; omega)
      have c1 := fun w => agg_merge w C D okC okD
      have c2 := fun w => agg_merge w D C okD okC
      rw [eCD] at c1
      rw [eDC] at c2
      simp only [Agg.cells] at c1 c2
      replace c1 := Lib.hid c1
      replace c2 := Lib.hid c2
      subst eBA
      clear eA eB eC eD eCD eDC
      go_wp2_with fail
      obtain ⟨ι, hne9, f, hf0, hfk, hfa⟩ := class_of none_ wr
      have xA : ∀ n i, (f n).cell? ⟨p, i, none⟩ = _ := fun n => At.cell (Keep.at (hfk n) hA (fun e => e))
      have xB : ∀ n i, (f n).cell? ⟨p + 1, i, none⟩ = _ := fun n => At.cell (Keep.at (hfk n) hB (fun e => e))
      have xC : ∀ n i, (f n).cell? ⟨p + 1 + 1, i, none⟩ = _ := fun n => At.cell (Keep.at (hfk n) hC (fun e => e))
      have xD : ∀ n i, (f n).cell? ⟨p + 1 + 1 + 1, i, none⟩ = _ := fun n => At.cell (Keep.at (hfk n) hD (fun e => e))
      refine wp_region_class f (by kernel_rfl) (by kernel_rfl) hf0 ?_
      repeat (go_big_quiet_step (first
        | (go_at_call 20; with_reducible exact Calls.class_of hfa (c1.out _))
        | (go_at_call 20; with_reducible exact Calls.class_of hfa (c2.out _))))
      refine wpQuiet_nil ?_
      rintro _ ⟨n, rfl⟩
      go_wp2
      go_ret
      exact ⟨rfl, (kk.trans (hfk n)).below (Nat.le_refl _) not_none⟩

set_option maxHeartbeats 1000000 in
theorem aggOrder_out (xs : List Int) (ao : Option Addr) (cap : Nat) (at_ : Int) (W : World) (h : xs.length = 0 ∨ 200 < xs.length ∨ at_ < 0 ∨ xs.length < at_) :
    Calls Try.prog 4 #[.slice ao xs.length cap, .int .i64 at_] W fun e W' => e = .returned (.bool true) ∧ Below W.heap.size W W' := by
  generalize xs.length = n at h ⊢
  by_cases h1 : n = 0
  · subst h1
    go_enter Try.func4, Try.ntmps4
    go_wp2_with fail
    refine (aggUp _).mono ?_
    rintro e w1 ⟨rfl, k1⟩
    go_wp2_with fail
    go_ret
    exact ⟨rfl, k1.below (Nat.le_refl _) not_none⟩
  have hb1 : ((n : Int) == 0) = false := by simp; omega
  by_cases h2 : 200 < n
  · have hb2 : decide ((200 : Int) < n) = true := by simp; omega
    go_enter Try.func4, Try.ntmps4
    go_wp2_with fail
    refine (aggUp _).mono ?_
    rintro e w1 ⟨rfl, k1⟩
    go_wp2_with fail
    go_ret
    exact ⟨rfl, k1.below (Nat.le_refl _) not_none⟩
  have hb2 : decide ((200 : Int) < n) = false := by simp; omega
  by_cases h3 : at_ < 0
  · go_enter Try.func4, Try.ntmps4
    go_wp2_with fail
    refine (aggUp _).mono ?_
    rintro e w1 ⟨rfl, k1⟩
    go_wp2_with fail
    go_ret
    exact ⟨rfl, k1.below (Nat.le_refl _) not_none⟩
  · have h4 : (n : Int) < at_ := by omega
    go_enter Try.func4, Try.ntmps4
    go_wp2_with fail
    refine (aggUp _).mono ?_
    rintro e w1 ⟨rfl, k1⟩
    go_wp2_with fail
    go_ret
    exact ⟨rfl, k1.below (Nat.le_refl _) not_none⟩

theorem law_AggOrder (l : List Int) (v : Value) (a : Int) (W : World) (hc : rSlice 1 rInt W l [v]) (ha : I64 a) :
    Calls Try.prog 4 #[v, .int .i64 a] W fun e W' => e = .returned (.bool true) ∧ Below W.heap.size W W' := by
  by_cases h : l.length = 0 ∨ 200 < l.length ∨ a < 0 ∨ l.length < a
  · obtain ⟨ao, len, cap, e1, rfl, -⟩ := hc
    obtain rfl : v = .slice ao l.length cap := by simpa using e1
    exact aggOrder_out l ao cap a W h
  · exact aggOrder_in l v a W (by omega) (by omega) hc (by omega) (by omega)
end Go.Proofs.Ytkbaijdamddipaa
