/-
  pane.Put.
-/
import Derived.Test.YtmioichjhiengaaGreatPane
import Derived.Deep.RegionWith
set_option linter.unusedSimpArgs false
set_option linter.unusedVariables false
namespace Go.Proofs.YtmioichjhiengaaGreat
open Go.RowKit

/-- Of one element of a row the last cells are stored anew. -/
theorem own_part {α : Type} {enc : α → List Value} {k : Nat} {w : World} {base g n cap : Nat} {e : TypeId} {l : List α} (hl : ∀ x, (enc x).length = k) (hk : 0 < k) (h : w.ownsRow base e k (.slice (some ⟨g, 0, none⟩) n cap) n (flat enc l))
    (i : Nat) (hi : i < l.length) (y : α) (j : Nat) (vs : List Value) (hj : j + vs.length = k) (hy : enc y = (enc l[i]).take j ++ vs) : (stores w g (i * k + j) vs).ownsRow base e k (.slice (some ⟨g, 0, none⟩) n cap) n (flat enc (l.set i y)) := by
  obtain ⟨cur, hat, hsz, hnx, hnc, hmc, hb, hget⟩ := own_get hl hk h
  have hfit : i * k + j + vs.length ≤ cur.size := by
    rw [hsz, Nat.add_assoc, hj]
    calc i * k + k = (i + 1) * k := by rw [Nat.add_mul]; omega
      _ ≤ cap * k := Nat.mul_le_mul_right _ (by omega)
  refine own_of_get hl hk (At.setL (w := w) vs (o := i * k + j) hat) (by rw [putC_size, hsz]) (by rw [List.length_set]; exact hnx) hnc hmc hb (fun q hq r hr => ?_)
  rw [List.length_set] at hq
  rw [putC_get _ _ _ _ hfit]
  have e0 := hget q hq r hr
  by_cases hqi : q = i
  · subst hqi
    rw [List.getElem_set_self, hy]
    by_cases hrj : r < j
    · rw [if_neg (by omega), e0, List.getElem?_append_left (by rw [List.length_take, hl]; omega), List.getElem?_take_of_lt hrj]
    · rw [if_pos (by omega), List.getElem?_append_right (by rw [List.length_take, hl]; omega), List.length_take, hl, Nat.min_eq_left (by omega)]
      congr 1; omega
  · rw [if_neg, e0, List.getElem_set_ne (fun e => hqi e.symm)]
    intro ⟨h1, h2⟩
    apply hqi
    have h3 : ¬ q < i := fun h => by have := slot_lt (k := k) (r := r) h hr; omega
    have h4 : ¬ i + 1 ≤ q := fun h => by
      have := slot_ge (k := k) (r := r) h
      rw [Nat.add_mul] at this
      omega
    omega
theorem own_of_ge {w : World} {base n : Nat} {e : TypeId} {v : Value} {k : Nat} {xs : List Value} (h : w.ownsRow base e k v n xs) : ∀ q, own_of v q → base ≤ q := fun q hq => (h.lt q hq).1

set_option maxHeartbeats 4000000 in
set_option maxRecDepth 100000 in
theorem pane_put {w : World} {A : Option Addr} {n c : Nat} {xs : List Pane} (h : Sl Pane.cells 7 w A n c xs) (hs : SortedP xs) (hok : ∀ p ∈ xs, p.ok) (hn : n ≤ 800000) (key : ByteArray) (s : Span) (v : Int) (hv : I64 v) :
    Calls Tryz.prog 84 #[.slice A n c, .string key, .agg s.cells.toArray, .int .i64 v] w (Cloned w (putP xs key s v)) := by
  have hlen := h.len
  have kk : Keep none_ w (w.alloc (.cells s.cells.toArray 84)) := (by repeat' (first | assumption | with_reducible exact Keep.refl _ _ | with_reducible refine Keep.alloc ?_ _ | with_reducible refine Keep.drew ?_))
  have hx := At.new w s.cells.toArray 84
  have c1 := Lib.hid (pane_clone (h.keep kk Off.none_) (by omega))
  simp only [Span.cells] at kk hx c1 ⊢
  replace hlen := Lib.hid hlen
  clear h
  go_enter Tryz.func84, Tryz.ntmps84
  go_wp2_with fail
  have hsz0 : w.heap.size < (w.alloc (.cells #[.int .i64 s.s, .int .i64 s.e] 84)).heap.size := by simp
  generalize w.alloc _ = w0 at *
  refine c1.out.mono ?_
  rintro e w1 ⟨v1, rfl, own1, k1⟩
  obtain ⟨A1, d1, rfl⟩ := own_form own1
  have hxl1 := Keep.at k1 hx (fun e => e)
  have hsl1 := Sl.of_own pane_len (by decide) own1
  have c2 := Lib.hid (pane_at hsl1 hs (by have := hlen.out; omega) s)
  simp only [Span.cells] at c2
  have k01 := kk.trans k1
  have cs1 := At.cell hxl1
  have hb1 := k1.size
  clear c1 k1 kk hx hsl1
  go_wp2_with fail
  refine c2.out.mono ?_
  rintro e w2 ⟨rfl, k2⟩
  have own2 := own_keep own1 k2 (fun _ _ e => e)
  have hx2 := Keep.at k2 hxl1 (fun e => e)
  have k02 := k01.trans k2
  have hb2 := Nat.le_trans hb1 k2.size
  clear c2 own1 hxl1 k2 k01 cs1 hb1
  cases hb : isP xs s
  · have hp : putP xs key s v = insL xs (lbP xs s) ⟨key, s, Agg.one v⟩ := by unfold putP; rw [hb]
    rw [hp]
    have hlb := lbP_le xs s
    have hxl := hx2.lt
    have hins := fun W (k : Keep none_ w2 W) => pane_insert (base := w0.heap.size) (w := W.alloc (.cells (Pane.cells ⟨key, s, Agg.one v⟩).toArray 88)) (vb := W.heap.size) (by
        have := k.size
        simp only [World.size_alloc]
        omega)
      (own_keep (own_keep own2 k (fun _ _ e => e)) (S := none_) (by repeat' (first | assumption | with_reducible exact Keep.refl _ _ | with_reducible refine Keep.alloc ?_ _ | with_reducible refine Keep.drew ?_)) (fun _ _ e => e)) (lbP xs s) hlb (by have := hlen.out; omega) ⟨key, s, Agg.one v⟩ (At.new W _ _) (fun e => by
        have := (own2.lt _ e).2
        have := k.size
        omega)
    have hfin : Hid (∀ W w3 v3, Keep none_ w2 W → PRow w3 w0.heap.size v3 (insL xs (lbP xs s) ⟨key, s, Agg.one v⟩) → Keep (own_of (.slice A1 xs.length d1)) (W.alloc (.cells (Pane.cells ⟨key, s, Agg.one v⟩).toArray 88)) w3 → PRow w3 w.heap.size v3 (insL xs (lbP xs s) ⟨key, s, Agg.one v⟩) ∧ Keep none_ w w3) := fun W w3 v3 kW o3 k3 =>
      ⟨own_lower o3 (by omega), Keep.fresh (k02.trans (Keep.alloc kW _)) k3 (fun q hq e => by have := own_of_ge own2 q e; omega)⟩
    have hxs := fun W (k : Keep none_ w2 W) => At.cell (Keep.at k hx2 (fun e => e))
    have cs2 := At.cell hx2
    simp only [Pane.cells] at hins hfin ⊢
    replace hins := Lib.hid hins
    replace hxs := Lib.hid hxs
    replace hp := Lib.hid hp
    clear hs hok hb own2
    generalize insL xs (lbP xs s) ⟨key, s, Agg.one v⟩ = L at *
    go_wp2_with fail
    go_region_with (first
      | (go_at_call 114; refine (agg_of _ _).mono ?_; rintro e wA ⟨rfl, kA⟩; have csA := hxs.out wA (Keep.trans (by repeat' (first | assumption | with_reducible exact Keep.refl _ _ | with_reducible refine Keep.alloc ?_ _ | with_reducible refine Keep.drew ?_)) kA); have kA2 : Keep none_ w2 wA := Keep.trans (by repeat' (first | assumption | with_reducible exact Keep.refl _ _ | with_reducible refine Keep.alloc ?_ _ | with_reducible refine Keep.drew ?_)) kA)
      | (go_at_call 113; refine (hins.out _ (by repeat' (first | assumption | with_reducible exact Keep.refl _ _ | with_reducible refine Keep.alloc ?_ _ | with_reducible refine Keep.drew ?_))).mono ?_; rintro e w3 ⟨v3, rfl, o3, k3⟩))
    all_goals
      have hh := hfin.out _ w3 _ (by repeat' (first | assumption | with_reducible exact Keep.refl _ _ | with_reducible refine Keep.alloc ?_ _ | with_reducible refine Keep.drew ?_)) o3 k3
      clear hfin hins hxs k3 o3
      go_wp2_with fail
      go_ret
      exact ⟨v3, rfl, by rw [hp.out]; exact hh.1, hh.2⟩
  · obtain ⟨hl, -⟩ := isP_at hb
    have hp : putP xs key s v = xs.set (lbP xs s) { xs[lbP xs s] with agg := xs[lbP xs s].agg.merge (Agg.one v) } := by unfold putP; rw [hb, List.getElem?_eq_getElem hl]
    obtain ⟨g, cap, hv9, -, hgw, hnc, hmc⟩ := own_some own2 (by omega)
    obtain ⟨rfl, rfl⟩ : A1 = some ⟨g, 0, none⟩ ∧ d1 = cap := by simpa using hv9
    have hok1 := hok _ (List.getElem_mem hl)
    have c3 := fun W => agg_add W xs[lbP xs s].agg v hok1.2.2 hv
    obtain ⟨i, hi⟩ : ∃ i, i = lbP xs s := ⟨_, rfl⟩
    have hsl2 := (Sl.of_own pane_len (by decide) own2).pane hl
    obtain ⟨p0, p1, p2, p3, p4, p5, p6⟩ := hsl2
    obtain ⟨x, hx⟩ : ∃ x, x = xs[lbP xs s] := ⟨_, rfl⟩
    rw [← hx, ← hi] at hp
    rw [← hx] at c3
    rw [← hx, ← hi] at p0 p1 p2 p3 p4 p5 p6
    rw [← hi]
    have hil : i < xs.length := by omega
    have hilN : (i : Int) < (xs.length : Int) := by omega
    have hi0 := Int.natCast_nonneg i
    have hxi : Hid (x = xs[i]) := Lib.hid (by subst hi; exact hx)
    generalize x.agg.merge (Agg.one v) = m at hp c3
    simp only [Agg.cells] at c3
    replace c3 := Lib.hid c3
    replace hp := Lib.hid hp
    simp only [Nat.zero_add] at p0 p1 p2 p3 p4 p5 p6
    clear hv9 hs hok hb hok1 hl hx hi hx2
    go_wp2_with fail
    refine (c3.out _).mono ?_
    rintro e w3 ⟨rfl, k3⟩
    have own3 := own_keep own2 k3 (fun _ _ e => e)
    obtain ⟨cur, hat, hsz, -⟩ := own_get pane_len (by decide) own3
    have fz := hat.frozen
    have hP3 := (Sl.of_own pane_len (by decide) own3).pane hil
    have q3 := hP3.c3
    have q4 := hP3.c4
    have q5 := hP3.c5
    have q6 := hP3.c6
    have hfin := own_part pane_len (by decide) own3 i hil { x with agg := m } 3 [.int .i64 m.count, .int .i64 m.sum, .int .i64 m.lo, .int .i64 m.hi] rfl (by rw [← hxi.out]; rfl)
    have hkk := Keep.setL (S := one g) (p := g) (fun _ => rfl) [.int .i64 m.count, .int .i64 m.sum, .int .i64 m.lo, .int .i64 m.hi] (o := i * 7 + 3) ((Keep.refl (one g) w2).trans k3.of_none)
    simp only [stores] at hfin hkk
    simp only [Nat.zero_add, Nat.add_assoc, Nat.reduceAdd] at q3 q4 q5 q6
    have hg9 := own_of_ge own2 g rfl
    clear hP3 hat hsz own3 own2 k3 p0 p1 p2 p3 p4 p5 p6
    go_wp2_with fail
    have h9 := own_lower hfin (b' := w.heap.size) (by omega)
    have hk9 := Keep.fresh k02 hkk (fun q hq e => by unfold one at e; omega)
    clear hfin hkk
    go_ret
    exact ⟨.slice (some ⟨g, 0, none⟩) xs.length d1, rfl, by
      rw [hp.out]
      show World.ownsRow _ _ _ _ _ (xs.set i _).length _
      rw [List.length_set]
      exact h9, hk9⟩
end Go.Proofs.YtmioichjhiengaaGreat
