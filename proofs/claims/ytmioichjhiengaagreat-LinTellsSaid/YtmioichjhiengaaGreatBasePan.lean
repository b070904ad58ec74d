/-
  Texts of one kind, one behind the other.
-/
import Derived.Test.YtmioichjhiengaaGreatBaseRow
import Derived.Laws.NewBlocks
import Derived.Deep.LoopGhost
set_option linter.unusedSimpArgs false
set_option linter.unusedVariables false
/-
  slices.Insert on panes: at the end; without room; whatever row.
-/
namespace Go.Proofs.YtmioichjhiengaaGreat
open Go.RowKit

theorem own_keepS {S : Nat → Prop} {a w w' : World} {base n : Nat} {e : TypeId} {v : Value} {xs : List Value} {k : Nat} (h : Keep S a w) (own : w.ownsRow base e k v n xs) (hg : w.grownBy w' v.ownBlock) (hs : ∀ g, v.ownBlock = some g → g < a.heap.size → S g) : Keep S a w' :=
  Keep.grown h hg fun q hq hl => hs q hq hl
theorem setCells_drewn (b : Nat) : ∀ (vs : List Value) (o : Nat) (w : World), w.drew.setCells b o vs = (w.setCells b o vs).drew
  | [], _, _ => rfl
  | v :: r, o, w => setCells_drewn b r (o + 1) (w.setCell ⟨b, o, none⟩ v)
theorem wrap_le {n : Nat} (h : n ≤ 9223372036854775807) : IntKind.i64.wrap (n : Int) = n := by rw [IntKind.wrap_i64]; omega

set_option maxHeartbeats 4000000 in
set_option maxRecDepth 100000 in
/-- No row yet. -/
theorem insert_nil {w : World} {vb : Nat} (base : Nat) (hbase : base ≤ w.heap.size) (p : Pane) (hv : At w vb p.cells.toArray 88) :
    Calls Tryz.prog 113 #[.slice none 0 0, .int .i64 0, .slice (some ⟨vb, 0, none⟩) 1 1] w (Inserted w (own_of (.slice none 0 0)) base [p]) := by
  have hsl := Sl.of_at (xs := [p]) hv pane_len (by decide) (rfl : (1 : Nat) = [p].length) (by simp [flat_one]) (by unfold maxLen; omega)
  have hown : w.ownsRow base 88 7 (.slice none 0 0) 0 (flat Pane.cells []) := ⟨rfl, .inl ⟨rfl, rfl⟩⟩
  clear hv
  go_enter Tryz.func113, Tryz.ntmps113
  go_wp2_with (at_builtin; refine wpList_append_sl _ rfl _ _ _ rfl base 88 row_pane pane_len pane_one _ 0 [] rfl hown (some ⟨vb, 0, none⟩) 1 1 [p] rfl hsl (by omega) hbase ?_)
  intro v' w' own' hg hb
  have k2 : Keep (own_of (.slice none 0 0)) w w' := own_keepS (Keep.refl _ _) hown hg (fun g h _ => h)
  clear hsl hown hg hb
  go_wp2_with fail
  go_ret
  exact ⟨_, rfl, own', k2⟩

set_option maxHeartbeats 4000000 in
set_option maxRecDepth 100000 in
/-- At the end. -/
theorem insert_end {w : World} {base g n cap : Nat} {xs : List Pane} (hbase : base ≤ w.heap.size) (own : w.ownsRow base 88 7 (.slice (some ⟨g, 0, none⟩) n cap) n (flat Pane.cells xs)) (hn : n ≤ 900000) {vb : Nat} (p : Pane) (hv : At w vb p.cells.toArray 88) :
    Calls Tryz.prog 113 #[.slice (some ⟨g, 0, none⟩) n cap, .int .i64 n, .slice (some ⟨vb, 0, none⟩) 1 1] w (Inserted w (one g) base (xs ++ [p])) := by
  obtain ⟨cur, hat, hsz, hnx, hnc, hmc, hb, hget⟩ := own_get pane_len (by decide) own
  have hc63 : cap ≤ 9223372036854775807 := by unfold maxLen at hmc; omega
  have hsl := Sl.of_at (xs := [p]) hv pane_len (by decide) (rfl : (1 : Nat) = [p].length) (by simp [flat_one]) (by unfold maxLen; omega)
  clear hv hat hget hsz
  subst hnx
  go_enter Tryz.func113, Tryz.ntmps113
  go_wp2_with (at_builtin; refine wpList_append_sl _ rfl _ _ _ rfl base 88 row_pane pane_len pane_one _ xs.length xs rfl own (some ⟨vb, 0, none⟩) 1 1 [p] rfl hsl (by omega) hbase ?_)
  all_goals
    intro v' w' own' hg hb
    have k2 : Keep (one g) w w' := own_keepS (Keep.refl _ _) own hg (fun z h _ => by
      have : g = z := by simpa [Value.ownBlock] using h
      exact this.symm)
    have own2 : PRow w' base v' (xs ++ [p]) := by
      show World.ownsRow _ _ _ _ _ (xs ++ [p]).length _
      rw [List.length_append]
      exact own'
    clear hsl own hg hb own'
    go_wp2_with fail
    go_ret
    exact ⟨_, rfl, own2, k2⟩

section
variable {α : Type} {enc : α → List Value} {k : Nat}
theorem ins_cells2 (hl : ∀ x, (enc x).length = k) {cur : Array Value} {cap : Nat} {l : List α} {i : Nat} {x : α} (hi : i ≤ l.length) (hget : ∀ q (hq : q < l.length) r, q < i → r < k → cur[q * k + r]? = (enc l[q])[r]?) (hsz : cur.size = cap * k) (hroom : l.length + 1 ≤ cap) :
    ∀ q (hq : q < (insL l i x).length) r, r < k → (putC (putC cur (i * k) (enc x)) ((i + 1) * k) (flat enc (l.drop i)))[q * k + r]? = (enc (insL l i x)[q])[r]? := by
  intro q hq r hr
  rw [← ins_cells hl hi hget hsz hroom q hq r hr]
  have h2 : (i + 1) * k + (l.length - i) * k ≤ cap * k := by rw [← Nat.add_mul]; exact Nat.mul_le_mul_right _ (by omega)
  have h3 : i * k + 1 * k ≤ cap * k := by rw [← Nat.add_mul]; exact Nat.mul_le_mul_right _ (by omega)
  rw [← flat_one (enc := enc) x]
  have L1 := putC_flat hl (putC cur (i * k) (flat enc [x])) (i + 1) (l.drop i) (by rw [putC_size, hsz, List.length_drop]; exact h2) q r hr
  have L2 := putC_flat hl cur i [x] (by rw [hsz]; exact h3) q r hr
  have R1 := putC_flat hl (putC cur ((i + 1) * k) (flat enc (l.drop i))) i [x] (by rw [putC_size, hsz]; exact h3) q r hr
  have R2 := putC_flat hl cur (i + 1) (l.drop i) (by rw [hsz, List.length_drop]; exact h2) q r hr
  rw [L1, R1, L2, R2]
  by_cases h : i ≤ q ∧ q < i + [x].length
  · have h4 : ¬ (i + 1 ≤ q ∧ q < i + 1 + (l.drop i).length) := by simp at h; omega
    rw [dif_neg h4, dif_pos h, dif_pos h]
  · by_cases h4 : i + 1 ≤ q ∧ q < i + 1 + (l.drop i).length
    · rw [dif_pos h4, dif_neg h, dif_pos h4]
    · rw [dif_neg h4, dif_neg h, dif_neg h, dif_neg h4]
end

set_option maxHeartbeats 4000000 in
set_option maxRecDepth 100000 in
/-- No room, not at the end: a new row. -/
theorem insert_grow {w : World} {base g n cap : Nat} {xs : List Pane} (hbase : base ≤ w.heap.size) (own : w.ownsRow base 88 7 (.slice (some ⟨g, 0, none⟩) n cap) n (flat Pane.cells xs)) (i : Nat) (hi : i < n) (hroom : cap < n + 1) (hn : n ≤ 900000) {vb : Nat} (p : Pane) (hv : At w vb p.cells.toArray 88) :
    Calls Tryz.prog 113 #[.slice (some ⟨g, 0, none⟩) n cap, .int .i64 i, .slice (some ⟨vb, 0, none⟩) 1 1] w (Inserted w (one g) base (insL xs i p)) := by
  obtain ⟨cur, hat, hsz, hnx, hnc, hmc, hb, hget⟩ := own_get pane_len (by decide) own
  obtain ⟨i0, z, hi0, hz0, hzs, hzc, hzb⟩ := row_pane.info
  have hc63 : cap ≤ 9223372036854775807 := by unfold maxLen at hmc; omega
  have hz2 : ¬ ((i : Int) = (n : Int)) := by omega
  have hz3 : (cap : Int) < (n : Int) + 1 := by omega
  obtain ⟨cs, hcs⟩ : ∃ cs, cs = flat Pane.cells (xs.drop i) := ⟨_, rfl⟩
  have hcl : cs.length = (n - i) * 7 := by rw [hcs, flat_length pane_len, List.length_drop, hnx]
  have hgw := hat.lt
  have hvw := hv.lt
  have hkk : (n : Int) + 1 - (i : Int) = ((n + 1 - i : Nat) : Int) := by omega
  have hik : i + (n + 1 - i) = n + 1 := by omega
  obtain ⟨hd, hhd⟩ : ∃ hd, hd = flat Pane.cells (xs.take i) := ⟨_, rfl⟩
  have hhl : hd.length = i * 7 := by rw [hhd, flat_length pane_len, List.length_take, Nat.min_eq_left (by omega)]
  have hcell : ∀ q (hq : q < xs.length) r, r < 7 → w.cell? ⟨g, q * 7 + r, none⟩ = (Pane.cells xs[q])[r]? := fun q hq r hr => by rw [At.cell hat]; exact hget q hq r hr
  have hold : (Builtin.firstCells i0.size i (.slice (some ⟨g, 0, none⟩) i cap)).run Tryz.prog w.drew = .ok hd.toArray w.drew := by
    rw [hzs]
    exact run_firstCells_some w.drew 7 i ⟨g, 0, none⟩ i cap hd hhl (fun j v hj => by
      rw [Addr.add_lit, Nat.zero_add]
      have h1 : j < i * 7 := by rw [← hhl]; exact (List.getElem?_eq_some_iff.1 hj).1
      have h3 : j / 7 < (xs.take i).length := by rw [List.length_take]; omega
      have h4 := flat_get pane_len (xs.take i) (j / 7) h3 (j % 7) (Nat.mod_lt _ (by decide))
      rw [show j / 7 * 7 + j % 7 = j by omega, ← hhd, hj, List.getElem_take] at h4
      have h5 := hcell (j / 7) (by rw [List.length_take] at h3; omega) (j % 7) (Nat.mod_lt _ (by decide))
      rw [show j / 7 * 7 + j % 7 = j by omega, ← h4] at h5
      exact h5)
  obtain ⟨G, hG⟩ : ∃ G, G = grownCap w (n + 1) cap 88 := ⟨_, rfl⟩
  obtain ⟨ROW, hROW⟩ : ∃ ROW : Array Value, ROW = hd.toArray ++ Builtin.zeroCells z.cells (n + 1 - i) ++ Builtin.zeroCells z.cells (G - (n + 1)) := ⟨_, rfl⟩
  have hrz : ∀ ty, (Builtin.append_ #[34, 3] ty #[.slice (some ⟨g, 0, none⟩) i cap, .int .i64 ((n : Int) + 1 - (i : Int))]).run Tryz.prog w =
      .ok (.slice (some ⟨w.heap.size, 0, none⟩) (n + 1) G) (w.drew.alloc (.cells ROW 88)) := fun ty => by
    have h := Lib.run_append_grow_zeros w 34 3 ty 88 i0 _ .i64 .i64 Tryz.underlying34 Tryz.underlying3 hi0 hz0 (some ⟨g, 0, none⟩) i cap hd hold (n + 1 - i) (by omega) (by omega) (by omega) (by omega)
      (Nat.le_trans (Nat.mul_le_mul_left _ hzb) (by omega)) (growslice_fits (by omega) (Nat.le_trans (Nat.mul_le_mul_left _ hzb) (by omega)))
    rw [hik, ← hG, ← hROW] at h
    rw [hkk]
    exact h
  have hGn : n + 1 ≤ G := by rw [hG]; exact grownCap_ge w _ _ _
  have hGm : G ≤ maxLen := by
    have := grownCap_le_maxLen w (n + 1) cap 88 (by unfold maxLen; omega)
    rw [← hG] at this
    exact this
  have hG63 : G ≤ 9223372036854775807 := by unfold maxLen at hGm; omega
  have hRl : ROW.size = G * 7 := by
    rw [hROW]
    simp [Builtin.zeroCells, hzc, hhl]
    omega
  have hRget : ∀ q (hq : q < xs.length) r, q < i → r < 7 → ROW[q * 7 + r]? = (Pane.cells xs[q])[r]? := fun q hq r hqi hr => by
    have h1 : q * 7 + r < hd.toArray.size := by
      have : hd.toArray.size = hd.length := by simp
      omega
    rw [hROW, Array.append_assoc, Array.getElem?_append_left h1, List.getElem?_toArray, hhd]
    have := flat_get pane_len (xs.take i) q (by rw [List.length_take]; omega) r hr
    rw [this, List.getElem_take]
  obtain ⟨pc, hpc⟩ : ∃ pc, pc = p.cells := ⟨_, rfl⟩
  have hpl : pc.length = 7 := by rw [hpc]; rfl
  obtain ⟨W1, hW1⟩ : ∃ W1, W1 = w.drew.alloc (.cells ROW 88) := ⟨_, rfl⟩
  have hat1 : At W1 w.heap.size ROW 88 := by rw [hW1]; exact At.newAt (w := w.drew) rfl ROW 88
  have hv1 : At W1 vb p.cells.toArray 88 := by rw [hW1]; exact At.alloc (w := w.drew) hv _
  have hg1 : At W1 g cur 88 := by rw [hW1]; exact At.alloc (w := w.drew) hat _
  have hk1 : Keep (one g) w W1 := by rw [hW1]; exact Keep.alloc (Keep.refl _ _).drew _
  have hcpA : ∀ (W : World), (∀ x, W.cell? x = W1.cell? x) → (∀ x, W.frozen? x = W1.frozen? x) → ∀ ty dl dc, Nat.min 1 dl = 1 → (Builtin.copy_ #[34, 34] ty #[.slice (some ⟨w.heap.size, i * 7, none⟩) dl dc, .slice (some ⟨vb, 0, none⟩) 1 1]).run Tryz.prog W = .ok (goInt (1 : Nat)) (W.setCells w.heap.size (i * 7) pc) := fun W hWc hWf ty dl dc hm =>
    run_copy_k W _ _ ty 88 7 w.heap.size (i * 7) dl dc ⟨vb, 0, none⟩ 1 1 1 pc Tryz.underlying34 size_pane hm (by rw [hpl])
      (fun j v hj => by rw [Addr.add_lit, hWc, At.cell hv1, Nat.zero_add, List.getElem?_toArray, ← hpc, hj])
      (fun j hj => by rw [hWc, At.cell hat1, Array.getElem?_eq_getElem (by rw [hRl]; rw [hpl] at hj; omega)]; rfl)
      (fun j hj => by rw [hWf]; exact At.frozen hat1 _) (by rw [hpc]; exact pane_one p)
  obtain ⟨W2, hW2⟩ : ∃ W2, W2 = W1.setCells w.heap.size (i * 7) pc := ⟨_, rfl⟩
  have hat2 : At W2 w.heap.size (putC ROW (i * 7) pc) 88 := by
    rw [hW2, setCells_stores]
    exact At.setL (w := W1) pc hat1
  have hg2 : At W2 g cur 88 := by
    rw [hW2, setCells_stores]
    exact At.setL_other (w := W1) (by omega) pc hg1
  have hk2 : Keep (one g) w W2 := by
    rw [hW2, setCells_stores]
    exact Keep.setL (S := one g) (fun h => absurd h (Nat.lt_irrefl _)) pc hk1
  have hcpB : ∀ (W : World), (∀ x, W.cell? x = W2.cell? x) → (∀ x, W.frozen? x = W2.frozen? x) → ∀ ty dl dc sl sc, Nat.min sl dl = n - i → (Builtin.copy_ #[34, 34] ty #[.slice (some ⟨w.heap.size, (i + 1) * 7, none⟩) dl dc, .slice (some ⟨g, i * 7, none⟩) sl sc]).run Tryz.prog W = .ok (goInt ((n - i : Nat))) (W.setCells w.heap.size ((i + 1) * 7) cs) := fun W hWc hWf ty dl dc sl sc hm =>
    run_copy_k W _ _ ty 88 7 w.heap.size ((i + 1) * 7) dl dc ⟨g, i * 7, none⟩ sl sc (n - i) cs Tryz.underlying34 size_pane hm hcl
      (fun j v hj => by
        rw [Addr.add_lit, hWc, At.cell hg2]
        have h1 : j < (n - i) * 7 := by rw [← hcl]; exact (List.getElem?_eq_some_iff.1 hj).1
        have h3 : (i * 7 + j) / 7 < xs.length := by omega
        have h4 := hget ((i * 7 + j) / 7) h3 ((i * 7 + j) % 7) (Nat.mod_lt _ (by decide))
        have h5 := flat_get pane_len xs ((i * 7 + j) / 7) h3 ((i * 7 + j) % 7) (Nat.mod_lt _ (by decide))
        rw [show (i * 7 + j) / 7 * 7 + (i * 7 + j) % 7 = i * 7 + j by omega] at h4 h5
        rw [hcs, flat_drop pane_len xs i (by omega), List.getElem?_drop] at hj
        rw [h4, ← h5, hj])
      (fun j hj => by rw [hWc, At.cell hat2, Array.getElem?_eq_getElem (by rw [putC_size, hRl]; rw [hcl] at hj; omega)]; rfl)
      (fun j hj => by rw [hWf]; exact At.frozen hat2 _) (fun v hv => by rw [hcs] at hv; exact pane_cells1 hv)
  have hfin : Hid (Inserted w (one g) base (insL xs i p) (.returned (.slice (some ⟨w.heap.size, 0, none⟩) (n + 1) G)) (W2.setCells w.heap.size ((i + 1) * 7) cs).drew) := by
    have ha := At.setL (w := W2) cs (o := (i + 1) * 7) hat2
    rw [← setCells_stores] at ha
    have hk3 : Keep (one g) w (W2.setCells w.heap.size ((i + 1) * 7) cs) := by
      rw [setCells_stores]
      exact Keep.setL (S := one g) (fun h => absurd h (Nat.lt_irrefl _)) cs hk2
    refine ⟨_, rfl, ?_, hk3.drew⟩
    have := own_of_get pane_len (by decide) ha (by rw [putC_size, putC_size, hRl]) (n := n + 1) (l := insL xs i p) (by rw [insL_len, hnx]) hGn hGm hbase
      (by rw [hcs, hpc]; exact ins_cells2 pane_len (by omega) hRget hRl (by omega))
    show World.ownsRow _ _ _ _ _ (insL xs i p).length _
    rw [insL_len, ← hnx]
    exact own_drew this
  have hi00 := Int.natCast_nonneg i
  have hw1 : IntKind.i64.wrap ((i : Int) + 1) = ((i + 1 : Nat) : Int) := by rw [IntKind.wrap_i64]; omega
  have hGi : ¬ (G = i) := by omega
  have hGim : ¬ (G = i + 1) := by omega
  have hci : ¬ (cap = i) := by omega
  have hin : i ≤ n := by omega
  have hin1 : i ≤ n + 1 := by omega
  have hicap : i ≤ cap := by omega
  have hb6 : (0 : Int) ≤ (i : Int) + 1 := by omega
  have hb3 : (i : Int) ≤ (n : Int) := by omega
  subst hnx
  have hm2 : Nat.min 1 (xs.length + 1 - i) = 1 := by simp only [Nat.min_def]; split <;> omega
  have hm1 : Nat.min (xs.length - i) (xs.length - i) = xs.length - i := by simp only [Nat.min_def]; split <;> omega
  clear hpc hpl
  clear own hat hget hcs hcl hat1 hv1 hk1 hv hsz hRget hRl hROW hhd hhl hold hcell hkk hik hat2 hg2 hk2 hg1 hi0 hz0 hzs hzc hzb hG hGm hmc
  have hE1 : ∀ x, ((w.alloc (.cells ROW 88)).drew).cell? x = W1.cell? x := fun x => by rw [hW1]; rfl
  have hE2 : ∀ x, ((w.alloc (.cells ROW 88)).drew).frozen? x = W1.frozen? x := fun x => by rw [hW1]; rfl
  have hF1 : ∀ x, (((w.alloc (.cells ROW 88)).drew.setCells w.heap.size (i * 7) pc).drew).cell? x = W2.cell? x := fun x => by rw [hW2, hW1]; rfl
  have hF2 : ∀ x, (((w.alloc (.cells ROW 88)).drew.setCells w.heap.size (i * 7) pc).drew).frozen? x = W2.frozen? x := fun x => by rw [hW2, hW1]; rfl
  go_enter Tryz.func113, Tryz.ntmps113
  go_wp2_with (first
    | (at_builtin; refine Lib.wpList_append_run _ rfl _ _ _ _ rfl _ _ rfl rfl _ _ (hrz _) ?_)
    | (at_builtin; refine wpList_copy_run rfl (.tmp 43) (.tmp 44) 34 34 rfl _ _ rfl rfl (hcpA _ hE1 hE2 _ _ _ hm2) ?_))
  go_region_law (refine step_copy_run rfl (.tmp 50) (.tmp 53) 34 34 rfl (.slice (some ⟨w.heap.size, (i + 1) * 7, none⟩) (xs.length - i) (G - (i + 1))) (.slice (some ⟨g, i * 7, none⟩) (xs.length - i) (cap - i)) (by simp [Act.eval, Act.put]) (by simp [Act.eval, Act.put]) (hcpB _ hF1 hF2 _ _ _ _ _ hm1) ?_)
  go_wp2_with fail
  go_ret
  have h9 := hfin.out
  rw [hW2, hW1] at h9
  rw [setCells_drewn]
  exact h9

theorem insL_end {α : Type} (l : List α) (x : α) : insL l l.length x = l ++ [x] := by simp [insL]
/-- slices.Insert of one pane into a row of the call's own, wherever. -/
theorem pane_insert {w : World} {base n : Nat} {v : Value} {xs : List Pane} (hbase : base ≤ w.heap.size) (own : w.ownsRow base 88 7 v n (flat Pane.cells xs)) (i : Nat) (hi : i ≤ n) (hn : n ≤ 900000) {vb : Nat} (p : Pane) (hv : At w vb p.cells.toArray 88) (hne : v.ownBlock ≠ some vb) :
    Calls Tryz.prog 113 #[v, .int .i64 i, .slice (some ⟨vb, 0, none⟩) 1 1] w (Inserted w (own_of v) base (insL xs i p)) := by
  have hnx := own_len pane_len (by decide) own
  rcases own.2 with ⟨rfl, h0⟩ | ⟨g, cap, cur, rfl, -⟩
  · subst h0
    have : xs = [] := List.length_eq_zero_iff.1 hnx.symm
    subst this
    obtain rfl : i = 0 := by omega
    exact insert_nil base hbase p hv
  · have hS : own_of (.slice (some ⟨g, 0, none⟩) n cap) = one g := by
      funext z
      simp only [own_of, one, Value.ownBlock, Option.some.injEq, eq_iff_iff]
      exact ⟨fun h => h.symm, fun h => h.symm⟩
    rw [hS]
    by_cases h1 : i = n
    · subst h1
      have := insert_end hbase own hn p hv
      rw [hnx, insL_end]
      rw [hnx] at this
      exact this
    · have hg : vb ≠ g := fun e => hne (by rw [e]; rfl)
      by_cases hr : n + 1 ≤ cap
      · exact insert_in own i (by omega) hr p hv hg
      · exact insert_grow hbase own i (by omega) (by omega) hn p hv
end Go.Proofs.YtmioichjhiengaaGreat

/-
  slices.Delete of one pane.
-/
namespace Go.Proofs.YtmioichjhiengaaGreat
open Go.RowKit

def delL {α : Type} (l : List α) (i : Nat) : List α := l.take i ++ l.drop (i + 1)
theorem delL_len {α : Type} {l : List α} {i : Nat} (hi : i < l.length) : (delL l i).length = l.length - 1 := by simp [delL]; omega
theorem delL_get? {α : Type} {l : List α} {i : Nat} (hi : i < l.length) (q : Nat) : (delL l i)[q]? = if q < i then l[q]? else l[q + 1]? := by
  unfold delL
  have hl : (l.take i).length = i := by rw [List.length_take]; omega
  by_cases h : q < i
  · rw [if_pos h, List.getElem?_append_left (by omega), List.getElem?_take_of_lt h]
  · rw [if_neg h, List.getElem?_append_right (by omega), hl, List.getElem?_drop]
    congr 1; omega
def paneZs : List Value := [.string ⟨#[]⟩, .int .i64 0, .int .i64 0, .int .i64 0, .int .i64 0, .int .i64 0, .int .i64 0]
set_option maxHeartbeats 4000000 in
set_option maxRecDepth 100000 in
theorem pane_delete {w : World} {base g n cap : Nat} {xs : List Pane} (own : w.ownsRow base 88 7 (.slice (some ⟨g, 0, none⟩) n cap) n (flat Pane.cells xs)) (i j : Nat) (hi : i < n) (hj : j = i + 1) :
    Calls Tryz.prog 76 #[.slice (some ⟨g, 0, none⟩) n cap, .int .i64 i, .int .i64 j] w (Inserted w (one g) base (delL xs i)) := by
  obtain ⟨cur, hat, hsz, hnx, hnc, hmc, hb, hget⟩ := own_get pane_len (by decide) own
  obtain ⟨i0, z, hi0, hz0, hzs, hzc, hzb⟩ := row_pane.info
  have hc63 : cap ≤ 9223372036854775807 := by unfold maxLen at hmc; omega
  obtain ⟨news, hnews⟩ : ∃ news, news = flat Pane.cells (xs.drop j) := ⟨_, rfl⟩
  have hnl : news.length = (n - j) * 7 := by rw [hnews, flat_length pane_len, List.length_drop, hnx]
  obtain ⟨A, hA, hsrc⟩ : ∃ A : Addr, (if cap = j then (some ⟨g, 0, none⟩ : Option Addr) else some ⟨g, j * 7, none⟩) = some A ∧ Hid (∀ t u, news[t]? = some u → w.drew.cell? (A.add t) = some u) := by
    by_cases h : cap = j
    · refine ⟨⟨g, 0, none⟩, by simp [h], fun t u hu => ?_⟩
      have h0 : news.length = 0 := by rw [hnl]; omega
      rw [List.length_eq_zero_iff.1 h0] at hu
      simp at hu
    · refine ⟨⟨g, j * 7, none⟩, by simp [h], fun t u hu => ?_⟩
      have h1 : t < (n - j) * 7 := by rw [← hnl]; exact (List.getElem?_eq_some_iff.1 hu).1
      have h3 : (j * 7 + t) / 7 < xs.length := by omega
      have h4 := hget ((j * 7 + t) / 7) h3 ((j * 7 + t) % 7) (Nat.mod_lt _ (by decide))
      have h5 := flat_get pane_len xs ((j * 7 + t) / 7) h3 ((j * 7 + t) % 7) (Nat.mod_lt _ (by decide))
      rw [show (j * 7 + t) / 7 * 7 + (j * 7 + t) % 7 = j * 7 + t by omega] at h4 h5
      rw [hnews, flat_drop pane_len xs j (by omega), List.getElem?_drop] at hu
      rw [Addr.add_lit]
      refine Eq.trans (At.cell hat _) ?_
      rw [h4, ← h5, hu]
  have s2 : Hid (∀ u ∈ news, u.oneCell' = true) := fun u hu => by rw [hnews] at hu; exact pane_cells1 hu
  have s3 : Hid (∀ t, t < news.length → (w.drew.cell? ⟨g, 0 + i * 7 + t, none⟩).isSome = true ∧ w.drew.frozen? ⟨g, 0 + i * 7 + t, none⟩ = false) := by
    intro t ht
    rw [hnl] at ht
    refine ⟨?_, At.frozen hat _⟩
    have : w.drew.cell? ⟨g, 0 + i * 7 + t, none⟩ = cur[0 + i * 7 + t]? := At.cell hat _
    rw [this, Array.getElem?_eq_getElem (by rw [hsz]; omega)]; rfl
  obtain ⟨W1, hW1⟩ : ∃ W1, W1 = w.drew.setCells g (0 + i * 7) news := ⟨_, rfl⟩
  have hat1 : At W1 g (putC cur (i * 7) news) 88 := by
    rw [hW1, setCells_stores, Nat.zero_add]
    exact At.setL (w := w.drew) news hat
  have hk1 : Keep (one g) w W1 := by
    rw [hW1, setCells_stores]
    exact Keep.setL (S := one g) (fun _ => rfl) news (Keep.refl _ _).drew
  have hzl : paneZs.length = 7 := rfl
  have hcl : ∀ ty c, (Builtin.clear_ #[34] ty #[.slice (some ⟨g, (i + (n - j)) * 7, none⟩) (n - (i + (n - j))) c]).run Tryz.prog W1 = .ok (.tuple #[]) (W1.setCells g ((i + (n - j)) * 7) paneZs) := fun ty c =>
    run_clear_k W1 _ _ ty _ Tryz.underlying34 Tryz.zeroValue88 g ((i + (n - j)) * 7) _ c paneZs (by rw [show n - (i + (n - j)) = 1 by omega]; kernel_rfl) (by intro v hv; simp [paneZs] at hv; rcases hv with rfl | rfl <;> rfl) (by omega)
      (fun t ht => by rw [At.cell hat1, Array.getElem?_eq_getElem (by rw [putC_size, hsz]; omega)]; rfl) (fun t ht => At.frozen hat1 _)
  obtain ⟨zs, hzs9⟩ : ∃ zs, zs = paneZs := ⟨_, rfl⟩
  rw [← hzs9] at hcl hzl
  have hfin : Hid (Inserted w (one g) base (delL xs i) (.returned (.slice (some ⟨g, 0, none⟩) (i + (n - j)) cap)) (W1.setCells g ((i + (n - j)) * 7) zs)) := by
    have ha := At.setL (w := W1) zs (o := (i + (n - j)) * 7) hat1
    rw [← setCells_stores] at ha
    refine ⟨_, rfl, ?_, by rw [setCells_stores]; exact Keep.setL (S := one g) (fun _ => rfl) zs hk1⟩
    have hll := delL_len (l := xs) (i := i) (by omega)
    have := own_of_get pane_len (by decide) ha (by rw [putC_size, putC_size, hsz]) (n := i + (n - j)) (l := delL xs i) (by rw [hll]; omega) (by omega) hmc hb (fun q hq r hr => by
      rw [hll] at hq
      have e := delL_get? (l := xs) (i := i) (by omega) q
      rw [List.getElem?_eq_getElem (by rw [hll]; exact hq)] at e
      rw [putC_get _ _ _ _ (by rw [putC_size, hsz, hzl]; omega), if_neg (by omega), hnews, putC_flat pane_len cur i (xs.drop j) (by rw [hsz, List.length_drop]; omega) q r hr]
      by_cases h : i ≤ q ∧ q < i + (xs.drop j).length
      · rw [dif_pos h]
        rw [if_neg (by omega), List.getElem?_eq_getElem (by omega)] at e
        rw [Option.some.inj e]
        simp only [List.getElem_drop, show j + (q - i) = q + 1 by omega]
      · rw [dif_neg h]
        rw [List.length_drop] at h
        rw [if_pos (by omega), List.getElem?_eq_getElem (by omega)] at e
        rw [Option.some.inj e]
        exact hget q (by omega) r hr)
    show World.ownsRow _ _ _ _ _ (delL xs i).length _
    rw [hll, show xs.length - 1 = i + (n - j) by omega]
    exact this
  have hW : Hid (W1 = w.drew.setCells g (0 + i * 7) news) := hW1
  have hi00 := Int.natCast_nonneg i
  have hj00 := Int.natCast_nonneg j
  have hij : ¬ ((i : Int) = (j : Int)) := by omega
  have hic : i ≤ cap := by omega
  have hin : i ≤ n := by omega
  have hij2 : i ≤ j := by omega
  have hjn : j ≤ n := by omega
  have hjc : j ≤ cap := by omega
  have hnx0 : i + (n - j) ≤ n := by omega
  have hcx : ¬ cap = i + (n - j) := by omega
  replace hj := Lib.hid hj
  replace hnx := Lib.hid hnx
  replace hnl := Lib.hid hnl
  replace hzs := Lib.hid hzs
  clear own hat hget hnews hat1 hk1 hsz hz0 hzc hzb hmc hzs9 hzl hW1
  go_enter Tryz.func76, Tryz.ntmps76
  go_wp2_with fail
  go_region_law (refine step_append_room rfl (.tmp 22) (.tmp 25) 34 rfl 88 i0 7 Tryz.underlying34 hi0 hzs.out g 0 i cap (by simp [Act.eval, Act.put]) A (n - j) (cap - j) news (by simp [Act.eval, Act.put]) hnl.out hsrc.out s2.out (by omega) s3.out ?_; rw [← hW.out])
  go_wp2_with fail
  go_ret
  exact hfin.out
end Go.Proofs.YtmioichjhiengaaGreat

/-
  slices.IndexFunc, DeleteFunc on windows, with pane.Merge's own predicate.
-/
namespace Go.Proofs.YtmioichjhiengaaGreat
open Go.RowKit

theorem span_len (x : Span) : x.cells.length = 2 := rfl
theorem span_one (x : Span) : ∀ u ∈ x.cells, u.oneCell' = true := by
  intro u hu
  simp only [Span.cells, List.mem_cons, List.not_mem_nil, or_false] at hu
  rcases hu with rfl | rfl <;> rfl
theorem row_span : Row Tryz.prog 104 84 2 := row_of (b := 16) (z := .agg #[.int .i64 0, .int .i64 0]) Tryz.underlying104 (by kernel_rfl) rfl (by decide) (by decide)
abbrev SRow (w : World) (base : Nat) (v : Value) (l : List Span) : Prop := w.ownsRow base 84 2 v l.length (flat Span.cells l)
def idxF {α : Type} (q : α → Bool) (l : List α) : Int := if l.findIdx q < l.length then (l.findIdx q : Nat) else -1

theorem merge_1 {w : World} {pb : Nat} {p : Pane} (hp : At w pb p.cells.toArray 88) (x : Span) :
    Calls Tryz.prog 121 #[.agg x.cells.toArray, .pointer (some ⟨pb, 0, none⟩)] w fun e w' => e = .returned (.bool (x.eqB p.span)) ∧ Keep none_ w w' := by
  have hx := At.new w x.cells.toArray 84
  have kk : Keep none_ w (w.alloc (.cells x.cells.toArray 84)) := (by repeat' (first | assumption | with_reducible exact Keep.refl _ _ | with_reducible refine Keep.alloc ?_ _ | with_reducible refine Keep.drew ?_))
  have cp := At.cell (Keep.at kk hp (fun e => e))
  have cx := At.cell hx
  have he := run_eql_Span x p.span
  generalize x.eqB p.span = b at *
  simp only [Span.cells, Pane.cells] at cp cx kk he ⊢
  clear hp hx
  go_enter Tryz.func121, Tryz.ntmps121
  go_wp2_with fail
  go_ret
  exact ⟨rfl, kk⟩

set_option maxHeartbeats 4000000 in
theorem index_fun {w : World} {A : Option Addr} {n c : Nat} {xs : List Span} (h : Sl Span.cells 2 w A n c xs) (hn : n ≤ 900000) {pb : Nat} {p : Pane} (hp : At w pb p.cells.toArray 88) :
    Calls Tryz.prog 137 #[.slice A n c, .func (.func 121) #[] #[.pointer (some ⟨pb, 0, none⟩)]] w fun e w' =>
      e = .returned (.int .i64 (idxF (fun x => x.eqB p.span) xs)) ∧ Keep none_ w w' := by
  have hlen := Lib.hid h.len
  have hlc := h.2.1
  go_enter Tryz.func137, Tryz.ntmps137
  go_wp2_with fail
  go_loopw [5, 8] (fun _ kv wr => ∃ k : Nat, kv = .int .i64 k ∧ k ≤ n ∧ Hid (∀ i (hi : i < xs.length), i < k → xs[i].eqB p.span = false) ∧ Keep none_ w wr)
    (fun _ kv _ => n - (intOf kv).toNat)
  case atStart => exact ⟨0, rfl, Nat.zero_le _, Lib.hid (fun i _ h => absurd h (Nat.not_lt_zero _)), Keep.refl _ _⟩
  case round =>
    obtain ⟨k, rfl, hk, hall, kk⟩ := hrel
    by_cases hlt : k < n
    · have hkx : k < xs.length := by have := hlen.out; omega
      have hsl := h.keep kk Off.none_
      have c1 := merge_1 (Keep.at kk hp (fun e => e)) xs[k]
      obtain ⟨b, off, rfl, hbl, -⟩ := hsl.at_ (by omega)
      have q0 : wr.cell? ⟨b, off + k * 2, none⟩ = _ := hsl.cellk hkx 0 (by omega)
      have q1 : wr.cell? ⟨b, off + k * 2 + 1, none⟩ = _ := hsl.cellk hkx 1 (by omega)
      simp only [Span.cells, List.getElem?_cons_zero, List.getElem?_cons_succ, Nat.add_zero] at q0 q1 c1
      obtain ⟨bb, hbb⟩ : ∃ bb, bb = xs[k].eqB p.span := ⟨_, rfl⟩
      rw [← hbb] at c1
      replace hbb := Lib.hid hbb
      replace c1 := Lib.hid c1
      have hlt' : (k : Int) < (n : Int) := by omega
      have hk0 := Int.natCast_nonneg k
      generalize xs[k] = x at q0 q1 c1
      clear hsl h hp
      go_wp2_with fail
      refine c1.out.mono ?_
      rintro e w1 ⟨rfl, k1⟩
      replace kk := kk.trans k1
      clear c1 q0 q1 k1
      cases bb
      · go_wp2_with fail
        go_roundw
        case rel => exact ⟨k + 1, by go_num, by omega, Lib.hid (fun i hi hik => by
          rcases Nat.eq_or_lt_of_le (Nat.le_of_lt_succ hik) with rfl | hik
          · exact hbb.out.symm
          · exact hall.out i hi hik), kk⟩
        case measure => simp [intOf]; omega
      · have hf : idxF (fun x => x.eqB p.span) xs = (k : Int) := by
          have : xs.findIdx (fun x => x.eqB p.span) = k := (List.findIdx_eq hkx).2 ⟨hbb.out.symm, fun j hj => hall.out j (by omega) hj⟩
          unfold idxF
          rw [this, if_pos hkx]
        replace hf := Lib.hid hf
        go_wp2_with fail
        go_ret
        exact ⟨by rw [hf.out]; rfl, kk⟩
    · have hf : idxF (fun x => x.eqB p.span) xs = -1 := by
        unfold idxF
        rw [if_neg]
        intro h9
        have := List.findIdx_getElem (w := h9)
        rw [hall.out _ h9 (by have := hlen.out; omega)] at this
        cases this
      replace hf := Lib.hid hf
      clear h hp
      go_wp2_with fail
      go_ret
      exact ⟨by rw [hf.out]; rfl, kk⟩

def Deleted (w : World) (v0 : Value) (S : Nat → Prop) (base : Nat) (l : List Span) (e : Ending) (w' : World) : Prop := ∃ v, e = .returned v ∧ SRow w' base v l ∧ Keep S w w' ∧ v.ownBlock = v0.ownBlock
theorem idxF_no {α : Type} {q : α → Bool} {l : List α} (h : ¬ l.findIdx q < l.length) : l.filter (fun x => !q x) = l := by
  rw [List.filter_eq_self]
  intro x hx
  cases hq : q x
  · rfl
  · exact absurd (List.findIdx_lt_length.2 ⟨x, hx, hq⟩) h
theorem take_filter {α : Type} {q : α → Bool} {l : List α} {k : Nat} (hk : l.findIdx q = k) (hlt : k < l.length) : (l.take (k + 1)).filter (fun x => !q x) = l.take k := by
  rw [List.take_succ_eq_append_getElem hlt, List.filter_append]
  have h1 : (l.take k).filter (fun x => !q x) = l.take k := by
    rw [List.filter_eq_self]
    intro x hx
    obtain ⟨i, hi, rfl⟩ := List.getElem_of_mem hx
    rw [List.getElem_take]
    rw [List.length_take] at hi
    have := List.not_of_lt_findIdx (p := q) (xs := l) (i := i) (by omega)
    simpa using this
  have h2 : q l[k] = true := by
    subst hk
    exact List.findIdx_getElem (w := hlt)
  rw [h1]
  simp [h2]
set_option maxHeartbeats 4000000 in
set_option maxRecDepth 100000 in
theorem delete_fun {w : World} {base n : Nat} {v : Value} {xs : List Span} (own : w.ownsRow base 84 2 v n (flat Span.cells xs)) (hn : n ≤ 900000) {pb : Nat} {p : Pane} (hp : At w pb p.cells.toArray 88) (hne : v.ownBlock ≠ some pb) :
    Calls Tryz.prog 120 #[v, .func (.func 121) #[] #[.pointer (some ⟨pb, 0, none⟩)]] w (Deleted w v (own_of v) base (xs.filter (fun x => !(x.eqB p.span)))) := by
  have hnx := own_len span_len (by decide) own
  obtain ⟨A, c, rfl⟩ := own_form own
  have hsl := Sl.of_own span_len (by decide) own
  have c1 := index_fun hsl hn hp
  by_cases hk : xs.findIdx (fun x => x.eqB p.span) < xs.length
  · have c9 := idxF_no (q := fun x : Span => x.eqB p.span) (l := xs)
    obtain ⟨k, hke⟩ : ∃ k, xs.findIdx (fun x => x.eqB p.span) = k := ⟨_, rfl⟩
    have htf := take_filter hke (by omega)
    unfold idxF at c1
    rw [if_pos hk, hke] at c1
    rw [hke] at hk
    replace c1 := Lib.hid c1
    obtain ⟨g, cap, hv, hbg, hgw, hnc, hmc⟩ := own_some own (by omega)
    obtain ⟨rfl, rfl⟩ : A = some ⟨g, 0, none⟩ ∧ c = cap := by simpa using hv
    have hS : own_of (.slice (some ⟨g, 0, none⟩) n c) = one g := by
      funext z
      simp only [own_of, one, Value.ownBlock, Option.some.injEq, eq_iff_iff]
      exact ⟨fun h => h.symm, fun h => h.symm⟩
    rw [hS]
    have hpg : pb ≠ g := fun e => hne (by rw [e]; rfl)
    have hc63 : c ≤ 9223372036854775807 := by unfold maxLen at hmc; omega
    have hk1 : ((k : Int) == -1) = false := by rw [beq_eq_false_iff_ne]; omega
    obtain ⟨j0, hj0⟩ : ∃ j0, j0 = k + 1 := ⟨_, rfl⟩
    have ej0 : (k : Int) + 1 = (j0 : Int) := by omega
    have hkn : k < n := by omega
    have hj0n : j0 ≤ n := by omega
    rw [← hj0] at htf
    replace hj0 := Lib.hid hj0
    replace htf := Lib.hid htf
    replace hke := Lib.hid hke
    replace hnx := Lib.hid hnx
    clear hsl hv c9 hne hk hbg
    go_enter Tryz.func120, Tryz.ntmps120
    go_wp2_with fail
    refine c1.out.mono ?_
    rintro e w1 ⟨rfl, k1⟩
    replace own := own_keep own k1 (fun _ _ e => e)
    replace hp := Keep.at k1 hp (fun e => e)
    have kk : Keep (one g) w w1 := k1.of_none
    clear c1 k1 hgw
    go_wp2_with fail
    go_loopw [5, 6, 7] (fun iv jv _ wr => ∃ (i j : Nat) (L : List Span), iv = .int .i64 i ∧ jv = .int .i64 j ∧ i < j ∧ j ≤ n ∧ Hid (L.length = n) ∧ Hid (L.take i = (xs.take j).filter (fun x => !(x.eqB p.span))) ∧ Hid (L.drop j = xs.drop j) ∧
        wr.ownsRow base 84 2 (.slice (some ⟨g, 0, none⟩) n c) n (flat Span.cells L) ∧ Keep (one g) w1 wr)
      (fun _ jv _ _ => n - (intOf jv).toNat)
    case atStart => exact ⟨k, j0, xs, rfl, rfl, by have := hj0.out; omega, hj0n, Lib.hid hnx.out.symm, Lib.hid htf.out.symm, Lib.hid rfl, own, Keep.refl _ _⟩
    case round =>
      clear own hk1 ej0 hkn hj0n htf hke hj0
      obtain ⟨i, j, L, rfl, rfl, hij, hjn, hL, ht, hd, own, k2⟩ := hrel
      have hLl := hL.out
      have hin : i < n := by omega
      have hi0 := Int.natCast_nonneg i
      have hj0 := Int.natCast_nonneg j
      by_cases hlt : j < n
      · have hjx : j < xs.length := by have := hnx.out; omega
        have hjL : j < L.length := by omega
        have hLj : L[j] = xs[j] := by
          have h9 := congrArg (fun l => l[0]?) hd.out
          simp only [List.getElem?_drop, Nat.add_zero, List.getElem?_eq_getElem hjL, List.getElem?_eq_getElem hjx, Option.some.injEq] at h9
          exact h9
        have hsl := Sl.of_own span_len (by decide) own
        have q0 : wr.cell? ⟨g, j * 2, none⟩ = some (.int .i64 L[j].s) := by have := hsl.cellk hjL 0 (by omega); simpa using this
        have q1 : wr.cell? ⟨g, j * 2 + 1, none⟩ = some (.int .i64 L[j].e) := by have := hsl.cellk hjL 1 (by omega); simpa using this
        rw [hLj] at q0 q1
        have hf1 : (xs.take (j + 1)).filter (fun x => !(x.eqB p.span)) = (xs.take j).filter (fun x => !(x.eqB p.span)) ++ (if xs[j].eqB p.span then [] else [xs[j]]) := by
          rw [List.take_succ_eq_append_getElem hjx, List.filter_append]
          congr 1
          cases h9 : xs[j].eqB p.span <;> simp [h9]
        have hd1 : xs.drop j = xs[j] :: xs.drop (j + 1) := List.drop_eq_getElem_cons hjx
        have hpr := Keep.at k2 hp hpg
        obtain ⟨x, hx⟩ : ∃ x, x = xs[j] := ⟨_, rfl⟩
        rw [← hx] at q0 q1 hf1 hd1
        have c2 := merge_1 (Keep.at (Keep.alloc (Keep.refl none_ wr) (.cells x.cells.toArray 84)) hpr (fun e => e)) x
        have hnew := At.new wr x.cells.toArray 84
        obtain ⟨bb, hbb⟩ : ∃ bb, bb = x.eqB p.span := ⟨_, rfl⟩
        rw [← hbb] at c2 hf1
        simp only [Span.cells] at q0 q1 c2 hnew
        replace hbb := Lib.hid hbb
        replace c2 := Lib.hid c2
        replace hf1 := Lib.hid hf1
        replace hd1 := Lib.hid hd1
        have hlt' : (j : Int) < (n : Int) := by omega
        have hjc : j < c := by omega
        have hn63 : (n : Int) ≤ 900000 := by omega
        replace hx := Lib.hid hx
        replace hLj := Lib.hid hLj
        replace hnew := Lib.hid hnew
        have kn := Keep.alloc (Keep.refl none_ wr) (.cells #[.int .i64 x.s, .int .i64 x.e] 84)
        have own' := own_keep own kn (fun _ _ e => e)
        have hgw := own.lt g rfl
        replace hLl := Lib.hid hLl
        clear hsl hpr own
        go_wp2_with fail
        refine c2.out.mono ?_
        rintro e w2 ⟨rfl, k3⟩
        have kk3 := k2.trans ((kn.trans k3).of_none)
        have own2 := own_keep own' k3 (fun _ _ e => e)
        have hnew2 := Keep.at k3 hnew.out (fun e => e)
        clear c2 q0 q1 k3 own' kn k2 hnew
        cases bb
        · have hiL : i < L.length := by have := hL.out; omega
          have cn := At.cell hnew2
          have hsl2 := Sl.of_own span_len (by decide) own2
          have r0 : w2.cell? ⟨g, i * 2, none⟩ = some (.int .i64 L[i].s) := by have := hsl2.cellk hiL 0 (by omega); simpa using this
          have r1 : w2.cell? ⟨g, i * 2 + 1, none⟩ = some (.int .i64 L[i].e) := by have := hsl2.cellk hiL 1 (by omega); simpa using this
          obtain ⟨cur, hcur, -⟩ := own_get span_len (by decide) own2
          have fz := hcur.frozen
          have own3 := own_stores span_len (by decide) own2 i hiL x
          have k4 := Keep.setL (S := one g) (p := g) (fun _ => rfl) x.cells (o := i * 2) kk3
          have ht1 : (L.set i x).take (i + 1) = (xs.take (j + 1)).filter (fun x => !(x.eqB p.span)) := by
            rw [hf1.out, ← ht.out, List.take_set, List.take_succ_eq_append_getElem hiL, List.set_append_right _ _ (by rw [List.length_take]; omega)]
            simp [List.length_take, Nat.min_eq_left (Nat.le_of_lt hiL)]
          have hd2 : (L.set i x).drop (j + 1) = xs.drop (j + 1) := by
            rw [List.drop_set_of_lt (by omega)]
            have h9 := congrArg (List.drop 1) hd.out
            rw [List.drop_drop, List.drop_drop] at h9
            exact h9
          simp only [Span.cells, stores] at own3 k4
          replace ht1 := Lib.hid ht1
          replace hd2 := Lib.hid hd2
          have hic : i < c := by omega
          have hin' : (i : Int) < (n : Int) := by omega
          clear hsl2 own2 kk3 hcur hnew2
          go_wp2_with fail
          go_roundw
          case rel => exact ⟨i + 1, j + 1, L.set i x, by go_num, by go_num, by omega, by omega, Lib.hid (by rw [List.length_set]; exact hL.out), ht1, hd2, own3, k4⟩
          case measure => simp [intOf]; omega
        · clear hnew2
          go_wp2_with fail
          go_roundw
          case rel => exact ⟨i, j + 1, L, rfl, by go_num, by omega, by omega, hL, Lib.hid (by rw [hf1.out, ht.out]; simp), Lib.hid (by
            have h9 := congrArg (List.drop 1) hd.out
            rw [List.drop_drop, List.drop_drop] at h9
            exact h9), own2, kk3⟩
          case measure => simp [intOf]; omega
      · obtain rfl : j = n := by omega
        obtain ⟨cur, hat, hsz, hLn, -, -, hbg, hget⟩ := own_get span_len (by decide) own
        obtain ⟨zs, hzs⟩ : ∃ zs, zs = (Builtin.zeroCells (Value.agg #[.int .i64 0, .int .i64 0]).cells (j - i)).toList := ⟨_, rfl⟩
        have hzl : zs.length = (j - i) * 2 := by rw [hzs]; simp [Builtin.zeroCells, Value.cells]
        have hz1 : ∀ v ∈ zs, v.oneCell' = true := by
          intro v hv
          rw [hzs] at hv
          simp only [Builtin.zeroCells, Array.toList_map, List.mem_map] at hv
          obtain ⟨q, -, rfl⟩ := hv
          have : q % 2 = 0 ∨ q % 2 = 1 := by omega
          rcases this with e | e <;> simp [Value.cells, e, Value.oneCell']
        have hcl : ∀ ty c', (Builtin.clear_ #[104] ty #[.slice (some ⟨g, i * 2, none⟩) (j - i) c']).run Tryz.prog wr = .ok (.tuple #[]) (wr.setCells g (i * 2) zs) := fun ty c' =>
          run_clear_k wr _ _ ty _ Tryz.underlying104 Tryz.zeroValue84 g (i * 2) _ c' zs hzs.symm hz1 (by omega)
            (fun t ht => by rw [At.cell hat, Array.getElem?_eq_getElem (by rw [hsz]; omega)]; rfl) (fun t ht => At.frozen hat _)
        have hff : L.take i = xs.filter (fun x => !(x.eqB p.span)) := by
          have := ht.out
          rw [hnx.out, List.take_length] at this
          exact this
        have hfin : Hid (SRow (wr.setCells g (i * 2) zs) base (.slice (some ⟨g, 0, none⟩) i c) (xs.filter (fun x => !(x.eqB p.span))) ∧ Keep (one g) w (wr.setCells g (i * 2) zs)) := by
          have ha := At.setL (w := wr) zs (o := i * 2) hat
          rw [← setCells_stores] at ha
          refine ⟨?_, by rw [setCells_stores]; exact Keep.setL (S := one g) (fun _ => rfl) zs (kk.trans k2)⟩
          have hl9 : (L.take i).length = i := by rw [List.length_take]; have := hL.out; omega
          have := own_of_get span_len (by decide) ha (by rw [putC_size, hsz]) (n := i) (l := L.take i) hl9.symm (by omega) hmc hbg (fun q hq r hr => by
            rw [hl9] at hq
            rw [putC_get _ _ _ _ (by rw [hsz, hzl]; omega), if_neg (by omega), List.getElem_take]
            exact hget q (by have := hL.out; omega) r hr)
          rw [← hff]
          show World.ownsRow _ _ _ _ _ (L.take i).length _
          rw [hl9]
          exact this
        have hic : ¬ c = i := by omega
        have hicc : i ≤ c := by omega
        have hjn' : ¬ (j : Int) < (j : Int) := by omega
        have hi63 : i ≤ j := by omega
        clear own hat hsz hget hzs hzl hz1 hff ht hd hL hLn hLl k2 hlt
        go_wp2_with fail
        go_ret
        exact ⟨.slice (some ⟨g, 0, none⟩) i c, rfl, hfin.out.1, hfin.out.2, rfl⟩
  · have hf : xs.filter (fun x => !(x.eqB p.span)) = xs := idxF_no hk
    rw [hf]
    unfold idxF at c1
    rw [if_neg hk] at c1
    replace c1 := Lib.hid c1
    have hfin : Hid (∀ w', Keep none_ w w' → SRow w' base (.slice A n c) xs) := fun w' k1 => by
      show World.ownsRow _ _ _ _ _ xs.length _
      rw [← hnx]
      exact own_keep own k1 (fun _ _ e => e)
    replace hnx := Lib.hid hnx
    clear hsl own hp hne hf
    go_enter Tryz.func120, Tryz.ntmps120
    go_wp2_with fail
    refine c1.out.mono ?_
    rintro e w1 ⟨rfl, k1⟩
    go_wp2_with fail
    go_ret
    exact ⟨.slice A n c, rfl, hfin.out _ k1, k1.of_none, rfl⟩
end Go.Proofs.YtmioichjhiengaaGreat
