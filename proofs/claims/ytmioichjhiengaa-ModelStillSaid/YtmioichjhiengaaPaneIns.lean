/-
  slices.Insert on panes: at the end; without room; whatever row.
-/
import Derived.Test.YtmioichjhiengaaBaseRow
import Derived.Laws.NewBlocks
namespace Go.Proofs.Ytmioichjhiengaa
open Go.RowKit

theorem own_keepS {S : Nat → Prop} {a w w' : World} {base n : Nat} {e : TypeId} {v : Value} {xs : List Value} {k : Nat} (h : Keep S a w) (own : w.ownsRow base e k v n xs) (hg : w.grownBy w' v.ownBlock) (hs : ∀ g, v.ownBlock = some g → g < a.heap.size → S g) : Keep S a w' :=
  Keep.grown h hg fun q hq hl => hs q hq hl
theorem setCells_drewn (b : Nat) : ∀ (vs : List Value) (o : Nat) (w : World), w.drew.setCells b o vs = (w.setCells b o vs).drew
  | [], _, _ => rfl
  | v :: r, o, w => setCells_drewn b r (o + 1) (w.setCell ⟨b, o, none⟩ v)
theorem wrap_le {n : Nat} (h : n ≤ 9223372036854775807) : IntKind.i64.wrap (n : Int) = n := by rw [IntKind.wrap_i64]; omega

set_option maxHeartbeats 4000000 in
set_option maxRecDepth 100000 in
/-- No row yet. -/
theorem insert_nil {w : World} {vb : Nat} (base : Nat) (hbase : base ≤ w.heap.size) (p : Pane) (hv : At w vb p.cells.toArray 32) :
    Calls Try.prog 57 #[.slice none 0 0, .int .i64 0, .slice (some ⟨vb, 0, none⟩) 1 1] w (Inserted w (own_of (.slice none 0 0)) base [p]) := by
  have hsl := Sl.of_at (xs := [p]) hv pane_len (by decide) (rfl : (1 : Nat) = [p].length) (by simp [flat_one]) (by unfold maxLen; omega)
  have hown : w.ownsRow base 32 7 (.slice none 0 0) 0 (flat Pane.cells []) := ⟨rfl, .inl ⟨rfl, rfl⟩⟩
  clear hv
  go_enter Try.func57, Try.ntmps57
  go_wp2_with (at_builtin; refine wpList_append_sl _ rfl _ _ _ rfl base 32 row_pane pane_len pane_one _ 0 [] rfl hown (some ⟨vb, 0, none⟩) 1 1 [p] rfl hsl (by omega) hbase ?_)
  intro v' w' own' hg hb
  have k2 : Keep (own_of (.slice none 0 0)) w w' := own_keepS (Keep.refl _ _) hown hg (fun g h _ => h)
  clear hsl hown hg hb
  go_wp2_with fail
  go_ret
  exact ⟨_, rfl, own', k2⟩

set_option maxHeartbeats 4000000 in
set_option maxRecDepth 100000 in
/-- At the end. -/
theorem insert_end {w : World} {base g n cap : Nat} {xs : List Pane} (hbase : base ≤ w.heap.size) (own : w.ownsRow base 32 7 (.slice (some ⟨g, 0, none⟩) n cap) n (flat Pane.cells xs)) (hn : n ≤ 900000) {vb : Nat} (p : Pane) (hv : At w vb p.cells.toArray 32) :
    Calls Try.prog 57 #[.slice (some ⟨g, 0, none⟩) n cap, .int .i64 n, .slice (some ⟨vb, 0, none⟩) 1 1] w (Inserted w (one g) base (xs ++ [p])) := by
  obtain ⟨cur, hat, hsz, hnx, hnc, hmc, hb, hget⟩ := own_get pane_len (by decide) own
  have hc63 : cap ≤ 9223372036854775807 := by unfold maxLen at hmc; omega
  have hsl := Sl.of_at (xs := [p]) hv pane_len (by decide) (rfl : (1 : Nat) = [p].length) (by simp [flat_one]) (by unfold maxLen; omega)
  clear hv hat hget hsz
  subst hnx
  go_enter Try.func57, Try.ntmps57
  go_wp2_with (at_builtin; refine wpList_append_sl _ rfl _ _ _ rfl base 32 row_pane pane_len pane_one _ xs.length xs rfl own (some ⟨vb, 0, none⟩) 1 1 [p] rfl hsl (by omega) hbase ?_)
  all_goals
    intro v' w' own' hg hb
    have k2 : Keep (one g) w w' := own_keepS (Keep.refl _ _) own hg (fun z h _ => by
      have : g = z := by simpa [Value.ownBlock] using h
      exact this.symm)
    have own2 : PRow w' base v' (xs ++ [p]) := by
      show World.ownsRow _ _ _ _ _ (xs ++ [p]).length _
      rw [List.length_append]
      exact own'
    clear hsl own hg hb own'
    go_wp2_with fail
    go_ret
    exact ⟨_, rfl, own2, k2⟩

section
variable {α : Type} {enc : α → List Value} {k : Nat}
theorem ins_cells2 (hl : ∀ x, (enc x).length = k) {cur : Array Value} {cap : Nat} {l : List α} {i : Nat} {x : α} (hi : i ≤ l.length) (hget : ∀ q (hq : q < l.length) r, q < i → r < k → cur[q * k + r]? = (enc l[q])[r]?) (hsz : cur.size = cap * k) (hroom : l.length + 1 ≤ cap) :
    ∀ q (hq : q < (insL l i x).length) r, r < k → (putC (putC cur (i * k) (enc x)) ((i + 1) * k) (flat enc (l.drop i)))[q * k + r]? = (enc (insL l i x)[q])[r]? := by
  intro q hq r hr
  rw [← ins_cells hl hi hget hsz hroom q hq r hr]
  have h2 : (i + 1) * k + (l.length - i) * k ≤ cap * k := by rw [← Nat.add_mul]; exact Nat.mul_le_mul_right _ (by omega)
  have h3 : i * k + 1 * k ≤ cap * k := by rw [← Nat.add_mul]; exact Nat.mul_le_mul_right _ (by omega)
  rw [← flat_one (enc := enc) x]
  have L1 := putC_flat hl (putC cur (i * k) (flat enc [x])) (i + 1) (l.drop i) (by rw [putC_size, hsz, List.length_drop]; exact h2) q r hr
  have L2 := putC_flat hl cur i [x] (by rw [hsz]; exact h3) q r hr
  have R1 := putC_flat hl (putC cur ((i + 1) * k) (flat enc (l.drop i))) i [x] (by rw [putC_size, hsz]; exact h3) q r hr
  have R2 := putC_flat hl cur (i + 1) (l.drop i) (by rw [hsz, List.length_drop]; exact h2) q r hr
  rw [L1, R1, L2, R2]
  by_cases h : i ≤ q ∧ q < i + [x].length
  · have h4 : ¬ (i + 1 ≤ q ∧ q < i + 1 + (l.drop i).length) := by simp at h; omega
    rw [dif_neg h4, dif_pos h, dif_pos h]
  · by_cases h4 : i + 1 ≤ q ∧ q < i + 1 + (l.drop i).length
    · rw [dif_pos h4, dif_neg h, dif_pos h4]
    · rw [dif_neg h4, dif_neg h, dif_neg h, dif_neg h4]
end

set_option maxHeartbeats 4000000 in
set_option maxRecDepth 100000 in
/-- No room, not at the end: a new row. -/
theorem insert_grow {w : World} {base g n cap : Nat} {xs : List Pane} (hbase : base ≤ w.heap.size) (own : w.ownsRow base 32 7 (.slice (some ⟨g, 0, none⟩) n cap) n (flat Pane.cells xs)) (i : Nat) (hi : i < n) (hroom : cap < n + 1) (hn : n ≤ 900000) {vb : Nat} (p : Pane) (hv : At w vb p.cells.toArray 32) :
    Calls Try.prog 57 #[.slice (some ⟨g, 0, none⟩) n cap, .int .i64 i, .slice (some ⟨vb, 0, none⟩) 1 1] w (Inserted w (one g) base (insL xs i p)) := by
  obtain ⟨cur, hat, hsz, hnx, hnc, hmc, hb, hget⟩ := own_get pane_len (by decide) own
  obtain ⟨i0, z, hi0, hz0, hzs, hzc, hzb⟩ := row_pane.info
  have hc63 : cap ≤ 9223372036854775807 := by unfold maxLen at hmc; omega
  have hz2 : ¬ ((i : Int) = (n : Int)) := by omega
  have hz3 : (cap : Int) < (n : Int) + 1 := by omega
  obtain ⟨cs, hcs⟩ : ∃ cs, cs = flat Pane.cells (xs.drop i) := ⟨_, rfl⟩
  have hcl : cs.length = (n - i) * 7 := by rw [hcs, flat_length pane_len, List.length_drop, hnx]
  have hgw := hat.lt
  have hvw := hv.lt
  have hkk : (n : Int) + 1 - (i : Int) = ((n + 1 - i : Nat) : Int) := by omega
  have hik : i + (n + 1 - i) = n + 1 := by omega
  obtain ⟨hd, hhd⟩ : ∃ hd, hd = flat Pane.cells (xs.take i) := ⟨_, rfl⟩
  have hhl : hd.length = i * 7 := by rw [hhd, flat_length pane_len, List.length_take, Nat.min_eq_left (by omega)]
  have hcell : ∀ q (hq : q < xs.length) r, r < 7 → w.cell? ⟨g, q * 7 + r, none⟩ = (Pane.cells xs[q])[r]? := fun q hq r hr => by rw [At.cell hat]; exact hget q hq r hr
  have hold : (Builtin.firstCells i0.size i (.slice (some ⟨g, 0, none⟩) i cap)).run Try.prog w.drew = .ok hd.toArray w.drew := by
    rw [hzs]
    exact run_firstCells_some w.drew 7 i ⟨g, 0, none⟩ i cap hd hhl (fun j v hj => by
      rw [Addr.add_lit, Nat.zero_add]
      have h1 : j < i * 7 := by rw [← hhl]; exact (List.getElem?_eq_some_iff.1 hj).1
      have h3 : j / 7 < (xs.take i).length := by rw [List.length_take]; omega
      have h4 := flat_get pane_len (xs.take i) (j / 7) h3 (j % 7) (Nat.mod_lt _ (by decide))
      rw [show j / 7 * 7 + j % 7 = j by omega, ← hhd, hj, List.getElem_take] at h4
      have h5 := hcell (j / 7) (by rw [List.length_take] at h3; omega) (j % 7) (Nat.mod_lt _ (by decide))
      rw [show j / 7 * 7 + j % 7 = j by omega, ← h4] at h5
      exact h5)
  obtain ⟨G, hG⟩ : ∃ G, G = grownCap w (n + 1) cap 32 := ⟨_, rfl⟩
  obtain ⟨ROW, hROW⟩ : ∃ ROW : Array Value, ROW = hd.toArray ++ Builtin.zeroCells z.cells (n + 1 - i) ++ Builtin.zeroCells z.cells (G - (n + 1)) := ⟨_, rfl⟩
  have hrz : ∀ ty, (Builtin.append_ #[26, 3] ty #[.slice (some ⟨g, 0, none⟩) i cap, .int .i64 ((n : Int) + 1 - (i : Int))]).run Try.prog w =
      .ok (.slice (some ⟨w.heap.size, 0, none⟩) (n + 1) G) (w.drew.alloc (.cells ROW 32)) := fun ty => by
    have h := Lib.run_append_grow_zeros w 26 3 ty 32 i0 _ .i64 .i64 Try.underlying26 Try.underlying3 hi0 hz0 (some ⟨g, 0, none⟩) i cap hd hold (n + 1 - i) (by omega) (by omega) (by omega) (by omega)
      (Nat.le_trans (Nat.mul_le_mul_left _ hzb) (by omega)) (growslice_fits (by omega) (Nat.le_trans (Nat.mul_le_mul_left _ hzb) (by omega)))
    rw [hik, ← hG, ← hROW] at h
    rw [hkk]
    exact h
  have hGn : n + 1 ≤ G := by rw [hG]; exact grownCap_ge w _ _ _
  have hGm : G ≤ maxLen := by
    have := grownCap_le_maxLen w (n + 1) cap 32 (by unfold maxLen; omega)
    rw [← hG] at this
    exact this
  have hG63 : G ≤ 9223372036854775807 := by unfold maxLen at hGm; omega
  have hRl : ROW.size = G * 7 := by
    rw [hROW]
    simp [Builtin.zeroCells, hzc, hhl]
    omega
  have hRget : ∀ q (hq : q < xs.length) r, q < i → r < 7 → ROW[q * 7 + r]? = (Pane.cells xs[q])[r]? := fun q hq r hqi hr => by
    have h1 : q * 7 + r < hd.toArray.size := by
      have : hd.toArray.size = hd.length := by simp
      omega
    rw [hROW, Array.append_assoc, Array.getElem?_append_left h1, List.getElem?_toArray, hhd]
    have := flat_get pane_len (xs.take i) q (by rw [List.length_take]; omega) r hr
    rw [this, List.getElem_take]
  obtain ⟨pc, hpc⟩ : ∃ pc, pc = p.cells := ⟨_, rfl⟩
  have hpl : pc.length = 7 := by rw [hpc]; rfl
  obtain ⟨W1, hW1⟩ : ∃ W1, W1 = w.drew.alloc (.cells ROW 32) := ⟨_, rfl⟩
  have hat1 : At W1 w.heap.size ROW 32 := by rw [hW1]; exact At.newAt (w := w.drew) rfl ROW 32
  have hv1 : At W1 vb p.cells.toArray 32 := by rw [hW1]; exact At.alloc (w := w.drew) hv _
  have hg1 : At W1 g cur 32 := by rw [hW1]; exact At.alloc (w := w.drew) hat _
  have hk1 : Keep (one g) w W1 := by rw [hW1]; exact Keep.alloc (Keep.refl _ _).drew _
  have hcpA : ∀ (W : World), (∀ x, W.cell? x = W1.cell? x) → (∀ x, W.frozen? x = W1.frozen? x) → ∀ ty dl dc, Nat.min 1 dl = 1 → (Builtin.copy_ #[26, 26] ty #[.slice (some ⟨w.heap.size, i * 7, none⟩) dl dc, .slice (some ⟨vb, 0, none⟩) 1 1]).run Try.prog W = .ok (goInt (1 : Nat)) (W.setCells w.heap.size (i * 7) pc) := fun W hWc hWf ty dl dc hm =>
    run_copy_k W _ _ ty 32 7 w.heap.size (i * 7) dl dc ⟨vb, 0, none⟩ 1 1 1 pc Try.underlying26 size_pane hm (by rw [hpl])
      (fun j v hj => by rw [Addr.add_lit, hWc, At.cell hv1, Nat.zero_add, List.getElem?_toArray, ← hpc, hj])
      (fun j hj => by rw [hWc, At.cell hat1, Array.getElem?_eq_getElem (by rw [hRl]; rw [hpl] at hj; omega)]; rfl)
      (fun j hj => by rw [hWf]; exact At.frozen hat1 _) (by rw [hpc]; exact pane_one p)
  obtain ⟨W2, hW2⟩ : ∃ W2, W2 = W1.setCells w.heap.size (i * 7) pc := ⟨_, rfl⟩
  have hat2 : At W2 w.heap.size (putC ROW (i * 7) pc) 32 := by
    rw [hW2, setCells_stores]
    exact At.setL (w := W1) pc hat1
  have hg2 : At W2 g cur 32 := by
    rw [hW2, setCells_stores]
    exact At.setL_other (w := W1) (by omega) pc hg1
  have hk2 : Keep (one g) w W2 := by
    rw [hW2, setCells_stores]
    exact Keep.setL (S := one g) (fun h => absurd h (Nat.lt_irrefl _)) pc hk1
  have hcpB : ∀ (W : World), (∀ x, W.cell? x = W2.cell? x) → (∀ x, W.frozen? x = W2.frozen? x) → ∀ ty dl dc sl sc, Nat.min sl dl = n - i → (Builtin.copy_ #[26, 26] ty #[.slice (some ⟨w.heap.size, (i + 1) * 7, none⟩) dl dc, .slice (some ⟨g, i * 7, none⟩) sl sc]).run Try.prog W = .ok (goInt ((n - i : Nat))) (W.setCells w.heap.size ((i + 1) * 7) cs) := fun W hWc hWf ty dl dc sl sc hm =>
    run_copy_k W _ _ ty 32 7 w.heap.size ((i + 1) * 7) dl dc ⟨g, i * 7, none⟩ sl sc (n - i) cs Try.underlying26 size_pane hm hcl
      (fun j v hj => by
        rw [Addr.add_lit, hWc, At.cell hg2]
        have h1 : j < (n - i) * 7 := by rw [← hcl]; exact (List.getElem?_eq_some_iff.1 hj).1
        have h3 : (i * 7 + j) / 7 < xs.length := by omega
        have h4 := hget ((i * 7 + j) / 7) h3 ((i * 7 + j) % 7) (Nat.mod_lt _ (by decide))
        have h5 := flat_get pane_len xs ((i * 7 + j) / 7) h3 ((i * 7 + j) % 7) (Nat.mod_lt _ (by decide))
        rw [show (i * 7 + j) / 7 * 7 + (i * 7 + j) % 7 = i * 7 + j by omega] at h4 h5
        rw [hcs, flat_drop pane_len xs i (by omega), List.getElem?_drop] at hj
        rw [h4, ← h5, hj])
      (fun j hj => by rw [hWc, At.cell hat2, Array.getElem?_eq_getElem (by rw [putC_size, hRl]; rw [hcl] at hj; omega)]; rfl)
      (fun j hj => by rw [hWf]; exact At.frozen hat2 _) (fun v hv => by rw [hcs] at hv; exact pane_cells1 hv)
  have hfin : Hid (Inserted w (one g) base (insL xs i p) (.returned (.slice (some ⟨w.heap.size, 0, none⟩) (n + 1) G)) (W2.setCells w.heap.size ((i + 1) * 7) cs).drew) := by
    have ha := At.setL (w := W2) cs (o := (i + 1) * 7) hat2
    rw [← setCells_stores] at ha
    have hk3 : Keep (one g) w (W2.setCells w.heap.size ((i + 1) * 7) cs) := by
      rw [setCells_stores]
      exact Keep.setL (S := one g) (fun h => absurd h (Nat.lt_irrefl _)) cs hk2
    refine ⟨_, rfl, ?_, hk3.drew⟩
    have := own_of_get pane_len (by decide) ha (by rw [putC_size, putC_size, hRl]) (n := n + 1) (l := insL xs i p) (by rw [insL_len, hnx]) hGn hGm hbase
      (by rw [hcs, hpc]; exact ins_cells2 pane_len (by omega) hRget hRl (by omega))
    show World.ownsRow _ _ _ _ _ (insL xs i p).length _
    rw [insL_len, ← hnx]
    exact own_drew this
  have hi00 := Int.natCast_nonneg i
  have hw1 : IntKind.i64.wrap ((i : Int) + 1) = ((i + 1 : Nat) : Int) := by rw [IntKind.wrap_i64]; omega
  have hGi : ¬ (G = i) := by omega
  have hGim : ¬ (G = i + 1) := by omega
  have hci : ¬ (cap = i) := by omega
  have hin : i ≤ n := by omega
  have hin1 : i ≤ n + 1 := by omega
  have hicap : i ≤ cap := by omega
  have hb6 : (0 : Int) ≤ (i : Int) + 1 := by omega
  have hb3 : (i : Int) ≤ (n : Int) := by omega
  subst hnx
  have hm2 : Nat.min 1 (xs.length + 1 - i) = 1 := by simp only [Nat.min_def]; split <;> omega
  have hm1 : Nat.min (xs.length - i) (xs.length - i) = xs.length - i := by simp only [Nat.min_def]; split <;> omega
  clear hpc hpl
  clear own hat hget hcs hcl hat1 hv1 hk1 hv hsz hRget hRl hROW hhd hhl hold hcell hkk hik hat2 hg2 hk2 hg1 hi0 hz0 hzs hzc hzb hG hGm hmc
  have hE1 : ∀ x, ((w.alloc (.cells ROW 32)).drew).cell? x = W1.cell? x := fun x => by rw [hW1]; rfl
  have hE2 : ∀ x, ((w.alloc (.cells ROW 32)).drew).frozen? x = W1.frozen? x := fun x => by rw [hW1]; rfl
  have hF1 : ∀ x, (((w.alloc (.cells ROW 32)).drew.setCells w.heap.size (i * 7) pc).drew).cell? x = W2.cell? x := fun x => by rw [hW2, hW1]; rfl
  have hF2 : ∀ x, (((w.alloc (.cells ROW 32)).drew.setCells w.heap.size (i * 7) pc).drew).frozen? x = W2.frozen? x := fun x => by rw [hW2, hW1]; rfl
  go_enter Try.func57, Try.ntmps57
  go_wp2_with (first
    | (at_builtin; refine Lib.wpList_append_run _ rfl _ _ _ _ rfl _ _ rfl rfl _ _ (hrz _) ?_)
    | (at_builtin; refine wpList_copy_run rfl (.tmp 43) (.tmp 44) 26 26 rfl _ _ rfl rfl (hcpA _ hE1 hE2 _ _ _ hm2) ?_))
  go_region_law (refine step_copy_run rfl (.tmp 50) (.tmp 53) 26 26 rfl (.slice (some ⟨w.heap.size, (i + 1) * 7, none⟩) (xs.length - i) (G - (i + 1))) (.slice (some ⟨g, i * 7, none⟩) (xs.length - i) (cap - i)) (by simp [Act.eval, Act.put]) (by simp [Act.eval, Act.put]) (hcpB _ hF1 hF2 _ _ _ _ _ hm1) ?_)
  go_wp2_with fail
  go_ret
  have h9 := hfin.out
  rw [hW2, hW1] at h9
  rw [setCells_drewn]
  exact h9

theorem insL_end {α : Type} (l : List α) (x : α) : insL l l.length x = l ++ [x] := by simp [insL]
/-- slices.Insert of one pane into a row of the call's own, wherever. -/
theorem pane_insert {w : World} {base n : Nat} {v : Value} {xs : List Pane} (hbase : base ≤ w.heap.size) (own : w.ownsRow base 32 7 v n (flat Pane.cells xs)) (i : Nat) (hi : i ≤ n) (hn : n ≤ 900000) {vb : Nat} (p : Pane) (hv : At w vb p.cells.toArray 32) (hne : v.ownBlock ≠ some vb) :
    Calls Try.prog 57 #[v, .int .i64 i, .slice (some ⟨vb, 0, none⟩) 1 1] w (Inserted w (own_of v) base (insL xs i p)) := by
  have hnx := own_len pane_len (by decide) own
  rcases own.2 with ⟨rfl, h0⟩ | ⟨g, cap, cur, rfl, -⟩
  · subst h0
    have : xs = [] := List.length_eq_zero_iff.1 hnx.symm
    subst this
    obtain rfl : i = 0 := by omega
    exact insert_nil base hbase p hv
  · have hS : own_of (.slice (some ⟨g, 0, none⟩) n cap) = one g := by
      funext z
      simp only [own_of, one, Value.ownBlock, Option.some.injEq, eq_iff_iff]
      exact ⟨fun h => h.symm, fun h => h.symm⟩
    rw [hS]
    by_cases h1 : i = n
    · subst h1
      have := insert_end hbase own hn p hv
      rw [hnx, insL_end]
      rw [hnx] at this
      exact this
    · have hg : vb ≠ g := fun e => hne (by rw [e]; rfl)
      by_cases hr : n + 1 ≤ cap
      · exact insert_in own i (by omega) hr p hv hg
      · exact insert_grow hbase own i (by omega) (by omega) hn p hv
end Go.Proofs.Ytmioichjhiengaa
