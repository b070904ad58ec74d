/-
  slices.Delete of one pane.
-/
import Derived.Test.YtmioichjhiengaaPaneIns
namespace Go.Proofs.Ytmioichjhiengaa
open Go.RowKit

def delL {α : Type} (l : List α) (i : Nat) : List α := l.take i ++ l.drop (i + 1)
theorem delL_len {α : Type} {l : List α} {i : Nat} (hi : i < l.length) : (delL l i).length = l.length - 1 := by simp [delL]; omega
theorem delL_get? {α : Type} {l : List α} {i : Nat} (hi : i < l.length) (q : Nat) : (delL l i)[q]? = if q < i then l[q]? else l[q + 1]? := by
  unfold delL
  have hl : (l.take i).length = i := by rw [List.length_take]; omega
  by_cases h : q < i
  · rw [if_pos h, List.getElem?_append_left (by omega), List.getElem?_take_of_lt h]
  · rw [if_neg h, List.getElem?_append_right (by omega), hl, List.getElem?_drop]
    congr 1; omega
def paneZs : List Value := [.string ⟨#[]⟩, .int .i64 0, .int .i64 0, .int .i64 0, .int .i64 0, .int .i64 0, .int .i64 0]
set_option maxHeartbeats 4000000 in
set_option maxRecDepth 100000 in
theorem pane_delete {w : World} {base g n cap : Nat} {xs : List Pane} (own : w.ownsRow base 32 7 (.slice (some ⟨g, 0, none⟩) n cap) n (flat Pane.cells xs)) (i j : Nat) (hi : i < n) (hj : j = i + 1) :
    Calls Try.prog 59 #[.slice (some ⟨g, 0, none⟩) n cap, .int .i64 i, .int .i64 j] w (Inserted w (one g) base (delL xs i)) := by
  obtain ⟨cur, hat, hsz, hnx, hnc, hmc, hb, hget⟩ := own_get pane_len (by decide) own
  obtain ⟨i0, z, hi0, hz0, hzs, hzc, hzb⟩ := row_pane.info
  have hc63 : cap ≤ 9223372036854775807 := by unfold maxLen at hmc; omega
  obtain ⟨news, hnews⟩ : ∃ news, news = flat Pane.cells (xs.drop j) := ⟨_, rfl⟩
  have hnl : news.length = (n - j) * 7 := by rw [hnews, flat_length pane_len, List.length_drop, hnx]
  obtain ⟨A, hA, hsrc⟩ : ∃ A : Addr, (if cap = j then (some ⟨g, 0, none⟩ : Option Addr) else some ⟨g, j * 7, none⟩) = some A ∧ Hid (∀ t u, news[t]? = some u → w.drew.cell? (A.add t) = some u) := by
    by_cases h : cap = j
    · refine ⟨⟨g, 0, none⟩, by simp [h], fun t u hu => ?_⟩
      have h0 : news.length = 0 := by rw [hnl]; omega
      rw [List.length_eq_zero_iff.1 h0] at hu
      simp at hu
    · refine ⟨⟨g, j * 7, none⟩, by simp [h], fun t u hu => ?_⟩
      have h1 : t < (n - j) * 7 := by rw [← hnl]; exact (List.getElem?_eq_some_iff.1 hu).1
      have h3 : (j * 7 + t) / 7 < xs.length := by omega
      have h4 := hget ((j * 7 + t) / 7) h3 ((j * 7 + t) % 7) (Nat.mod_lt _ (by decide))
      have h5 := flat_get pane_len xs ((j * 7 + t) / 7) h3 ((j * 7 + t) % 7) (Nat.mod_lt _ (by decide))
      rw [show (j * 7 + t) / 7 * 7 + (j * 7 + t) % 7 = j * 7 + t by omega] at h4 h5
      rw [hnews, flat_drop pane_len xs j (by omega), List.getElem?_drop] at hu
      rw [Addr.add_lit]
      refine Eq.trans (At.cell hat _) ?_
      rw [h4, ← h5, hu]
  have s2 : Hid (∀ u ∈ news, u.oneCell' = true) := fun u hu => by rw [hnews] at hu; exact pane_cells1 hu
  have s3 : Hid (∀ t, t < news.length → (w.drew.cell? ⟨g, 0 + i * 7 + t, none⟩).isSome = true ∧ w.drew.frozen? ⟨g, 0 + i * 7 + t, none⟩ = false) := by
    intro t ht
    rw [hnl] at ht
    refine ⟨?_, At.frozen hat _⟩
    have : w.drew.cell? ⟨g, 0 + i * 7 + t, none⟩ = cur[0 + i * 7 + t]? := At.cell hat _
    rw [this, Array.getElem?_eq_getElem (by rw [hsz]; omega)]; rfl
  obtain ⟨W1, hW1⟩ : ∃ W1, W1 = w.drew.setCells g (0 + i * 7) news := ⟨_, rfl⟩
  have hat1 : At W1 g (putC cur (i * 7) news) 32 := by
    rw [hW1, setCells_stores, Nat.zero_add]
    exact At.setL (w := w.drew) news hat
  have hk1 : Keep (one g) w W1 := by
    rw [hW1, setCells_stores]
    exact Keep.setL (S := one g) (fun _ => rfl) news (Keep.refl _ _).drew
  have hzl : paneZs.length = 7 := rfl
  have hcl : ∀ ty c, (Builtin.clear_ #[26] ty #[.slice (some ⟨g, (i + (n - j)) * 7, none⟩) (n - (i + (n - j))) c]).run Try.prog W1 = .ok (.tuple #[]) (W1.setCells g ((i + (n - j)) * 7) paneZs) := fun ty c =>
    run_clear_k W1 _ _ ty _ Try.underlying26 Try.zeroValue32 g ((i + (n - j)) * 7) _ c paneZs (by rw [show n - (i + (n - j)) = 1 by omega]; kernel_rfl) (by intro v hv; simp [paneZs] at hv; rcases hv with rfl | rfl <;> rfl) (by omega)
      (fun t ht => by rw [At.cell hat1, Array.getElem?_eq_getElem (by rw [putC_size, hsz]; omega)]; rfl) (fun t ht => At.frozen hat1 _)
  obtain ⟨zs, hzs9⟩ : ∃ zs, zs = paneZs := ⟨_, rfl⟩
  rw [← hzs9] at hcl hzl
  have hfin : Hid (Inserted w (one g) base (delL xs i) (.returned (.slice (some ⟨g, 0, none⟩) (i + (n - j)) cap)) (W1.setCells g ((i + (n - j)) * 7) zs)) := by
    have ha := At.setL (w := W1) zs (o := (i + (n - j)) * 7) hat1
    rw [← setCells_stores] at ha
    refine ⟨_, rfl, ?_, by rw [setCells_stores]; exact Keep.setL (S := one g) (fun _ => rfl) zs hk1⟩
    have hll := delL_len (l := xs) (i := i) (by omega)
    have := own_of_get pane_len (by decide) ha (by rw [putC_size, putC_size, hsz]) (n := i + (n - j)) (l := delL xs i) (by rw [hll]; omega) (by omega) hmc hb (fun q hq r hr => by
      rw [hll] at hq
      have e := delL_get? (l := xs) (i := i) (by omega) q
      rw [List.getElem?_eq_getElem (by rw [hll]; exact hq)] at e
      rw [putC_get _ _ _ _ (by rw [putC_size, hsz, hzl]; omega), if_neg (by omega), hnews, putC_flat pane_len cur i (xs.drop j) (by rw [hsz, List.length_drop]; omega) q r hr]
      by_cases h : i ≤ q ∧ q < i + (xs.drop j).length
      · rw [dif_pos h]
        rw [if_neg (by omega), List.getElem?_eq_getElem (by omega)] at e
        rw [Option.some.inj e]
        simp only [List.getElem_drop, show j + (q - i) = q + 1 by omega]
      · rw [dif_neg h]
        rw [List.length_drop] at h
        rw [if_pos (by omega), List.getElem?_eq_getElem (by omega)] at e
        rw [Option.some.inj e]
        exact hget q (by omega) r hr)
    show World.ownsRow _ _ _ _ _ (delL xs i).length _
    rw [hll, show xs.length - 1 = i + (n - j) by omega]
    exact this
  have hW : Hid (W1 = w.drew.setCells g (0 + i * 7) news) := hW1
  have hi00 := Int.natCast_nonneg i
  have hj00 := Int.natCast_nonneg j
  have hij : ¬ ((i : Int) = (j : Int)) := by omega
  have hic : i ≤ cap := by omega
  have hin : i ≤ n := by omega
  have hij2 : i ≤ j := by omega
  have hjn : j ≤ n := by omega
  have hjc : j ≤ cap := by omega
  have hnx0 : i + (n - j) ≤ n := by omega
  have hcx : ¬ cap = i + (n - j) := by omega
  replace hj := Lib.hid hj
  replace hnx := Lib.hid hnx
  replace hnl := Lib.hid hnl
  replace hzs := Lib.hid hzs
  clear own hat hget hnews hat1 hk1 hsz hz0 hzc hzb hmc hzs9 hzl hW1
  go_enter Try.func59, Try.ntmps59
  go_wp2_with fail
  go_region_law (refine step_append_room rfl (.tmp 22) (.tmp 25) 26 rfl 32 i0 7 Try.underlying26 hi0 hzs.out g 0 i cap (by simp [Act.eval, Act.put]) A (n - j) (cap - j) news (by simp [Act.eval, Act.put]) hnl.out hsrc.out s2.out (by omega) s3.out ?_; rw [← hW.out])
  go_wp2_with fail
  go_ret
  exact hfin.out
end Go.Proofs.Ytmioichjhiengaa
