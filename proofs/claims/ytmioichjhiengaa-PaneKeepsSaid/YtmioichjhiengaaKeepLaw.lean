/-
  What PaneKeeps' loop keeps (plain).
-/
import Derived.Test.YtmioichjhiengaaPaneUp
namespace Go.Proofs.Ytmioichjhiengaa
open Go.RowKit

theorem wrap_same {a b : Int} (h : Same64 a b) : wrap64 a = wrap64 b := by unfold Same64 at h; unfold wrap64; omega
theorem smsW_aux : ∀ (l : List Pane) (a : Int), wrap64 (l.foldl (fun a x => wrap64 (a + x.agg.sum)) (wrap64 a)) = wrap64 (a + sms l)
  | [], a => by
    simp only [List.foldl_nil, sms, List.map_nil, List.sum_nil]
    unfold wrap64; omega
  | x :: l, a => by
    rw [List.foldl_cons]
    have h1 : wrap64 (wrap64 a + x.agg.sum) = wrap64 (a + x.agg.sum) := by unfold wrap64; omega
    have ih := smsW_aux l (a + x.agg.sum)
    rw [h1, ih]
    simp only [sms, List.map_cons, List.sum_cons]
    congr 1; omega
theorem smsW_range : ∀ (l : List Pane) (a : Int), I64 a → I64 (l.foldl (fun a x => wrap64 (a + x.agg.sum)) a)
  | [], a, h => h
  | x :: l, a, _ => by
    rw [List.foldl_cons]
    exact smsW_range l _ (by unfold I64 wrap64; omega)
theorem smsW_eq {l : List Pane} {t : Int} (h : Same64 (sms l) t) : smsW l = wrap64 t := by
  have h1 := smsW_aux l 0
  have h2 := smsW_range l 0 (by unfold I64; omega)
  have h3 : wrap64 0 = 0 := by unfold wrap64; omega
  rw [h3, Int.zero_add, wrap_same h] at h1
  unfold smsW
  rw [← h1]
  generalize List.foldl _ _ _ = q at *
  unfold I64 at h2
  unfold wrap64; omega
theorem cntW_eq : ∀ (l : List Pane) (a : Int), 0 ≤ a → (∀ p ∈ l, 1 ≤ p.agg.count) → a + cnt l ≤ 1000000 → l.foldl (fun a x => wrap64 (a + x.agg.count)) a = a + cnt l
  | [], a, _, _, _ => by simp [cnt]
  | x :: l, a, ha, h, hb => by
    have hx := h x (by simp)
    have hn := cnt_nonneg (l := l) (fun p hp => h p (by simp [hp]))
    simp only [cnt, List.map_cons, List.sum_cons] at hb hn ⊢
    rw [List.foldl_cons, wrap64_small (by omega) (by omega), cntW_eq l _ (by omega) (fun p hp => h p (by simp [hp])) (by simp only [cnt]; omega)]
    simp only [cnt]; omega
/-- Behind so many steps: the panes merged, and put. -/
structure KInv (i : Nat) (v : Int) (L M : List Pane) : Prop where
  la : Apart L
  lo : ∀ p ∈ L, p.ok
  lc : Counts L i (i * v)
  ll : L.length ≤ i
  ms : SortedP M
  mo : ∀ p ∈ M, p.ok
  mc : Counts M i (i * v)
  ml : M.length ≤ i
theorem KInv.zero (v : Int) : KInv 0 v [] [] :=
  ⟨⟨fun _ hp => (List.not_mem_nil hp).elim, List.Pairwise.nil⟩, fun _ hp => (List.not_mem_nil hp).elim, ⟨fun _ hp => (List.not_mem_nil hp).elim, rfl, by simp [sms, Same64]⟩, Nat.le_refl _, List.Pairwise.nil, fun _ hp => (List.not_mem_nil hp).elim, ⟨fun _ hp => (List.not_mem_nil hp).elim, rfl, by simp [sms, Same64]⟩, Nat.le_refl _⟩
theorem KInv.step {i : Nat} {v : Int} {L M : List Pane} (h : KInv i v L M) (hi : i < 1000) {key : ByteArray} (hk : key.size ≤ maxLen) {s : Span} (hs : s.s < s.e) (hok : s.ok) (hv : I64 v) : KInv (i + 1) v (mergeP key s v L) (putP M key s v) := by
  have e : ((i + 1 : Nat) : Int) = (i : Int) + 1 := by omega
  have e2 : ((i + 1 : Nat) : Int) * v = (i : Int) * v + v := by rw [e, Int.add_mul, Int.one_mul]
  refine ⟨merge_apart h.la key v hs, merge_ok h.lo hk hok hv, ?_, Nat.le_trans (merge_len _ _ _ _) (by have := h.ll; omega), put_sorted h.ms key s v, put_ok h.mo hk hok hv, ?_, Nat.le_trans (put_len _ _ _ _) (by have := h.ml; omega)⟩
  · rw [e2, e]; exact counts_merge h.lc (by omega) key s
  · rw [e2, e]; exact counts_put h.mc (by omega) key s
theorem KInv.cnt {i : Nat} {v : Int} {L M : List Pane} (h : KInv i v L M) (hi : i ≤ 1000) : cntW L = i ∧ cntW M = i ∧ smsW L = wrap64 (i * v) ∧ smsW M = wrap64 (i * v) := by
  have h1 := h.lc.all
  have h2 := h.mc.all
  refine ⟨?_, ?_, smsW_eq h.lc.sum, smsW_eq h.mc.sum⟩
  · unfold cntW; rw [cntW_eq L 0 (by omega) h.lc.pos (by omega)]; omega
  · unfold cntW; rw [cntW_eq M 0 (by omega) h.mc.pos (by omega)]; omega
end Go.Proofs.Ytmioichjhiengaa
