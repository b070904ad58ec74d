/-
  Group.Len of a group without panes.
-/
import Derived.Test.YtmioichjhiengaaGroupMap
import Derived.Maps.RangeWalk
namespace Go.Proofs.Ytmioichjhiengaa
open Go.RowKit

theorem key_str_inv {key : Value} {kl : Lit} (h : keyOf Try.prog 9 key = some kl) : ∃ x : ByteArray, key = .string x ∧ kl = .string x.data.toList ∧ x.size ≤ maxLen := by
  cases key <;> simp [keyOf, Try.underlying9, mapKey] at h
  exact ⟨_, rfl, h.2.symm, h.1⟩
theorem MapAt.empty {w : World} {mp N : Nat} {F : Nat → Prop} {M : ByteArray → List Pane} (h : MapAt w mp N F M) (hM : ∀ k, M k = []) : ∃ n D, w.ownsMap Try.prog 9 RVs mp n D ∧ ∀ x : ByteArray, x.size ≤ maxLen → Maps.has D (.string x.data.toList) = false := by
  obtain ⟨n, f, -, ⟨D, hD, -, h3⟩, h2⟩ := h
  refine ⟨n, D, hD, fun x hx => ?_⟩
  rw [(h3 x hx).1]
  rcases h2 x hx with ⟨h1, -⟩ | ⟨A, m, d, -, hm, hsl, -⟩
  · rw [h1]; rfl
  · have := hsl.len
    rw [hM] at this
    simp at this
    omega
theorem group_len_nil {w : World} {gp mp N : Nat} {F : Nat → Prop} {M : ByteArray → List Pane} {cs : Array Value} (hg : At w gp cs 112) (h8 : cs[8]? = some (.map (some mp))) (h : MapAt w mp N F M) (hM : ∀ k, M k = []) :
    Calls Try.prog 62 #[.pointer (some ⟨gp, 0, none⟩)] w fun e w' => e = .returned (.int .i64 0) ∧ Keep none_ w w' := by
  have c8 : w.cell? ⟨gp, 8, none⟩ = some (.map (some mp)) := (At.cell hg 8).trans h8
  obtain ⟨n, D, hown, hno⟩ := h.empty hM
  clear h hM hg h8
  go_enter Try.func62, Try.ntmps62
  go_wp2_with (first | (at_range; refine wpList_range_own _ rfl _ 108 rfl 9 _ str_key Try.underlying108 RVs mp n D rfl hown ?_; intro w0 hrg0 hg0 hs0) | fail)
  have k0 : Keep none_ w w0 := Keep.grown (Keep.refl _ _) hg0 (fun k hk _ => by cases hk)
  clear hown c8
  go_frame
  go_loopw [3, 5] (fun nv _ wr => nv = .int .i64 0 ∧ wr = w0) (fun _ _ _ => 0)
  case atStart => exact ⟨rfl, rfl⟩
  case round =>
    obtain ⟨rfl, rfl⟩ := hrel
    go_wp2_with (first | (at_next; refine wpList_next_ranges _ rfl _ rfl 9 str_key RVs (fun x : ByteArray => Value.string x) (fun x : Value => x) (fun key kl hk => (key_str_inv hk).imp fun x hx => hx.1) (fun v y _ => ⟨v, rfl⟩) mp w.heap.size n D _ _ rfl hrg0 ?_ ?_) | fail)
    · intro _ _
      clear hrg0 hno
      go_wp2_with fail
      go_ret
      exact ⟨rfl, k0⟩
    · intro x c kl y ps w1 cnt1 hk hl
      exfalso
      obtain ⟨x', e1, e2, e3⟩ := key_str_inv hk
      have := hno x' e3
      rw [e2] at hl
      rw [this] at hl
      cases hl
end Go.Proofs.Ytmioichjhiengaa
