/-
  easellaw09.up.
-/
import Derived.Test.YtmioichjhiengaaLogFine
import Derived.Test.YtmioichjhiengaaLogIn
namespace Go.Proofs.Ytmioichjhiengaa
open Go.RowKit

def k9 : ByteArray := ⟨#[97]⟩
def k9b : ByteArray := ⟨#[98]⟩
def up9l : List Pane := [⟨k9, ⟨0, 10⟩, ⟨0, 0, 0, 0⟩⟩, ⟨k9, ⟨0, 5⟩, ⟨0, 0, 0, 0⟩⟩]
theorem up9_not : ¬ FineP up9l := fun h => by
  have := h 1 0 (by decide) (by decide)
  have h2 : badP up9l[0] up9l[1] = true := by kernel_rfl
  rw [h2] at this
  cases this
theorem fine_nil : FineP [] := fun i j h => absurd h (Nat.not_lt_zero _)
theorem up9_a : ofKey k9 up9l = up9l := by kernel_rfl
theorem up9_b : ofKey k9b up9l = [] := by kernel_rfl

set_option maxHeartbeats 4000000 in
set_option maxRecDepth 100000 in
theorem up9 (w : World) : Calls Try.prog 9 #[] w fun e w' => e = .returned (.bool true) ∧ Keep none_ w w' := by
  go_enter Try.func9, Try.ntmps9
  go_wp2_with fail
  refine (log_new _).mono ?_
  rintro e w1 ⟨rfl, rfl⟩
  have L1 := log_made w
  have k1 : Keep none_ w (w.alloc (.cells #[.slice none 0 0] 92)) := Keep.alloc (Keep.refl _ _) _
  obtain ⟨p, hp⟩ : ∃ p, p = w.heap.size := ⟨_, rfl⟩
  have hpw : w.heap.size ≤ p := by omega
  rw [← hp] at L1
  have hb1 : p ≤ (w.alloc (.cells #[.slice none 0 0] 92)).heap.size := by simp; omega
  rw [← hp]
  generalize w.alloc _ = w1 at *
  clear hp
  have c1 := Lib.hid (log_fine L1 (by simp))
  go_wp2_with fail
  refine c1.out.mono ?_
  rintro e w2 ⟨b, rfl, hb, k2⟩
  have hbt : b = true := hb.2 fine_nil
  subst hbt
  have L2 := L1.keep k2 (fun e => e) (fun _ _ e => e)
  have hb2 := k2.size
  have k02 := k1.trans k2
  have hpl := L2.at_.lt
  clear c1 hb L1 k1 k2
  have hB : ∀ W, Keep none_ w2 W → Sl Pane.cells 7 (W.alloc (.cells (flat Pane.cells up9l).toArray 32)) (some ⟨W.heap.size, 0, none⟩) 2 2 up9l := fun W k => Sl.of_at (At.new W _ _) pane_len (by decide) rfl (by simp) (by unfold maxLen; omega)
  have c2 := Lib.hid (fun W (k : Keep none_ w2 W) => log_put (w := W.alloc (.cells (flat Pane.cells up9l).toArray 32)) (L2.keep (Keep.alloc k _) (fun e => e) (fun _ _ e => e)) (hB W k) (by simp) (by have := k.size; simp; omega))
  have c2 := c2.out w2 (Keep.refl _ _)
  have kA : Keep none_ w2 (w2.alloc (.cells (flat Pane.cells up9l).toArray 32)) := Keep.alloc (Keep.refl _ _) _
  have hfl : flat Pane.cells up9l = [.string ⟨#[97]⟩, .int .i64 0, .int .i64 10, .int .i64 0, .int .i64 0, .int .i64 0, .int .i64 0, .string ⟨#[97]⟩, .int .i64 0, .int .i64 5, .int .i64 0, .int .i64 0, .int .i64 0, .int .i64 0] := rfl
  rw [hfl] at c2 kA
  replace c2 := Lib.hid c2
  have hb3 := kA.size
  clear hB hfl L2
  go_wp2_with fail
  refine c2.out.mono ?_
  rintro e w3 ⟨v', rfl, L3, k3, -⟩
  rw [List.nil_append] at L3
  have k03 : Keep none_ w w3 := Keep.fresh (k02.trans kA) k3 (fun q hq e => by
    rcases e with e | e
    · omega
    · cases e)
  clear c2 k3 kA k02 hb3
  have c3 := Lib.hid (fun W (k : Keep none_ w3 W) => log_fine (L3.keep k (fun e => e) (fun _ _ e => e)) (by decide))
  have c4 := Lib.hid (fun W (k : Keep none_ w3 W) => log_all (L3.keep k (fun e => e) (fun _ _ e => e)) (by decide))
  have c5 := Lib.hid (fun W (k : Keep none_ w3 W) => log_of (L3.keep k (fun e => e) (fun _ _ e => e)) (by decide) k9)
  have c6 := Lib.hid (fun W (k : Keep none_ w3 W) => log_of (L3.keep k (fun e => e) (fun _ _ e => e)) (by decide) k9b)
  rw [up9_a] at c5
  rw [up9_b] at c6
  have e9 : k9 = ⟨#[97]⟩ := rfl
  have e9b : k9b = ⟨#[98]⟩ := rfl
  rw [e9] at c5
  rw [e9b] at c6
  clear e9 e9b L3
  go_wp2_with fail
  refine (c3.out _ (Keep.refl _ _)).mono ?_
  rintro e w4 ⟨b, rfl, hb, k4⟩
  have hbf : b = false := by
    cases b
    · rfl
    · exact absurd (hb.1 rfl) up9_not
  subst hbf
  clear hb c3
  go_wp2_with fail
  refine (c4.out _ k4).mono ?_
  rintro e w5 ⟨v5, rfl, o5, k5⟩
  obtain ⟨A5, d5, rfl⟩ := own_form o5
  have e5 : up9l.length = 2 := rfl
  rw [e5] at o5 ⊢
  replace k5 := k4.trans k5
  clear c4 o5 k4
  go_wp2_with fail
  refine (c5.out _ k5).mono ?_
  rintro e w6 ⟨v6, rfl, o6, k6⟩
  obtain ⟨A6, d6, rfl⟩ := own_form o6
  rw [e5] at o6 ⊢
  replace k6 := k5.trans k6
  clear c5 o6 k5
  go_wp2_with fail
  refine (c6.out _ k6).mono ?_
  rintro e w7 ⟨v7, rfl, o7, k7⟩
  obtain ⟨A7, d7, rfl⟩ := own_form o7
  have e0 : ([] : List Pane).length = 0 := rfl
  rw [e0] at o7 ⊢
  replace k7 := k6.trans k7
  clear c6 o7 k6
  go_wp2_with fail
  go_ret
  exact ⟨rfl, k03.trans k7⟩
end Go.Proofs.Ytmioichjhiengaa
