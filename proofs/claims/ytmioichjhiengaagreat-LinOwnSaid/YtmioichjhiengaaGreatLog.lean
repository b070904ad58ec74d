/-
  outlog: New, Put, All, Of, Same.
-/
import Derived.Test.YtmioichjhiengaaGreatRefPane
import Derived.Test.YtmioichjhiengaaGreatBaseA
set_option linter.unusedSimpArgs false
set_option linter.unusedVariables false
namespace Go.Proofs.YtmioichjhiengaaGreat
open Go.RowKit

/-- Block p holds a log of these panes; its row lies at v. -/
structure IsLog (w : World) (b p : Nat) (v : Value) (xs : List Pane) : Prop where
  at_ : At w p #[v] 161
  own : w.ownsRow b 88 7 v xs.length (flat Pane.cells xs)
theorem IsLog.ne {w : World} {b p : Nat} {v : Value} {xs : List Pane} (h : IsLog w b p v xs) : v.ownBlock ≠ some p := by
  rcases h.own.2 with ⟨rfl, h0⟩ | ⟨g, cap, cur, rfl, hbg, hcur, -⟩
  · intro e; cases e
  · intro e
    have e1 : g = p := by injection e
    subst e1
    have h1 := h.at_
    unfold At at h1
    have h2 : w.heap[g]? = _ := hcur
    rw [h2] at h1
    simp at h1
theorem IsLog.keep {S : Nat → Prop} {w w' : World} {b p : Nat} {v : Value} {xs : List Pane} (h : IsLog w b p v xs) (kk : Keep S w w') (h1 : ¬ S p) (h2 : ∀ q, own_of v q → ¬ S q) : IsLog w' b p v xs :=
  ⟨kk.at h.at_ h1, own_keep h.own kk h2⟩
def logS (p : Nat) (v : Value) : Nat → Prop := fun q => q = p ∨ own_of v q

theorem log_new (w : World) : Calls Tryz.prog 60 #[] w fun e w' => e = .returned (.pointer (some ⟨w.heap.size, 0, none⟩)) ∧ w' = w.alloc (.cells #[.slice none 0 0] 161) := by
  go_enter Tryz.func60, Tryz.ntmps60
  go_wp2_with fail
  go_ret
  exact ⟨rfl, rfl⟩
theorem log_made (w : World) : IsLog (w.alloc (.cells #[.slice none 0 0] 161)) w.heap.size w.heap.size (.slice none 0 0) [] := ⟨At.new _ _ _, rfl, .inl ⟨rfl, rfl⟩⟩

def LogPut (w : World) (b p : Nat) (v : Value) (zs : List Pane) (e : Ending) (w' : World) : Prop :=
  ∃ v', e = .returned (.tuple #[]) ∧ IsLog w' b p v' zs ∧ Keep (logS p v) w w' ∧ (v'.ownBlock = v.ownBlock ∨ v'.ownBlock = some w.heap.size)
theorem log_put {w : World} {b p : Nat} {v : Value} {xs : List Pane} (h : IsLog w b p v xs) {A : Option Addr} {n c : Nat} {ys : List Pane} (hs : Sl Pane.cells 7 w A n c ys) (hn : xs.length + n ≤ 800000) (hb : b ≤ w.heap.size) :
    Calls Tryz.prog 63 #[.pointer (some ⟨p, 0, none⟩), .slice A n c] w (LogPut w b p v (xs ++ ys)) := by
  have hlen := Lib.hid hs.len
  have hne := h.ne
  have ho := h.own
  obtain ⟨B, d, rfl⟩ := own_form ho
  have hat := h.at_
  have c0 := At.cell hat
  have hpl := hat.lt
  clear h
  go_enter Tryz.func63, Tryz.ntmps63
  go_wp2_with (at_builtin; refine wpList_append_sl _ rfl _ _ _ rfl b 88 row_pane pane_len pane_one _ _ xs rfl ho A n c ys rfl hs (by omega) hb ?_)
  intro v' w1 own1 hg1 hb1
  have hl2 : xs.length + n = (xs ++ ys).length := by rw [List.length_append, hlen.out]
  rw [hl2] at own1
  obtain ⟨A', d', rfl⟩ := own_form own1
  generalize hv' : Value.slice A' (xs ++ ys).length d' = v' at *
  have h1 := At.grown hat hg1 hne
  have c1 := At.cell h1
  have f1 := At.frozen h1
  have k1 : Keep (logS p (.slice B xs.length d)) w w1 := Keep.grown (Keep.refl _ _) hg1 (fun k e _ => .inr e)
  have hne' : v'.ownBlock ≠ some p := by
    rcases hb1 with e | e
    · rw [e]; exact hne
    · rw [e]; intro e9; injection e9 with e9; omega
  have h2 := At.set h1 0 v'
  have k2 : Keep (logS p (.slice B xs.length d)) w (w1.setCell ⟨p, 0, none⟩ v') := Keep.setCell (p := ⟨p, 0, none⟩) k1 (fun _ => .inl rfl) v'
  have kk1 : Keep (one p) w1 (w1.setCell ⟨p, 0, none⟩ v') := Keep.set1 (Keep.refl _ _) v'
  have own2 := own_keep own1 kk1 (fun g hg e => hne' (by unfold one at e; rw [hg, e]))
  replace own2 := Lib.hid own2
  replace hb1 := Lib.hid hb1
  have hfin := Lib.hid (show LogPut w b p (.slice B xs.length d) (xs ++ ys) (.returned (.tuple #[])) (w1.setCell ⟨p, 0, none⟩ v') from ⟨v', rfl, ⟨h2, own2.out⟩, k2, hb1.out⟩)
  clear own1 hg1 hl2 h2 k1 k2 kk1 own2 hb1 hne' hne ho hs hat c0 h1 hlen
  subst hv'
  generalize (xs ++ ys).length = N at *
  go_wp2_with fail
  refine bodyPost_end (v := .tuple #[]) ?_ ?_ ?_
  · exact results_none Tryz.results63 _ _ _
  · rfl
  · exact hfin.out

theorem log_all {w : World} {b p : Nat} {v : Value} {xs : List Pane} (h : IsLog w b p v xs) (hn : xs.length ≤ 800000) :
    Calls Tryz.prog 64 #[.pointer (some ⟨p, 0, none⟩)] w (Cloned w xs) := by
  have ho := h.own
  obtain ⟨B, d, rfl⟩ := own_form ho
  have c0 := At.cell h.at_
  have cl := Lib.hid (pane_clone (Sl.of_own pane_len (by decide) ho) (by omega))
  clear h ho
  go_enter Tryz.func64, Tryz.ntmps64
  go_wp2_with fail
  refine cl.out.mono ?_
  rintro e w1 ⟨v1, rfl, o1, k1⟩
  go_wp2_with fail
  go_ret
  exact ⟨_, rfl, o1, k1⟩

end Go.Proofs.YtmioichjhiengaaGreat
