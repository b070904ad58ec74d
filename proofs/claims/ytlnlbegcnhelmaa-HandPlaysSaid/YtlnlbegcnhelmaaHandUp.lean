/-
  The head of layer 15's laws; HandPlays where there is no table.
-/
import Derived.Test.YtlnlbegcnhelmaaHand
import Derived.Test.YtlnlbegcnhelmaaGroupNew
import Derived.Test.YtlnlbegcnhelmaaPick
import Derived.LaidEql
import Derived.Laws.StructEq
namespace Go.Proofs.Ytlnlbegcnhelmaa
open Go.RowKit

theorem eqptr (d : Nat) (o : Option Nat) (w : World) : (Op.equalIn (d + 1) 81 (ptr o) (ptr o)).run Try.prog w = .ok true w := by
  have hz := Try.sizeOf138
  have hsa := fun a => run_sameAddr_same (P := Try.prog) (w := w) a
  cases o with
  | none =>
    simp only [ptr, Option.map_none]
    simp [Op.equalIn, run_underlying Try.underlying81]
  | some b =>
    simp only [ptr, Option.map_some]
    simp [Op.equalIn, run_underlying Try.underlying81, hz, hsa]
theorem run_neq_msg_self (m : Msg) (w : World) : (binOp .neq 85 (.agg m.cells.toArray) (.agg m.cells.toArray)).run Try.prog w = .ok (.bool false) w := by
  have hS : Try.prog.underlying 85 = some (.struct (Try.prog.fieldsOf 85)) := by kernel_rfl
  have hp : Try.prog.stoodInHeld 85 = false := by kernel_rfl
  obtain ⟨k, f, ⟨c1, c2, c3, c4, c5, c6, c7⟩, g, st⟩ := m
  simp only [Msg.cells]
  rw [run_neq_struct, show (10000 : Nat) = 9999 + 1 from rfl, run_equalIn_agg w 9999 85 _ _ hS hp]
  simp only [Program.fieldsOf, Try.underlying85]
  clear hS hp
  have he := eqptr 9998 st w
  generalize ptr st = q at *
  go_simp

set_option maxHeartbeats 1000000 in
theorem handUp (w : World) : Calls Try.prog 45 #[] w fun e w' => e = .returned (.bool true) ∧ Keep none_ w w' := by
  have he := fun w a b => eq_err w a b
  go_enter Try.func45, Try.ntmps45
  go_wp2_with fail
  refine (owner_new _ 2 2 (by omega) (by omega) (by omega) (by omega)).mono ?_
  rintro e w1 ⟨p, g, rfl, k1, hp, hg, ht⟩
  have e1 : (initT 2 2)[1]'(by rw [initT_len]; decide) = ⟨1, 0, false⟩ := by simp [initT]
  go_wp2_with fail
  refine (hand_new ht 1 0 (by rw [initT_len]; decide) (by rw [e1]) (by decide)).mono ?_
  rintro e w2 ⟨hp2, rfl, k2, hpl, hh, ht2⟩
  rw [e1] at hh ht2
  have hgl := ht2.row.lt
  have kk : Keep none_ w w2 := Keep.fresh k1 k2 (fun z hz e => by unfold one at e; omega)
  have hhl := hh.lt
  go_wp2_with fail
  refine (hand_new_busy ht2 1 0 (by rw [List.length_set, initT_len]; decide) (by rw [List.getElem_set_self])).mono ?_
  rintro e w3 ⟨rfl, k3⟩
  replace ht2 := ht2.keep k3 (fun e => e) (fun e => e)
  replace kk := kk.trans k3
  replace hh : HandAt w3 hp2 p ⟨1, 1, 0, 0, none⟩ := Keep.at k3 hh (fun e => e)
  clear k3 k2 k1 ht
  go_wp2_with fail
  refine (hand_new_nil _ 0 0).mono ?_
  rintro e w4 ⟨rfl, rfl⟩
  go_wp2_with fail
  refine (hand_new_none ht2 9 0 (by rw [List.length_set, initT_len]; decide)).mono ?_
  rintro e w4 ⟨rfl, k4⟩
  replace kk := kk.trans k4
  replace hh : HandAt w4 hp2 p ⟨1, 1, 0, 0, none⟩ := Keep.at k4 hh (fun e => e)
  clear k4 ht2
  have ca := hand_ask hh
  have cov := fun w' (k : Keep none_ w4 w') => hand_over (w := w') (p := p) (hp := hp2) (h := ⟨1, 1, 0, 0, none⟩) (Keep.at k hh (fun e => e))
  simp only [HandAsk, if_true, Msg.give, Msg.cells, Call.zero, ptr, Option.map_none] at ca cov
  replace ca := Lib.hid ca
  replace cov := Lib.hid cov
  go_wp2_with fail
  refine ca.out.mono ?_
  rintro e w5 ⟨rfl, k5⟩
  have kk5 := kk.trans k5
  clear ca
  go_wp2_with fail
  refine (cov.out _ (by repeat' (first | assumption | with_reducible exact Keep.refl _ _ | with_reducible refine Keep.alloc ?_ _ | with_reducible refine Keep.drew ?_))).mono ?_
  rintro e w6 ⟨rfl, rfl⟩
  go_wp2_with fail
  go_ret
  exact ⟨rfl, (by repeat' (first | assumption | with_reducible exact Keep.refl _ _ | with_reducible refine Keep.alloc ?_ _ | with_reducible refine Keep.drew ?_))⟩

def enc15 (d : Deed15) : List Value := d.cells
theorem deed15_of (w : World) (x : Deed15) (cs : List Value) (h : rDeed15 w x cs) : cs = enc15 x ∧ x.ok := h

/-- The table behind so many steps. -/
def stepT (n s i to ph : Nat) : List Own := (initT n s).set i (if ph < 4 then ⟨((i % s : Nat) : Int), 0, true⟩ else ⟨to, 1, false⟩)
theorem stepT_len (n s i to ph : Nat) : (stepT n s i to ph).length = n := by simp [stepT, initT]
theorem stepT_at (n s i to ph : Nat) (hi : i < n) : (stepT n s i to ph)[i]'(by rw [stepT_len]; exact hi) = if ph < 4 then ⟨((i % s : Nat) : Int), 0, true⟩ else ⟨to, 1, false⟩ := by
  simp only [stepT, List.getElem_set_self]
def stepS (gp ph : Nat) : Option Nat := if ph < 2 then none else some gp
structure HI (W : World) (n s i to p g hp gp ph : Nat) (w : World) : Prop where
  hand : HandAt w hp p ⟨i, ((i % s : Nat) : Int), to, ph, stepS gp ph⟩
  tab : TabAt w p g (stepT n s i to ph) s
  keep : Keep none_ W w
theorem HI.none {W : World} {n s i to p g hp gp ph : Nat} {w w' : World} (h : HI W n s i to p g hp gp ph w) (kk : Keep none_ w w') : HI W n s i to p g hp gp ph w' :=
  ⟨Keep.at kk h.hand (fun e => e), h.tab.keep kk (fun e => e) (fun e => e), h.keep.trans kk⟩

set_option maxRecDepth 100000 in
theorem hand_plays_no (n s g to : Int) (l : List Deed15) (v : Value) (W : World) (hv : rSlice 2 rDeed15 W l [v]) (h : (n < 1 ∨ 16 < n ∨ s < 1 ∨ 8 < s)) :
    Calls Try.prog 9 #[.int .i64 n, .int .i64 s, .int .i64 g, .int .i64 to, v] W fun e W' => e = .returned (.bool true) ∧ Below W.heap.size W W' := by
  obtain ⟨A, m, c, rfl, -, -⟩ := sl_of enc15 Deed15.ok deed15_of hv
  have c1 := Lib.hid (fun w => owner_new_no w n s h)
  clear h
  go_enter Try.func9, Try.ntmps9
  go_wp2_with fail
  refine (handUp _).mono ?_
  rintro e w1 ⟨rfl, k1⟩
  go_wp2_with fail
  refine (c1.out _).mono ?_
  rintro e w2 ⟨rfl, rfl⟩
  go_wp2_with fail
  go_ret
  exact ⟨rfl, k1.below (Nat.le_refl _) not_none⟩

end Go.Proofs.Ytlnlbegcnhelmaa
