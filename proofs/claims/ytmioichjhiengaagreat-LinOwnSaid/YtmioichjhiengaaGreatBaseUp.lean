/-
  Texts of one kind, one behind the other.
-/
import Derived.Test.YtmioichjhiengaaGreatBaseMap
import Derived.Test.YtmioichjhiengaaGreatGroupTake
import Derived.Test.YtmioichjhiengaaGreatBaseGrp
import Derived.Maps.RangeWalk
set_option linter.unusedSimpArgs false
set_option linter.unusedVariables false
/-
  Group.Len of a group without panes.
-/
namespace Go.Proofs.YtmioichjhiengaaGreat
open Go.RowKit

theorem key_str_inv {key : Value} {kl : Lit} (h : keyOf Tryz.prog 9 key = some kl) : ∃ x : ByteArray, key = .string x ∧ kl = .string x.data.toList ∧ x.size ≤ maxLen := by
  cases key <;> simp [keyOf, Tryz.underlying9, mapKey] at h
  exact ⟨_, rfl, h.2.symm, h.1⟩
theorem MapAt.empty {w : World} {mp N : Nat} {F : Nat → Prop} {M : ByteArray → List Pane} (h : MapAt w mp N F M) (hM : ∀ k, M k = []) : ∃ n D, w.ownsMap Tryz.prog 9 RVs mp n D ∧ ∀ x : ByteArray, x.size ≤ maxLen → Maps.has D (.string x.data.toList) = false := by
  obtain ⟨n, f, -, ⟨D, hD, -, h3⟩, h2⟩ := h
  refine ⟨n, D, hD, fun x hx => ?_⟩
  rw [(h3 x hx).1]
  rcases h2 x hx with ⟨h1, -⟩ | ⟨A, m, d, -, hm, hsl, -⟩
  · rw [h1]; rfl
  · have := hsl.len
    rw [hM] at this
    simp at this
    omega
theorem group_len_nil {w : World} {gp mp N : Nat} {F : Nat → Prop} {M : ByteArray → List Pane} {cs : Array Value} (hg : At w gp cs 93) (h8 : cs[8]? = some (.map (some mp))) (h : MapAt w mp N F M) (hM : ∀ k, M k = []) :
    Calls Tryz.prog 18 #[.pointer (some ⟨gp, 0, none⟩)] w fun e w' => e = .returned (.int .i64 0) ∧ Keep none_ w w' := by
  have c8 : w.cell? ⟨gp, 8, none⟩ = some (.map (some mp)) := (At.cell hg 8).trans h8
  obtain ⟨n, D, hown, hno⟩ := h.empty hM
  clear h hM hg h8
  go_enter Tryz.func18, Tryz.ntmps18
  go_wp2_with (first | (at_range; refine wpList_range_own _ rfl _ 89 rfl 9 _ str_key Tryz.underlying89 RVs mp n D rfl hown ?_; intro w0 hrg0 hg0 hs0) | fail)
  have k0 : Keep none_ w w0 := Keep.grown (Keep.refl _ _) hg0 (fun k hk _ => by cases hk)
  clear hown c8
  go_frame
  go_loopw [3, 5] (fun nv _ wr => nv = .int .i64 0 ∧ wr = w0) (fun _ _ _ => 0)
  case atStart => exact ⟨rfl, rfl⟩
  case round =>
    obtain ⟨rfl, rfl⟩ := hrel
    go_wp2_with (first | (at_next; refine wpList_next_ranges _ rfl _ rfl 9 str_key RVs (fun x : ByteArray => Value.string x) (fun x : Value => x) (fun key kl hk => (key_str_inv hk).imp fun x hx => hx.1) (fun v y _ => ⟨v, rfl⟩) mp w.heap.size n D _ _ rfl hrg0 ?_ ?_) | fail)
    · intro _ _
      clear hrg0 hno
      go_wp2_with fail
      go_ret
      exact ⟨rfl, k0⟩
    · intro x c kl y ps w1 cnt1 hk hl
      exfalso
      obtain ⟨x', e1, e2, e3⟩ := key_str_inv hk
      have := hno x' e3
      rw [e2] at hl
      rw [this] at hl
      cases hl
end Go.Proofs.YtmioichjhiengaaGreat

/-
  The example at the head of the statements of layer 8.
-/
namespace Go.Proofs.YtmioichjhiengaaGreat
open Go.RowKit

def c8 : Config := ⟨0, 10, 0, 0, 0, 1, 1, 1⟩
def k8 : ByteArray := ⟨#[97]⟩
def p8 : Pane := ⟨k8, ⟨0, 10⟩, ⟨1, 5, 5, 5⟩⟩
theorem k8_ok : k8.size ≤ maxLen := by show 1 ≤ maxLen; unfold maxLen; omega
def noM : KM := fun _ => []
theorem steps_no {late mark : Int} {O : List Pane} {M : KM} (h : Steps late mark noM O M) : O = [] ∧ M = noM := by
  cases O with
  | nil => exact ⟨rfl, h⟩
  | cons p O => have := h.1.mem; cases this
theorem up8_of : ofL c8 3 = some [⟨0, 10⟩] := by kernel_rfl
theorem up8_code : codeG 0 (-1) [⟨0, 10⟩] = 0 := by kernel_rfl
theorem up8_put : putP [] k8 ⟨0, 10⟩ 5 = [p8] := by kernel_rfl
theorem up8_cut : cutP [p8] ⟨0, 10⟩ = [] := by kernel_rfl
theorem up8_take : takeM 0 0 (-1) k8 5 [⟨0, 10⟩] noM = setM noM k8 [p8] := by
  have e : takeM 0 0 (-1) k8 5 [⟨0, 10⟩] noM = putM 0 noM k8 ⟨0, 10⟩ 5 := rfl
  rw [e]
  unfold putM
  rw [if_neg (by decide)]
  show setM noM k8 (putP [] k8 ⟨0, 10⟩ 5) = _
  rw [up8_put]
theorem up8_settle {O : List Pane} {M : KM} (h : Steps 0 10 (setM noM k8 [p8]) O M) (hc : Calm 0 10 M) : O = [p8] ∧ M = noM := by
  cases O with
  | nil =>
    have e : M = setM noM k8 [p8] := h
    subst e
    have := hc k8 p8 k8_ok (by unfold setM; rw [if_pos rfl]; simp)
    exact absurd this (by decide)
  | cons p O =>
    have hm := h.1.mem
    unfold setM at hm
    by_cases e : p.key = k8
    · rw [if_pos e] at hm
      obtain rfl : p = p8 := by simpa using hm
      have e2 : cutM (setM noM k8 [p8]) p8 = noM := by
        funext k
        unfold cutM setM
        by_cases e3 : k = k8
        · subst e3
          show (if k8 = k8 then cutP (if k8 = k8 then [p8] else noM k8) ⟨0, 10⟩ else _) = _
          rw [if_pos rfl, if_pos rfl, up8_cut]
          rfl
        · rw [if_neg (show ¬ k = p8.key from e3), if_neg e3]
      have h2 := h.2
      rw [e2] at h2
      obtain ⟨rfl, rfl⟩ := steps_no h2
      exact ⟨rfl, rfl⟩
    · rw [if_neg e] at hm
      cases hm
theorem up8_eq : p8.eqB p8 = true := by kernel_rfl
set_option maxHeartbeats 4000000 in
set_option maxRecDepth 100000 in
theorem group_up (w : World) : Calls Tryz.prog 8 #[] w fun e w' => e = .returned (.bool true) ∧ Keep none_ w w' := by
  have hi : ∀ n : Int, -1000 ≤ n → n ≤ 1000 → I64 n := fun n h1 h2 => by unfold I64; omega
  have ok8 : c8.ok := ⟨hi _ (by decide) (by decide), hi _ (by decide) (by decide), hi _ (by decide) (by decide), hi _ (by decide) (by decide), hi _ (by decide) (by decide), hi _ (by decide) (by decide), hi _ (by decide) (by decide), hi _ (by decide) (by decide)⟩
  have ok0 : (⟨0, 0, 0, 0, 0, 0, 0, 0⟩ : Config).ok := ⟨hi _ (by decide) (by decide), hi _ (by decide) (by decide), hi _ (by decide) (by decide), hi _ (by decide) (by decide), hi _ (by decide) (by decide), hi _ (by decide) (by decide), hi _ (by decide) (by decide), hi _ (by decide) (by decide)⟩
  have m8 : c8.mayB = true := by kernel_rfl
  have m0 : (⟨0, 0, 0, 0, 0, 0, 0, 0⟩ : Config).mayB = false := by kernel_rfl
  have c1 := fun W => group_born W c8 ok8 m8
  have c2 := fun W => group_new_no W _ ok0 m0
  have c3 := fun W gp mp tp vq T (h : GrpAt W gp mp tp 0 0 c8 vq none_ noM T) => group_take h (by omega) (by omega) ok8 m8 k8 k8_ok 3 5 (-1) (hi _ (by decide) (by decide)) (hi _ (by decide) (by decide)) (hi _ (by decide) (by decide))
  have c4 := fun W gp mp tp vq T M (h : GrpAt W gp mp tp (0 + 16) (0 + 0 + 16) c8 vq none_ M T) => group_settle h (by omega) (by omega) ok8 10 (hi _ (by decide) (by decide))
  simp only [Config.cells, c8, k8] at c1 c2 c3 c4
  have hq := run_eql_Pane p8 p8
  rw [up8_eq] at hq
  simp only [Pane.cells, p8, k8] at hq
  replace c1 := Lib.hid c1
  replace c2 := Lib.hid c2
  replace c3 := Lib.hid c3
  replace c4 := Lib.hid c4
  clear hi ok8 ok0 m8 m0
  go_enter Tryz.func8, Tryz.ntmps8
  go_wp2_with fail
  refine (c1.out _).mono ?_
  rintro e w1 ⟨gp, mp, tp, rfl, h1, k1, -, lm, lt⟩
  go_wp2_with fail
  refine (c2.out _).mono ?_
  rintro e w2 ⟨rfl, k2⟩
  have h2 := (h1 none_ (fun _ e => e.elim)).none k2
  have k02 := k1.trans k2
  have cc3 := Lib.hid (c3.out _ _ _ _ _ _ h2)
  clear c1 c2 c3 h1 k1 k2
  go_wp2_with fail
  refine cc3.out.mono ?_
  rintro e w3 ⟨vo, O, M1, M2, code, rfl, hst, hcalm, hres, hn, own⟩
  obtain ⟨rfl, rfl⟩ := steps_no hst
  rcases hres with ⟨h9, -⟩ | ⟨l, hl, hcode, hM⟩
  · have h8 : ofL c8 3 = none := h9
    rw [up8_of] at h8
    cases h8
  have hl8 : ofL c8 3 = some l := hl
  rw [up8_of] at hl8
  obtain rfl := Option.some.inj hl8
  have hcode8 : code = 0 := hcode.trans up8_code
  have hM8 : M2 = setM noM k8 [p8] := hM.trans up8_take
  subst hcode8
  subst hM8
  obtain ⟨vq3, T3, h3, kn3, sn3⟩ := hn
  obtain ⟨A1, d1, rfl⟩ := own_form own
  simp only [List.length_nil] at own ⊢
  have cc4 := Lib.hid (c4.out _ _ _ _ _ _ _ h3)
  have hs2 := k02.size
  have k03 : Keep none_ w w3 := Keep.fresh k02 kn3 (fun q hq e => by
    rcases e with e | e | e
    · omega
    · omega
    · simp [Value.ownBlock] at e)
  have hs3 := k03.size
  have hf3 : ∀ q, q < w.heap.size → ¬ grpF mp tp vq3 q := fun q hq e => by
    rcases e with e | e | e
    · omega
    · omega
    · rcases sn3 with s | ⟨g, s, hg⟩
      · rw [s] at e; simp [Value.ownBlock] at e
      · rw [s] at e
        have : g = q := by simpa using e
        omega
  clear c4 cc3 hst hcalm hl hl8 hcode hM h2 h3 kn3 sn3 own
  go_wp2_with fail
  refine cc4.out.mono ?_
  rintro e w4 ⟨v4, O4, M4, vq4, T4, rfl, hst4, hcalm4, h4, ob4, own4, k4⟩
  obtain ⟨rfl, rfl⟩ := up8_settle hst4 hcalm4
  have k04 : Keep none_ w w4 := Keep.fresh k03 k4 hf3
  obtain ⟨A4, d4, rfl⟩ := own_form own4
  have hsl := Sl.of_own pane_len (by decide) own4
  have hd4 := hsl.2.1
  obtain ⟨b4, o4, rfl, hb4, -⟩ := hsl.at_ (by simp)
  obtain ⟨q0, q1, q2, q3, q4, q5, q6⟩ := hsl.pane (i := 0) (by simp)
  have cl := Lib.hid (group_len_nil h4.self rfl h4.map (fun k => rfl))
  simp only [List.length_cons, List.length_nil, Nat.zero_add, List.getElem_cons_zero, p8, k8, Nat.zero_mul, Nat.add_zero] at q0 q1 q2 q3 q4 q5 q6 hd4 ⊢
  have hq4 := hq w4
  have he4 := eq_err w4 2 2
  clear hq hsl own4 h4 hst4 hcalm4 k4 hf3 cc4
  go_wp2_with fail
  refine cl.out.mono ?_
  rintro e w5 ⟨rfl, k5⟩
  go_wp2_with fail
  go_ret
  exact ⟨rfl, k04.trans k5⟩
end Go.Proofs.YtmioichjhiengaaGreat
