/-
  The example at the head of the statements of layer 13.
-/
import Derived.Test.YtmioichjhiengaaGreatModelDo
import Derived.Test.YtmioichjhiengaaGreatBaseUp
namespace Go.Proofs.YtmioichjhiengaaGreat
open Go.RowKit

theorem DoRel.take {c : Config} {x : Call} {M M2 : KM} {mark mark2 code : Int} {closed2 : Bool} {R O : List Pane} (h : DoRel c x M mark false code R O M2 mark2 closed2) (hm : x.mayB c = true) (ho : x.op = 1) :
    mark2 = mark ∧ closed2 = false ∧ ∃ M1, Steps c.late mark M O M1 ∧ Calm c.late mark M1 ∧ ((ofL c x.time = none ∧ code = 4 ∧ M2 = M1) ∨ ∃ l, ofL c x.time = some l ∧ code = codeG c.late mark l ∧ M2 = takeM c.kind c.late mark x.key x.value l M1) := by
  rcases h with ⟨h1, -⟩ | ⟨-, h1, -⟩ | ⟨-, -, h1, -⟩ | ⟨-, -, -, h1, h2, M1, h3, h4, h5⟩ | ⟨-, -, h1, -⟩ | ⟨-, -, -, h1, -⟩
  · rw [hm] at h1; cases h1
  · cases h1
  · rw [ho] at h1; exact absurd h1 (by decide)
  · refine ⟨h1, h2, M1, h3, h4, ?_⟩
    rcases h5 with ⟨-, -, h5⟩ | ⟨h5, -⟩
    · exact h5
    · exact absurd (.inl ho) h5
  · rw [ho] at h1; exact absurd h1 (by decide)
  · unfold Call.keyedB at h1; rw [ho] at h1; exact absurd h1 (by decide)
theorem DoRel.adv {c : Config} {x : Call} {M M2 : KM} {mark mark2 code : Int} {closed2 : Bool} {R O : List Pane} (h : DoRel c x M mark false code R O M2 mark2 closed2) (hm : x.mayB c = true) (ho : x.op = 3) (hlt : mark < x.time) :
    code = 0 ∧ mark2 = x.time ∧ closed2 = false ∧ Steps c.late x.time M O M2 ∧ Calm c.late x.time M2 := by
  rcases h with ⟨h1, -⟩ | ⟨-, h1, -⟩ | ⟨-, -, -, h1, -⟩ | ⟨-, -, h1, -⟩ | ⟨-, -, -, -, h1, -, h2, h3, h4, h5⟩ | ⟨-, -, h1, -⟩
  · rw [hm] at h1; cases h1
  · cases h1
  · omega
  · unfold Call.keyedB at h1; rw [ho] at h1; exact absurd h1 (by decide)
  · exact ⟨h1, h2, h3, h4, h5⟩
  · exact absurd ho h1
def call1 : Call := ⟨1, k8, 3, 0, 0, 0, 0⟩
def call2 : Call := ⟨3, ⟨#[]⟩, 10, 0, 0, 0, 0⟩
def call3 : Call := ⟨1, k8, 4, 0, 0, 0, 0⟩
def q8 : Pane := ⟨k8, ⟨0, 10⟩, ⟨1, 0, 0, 0⟩⟩
theorem up13_put : putP [] k8 ⟨0, 10⟩ 0 = [q8] := by kernel_rfl
theorem up13_cut : cutP [q8] ⟨0, 10⟩ = [] := by kernel_rfl
theorem up13_code : codeG 0 (-9223372036854775808) [⟨0, 10⟩] = 0 := by kernel_rfl
theorem up13_code2 : codeG 0 10 [⟨0, 10⟩] = 1 := by kernel_rfl
theorem up13_of : ofL c8 4 = some [⟨0, 10⟩] := by kernel_rfl
theorem up13_take : takeM 0 0 (-9223372036854775808) k8 0 [⟨0, 10⟩] noM = setM noM k8 [q8] := by
  have e : takeM 0 0 (-9223372036854775808) k8 0 [⟨0, 10⟩] noM = putM 0 noM k8 ⟨0, 10⟩ 0 := rfl
  rw [e]
  unfold putM
  rw [if_neg (by decide)]
  show setM noM k8 (putP [] k8 ⟨0, 10⟩ 0) = _
  rw [up13_put]
theorem up13_settle {O : List Pane} {M : KM} (h : Steps 0 10 (setM noM k8 [q8]) O M) (hc : Calm 0 10 M) : O = [q8] ∧ M = noM := by
  cases O with
  | nil =>
    have e : M = setM noM k8 [q8] := h
    subst e
    have := hc k8 q8 k8_ok (by unfold setM; rw [if_pos rfl]; simp)
    exact absurd this (by decide)
  | cons p O =>
    have hm := h.1.mem
    unfold setM at hm
    by_cases e : p.key = k8
    · rw [if_pos e] at hm
      obtain rfl : p = q8 := by simpa using hm
      have e2 : cutM (setM noM k8 [q8]) q8 = noM := by
        funext k
        unfold cutM setM
        by_cases e3 : k = k8
        · subst e3
          show (if k8 = k8 then cutP (if k8 = k8 then [q8] else noM k8) ⟨0, 10⟩ else _) = _
          rw [if_pos rfl, if_pos rfl, up13_cut]
          rfl
        · rw [if_neg (show ¬ k = q8.key from e3), if_neg e3]
      have h2 := h.2
      rw [e2] at h2
      obtain ⟨rfl, rfl⟩ := steps_no h2
      exact ⟨rfl, rfl⟩
    · rw [if_neg e] at hm
      cases hm
theorem up13_a {M2 : KM} {mark2 code : Int} {closed2 : Bool} {R O : List Pane} (h : DoRel c8 call1 noM (-9223372036854775808) false code R O M2 mark2 closed2) : code = 0 ∧ O = [] ∧ M2 = setM noM k8 [q8] ∧ mark2 = -9223372036854775808 ∧ closed2 = false := by
  obtain ⟨h1, h2, M1, h3, -, h5⟩ := h.take (by kernel_rfl) rfl
  obtain ⟨rfl, rfl⟩ := steps_no h3
  rcases h5 with ⟨h5, -⟩ | ⟨l, h5, h6, h7⟩
  · have e : ofL c8 3 = none := h5
    rw [up8_of] at e; cases e
  · have e : ofL c8 3 = some l := h5
    rw [up8_of] at e
    obtain rfl := Option.some.inj e
    exact ⟨h6.trans up13_code, rfl, h7.trans up13_take, h1, h2⟩
theorem up13_b {M2 : KM} {mark2 code : Int} {closed2 : Bool} {R O : List Pane} (h : DoRel c8 call2 (setM noM k8 [q8]) (-9223372036854775808) false code R O M2 mark2 closed2) : code = 0 ∧ O = [q8] ∧ M2 = noM ∧ mark2 = 10 ∧ closed2 = false := by
  obtain ⟨h1, h2, h3, h4, h5⟩ := h.adv (by kernel_rfl) rfl (by decide)
  obtain ⟨rfl, rfl⟩ := up13_settle h4 h5
  exact ⟨h1, rfl, rfl, h2, h3⟩
theorem up13_c {M2 : KM} {mark2 code : Int} {closed2 : Bool} {R O : List Pane} (h : DoRel c8 call3 noM 10 false code R O M2 mark2 closed2) : code = 1 ∧ O = [] ∧ mark2 = 10 := by
  obtain ⟨h1, h2, M1, h3, -, h5⟩ := h.take (by kernel_rfl) rfl
  obtain ⟨rfl, rfl⟩ := steps_no h3
  rcases h5 with ⟨h5, -⟩ | ⟨l, h5, h6, h7⟩
  · have e : ofL c8 4 = none := h5
    rw [up13_of] at e; cases e
  · have e : ofL c8 4 = some l := h5
    rw [up13_of] at e
    obtain rfl := Option.some.inj e
    exact ⟨h6.trans up13_code2, rfl, h1⟩
/-- A call of a model that was made in the call's own blocks. -/
theorem Did.slice {w w' : World} {b mb gp mp tp lp N Q : Nat} {c : Config} {vq lv : Value} {M : KM} {L : List Pane} {mark : Int} {closed : Bool} {Y : Nat → Prop} {x : Call} {e : Ending} (h : Did w b mb gp mp tp lp N Q c vq lv M L mark closed Y x e w') :
    ∃ code pA pn pd R O M2 vq2 lv2 T2 mark2 closed2, e = .returned (.agg #[.int .i64 code, .slice pA pn pd]) ∧ Sl Pane.cells 7 w' pA pn pd R ∧ DoRel c x M mark closed code R O M2 mark2 closed2 ∧
      MdlAt w' b mb gp mp tp lp (N + 16) (Q + N + 16) c vq2 lv2 M2 T2 (L ++ O) mark2 closed2 Y ∧ Keep (mdlF mb mp tp lp vq lv) w w' ∧ ∀ q, q < w.heap.size → mdlF mb mp tp lp vq2 lv2 q → mdlF mb mp tp lp vq lv q := by
  obtain ⟨code, pv, R, O, M2, vq2, lv2, T2, mark2, closed2, rfl, ⟨pA, pn, pd, rfl, hsl, -⟩, hd, hm, hk⟩ := h
  exact ⟨code, pA, pn, pd, R, O, M2, vq2, lv2, T2, mark2, closed2, rfl, hsl, hd, hm, hk⟩
set_option maxHeartbeats 4000000 in
set_option maxRecDepth 100000 in
theorem model_up (w : World) : Calls Tryz.prog 22 #[] w fun e w' => e = .returned (.bool true) ∧ Keep none_ w w' := by
  have hi : ∀ n : Int, -1000 ≤ n → n ≤ 1000 → I64 n := fun n h1 h2 => by unfold I64; omega
  have ok8 : c8.ok := ⟨hi _ (by decide) (by decide), hi _ (by decide) (by decide), hi _ (by decide) (by decide), hi _ (by decide) (by decide), hi _ (by decide) (by decide), hi _ (by decide) (by decide), hi _ (by decide) (by decide), hi _ (by decide) (by decide)⟩
  have ok0 : (⟨0, 0, 0, 0, 0, 0, 0, 0⟩ : Config).ok := ⟨hi _ (by decide) (by decide), hi _ (by decide) (by decide), hi _ (by decide) (by decide), hi _ (by decide) (by decide), hi _ (by decide) (by decide), hi _ (by decide) (by decide), hi _ (by decide) (by decide), hi _ (by decide) (by decide)⟩
  have m8 : c8.mayB = true := by kernel_rfl
  have m0 : (⟨0, 0, 0, 0, 0, 0, 0, 0⟩ : Config).mayB = false := by kernel_rfl
  have ko : ∀ k : ByteArray, k = k8 ∨ k = ⟨#[]⟩ → k.size ≤ maxLen := fun k e => by
    rcases e with rfl | rfl
    · exact k8_ok
    · show 0 ≤ maxLen; unfold maxLen; omega
  have oka : call1.ok := ⟨hi _ (by decide) (by decide), ko _ (.inl rfl), hi _ (by decide) (by decide), hi _ (by decide) (by decide), hi _ (by decide) (by decide), hi _ (by decide) (by decide), hi _ (by decide) (by decide)⟩
  have okb : call2.ok := ⟨hi _ (by decide) (by decide), ko _ (.inr rfl), hi _ (by decide) (by decide), hi _ (by decide) (by decide), hi _ (by decide) (by decide), hi _ (by decide) (by decide), hi _ (by decide) (by decide)⟩
  have okc : call3.ok := ⟨hi _ (by decide) (by decide), ko _ (.inl rfl), hi _ (by decide) (by decide), hi _ (by decide) (by decide), hi _ (by decide) (by decide), hi _ (by decide) (by decide), hi _ (by decide) (by decide)⟩
  have c1 := fun W => model_new W c8 ok8 m8
  have c2 := fun W => model_new_no W _ ok0 m0
  have ca := fun W b mb gp mp tp lp vq lv T (h : MdlAt W b mb gp mp tp lp 0 0 c8 vq lv noM T [] (-9223372036854775808) false none_) (hb : b ≤ W.heap.size) => (model_do h hb (by omega) (by omega) (by simp) ok8 m8 call1 oka).mono (fun e w' hd => hd.slice)
  have cb := fun W b mb gp mp tp lp vq lv T M (h : MdlAt W b mb gp mp tp lp (0 + 16) (0 + 0 + 16) c8 vq lv M T [] (-9223372036854775808) false none_) (hb : b ≤ W.heap.size) => (model_do h hb (by omega) (by omega) (by simp) ok8 m8 call2 okb).mono (fun e w' hd => hd.slice)
  have cc := fun W b mb gp mp tp lp vq lv T M (h : MdlAt W b mb gp mp tp lp (0 + 16 + 16) (0 + 0 + 16 + (0 + 16) + 16) c8 vq lv M T [q8] 10 false none_) (hb : b ≤ W.heap.size) => (model_do h hb (by omega) (by omega) (by simp) ok8 m8 call3 okc).mono (fun e w' hd => hd.slice)
  simp only [Config.cells, Call.cells, c8, k8, call1, call2, call3] at c1 c2 ca cb cc
  replace c1 := Lib.hid c1
  replace c2 := Lib.hid c2
  replace ca := Lib.hid ca
  replace cb := Lib.hid cb
  replace cc := Lib.hid cc
  clear hi ok8 ok0 m8 m0 oka okb okc ko
  go_enter Tryz.func22, Tryz.ntmps22
  go_wp2_with fail
  refine (c1.out _).mono ?_
  rintro e w1 ⟨mb, gp, mp, tp, lp, rfl, h1, k1⟩
  go_wp2_with fail
  refine (c2.out _).mono ?_
  rintro e w2 ⟨rfl, k2⟩
  have h2 := h1.none k2
  have k02 := k1.trans k2
  have hb2 : w.heap.size ≤ w2.heap.size := k02.size
  have c3 := Lib.hid (ca.out _ _ _ _ _ _ _ _ _ _ h2 hb2)
  clear c1 c2 ca h1 k1 k2
  go_wp2_with fail
  refine c3.out.mono ?_
  rintro e w3 ⟨code3, pA3, pn3, pd3, R3, O3, M3, vq3, lv3, T3, mark3, closed3, rfl, hsl3, hd3, hm3, hk3, hw3⟩
  obtain ⟨rfl, rfl, rfl, rfl, rfl⟩ := up13_a hd3
  have k03 : Keep none_ w w3 := Keep.fresh k02 hk3 (fun q hq e => by have := (h2.lt q e).1; omega)
  clear c3 hd3 hk3 h2 k02 hb2 hsl3 hw3
  rw [List.append_nil] at hm3
  have kr3 : Keep none_ w3 (w3.alloc (.cells #[.int .i64 0, .slice pA3 pn3 pd3] 57)) := Keep.alloc (Keep.refl _ _) _
  have hr3 := At.new w3 #[.int .i64 0, .slice pA3 pn3 pd3] 57
  have hn3 : ¬ mdlF mb mp tp lp vq3 lv3 w3.heap.size := fun e => by have := (hm3.lt _ e).2; omega
  have h4 := hm3.none kr3
  have k04 := k03.trans kr3
  have hb4 : w.heap.size ≤ (w3.alloc (.cells #[.int .i64 0, .slice pA3 pn3 pd3] 57)).heap.size := k04.size
  have c4 := Lib.hid (cb.out _ _ _ _ _ _ _ _ _ _ _ h4 hb4)
  clear cb kr3 k03 hm3
  go_wp2_with fail
  refine c4.out.mono ?_
  have hl4 := hr3.lt
  generalize w3.heap.size = r3 at *
  generalize w3.alloc _ = w4 at *
  rintro e w5 ⟨code5, pA5, pn5, pd5, R5, O5, M5, vq5, lv5, T5, mark5, closed5, rfl, hsl5, hd5, hm5, hk5, hw5⟩
  obtain ⟨rfl, rfl, rfl, rfl, rfl⟩ := up13_b hd5
  have k05 : Keep none_ w w5 := Keep.fresh k04 hk5 (fun q hq e => by have := (h4.lt q e).1; omega)
  have hr35 := Keep.at hk5 hr3 hn3
  have hn35 : ¬ mdlF mb mp tp lp vq5 lv5 r3 := fun e => hn3 (hw5 r3 hl4 e)
  clear c4 hd5 hk5 h4 k04 hb4 hsl5 hw5 hr3 hn3 hl4
  rw [List.nil_append] at hm5
  have kr5 : Keep none_ w5 (w5.alloc (.cells #[.int .i64 0, .slice pA5 pn5 pd5] 57)) := Keep.alloc (Keep.refl _ _) _
  have hr5 := At.new w5 #[.int .i64 0, .slice pA5 pn5 pd5] 57
  have hn5 : ¬ mdlF mb mp tp lp vq5 lv5 w5.heap.size := fun e => by have := (hm5.lt _ e).2; omega
  have h6 := hm5.none kr5
  have k06 := k05.trans kr5
  have hr36 := Keep.at kr5 hr35 (fun e => e)
  have hb6 : w.heap.size ≤ (w5.alloc (.cells #[.int .i64 0, .slice pA5 pn5 pd5] 57)).heap.size := k06.size
  have c6 := Lib.hid (cc.out _ _ _ _ _ _ _ _ _ _ _ h6 hb6)
  clear cc kr5 k05 hm5 hr35
  go_wp2_with fail
  refine c6.out.mono ?_
  generalize w5.heap.size = r5 at *
  generalize w5.alloc _ = w6 at *
  rintro e w7 ⟨code7, pA7, pn7, pd7, R7, O7, M7, vq7, lv7, T7, mark7, closed7, rfl, hsl7, hd7, hm7, hk7, -⟩
  obtain ⟨rfl, rfl, rfl⟩ := up13_c hd7
  have k07 : Keep none_ w w7 := Keep.fresh k06 hk7 (fun q hq e => by have := (h6.lt q e).1; omega)
  have hr37 := Keep.at hk7 hr36 hn35
  have hr57 := Keep.at hk7 hr5 hn5
  clear c6 hd7 hk7 h6 k06 hb6 hsl7 hr36 hr5 hn35 hn5
  rw [List.append_nil] at hm7
  have kr7 : Keep none_ w7 (w7.alloc (.cells #[.int .i64 1, .slice pA7 pn7 pd7] 57)) := Keep.alloc (Keep.refl _ _) _
  have g3 : (w7.alloc (.cells #[.int .i64 1, .slice pA7 pn7 pd7] 57)).cell? ⟨r3, 0, none⟩ = some (.int .i64 0) := At.cell (Keep.at kr7 hr37 (fun e => e)) 0
  have g5 : (w7.alloc (.cells #[.int .i64 1, .slice pA7 pn7 pd7] 57)).cell? ⟨r5, 0, none⟩ = some (.int .i64 0) := At.cell (Keep.at kr7 hr57 (fun e => e)) 0
  have l3 := hr37.lt
  have l5 := hr57.lt
  have h8 := hm7.none kr7
  have k08 := k07.trans kr7
  have co := Lib.hid (model_out h8 (by simp))
  have cm := Lib.hid (fun W' (k : Keep none_ (w7.alloc (.cells #[.int .i64 1, .slice pA7 pn7 pd7] 57)) W') => model_mark (h8.none k))
  have he := eq_err (w7.alloc (.cells #[.int .i64 1, .slice pA7 pn7 pd7] 57)) 2 2
  clear hm7 k07 kr7 hr37 hr57 h8
  go_wp2_with fail
  refine co.out.mono ?_
  rintro e w9 ⟨v9, rfl, o9, k9⟩
  obtain ⟨A9, d9, rfl⟩ := own_form o9
  have cm9 := cm.out _ k9
  replace cm9 := Lib.hid cm9
  clear co cm he g3 g5
  try simp only [List.length_cons, List.length_nil, Nat.zero_add]
  go_wp2_with fail
  refine cm9.out.mono ?_
  rintro e w10 ⟨rfl, rfl⟩
  go_wp2_with fail
  go_ret
  exact ⟨rfl, k08.trans k9⟩
end Go.Proofs.YtmioichjhiengaaGreat
