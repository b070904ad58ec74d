/-
  Texts of one kind, one behind the other.
-/
import Derived.Test.YtmioichjhiengaaGreatBaseAsk
import Derived.Test.YtmioichjhiengaaGreatBaseModel
import Derived.Test.YtmioichjhiengaaGreatBaseTwelve
import Derived.Test.YtmioichjhiengaaGreatModelDo
import Derived.Test.YtmioichjhiengaaGreatBaseOnce
import Derived.BigQuiet
import Derived.Deep.CutBlock
set_option linter.unusedSimpArgs false
set_option linter.unusedVariables false
/-
  The reference's model: what it is, that what it does is one with what the model does (plain).
-/
namespace Go.Proofs.YtmioichjhiengaaGreat
open Go.RowKit

/-- A call does the same to the same, whoever does it. -/
theorem DoRel.uniq {c : Config} {x : Call} {M M2 N2 : KM} {mark mark2 nark2 code dode : Int} {closed closed2 dlosed2 : Bool} {R O S P : List Pane} (hk : KMOK M) (h : DoRel c x M mark closed code R O M2 mark2 closed2) (h2 : DoRel c x M mark closed dode S P N2 nark2 dlosed2) :
    code = dode ∧ R = S ∧ O = P ∧ M2 = N2 ∧ mark2 = nark2 ∧ closed2 = dlosed2 := by
  have hko : x.keyedB = true → x.op ≠ 3 := fun e e2 => by unfold Call.keyedB at e; rw [e2] at e; exact absurd e (by decide)
  rcases h with ⟨a1, rfl, rfl, rfl, rfl, rfl, rfl⟩ | ⟨a1, a2, rfl, rfl, rfl, rfl, rfl, rfl⟩ | ⟨a1, a2, a3, a4, rfl, rfl, rfl, rfl, rfl, rfl⟩ | ⟨a1, a2, a3, rfl, rfl, M1, a4, a5, a6⟩ | ⟨a1, a2, a3, a4, rfl, rfl, rfl, rfl, a5, a6⟩ | ⟨a1, a2, a3, a4, rfl, rfl, rfl, rfl, rfl, rfl⟩
  · rcases h2 with ⟨b1, rfl, rfl, rfl, rfl, rfl, rfl⟩ | ⟨b1, -⟩ | ⟨b1, -⟩ | ⟨b1, -⟩ | ⟨b1, -⟩ | ⟨b1, -⟩
    · exact ⟨rfl, rfl, rfl, rfl, rfl, rfl⟩
    all_goals (rw [a1] at b1; cases b1)
  · rcases h2 with ⟨b1, -⟩ | ⟨b1, b2, rfl, rfl, rfl, rfl, rfl, rfl⟩ | ⟨b1, b2, -⟩ | ⟨b1, b2, -⟩ | ⟨b1, b2, -⟩ | ⟨b1, b2, -⟩
    · rw [a1] at b1; cases b1
    · exact ⟨rfl, rfl, rfl, rfl, rfl, rfl⟩
    all_goals (rw [a2] at b2; cases b2)
  · rcases h2 with ⟨b1, -⟩ | ⟨b1, b2, -⟩ | ⟨b1, b2, b3, b4, rfl, rfl, rfl, rfl, rfl, rfl⟩ | ⟨b1, b2, b3, -⟩ | ⟨b1, b2, b3, b4, -⟩ | ⟨b1, b2, b3, -⟩
    · rw [a1] at b1; cases b1
    · rw [a2] at b2; cases b2
    · exact ⟨rfl, rfl, rfl, rfl, rfl, rfl⟩
    · exact absurd a3 (hko b3)
    · omega
    · exact absurd a3 b3
  · rcases h2 with ⟨b1, -⟩ | ⟨b1, b2, -⟩ | ⟨b1, b2, b3, -⟩ | ⟨b1, b2, b3, rfl, rfl, N1, b4, b5, b6⟩ | ⟨b1, b2, b3, -⟩ | ⟨b1, b2, b3, b4, -⟩
    · rw [a1] at b1; cases b1
    · rw [a2] at b2; cases b2
    · exact absurd b3 (hko a3)
    · obtain ⟨e1, e2, e3, e4⟩ := AskRel.uniq hk ⟨a4, a5, a6⟩ ⟨b4, b5, b6⟩
      exact ⟨e1, e2, e3, e4, rfl, rfl⟩
    · exact absurd b3 (hko a3)
    · rw [a3] at b4; cases b4
  · rcases h2 with ⟨b1, -⟩ | ⟨b1, b2, -⟩ | ⟨b1, b2, b3, b4, -⟩ | ⟨b1, b2, b3, -⟩ | ⟨b1, b2, b3, b4, rfl, rfl, rfl, rfl, b5, b6⟩ | ⟨b1, b2, b3, -⟩
    · rw [a1] at b1; cases b1
    · rw [a2] at b2; cases b2
    · omega
    · exact absurd a3 (hko b3)
    · obtain ⟨e1, e2⟩ := Steps.uniq hk a5 a6 b5 b6
      exact ⟨rfl, rfl, e1, e2, rfl, rfl⟩
    · exact absurd a3 b3
  · rcases h2 with ⟨b1, -⟩ | ⟨b1, b2, -⟩ | ⟨b1, b2, b3, -⟩ | ⟨b1, b2, b3, -⟩ | ⟨b1, b2, b3, -⟩ | ⟨b1, b2, b3, b4, rfl, rfl, rfl, rfl, rfl, rfl⟩
    · rw [a1] at b1; cases b1
    · rw [a2] at b2; cases b2
    · exact absurd b3 a3
    · rw [a4] at b3; cases b3
    · exact absurd b3 a3
    · exact ⟨rfl, rfl, rfl, rfl, rfl, rfl⟩
/-- A model of the reference. -/
structure RMAt (w : World) (b rm p n : Nat) (c : Config) (A : Option Addr) (d : Nat) (L : List Pane) (ov : Value) (O : List Pane) (M : KM) (mark : Int) (closed : Bool) : Prop where
  self : At w rm #[.pointer (some ⟨p, 0, none⟩), ov, .int .i64 mark, .bool closed] 63
  ref : RGAt w p c A d L
  rel : RelL L M
  good : GoodM n c.kind M
  row : PRow w b ov O
  ne : rm ≠ p ∧ ov.ownBlock ≠ some rm ∧ ov.ownBlock ≠ some p ∧ (∀ a, A = some a → a.block ≠ rm ∧ ov.ownBlock ≠ some a.block)
  low : b ≤ rm ∧ b ≤ p
  lowA : ∀ a, A = some a → b ≤ a.block
  mk64 : I64 mark
  len : L.length ≤ n
def rmF (rm p : Nat) (ov : Value) : Nat → Prop := fun q => q = rm ∨ q = p ∨ ov.ownBlock = some q
section
variable {w w' : World} {b rm p n : Nat} {c : Config} {A : Option Addr} {d : Nat} {L : List Pane} {ov : Value} {O : List Pane} {M : KM} {mark : Int} {closed : Bool}
theorem RMAt.still (h : RMAt w b rm p n c A d L ov O M mark closed) (k : Keep none_ w w') : RMAt w' b rm p n c A d L ov O M mark closed :=
  ⟨Keep.at k h.self (fun e => e), h.ref.none k, h.rel, h.good, own_keep h.row k (fun _ _ e => e), h.ne, h.low, h.lowA, h.mk64, h.len⟩
theorem RMAt.away {S : Nat → Prop} (h : RMAt w b rm p n c A d L ov O M mark closed) (k : Keep S w w') (hS : ∀ q, rmF rm p ov q → ¬ S q) (hA : ∀ a, A = some a → ¬ S a.block) : RMAt w' b rm p n c A d L ov O M mark closed :=
  ⟨Keep.at k h.self (hS rm (.inl rfl)), h.ref.keep k (hS p (.inr (.inl rfl))) hA, h.rel, h.good, own_keep h.row k (fun g hg => hS g (.inr (.inr hg))), h.ne, h.low, h.lowA, h.mk64, h.len⟩
theorem RMAt.lt (h : RMAt w b rm p n c A d L ov O M mark closed) : ∀ q, rmF rm p ov q → b ≤ q ∧ q < w.heap.size := by
  intro q e
  rcases e with rfl | rfl | e
  · exact ⟨h.low.1, h.self.lt⟩
  · exact ⟨h.low.2, h.ref.at_.lt⟩
  · exact h.row.lt q e
theorem RMAt.up {m : Nat} (h : RMAt w b rm p n c A d L ov O M mark closed) (hm : n ≤ m) : RMAt w b rm p m c A d L ov O M mark closed :=
  ⟨h.self, h.ref, h.rel, h.good.up hm, h.row, h.ne, h.low, h.lowA, h.mk64, Nat.le_trans h.len hm⟩
/-- Its mark, or whether it is closed, changes. -/
theorem RMAt.write {mark' : Int} {closed' : Bool} (h : RMAt w b rm p n c A d L ov O M mark closed) (k : Keep (one rm) w w') (hs : At w' rm #[.pointer (some ⟨p, 0, none⟩), ov, .int .i64 mark', .bool closed'] 63) (hm : I64 mark') : RMAt w' b rm p n c A d L ov O M mark' closed' :=
  ⟨hs, h.ref.keep k (fun e => h.ne.1 e.symm) (fun a ha e => (h.ne.2.2.2 a ha).1 e), h.rel, h.good, own_keep h.row k (fun g hg e => by unfold one at e; rw [e] at hg; exact h.ne.2.1 hg), h.ne, h.low, h.lowA, hm, h.len⟩
/-- Its group changes. -/
theorem RMAt.step {n' : Nat} {A' : Option Addr} {d' : Nat} {L' : List Pane} {M' : KM} (h : RMAt w b rm p n c A d L ov O M mark closed) (hb : b ≤ w.heap.size) (k : Keep (one p) w w') (hr : RGAt w' p c A' d' L') (hrel : RelL L' M') (hg : GoodM n' c.kind M') (hA : ∀ a, A' = some a → A = some a ∨ w.heap.size ≤ a.block) (hl : L'.length ≤ n') : RMAt w' b rm p n' c A' d' L' ov O M' mark closed := by
  have hlt := h.lt
  refine ⟨Keep.at k h.self (fun e => h.ne.1 e), hr, hrel, hg, own_keep h.row k (fun g hg e => by unfold one at e; rw [e] at hg; exact h.ne.2.2.1 hg), ⟨h.ne.1, h.ne.2.1, h.ne.2.2.1, fun a ha => ?_⟩, h.low, fun a ha => ?_, h.mk64, hl⟩
  · rcases hA a ha with e | e
    · exact h.ne.2.2.2 a e
    · have h1 := (hlt rm (.inl rfl)).2
      exact ⟨by omega, fun e2 => by have := (hlt _ (.inr (.inr e2))).2; omega⟩
  · rcases hA a ha with e | e
    · exact h.lowA a e
    · omega
/-- What went out grows, and is stored. -/
theorem RMAt.put {ov2 : Value} {O2 : List Pane} {w2 : World} (h : RMAt w b rm p n c A d L ov O M mark closed) (k : Keep (own_of ov) w w') (own : PRow w' b ov2 O2) (ho : ov2.ownBlock = ov.ownBlock ∨ ∃ g, ov2.ownBlock = some g ∧ w.heap.size ≤ g) (k2 : Keep (one rm) w' w2) (hs : At w2 rm #[.pointer (some ⟨p, 0, none⟩), ov2, .int .i64 mark, .bool closed] 63) : RMAt w2 b rm p n c A d L ov2 O2 M mark closed := by
  have hlt := h.lt
  have hnew : ∀ q, q < w.heap.size → ov2.ownBlock = some q → ov.ownBlock = some q := fun q hq e => by
    rcases ho with e2 | ⟨g, e2, hg⟩
    · rw [← e2]; exact e
    · rw [e2] at e
      have : g = q := by simpa using e
      omega
  have hrm := (hlt rm (.inl rfl)).2
  have hp := (hlt p (.inr (.inl rfl))).2
  have hr1 := h.ref.keep k (fun e => h.ne.2.2.1 e) (fun a ha e => (h.ne.2.2.2 a ha).2 e)
  refine ⟨hs, hr1.keep k2 (fun e => h.ne.1 e.symm) (fun a ha e => (h.ne.2.2.2 a ha).1 e), h.rel, h.good, own_keep own k2 (fun g hg e => by unfold one at e; rw [e] at hg; exact h.ne.2.1 (hnew rm hrm hg)), ⟨h.ne.1, fun e => h.ne.2.1 (hnew rm hrm e), fun e => h.ne.2.2.1 (hnew p hp e), fun a ha => ⟨(h.ne.2.2.2 a ha).1, fun e => (h.ne.2.2.2 a ha).2 (hnew _ (h.ref.lt a ha) e)⟩⟩, h.low, h.lowA, h.mk64, h.len⟩
end
def RMDid (w : World) (b rm p n : Nat) (c : Config) (A : Option Addr) (ov : Value) (O : List Pane) (M : KM) (mark : Int) (closed : Bool) (x : Call) (e : Ending) (w' : World) : Prop :=
  ∃ code pA pn pd R O1 M2 ov2 A2 d2 L2 mark2 closed2, e = .returned (.agg #[.int .i64 code, .slice pA pn pd]) ∧ Sl Pane.cells 7 w' pA pn pd R ∧ DoRel c x M mark closed code R O1 M2 mark2 closed2 ∧ RMAt w' b rm p (n + 16) c A2 d2 L2 ov2 (O ++ O1) M2 mark2 closed2 ∧ Keep (rmF rm p ov) w w' ∧
    (∀ q, q < w.heap.size → rmF rm p ov2 q → rmF rm p ov q) ∧ (∀ a, A2 = some a → A = some a ∨ w.heap.size ≤ a.block) ∧ (0 < pn → ∀ a, pA = some a → w.heap.size ≤ a.block ∧ ¬ rmF rm p ov2 a.block)
end Go.Proofs.YtmioichjhiengaaGreat

/-
  A model and the reference's, side by side (plain).
-/
namespace Go.Proofs.YtmioichjhiengaaGreat
open Go.RowKit

/-- The blocks of the reference's model. -/
def rmY (rm p : Nat) (ov : Value) (A : Option Addr) : Nat → Prop := fun q => rmF rm p ov q ∨ ∃ a, A = some a ∧ a.block = q
structure BothSt (W wr : World) (b mb gp mp tp lp b2 rm p k : Nat) (c : Config) (vq lv : Value) (T : List Timer) (M : KM) (O : List Pane) (mark : Int) (closed : Bool) (A : Option Addr) (d : Nat) (L : List Pane) (ov : Value) : Prop where
  mdl : MdlAt wr b mb gp mp tp lp (16 * k) (1000 * k) c vq lv M T O mark closed (rmY rm p ov A)
  ref : RMAt wr b2 rm p (16 * k) c A d L ov O M mark closed
  keep : Keep none_ W wr
  bl : W.heap.size ≤ b ∧ b ≤ wr.heap.size ∧ W.heap.size ≤ b2 ∧ b2 ≤ wr.heap.size
  len : O.length ≤ 1000 * k
/-- The model did it, the reference not yet. -/
structure BothMid (W w0 w1 : World) (b mb gp mp tp lp b2 rm p k : Nat) (c : Config) (vq2 lv2 : Value) (T2 : List Timer) (M M2 : KM) (O O1 R : List Pane) (mark mark2 code : Int) (closed closed2 : Bool) (x : Call) (A : Option Addr) (d : Nat) (L : List Pane) (ov : Value) : Prop where
  mdl : MdlAt w1 b mb gp mp tp lp (16 * k + 16) (1000 * k + 16 * k + 16) c vq2 lv2 M2 T2 (O ++ O1) mark2 closed2 (rmY rm p ov A)
  ref : RMAt w1 b2 rm p (16 * k) c A d L ov O M mark closed
  rel : DoRel c x M mark closed code R O1 M2 mark2 closed2
  keep : Keep none_ W w1
  bl : W.heap.size ≤ b ∧ b ≤ w1.heap.size ∧ W.heap.size ≤ b2 ∧ b2 ≤ w1.heap.size
  len : (O ++ O1).length ≤ 1000 * (k + 1)
  old : (∀ q, rmF rm p ov q → q < w0.heap.size) ∧ w0.heap.size ≤ w1.heap.size
section
variable {W wr w' : World} {b mb gp mp tp lp b2 rm p k : Nat} {c : Config} {vq lv : Value} {T : List Timer} {M : KM} {O : List Pane} {mark : Int} {closed : Bool} {A : Option Addr} {d : Nat} {L : List Pane} {ov : Value}
theorem BothSt.still (h : BothSt W wr b mb gp mp tp lp b2 rm p k c vq lv T M O mark closed A d L ov) (k9 : Keep none_ wr w') : BothSt W w' b mb gp mp tp lp b2 rm p k c vq lv T M O mark closed A d L ov :=
  ⟨h.mdl.none k9, h.ref.still k9, h.keep.trans k9, ⟨h.bl.1, Nat.le_trans h.bl.2.1 k9.size, h.bl.2.2.1, Nat.le_trans h.bl.2.2.2 k9.size⟩, h.len⟩
theorem BothSt.did {e : Ending} {x : Call} (h : BothSt W wr b mb gp mp tp lp b2 rm p k c vq lv T M O mark closed A d L ov) (hk : k < 61) (hd : Did wr b mb gp mp tp lp (16 * k) (1000 * k) c vq lv M O mark closed (rmY rm p ov A) x e w') :
    ∃ code pA pn pd R O1 M2 vq2 lv2 T2 mark2 closed2, e = .returned (.agg #[.int .i64 code, .slice pA pn pd]) ∧ Sl Pane.cells 7 w' pA pn pd R ∧ (∀ a, pA = some a → wr.heap.size ≤ a.block) ∧
      BothMid W wr w' b mb gp mp tp lp b2 rm p k c vq2 lv2 T2 M M2 O O1 R mark mark2 code closed closed2 x A d L ov := by
  obtain ⟨code, pv, R, O1, M2, vq2, lv2, T2, mark2, closed2, rfl, ⟨pA, pn, pd, rfl, hsl, hge⟩, hrel, hm, kk, -⟩ := hd
  have hY : ∀ q, rmY rm p ov A q → ¬ mdlF mb mp tp lp vq lv q := fun q e e2 => by
    rcases e2 with e2 | e2
    · exact (h.mdl.nF q (.inr e)).1 e2
    · exact h.mdl.dis q e e2
  have hlt := h.mdl.lt
  have hl := hrel.len h.mdl.grp.inv h.mdl.grp.tim.nodup
  have hs := kk.size
  have hlen := h.len
  have hbl := h.bl
  refine ⟨code, pA, pn, pd, R, O1, M2, vq2, lv2, T2, mark2, closed2, rfl, hsl, hge, hm, h.ref.away kk (fun q e => hY q (.inl e)) (fun a ha => hY _ (.inr ⟨a, ha, rfl⟩)), hrel, Keep.fresh h.keep kk (fun q hq e => by have := (hlt q e).1; omega), ⟨hbl.1, by omega, hbl.2.2.1, by omega⟩, ?_, fun q e => (h.ref.lt q e).2, hs⟩
  rw [List.length_append]
  omega
end
theorem BothMid.still {W w0 w1 w' : World} {b mb gp mp tp lp b2 rm p k : Nat} {c : Config} {vq2 lv2 : Value} {T2 : List Timer} {M M2 : KM} {O O1 R : List Pane} {mark mark2 code : Int} {closed closed2 : Bool} {x : Call} {A : Option Addr} {d : Nat} {L : List Pane} {ov : Value} (h : BothMid W w0 w1 b mb gp mp tp lp b2 rm p k c vq2 lv2 T2 M M2 O O1 R mark mark2 code closed closed2 x A d L ov) (k9 : Keep none_ w1 w') : BothMid W w0 w' b mb gp mp tp lp b2 rm p k c vq2 lv2 T2 M M2 O O1 R mark mark2 code closed closed2 x A d L ov :=
  ⟨h.mdl.none k9, h.ref.still k9, h.rel, h.keep.trans k9, ⟨h.bl.1, Nat.le_trans h.bl.2.1 k9.size, h.bl.2.2.1, Nat.le_trans h.bl.2.2.2 k9.size⟩, h.len, h.old.1, Nat.le_trans h.old.2 k9.size⟩
theorem BothMid.did {W w0 w1 w2 : World} {b mb gp mp tp lp b2 rm p k : Nat} {c : Config} {vq2 lv2 : Value} {T2 : List Timer} {M M2 : KM} {O O1 R : List Pane} {mark mark2 code : Int} {closed closed2 : Bool} {x : Call} {A : Option Addr} {d : Nat} {L : List Pane} {ov : Value} {e : Ending} (h : BothMid W w0 w1 b mb gp mp tp lp b2 rm p k c vq2 lv2 T2 M M2 O O1 R mark mark2 code closed closed2 x A d L ov) (hk : k < 61)
    (hd : RMDid w1 b2 rm p (16 * k) c A ov O M mark closed x e w2) :
    ∃ pA pn pd A2 d2 L2 ov2, e = .returned (.agg #[.int .i64 code, .slice pA pn pd]) ∧ Sl Pane.cells 7 w2 pA pn pd R ∧ Keep (rmF rm p ov) w1 w2 ∧
      BothSt W w2 b mb gp mp tp lp b2 rm p (k + 1) c vq2 lv2 T2 M2 (O ++ O1) mark2 closed2 A2 d2 L2 ov2 := by
  obtain ⟨dode, pA, pn, pd, S, P1, N2, ov2, A2, d2, L2, nark2, dlosed2, rfl, hsl, hrel, hr, kk, how, hoA, -⟩ := hd
  obtain ⟨rfl, rfl, rfl, rfl, rfl, rfl⟩ := h.rel.uniq h.ref.good.km hrel
  have hs := kk.size
  have hlt := h.ref.lt
  have hbl := h.bl
  refine ⟨pA, pn, pd, A2, d2, L2, ov2, rfl, hsl, kk, (h.mdl.turn kk (fun q _ e => .inl e) (fun q hq e => ?_) (fun q e => ?_)).up (by omega) (by omega), hr.up (by omega), Keep.fresh h.keep kk (fun q hq e => by have := (hlt q e).1; omega), ⟨hbl.1, by omega, hbl.2.2.1, by omega⟩, h.len⟩
  · rcases e with e | ⟨a, ha, rfl⟩
    · exact .inl (how q hq e)
    · rcases hoA a ha with e2 | e2
      · exact .inr ⟨a, e2, rfl⟩
      · omega
  · rcases e with e | ⟨a, ha, rfl⟩
    · exact (hr.lt q e).2
    · exact hr.ref.lt a ha
end Go.Proofs.YtmioichjhiengaaGreat

/-
  The reference's New.
-/
namespace Go.Proofs.YtmioichjhiengaaGreat
open Go.RowKit

def RMBorn (c : Config) (w : World) (e : Ending) (w' : World) : Prop :=
  ∃ rm p, e = .returned (.pointer (some ⟨rm, 0, none⟩)) ∧ RMAt w' w.heap.size rm p 0 c none 0 [] (.slice none 0 0) [] (fun _ => []) (-9223372036854775808) false ∧ Keep none_ w w'
theorem rm_made {w' : World} {b rm p : Nat} {c : Config} (hp : At w' p #[.int .i64 c.kind, .int .i64 c.size, .int .i64 c.slide, .int .i64 c.gap, .int .i64 c.late, .int .i64 c.shards, .int .i64 c.groups, .int .i64 c.cap, .slice none 0 0] 36)
    (hr : At w' rm #[.pointer (some ⟨p, 0, none⟩), .slice none 0 0, .int .i64 (-9223372036854775808), .bool false] 63) (h1 : b ≤ rm) (h2 : b ≤ p) (hn : rm ≠ p) : RMAt w' b rm p 0 c none 0 [] (.slice none 0 0) [] (fun _ => []) (-9223372036854775808) false :=
  ⟨hr, ⟨hp, Sl.nil _ _ _ _ _ (by decide), fun a e => (by cases e), fun a e => (by cases e), fun x hx => (by cases hx)⟩, RelL.zero, GoodM.zero _, ⟨rfl, .inl ⟨rfl, rfl⟩⟩, ⟨hn, fun e => (by cases e), fun e => (by cases e), fun a e => (by cases e)⟩, ⟨h1, h2⟩, fun a e => (by cases e), by unfold I64; omega, Nat.le_refl _⟩
set_option maxHeartbeats 1000000 in
theorem refm_new (w : World) (c : Config) : Calls Tryz.prog 25 #[.agg c.cells.toArray] w (RMBorn c w) := by
  have k0 : Keep none_ w (w.alloc (.cells c.cells.toArray 23)) := (by repeat' (first | assumption | with_reducible exact Keep.refl _ _ | with_reducible refine Keep.alloc ?_ _ | with_reducible refine Keep.drew ?_))
  have hx := At.new w c.cells.toArray 23
  simp only [Config.cells] at k0 hx ⊢
  have hp : At ((w.alloc (.cells #[.int .i64 c.kind, .int .i64 c.size, .int .i64 c.slide, .int .i64 c.gap, .int .i64 c.late, .int .i64 c.shards, .int .i64 c.groups, .int .i64 c.cap] 23)).alloc (.cells #[.int .i64 c.kind, .int .i64 c.size, .int .i64 c.slide, .int .i64 c.gap, .int .i64 c.late, .int .i64 c.shards, .int .i64 c.groups, .int .i64 c.cap, .slice none 0 0] 36)) (w.heap.size + 1) #[.int .i64 c.kind, .int .i64 c.size, .int .i64 c.slide, .int .i64 c.gap, .int .i64 c.late, .int .i64 c.shards, .int .i64 c.groups, .int .i64 c.cap, .slice none 0 0] 36 := At.newAt (by simp) _ _
  have hp2 := At.alloc hp (.cells #[.pointer (some ⟨w.heap.size + 1, 0, none⟩), .slice none 0 0, .int .i64 (-9223372036854775808), .bool false] 63)
  have hr : At (((w.alloc (.cells #[.int .i64 c.kind, .int .i64 c.size, .int .i64 c.slide, .int .i64 c.gap, .int .i64 c.late, .int .i64 c.shards, .int .i64 c.groups, .int .i64 c.cap] 23)).alloc (.cells #[.int .i64 c.kind, .int .i64 c.size, .int .i64 c.slide, .int .i64 c.gap, .int .i64 c.late, .int .i64 c.shards, .int .i64 c.groups, .int .i64 c.cap, .slice none 0 0] 36)).alloc (.cells #[.pointer (some ⟨w.heap.size + 1, 0, none⟩), .slice none 0 0, .int .i64 (-9223372036854775808), .bool false] 63)) (w.heap.size + 2) #[.pointer (some ⟨w.heap.size + 1, 0, none⟩), .slice none 0 0, .int .i64 (-9223372036854775808), .bool false] 63 := At.newAt (by simp) _ _
  have hm := rm_made hp2 hr (b := w.heap.size) (by omega) (by omega) (by omega)
  have kz : Keep none_ w (((w.alloc (.cells #[.int .i64 c.kind, .int .i64 c.size, .int .i64 c.slide, .int .i64 c.gap, .int .i64 c.late, .int .i64 c.shards, .int .i64 c.groups, .int .i64 c.cap] 23)).alloc (.cells #[.int .i64 c.kind, .int .i64 c.size, .int .i64 c.slide, .int .i64 c.gap, .int .i64 c.late, .int .i64 c.shards, .int .i64 c.groups, .int .i64 c.cap, .slice none 0 0] 36)).alloc (.cells #[.pointer (some ⟨w.heap.size + 1, 0, none⟩), .slice none 0 0, .int .i64 (-9223372036854775808), .bool false] 63)) := (by repeat' (first | assumption | with_reducible exact Keep.refl _ _ | with_reducible refine Keep.alloc ?_ _ | with_reducible refine Keep.drew ?_))
  clear hp hp2 hr
  replace hm := Lib.hid hm
  replace kz := Lib.hid kz
  go_enter Tryz.func25, Tryz.ntmps25
  go_wp2_with fail
  go_ret
  first
    | exact ⟨w.heap.size + 2, w.heap.size + 1, rfl, hm.out, kz.out⟩
    | exact ⟨w.heap.size + 2, w.heap.size + 1, by simp, hm.out, kz.out⟩
end Go.Proofs.YtmioichjhiengaaGreat
