/-
  GroupOnce: what stands at the head of each round.
-/
import Derived.Test.YtmioichjhiengaaGreatBaseOnce
import Derived.Test.YtmioichjhiengaaGreatGroupTake
set_option linter.unusedSimpArgs false
set_option linter.unusedVariables false
namespace Go.Proofs.YtmioichjhiengaaGreat
open Go.RowKit

/-- A value's own block. -/
def ownX (v : Value) : Nat → Prop := fun q => v.ownBlock = some q
theorem GrpAt.shift {w w' : World} {S : Nat → Prop} {gp mp tp N Q : Nat} {c : Config} {vq : Value} {X X' : Nat → Prop} {M : ByteArray → List Pane} {T : List Timer} (h : GrpAt w gp mp tp N Q c vq X M T) (k : Keep S w w') (hS : ∀ q, q < w.heap.size → S q → X q) (hF : ∀ q, S q → ¬ grpF mp tp vq q) (hg : ¬ S gp)
    (hX : ∀ q, q < w.heap.size → X' q → X q) (hl : ∀ q, X' q → q < w'.heap.size) : GrpAt w' gp mp tp N Q c vq X' M T :=
  ⟨Keep.at k h.self hg, h.map.move k (fun q e hq => .inr (hS q hq e)) (fun e => hF mp e (.inl rfl)) (fun q hq e => e.imp id (hX q hq)), h.tim.keep k (fun q hq e => hF q e (.inr hq)), h.mt, h.gf, h.inv, h.ap, hl⟩
/-- How many windows are not over, of what can be told. -/
def openD (late mark : Int) : Option (List Span) → Int
  | some l => (openN late mark l : Int)
  | none => 0
structure OnceSt (W wr : World) (gp mp tp xb k : Nat) (c : Config) (mark : Int) (vo : Value) (O : List Pane) (M : KM) (vq : Value) (T : List Timer) (many : Int) : Prop where
  grp : GrpAt wr gp mp tp (16 * k) (1000 * k) c vq (ownX vo) M T
  once : Once c.late mark O M many
  out : PRow wr W.heap.size vo O
  ng : ∀ g, vo.ownBlock = some g → ¬ grpF mp tp vq g ∧ g ≠ gp ∧ g ≠ xb
  keep : Keep none_ W wr
  mark : I64 mark
  pos : 0 ≤ many
  few : many ≤ 16 * k
  hx : At wr xb c.cells.toArray 23
  nx : ¬ grpF mp tp vq xb
  lowF : ∀ q, grpF mp tp vq q → W.heap.size ≤ q
theorem cnt_len {l : List Pane} (h : ∀ p ∈ l, 1 ≤ p.agg.count) : (l.length : Int) ≤ cnt l := by
  induction l with
  | nil => exact Int.le_refl _
  | cons x l ih =>
    have h1 := ih (fun p hp => h p (by simp [hp]))
    have h2 := h x (by simp)
    simp only [cnt, List.map_cons, List.sum_cons, List.length_cons] at h1 ⊢
    omega
theorem OnceSt.lens {W wr : World} {gp mp tp xb k : Nat} {c : Config} {mark : Int} {vo : Value} {O : List Pane} {M : KM} {vq : Value} {T : List Timer} {many : Int} (h : OnceSt W wr gp mp tp xb k c mark vo O M vq T many) : O.length ≤ 16 * k := by
  have h1 := cnt_len (l := O) (fun p hp => h.once.pos p (List.mem_append.2 (.inl hp)))
  have h2 := cnt_nonneg (l := M kK) (fun p hp => h.once.pos p (List.mem_append.2 (.inr hp)))
  have h3 := h.once.all
  rw [cnt_app] at h3
  have := h.few
  omega
/-- Behind a take, and the append of what came out. -/
theorem OnceSt.next {W wr w1 w2 w3 : World} {gp mp tp xb k : Nat} {c : Config} {mark m' t v : Int} {vo vo2 : Value} {O O1 : List Pane} {M M1 M2 : KM} {vq : Value} {T : List Timer} {many : Int} (h : OnceSt W wr gp mp tp xb k c mark vo O M vq T many) (hk : k < 50) (hle : mark ≤ m') (hm' : I64 m') (k1 : Keep none_ wr w1)
    (hc : c.ok) (hm : c.mayB = true) (ht : I64 t)
    (hst : Steps c.late m' M O1 M1) (hcalm : Calm c.late m' M1) (hM : (ofL c t = none ∧ M2 = M1) ∨ ∃ l, ofL c t = some l ∧ M2 = takeM c.kind c.late m' kK v l M1)
    (hn : GrpNext w1 gp mp tp (16 * k + 16) (1000 * k + 16 * k + 16) c vq (ownX vo) M2 w2) (k3 : Keep (ownX vo) w2 w3) (own : PRow w3 W.heap.size vo2 (O ++ O1)) (ho : vo2.ownBlock = vo.ownBlock ∨ ∃ g, vo2.ownBlock = some g ∧ w2.heap.size ≤ g) :
    ∃ vq2 T2, OnceSt W w3 gp mp tp xb (k + 1) c m' vo2 (O ++ O1) M2 vq2 T2 (many + openD c.late m' (ofL c t)) := by
  obtain ⟨vq2, T2, hg, k2, so⟩ := hn
  have hs1 := k1.size
  have hs2 := k2.size
  have hs3 := k3.size
  have hsW := h.keep.size
  have hF := h.grp.F_lt
  have hov : ∀ g, vo.ownBlock = some g → W.heap.size ≤ g ∧ g < wr.heap.size := fun g hg => h.out.lt g hg
  have hsub : ∀ q, q < w1.heap.size → grpF mp tp vq2 q → grpF mp tp vq q := fun q hq e => by
    rcases e with e | e
    · exact .inl e
    · exact .inr (so.set q hq e)
  have hno : ∀ g, vo.ownBlock = some g → ¬ grpF mp tp vq2 g := fun g hg e => (h.ng g hg).1 (hsub g (by have := (hov g hg).2; omega) e)
  have hap : c.kind = 2 → Apart (M1 kK) := fun e => (h.grp.ap e kK).sub (hst.sub h.once.km kK)
  have hset := h.once.settle hle hst hcalm
  have hgl := h.grp.self.lt
  have hxl := h.hx.lt
  have hgw := hg.F_lt
  have hfew := h.few
  have hpos := h.pos
  have hon : Once c.late m' (O ++ O1) M2 (many + openD c.late m' (ofL c t)) ∧ openD c.late m' (ofL c t) ≤ 16 ∧ 0 ≤ openD c.late m' (ofL c t) := by
    rcases hM with ⟨h1, rfl⟩ | ⟨l, h1, rfl⟩
    · rw [h1]
      exact ⟨by simpa [openD] using hset, by simp [openD], by simp [openD]⟩
    · rw [h1]
      have hw := ofL_wins c t l hc ht hm h1
      have h16 := hw.few
      have hop := openN_le c.late m' l
      refine ⟨hset.take l (by omega) (fun s hs => ?_) hap, by simp only [openD]; omega, by simp only [openD]; omega⟩
      obtain ⟨i, hi, rfl⟩ := List.getElem_of_mem hs
      have := hw.has i hi
      omega
  refine ⟨vq2, T2, ⟨(hg.up (by omega) (by omega)).shift k3 (fun q _ e => e) (fun q e => hno q e) (fun e => (h.ng gp e).2.1 rfl) (fun q hq e => ?_) (fun q e => (own.lt q e).2), hon.1, own, fun g hg2 => ?_, ?_, ?_, by omega, by omega, ?_, ?_, fun q e => ?_⟩⟩
  · rcases ho with h9 | ⟨g, h9, h8⟩
    · unfold ownX at e ⊢; rwa [h9] at e
    · unfold ownX at e
      rw [h9] at e
      have : g = q := by simpa using e
      omega
  · rcases ho with h9 | ⟨g', h9, h8⟩
    · rw [h9] at hg2
      exact ⟨hno g hg2, (h.ng g hg2).2⟩
    · rw [h9] at hg2
      have : g' = g := by simpa using hg2
      refine ⟨fun e => by have := hgw g e; omega, by omega, by omega⟩
  · exact Keep.fresh (Keep.fresh (h.keep.trans k1) k2 (fun q hq e => by have := h.lowF q e; omega)) k3 (fun q hq e => by have := (hov q e).1; omega)
  · exact hm'
  · exact Keep.at k3 (Keep.at k2 (Keep.at k1 h.hx (fun e => e)) h.nx) (fun e => (h.ng xb e).2.2 rfl)
  · exact fun e => h.nx (hsub xb (by omega) e)
  · by_cases hq : q < w1.heap.size
    · exact h.lowF q (hsub q hq e)
    · omega
theorem OnceSt.none {W wr w' : World} {gp mp tp xb k : Nat} {c : Config} {mark : Int} {vo : Value} {O : List Pane} {M : KM} {vq : Value} {T : List Timer} {many : Int} (h : OnceSt W wr gp mp tp xb k c mark vo O M vq T many) (kz : Keep none_ wr w') : OnceSt W w' gp mp tp xb k c mark vo O M vq T many :=
  ⟨h.grp.none kz, h.once, own_keep h.out kz (fun _ _ e => e), h.ng, h.keep.trans kz, h.mark, h.pos, h.few, Keep.at kz h.hx (fun e => e), h.nx, h.lowF⟩
/-- What the take yields. -/
def TakeSt (wr : World) (gp mp tp k : Nat) (c : Config) (vq : Value) (X : Nat → Prop) (m' t v : Int) (M : KM) (cv ov : Value) (w' : World) : Prop :=
  ∃ wt O1 M1 M2 code, cv = .int .i64 code ∧ Keep none_ wr wt ∧ Steps c.late m' M O1 M1 ∧ Calm c.late m' M1 ∧ ((ofL c t = none ∧ code = 4 ∧ M2 = M1) ∨ ∃ l, ofL c t = some l ∧ code = codeG c.late m' l ∧ M2 = takeM c.kind c.late m' kK v l M1) ∧
    GrpNext wt gp mp tp (16 * k + 16) (1000 * k + 16 * k + 16) c vq X M2 w' ∧ PRow w' wt.heap.size ov O1
end Go.Proofs.YtmioichjhiengaaGreat
