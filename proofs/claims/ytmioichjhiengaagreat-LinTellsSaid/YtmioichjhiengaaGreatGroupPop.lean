/-
  Group.Settle.
-/
import Derived.Test.YtmioichjhiengaaGreatBaseGrp
import Derived.Test.YtmioichjhiengaaGreatPaneCut
import Derived.Deep.RegionLaw
import Derived.Deep.CutRange
import Derived.Deep.CutBlock
set_option linter.unusedSimpArgs false
set_option linter.unusedVariables false
namespace Go.Proofs.YtmioichjhiengaaGreat
open Go.RowKit

theorem TAt.min0 {w : World} {p : Nat} {v : Value} {l : List Timer} (h : TAt w p v l) {x : Timer} (hx : l[0]? = some x) : ∀ y ∈ l, tlt y x = false := by
  intro y hy
  obtain ⟨h0, hx0⟩ := List.getElem?_eq_some_iff.1 hx
  obtain ⟨k, hk, hky⟩ := List.getElem_of_mem hy
  have h1 := heap_min tlt_strict l l.length (Nat.le_refl _) h0 h.heap k hk
  rwa [hky, hx0] at h1
/-- What the timers told last: whether there is one to go out, and it is off them; or there is none. -/
def PopT (w : World) (tp N R : Nat) (c : Config) (vq : Value) (mark : Int) (M : KM) (x : Timer) (is : Bool) : Prop :=
  ∃ vq' T, vq'.ownBlock = vq.ownBlock ∧ TAt w tp vq' T ∧ T.length + (if is then 1 else 0) ≤ R ∧
    ((is = false ∧ GrpOK N M T ∧ Calm c.late mark M) ∨ (is = true ∧ ∃ p T0, T0.Nodup ∧ GrpOK N M T0 ∧ T0.Perm (⟨p.key, p.span⟩ :: T) ∧ Next c.late mark M p ∧ x = ⟨p.key, p.span⟩))
def PopDone (w : World) (tp N R : Nat) (c : Config) (vq : Value) (mark : Int) (M : KM) (e : Ending) (w' : World) : Prop :=
  ∃ x is, e = .returned (.tuple #[.agg x.cells.toArray, .bool is]) ∧ PopT w' tp N R c vq mark M x is ∧ Keep (tset tp vq) w w'
theorem popDone_eq {w w' : World} {e : Ending} {tp N R : Nat} {c : Config} {vq vq' : Value} {mark : Int} {M : KM} (h : PopDone w tp N R c vq' mark M e w') (eq : vq'.ownBlock = vq.ownBlock) : PopDone w tp N R c vq mark M e w' := by
  obtain ⟨x, is, h1, ⟨v1, T, h2, h3⟩, k⟩ := h
  refine ⟨x, is, h1, ⟨v1, T, h2.trans eq, h3⟩, k.mono (fun q _ e => ?_)⟩
  unfold tset at e ⊢
  rwa [eq] at e
theorem tset_eq {tp : Nat} {v v' : Value} (e : v'.ownBlock = v.ownBlock) : tset tp v' = tset tp v := by
  funext z
  unfold tset
  rw [e]
theorem grpF_eq {mp tp : Nat} {v v' : Value} (e : v'.ownBlock = v.ownBlock) : grpF mp tp v' = grpF mp tp v := by
  funext z
  unfold grpF
  rw [tset_eq e]
theorem PopT.keep {S : Nat → Prop} {w w' : World} {tp N R : Nat} {c : Config} {vq : Value} {mark : Int} {M : KM} {x : Timer} {is : Bool} (h : PopT w tp N R c vq mark M x is) (k : Keep S w w') (hS : ∀ q, tset tp vq q → ¬ S q) : PopT w' tp N R c vq mark M x is := by
  obtain ⟨v1, T, h1, h2, h3⟩ := h
  exact ⟨v1, T, h1, h2.keep k (fun q hq => hS q (by rw [← tset_eq h1]; exact hq)), h3⟩
theorem group_pop {w : World} {tp N R : Nat} {c : Config} {vq : Value} {M : KM} {T : List Timer} (h : TAt w tp vq T) (hi : GrpOK N M T) (hR : T.length ≤ R) (hN : N ≤ 90000) (hc : c.ok) (mark : Int) (hm : I64 mark) :
    Calls Tryz.prog 44 #[.pointer (some ⟨tp, 0, none⟩), .int .i64 c.late, .int .i64 mark] w (PopDone w tp N R c vq mark M) := by
  have hl : I64 c.late := hc.2.2.2.2.1
  have ht := hi.tim
  cases hT : T with
  | nil =>
    subst hT
    refine (timers_pop_nil h c.late mark).mono ?_
    rintro e w1 ⟨rfl, k1⟩
    refine ⟨⟨⟨#[]⟩, ⟨0, 0⟩⟩, false, rfl, ⟨vq, [], rfl, h.none k1, Nat.zero_le _, .inl ⟨rfl, hi, fun k q hk hq => ?_⟩⟩, k1.of_none⟩
    have := (hi.rel ⟨k, q.span⟩ hk).2 ⟨q, hq, rfl⟩
    cases this
  | cons x T1 =>
    have hx : T[0]? = some x := by rw [hT]; rfl
    have hxT : x ∈ T := by rw [hT]; simp
    obtain ⟨p, hp, hps⟩ := (hi.rel x (hi.key x hxT)).1 hxT
    have hpk := hi.ok _ p hp
    have hxe : x = ⟨p.key, p.span⟩ := by
      obtain ⟨xk, xs⟩ := x
      simp only at hps hpk
      rw [hpk.2, hps]
    have hxok : x.ok := ⟨hi.key x hxT, by rw [← hps]; exact hpk.1.2.1⟩
    have hleast := TAt.min0 h hx
    cases ho : x.span.overB c.late mark
    · refine (timers_pop_no h c.late mark x hx hxok hl hm ho).mono ?_
      rintro e w1 ⟨rfl, k1⟩
      refine ⟨⟨⟨#[]⟩, ⟨0, 0⟩⟩, false, rfl, ⟨vq, T, rfl, h.none k1, hR, .inl ⟨rfl, hi, fun k q hk hq => ?_⟩⟩, k1.of_none⟩
      have hqT := (hi.rel ⟨k, q.span⟩ hk).2 ⟨q, hq, rfl⟩
      have h9 := hleast _ hqT
      rw [tlt_eq] at h9
      unfold Span.overB at ho ⊢
      simp only [decide_eq_false_iff_not] at ho ⊢
      by_cases e1 : q.span.e = x.span.e
      · rw [e1]; exact ho
      · rw [if_pos e1] at h9
        simp only [decide_eq_false_iff_not] at h9
        omega
    · refine (timers_pop h (by omega) c.late mark x hx hxok hl hm ho).mono ?_
      rintro e w1 ⟨rfl, v', l', ht', pe, k1, ob⟩
      refine ⟨x, true, rfl, ⟨v', l', ob, ht', by have := pe.length_eq; simp at this ⊢; omega, .inr ⟨rfl, p, T, h.nodup, hi, by rw [← hxe]; exact pe, ?_, hxe⟩⟩, k1⟩
      refine ⟨hpk.2 ▸ hi.key x hxT, by rw [hpk.2]; exact hp, by rw [hps]; exact ho, fun k q hk hq => ?_⟩
      rw [← hxe]
      exact hleast _ ((hi.rel ⟨k, q.span⟩ hk).2 ⟨q, hq, rfl⟩)
/-- The blocks that settling changes, besides those that are new. -/
def setF (mp tp : Nat) (vq : Value) (X : Nat → Prop) (xb : Nat) (vo : Value) : Nat → Prop := fun q => grpX mp tp vq X q ∨ q = xb ∨ vo.ownBlock = some q
/-- .. on the way. -/
structure SetInv (w w' : World) (gp mp tp N Q j : Nat) (c : Config) (vq : Value) (X : Nat → Prop) (mark : Int) (M : KM) (vo : Value) (xb : Nat) (x : Timer) (is : Bool) (O : List Pane) (M1 : KM) : Prop where
  st : PopT w' tp N (N - j) c vq mark M1 x is
  self : At w' gp #[.int .i64 c.kind, .int .i64 c.size, .int .i64 c.slide, .int .i64 c.gap, .int .i64 c.late, .int .i64 c.shards, .int .i64 c.groups, .int .i64 c.cap, .map (some mp), .pointer (some ⟨tp, 0, none⟩)] 93
  map : MapAt w' mp (Q + j) (setF mp tp vq X xb vo) M1
  ap : c.kind = 2 → ∀ k, Apart (M1 k)
  steps : Steps c.late mark M O M1
  out : PRow w' w.heap.size vo O
  keep : Keep (grpF mp tp vq) w w'
  hx : At w' xb x.cells.toArray 95
  low : w.heap.size ≤ xb
  len : O.length = j
  jn : j ≤ N
  mt : ¬ tset tp vq mp
  gf : ¬ grpF mp tp vq gp
  lt : ∀ q, grpF mp tp vq q → q < w.heap.size
  xl : ∀ q, X q → q < w.heap.size
  ngo : vo.ownBlock ≠ some gp
  oxb : vo.ownBlock ≠ some xb
theorem SetInv.first {w w2 w3 : World} {gp mp tp N Q : Nat} {c : Config} {vq : Value} {X : Nat → Prop} {mark : Int} {M : KM} {T : List Timer} {xb : Nat} {x : Timer} {is : Bool} (h : GrpAt w gp mp tp N Q c vq X M T) (hst : PopT w2 tp N N c vq mark M x is) (kc : Keep (tset tp vq) w w2)
    (k3 : Keep (one xb) w2 w3) (low : w.heap.size ≤ xb) (hx : At w3 xb x.cells.toArray 95) : SetInv w w3 gp mp tp N Q 0 c vq X mark M (.slice none 0 0) xb x is [] M := by
  have hF := h.F_lt
  have kf : Keep (tset tp vq) w w3 := Keep.comb kc k3 (fun q hq e => by unfold one at e; omega)
  refine ⟨hst.keep k3 (fun q hq e => by have := hF q (.inr hq); unfold one at e; omega), Keep.at kf h.self (fun e => h.gf (.inr e)), ?_, h.ap, rfl, ⟨rfl, .inl ⟨rfl, rfl⟩⟩, kf.mono (fun q _ e => .inr e), hx, low, rfl, Nat.zero_le _, h.mt, h.gf, hF, h.xl, by simp [Value.ownBlock], by simp [Value.ownBlock]⟩
  refine h.map.move kf (fun q e _ => .inl (.inr e)) h.mt (fun q hq e => ?_)
  rcases e with e | e | e
  · exact e
  · omega
  · simp [Value.ownBlock] at e
theorem SetInv.setF_lt {w w' : World} {gp mp tp N Q j : Nat} {c : Config} {vq : Value} {X : Nat → Prop} {mark : Int} {M : KM} {vo : Value} {xb : Nat} {x : Timer} {is : Bool} {O : List Pane} {M1 : KM} (I : SetInv w w' gp mp tp N Q j c vq X mark M vo xb x is O M1) : ∀ q, setF mp tp vq X xb vo q → q < w'.heap.size := by
  intro q hq
  have hs := I.keep.size
  rcases hq with hq | hq | hq
  · rcases hq with hq | hq
    · have := I.lt q hq; omega
    · have := I.xl q hq; omega
  · have := I.hx.lt; omega
  · exact (I.out.lt q hq).2
/-- What the round's end leaves. -/
theorem SetInv.next {w wr wc w3 W : World} {gp mp tp N Q j : Nat} {c : Config} {vq : Value} {X : Nat → Prop} {mark : Int} {M : KM} {vo vo2 : Value} {xb xb2 : Nat} {x x' : Timer} {is' : Bool} {O : List Pane} {M1 : KM} {p : Pane} (I : SetInv w wr gp mp tp N Q j c vq X mark M vo xb x true O M1) (hk : KMOK M1) (hj : j < N)
    (hn : Next c.late mark M1 p) (kc : Keep none_ wr wc) (k3 : Keep (one mp) wc w3) (hm3 : MapAt w3 mp (Q + j + 1) (setF mp tp vq X xb vo) (cutM M1 p)) (kW : Keep (fun q => tset tp vq q ∨ vo.ownBlock = some q) w3 W) (st : PopT W tp N (N - (j + 1)) c vq mark (cutM M1 p) x' is')
    (own : PRow W w.heap.size vo2 (O ++ [p])) (hvo : vo2.ownBlock = vo.ownBlock ∨ ∃ g, vo2.ownBlock = some g ∧ w3.heap.size ≤ g) (hx : At W xb2 x'.cells.toArray 95) (hxb : w3.heap.size ≤ xb2) (ho : vo2.ownBlock ≠ some xb2) :
    SetInv w W gp mp tp N Q (j + 1) c vq X mark M vo2 xb2 x' is' (O ++ [p]) (cutM M1 p) := by
  have hs1 := I.keep.size
  have hs2 := kc.size
  have hs3 := k3.size
  have hgl : gp < w.heap.size → True := fun _ => trivial
  have hov : ∀ g, vo.ownBlock = some g → w.heap.size ≤ g := fun g hg => (I.out.lt g hg).1
  have hmw : mp < w.heap.size := I.lt mp (.inl rfl)
  have hmo : vo.ownBlock ≠ some mp := fun e => by have := hov mp e; omega
  have kA : Keep (fun q => q = mp ∨ tset tp vq q ∨ vo.ownBlock = some q) wr W := (Keep.of_none kc).trans ((k3.mono (fun q _ e => .inl e)).trans (kW.mono (fun q _ e => .inr e)))
  have kf : Keep (grpF mp tp vq) w W := Keep.comb I.keep kA (fun q hq e => by
    rcases e with e | e | e
    · exact .inl e
    · exact .inr e
    · have := hov q e; omega)
  have hgo : ¬ (gp = mp ∨ tset tp vq gp ∨ vo.ownBlock = some gp) := by
    rintro (e | e | e)
    · exact I.gf (.inl e)
    · exact I.gf (.inr e)
    · exact I.ngo e
  refine ⟨st, Keep.at kA I.self hgo, ?_, fun e k => (I.ap e k).sub (cutM_sub (hk.srt _) hn.mem k), I.steps.snoc hn, own, kf, hx, by omega, by simp [I.len], hj, I.mt, I.gf, I.lt, I.xl, ?_, ho⟩
  · refine hm3.move kW (fun q e _ => ?_) (fun e => ?_) (fun q hq e => ?_)
    · rcases e with e | e
      · exact .inl (.inl (.inr e))
      · exact .inr (.inr e)
    · rcases e with e | e
      · exact I.mt e
      · exact hmo e
    · rcases e with e | e | e
      · exact .inl e
      · omega
      · rcases hvo with h9 | ⟨g, h9, h8⟩
        · exact .inr (.inr (h9 ▸ e))
        · rw [h9] at e
          have : g = q := by simpa using e
          omega
  · intro e
    rcases hvo with h9 | ⟨g, h9, h8⟩
    · exact I.ngo (h9 ▸ e)
    · rw [h9] at e
      have : g = gp := by simpa using e
      have := I.self.lt
      omega
end Go.Proofs.YtmioichjhiengaaGreat
