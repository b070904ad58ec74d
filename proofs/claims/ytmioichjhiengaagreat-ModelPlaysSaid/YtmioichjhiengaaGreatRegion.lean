/-
  A region that draws its order, whose first n operations only read or call what makes new blocks alone, and whose others come behind all of them, one behind the other: one walk of the text's order, in a class of worlds.
-/
import Derived.Test.YtmioichjhiengaaGreatHeap
import Derived.StillTail
namespace Go.Proofs.YtmioichjhiengaaGreat
open Go.RowKit

/-- Binding edges lead to what stands ahead; guards of the head lie in it. -/
def headDown (ops : Array Oper) (n : Nat) : Bool :=
  (List.range n).all fun i => match ops[i]? with
    | some o => o.after.all (fun e => !Region.binds .any e || decide (e.on < i)) && (match o.guard with | some (j, _) => decide (j < n) | none => true)
    | none => false
def headList (n m : Nat) : Array Bool := Array.replicate n true ++ Array.replicate m false
def tailOk (l : List Oper) (n : Nat) : Bool :=
  decide (n < l.length) && Region.lexB .any (l.take n).toArray && Region.sinkB .any l.toArray n && Region.chainB .any l.toArray n && headDown l.toArray n &&
    Region.seqB .any l.toArray (l.length - n) n (headList n (l.length - n))

section
variable {P : Program} {ops hd : Array Oper} {n : Nat}

theorem wanted_head {o : Oper} {a : Act} (hh : ∀ j, j < n → hd[j]? = ops[j]?) (hg : ∀ j b, o.guard = some (j, b) → j < n) :
    Region.wanted o (yielded ops a.tmps) = Region.wanted o (yielded hd a.tmps) := by
  unfold Region.wanted
  cases ho : o.guard with
  | none => rfl
  | some p =>
    obtain ⟨j, b⟩ := p
    simp only [yielded, hh j (hg j b ho)]

theorem headDown_at {i : Nat} {o : Oper} (h : headDown ops n = true) (hi : i < n) (ho : ops[i]? = some o) :
    (∀ e ∈ o.after, Region.binds .any e = true → e.on < i) ∧ ∀ j b, o.guard = some (j, b) → j < n := by
  have h1 := List.all_eq_true.1 h i (List.mem_range.2 hi)
  simp only [ho, Bool.and_eq_true] at h1
  refine ⟨fun e he hb => ?_, fun j b hg => ?_⟩
  · have h2 := Array.all_eq_true_iff_forall_mem.1 h1.1 e he
    simpa [hb] using h2
  · have h2 := h1.2
    simp only [hg] at h2
    simpa using h2

/-- So many of the first n are not yet listed. -/
def openOf (listed : Array Bool) (n : Nat) : Nat := (List.range n).countP fun i => !listed.getD i true

theorem openOf_set {listed : Array Bool} {n i : Nat} (hi : i < n) (hs : i < listed.size) (hun : listed.getD i true = false) : openOf listed n = openOf (listed.setIfInBounds i true) n + 1 := by
  unfold openOf
  induction n with
  | zero => omega
  | succ n ih =>
    rw [List.range_succ, List.countP_append, List.countP_append]
    by_cases hin : i = n
    · subst hin
      have h1 : (List.range i).countP (fun j => !listed.getD j true) = (List.range i).countP (fun j => !(listed.setIfInBounds i true).getD j true) := by
        refine List.countP_congr fun j hj => ?_
        rw [getD_set_ne true (by have := List.mem_range.1 hj; omega)]
      have h2 : (listed.setIfInBounds i true).getD i true = true := by simp [hs]
      rw [h1]
      simp only [List.countP_cons, List.countP_nil, hun, h2]
      simp
    · have hlt : i < n := by omega
      rw [ih hlt]
      have h3 : (listed.setIfInBounds i true).getD n true = listed.getD n true := getD_set_ne true hin
      simp only [List.countP_cons, List.countP_nil, h3]
      omega

theorem openOf_pos {listed : Array Bool} {n : Nat} (h : 0 < openOf listed n) : ∃ i, i < n ∧ listed.getD i true = false ∧ ∀ j, j < i → listed.getD j true = true := by
  have h1 : ∃ i, i < n ∧ listed.getD i true = false := by
    obtain ⟨i, hi, hb⟩ := List.countP_pos_iff.1 h
    exact ⟨i, List.mem_range.1 hi, by simpa using hb⟩
  obtain ⟨i, hi, hb⟩ := h1
  induction i using Nat.strongRecOn with
  | _ i ih =>
    by_cases hall : ∀ j, j < i → listed.getD j true = true
    · exact ⟨i, hi, hb, hall⟩
    · obtain ⟨j, hj⟩ := Classical.not_forall.1 hall
      obtain ⟨hj1, hj2⟩ := Classical.not_imp.1 hj
      exact ih j hj1 (by omega) (by simpa using hj2)

theorem openOf_zero {listed : Array Bool} {n : Nat} (h : openOf listed n = 0) : ∀ i, i < n → listed.getD i true = true := by
  intro i hi
  have := List.countP_eq_zero.1 h i (List.mem_range.2 hi)
  simpa using this

theorem wpAny_of_headQ {C : World → Prop} {g : Nat} {Qh : Act → Prop} {Q' : Exit → Act → World → Prop} (hsz : n < ops.size) (hhs : hd.size = n) (hh : ∀ j, j < n → hd[j]? = ops[j]?)
    (hs : Region.sinkB .any ops n = true) (hc : Region.chainB .any ops n = true) (hdn : headDown ops n = true)
    (hfin : ∀ listed a w, HeadInv .any ops n listed → openOf listed n = 0 → C w → Qh a → wpAny P .any ops Q' g listed a w) :
    ∀ (f : Nat) (listed lh : Array Bool) (a : Act) (w : World), HeadInv .any ops n listed → lh.size = n → (∀ i, i < n → lh.getD i true = listed.getD i true) → openOf listed n = f → C w →
      wpAnyQ P .any hd C Qh f lh a → wpAny P .any ops Q' (f + g) listed a w := by
  intro f
  induction f with
  | zero =>
    intro listed lh a w inv hls hag ho hw h
    rw [Nat.zero_add]
    exact hfin listed a w inv ho hw h.2
  | succ f ih =>
    intro listed lh a w inv hls hag ho hw h
    rw [show f + 1 + g = (f + g) + 1 by omega]
    have hagf : ∀ i, i < n → lh.getD i false = listed.getD i false := fun i hi => by
      have h1 := hag i hi
      have h2 : i < listed.size := by rw [inv.size]; omega
      have h3 : i < lh.size := by omega
      simp only [Array.getD_eq_getD_getElem?, Array.getElem?_eq_getElem h2, Array.getElem?_eq_getElem h3, Option.getD_some] at h1 ⊢
      exact h1
    obtain ⟨i0, hi0, hun0, hall0⟩ := openOf_pos (listed := listed) (n := n) (by omega)
    have tready : ∀ i, i < n → i ∈ Region.ready .any ops listed → i ∈ Region.ready .any hd lh := fun i hi hr => by
      obtain ⟨hun, o, hoo, hall⟩ := mem_ready.1 hr
      refine mem_ready.2 ⟨by rw [hag i hi]; exact hun, o, by rw [hh i hi]; exact hoo, fun e he hb => ?_⟩
      have hlt := (headDown_at hdn hi hoo).1 e he hb
      rw [hagf e.on (by omega)]
      exact hall e he hb
    refine ⟨fun h0 => ?_, fun i hi => ?_⟩
    · exfalso
      have ho0 : ops[i0]? = some (ops[i0]'(by omega)) := Array.getElem?_eq_getElem (by omega)
      have : i0 ∈ Region.ready .any ops listed := mem_ready.2 ⟨hun0, _, ho0, fun e he hb => by
        have hlt := (headDown_at hdn hi0 ho0).1 e he hb
        have h1 := hall0 e.on hlt
        have h2 : e.on < listed.size := by rw [inv.size]; omega
        simp only [Array.getD_eq_getD_getElem?, Array.getElem?_eq_getElem h2, Option.getD_some] at h1 ⊢
        exact h1⟩
      rw [h0] at this
      cases this
    · have hin : i < n := by
        rcases Nat.lt_or_ge i n with h1 | h1
        · exact h1
        · exact absurd hi (tail_waits hs hc hsz inv _ i0 rfl hi0 hun0 i h1)
      have h1 := h.2 i (tready i hin hi)
      obtain ⟨hun, o, hoo, _⟩ := mem_ready.1 hi
      have hi2 : i < listed.size := by rw [inv.size]; omega
      have hcont : ∀ a' w', C w' → wpAnyQ P .any hd C Qh f (lh.setIfInBounds i true) a' → wpAny P .any ops Q' (f + g) (listed.setIfInBounds i true) a' w' := fun a' w' hw' hk => by
        refine ih _ _ a' w' (inv.set hi hin) (by simpa using hls) (fun j hj => ?_) ?_ hw' hk
        · by_cases hij : i = j
          · subst hij
            have h3 : i < lh.size := by omega
            simp [hi2, h3]
          · rw [getD_set_ne true hij, getD_set_ne true hij]; exact hag j hj
        · have := openOf_set hin hi2 hun
          omega
      unfold qOp at h1
      unfold wpOp
      rw [hh i hin] at h1
      simp only [hoo] at h1 ⊢
      rw [wanted_head hh (headDown_at hdn hin hoo).2]
      by_cases hwant : Region.wanted o (yielded hd a.tmps) = true
      · simp only [hwant, if_true] at h1 ⊢
        exact .inl (Oper.wp_of_quiet hw hcont h1)
      · simp only [hwant] at h1 ⊢
        exact hcont _ _ hw h1
end

/-- The law. -/
theorem wp_region_class_tail {P : Program} {ι : Type} (f : ι → World) {id : Nat} {Q : Exit → Act → World → Prop} {a : Act} {w : World} {l : List Oper} (n : Nat) (hm : P.follows .mixedOrders = true) (hB : tailOk l n = true)
    (h0 : ∃ k, f k = w.drew)
    (h : wpQuiet P (l.take n).toArray (fun w' => ∃ k, w' = f k) (fun a' => ∀ k, wpList P l.toArray Q (l.drop n) a' (f k)) (l.take n) a) : (Code.region id l.toArray true).wp P Q a w := by
  simp only [tailOk, Bool.and_eq_true, decide_eq_true_eq] at hB
  obtain ⟨⟨⟨⟨⟨hn, hlex⟩, hs⟩, hc⟩, hdn⟩, hseq⟩ := hB
  simp only [Region.lexB, Bool.and_eq_true] at hlex
  have hsz : n < l.toArray.size := by simpa using hn
  have htl : (l.take n).length = n := by simp; omega
  have hdl : (l.drop n).length = l.length - n := by simp
  have hh : ∀ j, j < n → (l.take n).toArray[j]? = l.toArray[j]? := fun j hj => by simp [List.getElem?_take, hj]
  have inv0 : HeadInv .any l.toArray n (Array.replicate l.toArray.size false) :=
    ⟨by simp, fun j oj _ hl => (by rw [getD_replicate_false] at hl; cases hl), fun t _ ht => getD_in (by simpa using ht) (getD_replicate_false _ _)⟩
  have H := wpAnyQ_lex (P := P) (C := fun w' => ∃ k, w' = f k) (md := .any) hlex.1 (l.take n) 0 (Array.replicate (l.take n).toArray.size false) a (by simp) (by simpa using hlex.2) h
  have hopen : openOf (Array.replicate l.toArray.size false) n = n := by
    unfold openOf
    rw [List.countP_eq_length.2 (fun i hi => by
      have := List.mem_range.1 hi
      have h2 : i < l.toArray.size := by omega
      simp at h2
      simp [h2])]
    simp
  obtain ⟨k0, hk0⟩ := h0
  refine wp_region_any hm ?_
  have := wpAny_of_headQ (P := P) (ops := l.toArray) (hd := (l.take n).toArray) (n := n) (g := l.length - n) (C := fun w' => ∃ k, w' = f k)
    (Qh := fun a' => ∀ k, wpList P l.toArray Q (l.drop n) a' (f k)) (Q' := Q) hsz (by simpa using htl) hh hs hc hdn
    (fun listed a' w' inv hop ⟨k, hw'⟩ hq => by
      have hlist : listed = headList n (l.length - n) := by
        have hz : listed.size = (headList n (l.length - n)).size := by rw [inv.size]; simp [headList]; omega
        refine Array.ext hz fun i hi1 hi2 => ?_
        by_cases hin : i < n
        · have h1 := openOf_zero hop i hin
          simp only [Array.getD_eq_getD_getElem?, Array.getElem?_eq_getElem hi1, Option.getD_some] at h1
          rw [h1]
          simp [headList, Array.getElem_append, hin]
        · have hi3 : i < l.toArray.size := by rw [← inv.size]; exact hi1
          have h1 := inv.tail i (by omega) hi3
          simp only [Array.getD_eq_getD_getElem?, Array.getElem?_eq_getElem hi1, Option.getD_some] at h1
          rw [h1]
          simp [headList, Array.getElem_append, hin]
      subst hw'
      have := wpAny_of_seq (md := .any) (P := P) (ops := l.toArray) (Q' := Q) (l.drop n) n listed a' (f k) (fun j => by simp [List.getElem?_drop]) (by rw [hdl, hlist]; exact hseq) (hq k)
      rwa [hdl] at this)
    n (Array.replicate l.toArray.size false) (Array.replicate (l.take n).toArray.size false) a { w with drawn := w.drawn + 1 } inv0 (by simpa using htl)
    (fun i hi => by
      have h1 : i < l.toArray.size := by omega
      have h2 : i < (l.take n).toArray.size := by simpa using (by rw [htl]; exact hi : i < (l.take n).length)
      simp only [Array.getD_eq_getD_getElem?]
      rw [Array.getElem?_replicate, Array.getElem?_replicate, if_pos h1, if_pos h2]) hopen ⟨k0, hk0.symm⟩ (by have H2 := H; rw [htl] at H2; exact H2)
  have e : n + (l.length - n) = l.toArray.size := by simp; omega
  rwa [e] at this
end Go.Proofs.YtmioichjhiengaaGreat
