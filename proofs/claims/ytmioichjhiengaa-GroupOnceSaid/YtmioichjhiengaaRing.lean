/-
  A ring of cells that holds a queue: what a store at its end, and the clearing of its head, leave of it.
-/
import Derived.Test.YtmioichjhiengaaHeap
namespace Go.Proofs.Ytmioichjhiengaa
open Go.RowKit

/-- Cells that are stored one behind the other. -/
def putC (cur : Array Value) (o : Nat) : List Value → Array Value
  | [] => cur
  | v :: vs => putC (cur.setIfInBounds o v) (o + 1) vs
theorem putC_size (vs : List Value) : ∀ (cur : Array Value) (o : Nat), (putC cur o vs).size = cur.size := by
  induction vs with
  | nil => intro cur o; rfl
  | cons v vs ih => intro cur o; rw [putC, ih]; simp
theorem putC_get (vs : List Value) : ∀ (cur : Array Value) (o i : Nat), o + vs.length ≤ cur.size →
    (putC cur o vs)[i]? = if o ≤ i ∧ i < o + vs.length then vs[i - o]? else cur[i]? := by
  induction vs with
  | nil => intro cur o i h; simp [putC]; intro h1 h2; omega
  | cons v vs ih =>
    intro cur o i h
    rw [List.length_cons] at h ⊢
    rw [putC, ih _ _ _ (by simp; omega)]
    by_cases h1 : o + 1 ≤ i ∧ i < o + 1 + vs.length
    · rw [if_pos h1, if_pos (by omega), show i - o = (i - (o + 1)) + 1 by omega, List.getElem?_cons_succ]
    · rw [if_neg h1]
      by_cases h2 : o = i
      · subst h2
        rw [if_pos (by omega), Nat.sub_self, List.getElem?_cons_zero, Array.getElem?_setIfInBounds_self_of_lt (by omega)]
      · rw [if_neg (by omega), Array.getElem?_setIfInBounds_ne h2]
theorem putC_one (cur : Array Value) (o : Nat) (v : Value) : putC cur o [v] = cur.setIfInBounds o v := rfl

/-- A store of cells one behind the other. -/
def stores (w : World) (p : Nat) : Nat → List Value → World
  | _, [] => w
  | o, v :: vs => stores (w.setCell ⟨p, o, none⟩ v) p (o + 1) vs
theorem At.setL {w : World} {p : Nat} {T : TypeId} (vs : List Value) : ∀ {w : World} {c : Array Value} {o : Nat}, At w p c T → At (stores w p o vs) p (putC c o vs) T := by
  induction vs with
  | nil => intro w c o h; exact h
  | cons v vs ih => intro w c o h; exact ih (At.set h o v)
theorem putC_whole (vs : List Value) (c : Array Value) (h : vs.length = c.size) : putC c 0 vs = vs.toArray := by
  apply Array.ext_getElem?
  intro i
  rw [putC_get _ _ _ _ (by omega)]
  by_cases hi : i < vs.length
  · rw [if_pos ⟨Nat.zero_le _, by omega⟩, Nat.sub_zero]; simp
  · rw [if_neg (by omega), Array.getElem?_eq_none (by omega), Array.getElem?_eq_none (by simp; omega)]
theorem At.whole {w : World} {p : Nat} {c : Array Value} {T : TypeId} (h : At w p c T) (vs : List Value) (hl : vs.length = c.size) : At (stores w p 0 vs) p vs.toArray T := by
  have := At.setL (w := w) vs (o := 0) h
  rwa [putC_whole vs c hl] at this
theorem At.setL_other {p q : Nat} {T : TypeId} {c : Array Value} (hn : q ≠ p) (vs : List Value) : ∀ {w : World} {o : Nat}, At w p c T → At (stores w q o vs) p c T := by
  induction vs with
  | nil => intro w o h; exact h
  | cons v vs ih => intro w o h; exact ih (At.set_other (a := ⟨q, o, none⟩) h hn v)
theorem Keep.setL {S : Nat → Prop} {a : World} {p : Nat} (hp : p < a.heap.size → S p) (vs : List Value) : ∀ {w : World} {o : Nat}, Keep S a w → Keep S a (stores w p o vs) := by
  induction vs with
  | nil => intro w o h; exact h
  | cons v vs ih => intro w o h; exact ih (Keep.setCell (p := ⟨p, o, none⟩) h hp v)

/-- The cells hold a queue, its head at place fr, of room places of k cells each. -/
structure RingIn {α : Type} (enc : α → List Value) (k : Nat) (cur : Array Value) (room fr : Nat) (q : List α) : Prop where
  size : cur.size = room * k
  head : fr < room
  len : q.length ≤ room
  at_ : ∀ i (h : i < q.length) j, j < k → cur[((fr + i) % room) * k + j]? = (enc q[i])[j]?

section
variable {α : Type} {enc : α → List Value} {k : Nat} {cur : Array Value} {room fr : Nat} {q : List α}

theorem RingIn.slot {i : Nat} (h : i < room) {j : Nat} (hj : j < k) : i * k + j < room * k := by
  have : (i + 1) * k ≤ room * k := Nat.mul_le_mul_right k h
  rw [Nat.add_mul] at this; omega
theorem apart_slots {a b i j k : Nat} (h : a ≠ b) (hi : i < k) (hj : j < k) : a * k + i ≠ b * k + j := by
  intro e
  rcases Nat.lt_or_gt_of_ne h with h | h
  · have : (a + 1) * k ≤ b * k := Nat.mul_le_mul_right k h
    rw [Nat.add_mul] at this; omega
  · have : (b + 1) * k ≤ a * k := Nat.mul_le_mul_right k h
    rw [Nat.add_mul] at this; omega
theorem ring_inj {fr i j room : Nat} (hi : i < room) (hj : j < room) (h : (fr + i) % room = (fr + j) % room) : i = j := by
  have h1 := Nat.div_add_mod (fr + i) room
  have h2 := Nat.div_add_mod (fr + j) room
  have e : room * ((fr + i) / room) + j = room * ((fr + j) / room) + i := by omega
  rcases Nat.lt_trichotomy ((fr + i) / room) ((fr + j) / room) with h3 | h3 | h3
  · have : room * ((fr + i) / room + 1) ≤ room * ((fr + j) / room) := Nat.mul_le_mul_left room h3
    rw [Nat.mul_add] at this; omega
  · rw [h3] at e; omega
  · have : room * ((fr + j) / room + 1) ≤ room * ((fr + i) / room) := Nat.mul_le_mul_left room h3
    rw [Nat.mul_add] at this; omega

theorem RingIn.put (h : RingIn enc k cur room fr q) (hl : ∀ x, (enc x).length = k) (hq : q.length < room) (x : α) :
    RingIn enc k (putC cur (((fr + q.length) % room) * k) (enc x)) room fr (q ++ [x]) := by
  have hr : 0 < room := by have := h.head; omega
  have hm : (fr + q.length) % room < room := Nat.mod_lt _ hr
  have hfit : ((fr + q.length) % room) * k + (enc x).length ≤ cur.size := by
    rw [h.size, hl]
    have : ((fr + q.length) % room + 1) * k ≤ room * k := Nat.mul_le_mul_right k hm
    rw [Nat.add_mul] at this; omega
  refine ⟨by rw [putC_size]; exact h.size, h.head, by simp; omega, ?_⟩
  intro i hi j hj
  rw [List.length_append, List.length_singleton] at hi
  rw [putC_get _ _ _ _ hfit, hl]
  by_cases e : i = q.length
  · subst e
    rw [if_pos (by omega)]
    simp
  · have hi2 : i < q.length := by omega
    have hne : (fr + i) % room ≠ (fr + q.length) % room := fun h2 => e (ring_inj (by omega) hq h2)
    rw [if_neg, h.at_ i hi2 j hj, List.getElem_append_left hi2]
    rintro ⟨h3, h4⟩
    exact apart_slots (i := j) (j := (fr + i) % room * k + j - (fr + q.length) % room * k) hne hj (by omega) (by omega)

theorem RingIn.take {x : α} (h : RingIn enc k cur room fr (x :: q)) (z : List Value) (hz : z.length = k) :
    (∀ j, j < k → cur[fr * k + j]? = (enc x)[j]?) ∧ RingIn enc k (putC cur (fr * k) z) room ((fr + 1) % room) q := by
  have hr : 0 < room := by have := h.head; omega
  have hf := h.head
  have hlen := h.len
  rw [List.length_cons] at hlen
  have hfit : fr * k + z.length ≤ cur.size := by
    rw [h.size, hz]
    have : (fr + 1) * k ≤ room * k := Nat.mul_le_mul_right k hf
    rw [Nat.add_mul] at this; omega
  constructor
  · intro j hj
    have := h.at_ 0 (by simp) j hj
    rw [Nat.add_zero, Nat.mod_eq_of_lt hf] at this
    simpa using this
  · refine ⟨by rw [putC_size]; exact h.size, Nat.mod_lt _ hr, by omega, ?_⟩
    intro i hi j hj
    rw [putC_get _ _ _ _ hfit, hz, Nat.mod_add_mod]
    have e : fr + 1 + i = fr + (i + 1) := by omega
    rw [e]
    have hne : (fr + (i + 1)) % room ≠ fr := fun h2 => by
      have := ring_inj (fr := fr) (i := i + 1) (j := 0) (room := room) (by omega) hr (by rw [h2, Nat.add_zero, Nat.mod_eq_of_lt hf])
      omega
    have := h.at_ (i + 1) (by simp; omega) j hj
    rw [if_neg, this]
    · simp
    · rintro ⟨h3, h4⟩
      exact apart_slots (i := j) (j := (fr + (i + 1)) % room * k + j - fr * k) hne hj (by omega) (by omega)

/-- The blocks of a mailbox: p its struct, g its ring. -/
def BoxAt (enc : α → List Value) (k : Nat) (TB TE : TypeId) (w : World) (p g room : Nat) (q : List α) (cl : Bool) : Prop :=
  p ≠ g ∧ 1 ≤ room ∧ room ≤ 16 ∧ ∃ (fr : Nat) (cur : Array Value), At w p #[.slice (some ⟨g, 0, none⟩) room room, .int .i64 fr, .int .i64 (q.length : Nat), .bool cl] TB ∧ At w g cur TE ∧ RingIn enc k cur room fr q
def two (p g : Nat) : Nat → Prop := fun b => b = p ∨ b = g
theorem BoxAt.keep {S : Nat → Prop} {TB TE : TypeId} {w w' : World} {p g : Nat} {cl : Bool} (h : BoxAt enc k TB TE w p g room q cl) (kk : Keep S w w') (hp : ¬ S p) (hg : ¬ S g) : BoxAt enc k TB TE w' p g room q cl := by
  obtain ⟨h1, h2, h3, fr, cur, h4, h5, h6⟩ := h
  exact ⟨h1, h2, h3, fr, cur, kk.at h4 hp, kk.at h5 hg, h6⟩
theorem BoxAt.le {TB TE : TypeId} {w : World} {p g : Nat} {cl : Bool} (h : BoxAt enc k TB TE w p g room q cl) : q.length ≤ room := by
  obtain ⟨h1, h2, h3, fr, cur, h4, h5, h6⟩ := h
  exact h6.len
theorem BoxAt.lt {TB TE : TypeId} {w : World} {p g : Nat} {cl : Bool} (h : BoxAt enc k TB TE w p g room q cl) : p < w.heap.size ∧ g < w.heap.size := by
  obtain ⟨h1, h2, h3, fr, cur, h4, h5, h6⟩ := h
  exact ⟨h4.lt, h5.lt⟩
def NewBox (enc : α → List Value) (k : Nat) (TB TE : TypeId) (w : World) (room : Nat) (e : Ending) (w' : World) : Prop :=
  ∃ p g, e = .returned (.tuple #[.pointer (some ⟨p, 0, none⟩), .nilIface]) ∧ Keep none_ w w' ∧ w.heap.size ≤ p ∧ w.heap.size ≤ g ∧ BoxAt enc k TB TE w' p g room [] false
end
end Go.Proofs.Ytmioichjhiengaa
