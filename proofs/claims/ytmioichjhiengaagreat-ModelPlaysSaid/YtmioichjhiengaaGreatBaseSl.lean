/-
  Texts of one kind, one behind the other.
-/
import Derived.Test.YtmioichjhiengaaGreatHeap
import Derived.Maps.AppendAt
import Derived.Deep.AppendLies
import Derived.OwnWalk
import Derived.RegionTactic
import Derived.Laws.MakeOwn
/-
  A slice that reads as a list of structs (or of single cells); a row of the call's own that does; append onto such a row, whatever its source.
-/
namespace Go.Proofs.YtmioichjhiengaaGreat
open Go.RowKit

def flat {α : Type} (enc : α → List Value) (xs : List α) : List Value := xs.flatMap enc
section
variable {α : Type} {enc : α → List Value} {k : Nat}
theorem flat_nil : flat enc [] = [] := rfl
theorem flat_cons (x : α) (xs : List α) : flat enc (x :: xs) = enc x ++ flat enc xs := by simp [flat]
theorem flat_append (xs ys : List α) : flat enc (xs ++ ys) = flat enc xs ++ flat enc ys := by simp [flat]
theorem flat_length (hl : ∀ x, (enc x).length = k) (xs : List α) : (flat enc xs).length = xs.length * k := by
  induction xs with
  | nil => simp [flat]
  | cons x xs ih => rw [flat_cons, List.length_append, ih, hl, List.length_cons, Nat.add_mul]; omega
theorem flat_get (hl : ∀ x, (enc x).length = k) (xs : List α) : ∀ i (h : i < xs.length) j, j < k → (flat enc xs)[i * k + j]? = (enc xs[i])[j]? := by
  induction xs with
  | nil => intro i h; simp at h
  | cons x xs ih =>
    intro i h j hj
    rw [flat_cons]
    match i, h with
    | 0, h =>
      rw [Nat.zero_mul, Nat.zero_add, List.getElem?_append_left (by rw [hl]; exact hj)]
      rfl
    | i + 1, h =>
      rw [Nat.add_mul, List.getElem?_append_right (by rw [hl]; omega), hl, show i * k + 1 * k + j - k = i * k + j by omega]
      exact ih i (by simpa using h) j hj

/-- A slice value '.slice A n c' reads as xs. -/
def Sl (enc : α → List Value) (k : Nat) (w : World) (A : Option Addr) (n c : Nat) (xs : List α) : Prop :=
  n = xs.length ∧ n ≤ c ∧ c ≤ maxLen ∧ (0 < n → ∃ b off, A = some ⟨b, off, none⟩ ∧ b < w.heap.size ∧
    ∀ i (h : i < xs.length) j, j < k → w.cell? ⟨b, off + i * k + j, none⟩ = (enc xs[i])[j]?)
theorem Sl.len {w : World} {A : Option Addr} {n c : Nat} {xs : List α} (h : Sl enc k w A n c xs) : n = xs.length := h.1
theorem Sl.nil (enc : α → List Value) (k : Nat) (w : World) (A : Option Addr) (c : Nat) (hc : c ≤ maxLen) : Sl enc k w A 0 c [] := ⟨rfl, Nat.zero_le _, hc, fun h => absurd h (Nat.lt_irrefl _)⟩
theorem Sl.at_ {w : World} {A : Option Addr} {n c : Nat} {xs : List α} (h : Sl enc k w A n c xs) (hn : 0 < n) : ∃ b off, A = some ⟨b, off, none⟩ ∧ b < w.heap.size ∧
    ∀ i (h : i < xs.length) j, j < k → w.cell? ⟨b, off + i * k + j, none⟩ = (enc xs[i])[j]? := h.2.2.2 hn
/-- The block of a slice that reads is none of S. -/
def Off (S : Nat → Prop) (A : Option Addr) : Prop := ∀ a, A = some a → ¬ S a.block
theorem Sl.keep {S : Nat → Prop} {w w' : World} {A : Option Addr} {n c : Nat} {xs : List α} (h : Sl enc k w A n c xs) (kk : Keep S w w') (hs : Off S A) : Sl enc k w' A n c xs := by
  obtain ⟨h1, h2, h3, h4⟩ := h
  refine ⟨h1, h2, h3, fun hn => ?_⟩
  obtain ⟨b, off, rfl, hb, hc⟩ := h4 hn
  refine ⟨b, off, rfl, Nat.lt_of_lt_of_le hb kk.size, fun i hi j hj => ?_⟩
  rw [← hc i hi j hj]
  have := kk.block b hb (hs _ rfl)
  simp [World.cell?, this]
theorem Off.none_ {A : Option Addr} : Off none_ A := fun _ _ e => e
theorem Off.none' {S : Nat → Prop} : Off S none := fun _ h => by cases h
theorem Sl.of_own {w : World} {base n c : Nat} {e : TypeId} {A : Option Addr} {xs : List α} (hl : ∀ x, (enc x).length = k) (hk : 0 < k) (h : w.ownsRow base e k (.slice A n c) n (flat enc xs)) : Sl enc k w A n c xs := by
  have hn : n = xs.length := by
    have := h.1
    rw [flat_length hl] at this
    exact (Nat.eq_of_mul_eq_mul_right hk this).symm
  rcases h.2 with ⟨hv, h0⟩ | ⟨g, cap, cur, hv, hb, hg, hnc, hcm, hcs, htake⟩
  · injection hv with h1 h2 h3
    subst h2 h3
    exact ⟨hn, Nat.le_refl _, by unfold maxLen; omega, fun h => absurd h (Nat.lt_irrefl _)⟩
  · injection hv with h1 h2 h3
    subst h1 h3
    have hat : At w g cur e := hg
    refine ⟨hn, hnc, hcm, fun _ => ⟨g, 0, rfl, hat.lt, fun i hi j hj => ?_⟩⟩
    rw [hat.cell, ← flat_get hl xs i hi j hj, ← htake, Nat.zero_add, List.getElem?_take_of_lt, Array.getElem?_toList]
    have : (i + 1) * k ≤ n * k := Nat.mul_le_mul_right k (by omega)
    rw [Nat.add_mul] at this; omega
/-- A slice without its first so many elements. -/
theorem Sl.drop {w : World} {b off n c m c' : Nat} {x : Nat} {xs ys : List α} (h : Sl enc k w (some ⟨b, off, none⟩) n c xs) (i : Nat) (hi : i ≤ n) (hx : x = off + i * k) (hm : m = n - i) (hc : c' = c - i) (hy : ys = xs.drop i) : Sl enc k w (some ⟨b, x, none⟩) m c' ys := by
  subst hx hm hc hy
  obtain ⟨h1, h2, h3, h4⟩ := h
  refine ⟨by rw [List.length_drop, h1], by omega, by omega, fun hn => ?_⟩
  obtain ⟨b', off', e, hb, hc⟩ := h4 (by omega)
  obtain ⟨rfl, rfl⟩ : b = b' ∧ off = off' := by simpa using e
  refine ⟨b, off + i * k, rfl, hb, fun j hj l hl => ?_⟩
  rw [List.length_drop] at hj
  have := hc (i + j) (by omega) l hl
  rw [List.getElem_drop, ← this, Nat.add_mul]
  congr 2
  omega
theorem own_len {w : World} {base n : Nat} {e : TypeId} {v : Value} {xs : List α} (hl : ∀ x, (enc x).length = k) (hk : 0 < k) (h : w.ownsRow base e k v n (flat enc xs)) : n = xs.length := by
  have := h.1
  rw [flat_length hl] at this
  exact (Nat.eq_of_mul_eq_mul_right hk this).symm
theorem own_form {w : World} {base n : Nat} {e : TypeId} {v : Value} {xs : List Value} (h : w.ownsRow base e k v n xs) : ∃ A c, v = .slice A n c := by
  rcases h.2 with ⟨rfl, h0⟩ | ⟨g, cap, cur, rfl, -⟩
  · exact ⟨none, 0, by rw [h0]⟩
  · exact ⟨_, _, rfl⟩
theorem own_keep {S : Nat → Prop} {w w' : World} {base : Nat} {e : TypeId} {n : Nat} {v : Value} {xs : List Value} (h : w.ownsRow base e k v n xs) (kk : Keep S w w') (hs : ∀ g, v.ownBlock = some g → ¬ S g) : w'.ownsRow base e k v n xs := by
  refine ⟨h.1, ?_⟩
  rcases h.2 with hn | ⟨g, cap, cur, rfl, hb, hgg, rest⟩
  · exact .inl hn
  · exact .inr ⟨g, cap, cur, rfl, hb, (kk.block g (Array.getElem?_eq_some_iff.1 hgg).1 (hs g rfl)).trans hgg, rest⟩
theorem own_drew {w : World} {b : Nat} {e : TypeId} {n : Nat} {v : Value} {xs : List Value} (h : w.ownsRow b e k v n xs) : w.drew.ownsRow b e k v n xs := h
theorem own_lower {w : World} {b b' : Nat} {e : TypeId} {n : Nat} {v : Value} {xs : List Value} (h : w.ownsRow b e k v n xs) (hb : b' ≤ b) : w.ownsRow b' e k v n xs := by
  refine ⟨h.1, h.2.imp id ?_⟩
  rintro ⟨g, cap, cur, rfl, hg, rest⟩
  exact ⟨g, cap, cur, rfl, Nat.le_trans hb hg, rest⟩
/-- A new row: its cells are those of the elements. -/
theorem own_new {w : World} {base : Nat} (hb : base ≤ w.heap.size) (e : TypeId) (xs : List α) (cs : Array Value) (hl : ∀ x, (enc x).length = k) (n m : Nat) (hn : n = w.heap.size) (hm : m = xs.length) (hc : cs.toList = flat enc xs) (h63 : m ≤ maxLen) :
    (w.alloc (.cells cs e)).ownsRow base e k (.slice (some ⟨n, 0, none⟩) m m) m (flat enc xs) := by
  subst hn hm
  have hs : cs.size = xs.length * k := by rw [← Array.length_toList, hc, flat_length hl]
  exact ⟨flat_length hl xs, .inr ⟨w.heap.size, _, cs, rfl, hb, At.new w cs e, Nat.le_refl _, h63, hs, by rw [hc]; exact List.take_of_length_le (by rw [flat_length hl]; exact Nat.le_refl _)⟩⟩
theorem Sl.new {w : World} (e : TypeId) (xs : List α) (cs : Array Value) (hl : ∀ x, (enc x).length = k) (hk : 0 < k) (n m : Nat) (hn : n = w.heap.size) (hm : m = xs.length) (hc : cs.toList = flat enc xs) (h63 : m ≤ maxLen) :
    Sl enc k (w.alloc (.cells cs e)) (some ⟨n, 0, none⟩) m m xs :=
  Sl.of_own hl hk (own_new (Nat.zero_le _) e xs cs hl n m hn hm hc h63)

theorem Sl.of_at {w : World} {e : TypeId} {xs : List α} {cs : Array Value} {g m : Nat} (h : At w g cs e) (hl : ∀ x, (enc x).length = k) (hk : 0 < k) (hm : m = xs.length) (hc : cs.toList = flat enc xs) (h63 : m ≤ maxLen) :
    Sl enc k w (some ⟨g, 0, none⟩) m m xs :=
  Sl.of_own (base := 0) (e := e) hl hk ⟨by rw [flat_length hl, hm], .inr ⟨g, m, cs, rfl, Nat.zero_le _, h, Nat.le_refl _, h63, by rw [← Array.length_toList, hc, flat_length hl, hm], by rw [hc]; exact List.take_of_length_le (by rw [flat_length hl, hm]; exact Nat.le_refl _)⟩⟩
theorem At.grown {w w' : World} {p : Nat} {c : Array Value} {T : TypeId} {row : Option Nat} (h : At w p c T) (hg : w.grownBy w' row) (hr : row ≠ some p) : At w' p c T :=
  h.of_block (hg.block p h.lt (fun e => hr e.symm))

variable {P : Program}
theorem run_append_nothing (w : World) (base : Nat) (t ty e : TypeId) (i : TypeInfo) (size : Nat) (ht : P.underlying t = some (.slice e)) (hi : P.info? e = some i)
    (v : Value) (n : Nat) (xs : List Value) (hown : w.ownsRow base e size v n xs) (c : Nat) : (Builtin.append_ #[t, t] ty #[v, .slice none 0 c]).run P w = .ok v w := by
  rcases hown.2 with ⟨rfl, rfl⟩ | ⟨g, cap, cur, rfl, _, _, hnc, _⟩
  · simp [Builtin.append_, run_underlying ht, sizeOf, typeInfo, hi, Builtin.lenOf, Builtin.firstCells]
  · simp [Builtin.append_, run_underlying ht, sizeOf, typeInfo, hi, Builtin.lenOf, Builtin.firstCells, hnc, storeCells]

/-- What one must know of a slice type to append to its slices. -/
structure Row (P : Program) (t e : TypeId) (k : Nat) : Prop where
  under : P.underlying t = some (.slice e)
  info : ∃ i z, P.info? e = some i ∧ i.zero = some z ∧ i.size = k ∧ z.cells.size = k ∧ i.bytes ≤ 256
  pos : 0 < k

theorem run_append_sl (w : World) (base : Nat) (t ty e : TypeId) (R : Row P t e k) (hl : ∀ x, (enc x).length = k) (h1 : ∀ x, ∀ u ∈ enc x, u.oneCell' = true)
    (v : Value) (n : Nat) (xs : List α) (hown : w.ownsRow base e k v n (flat enc xs)) (A : Option Addr) (m c : Nat) (ys : List α) (hr : Sl enc k w A m c ys)
    (h63 : n + m ≤ 1000000) (hbase : base ≤ w.heap.size) :
    ∃ v' w', (Builtin.append_ #[t, t] ty #[v, .slice A m c]).run P w = .ok v' w' ∧ w'.ownsRow base e k v' (n + m) (flat enc (xs ++ ys)) ∧ w.grownBy w' v.ownBlock ∧
      (v'.ownBlock = v.ownBlock ∨ v'.ownBlock = some w.heap.size) := by
  obtain ⟨i, z, hi, hz, hs, hzs, hby⟩ := R.info
  rcases Nat.eq_zero_or_pos m with h0 | h0
  · subst h0
    have hys : ys = [] := List.length_eq_zero_iff.1 hr.1.symm
    subst hys
    rcases A with _ | ad
    · exact ⟨v, w, run_append_nothing w base t ty e i k R.under hi v n _ hown c, by simpa using hown, World.grownBy.refl w _, .inl rfl⟩
    · obtain ⟨v', w', hrun, h2, h3, _, h5⟩ := run_append_own_at (P := P) w base t ty e i z k i.bytes R.under hi hz hs rfl hzs R.pos v n _ hown ad 0 c [] (by simp) (by simp) (by simp) (by unfold maxLen; omega)
        (Nat.le_trans (Nat.mul_le_mul_left _ hby) (by omega)) hbase
      exact ⟨v', w', hrun, by simpa using h2, h3, h5⟩
  · obtain ⟨b, off, rfl, hb, hc⟩ := hr.at_ h0
    have hm := hr.1
    obtain ⟨v', w', hrun, h2, h3, _, h5⟩ := run_append_own_at (P := P) w base t ty e i z k i.bytes R.under hi hz hs rfl hzs R.pos v n _ hown ⟨b, off, none⟩ m c (flat enc ys) (by rw [flat_length hl, hm])
      (fun j u hj => by
        have hj2 : j < ys.length * k := by
          rw [← flat_length hl ys]
          exact (List.getElem?_eq_some_iff.1 hj).1
        have hq : j / k < ys.length := Nat.div_lt_of_lt_mul (by rw [Nat.mul_comm]; exact hj2)
        have hr2 : j % k < k := Nat.mod_lt _ R.pos
        have e1 : j / k * k + j % k = j := by rw [Nat.mul_comm]; exact Nat.div_add_mod j k
        have := hc (j / k) hq (j % k) hr2
        rw [← flat_get hl ys _ hq _ hr2, e1, hj, Nat.add_assoc, e1] at this
        rw [Addr.add_lit, this])
      (fun u hu => by
        obtain ⟨x, _, hx⟩ := List.mem_flatMap.1 hu
        exact h1 x u hx) (by unfold maxLen; omega) (Nat.le_trans (Nat.mul_le_mul_left _ hby) (by omega)) hbase
    exact ⟨v', w', hrun, by rw [flat_append]; exact h2, h3, h5⟩

theorem wp_append_sl (w : World) {o : Oper} {a : Act} {K : Act → World → Prop} {Q : Exit → Act → World → Prop} (s x : Operand) (t : TypeId)
    (ho : o.op = .call { callee := .builtin .append, args := #[s, x], argTypes := #[t, t] })
    (base : Nat) (e : TypeId) (R : Row P t e k) (hl : ∀ x, (enc x).length = k) (h1 : ∀ x, ∀ u ∈ enc x, u.oneCell' = true)
    (v : Value) (n : Nat) (xs : List α) (hs : a.eval s = v) (hown : w.ownsRow base e k v n (flat enc xs)) (A : Option Addr) (m c : Nat) (ys : List α) (hx : a.eval x = .slice A m c) (hr : Sl enc k w A m c ys)
    (h63 : n + m ≤ 1000000) (hbase : base ≤ w.heap.size)
    (h : ∀ v' w', w'.ownsRow base e k v' (n + m) (flat enc (xs ++ ys)) → w.grownBy w' v.ownBlock → (v'.ownBlock = v.ownBlock ∨ v'.ownBlock = some w.heap.size) → K (a.put o.dst v') w') : o.wp P a w K Q := by
  obtain ⟨v', w', hrun, h2, h3, h4⟩ := run_append_sl (P := P) w base t o.type e R hl h1 v n xs hown A m c ys hr h63 hbase
  unfold Oper.wp execOp
  simp only [ho, resolve, invoke, builtin, Sem.run_bind, Sem.run_pure, Result.andThen_ok, List.map_toArray, List.map_cons, List.map_nil, hs, hx, hrun]
  exact h v' w' h2 h3 h4
theorem wpList_append_sl (w : World) {ops : Array Oper} {rest : List Oper} {o : Oper} {a : Act} {Q : Exit → Act → World → Prop} (hgd : o.guard = none) (s x : Operand) (t : TypeId)
    (ho : o.op = .call { callee := .builtin .append, args := #[s, x], argTypes := #[t, t] })
    (base : Nat) (e : TypeId) (R : Row P t e k) (hl : ∀ x, (enc x).length = k) (h1 : ∀ x, ∀ u ∈ enc x, u.oneCell' = true)
    (v : Value) (n : Nat) (xs : List α) (hs : a.eval s = v) (hown : w.ownsRow base e k v n (flat enc xs)) (A : Option Addr) (m c : Nat) (ys : List α) (hx : a.eval x = .slice A m c) (hr : Sl enc k w A m c ys)
    (h63 : n + m ≤ 1000000) (hbase : base ≤ w.heap.size)
    (h : ∀ v' w', w'.ownsRow base e k v' (n + m) (flat enc (xs ++ ys)) → w.grownBy w' v.ownBlock → (v'.ownBlock = v.ownBlock ∨ v'.ownBlock = some w.heap.size) → wpList P ops Q rest (a.put o.dst v') w') : wpList P ops Q (o :: rest) a w :=
  wpList_plain hgd fun _ hK => wp_append_sl w s x t ho base e R hl h1 v n xs hs hown A m c ys hx hr h63 hbase fun v' w' h2 h3 h4 => hK _ _ (h v' w' h2 h3 h4)
theorem step_append_sl (w : World) {ops : Array Oper} {o : Oper} {a : Act} {K : Act → World → Prop} {Q : Exit → Act → World → Prop} {E : Prop} (hgd : o.guard = none) (s x : Operand) (t : TypeId)
    (ho : o.op = .call { callee := .builtin .append, args := #[s, x], argTypes := #[t, t] })
    (base : Nat) (e : TypeId) (R : Row P t e k) (hl : ∀ x, (enc x).length = k) (h1 : ∀ x, ∀ u ∈ enc x, u.oneCell' = true)
    (v : Value) (n : Nat) (xs : List α) (hs : a.eval s = v) (hown : w.ownsRow base e k v n (flat enc xs)) (A : Option Addr) (m c : Nat) (ys : List α) (hx : a.eval x = .slice A m c) (hr : Sl enc k w A m c ys)
    (h63 : n + m ≤ 1000000) (hbase : base ≤ w.heap.size)
    (h : ∀ v' w', w'.ownsRow base e k v' (n + m) (flat enc (xs ++ ys)) → w.grownBy w' v.ownBlock → (v'.ownBlock = v.ownBlock ∨ v'.ownBlock = some w.heap.size) → K (a.put o.dst v') w') :
    if Region.wanted o (yielded ops a.tmps) = true then Oper.wp P o a w K Q else E := by
  have hw : Region.wanted o (yielded ops a.tmps) = true := by simp [Region.wanted, hgd]
  rw [if_pos hw]
  exact wp_append_sl w s x t ho base e R hl h1 v n xs hs hown A m c ys hx hr h63 hbase h
theorem row_of {t e : TypeId} {k b : Nat} {z : Value} (ht : P.underlying t = some (.slice e)) (h : (P.info? e).map (fun i => (i.zero, i.size, i.bytes)) = some (some z, k, b)) (hz : z.cells.size = k) (hk : 0 < k) (hb : b ≤ 256) : Row P t e k := by
  obtain ⟨i, hi, h0, h1, h2⟩ := info_parts h
  exact ⟨ht, ⟨i, z, hi, h0, h1, hz, by omega⟩, hk⟩
theorem keep_cell {a w : World} (kk : Keep none_ a w) {b i : Nat} (hb : b < a.heap.size) : w.cell? ⟨b, i, none⟩ = a.cell? ⟨b, i, none⟩ := by
  have := kk.block b hb (fun e => e)
  simp [World.cell?, this]
theorem and_keep {a w : World} {b i : Nat} {v : Value} (hb : b < a.heap.size) (h : a.cell? ⟨b, i, none⟩ = some v) (kk : Keep none_ a w) : w.cell? ⟨b, i, none⟩ = some v ∧ Keep none_ a w := ⟨(keep_cell kk hb).trans h, kk⟩
theorem own_empty {w : World} {b g : Nat} {e : TypeId} (h : At w g #[] e) (hb : b ≤ g) : w.ownsRow b e k (.slice (some ⟨g, 0, none⟩) 0 0) 0 (flat enc []) :=
  ⟨by simp [flat], .inr ⟨g, 0, #[], rfl, hb, h, Nat.le_refl _, by unfold maxLen; omega, by simp, by simp [flat]⟩⟩
/-- What was there before an append to a row of the call's own is kept. -/
theorem keep_grown {S : Nat → Prop} {a w w' : World} {base : Nat} {e : TypeId} {v : Value} {n : Nat} {xs : List Value} (h : Keep S a w) (hown : w.ownsRow base e k v n xs) (hg : w.grownBy w' v.ownBlock) (hb : a.heap.size ≤ base) : Keep S a w' :=
  Keep.grown h hg fun q hq hl => by have := (hown.lt q hq).1; omega
end
end Go.Proofs.YtmioichjhiengaaGreat

/-
  A block that holds a list of structs, cell by cell; a store to a cell of it.
-/
namespace Go.Proofs.YtmioichjhiengaaGreat
open Go.RowKit

section
variable {α : Type} {enc : α → List Value} {k : Nat}
theorem flat_lset (hl : ∀ x, (enc x).length = k) (y : α) (j : Nat) (v : Value) (hj : j < k) : ∀ (t : List α) (i : Nat) (hi : i < t.length), enc y = (enc t[i]).set j v → (flat enc t).set (i * k + j) v = flat enc (t.set i y) := by
  intro t
  induction t with
  | nil => intro i hi; simp at hi
  | cons x t ih =>
    intro i hi hy
    rw [flat_cons]
    match i, hi with
    | 0, hi =>
      rw [List.set_cons_zero, flat_cons, Nat.zero_mul, Nat.zero_add, List.set_append_left _ _ (by rw [hl]; exact hj)]
      rw [hy]; rfl
    | i + 1, hi =>
      rw [List.set_cons_succ, flat_cons, List.set_append_right _ _ (by rw [hl, Nat.add_mul]; omega), hl, show (i + 1) * k + j - k = i * k + j by rw [Nat.add_mul]; omega]
      rw [ih i (by simpa using hi) hy]
/-- Block g holds the list t. -/
def Flat (enc : α → List Value) (w : World) (g : Nat) (t : List α) (T : TypeId) : Prop := At w g (flat enc t).toArray T
section
variable {w w' : World} {g : Nat} {t : List α} {T : TypeId}
theorem Flat.lt (h : Flat enc w g t T) : g < w.heap.size := At.lt h
theorem Flat.keep {S : Nat → Prop} (h : Flat enc w g t T) (kk : Keep S w w') (hs : ¬ S g) : Flat enc w' g t T := kk.at h hs
theorem Flat.frozen (h : Flat enc w g t T) : ∀ i, w.frozen? ⟨g, i, none⟩ = false := At.frozen h
theorem Flat.cell (h : Flat enc w g t T) (hl : ∀ x, (enc x).length = k) {i : Nat} (hi : i < t.length) (j : Nat) (hj : j < k) : w.cell? ⟨g, i * k + j, none⟩ = (enc t[i])[j]? := by
  rw [At.cell h, ← flat_get hl t i hi j hj, List.getElem?_toArray]
theorem Flat.set (h : Flat enc w g t T) (hl : ∀ x, (enc x).length = k) {i : Nat} (hi : i < t.length) (y : α) (j : Nat) (v : Value) (hj : j < k) (hy : enc y = (enc t[i]).set j v) : Flat enc (w.setCell ⟨g, i * k + j, none⟩ v) g (t.set i y) T := by
  have := At.set h (i * k + j) v
  rw [List.setIfInBounds_toArray, flat_lset hl y j v hj t i hi hy] at this
  exact this
theorem Flat.other (h : Flat enc w g t T) {a : Addr} (ha : a.block ≠ g) (v : Value) : Flat enc (w.setCell a v) g t T := At.set_other h ha v
theorem Flat.alloc (h : Flat enc w g t T) (o : Obj) : Flat enc (w.alloc o) g t T := At.alloc h o
theorem Flat.drew (h : Flat enc w g t T) : Flat enc w.drew g t T := h
theorem Flat.new (w : World) (c : Array Value) (T : TypeId) (t : List α) (hc : c.toList = flat enc t) : Flat enc (w.alloc (.cells c T)) w.heap.size t T := by
  have : c = (flat enc t).toArray := by rw [← hc]
  subst this
  exact At.new _ _ _
theorem Flat.sl (h : Flat enc w g t T) (hl : ∀ x, (enc x).length = k) (hk : 0 < k) (h63 : t.length ≤ maxLen) : Sl enc k w (some ⟨g, 0, none⟩) t.length t.length t :=
  Sl.of_at h hl hk rfl (by simp) h63
end
theorem made_flat (hl : ∀ x, (enc x).length = k) (hk : 0 < k) (zc : Array Value) (z : α) (hz : zc.toList = enc z) (n : Nat) : (madeCells zc (n * k)).toList = flat enc (List.replicate n z) := by
  have hs : zc.size = k := by rw [← Array.length_toList, hz, hl]
  apply List.ext_getElem?
  intro j
  by_cases hj : j < n * k
  · have hq : j / k < n := Nat.div_lt_of_lt_mul (by rw [Nat.mul_comm]; exact hj)
    have hr : j % k < k := Nat.mod_lt _ hk
    have e1 : j / k * k + j % k = j := by rw [Nat.mul_comm]; exact Nat.div_add_mod j k
    have := flat_get hl (List.replicate n z) (j / k) (by simpa using hq) (j % k) hr
    rw [e1, List.getElem_replicate] at this
    rw [this, ← hz]
    simp only [madeCells, Array.toList_map, Array.toList_range, List.getElem?_map, hs]
    rw [List.getElem?_range hj, Option.map_some, Array.getElem?_toList, getElem!_pos zc _ (by omega), Array.getElem?_eq_getElem]
  · rw [List.getElem?_eq_none (by rw [Array.length_toList, size_madeCells]; omega), List.getElem?_eq_none (by rw [flat_length hl]; simp; omega)]
end
end Go.Proofs.YtmioichjhiengaaGreat

/-
  A ring of cells that holds a queue: what a store at its end, and the clearing of its head, leave of it.
-/
namespace Go.Proofs.YtmioichjhiengaaGreat
open Go.RowKit

/-- Cells that are stored one behind the other. -/
def putC (cur : Array Value) (o : Nat) : List Value → Array Value
  | [] => cur
  | v :: vs => putC (cur.setIfInBounds o v) (o + 1) vs
theorem putC_size (vs : List Value) : ∀ (cur : Array Value) (o : Nat), (putC cur o vs).size = cur.size := by
  induction vs with
  | nil => intro cur o; rfl
  | cons v vs ih => intro cur o; rw [putC, ih]; simp
theorem putC_get (vs : List Value) : ∀ (cur : Array Value) (o i : Nat), o + vs.length ≤ cur.size →
    (putC cur o vs)[i]? = if o ≤ i ∧ i < o + vs.length then vs[i - o]? else cur[i]? := by
  induction vs with
  | nil => intro cur o i h; simp [putC]; intro h1 h2; omega
  | cons v vs ih =>
    intro cur o i h
    rw [List.length_cons] at h ⊢
    rw [putC, ih _ _ _ (by simp; omega)]
    by_cases h1 : o + 1 ≤ i ∧ i < o + 1 + vs.length
    · rw [if_pos h1, if_pos (by omega), show i - o = (i - (o + 1)) + 1 by omega, List.getElem?_cons_succ]
    · rw [if_neg h1]
      by_cases h2 : o = i
      · subst h2
        rw [if_pos (by omega), Nat.sub_self, List.getElem?_cons_zero, Array.getElem?_setIfInBounds_self_of_lt (by omega)]
      · rw [if_neg (by omega), Array.getElem?_setIfInBounds_ne h2]
theorem putC_one (cur : Array Value) (o : Nat) (v : Value) : putC cur o [v] = cur.setIfInBounds o v := rfl

/-- A store of cells one behind the other. -/
def stores (w : World) (p : Nat) : Nat → List Value → World
  | _, [] => w
  | o, v :: vs => stores (w.setCell ⟨p, o, none⟩ v) p (o + 1) vs
theorem At.setL {w : World} {p : Nat} {T : TypeId} (vs : List Value) : ∀ {w : World} {c : Array Value} {o : Nat}, At w p c T → At (stores w p o vs) p (putC c o vs) T := by
  induction vs with
  | nil => intro w c o h; exact h
  | cons v vs ih => intro w c o h; exact ih (At.set h o v)
theorem putC_whole (vs : List Value) (c : Array Value) (h : vs.length = c.size) : putC c 0 vs = vs.toArray := by
  apply Array.ext_getElem?
  intro i
  rw [putC_get _ _ _ _ (by omega)]
  by_cases hi : i < vs.length
  · rw [if_pos ⟨Nat.zero_le _, by omega⟩, Nat.sub_zero]; simp
  · rw [if_neg (by omega), Array.getElem?_eq_none (by omega), Array.getElem?_eq_none (by simp; omega)]
theorem At.whole {w : World} {p : Nat} {c : Array Value} {T : TypeId} (h : At w p c T) (vs : List Value) (hl : vs.length = c.size) : At (stores w p 0 vs) p vs.toArray T := by
  have := At.setL (w := w) vs (o := 0) h
  rwa [putC_whole vs c hl] at this
theorem At.setL_other {p q : Nat} {T : TypeId} {c : Array Value} (hn : q ≠ p) (vs : List Value) : ∀ {w : World} {o : Nat}, At w p c T → At (stores w q o vs) p c T := by
  induction vs with
  | nil => intro w o h; exact h
  | cons v vs ih => intro w o h; exact ih (At.set_other (a := ⟨q, o, none⟩) h hn v)
theorem Keep.setL {S : Nat → Prop} {a : World} {p : Nat} (hp : p < a.heap.size → S p) (vs : List Value) : ∀ {w : World} {o : Nat}, Keep S a w → Keep S a (stores w p o vs) := by
  induction vs with
  | nil => intro w o h; exact h
  | cons v vs ih => intro w o h; exact ih (Keep.setCell (p := ⟨p, o, none⟩) h hp v)

/-- The cells hold a queue, its head at place fr, of room places of k cells each. -/
structure RingIn {α : Type} (enc : α → List Value) (k : Nat) (cur : Array Value) (room fr : Nat) (q : List α) : Prop where
  size : cur.size = room * k
  head : fr < room
  len : q.length ≤ room
  at_ : ∀ i (h : i < q.length) j, j < k → cur[((fr + i) % room) * k + j]? = (enc q[i])[j]?

section
variable {α : Type} {enc : α → List Value} {k : Nat} {cur : Array Value} {room fr : Nat} {q : List α}

theorem RingIn.slot {i : Nat} (h : i < room) {j : Nat} (hj : j < k) : i * k + j < room * k := by
  have : (i + 1) * k ≤ room * k := Nat.mul_le_mul_right k h
  rw [Nat.add_mul] at this; omega
theorem apart_slots {a b i j k : Nat} (h : a ≠ b) (hi : i < k) (hj : j < k) : a * k + i ≠ b * k + j := by
  intro e
  rcases Nat.lt_or_gt_of_ne h with h | h
  · have : (a + 1) * k ≤ b * k := Nat.mul_le_mul_right k h
    rw [Nat.add_mul] at this; omega
  · have : (b + 1) * k ≤ a * k := Nat.mul_le_mul_right k h
    rw [Nat.add_mul] at this; omega
theorem ring_inj {fr i j room : Nat} (hi : i < room) (hj : j < room) (h : (fr + i) % room = (fr + j) % room) : i = j := by
  have h1 := Nat.div_add_mod (fr + i) room
  have h2 := Nat.div_add_mod (fr + j) room
  have e : room * ((fr + i) / room) + j = room * ((fr + j) / room) + i := by omega
  rcases Nat.lt_trichotomy ((fr + i) / room) ((fr + j) / room) with h3 | h3 | h3
  · have : room * ((fr + i) / room + 1) ≤ room * ((fr + j) / room) := Nat.mul_le_mul_left room h3
    rw [Nat.mul_add] at this; omega
  · rw [h3] at e; omega
  · have : room * ((fr + j) / room + 1) ≤ room * ((fr + i) / room) := Nat.mul_le_mul_left room h3
    rw [Nat.mul_add] at this; omega

theorem RingIn.put (h : RingIn enc k cur room fr q) (hl : ∀ x, (enc x).length = k) (hq : q.length < room) (x : α) :
    RingIn enc k (putC cur (((fr + q.length) % room) * k) (enc x)) room fr (q ++ [x]) := by
  have hr : 0 < room := by have := h.head; omega
  have hm : (fr + q.length) % room < room := Nat.mod_lt _ hr
  have hfit : ((fr + q.length) % room) * k + (enc x).length ≤ cur.size := by
    rw [h.size, hl]
    have : ((fr + q.length) % room + 1) * k ≤ room * k := Nat.mul_le_mul_right k hm
    rw [Nat.add_mul] at this; omega
  refine ⟨by rw [putC_size]; exact h.size, h.head, by simp; omega, ?_⟩
  intro i hi j hj
  rw [List.length_append, List.length_singleton] at hi
  rw [putC_get _ _ _ _ hfit, hl]
  by_cases e : i = q.length
  · subst e
    rw [if_pos (by omega)]
    simp
  · have hi2 : i < q.length := by omega
    have hne : (fr + i) % room ≠ (fr + q.length) % room := fun h2 => e (ring_inj (by omega) hq h2)
    rw [if_neg, h.at_ i hi2 j hj, List.getElem_append_left hi2]
    rintro ⟨h3, h4⟩
    exact apart_slots (i := j) (j := (fr + i) % room * k + j - (fr + q.length) % room * k) hne hj (by omega) (by omega)

theorem RingIn.take {x : α} (h : RingIn enc k cur room fr (x :: q)) (z : List Value) (hz : z.length = k) :
    (∀ j, j < k → cur[fr * k + j]? = (enc x)[j]?) ∧ RingIn enc k (putC cur (fr * k) z) room ((fr + 1) % room) q := by
  have hr : 0 < room := by have := h.head; omega
  have hf := h.head
  have hlen := h.len
  rw [List.length_cons] at hlen
  have hfit : fr * k + z.length ≤ cur.size := by
    rw [h.size, hz]
    have : (fr + 1) * k ≤ room * k := Nat.mul_le_mul_right k hf
    rw [Nat.add_mul] at this; omega
  constructor
  · intro j hj
    have := h.at_ 0 (by simp) j hj
    rw [Nat.add_zero, Nat.mod_eq_of_lt hf] at this
    simpa using this
  · refine ⟨by rw [putC_size]; exact h.size, Nat.mod_lt _ hr, by omega, ?_⟩
    intro i hi j hj
    rw [putC_get _ _ _ _ hfit, hz, Nat.mod_add_mod]
    have e : fr + 1 + i = fr + (i + 1) := by omega
    rw [e]
    have hne : (fr + (i + 1)) % room ≠ fr := fun h2 => by
      have := ring_inj (fr := fr) (i := i + 1) (j := 0) (room := room) (by omega) hr (by rw [h2, Nat.add_zero, Nat.mod_eq_of_lt hf])
      omega
    have := h.at_ (i + 1) (by simp; omega) j hj
    rw [if_neg, this]
    · simp
    · rintro ⟨h3, h4⟩
      exact apart_slots (i := j) (j := (fr + (i + 1)) % room * k + j - fr * k) hne hj (by omega) (by omega)

/-- The blocks of a mailbox: p its struct, g its ring. -/
def BoxAt (enc : α → List Value) (k : Nat) (TB TE : TypeId) (w : World) (p g room : Nat) (q : List α) (cl : Bool) : Prop :=
  p ≠ g ∧ 1 ≤ room ∧ room ≤ 16 ∧ ∃ (fr : Nat) (cur : Array Value), At w p #[.slice (some ⟨g, 0, none⟩) room room, .int .i64 fr, .int .i64 (q.length : Nat), .bool cl] TB ∧ At w g cur TE ∧ RingIn enc k cur room fr q
def two (p g : Nat) : Nat → Prop := fun b => b = p ∨ b = g
theorem BoxAt.keep {S : Nat → Prop} {TB TE : TypeId} {w w' : World} {p g : Nat} {cl : Bool} (h : BoxAt enc k TB TE w p g room q cl) (kk : Keep S w w') (hp : ¬ S p) (hg : ¬ S g) : BoxAt enc k TB TE w' p g room q cl := by
  obtain ⟨h1, h2, h3, fr, cur, h4, h5, h6⟩ := h
  exact ⟨h1, h2, h3, fr, cur, kk.at h4 hp, kk.at h5 hg, h6⟩
theorem BoxAt.le {TB TE : TypeId} {w : World} {p g : Nat} {cl : Bool} (h : BoxAt enc k TB TE w p g room q cl) : q.length ≤ room := by
  obtain ⟨h1, h2, h3, fr, cur, h4, h5, h6⟩ := h
  exact h6.len
theorem BoxAt.lt {TB TE : TypeId} {w : World} {p g : Nat} {cl : Bool} (h : BoxAt enc k TB TE w p g room q cl) : p < w.heap.size ∧ g < w.heap.size := by
  obtain ⟨h1, h2, h3, fr, cur, h4, h5, h6⟩ := h
  exact ⟨h4.lt, h5.lt⟩
def NewBox (enc : α → List Value) (k : Nat) (TB TE : TypeId) (w : World) (room : Nat) (e : Ending) (w' : World) : Prop :=
  ∃ p g, e = .returned (.tuple #[.pointer (some ⟨p, 0, none⟩), .nilIface]) ∧ Keep none_ w w' ∧ w.heap.size ≤ p ∧ w.heap.size ≤ g ∧ BoxAt enc k TB TE w' p g room [] false
end
end Go.Proofs.YtmioichjhiengaaGreat

/-
  A row of the call's own: an element stored, the last one dropped.
-/
namespace Go.Proofs.YtmioichjhiengaaGreat
open Go.RowKit

section
variable {α : Type} {enc : α → List Value} {k : Nat}
theorem own_stores {w : World} {base g n cap : Nat} {e : TypeId} {l : List α} (hl : ∀ x, (enc x).length = k) (hk : 0 < k) (h : w.ownsRow base e k (.slice (some ⟨g, 0, none⟩) n cap) n (flat enc l))
    (i : Nat) (hi : i < l.length) (x : α) : (stores w g (i * k) (enc x)).ownsRow base e k (.slice (some ⟨g, 0, none⟩) n cap) n (flat enc (l.set i x)) := by
  have hn := own_len hl hk h
  rcases h.2 with ⟨h0, -⟩ | ⟨g', cap', cur, he, hb, hg, hc, hm, hs, ht⟩
  · cases h0
  · obtain ⟨rfl, rfl⟩ : g = g' ∧ cap = cap' := by simpa using he
    have hin : i * k + k ≤ cur.size := by
      rw [hs]
      calc i * k + k = (i + 1) * k := by rw [Nat.add_mul]; omega
        _ ≤ cap * k := Nat.mul_le_mul_right _ (by omega)
    refine ⟨by rw [flat_length hl, List.length_set, hn], .inr ⟨g, cap, putC cur (i * k) (enc x), rfl, hb, At.setL (w := w) (enc x) (c := cur) hg, hc, hm, by rw [putC_size, hs], ?_⟩⟩
    apply List.ext_getElem?
    intro j
    by_cases hj : j < n * k
    · have hq : j / k < l.length := by rw [← hn]; exact Nat.div_lt_of_lt_mul (by rw [Nat.mul_comm]; exact hj)
      have hr : j % k < k := Nat.mod_lt _ hk
      have e1 : j / k * k + j % k = j := by rw [Nat.mul_comm]; exact Nat.div_add_mod j k
      rw [List.getElem?_take_of_lt hj, Array.getElem?_toList, putC_get _ _ _ _ (by rw [hl]; exact hin)]
      have f1 := flat_get hl (l.set i x) (j / k) (by simpa using hq) (j % k) hr
      have f2 := flat_get hl l (j / k) hq (j % k) hr
      rw [e1] at f1 f2
      rw [f1, hl]
      by_cases hij : j / k = i
      · have hjk : j = i * k + j % k := by rw [← hij]; exact e1.symm
        rw [if_pos (by omega)]
        have : (l.set i x)[j / k]'(by simpa using hq) = x := by simp [hij]
        rw [this, show j - i * k = j % k by omega]
      · rw [if_neg (by
          intro ⟨ha, hb2⟩
          apply hij
          have : j / k = i := by
            rw [Nat.div_eq_of_lt_le (by omega) (by rw [Nat.add_mul]; omega)]
          exact this)]
        rw [List.getElem_set_ne (by omega), ← f2, ← ht, List.getElem?_take_of_lt hj, Array.getElem?_toList]
    · rw [List.getElem?_eq_none (by rw [List.length_take]; omega), List.getElem?_eq_none (by rw [flat_length hl, List.length_set, ← hn]; omega)]
theorem own_shrink {w : World} {base g n cap m : Nat} {e : TypeId} {l : List α} (hl : ∀ x, (enc x).length = k) (hk : 0 < k) (h : w.ownsRow base e k (.slice (some ⟨g, 0, none⟩) n cap) n (flat enc l)) (hmn : m ≤ n) :
    w.ownsRow base e k (.slice (some ⟨g, 0, none⟩) m cap) m (flat enc (l.take m)) := by
  have hn := own_len hl hk h
  rcases h.2 with ⟨h0, -⟩ | ⟨g', cap', cur, he, hb, hg, hc, hm, hs, ht⟩
  · cases h0
  · obtain ⟨rfl, rfl⟩ : g = g' ∧ cap = cap' := by simpa using he
    refine ⟨by rw [flat_length hl, List.length_take, ← hn, Nat.min_eq_left hmn], .inr ⟨g, cap, cur, rfl, hb, hg, by omega, hm, hs, ?_⟩⟩
    have e1 : flat enc (l.take m) = (flat enc l).take (m * k) := by
      have : flat enc l = flat enc (l.take m) ++ flat enc (l.drop m) := by rw [← flat_append, List.take_append_drop]
      have hlen : (flat enc (l.take m)).length = m * k := by rw [flat_length hl, List.length_take, ← hn, Nat.min_eq_left hmn]
      rw [this]
      generalize flat enc (l.take m) = a at hlen ⊢
      generalize flat enc (l.drop m) = b
      rw [← hlen]; simp
    rw [e1, ← ht, List.take_take, Nat.min_eq_left (Nat.mul_le_mul_right _ hmn)]
theorem own_some {w : World} {base n : Nat} {e : TypeId} {v : Value} {xs : List Value} (h : w.ownsRow base e k v n xs) (hn : 0 < n) : ∃ g cap, v = .slice (some ⟨g, 0, none⟩) n cap ∧ base ≤ g ∧ g < w.heap.size ∧ n ≤ cap ∧ cap ≤ maxLen := by
  rcases h.2 with ⟨-, h0⟩ | ⟨g, cap, cur, rfl, hb, hg, hc, hm, -⟩
  · omega
  · exact ⟨g, cap, rfl, hb, (Array.getElem?_eq_some_iff.1 hg).1, hc, hm⟩
end
end Go.Proofs.YtmioichjhiengaaGreat
