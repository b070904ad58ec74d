/-
  A slice that reads as a list of structs (or of single cells); a row of the call's own that does; append onto such a row, whatever its source.
-/
import Derived.Test.YtmioichjhiengaaHeap
import Derived.Maps.AppendAt
import Derived.Deep.AppendLies
import Derived.OwnWalk
import Derived.RegionTactic
namespace Go.Proofs.Ytmioichjhiengaa
open Go.RowKit

def flat {α : Type} (enc : α → List Value) (xs : List α) : List Value := xs.flatMap enc
section
variable {α : Type} {enc : α → List Value} {k : Nat}
theorem flat_nil : flat enc [] = [] := rfl
theorem flat_cons (x : α) (xs : List α) : flat enc (x :: xs) = enc x ++ flat enc xs := by simp [flat]
theorem flat_append (xs ys : List α) : flat enc (xs ++ ys) = flat enc xs ++ flat enc ys := by simp [flat]
theorem flat_length (hl : ∀ x, (enc x).length = k) (xs : List α) : (flat enc xs).length = xs.length * k := by
  induction xs with
  | nil => simp [flat]
  | cons x xs ih => rw [flat_cons, List.length_append, ih, hl, List.length_cons, Nat.add_mul]; omega
theorem flat_get (hl : ∀ x, (enc x).length = k) (xs : List α) : ∀ i (h : i < xs.length) j, j < k → (flat enc xs)[i * k + j]? = (enc xs[i])[j]? := by
  induction xs with
  | nil => intro i h; simp at h
  | cons x xs ih =>
    intro i h j hj
    rw [flat_cons]
    match i, h with
    | 0, h =>
      rw [Nat.zero_mul, Nat.zero_add, List.getElem?_append_left (by rw [hl]; exact hj)]
      rfl
    | i + 1, h =>
      rw [Nat.add_mul, List.getElem?_append_right (by rw [hl]; omega), hl, show i * k + 1 * k + j - k = i * k + j by omega]
      exact ih i (by simpa using h) j hj

/-- A slice value '.slice A n c' reads as xs. -/
def Sl (enc : α → List Value) (k : Nat) (w : World) (A : Option Addr) (n c : Nat) (xs : List α) : Prop :=
  n = xs.length ∧ n ≤ c ∧ c ≤ maxLen ∧ (0 < n → ∃ b off, A = some ⟨b, off, none⟩ ∧ b < w.heap.size ∧
    ∀ i (h : i < xs.length) j, j < k → w.cell? ⟨b, off + i * k + j, none⟩ = (enc xs[i])[j]?)
theorem Sl.len {w : World} {A : Option Addr} {n c : Nat} {xs : List α} (h : Sl enc k w A n c xs) : n = xs.length := h.1
theorem Sl.nil (enc : α → List Value) (k : Nat) (w : World) (A : Option Addr) (c : Nat) (hc : c ≤ maxLen) : Sl enc k w A 0 c [] := ⟨rfl, Nat.zero_le _, hc, fun h => absurd h (Nat.lt_irrefl _)⟩
theorem Sl.at_ {w : World} {A : Option Addr} {n c : Nat} {xs : List α} (h : Sl enc k w A n c xs) (hn : 0 < n) : ∃ b off, A = some ⟨b, off, none⟩ ∧ b < w.heap.size ∧
    ∀ i (h : i < xs.length) j, j < k → w.cell? ⟨b, off + i * k + j, none⟩ = (enc xs[i])[j]? := h.2.2.2 hn
/-- The block of a slice that reads is none of S. -/
def Off (S : Nat → Prop) (A : Option Addr) : Prop := ∀ a, A = some a → ¬ S a.block
theorem Sl.keep {S : Nat → Prop} {w w' : World} {A : Option Addr} {n c : Nat} {xs : List α} (h : Sl enc k w A n c xs) (kk : Keep S w w') (hs : Off S A) : Sl enc k w' A n c xs := by
  obtain ⟨h1, h2, h3, h4⟩ := h
  refine ⟨h1, h2, h3, fun hn => ?_⟩
  obtain ⟨b, off, rfl, hb, hc⟩ := h4 hn
  refine ⟨b, off, rfl, Nat.lt_of_lt_of_le hb kk.size, fun i hi j hj => ?_⟩
  rw [← hc i hi j hj]
  have := kk.block b hb (hs _ rfl)
  simp [World.cell?, this]
theorem Off.none_ {A : Option Addr} : Off none_ A := fun _ _ e => e
theorem Off.none' {S : Nat → Prop} : Off S none := fun _ h => by cases h
theorem Sl.of_own {w : World} {base n c : Nat} {e : TypeId} {A : Option Addr} {xs : List α} (hl : ∀ x, (enc x).length = k) (hk : 0 < k) (h : w.ownsRow base e k (.slice A n c) n (flat enc xs)) : Sl enc k w A n c xs := by
  have hn : n = xs.length := by
    have := h.1
    rw [flat_length hl] at this
    exact (Nat.eq_of_mul_eq_mul_right hk this).symm
  rcases h.2 with ⟨hv, h0⟩ | ⟨g, cap, cur, hv, hb, hg, hnc, hcm, hcs, htake⟩
  · injection hv with h1 h2 h3
    subst h2 h3
    exact ⟨hn, Nat.le_refl _, by unfold maxLen; omega, fun h => absurd h (Nat.lt_irrefl _)⟩
  · injection hv with h1 h2 h3
    subst h1 h3
    have hat : At w g cur e := hg
    refine ⟨hn, hnc, hcm, fun _ => ⟨g, 0, rfl, hat.lt, fun i hi j hj => ?_⟩⟩
    rw [hat.cell, ← flat_get hl xs i hi j hj, ← htake, Nat.zero_add, List.getElem?_take_of_lt, Array.getElem?_toList]
    have : (i + 1) * k ≤ n * k := Nat.mul_le_mul_right k (by omega)
    rw [Nat.add_mul] at this; omega
/-- A slice without its first so many elements. -/
theorem Sl.drop {w : World} {b off n c m c' : Nat} {x : Nat} {xs ys : List α} (h : Sl enc k w (some ⟨b, off, none⟩) n c xs) (i : Nat) (hi : i ≤ n) (hx : x = off + i * k) (hm : m = n - i) (hc : c' = c - i) (hy : ys = xs.drop i) : Sl enc k w (some ⟨b, x, none⟩) m c' ys := by
  subst hx hm hc hy
  obtain ⟨h1, h2, h3, h4⟩ := h
  refine ⟨by rw [List.length_drop, h1], by omega, by omega, fun hn => ?_⟩
  obtain ⟨b', off', e, hb, hc⟩ := h4 (by omega)
  obtain ⟨rfl, rfl⟩ : b = b' ∧ off = off' := by simpa using e
  refine ⟨b, off + i * k, rfl, hb, fun j hj l hl => ?_⟩
  rw [List.length_drop] at hj
  have := hc (i + j) (by omega) l hl
  rw [List.getElem_drop, ← this, Nat.add_mul]
  congr 2
  omega
theorem own_len {w : World} {base n : Nat} {e : TypeId} {v : Value} {xs : List α} (hl : ∀ x, (enc x).length = k) (hk : 0 < k) (h : w.ownsRow base e k v n (flat enc xs)) : n = xs.length := by
  have := h.1
  rw [flat_length hl] at this
  exact (Nat.eq_of_mul_eq_mul_right hk this).symm
theorem own_form {w : World} {base n : Nat} {e : TypeId} {v : Value} {xs : List Value} (h : w.ownsRow base e k v n xs) : ∃ A c, v = .slice A n c := by
  rcases h.2 with ⟨rfl, h0⟩ | ⟨g, cap, cur, rfl, -⟩
  · exact ⟨none, 0, by rw [h0]⟩
  · exact ⟨_, _, rfl⟩
theorem own_keep {S : Nat → Prop} {w w' : World} {base : Nat} {e : TypeId} {n : Nat} {v : Value} {xs : List Value} (h : w.ownsRow base e k v n xs) (kk : Keep S w w') (hs : ∀ g, v.ownBlock = some g → ¬ S g) : w'.ownsRow base e k v n xs := by
  refine ⟨h.1, ?_⟩
  rcases h.2 with hn | ⟨g, cap, cur, rfl, hb, hgg, rest⟩
  · exact .inl hn
  · exact .inr ⟨g, cap, cur, rfl, hb, (kk.block g (Array.getElem?_eq_some_iff.1 hgg).1 (hs g rfl)).trans hgg, rest⟩
theorem own_drew {w : World} {b : Nat} {e : TypeId} {n : Nat} {v : Value} {xs : List Value} (h : w.ownsRow b e k v n xs) : w.drew.ownsRow b e k v n xs := h
theorem own_lower {w : World} {b b' : Nat} {e : TypeId} {n : Nat} {v : Value} {xs : List Value} (h : w.ownsRow b e k v n xs) (hb : b' ≤ b) : w.ownsRow b' e k v n xs := by
  refine ⟨h.1, h.2.imp id ?_⟩
  rintro ⟨g, cap, cur, rfl, hg, rest⟩
  exact ⟨g, cap, cur, rfl, Nat.le_trans hb hg, rest⟩
/-- A new row: its cells are those of the elements. -/
theorem own_new {w : World} {base : Nat} (hb : base ≤ w.heap.size) (e : TypeId) (xs : List α) (cs : Array Value) (hl : ∀ x, (enc x).length = k) (n m : Nat) (hn : n = w.heap.size) (hm : m = xs.length) (hc : cs.toList = flat enc xs) (h63 : m ≤ maxLen) :
    (w.alloc (.cells cs e)).ownsRow base e k (.slice (some ⟨n, 0, none⟩) m m) m (flat enc xs) := by
  subst hn hm
  have hs : cs.size = xs.length * k := by rw [← Array.length_toList, hc, flat_length hl]
  exact ⟨flat_length hl xs, .inr ⟨w.heap.size, _, cs, rfl, hb, At.new w cs e, Nat.le_refl _, h63, hs, by rw [hc]; exact List.take_of_length_le (by rw [flat_length hl]; exact Nat.le_refl _)⟩⟩
theorem Sl.new {w : World} (e : TypeId) (xs : List α) (cs : Array Value) (hl : ∀ x, (enc x).length = k) (hk : 0 < k) (n m : Nat) (hn : n = w.heap.size) (hm : m = xs.length) (hc : cs.toList = flat enc xs) (h63 : m ≤ maxLen) :
    Sl enc k (w.alloc (.cells cs e)) (some ⟨n, 0, none⟩) m m xs :=
  Sl.of_own hl hk (own_new (Nat.zero_le _) e xs cs hl n m hn hm hc h63)

theorem Sl.of_at {w : World} {e : TypeId} {xs : List α} {cs : Array Value} {g m : Nat} (h : At w g cs e) (hl : ∀ x, (enc x).length = k) (hk : 0 < k) (hm : m = xs.length) (hc : cs.toList = flat enc xs) (h63 : m ≤ maxLen) :
    Sl enc k w (some ⟨g, 0, none⟩) m m xs :=
  Sl.of_own (base := 0) (e := e) hl hk ⟨by rw [flat_length hl, hm], .inr ⟨g, m, cs, rfl, Nat.zero_le _, h, Nat.le_refl _, h63, by rw [← Array.length_toList, hc, flat_length hl, hm], by rw [hc]; exact List.take_of_length_le (by rw [flat_length hl, hm]; exact Nat.le_refl _)⟩⟩
theorem At.grown {w w' : World} {p : Nat} {c : Array Value} {T : TypeId} {row : Option Nat} (h : At w p c T) (hg : w.grownBy w' row) (hr : row ≠ some p) : At w' p c T :=
  h.of_block (hg.block p h.lt (fun e => hr e.symm))

variable {P : Program}
theorem run_append_nothing (w : World) (base : Nat) (t ty e : TypeId) (i : TypeInfo) (size : Nat) (ht : P.underlying t = some (.slice e)) (hi : P.info? e = some i)
    (v : Value) (n : Nat) (xs : List Value) (hown : w.ownsRow base e size v n xs) (c : Nat) : (Builtin.append_ #[t, t] ty #[v, .slice none 0 c]).run P w = .ok v w := by
  rcases hown.2 with ⟨rfl, rfl⟩ | ⟨g, cap, cur, rfl, _, _, hnc, _⟩
  · simp [Builtin.append_, run_underlying ht, sizeOf, typeInfo, hi, Builtin.lenOf, Builtin.firstCells]
  · simp [Builtin.append_, run_underlying ht, sizeOf, typeInfo, hi, Builtin.lenOf, Builtin.firstCells, hnc, storeCells]

/-- What one must know of a slice type to append to its slices. -/
structure Row (P : Program) (t e : TypeId) (k : Nat) : Prop where
  under : P.underlying t = some (.slice e)
  info : ∃ i z, P.info? e = some i ∧ i.zero = some z ∧ i.size = k ∧ z.cells.size = k ∧ i.bytes ≤ 256
  pos : 0 < k

theorem run_append_sl (w : World) (base : Nat) (t ty e : TypeId) (R : Row P t e k) (hl : ∀ x, (enc x).length = k) (h1 : ∀ x, ∀ u ∈ enc x, u.oneCell' = true)
    (v : Value) (n : Nat) (xs : List α) (hown : w.ownsRow base e k v n (flat enc xs)) (A : Option Addr) (m c : Nat) (ys : List α) (hr : Sl enc k w A m c ys)
    (h63 : n + m ≤ 1000000) (hbase : base ≤ w.heap.size) :
    ∃ v' w', (Builtin.append_ #[t, t] ty #[v, .slice A m c]).run P w = .ok v' w' ∧ w'.ownsRow base e k v' (n + m) (flat enc (xs ++ ys)) ∧ w.grownBy w' v.ownBlock ∧
      (v'.ownBlock = v.ownBlock ∨ v'.ownBlock = some w.heap.size) := by
  obtain ⟨i, z, hi, hz, hs, hzs, hby⟩ := R.info
  rcases Nat.eq_zero_or_pos m with h0 | h0
  · subst h0
    have hys : ys = [] := List.length_eq_zero_iff.1 hr.1.symm
    subst hys
    rcases A with _ | ad
    · exact ⟨v, w, run_append_nothing w base t ty e i k R.under hi v n _ hown c, by simpa using hown, World.grownBy.refl w _, .inl rfl⟩
    · obtain ⟨v', w', hrun, h2, h3, _, h5⟩ := run_append_own_at (P := P) w base t ty e i z k i.bytes R.under hi hz hs rfl hzs R.pos v n _ hown ad 0 c [] (by simp) (by simp) (by simp) (by unfold maxLen; omega)
        (Nat.le_trans (Nat.mul_le_mul_left _ hby) (by omega)) hbase
      exact ⟨v', w', hrun, by simpa using h2, h3, h5⟩
  · obtain ⟨b, off, rfl, hb, hc⟩ := hr.at_ h0
    have hm := hr.1
    obtain ⟨v', w', hrun, h2, h3, _, h5⟩ := run_append_own_at (P := P) w base t ty e i z k i.bytes R.under hi hz hs rfl hzs R.pos v n _ hown ⟨b, off, none⟩ m c (flat enc ys) (by rw [flat_length hl, hm])
      (fun j u hj => by
        have hj2 : j < ys.length * k := by
          rw [← flat_length hl ys]
          exact (List.getElem?_eq_some_iff.1 hj).1
        have hq : j / k < ys.length := Nat.div_lt_of_lt_mul (by rw [Nat.mul_comm]; exact hj2)
        have hr2 : j % k < k := Nat.mod_lt _ R.pos
        have e1 : j / k * k + j % k = j := by rw [Nat.mul_comm]; exact Nat.div_add_mod j k
        have := hc (j / k) hq (j % k) hr2
        rw [← flat_get hl ys _ hq _ hr2, e1, hj, Nat.add_assoc, e1] at this
        rw [Addr.add_lit, this])
      (fun u hu => by
        obtain ⟨x, _, hx⟩ := List.mem_flatMap.1 hu
        exact h1 x u hx) (by unfold maxLen; omega) (Nat.le_trans (Nat.mul_le_mul_left _ hby) (by omega)) hbase
    exact ⟨v', w', hrun, by rw [flat_append]; exact h2, h3, h5⟩

theorem wp_append_sl (w : World) {o : Oper} {a : Act} {K : Act → World → Prop} {Q : Exit → Act → World → Prop} (s x : Operand) (t : TypeId)
    (ho : o.op = .call { callee := .builtin .append, args := #[s, x], argTypes := #[t, t] })
    (base : Nat) (e : TypeId) (R : Row P t e k) (hl : ∀ x, (enc x).length = k) (h1 : ∀ x, ∀ u ∈ enc x, u.oneCell' = true)
    (v : Value) (n : Nat) (xs : List α) (hs : a.eval s = v) (hown : w.ownsRow base e k v n (flat enc xs)) (A : Option Addr) (m c : Nat) (ys : List α) (hx : a.eval x = .slice A m c) (hr : Sl enc k w A m c ys)
    (h63 : n + m ≤ 1000000) (hbase : base ≤ w.heap.size)
    (h : ∀ v' w', w'.ownsRow base e k v' (n + m) (flat enc (xs ++ ys)) → w.grownBy w' v.ownBlock → (v'.ownBlock = v.ownBlock ∨ v'.ownBlock = some w.heap.size) → K (a.put o.dst v') w') : o.wp P a w K Q := by
  obtain ⟨v', w', hrun, h2, h3, h4⟩ := run_append_sl (P := P) w base t o.type e R hl h1 v n xs hown A m c ys hr h63 hbase
  unfold Oper.wp execOp
  simp only [ho, resolve, invoke, builtin, Sem.run_bind, Sem.run_pure, Result.andThen_ok, List.map_toArray, List.map_cons, List.map_nil, hs, hx, hrun]
  exact h v' w' h2 h3 h4
theorem wpList_append_sl (w : World) {ops : Array Oper} {rest : List Oper} {o : Oper} {a : Act} {Q : Exit → Act → World → Prop} (hgd : o.guard = none) (s x : Operand) (t : TypeId)
    (ho : o.op = .call { callee := .builtin .append, args := #[s, x], argTypes := #[t, t] })
    (base : Nat) (e : TypeId) (R : Row P t e k) (hl : ∀ x, (enc x).length = k) (h1 : ∀ x, ∀ u ∈ enc x, u.oneCell' = true)
    (v : Value) (n : Nat) (xs : List α) (hs : a.eval s = v) (hown : w.ownsRow base e k v n (flat enc xs)) (A : Option Addr) (m c : Nat) (ys : List α) (hx : a.eval x = .slice A m c) (hr : Sl enc k w A m c ys)
    (h63 : n + m ≤ 1000000) (hbase : base ≤ w.heap.size)
    (h : ∀ v' w', w'.ownsRow base e k v' (n + m) (flat enc (xs ++ ys)) → w.grownBy w' v.ownBlock → (v'.ownBlock = v.ownBlock ∨ v'.ownBlock = some w.heap.size) → wpList P ops Q rest (a.put o.dst v') w') : wpList P ops Q (o :: rest) a w :=
  wpList_plain hgd fun _ hK => wp_append_sl w s x t ho base e R hl h1 v n xs hs hown A m c ys hx hr h63 hbase fun v' w' h2 h3 h4 => hK _ _ (h v' w' h2 h3 h4)
theorem step_append_sl (w : World) {ops : Array Oper} {o : Oper} {a : Act} {K : Act → World → Prop} {Q : Exit → Act → World → Prop} {E : Prop} (hgd : o.guard = none) (s x : Operand) (t : TypeId)
    (ho : o.op = .call { callee := .builtin .append, args := #[s, x], argTypes := #[t, t] })
    (base : Nat) (e : TypeId) (R : Row P t e k) (hl : ∀ x, (enc x).length = k) (h1 : ∀ x, ∀ u ∈ enc x, u.oneCell' = true)
    (v : Value) (n : Nat) (xs : List α) (hs : a.eval s = v) (hown : w.ownsRow base e k v n (flat enc xs)) (A : Option Addr) (m c : Nat) (ys : List α) (hx : a.eval x = .slice A m c) (hr : Sl enc k w A m c ys)
    (h63 : n + m ≤ 1000000) (hbase : base ≤ w.heap.size)
    (h : ∀ v' w', w'.ownsRow base e k v' (n + m) (flat enc (xs ++ ys)) → w.grownBy w' v.ownBlock → (v'.ownBlock = v.ownBlock ∨ v'.ownBlock = some w.heap.size) → K (a.put o.dst v') w') :
    if Region.wanted o (yielded ops a.tmps) = true then Oper.wp P o a w K Q else E := by
  have hw : Region.wanted o (yielded ops a.tmps) = true := by simp [Region.wanted, hgd]
  rw [if_pos hw]
  exact wp_append_sl w s x t ho base e R hl h1 v n xs hs hown A m c ys hx hr h63 hbase h
theorem row_of {t e : TypeId} {k b : Nat} {z : Value} (ht : P.underlying t = some (.slice e)) (h : (P.info? e).map (fun i => (i.zero, i.size, i.bytes)) = some (some z, k, b)) (hz : z.cells.size = k) (hk : 0 < k) (hb : b ≤ 256) : Row P t e k := by
  obtain ⟨i, hi, h0, h1, h2⟩ := info_parts h
  exact ⟨ht, ⟨i, z, hi, h0, h1, hz, by omega⟩, hk⟩
theorem keep_cell {a w : World} (kk : Keep none_ a w) {b i : Nat} (hb : b < a.heap.size) : w.cell? ⟨b, i, none⟩ = a.cell? ⟨b, i, none⟩ := by
  have := kk.block b hb (fun e => e)
  simp [World.cell?, this]
theorem and_keep {a w : World} {b i : Nat} {v : Value} (hb : b < a.heap.size) (h : a.cell? ⟨b, i, none⟩ = some v) (kk : Keep none_ a w) : w.cell? ⟨b, i, none⟩ = some v ∧ Keep none_ a w := ⟨(keep_cell kk hb).trans h, kk⟩
theorem own_empty {w : World} {b g : Nat} {e : TypeId} (h : At w g #[] e) (hb : b ≤ g) : w.ownsRow b e k (.slice (some ⟨g, 0, none⟩) 0 0) 0 (flat enc []) :=
  ⟨by simp [flat], .inr ⟨g, 0, #[], rfl, hb, h, Nat.le_refl _, by unfold maxLen; omega, by simp, by simp [flat]⟩⟩
/-- What was there before an append to a row of the call's own is kept. -/
theorem keep_grown {S : Nat → Prop} {a w w' : World} {base : Nat} {e : TypeId} {v : Value} {n : Nat} {xs : List Value} (h : Keep S a w) (hown : w.ownsRow base e k v n xs) (hg : w.grownBy w' v.ownBlock) (hb : a.heap.size ≤ base) : Keep S a w' :=
  Keep.grown h hg fun q hq hl => by have := (hown.lt q hq).1; omega
end
end Go.Proofs.Ytmioichjhiengaa
