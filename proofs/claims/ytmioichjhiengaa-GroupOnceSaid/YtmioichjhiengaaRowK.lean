/-
  Rows of elements of k cells: what a row of the call's own holds, place by place; copy, clear at k cells; stores one behind the other.
-/
import Derived.Test.YtmioichjhiengaaFlat
import Derived.Test.YtmioichjhiengaaOwnSet
import Derived.Laws.IdiomCopy
import Derived.Lib.SliceRun
import Derived.Lib.AppendZerosOnto
namespace Go.Proofs.Ytmioichjhiengaa
open Go.RowKit

theorem setCells_stores (b : Nat) : ∀ (vs : List Value) (o : Nat) (w : World), w.setCells b o vs = stores w b o vs
  | [], _, _ => rfl
  | v :: r, o, w => setCells_stores b r (o + 1) _

section
variable {α : Type} {enc : α → List Value} {k : Nat}
/-- From the cells, place by place: a row of the call's own. -/
theorem own_of_get {w : World} {base g cap n : Nat} {e : TypeId} {cur : Array Value} {l : List α} (hl : ∀ x, (enc x).length = k) (hk : 0 < k) (hat : At w g cur e) (hs : cur.size = cap * k) (hn : n = l.length) (hnc : n ≤ cap) (hm : cap ≤ maxLen) (hb : base ≤ g)
    (h : ∀ q (hq : q < l.length) r, r < k → cur[q * k + r]? = (enc l[q])[r]?) : w.ownsRow base e k (.slice (some ⟨g, 0, none⟩) n cap) n (flat enc l) := by
  subst hn
  refine ⟨flat_length hl l, .inr ⟨g, cap, cur, rfl, hb, hat, hnc, hm, hs, ?_⟩⟩
  apply List.ext_getElem?
  intro j
  by_cases hj : j < l.length * k
  · have hq : j / k < l.length := Nat.div_lt_of_lt_mul (by rw [Nat.mul_comm]; exact hj)
    have hr : j % k < k := Nat.mod_lt _ hk
    have e1 : j / k * k + j % k = j := by rw [Nat.mul_comm]; exact Nat.div_add_mod j k
    rw [List.getElem?_take_of_lt hj, Array.getElem?_toList]
    have h1 := h (j / k) hq (j % k) hr
    have h2 := flat_get hl l (j / k) hq (j % k) hr
    rw [e1] at h1 h2
    rw [h1, h2]
  · rw [List.getElem?_eq_none (by rw [List.length_take]; omega), List.getElem?_eq_none (by rw [flat_length hl]; omega)]
/-- .. and back. -/
theorem own_get {w : World} {base g cap n : Nat} {e : TypeId} {l : List α} (hl : ∀ x, (enc x).length = k) (hk : 0 < k) (h : w.ownsRow base e k (.slice (some ⟨g, 0, none⟩) n cap) n (flat enc l)) :
    ∃ cur, At w g cur e ∧ cur.size = cap * k ∧ n = l.length ∧ n ≤ cap ∧ cap ≤ maxLen ∧ base ≤ g ∧ ∀ q (hq : q < l.length) r, r < k → cur[q * k + r]? = (enc l[q])[r]? := by
  have hn := own_len hl hk h
  rcases h.2 with ⟨h0, -⟩ | ⟨g', cap', cur, he, hb, hg, hc, hm, hs, ht⟩
  · cases h0
  · obtain ⟨rfl, rfl⟩ : g = g' ∧ cap = cap' := by simpa using he
    refine ⟨cur, hg, hs, hn, hc, hm, hb, fun q hq r hr => ?_⟩
    have h2 := flat_get hl l q hq r hr
    rw [← h2, ← ht, List.getElem?_take_of_lt, Array.getElem?_toList]
    calc q * k + r < q * k + k := by omega
      _ = (q + 1) * k := by rw [Nat.add_mul]; omega
      _ ≤ n * k := Nat.mul_le_mul_right _ (by omega)
theorem flat_one (x : α) : flat enc [x] = enc x := by simp [flat]
theorem flat_drop (hl : ∀ x, (enc x).length = k) (l : List α) (i : Nat) (hi : i ≤ l.length) : flat enc (l.drop i) = (flat enc l).drop (i * k) := by
  have h := flat_append (enc := enc) (l.take i) (l.drop i)
  rw [List.take_append_drop] at h
  have h2 : (flat enc (l.take i)).length = i * k := by rw [flat_length hl, List.length_take, Nat.min_eq_left hi]
  rw [h, ← h2]; simp
theorem flat_take (hl : ∀ x, (enc x).length = k) (l : List α) (i : Nat) (hi : i ≤ l.length) : flat enc (l.take i) = (flat enc l).take (i * k) := by
  have h := flat_append (enc := enc) (l.take i) (l.drop i)
  rw [List.take_append_drop] at h
  have h2 : (flat enc (l.take i)).length = i * k := by rw [flat_length hl, List.length_take, Nat.min_eq_left hi]
  rw [h, ← h2]; simp
theorem slot_lt {q k r n : Nat} (hq : q < n) (hr : r < k) : q * k + r < n * k :=
  calc q * k + r < q * k + k := by omega
    _ = (q + 1) * k := by rw [Nat.add_mul]; omega
    _ ≤ n * k := Nat.mul_le_mul_right _ hq
theorem slot_ge {q k r n : Nat} (hq : n ≤ q) : n * k ≤ q * k + r := Nat.le_trans (Nat.mul_le_mul_right _ hq) (Nat.le_add_right _ _)
/-- What a list stored from place o on makes of the cells. -/
theorem putC_flat (hl : ∀ x, (enc x).length = k) (cur : Array Value) (o : Nat) (ys : List α) (hfit : o * k + ys.length * k ≤ cur.size) (q r : Nat) (hr : r < k) :
    (putC cur (o * k) (flat enc ys))[q * k + r]? = if h : o ≤ q ∧ q < o + ys.length then (enc (ys[q - o]'(by omega)))[r]? else cur[q * k + r]? := by
  rw [putC_get _ _ _ _ (by rw [flat_length hl]; exact hfit), flat_length hl]
  by_cases h : o ≤ q ∧ q < o + ys.length
  · have h1 : o * k ≤ q * k + r := slot_ge h.1
    have h2 : q * k + r < o * k + ys.length * k := by rw [← Nat.add_mul]; exact slot_lt h.2 hr
    rw [if_pos ⟨h1, h2⟩, dif_pos h, ← flat_get hl ys (q - o) (by omega) r hr]
    congr 1
    rw [Nat.sub_mul]
    have := Nat.mul_le_mul_right k h.1
    omega
  · rw [dif_neg h, if_neg]
    intro ⟨h1, h2⟩
    apply h
    constructor
    · rcases Nat.lt_or_ge q o with h3 | h3
      · have := slot_lt (k := k) (r := r) h3 hr; omega
      · exact h3
    · rcases Nat.lt_or_ge q (o + ys.length) with h3 | h3
      · exact h3
      · have := slot_ge (k := k) (r := r) h3
        rw [Nat.add_mul] at this; omega
end

variable {P : Program}
theorem run_copy_k (w : World) (dT sT ty elem : TypeId) (k b o dLen dCap : Nat) (a : Addr) (sLen sCap n : Nat) (cs : List Value)
    (hu : P.underlying dT = some (.slice elem)) (hs : (P.info? elem).map (·.size) = some k) (hm : Nat.min sLen dLen = n) (hn : cs.length = n * k)
    (hsrc : ∀ j v, cs[j]? = some v → w.cell? (a.add j) = some v) (hc : ∀ j, j < cs.length → (w.cell? ⟨b, o + j, none⟩).isSome = true) (hf : ∀ j, j < cs.length → w.frozen? ⟨b, o + j, none⟩ = false) (h1 : ∀ v ∈ cs, v.oneCell' = true) :
    (Builtin.copy_ #[dT, sT] ty #[.slice (some ⟨b, o, none⟩) dLen dCap, .slice (some a) sLen sCap]).run P w = .ok (goInt n) (w.setCells b o cs) := by
  have hl := run_loadCells_list (P := P) w a cs hsrc
  have hst := run_storeCells_cells (P := P) b o cs 0 w (by simpa using hc) (by simpa using hf) h1
  rw [hn] at hl
  cases hq : P.info? elem with
  | none => simp [hq] at hs
  | some i =>
    have hi : i.size = k := by simpa [hq] using hs
    simp [Builtin.copy_, run_underlying hu, Builtin.lenOf, Builtin.firstCells, sizeOf, typeInfo, hq, hi, hm, hl, hst]
theorem run_clear_k (w : World) (t e ty : TypeId) (z : Value) (ht : P.underlying t = some (.slice e)) (hv : ∀ w, (zeroValue e).run P w = .ok z w) (b o n c : Nat) (zs : List Value) (hz : (Builtin.zeroCells z.cells n).toList = zs) (h1 : ∀ v ∈ zs, v.oneCell' = true) (hn : 0 < n)
    (hc : ∀ j, j < zs.length → (w.cell? ⟨b, o + j, none⟩).isSome = true) (hf : ∀ j, j < zs.length → w.frozen? ⟨b, o + j, none⟩ = false) :
    (Builtin.clear_ #[t] ty #[.slice (some ⟨b, o, none⟩) n c]).run P w = .ok (.tuple #[]) (w.setCells b o zs) := by
  have hst := run_storeCells_cells (P := P) b o zs 0 w (by simpa using hc) (by simpa using hf) h1
  simp only [Nat.add_zero] at hst
  obtain ⟨m, rfl⟩ : ∃ m, n = m + 1 := ⟨n - 1, by omega⟩
  simp [Builtin.clear_, run_underlying ht, hv, hz, hst]
theorem run_clear_none (w : World) (t e ty : TypeId) (a : Option Addr) (c : Nat) (z : Value) (ht : P.underlying t = some (.slice e)) (hv : ∀ w, (zeroValue e).run P w = .ok z w) :
    (Builtin.clear_ #[t] ty #[.slice a 0 c]).run P w = .ok (.tuple #[]) w := by
  cases a <;> simp [Builtin.clear_, run_underlying ht, hv, Builtin.zeroCells, storeCells]
/-- 'copy(d, s)', its run known, in a walk. -/
theorem wp_copy_run {o : Oper} {a : Act} {w : World} {K : Act → World → Prop} {Q : Exit → Act → World → Prop} (d s : Operand) (t t' : TypeId)
    (ho : o.op = .call { callee := .builtin .copy, args := #[d, s], argTypes := #[t, t'] }) (v u : Value) (hd : a.eval d = v) (hs : a.eval s = u) {v' : Value} {w' : World}
    (hr : (Builtin.copy_ #[t, t'] o.type #[v, u]).run P w = .ok v' w') (h : K (a.put o.dst v') w') : o.wp P a w K Q := by
  unfold Oper.wp execOp
  simp only [ho, resolve, invoke, builtin, Sem.run_bind, Sem.run_pure, Result.andThen_ok, List.map_toArray, List.map_cons, List.map_nil, hd, hs, hr]
  exact h
theorem wpList_copy_run {ops : Array Oper} {rest : List Oper} {o : Oper} {a : Act} {w : World} {Q : Exit → Act → World → Prop} (hgd : o.guard = none) (d s : Operand) (t t' : TypeId)
    (ho : o.op = .call { callee := .builtin .copy, args := #[d, s], argTypes := #[t, t'] }) (v u : Value) (hd : a.eval d = v) (hs : a.eval s = u) {v' : Value} {w' : World}
    (hr : (Builtin.copy_ #[t, t'] o.type #[v, u]).run P w = .ok v' w') (h : wpList P ops Q rest (a.put o.dst v') w') : wpList P ops Q (o :: rest) a w :=
  wpList_plain hgd fun _ hK => wp_copy_run d s t t' ho v u hd hs hr (hK _ _ h)
theorem step_copy_run {ops : Array Oper} {o : Oper} {a : Act} {w : World} {K : Act → World → Prop} {Q : Exit → Act → World → Prop} {E : Prop}
    (hg : o.guard = none) (d x : Operand) (dT sT : TypeId) (hop : o.op = Op.call { callee := Callee.builtin Builtin.copy, args := #[d, x], argTypes := #[dT, sT] })
    (v u : Value) (hd : a.eval d = v) (hx : a.eval x = u) {v' : Value} {w' : World} (hr : (Builtin.copy_ #[dT, sT] o.type #[v, u]).run P w = .ok v' w') (hK : K (a.put o.dst v') w') :
    if Region.wanted o (yielded ops a.tmps) = true then Oper.wp P o a w K Q else E := by
  have hw : Region.wanted o (yielded ops a.tmps) = true := by simp [Region.wanted, hg]
  rw [if_pos hw]
  exact wp_copy_run d x dT sT hop v u hd hx hr hK
end Go.Proofs.Ytmioichjhiengaa
