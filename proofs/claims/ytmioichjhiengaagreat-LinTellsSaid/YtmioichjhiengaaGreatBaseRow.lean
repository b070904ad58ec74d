/-
  Texts of one kind, one behind the other.
-/
import Derived.Test.YtmioichjhiengaaGreatBaseA
import Derived.Laws.IdiomCopy
import Derived.Lib.SliceRun
import Derived.Lib.AppendZerosOnto
import Derived.Lib.Overlaps
import Derived.Deep.RegionLaw
set_option linter.unusedSimpArgs false
set_option linter.unusedVariables false
/-
  Rows of elements of k cells: what a row of the call's own holds, place by place; copy, clear at k cells; stores one behind the other.
-/
namespace Go.Proofs.YtmioichjhiengaaGreat
open Go.RowKit

theorem setCells_stores (b : Nat) : ∀ (vs : List Value) (o : Nat) (w : World), w.setCells b o vs = stores w b o vs
  | [], _, _ => rfl
  | v :: r, o, w => setCells_stores b r (o + 1) _

section
variable {α : Type} {enc : α → List Value} {k : Nat}
/-- From the cells, place by place: a row of the call's own. -/
theorem own_of_get {w : World} {base g cap n : Nat} {e : TypeId} {cur : Array Value} {l : List α} (hl : ∀ x, (enc x).length = k) (hk : 0 < k) (hat : At w g cur e) (hs : cur.size = cap * k) (hn : n = l.length) (hnc : n ≤ cap) (hm : cap ≤ maxLen) (hb : base ≤ g)
    (h : ∀ q (hq : q < l.length) r, r < k → cur[q * k + r]? = (enc l[q])[r]?) : w.ownsRow base e k (.slice (some ⟨g, 0, none⟩) n cap) n (flat enc l) := by
  subst hn
  refine ⟨flat_length hl l, .inr ⟨g, cap, cur, rfl, hb, hat, hnc, hm, hs, ?_⟩⟩
  apply List.ext_getElem?
  intro j
  by_cases hj : j < l.length * k
  · have hq : j / k < l.length := Nat.div_lt_of_lt_mul (by rw [Nat.mul_comm]; exact hj)
    have hr : j % k < k := Nat.mod_lt _ hk
    have e1 : j / k * k + j % k = j := by rw [Nat.mul_comm]; exact Nat.div_add_mod j k
    rw [List.getElem?_take_of_lt hj, Array.getElem?_toList]
    have h1 := h (j / k) hq (j % k) hr
    have h2 := flat_get hl l (j / k) hq (j % k) hr
    rw [e1] at h1 h2
    rw [h1, h2]
  · rw [List.getElem?_eq_none (by rw [List.length_take]; omega), List.getElem?_eq_none (by rw [flat_length hl]; omega)]
/-- .. and back. -/
theorem own_get {w : World} {base g cap n : Nat} {e : TypeId} {l : List α} (hl : ∀ x, (enc x).length = k) (hk : 0 < k) (h : w.ownsRow base e k (.slice (some ⟨g, 0, none⟩) n cap) n (flat enc l)) :
    ∃ cur, At w g cur e ∧ cur.size = cap * k ∧ n = l.length ∧ n ≤ cap ∧ cap ≤ maxLen ∧ base ≤ g ∧ ∀ q (hq : q < l.length) r, r < k → cur[q * k + r]? = (enc l[q])[r]? := by
  have hn := own_len hl hk h
  rcases h.2 with ⟨h0, -⟩ | ⟨g', cap', cur, he, hb, hg, hc, hm, hs, ht⟩
  · cases h0
  · obtain ⟨rfl, rfl⟩ : g = g' ∧ cap = cap' := by simpa using he
    refine ⟨cur, hg, hs, hn, hc, hm, hb, fun q hq r hr => ?_⟩
    have h2 := flat_get hl l q hq r hr
    rw [← h2, ← ht, List.getElem?_take_of_lt, Array.getElem?_toList]
    calc q * k + r < q * k + k := by omega
      _ = (q + 1) * k := by rw [Nat.add_mul]; omega
      _ ≤ n * k := Nat.mul_le_mul_right _ (by omega)
theorem flat_one (x : α) : flat enc [x] = enc x := by simp [flat]
theorem flat_drop (hl : ∀ x, (enc x).length = k) (l : List α) (i : Nat) (hi : i ≤ l.length) : flat enc (l.drop i) = (flat enc l).drop (i * k) := by
  have h := flat_append (enc := enc) (l.take i) (l.drop i)
  rw [List.take_append_drop] at h
  have h2 : (flat enc (l.take i)).length = i * k := by rw [flat_length hl, List.length_take, Nat.min_eq_left hi]
  rw [h, ← h2]; simp
theorem flat_take (hl : ∀ x, (enc x).length = k) (l : List α) (i : Nat) (hi : i ≤ l.length) : flat enc (l.take i) = (flat enc l).take (i * k) := by
  have h := flat_append (enc := enc) (l.take i) (l.drop i)
  rw [List.take_append_drop] at h
  have h2 : (flat enc (l.take i)).length = i * k := by rw [flat_length hl, List.length_take, Nat.min_eq_left hi]
  rw [h, ← h2]; simp
theorem slot_lt {q k r n : Nat} (hq : q < n) (hr : r < k) : q * k + r < n * k :=
  calc q * k + r < q * k + k := by omega
    _ = (q + 1) * k := by rw [Nat.add_mul]; omega
    _ ≤ n * k := Nat.mul_le_mul_right _ hq
theorem slot_ge {q k r n : Nat} (hq : n ≤ q) : n * k ≤ q * k + r := Nat.le_trans (Nat.mul_le_mul_right _ hq) (Nat.le_add_right _ _)
/-- What a list stored from place o on makes of the cells. -/
theorem putC_flat (hl : ∀ x, (enc x).length = k) (cur : Array Value) (o : Nat) (ys : List α) (hfit : o * k + ys.length * k ≤ cur.size) (q r : Nat) (hr : r < k) :
    (putC cur (o * k) (flat enc ys))[q * k + r]? = if h : o ≤ q ∧ q < o + ys.length then (enc (ys[q - o]'(by omega)))[r]? else cur[q * k + r]? := by
  rw [putC_get _ _ _ _ (by rw [flat_length hl]; exact hfit), flat_length hl]
  by_cases h : o ≤ q ∧ q < o + ys.length
  · have h1 : o * k ≤ q * k + r := slot_ge h.1
    have h2 : q * k + r < o * k + ys.length * k := by rw [← Nat.add_mul]; exact slot_lt h.2 hr
    rw [if_pos ⟨h1, h2⟩, dif_pos h, ← flat_get hl ys (q - o) (by omega) r hr]
    congr 1
    rw [Nat.sub_mul]
    have := Nat.mul_le_mul_right k h.1
    omega
  · rw [dif_neg h, if_neg]
    intro ⟨h1, h2⟩
    apply h
    constructor
    · rcases Nat.lt_or_ge q o with h3 | h3
      · have := slot_lt (k := k) (r := r) h3 hr; omega
      · exact h3
    · rcases Nat.lt_or_ge q (o + ys.length) with h3 | h3
      · exact h3
      · have := slot_ge (k := k) (r := r) h3
        rw [Nat.add_mul] at this; omega
end

variable {P : Program}
theorem run_copy_k (w : World) (dT sT ty elem : TypeId) (k b o dLen dCap : Nat) (a : Addr) (sLen sCap n : Nat) (cs : List Value)
    (hu : P.underlying dT = some (.slice elem)) (hs : (P.info? elem).map (·.size) = some k) (hm : Nat.min sLen dLen = n) (hn : cs.length = n * k)
    (hsrc : ∀ j v, cs[j]? = some v → w.cell? (a.add j) = some v) (hc : ∀ j, j < cs.length → (w.cell? ⟨b, o + j, none⟩).isSome = true) (hf : ∀ j, j < cs.length → w.frozen? ⟨b, o + j, none⟩ = false) (h1 : ∀ v ∈ cs, v.oneCell' = true) :
    (Builtin.copy_ #[dT, sT] ty #[.slice (some ⟨b, o, none⟩) dLen dCap, .slice (some a) sLen sCap]).run P w = .ok (goInt n) (w.setCells b o cs) := by
  have hl := run_loadCells_list (P := P) w a cs hsrc
  have hst := run_storeCells_cells (P := P) b o cs 0 w (by simpa using hc) (by simpa using hf) h1
  rw [hn] at hl
  cases hq : P.info? elem with
  | none => simp [hq] at hs
  | some i =>
    have hi : i.size = k := by simpa [hq] using hs
    simp [Builtin.copy_, run_underlying hu, Builtin.lenOf, Builtin.firstCells, sizeOf, typeInfo, hq, hi, hm, hl, hst]
theorem run_clear_k (w : World) (t e ty : TypeId) (z : Value) (ht : P.underlying t = some (.slice e)) (hv : ∀ w, (zeroValue e).run P w = .ok z w) (b o n c : Nat) (zs : List Value) (hz : (Builtin.zeroCells z.cells n).toList = zs) (h1 : ∀ v ∈ zs, v.oneCell' = true) (hn : 0 < n)
    (hc : ∀ j, j < zs.length → (w.cell? ⟨b, o + j, none⟩).isSome = true) (hf : ∀ j, j < zs.length → w.frozen? ⟨b, o + j, none⟩ = false) :
    (Builtin.clear_ #[t] ty #[.slice (some ⟨b, o, none⟩) n c]).run P w = .ok (.tuple #[]) (w.setCells b o zs) := by
  have hst := run_storeCells_cells (P := P) b o zs 0 w (by simpa using hc) (by simpa using hf) h1
  simp only [Nat.add_zero] at hst
  obtain ⟨m, rfl⟩ : ∃ m, n = m + 1 := ⟨n - 1, by omega⟩
  simp [Builtin.clear_, run_underlying ht, hv, hz, hst]
theorem run_clear_none (w : World) (t e ty : TypeId) (a : Option Addr) (c : Nat) (z : Value) (ht : P.underlying t = some (.slice e)) (hv : ∀ w, (zeroValue e).run P w = .ok z w) :
    (Builtin.clear_ #[t] ty #[.slice a 0 c]).run P w = .ok (.tuple #[]) w := by
  cases a <;> simp [Builtin.clear_, run_underlying ht, hv, Builtin.zeroCells, storeCells]
/-- 'copy(d, s)', its run known, in a walk. -/
theorem wp_copy_run {o : Oper} {a : Act} {w : World} {K : Act → World → Prop} {Q : Exit → Act → World → Prop} (d s : Operand) (t t' : TypeId)
    (ho : o.op = .call { callee := .builtin .copy, args := #[d, s], argTypes := #[t, t'] }) (v u : Value) (hd : a.eval d = v) (hs : a.eval s = u) {v' : Value} {w' : World}
    (hr : (Builtin.copy_ #[t, t'] o.type #[v, u]).run P w = .ok v' w') (h : K (a.put o.dst v') w') : o.wp P a w K Q := by
  unfold Oper.wp execOp
  simp only [ho, resolve, invoke, builtin, Sem.run_bind, Sem.run_pure, Result.andThen_ok, List.map_toArray, List.map_cons, List.map_nil, hd, hs, hr]
  exact h
theorem wpList_copy_run {ops : Array Oper} {rest : List Oper} {o : Oper} {a : Act} {w : World} {Q : Exit → Act → World → Prop} (hgd : o.guard = none) (d s : Operand) (t t' : TypeId)
    (ho : o.op = .call { callee := .builtin .copy, args := #[d, s], argTypes := #[t, t'] }) (v u : Value) (hd : a.eval d = v) (hs : a.eval s = u) {v' : Value} {w' : World}
    (hr : (Builtin.copy_ #[t, t'] o.type #[v, u]).run P w = .ok v' w') (h : wpList P ops Q rest (a.put o.dst v') w') : wpList P ops Q (o :: rest) a w :=
  wpList_plain hgd fun _ hK => wp_copy_run d s t t' ho v u hd hs hr (hK _ _ h)
theorem step_copy_run {ops : Array Oper} {o : Oper} {a : Act} {w : World} {K : Act → World → Prop} {Q : Exit → Act → World → Prop} {E : Prop}
    (hg : o.guard = none) (d x : Operand) (dT sT : TypeId) (hop : o.op = Op.call { callee := Callee.builtin Builtin.copy, args := #[d, x], argTypes := #[dT, sT] })
    (v u : Value) (hd : a.eval d = v) (hx : a.eval x = u) {v' : Value} {w' : World} (hr : (Builtin.copy_ #[dT, sT] o.type #[v, u]).run P w = .ok v' w') (hK : K (a.put o.dst v') w') :
    if Region.wanted o (yielded ops a.tmps) = true then Oper.wp P o a w K Q else E := by
  have hw : Region.wanted o (yielded ops a.tmps) = true := by simp [Region.wanted, hg]
  rw [if_pos hw]
  exact wp_copy_run d x dT sT hop v u hd hx hr hK
end Go.Proofs.YtmioichjhiengaaGreat

/-
  slices.Clone, Insert on panes.
-/
namespace Go.Proofs.YtmioichjhiengaaGreat
open Go.RowKit

def Pane.zero : Pane := ⟨⟨#[]⟩, ⟨0, 0⟩, ⟨0, 0, 0, 0⟩⟩
theorem row_pane : Row Tryz.prog 34 88 7 := row_of (b := 64) (z := .agg #[.string ⟨#[]⟩, .int .i64 0, .int .i64 0, .int .i64 0, .int .i64 0, .int .i64 0, .int .i64 0]) Tryz.underlying34 (by kernel_rfl) rfl (by decide) (by decide)
theorem size_pane : (Tryz.prog.info? 88).map (·.size) = some 7 := by
  obtain ⟨i, z, hi, -, hs, -⟩ := row_pane.info
  rw [hi, Option.map_some, hs]
/-- A row of panes of the call's own. -/
abbrev PRow (w : World) (base : Nat) (v : Value) (l : List Pane) : Prop := w.ownsRow base 88 7 v l.length (flat Pane.cells l)
theorem pane_cells1 {u : Value} {l : List Pane} (h : u ∈ flat Pane.cells l) : u.oneCell' = true := by
  obtain ⟨x, _, hx⟩ := List.mem_flatMap.1 h
  exact pane_one x u hx

def Cloned (w : World) (xs : List Pane) (e : Ending) (w' : World) : Prop := ∃ v, e = .returned v ∧ PRow w' w.heap.size v xs ∧ Keep none_ w w'
set_option maxRecDepth 100000 in
theorem pane_clone {w : World} {A : Option Addr} {n c : Nat} {xs : List Pane} (h : Sl Pane.cells 7 w A n c xs) (hn : n ≤ 900000) :
    Calls Tryz.prog 58 #[.slice A n c] w (Cloned w xs) := by
  have hlen := h.len
  subst hlen
  have q22 : ∀ (w : World) (a : Option Addr) (n c n' c' : Nat), (binOp .eql 34 (.slice a n c) (.slice none n' c')).run Tryz.prog w = .ok (.bool a.isNone) w := fun w a n c n' c' => Lib.run_eql_slice_nil w _ _ a n c n' c' Tryz.underlying34
  rcases A with _ | a
  · have h0 : xs.length = 0 := by
      rcases Nat.eq_zero_or_pos xs.length with h0 | h0
      · exact h0
      · obtain ⟨b, off, h1, -⟩ := h.at_ h0
        cases h1
    have : xs = [] := List.length_eq_zero_iff.1 h0
    subst this
    clear h hn
    go_enter Tryz.func58, Tryz.ntmps58
    go_wp2_with fail
    go_ret
    exact ⟨_, rfl, ⟨rfl, .inl ⟨rfl, rfl⟩⟩, Keep.refl _ _⟩
  · obtain ⟨hW0, rfl⟩ : ∃ hW0, hW0 = w.heap.size := ⟨_, rfl⟩
    have kk : Keep none_ w (w.alloc (.cells #[] 88)) := (by repeat' (first | assumption | with_reducible exact Keep.refl _ _ | with_reducible refine Keep.alloc ?_ _ | with_reducible refine Keep.drew ?_))
    have hown : (w.alloc (.cells #[] 88)).ownsRow w.heap.size 88 7 (.slice (some ⟨w.heap.size, 0, none⟩) 0 0) 0 (flat Pane.cells []) := own_empty (At.new w #[] 88) (Nat.le_refl _)
    have hsl := h.keep kk Off.none_
    obtain ⟨ab, ao, asp⟩ := a
    go_enter Tryz.func58, Tryz.ntmps58
    go_wp2_with (at_builtin; refine wpList_append_sl _ rfl _ _ _ rfl w.heap.size 88 row_pane pane_len pane_one _ 0 [] rfl hown (some ⟨ab, ao, asp⟩) xs.length c xs rfl hsl (by omega) (by simp) ?_)
    intro v' w' own' hg hb
    have k2 := keep_grown (S := none_) kk hown hg (Nat.le_refl _)
    clear h hsl hown kk hg hb
    go_wp2_with fail
    go_ret
    exact ⟨_, rfl, by simpa using own', k2⟩

/-- A list with one more element at a place. -/
def insL {α : Type} (l : List α) (i : Nat) (x : α) : List α := l.take i ++ x :: l.drop i
theorem insL_len {α : Type} (l : List α) (i : Nat) (x : α) : (insL l i x).length = l.length + 1 := by simp [insL]; omega
theorem insL_get? {α : Type} {l : List α} {i : Nat} {x : α} (hi : i ≤ l.length) (q : Nat) : (insL l i x)[q]? = if q < i then l[q]? else if q = i then some x else l[q - 1]? := by
  unfold insL
  have hl : (l.take i).length = i := by rw [List.length_take]; omega
  by_cases h : q < i
  · rw [if_pos h, List.getElem?_append_left (by omega), List.getElem?_take_of_lt h]
  · rw [if_neg h, List.getElem?_append_right (by omega), hl]
    by_cases h2 : q = i
    · subst h2
      rw [if_pos rfl, Nat.sub_self, List.getElem?_cons_zero]
    · rw [if_neg h2]
      obtain ⟨d, rfl⟩ : ∃ d, q = i + 1 + d := ⟨q - i - 1, by omega⟩
      rw [show i + 1 + d - i = d + 1 by omega, List.getElem?_cons_succ, List.getElem?_drop, show i + 1 + d - 1 = i + d by omega]

section
variable {α : Type} {enc : α → List Value} {k : Nat}
theorem ins_cells (hl : ∀ x, (enc x).length = k) {cur : Array Value} {cap : Nat} {l : List α} {i : Nat} {x : α} (hi : i ≤ l.length) (hget : ∀ q (hq : q < l.length) r, q < i → r < k → cur[q * k + r]? = (enc l[q])[r]?) (hsz : cur.size = cap * k) (hroom : l.length + 1 ≤ cap) :
    ∀ q (hq : q < (insL l i x).length) r, r < k → (putC (putC cur ((i + 1) * k) (flat enc (l.drop i))) (i * k) (enc x))[q * k + r]? = (enc (insL l i x)[q])[r]? := by
  intro q hq r hr
  have e := insL_get? (x := x) hi q
  rw [List.getElem?_eq_getElem hq] at e
  rw [insL_len] at hq
  have h2 : (i + 1) * k + (l.length - i) * k ≤ cap * k := by rw [← Nat.add_mul]; exact Nat.mul_le_mul_right _ (by omega)
  have h3 : i * k + 1 * k ≤ cap * k := by rw [← Nat.add_mul]; exact Nat.mul_le_mul_right _ (by omega)
  rw [← flat_one (enc := enc) x, putC_flat hl _ i [x] (by rw [putC_size, hsz]; exact h3) q r hr]
  by_cases h : i ≤ q ∧ q < i + [x].length
  · rw [dif_pos h]
    have hqi : q = i := by simp at h; omega
    subst hqi
    rw [if_neg (by omega), if_pos rfl] at e
    rw [Option.some.inj e]
    simp
  · rw [dif_neg h]
    have hne : q ≠ i := fun e => h (by subst e; simp)
    rw [putC_flat hl cur (i + 1) (l.drop i) (by rw [hsz, List.length_drop]; exact h2) q r hr]
    by_cases h4 : i + 1 ≤ q ∧ q < i + 1 + (l.drop i).length
    · rw [dif_pos h4]
      rw [if_neg (by omega), if_neg hne, List.getElem?_eq_getElem (by omega)] at e
      rw [Option.some.inj e]
      simp only [List.getElem_drop, show i + (q - (i + 1)) = q - 1 by omega]
    · rw [dif_neg h4]
      rw [List.length_drop] at h4
      have hqi : q < i := by omega
      rw [if_pos hqi, List.getElem?_eq_getElem (by omega)] at e
      rw [Option.some.inj e]
      exact hget q (by omega) r hqi hr
end

def Inserted (w : World) (S : Nat → Prop) (base : Nat) (l : List Pane) (e : Ending) (w' : World) : Prop := ∃ v, e = .returned v ∧ PRow w' base v l ∧ Keep S w w'
def own_of (v : Value) : Nat → Prop := fun b => v.ownBlock = some b
theorem overlaps_no (w : World) {vb g : Nat} {ca cb : Array Value} (hA : At w vb ca 88) (hB : At w g cb 88) (hne : vb ≠ g) (h0 : 0 < cb.size) (m vc o lb cc : Nat) :
    (callFunc 133 #[.slice (some ⟨vb, 0, none⟩) m vc, .slice (some ⟨g, o, none⟩) lb cc]).run Tryz.prog w = .ok (.value (.bool false)) w := by
  rw [run_callFunc_extern Tryz.func133 (by kernel_rfl) (by kernel_rfl) (by kernel_rfl) (e := Extern.SlicesOverlaps.overlaps #[34, 34] #[4]) (by kernel_rfl),
    Lib.run_overlaps_apart w 34 4 88 Tryz.underlying34 7 Tryz.sizeOf88 ⟨vb, 0, none⟩ ⟨g, o, none⟩ m vc lb cc hne 88 88 ca.size cb.size
      (by unfold At at hA; simp [World.shape?, hA]) (by unfold At at hB; simp [World.shape?, hB]) (by omega) (hA.frozen 0) (hA.frozen _)]
  rfl

set_option maxHeartbeats 4000000 in
set_option maxRecDepth 100000 in
/-- There is room: in place. -/
theorem insert_in {w : World} {base g n cap : Nat} {xs : List Pane} (own : w.ownsRow base 88 7 (.slice (some ⟨g, 0, none⟩) n cap) n (flat Pane.cells xs)) (i : Nat) (hi : i < n) (hroom : n + 1 ≤ cap) {vb : Nat} (p : Pane) (hv : At w vb p.cells.toArray 88) (hne : vb ≠ g) :
    Calls Tryz.prog 113 #[.slice (some ⟨g, 0, none⟩) n cap, .int .i64 i, .slice (some ⟨vb, 0, none⟩) 1 1] w (Inserted w (one g) base (insL xs i p)) := by
  obtain ⟨cur, hat, hsz, hnx, hnc, hmc, hb, hget⟩ := own_get pane_len (by decide) own
  have hc63 : cap ≤ 9223372036854775807 := by unfold maxLen at hmc; omega
  have hov := fun lb cc => overlaps_no w hv hat hne (by omega) 1 1 ((i + 1) * 7) lb cc
  have hz2 : ¬ ((i : Int) = (n : Int)) := by omega
  have hw1 : IntKind.i64.wrap ((i : Int) + 1) = ((i + 1 : Nat) : Int) := by rw [IntKind.wrap_i64]; omega
  -- the first copy: what stood from i on
  obtain ⟨cs, hcs⟩ : ∃ cs, cs = flat Pane.cells (xs.drop i) := ⟨_, rfl⟩
  have hcl : cs.length = (n - i) * 7 := by rw [hcs, flat_length pane_len, List.length_drop, hnx]
  have hcp1 : ∀ ty dl dc sl sc, Nat.min sl dl = n - i → (Builtin.copy_ #[34, 34] ty #[.slice (some ⟨g, (i + 1) * 7, none⟩) dl dc, .slice (some ⟨g, i * 7, none⟩) sl sc]).run Tryz.prog w.drew = .ok (goInt ((n - i : Nat))) (w.drew.setCells g ((i + 1) * 7) cs) := fun ty dl dc sl sc hm =>
    run_copy_k w.drew _ _ ty 88 7 g ((i + 1) * 7) dl dc ⟨g, i * 7, none⟩ sl sc (n - i) cs Tryz.underlying34 size_pane hm hcl
      (fun j v hj => by
        rw [Addr.add_lit]
        have h1 : j < (n - i) * 7 := by rw [← hcl]; exact (List.getElem?_eq_some_iff.1 hj).1
        rw [hcs, flat_drop pane_len xs i (by omega), List.getElem?_drop] at hj
        have h9 := At.cell hat (i * 7 + j)
        rw [← hj]
        refine Eq.trans h9 ?_
        have hj2 : i * 7 + j < n * 7 := by omega
        have h3 : (i * 7 + j) / 7 < xs.length := by omega
        have h4 := hget ((i * 7 + j) / 7) h3 ((i * 7 + j) % 7) (Nat.mod_lt _ (by decide))
        have h5 := flat_get pane_len xs ((i * 7 + j) / 7) h3 ((i * 7 + j) % 7) (Nat.mod_lt _ (by decide))
        rw [show (i * 7 + j) / 7 * 7 + (i * 7 + j) % 7 = i * 7 + j by omega] at h4 h5
        rw [h4, h5])
      (fun j hj => by
        rw [World.cell?_drew, At.cell hat, Array.getElem?_eq_getElem (by rw [hsz]; rw [hcl] at hj; omega)]; rfl)
      (fun j hj => At.frozen hat _) (fun v hv => by rw [hcs] at hv; exact pane_cells1 hv)
  obtain ⟨W1, hW1⟩ : ∃ W1, W1 = w.drew.setCells g ((i + 1) * 7) cs := ⟨_, rfl⟩
  have hat1 : At W1 g (putC cur ((i + 1) * 7) cs) 88 := by
    rw [hW1, setCells_stores]
    exact At.setL (w := w.drew) cs hat
  have hv1 : At W1 vb p.cells.toArray 88 := by
    rw [hW1, setCells_stores]
    exact At.setL_other (fun e => hne e.symm) cs (w := w.drew) hv
  have hk1 : Keep (one g) w W1 := by
    rw [hW1, setCells_stores]
    exact Keep.setL (S := one g) (fun _ => rfl) cs (Keep.refl _ _).drew
  have hcp2 : ∀ (W : World), (∀ x, W.cell? x = W1.cell? x) → (∀ x, W.frozen? x = W1.frozen? x) → ∀ ty dl dc, Nat.min 1 dl = 1 → (Builtin.copy_ #[34, 34] ty #[.slice (some ⟨g, i * 7, none⟩) dl dc, .slice (some ⟨vb, 0, none⟩) 1 1]).run Tryz.prog W = .ok (goInt (1 : Nat)) (W.setCells g (i * 7) p.cells) := fun W hWc hWf ty dl dc hm =>
    run_copy_k W _ _ ty 88 7 g (i * 7) dl dc ⟨vb, 0, none⟩ 1 1 1 p.cells Tryz.underlying34 size_pane hm (by rw [pane_len])
      (fun j v hj => by rw [Addr.add_lit, hWc, At.cell hv1, Nat.zero_add, List.getElem?_toArray, hj])
      (fun j hj => by rw [hWc, At.cell hat1, Array.getElem?_eq_getElem (by rw [putC_size, hsz]; rw [pane_len] at hj; omega)]; rfl)
      (fun j hj => by rw [hWf]; exact At.frozen hat1 _) (pane_one p)
  have hfin : Hid (Inserted w (one g) base (insL xs i p) (.returned (.slice (some ⟨g, 0, none⟩) (n + 1) cap)) (W1.setCells g (i * 7) p.cells)) := by
    refine ⟨_, rfl, ?_, ?_⟩
    · rw [setCells_stores]
      have ha := At.setL (w := W1) p.cells (o := i * 7) hat1
      have := own_of_get pane_len (by decide) ha (by rw [putC_size, putC_size, hsz]) (n := n + 1) (l := insL xs i p) (by rw [insL_len, hnx]) hroom hmc hb
        (by rw [hcs]; exact ins_cells pane_len (by omega) (fun q hq r _ hr => hget q hq r hr) hsz (by omega))
      show World.ownsRow _ _ _ _ _ (insL xs i p).length _
      rw [insL_len, ← hnx]
      exact this
    · rw [setCells_stores]
      exact Keep.setL (S := one g) (fun _ => rfl) p.cells hk1
  rw [← hW1] at hcp1
  have hi0 := Int.natCast_nonneg i
  have hb2 : ¬ (cap = i + 1) := by omega
  have hb4 : ¬ (cap = i) := by omega
  have hin : i ≤ n := by omega
  have hin1 : i ≤ n + 1 := by omega
  have hicap : i ≤ cap := by omega
  have hb5 : (i : Int) ≤ (n : Int) + 1 := by omega
  have hb6 : (0 : Int) ≤ (i : Int) + 1 := by omega
  subst hnx
  have hm2 : Nat.min 1 (xs.length + 1 - i) = 1 := by simp only [Nat.min_def]; split <;> omega
  have hm1 : Nat.min (xs.length + 1 - i) (xs.length - i) = xs.length - i := by simp only [Nat.min_def]; split <;> omega
  clear own hat hget hcs hcl hat1 hv1 hk1 hv hW1 hsz
  go_enter Tryz.func113, Tryz.ntmps113
  go_wp2_with (simp only [hov])
  go_region_law (refine step_copy_run rfl (.tmp 73) (.tmp 76) 34 34 rfl (.slice (some ⟨g, (i + 1) * 7, none⟩) (xs.length - i) (cap - (i + 1))) (.slice (some ⟨g, i * 7, none⟩) (xs.length + 1 - i) (cap - i)) (by simp [Act.eval, Act.put]) (by simp [Act.eval, Act.put]) (hcp1 _ _ _ _ _ hm1) ?_)
  go_wp2_with (at_builtin; refine wpList_copy_run rfl (.tmp 80) (.tmp 81) 34 34 rfl _ _ rfl rfl (hcp2 _ (fun _ => rfl) (fun _ => rfl) _ _ _ hm2) ?_)
  go_ret
  exact hfin.out
end Go.Proofs.YtmioichjhiengaaGreat
