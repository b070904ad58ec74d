/-
  Texts of one kind, one behind the other.
-/
import Derived.Test.YtmioichjhiengaaGreatBaseLin
import Derived.Test.YtmioichjhiengaaGreatRefCheck
set_option linter.unusedSimpArgs false
set_option linter.unusedVariables false
/-
  A history that the model made, call by call (plain).
-/
namespace Go.Proofs.YtmioichjhiengaaGreat
open Go.RowKit

/-- The model behind some calls. -/
noncomputable def stF (c : Config) : List Call → MS → MS
  | [], s => s
  | x :: l, s => stF c l ((doF c x s).next s)
theorem stF_snoc (c : Config) (x : Call) : ∀ (l : List Call) (s : MS), stF c (l ++ [x]) s = (doF c x (stF c l s)).next (stF c l s)
  | [], _ => rfl
  | _ :: l, _ => stF_snoc c x l _
theorem stF_take {c : Config} {l : List Call} {s : MS} {i : Nat} (hi : i < l.length) : stF c (l.take (i + 1)) s = (doF c l[i] (stF c (l.take i) s)).next (stF c (l.take i) s) := by
  rw [List.take_succ_eq_append_getElem hi, stF_snoc]
theorem do_code {c : Config} {x : Call} {s : MS} {o : DoOut} (h : DoIs c x s o) : 0 ≤ o.code ∧ o.code ≤ 6 ∧ o.code ≠ 2 := by
  rcases h with ⟨-, e, -⟩ | ⟨-, -, e, -⟩ | ⟨-, -, -, -, e, -⟩ | ⟨-, -, -, -, -, M1, -, -, h⟩ | ⟨-, -, -, -, e, -⟩ | ⟨-, -, -, -, e, -⟩
  · rw [e]; decide
  · rw [e]; decide
  · rw [e]; decide
  · rcases h with ⟨-, -, h⟩ | ⟨-, e, -⟩
    · rcases h with ⟨-, e, -⟩ | ⟨l, -, e, -⟩
      · rw [e]; decide
      · rw [e]
        unfold codeG
        split <;> decide
    · rw [e]; decide
  · rw [e]; decide
  · rw [e]; decide
/-- What an event of such a history is, but for what it tells. -/
structure Shape (l : List EventP) (i : Nat) (e : EventP) : Prop where
  client : 0 ≤ e.ev.client ∧ e.ev.client ≤ 2
  n : e.ev.n = cntC ((l.take i).map EventP.ev) e.ev.client
  begin_ : e.ev.begin_ = 3 * i + 1
  point : e.ev.point = 3 * i + 2
  end_ : e.ev.end_ = 3 * i + 3
def Shapes (l : List EventP) : Prop := ∀ i (h : i < l.length), Shape l i l[i]
structure Told (c : Config) (x : Call) (s : MS) (e : EventP) : Prop where
  call : e.ev.call = x
  code : e.ev.code = (doF c x s).code
  ps : e.ps = (doF c x s).R
  is : DoIs c x s (doF c x s)
def Tells (c : Config) (calls : List Call) (l : List EventP) : Prop := ∀ i (h : i < l.length), ∃ hc : i < calls.length, Told c calls[i] (stF c (calls.take i) MS.zero) l[i]
theorem Shapes.snoc {l : List EventP} (h : Shapes l) {e : EventP} (he : Shape l l.length e) : Shapes (l ++ [e]) := by
  intro i hi
  rw [List.length_append, List.length_singleton] at hi
  by_cases e9 : i = l.length
  · subst e9
    rw [List.getElem_append_right (Nat.le_refl _)]
    simp only [Nat.sub_self, List.getElem_cons_zero]
    obtain ⟨h1, h2, h3, h4, h5⟩ := he
    refine ⟨h1, ?_, h3, h4, h5⟩
    rw [List.take_append_of_le_length (Nat.le_refl _)]
    exact h2
  · have hl : i < l.length := by omega
    rw [List.getElem_append_left hl]
    obtain ⟨h1, h2, h3, h4, h5⟩ := h i hl
    refine ⟨h1, ?_, h3, h4, h5⟩
    rw [List.take_append_of_le_length (by omega)]
    exact h2
theorem Tells.snoc {c : Config} {calls : List Call} {l : List EventP} (h : Tells c calls l) {e : EventP} (hc : l.length < calls.length) (he : Told c calls[l.length] (stF c (calls.take l.length) MS.zero) e) : Tells c calls (l ++ [e]) := by
  intro i hi
  rw [List.length_append, List.length_singleton] at hi
  by_cases e9 : i = l.length
  · subst e9
    rw [List.getElem_append_right (Nat.le_refl _)]
    simp only [Nat.sub_self, List.getElem_cons_zero]
    exact ⟨hc, he⟩
  · have hl : i < l.length := by omega
    rw [List.getElem_append_left hl]
    exact h i hl
theorem cntC_app (a b : List Event) (c : Int) : cntC (a ++ b) c = cntC a c + cntC b c := by unfold cntC; rw [List.filter_append, List.length_append]
theorem cntC_no {a : List Event} {c : Int} (h : ∀ k ∈ a, k.client ≠ c) : cntC a c = 0 := by
  unfold cntC
  rw [List.filter_eq_nil_iff.2 (fun k hk => by simpa using h k hk)]
  rfl
theorem shapes_mem {l : List EventP} (h : Shapes l) {i : Nat} {k : Event} (hk : k ∈ (l.take i).map EventP.ev) : ∃ j, j < i ∧ k.point = 3 * j + 2 ∧ k.end_ = 3 * j + 3 ∧ 0 ≤ k.client ∧ k.client ≤ 2 := by
  obtain ⟨y, hy, rfl⟩ := List.mem_map.1 hk
  obtain ⟨j, hj, rfl⟩ := List.getElem_of_mem hy
  rw [List.length_take] at hj
  rw [List.getElem_take]
  have h1 := h j (by omega)
  exact ⟨j, by omega, h1.point, h1.end_, h1.client.1, h1.client.2⟩
theorem fine_own {p : List Event} (hp : FineE p) (hpp : ∀ k ∈ p, k.point = 1 ∧ k.client = 4) {l : List EventP} (h : Shapes l) : ∀ i, i ≤ l.length → FineE (p ++ (l.take i).map EventP.ev)
  | 0, _ => by simpa using hp
  | i + 1, hi => by
    have ih := fine_own hp hpp h i (by omega)
    have hs := h i (by omega)
    rw [List.take_succ_eq_append_getElem (by omega), List.map_append, ← List.append_assoc]
    refine .snoc _ _ ih ⟨⟨hs.client.1, by rw [hs.n]; omega, by rw [hs.begin_]; omega, by rw [hs.point]; omega, by rw [hs.end_]; omega⟩, ?_, ?_, fun k hk => ?_, fun k hk hc => ?_, ?_⟩
    · rw [hs.point, hs.begin_]; omega
    · rw [hs.point, hs.end_]; omega
    · rw [hs.point]
      rcases List.mem_append.1 hk with hk | hk
      · rw [(hpp k hk).1]; omega
      · obtain ⟨j, hj, e, -⟩ := shapes_mem h hk
        rw [e]; omega
    · rcases List.mem_append.1 hk with hk | hk
      · have := (hpp k hk).2
        have := hs.client
        omega
      · obtain ⟨j, hj, -, e, -⟩ := shapes_mem h hk
        rw [hs.begin_, e]; omega
    · rw [cntC_app, cntC_no (fun k hk e => by have := (hpp k hk).2; have := hs.client; omega), hs.n, Nat.zero_add]
/-- Points that rise are in order. -/
theorem order_rise {l : List EventP} (h : ∀ i j (hi : i < l.length) (hj : j < l.length), i < j → l[i].ev.point < l[j].ev.point) (hz : ∀ x ∈ l, x.ev.point ≠ 0) : OrdOf l ((List.range l.length).map (fun i : Nat => (i : Int))) := by
  have hpt : ∀ i (hi : i < l.length), ptOf (l.map EventP.ev) (i : Int) = l[i].ev.point := fun i hi => by
    unfold ptOf
    simp [hi]
  refine ⟨?_, ?_⟩
  · unfold idxs
    rw [List.length_map, List.filter_eq_self.2 (fun i hi => by
      have := List.mem_range.1 hi
      rw [hpt i this]
      simpa using hz _ (List.getElem_mem this))]
  · unfold SortedC
    refine List.pairwise_map.2 (List.Pairwise.imp_of_mem ?_ List.pairwise_lt_range)
    intro i j hi hj hij
    have h1 := List.mem_range.1 hi
    have h2 := List.mem_range.1 hj
    left
    rw [ltC_cfE, hpt i h1, hpt j h2]
    simpa using h i j h1 h2 hij
theorem byPoint_range (l : List EventP) : byPoint l ((List.range l.length).map (fun i : Nat => (i : Int))) = l := by
  apply List.ext_getElem
  · rw [byPoint_len]; simp
  · intro i h1 h2
    rw [byPoint_get (j := i) (by simpa using h2) (by simp) h2]
theorem order_is {l : List EventP} (h : ∀ i j (hi : i < l.length) (hj : j < l.length), i < j → l[i].ev.point < l[j].ev.point) (hz : ∀ x ∈ l, x.ev.point ≠ 0) {S : List Int} (hS : OrdOf l S) : byPoint l S = l := by
  rw [hS.uniq (order_rise h hz)]
  exact byPoint_range l
theorem Shapes.rise {l : List EventP} (h : Shapes l) : ∀ i j (hi : i < l.length) (hj : j < l.length), i < j → l[i].ev.point < l[j].ev.point := fun i j hi hj hij => by
  rw [(h i hi).point, (h j hj).point]; omega
theorem Shapes.nz {l : List EventP} (h : Shapes l) : ∀ x ∈ l, x.ev.point ≠ 0 := fun x hx => by
  obtain ⟨i, hi, rfl⟩ := List.getElem_of_mem hx
  rw [(h i hi).point]; omega
theorem run_own {c : Config} {calls : List Call} {l : List EventP} (h : Tells c calls l) : ∀ i, i ≤ l.length → runF c (l.take i) MS.zero = some (stF c (calls.take i) MS.zero)
  | 0, _ => rfl
  | i + 1, hi => by
    obtain ⟨hc, ht⟩ := h i (by omega)
    rw [runF_take (by omega) (run_own h i (by omega)), stF_take hc]
    have hcd := do_code ht.is
    unfold stepF
    have hsk : skipE c l[i] = false := by
      unfold skipE
      have : (l[i].ev.code == 2) = false := by rw [ht.code]; simpa using hcd.2.2
      rw [this]; rfl
    rw [hsk, if_neg (by decide), ht.call, ht.code, ht.ps, panesB_self]
    simp
theorem run_own_all {c : Config} {calls : List Call} {l : List EventP} (h : Tells c calls l) : runF c l MS.zero = some (stF c (calls.take l.length) MS.zero) := by
  have := run_own h l.length (Nat.le_refl _)
  rwa [List.take_length] at this
/-- One code is turned. -/
def turnE (e : EventP) : EventP := { e with ev := { e.ev with code := e.ev.code + 7 } }
theorem Shapes.turn {l : List EventP} (h : Shapes l) {k : Nat} (hk : k < l.length) : Shapes (l.set k (turnE l[k])) := by
  have hcl : ∀ i, ((l.set k (turnE l[k])).take i).map (fun e => e.ev.client) = (l.take i).map (fun e => e.ev.client) := fun i => by
    have e1 : (l.set k (turnE l[k])).map (fun e => e.ev.client) = l.map (fun e => e.ev.client) := by
      rw [List.map_set]
      have e2 : (turnE l[k]).ev.client = (l.map (fun e => e.ev.client))[k]'(by simpa using hk) := by simp [turnE]
      rw [e2]
      exact List.set_getElem_self _
    rw [List.map_take, List.map_take, e1]
  have hcnt : ∀ (m : List EventP) (c : Int), cntC (m.map EventP.ev) c = ((m.map (fun e => e.ev.client)).filter (fun x => x == c)).length := fun m c => by
    unfold cntC
    rw [List.filter_map, List.filter_map, List.length_map, List.length_map]
    rfl
  intro i hi
  have hi' : i < l.length := by simpa using hi
  have hs := h i hi'
  have hx : (l.set k (turnE l[k]))[i].ev.client = l[i].ev.client ∧ (l.set k (turnE l[k]))[i].ev.n = l[i].ev.n ∧ (l.set k (turnE l[k]))[i].ev.begin_ = l[i].ev.begin_ ∧ (l.set k (turnE l[k]))[i].ev.point = l[i].ev.point ∧ (l.set k (turnE l[k]))[i].ev.end_ = l[i].ev.end_ := by
    by_cases e : k = i
    · subst e
      rw [List.getElem_set_self]
      exact ⟨rfl, rfl, rfl, rfl, rfl⟩
    · rw [List.getElem_set_ne e]
      exact ⟨rfl, rfl, rfl, rfl, rfl⟩
  obtain ⟨x1, x2, x3, x4, x5⟩ := hx
  refine ⟨by rw [x1]; exact hs.client, ?_, by rw [x3]; exact hs.begin_, by rw [x4]; exact hs.point, by rw [x5]; exact hs.end_⟩
  rw [x2, x1, hcnt, hcl, ← hcnt]
  exact hs.n
theorem run_turned {c : Config} {calls : List Call} {l : List EventP} (h : Tells c calls l) {k : Nat} (hk : k < l.length) : runF c (l.set k (turnE l[k])) MS.zero = none := by
  have hl : k < (l.set k (turnE l[k])).length := by simpa using hk
  obtain ⟨hc, ht⟩ := h k hk
  have hcd := do_code ht.is
  refine runF_none (i := k + 1) ?_
  have h1 : (l.set k (turnE l[k])).take k = l.take k := by
    rw [List.take_set]
    exact List.set_eq_of_length_le (by rw [List.length_take]; omega)
  rw [runF_take hl (by rw [h1]; exact run_own h k (by omega)), List.getElem_set_self]
  have hcode : (turnE l[k]).ev.code = (doF c calls[k] (stF c (calls.take k) MS.zero)).code + 7 := by rw [← ht.code]; rfl
  have hcall : (turnE l[k]).ev.call = calls[k] := ht.call
  unfold stepF
  have hsk : skipE c (turnE l[k]) = false := by
    unfold skipE
    have : ((turnE l[k]).ev.code == 2) = false := by rw [hcode]; simp; omega
    rw [this]; rfl
  rw [hsk, if_neg (by decide), hcall, hcode]
  have : ((doF c calls[k] (stF c (calls.take k) MS.zero)).code == (doF c calls[k] (stF c (calls.take k) MS.zero)).code + 7) = false := by simp; omega
  rw [this]
  simp
/-- The event of a TryIngest that found no room. -/
def evFull : EventP := ⟨⟨4, 0, ⟨2, ⟨#[102]⟩, 1, 0, 0, 0, 0⟩, 2, .slice none 0 0, 1, 1, 1⟩, []⟩
theorem full_skip {c : Config} (h : c.mayB = true) : skipE c evFull = true := by
  have : (Call.mk 2 ⟨#[102]⟩ 1 0 0 0 0).mayB c = true := by
    unfold Call.mayB
    rw [h]
    rfl
  unfold skipE evFull
  simp only [this]
  rfl
theorem full_fine {l : List EventP} (h : Shapes l) : FineE ((evFull :: l).map EventP.ev) := by
  have h1 : FineE [evFull.ev] := .snoc [] _ .nil (by
    refine ⟨by simp [evFull], by simp [evFull], by simp [evFull], fun k hk => ?_, fun k hk => ?_, by simp [cntC, evFull]⟩
    · cases hk
    · cases hk)
  have := fine_own h1 (fun k hk => by
    obtain rfl : k = evFull.ev := by simpa using hk
    exact ⟨rfl, rfl⟩) h l.length (Nat.le_refl _)
  rw [List.take_length] at this
  exact this
theorem own_fine {l : List EventP} (h : Shapes l) : FineE (l.map EventP.ev) := by
  have := fine_own .nil (fun k hk => by cases hk) h l.length (Nat.le_refl _)
  rw [List.take_length] at this
  exact this
theorem full_order {l : List EventP} (h : Shapes l) {S : List Int} (hS : OrdOf (evFull :: l) S) : byPoint (evFull :: l) S = evFull :: l := by
  refine order_is (fun i j hi hj hij => ?_) (fun x hx => ?_) hS
  · match i, j with
    | 0, 0 => omega
    | 0, j + 1 =>
      simp only [List.getElem_cons_zero, List.getElem_cons_succ]
      rw [(h j (by simpa using hj)).point]
      show (1 : Int) < _
      omega
    | i + 1, 0 => omega
    | i + 1, j + 1 =>
      simp only [List.getElem_cons_succ]
      exact h.rise i j (by simpa using hi) (by simpa using hj) (by omega)
  · rcases List.mem_cons.1 hx with rfl | hx
    · decide
    · exact h.nz x hx
theorem full_run {c : Config} {calls : List Call} {l : List EventP} (hm : c.mayB = true) (h : Tells c calls l) : runF c (evFull :: l) MS.zero = some (stF c (calls.take l.length) MS.zero) := by
  show (match stepF c evFull MS.zero with | some s' => runF c l s' | none => none) = _
  have : stepF c evFull MS.zero = some MS.zero := by
    unfold stepF
    rw [full_skip hm, if_pos rfl]
  rw [this]
  exact run_own_all h
end Go.Proofs.YtmioichjhiengaaGreat

/-
  LinOwn: the reference's model, the history that it makes, whose turn it is (plain).
-/
namespace Go.Proofs.YtmioichjhiengaaGreat
open Go.RowKit

/-- A slice's value, whatever stands there. -/
def normP : Value → Value
  | .slice A n d => .slice A n d
  | _ => .slice none 0 0
def encE (x : EventP) : List Value := [.int .i64 x.ev.client, .int .i64 x.ev.n, .int .i64 x.ev.call.op, .string x.ev.call.key, .int .i64 x.ev.call.time, .int .i64 x.ev.call.value, .int .i64 x.ev.call.fin, .int .i64 x.ev.call.group, .int .i64 x.ev.call.shard, .int .i64 x.ev.code, normP x.ev.panes, .int .i64 x.ev.begin_, .int .i64 x.ev.point, .int .i64 x.ev.end_]
theorem encE_len (e : EventP) : (encE e).length = 14 := rfl
theorem encE_one (x : EventP) : ∀ u ∈ encE x, u.oneCell' = true := by
  intro u hu
  unfold encE at hu
  simp only [List.mem_cons, List.not_mem_nil, or_false] at hu
  have hn : (normP x.ev.panes).oneCell' = true := by unfold normP; split <;> rfl
  rcases hu with rfl | rfl | rfl | rfl | rfl | rfl | rfl | rfl | rfl | rfl | rfl | rfl | rfl | rfl <;> first | rfl | exact hn
theorem encE_eq {x : EventP} {B : Option Addr} {m q : Nat} (h : x.ev.panes = .slice B m q) : encE x = x.ev.cells := by
  unfold encE Event.cells
  rw [h]
  rfl
theorem flatE_eq : ∀ {l : List EventP}, (∀ x ∈ l, ∃ B m q, x.ev.panes = .slice B m q) → flat encE l = flat (fun e : EventP => e.ev.cells) l
  | [], _ => rfl
  | x :: l, h => by
    obtain ⟨B, m, q, e⟩ := h x List.mem_cons_self
    show encE x ++ flat encE l = x.ev.cells ++ flat _ l
    rw [encE_eq e, flatE_eq (fun y hy => h y (List.mem_cons_of_mem _ hy))]
theorem Sl.keepN {α : Type} {enc : α → List Value} {k : Nat} {S : Nat → Prop} {w w' : World} {A : Option Addr} {n c : Nat} {xs : List α} (h : Sl enc k w A n c xs) (kk : Keep S w w') (hs : 0 < n → Off S A) : Sl enc k w' A n c xs := by
  rcases Nat.eq_zero_or_pos n with h0 | h0
  · subst h0
    exact ⟨h.1, h.2.1, h.2.2.1, fun h => absurd h (Nat.lt_irrefl _)⟩
  · exact h.keep kk (hs h0)
/-- Whose turn it is, how often. -/
def nxC (l : List EventP) : Array Value := #[.int .i64 (cntC (l.map EventP.ev) 0 : Nat), .int .i64 (cntC (l.map EventP.ev) 1 : Nat), .int .i64 (cntC (l.map EventP.ev) 2 : Nat)]
theorem nxC_get (l : List EventP) {i : Nat} (h : i ≤ 2) : (nxC l)[i]? = some (.int .i64 (cntC (l.map EventP.ev) (i : Int) : Nat)) := by
  match i, h with
  | 0, _ => rfl
  | 1, _ => rfl
  | 2, _ => rfl
theorem nxC_set (l : List EventP) {e : EventP} {i : Nat} (h : i ≤ 2) (he : e.ev.client = (i : Int)) : (nxC l).setIfInBounds i (.int .i64 ((cntC (l.map EventP.ev) (i : Int) : Nat) + 1 : Int)) = nxC (l ++ [e]) := by
  have hs : ∀ j : Int, cntC ((l ++ [e]).map EventP.ev) j = if (i : Int) = j then cntC (l.map EventP.ev) j + 1 else cntC (l.map EventP.ev) j := fun j => by
    rw [List.map_append]
    show cntC (l.map EventP.ev ++ [e.ev]) j = _
    rw [cntC_snoc, he]
  unfold nxC
  rw [hs, hs, hs]
  match i, h with
  | 0, _ => simp
  | 1, _ => simp
  | 2, _ => simp
structure OwnG (W wr : World) (b rm p kr nb base : Nat) (c : Config) (calls : List Call) (A : Option Addr) (d : Nat) (L : List Pane) (ov lv : Value) (l ln : List EventP) : Prop where
  ref : RefSt W wr b rm p kr c A d L ov (stF c (calls.take kr) MS.zero)
  row : wr.ownsRow base 75 14 lv l.length (flat encE l)
  shp : Shapes l
  tls : Tells c calls l
  each : ∀ x ∈ l, x.ev.ok ∧ ∃ B m q, x.ev.panes = .slice B m q ∧ Sl Pane.cells 7 wr B m q x.ps ∧ (0 < m → ∀ a, B = some a → ¬ rmF rm p ov a.block ∧ lv.ownBlock ≠ some a.block ∧ a.block ≠ nb)
  nx : At wr nb (nxC ln) 3
  nbo : ¬ rmF rm p ov nb ∧ lv.ownBlock ≠ some nb
  lvo : ∀ g, lv.ownBlock = some g → ¬ rmF rm p ov g
  oA : ∀ a, A = some a → lv.ownBlock ≠ some a.block ∧ a.block ≠ nb
  low : W.heap.size ≤ base ∧ base ≤ wr.heap.size ∧ W.heap.size ≤ nb
section
variable {W wr w' : World} {b rm p kr nb base : Nat} {c : Config} {calls : List Call} {A : Option Addr} {d : Nat} {L : List Pane} {ov lv : Value} {l ln : List EventP}
theorem OwnG.still (h : OwnG W wr b rm p kr nb base c calls A d L ov lv l ln) (k : Keep none_ wr w') : OwnG W w' b rm p kr nb base c calls A d L ov lv l ln :=
  ⟨h.ref.still k, own_keep h.row k (fun _ _ e => e), h.shp, h.tls, fun x hx => by
    obtain ⟨h1, B, m, q, h2, h3, h4⟩ := h.each x hx
    exact ⟨h1, B, m, q, h2, h3.keep k Off.none_, h4⟩, Keep.at k h.nx (fun e => e), h.nbo, h.lvo, h.oA, h.low.1, Nat.le_trans h.low.2.1 k.size, h.low.2.2⟩
/-- The model does the next call. -/
theorem OwnG.did {e : Ending} (h : OwnG W wr b rm p kr nb base c calls A d L ov lv l ln) (hk : kr < 61) (hc : kr < calls.length) (hd : RMDid wr b rm p (16 * kr) c A ov (stF c (calls.take kr) MS.zero).O (stF c (calls.take kr) MS.zero).M (stF c (calls.take kr) MS.zero).mark (stF c (calls.take kr) MS.zero).closed calls[kr] e w') :
    ∃ pA pn pd A2 d2 L2 ov2, e = .returned (.agg #[.int .i64 (doF c calls[kr] (stF c (calls.take kr) MS.zero)).code, .slice pA pn pd]) ∧ Sl Pane.cells 7 w' pA pn pd (doF c calls[kr] (stF c (calls.take kr) MS.zero)).R ∧ OwnG W w' b rm p (kr + 1) nb base c calls A2 d2 L2 ov2 lv l ln ∧
      (0 < pn → ∀ a, pA = some a → ¬ rmF rm p ov2 a.block ∧ lv.ownBlock ≠ some a.block ∧ a.block ≠ nb) ∧ DoIs c calls[kr] (stF c (calls.take kr) MS.zero) (doF c calls[kr] (stF c (calls.take kr) MS.zero)) := by
  obtain ⟨pA, pn, pd, A2, d2, L2, ov2, rfl, hsl, hr, kk, how, hpa, hdo, hoA⟩ := h.ref.did hk hd
  have hnl := h.nx.lt
  have hs := kk.size
  refine ⟨pA, pn, pd, A2, d2, L2, ov2, rfl, hsl, ⟨by rw [stF_take hc]; exact hr, own_keep h.row kk h.lvo, h.shp, h.tls, fun x hx => ?_, Keep.at kk h.nx h.nbo.1, ⟨fun e => h.nbo.1 (how nb hnl e), h.nbo.2⟩, fun g hg e => h.lvo g hg (how g (h.row.lt g hg).2 e), fun a ha => ?_, h.low.1, Nat.le_trans h.low.2.1 hs, h.low.2.2⟩, fun h0 a ha => ?_, hdo⟩
  · obtain ⟨h1, B, m, q, h2, h3, h4⟩ := h.each x hx
    refine ⟨h1, B, m, q, h2, h3.keepN kk (fun h0 a ha => (h4 h0 a ha).1), fun h0 a ha => ?_⟩
    obtain ⟨b9, o9, e9, hb9, -⟩ := h3.at_ h0
    obtain rfl : a = ⟨b9, o9, none⟩ := by rw [ha] at e9; simpa using e9
    obtain ⟨g1, g2, g3⟩ := h4 h0 _ ha
    exact ⟨fun e => g1 (how _ hb9 e), g2, g3⟩
  · rcases hoA a ha with e2 | e2
    · exact h.oA a e2
    · exact ⟨fun e => by have := (h.row.lt _ e).2; omega, by omega⟩
  · obtain ⟨h1, h2⟩ := hpa h0 a ha
    exact ⟨h2, fun e => by have := (h.row.lt _ e).2; omega, by omega⟩
/-- The event is put behind the others. -/
theorem OwnG.push {w1 w2 : World} {v2 : Value} {e : EventP} (h : OwnG W wr b rm p kr nb base c calls A d L ov lv l ln) (k1 : Keep none_ wr w1) (hown : w2.ownsRow base 75 14 v2 (l.length + 1) (flat encE (l ++ [e]))) (hg : w1.grownBy w2 lv.ownBlock) (hb : v2.ownBlock = lv.ownBlock ∨ v2.ownBlock = some w1.heap.size)
    (hc : l.length < calls.length) (hs : Shape l l.length e) (ht : Told c calls[l.length] (stF c (calls.take l.length) MS.zero) e) (hok : e.ev.ok) {pA : Option Addr} {pn pd : Nat} (hp : e.ev.panes = .slice pA pn pd) (hsl : Sl Pane.cells 7 wr pA pn pd e.ps)
    (hpo : 0 < pn → ∀ a, pA = some a → ¬ rmF rm p ov a.block ∧ lv.ownBlock ≠ some a.block ∧ a.block ≠ nb) : OwnG W w2 b rm p kr nb base c calls A d L ov v2 (l ++ [e]) ln := by
  have k2 : Keep (own_of lv) w1 w2 := Keep.grown (Keep.refl _ _) hg (fun q e _ => e)
  have hs1 := k1.size
  have hs2 := k2.size
  have hrl := h.ref.ref.lt
  have hnl := h.nx.lt
  have hlow := h.low
  have hk : Keep none_ W w2 := Keep.fresh (h.ref.keep.trans k1) k2 (fun q hq e => by have := (h.row.lt q e).1; omega)
  have hoA : ∀ a, A = some a → a.block < wr.heap.size := h.ref.ref.ref.lt
  have hnew : ∀ q, q < wr.heap.size → lv.ownBlock ≠ some q → v2.ownBlock ≠ some q := fun q hq hn e => by
    rcases hb with e2 | e2
    · exact hn (e2 ▸ e)
    · rw [e2] at e
      have : w1.heap.size = q := by simpa using e
      omega
  have hpan : ∀ {B : Option Addr} {m q : Nat} {ps : List Pane}, Sl Pane.cells 7 wr B m q ps → (0 < m → ∀ a, B = some a → ¬ rmF rm p ov a.block ∧ lv.ownBlock ≠ some a.block ∧ a.block ≠ nb) →
      Sl Pane.cells 7 w2 B m q ps ∧ (0 < m → ∀ a, B = some a → ¬ rmF rm p ov a.block ∧ v2.ownBlock ≠ some a.block ∧ a.block ≠ nb) := fun {B m q ps} h3 h4 => by
    refine ⟨(h3.keep k1 Off.none_).keepN k2 (fun h0 a ha e => (h4 h0 a ha).2.1 e), fun h0 a ha => ?_⟩
    obtain ⟨b9, o9, e9, hb9, -⟩ := h3.at_ h0
    obtain rfl : a = ⟨b9, o9, none⟩ := by rw [ha] at e9; simpa using e9
    obtain ⟨g1, g2, g3⟩ := h4 h0 _ ha
    exact ⟨g1, hnew _ hb9 g2, g3⟩
  have hgd := h.ref.ref
  refine ⟨⟨(hgd.still k1).away k2 (fun q e e2 => h.lvo q e2 e) (fun a ha e => (h.oA a ha).1 e), hk, ⟨h.ref.bl.1, by have := h.ref.bl.2; omega⟩, h.ref.len⟩, by rw [List.length_append, List.length_singleton]; exact hown, h.shp.snoc hs, h.tls.snoc hc ht, fun x hx => ?_, Keep.at k2 (Keep.at k1 h.nx (fun e => e)) (fun e => h.nbo.2 e), ⟨h.nbo.1, hnew nb hnl h.nbo.2⟩, fun g e => ?_, fun a ha => ⟨hnew _ (hoA a ha) (h.oA a ha).1, (h.oA a ha).2⟩, hlow.1, by omega, hlow.2.2⟩
  · rcases List.mem_append.1 hx with hx | hx
    · obtain ⟨h1, B, m, q, h2, h3, h4⟩ := h.each x hx
      obtain ⟨h5, h6⟩ := hpan h3 h4
      exact ⟨h1, B, m, q, h2, h5, h6⟩
    · obtain rfl : x = e := by simpa using hx
      obtain ⟨h5, h6⟩ := hpan hsl hpo
      exact ⟨hok, pA, pn, pd, hp, h5, h6⟩
  · rcases hb with e2 | e2
    · exact h.lvo g (e2 ▸ e)
    · rw [e2] at e
      have : w1.heap.size = g := by simpa using e
      exact fun e3 => by have := (hrl g e3).2; omega
/-- The turn is counted. -/
theorem OwnG.count (h : OwnG W wr b rm p kr nb base c calls A d L ov lv l ln) {e : EventP} {i : Nat} (hi : i ≤ 2) (he : e.ev.client = (i : Int)) : OwnG W (wr.setCell ⟨nb, i, none⟩ (.int .i64 ((cntC (ln.map EventP.ev) (i : Int) : Nat) + 1 : Int))) b rm p kr nb base c calls A d L ov lv l (ln ++ [e]) := by
  have k2 : Keep (one nb) wr (wr.setCell ⟨nb, i, none⟩ (.int .i64 ((cntC (ln.map EventP.ev) (i : Int) : Nat) + 1 : Int))) := Keep.set1 (Keep.refl _ _) _
  have hs := k2.size
  have hlow := h.low
  have hnx := At.set h.nx i (.int .i64 ((cntC (ln.map EventP.ev) (i : Int) : Nat) + 1 : Int))
  rw [nxC_set ln hi he] at hnx
  refine ⟨⟨h.ref.ref.away k2 (fun q e e2 => by unfold one at e2; rw [e2] at e; exact h.nbo.1 e) (fun a ha e => (h.oA a ha).2 e), Keep.fresh h.ref.keep k2 (fun q hq e => by unfold one at e; omega), ⟨h.ref.bl.1, by have := h.ref.bl.2; omega⟩, h.ref.len⟩, own_keep h.row k2 (fun g hg e => by unfold one at e; rw [e] at hg; exact h.nbo.2 hg), h.shp, h.tls, fun x hx => ?_, hnx, h.nbo, h.lvo, h.oA, hlow.1, by omega, hlow.2.2⟩
  obtain ⟨h1, B, m, q, h2, h3, h4⟩ := h.each x hx
  exact ⟨h1, B, m, q, h2, h3.keepN k2 (fun h0 a ha e => (h4 h0 a ha).2.2 e), h4⟩
theorem own_setc {α : Type} {enc : α → List Value} {k : Nat} {w : World} {base g N cap : Nat} {e : TypeId} {l : List α} (hl : ∀ x, (enc x).length = k) (h : w.ownsRow base e k (.slice (some ⟨g, 0, none⟩) N cap) N (flat enc l)) {i j : Nat} (hi : i < l.length) (hj : j < k) (y : α) (v : Value) (hy : enc y = (enc l[i]).set j v) :
    (w.setCell ⟨g, i * k + j, none⟩ v).ownsRow base e k (.slice (some ⟨g, 0, none⟩) N cap) N (flat enc (l.set i y)) := by
  have hf := flat_lset hl y j v hj l i hi hy
  refine ⟨by rw [← hf, List.length_set]; exact h.1, ?_⟩
  rcases h.2 with ⟨hv, h0⟩ | ⟨g', cap', cur, hv, hb, hg, hnc, hcm, hcs, htake⟩
  · cases hv
  · obtain ⟨rfl, rfl⟩ : g = g' ∧ cap = cap' := by simpa using hv
    have hat : At w g cur e := hg
    refine .inr ⟨g, cap, cur.setIfInBounds (i * k + j) v, rfl, hb, At.set hat _ v, hnc, hcm, by simpa using hcs, ?_⟩
    rw [← hf, Array.toList_setIfInBounds, List.take_set, htake]
theorem OwnG.turned {g co : Nat} (h : OwnG W wr b rm p kr nb base c calls A d L ov (.slice (some ⟨g, 0, none⟩) l.length co) l ln) {k : Nat} (hk : k < l.length) :
    EvAt (wr.setCell ⟨g, k * 14 + 9, none⟩ (.int .i64 (l[k].ev.code + 7))) (some ⟨g, 0, none⟩) (l.set k (turnE l[k])).length co (l.set k (turnE l[k])) := by
  have k2 : Keep (one g) wr (wr.setCell ⟨g, k * 14 + 9, none⟩ (.int .i64 (l[k].ev.code + 7))) := Keep.set1 (Keep.refl _ _) _
  have hrow := own_setc encE_len h.row hk (j := 9) (by omega) (turnE l[k]) (.int .i64 (l[k].ev.code + 7)) rfl
  have hel : ∀ x ∈ l.set k (turnE l[k]), x.ev.ok ∧ ∃ A n d, x.ev.panes = .slice A n d ∧ Sl Pane.cells 7 (wr.setCell ⟨g, k * 14 + 9, none⟩ (.int .i64 (l[k].ev.code + 7))) A n d x.ps := fun x hx => by
    have hone : ∀ y ∈ l, y.ev.ok ∧ ∃ A n d, y.ev.panes = .slice A n d ∧ Sl Pane.cells 7 (wr.setCell ⟨g, k * 14 + 9, none⟩ (.int .i64 (l[k].ev.code + 7))) A n d y.ps := fun y hy => by
      obtain ⟨h1, B, m, q, h2, h3, h4⟩ := h.each y hy
      refine ⟨h1, B, m, q, h2, h3.keepN k2 (fun h0 a ha e => (h4 h0 a ha).2.1 ?_)⟩
      unfold one at e
      rw [e]
      rfl
    rcases List.mem_or_eq_of_mem_set hx with hx | rfl
    · exact hone x hx
    · obtain ⟨h1, B, m, q, h2, h3⟩ := hone l[k] (List.getElem_mem hk)
      obtain ⟨hc, ht⟩ := h.tls k hk
      have hcd := do_code ht.is
      rw [← ht.code] at hcd
      refine ⟨⟨h1.client, h1.n, h1.call, ?_, h1.panes, h1.begin_, h1.point, h1.end_⟩, B, m, q, h2, h3⟩
      show I64 (l[k].ev.code + 7)
      unfold I64
      omega
  have hp : ∀ x ∈ l.set k (turnE l[k]), ∃ B m q, x.ev.panes = .slice B m q := fun x hx => by
    obtain ⟨-, B, m, q, e, -⟩ := hel x hx
    exact ⟨B, m, q, e⟩
  rw [flatE_eq hp] at hrow
  rw [List.length_set]
  exact ⟨Sl.of_own (fun _ => rfl) (by decide) hrow, hel⟩
/-- One event ahead of all. -/
theorem OwnG.full {w2 w3 : World} {base2 : Nat} {Ao A2 : Option Addr} {co d2 : Nat} (h : OwnG W wr b rm p kr nb base c calls A d L ov (.slice Ao l.length co) l ln) (k3 : Keep none_ wr w3) (hown : w3.ownsRow base2 75 14 (.slice A2 (1 + l.length) d2) (1 + l.length) (flat encE ([evFull] ++ l))) : EvAt w3 A2 (evFull :: l).length d2 (evFull :: l) := by
  have hel : ∀ x ∈ evFull :: l, x.ev.ok ∧ ∃ A n d, x.ev.panes = .slice A n d ∧ Sl Pane.cells 7 w3 A n d x.ps := fun x hx => by
    rcases List.mem_cons.1 hx with rfl | hx
    · have z : ∀ x : Int, -10 ≤ x → x ≤ 10 → I64 x := fun x h1 h2 => by unfold I64; omega
      exact ⟨⟨z 4 (by omega) (by omega), z 0 (by omega) (by omega), ⟨z 2 (by omega) (by omega), by show 1 ≤ maxLen; unfold maxLen; omega, z 1 (by omega) (by omega), z 0 (by omega) (by omega), z 0 (by omega) (by omega), z 0 (by omega) (by omega), z 0 (by omega) (by omega)⟩, z 2 (by omega) (by omega), ⟨_, _, _, rfl⟩, z 1 (by omega) (by omega), z 1 (by omega) (by omega), z 1 (by omega) (by omega)⟩, none, 0, 0, rfl, Sl.nil _ _ _ _ _ (by unfold maxLen; simp)⟩
    · obtain ⟨h1, B, m, q, h2, h3, -⟩ := h.each x hx
      exact ⟨h1, B, m, q, h2, h3.keep k3 Off.none_⟩
  have hp : ∀ x ∈ [evFull] ++ l, ∃ B m q, x.ev.panes = .slice B m q := fun x hx => by
    obtain ⟨-, B, m, q, e, -⟩ := hel x hx
    exact ⟨B, m, q, e⟩
  rw [flatE_eq hp] at hown
  have e : (evFull :: l).length = 1 + l.length := by rw [List.length_cons]; omega
  rw [e]
  exact ⟨Sl.of_own (fun _ => rfl) (by decide) hown, hel⟩
theorem OwnG.evs {Ao : Option Addr} {co : Nat} (h : OwnG W wr b rm p kr nb base c calls A d L ov (.slice Ao l.length co) l ln) : EvAt wr Ao l.length co l := by
  have hp : ∀ x ∈ l, ∃ B m q, x.ev.panes = .slice B m q := fun x hx => by
    obtain ⟨-, B, m, q, e, -⟩ := h.each x hx
    exact ⟨B, m, q, e⟩
  have h1 := h.row
  rw [flatE_eq hp] at h1
  exact ⟨Sl.of_own (fun _ => rfl) (by decide) h1, fun x hx => by
    obtain ⟨h1, B, m, q, h2, h3, -⟩ := h.each x hx
    exact ⟨h1, B, m, q, h2, h3⟩⟩
end
end Go.Proofs.YtmioichjhiengaaGreat
