/-
  Texts of one kind, one behind the other.
-/
import Derived.Test.YtmioichjhiengaaGreatBaseTwelve
import Derived.Test.YtmioichjhiengaaGreatBaseA
import Derived.Maps.OwnSet
import Derived.Maps.Views
set_option linter.unusedSimpArgs false
set_option linter.unusedVariables false
/-
  Events: how an argument reads as one.
-/
namespace Go.Proofs.YtmioichjhiengaaGreat
open Go.RowKit

structure Event where
  client : Int
  n : Int
  call : Call
  code : Int
  panes : Value
  begin_ : Int
  point : Int
  end_ : Int
abbrev Event.cells (x : Event) : List Value := [.int .i64 x.client, .int .i64 x.n, .int .i64 x.call.op, .string x.call.key, .int .i64 x.call.time, .int .i64 x.call.value, .int .i64 x.call.fin, .int .i64 x.call.group, .int .i64 x.call.shard, .int .i64 x.code, x.panes, .int .i64 x.begin_, .int .i64 x.point, .int .i64 x.end_]
attribute [go_sem] Event.cells
theorem Event.len (x : Event) : x.cells.length = 14 := rfl
structure Event.ok (x : Event) : Prop where
  client : I64 x.client
  n : I64 x.n
  call : x.call.ok
  code : I64 x.code
  panes : ∃ A n c, x.panes = .slice A n c
  begin_ : I64 x.begin_
  point : I64 x.point
  end_ : I64 x.end_
def rEvent : Rdr Event := fun _ x cs => cs = x.cells ∧ x.ok
theorem rEvent_of (w : World) (x : Event) (cs : List Value) (h : rEvent w x cs) : cs = x.cells ∧ x.ok := h
theorem cellsOf_Event : Tryz.prog.cellsOf 75 = 14 := by kernel_rfl
theorem opens_Event : Opens Tryz.prog 75 rEvent := by
  intro H enc w fuel cs x h
  have hl := opens_len Tryz.underlying75 cellsOf_Event h
  obtain ⟨a0, h0⟩ := opens_field (i := 0) (o := 0) (m := 1) Tryz.underlying75 rfl rfl (by kernel_rfl) (opens_int (by kernel_rfl)) H enc w fuel cs x h
  obtain ⟨a1, h1⟩ := opens_field (i := 1) (o := 1) (m := 1) Tryz.underlying75 rfl rfl (by kernel_rfl) (opens_int (by kernel_rfl)) H enc w fuel cs x h
  obtain ⟨a2, h2⟩ := opens_field (i := 2) (o := 2) (m := 7) Tryz.underlying75 rfl rfl (by kernel_rfl) opens_Call H enc w fuel cs x h
  obtain ⟨a3, h3⟩ := opens_field (i := 3) (o := 9) (m := 2) Tryz.underlying75 rfl rfl (by kernel_rfl) opens_Reply H enc w fuel cs x h
  obtain ⟨a4, h4⟩ := opens_field (i := 4) (o := 11) (m := 1) Tryz.underlying75 rfl rfl (by kernel_rfl) (opens_int (by kernel_rfl)) H enc w fuel cs x h
  obtain ⟨a5, h5⟩ := opens_field (i := 5) (o := 12) (m := 1) Tryz.underlying75 rfl rfl (by kernel_rfl) (opens_int (by kernel_rfl)) H enc w fuel cs x h
  obtain ⟨a6, h6⟩ := opens_field (i := 6) (o := 13) (m := 1) Tryz.underlying75 rfl rfl (by kernel_rfl) (opens_int (by kernel_rfl)) H enc w fuel cs x h
  match cs, hl with
  | [c0, c1, c2, c3, c4, c5, c6, c7, c8, c9, c10, c11, c12, c13], _ =>
    simp only [List.drop, List.take, rInt, rCall] at h0 h1 h2 h4 h5 h6
    simp only [List.drop, List.take] at h3
    obtain ⟨A, n, c, e3, h3', hs, hok⟩ := h3
    refine ⟨⟨a0, a1, a2, a3.code, .slice A n c, a4, a5, a6⟩, ?_, ⟨h0.2, h1.2, h2.2, h3', ⟨A, n, c, rfl⟩, h4.2, h5.2, h6.2⟩⟩
    have e0 := h0.1
    have e1 := h1.1
    have e2 := h2.1
    have e4 := h4.1
    have e5 := h5.1
    have e6 := h6.1
    simp only [Event.cells, Call.cells] at e0 e1 e2 e3 e4 e5 e6 ⊢
    simp only [List.cons.injEq, and_true] at e0 e1 e2 e3 e4 e5 e6 ⊢
    simp [e0, e1, e2, e3, e4, e5, e6]
end Go.Proofs.YtmioichjhiengaaGreat

/-
  A map keyed by numbers, as a function to values.
-/
namespace Go.Proofs.YtmioichjhiengaaGreat
open Go.RowKit

def RV (v : Value) : Option (DataW Value × List MemPlace) := some (.held v, [])
/-- Block b is a map that is f. -/
def IMap (w : World) (b n : Nat) (f : Int → Option Value) : Prop :=
  ∃ D : DataW Value, w.ownsMap Tryz.prog 3 RV b n D ∧ Maps.IsMap D ∧ ∀ x, I64 x → Maps.has D (.int .i64 x) = (f x).isSome ∧ ∀ z, D.atKey (.int .i64 x) z = match f x with | some v => .held v | none => z
theorem int_key : Maps.Keyed Tryz.prog 3 := Maps.int_keyed Tryz.underlying3
theorem key_int {x : Int} (hx : I64 x) : keyOf Tryz.prog 3 (.int .i64 x) = some (.int .i64 x) := Maps.keyOf_int_mk Tryz.underlying3 (wf_i64.2 hx)
section
variable {w w' : World} {b n : Nat} {f : Int → Option Value}
theorem imap_made (w : World) : IMap (w.alloc (.map #[] 0)) w.heap.size 0 (fun _ => none) :=
  ⟨.map [], World.ownsMap_made w _ _ _, ⟨_, rfl⟩, fun x _ => ⟨rfl, fun z => rfl⟩⟩
theorem IMap.lt (h : IMap w b n f) : b < w.heap.size := by
  obtain ⟨D, h, -⟩ := h
  exact h.lt
theorem IMap.keep {S : Nat → Prop} (h : IMap w b n f) (k : Keep S w w') (hs : ¬ S b) : IMap w' b n f := by
  obtain ⟨D, ⟨es, clock, hb, hf, hn, hD⟩, h2, h3⟩ := h
  exact ⟨D, ⟨es, clock, (k.block b (Array.getElem?_eq_some_iff.1 hb).1 hs).trans hb, hf, hn, hD⟩, h2, h3⟩
theorem IMap.look_ok {t e : TypeId} {z : Value} (h : IMap w b n f) (ht : Tryz.prog.underlying t = some (.map 3 e)) (hz : (zeroValue e).run Tryz.prog w = .ok z w) (x : Int) (hx : I64 x) :
    (Instr.lookup t (.map (some b)) (.int .i64 x) true).run Tryz.prog w = .ok (.tuple #[(f x).getD z, .bool (f x).isSome]) w := by
  obtain ⟨D, h, -, h3⟩ := h
  obtain ⟨v, ps, hr, hv⟩ := h.look_ok int_key ht hz (zd := .held z) (zp := []) rfl (key_int hx)
  rw [hr, (h3 x hx).1]
  have h4 := (h3 x hx).2 (.held z)
  rw [h4] at hv
  have : v = (f x).getD z := by
    unfold RV at hv
    cases hf : f x with
    | none => rw [hf] at hv; simp at hv; simpa using hv.1
    | some u => rw [hf] at hv; simp at hv; simpa using hv.1
  rw [this]
theorem IMap.look {t e : TypeId} {z : Value} (h : IMap w b n f) (ht : Tryz.prog.underlying t = some (.map 3 e)) (hz : (zeroValue e).run Tryz.prog w = .ok z w) (x : Int) (hx : I64 x) :
    (Instr.lookup t (.map (some b)) (.int .i64 x) false).run Tryz.prog w = .ok ((f x).getD z) w := by
  obtain ⟨D, h, -, h3⟩ := h
  obtain ⟨v, ps, hr, hv⟩ := h.lookup int_key ht hz (zd := .held z) (zp := []) rfl (key_int hx)
  rw [hr]
  have h4 := (h3 x hx).2 (.held z)
  rw [h4] at hv
  have : v = (f x).getD z := by
    unfold RV at hv
    cases hf : f x with
    | none => rw [hf] at hv; simp at hv; simpa using hv.1
    | some u => rw [hf] at hv; simp at hv; simpa using hv.1
  rw [this]
theorem IMap.store {t e : TypeId} (h : IMap w b n f) (ht : Tryz.prog.underlying t = some (.map 3 e)) (hn : n < maxLen) (x : Int) (hx : I64 x) (val : Value) :
    ∃ w', (Instr.mapUpdate t (.map (some b)) (.int .i64 x) val).run Tryz.prog w = .ok () w' ∧ IMap w' b (n + 1) (fun y => if y = x then some val else f y) ∧ Keep (one b) w w' := by
  obtain ⟨D, h, hm, h3⟩ := h
  obtain ⟨w', hr, h4, h5⟩ := h.update int_key ht hn (key_int hx) (d := .held val) (ps := []) rfl
  have hk : WideAt.IsKeyLit (.int .i64 x) := by trivial
  refine ⟨w', hr, ⟨_, h4, ?_, fun y hy => ?_⟩, Keep.grown (Keep.refl _ _) h5 (fun k hk _ => by
    have : b = k := by simpa using hk
    exact this.symm)⟩
  · exact h4.isMap
  · by_cases e : y = x
    · subst e
      simp only [if_true]
      exact ⟨Maps.has_put_same hm hk _, fun z => Maps.atKey_put_same hm hk _ z⟩
    · simp only [if_neg e]
      have hne : (Lit.int .i64 y) ≠ (.int .i64 x) := fun h => e (by simpa using h)
      refine ⟨by rw [Maps.has_put_other hne]; exact (h3 y hy).1, fun z => ?_⟩
      rw [Maps.atKey_put_other hne]
      exact (h3 y hy).2 z
end
end Go.Proofs.YtmioichjhiengaaGreat
