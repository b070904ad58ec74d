/-
  A map keyed by numbers, as a function to values.
-/
import Derived.Test.YtpkfckcilpiabaaGreatData
import Derived.Test.YtpkfckcilpiabaaGreatArg
import Derived.Maps.OwnSet
import Derived.Maps.Views
namespace Go.Proofs.YtpkfckcilpiabaaGreat
open Go.RowKit

def RV (v : Value) : Option (DataW Value × List MemPlace) := some (.held v, [])
/-- Block b is a map that is f. -/
def IMap (w : World) (b n : Nat) (f : Int → Option Value) : Prop :=
  ∃ D : DataW Value, w.ownsMap Tryz.prog 3 RV b n D ∧ Maps.IsMap D ∧ ∀ x, I64 x → Maps.has D (.int .i64 x) = (f x).isSome ∧ ∀ z, D.atKey (.int .i64 x) z = match f x with | some v => .held v | none => z
theorem int_key : Maps.Keyed Tryz.prog 3 := Maps.int_keyed Tryz.underlying3
theorem key_int {x : Int} (hx : I64 x) : keyOf Tryz.prog 3 (.int .i64 x) = some (.int .i64 x) := Maps.keyOf_int_mk Tryz.underlying3 (wf_i64.2 hx)
section
variable {w w' : World} {b n : Nat} {f : Int → Option Value}
theorem imap_made (w : World) : IMap (w.alloc (.map #[] 0)) w.heap.size 0 (fun _ => none) :=
  ⟨.map [], World.ownsMap_made w _ _ _, ⟨_, rfl⟩, fun x _ => ⟨rfl, fun z => rfl⟩⟩
theorem IMap.lt (h : IMap w b n f) : b < w.heap.size := by
  obtain ⟨D, h, -⟩ := h
  exact h.lt
theorem IMap.keep {S : Nat → Prop} (h : IMap w b n f) (k : Keep S w w') (hs : ¬ S b) : IMap w' b n f := by
  obtain ⟨D, ⟨es, clock, hb, hf, hn, hD⟩, h2, h3⟩ := h
  exact ⟨D, ⟨es, clock, (k.block b (Array.getElem?_eq_some_iff.1 hb).1 hs).trans hb, hf, hn, hD⟩, h2, h3⟩
theorem IMap.look_ok {t e : TypeId} {z : Value} (h : IMap w b n f) (ht : Tryz.prog.underlying t = some (.map 3 e)) (hz : (zeroValue e).run Tryz.prog w = .ok z w) (x : Int) (hx : I64 x) :
    (Instr.lookup t (.map (some b)) (.int .i64 x) true).run Tryz.prog w = .ok (.tuple #[(f x).getD z, .bool (f x).isSome]) w := by
  obtain ⟨D, h, -, h3⟩ := h
  obtain ⟨v, ps, hr, hv⟩ := h.look_ok int_key ht hz (zd := .held z) (zp := []) rfl (key_int hx)
  rw [hr, (h3 x hx).1]
  have h4 := (h3 x hx).2 (.held z)
  rw [h4] at hv
  have : v = (f x).getD z := by
    unfold RV at hv
    cases hf : f x with
    | none => rw [hf] at hv; simp at hv; simpa using hv.1
    | some u => rw [hf] at hv; simp at hv; simpa using hv.1
  rw [this]
theorem IMap.look {t e : TypeId} {z : Value} (h : IMap w b n f) (ht : Tryz.prog.underlying t = some (.map 3 e)) (hz : (zeroValue e).run Tryz.prog w = .ok z w) (x : Int) (hx : I64 x) :
    (Instr.lookup t (.map (some b)) (.int .i64 x) false).run Tryz.prog w = .ok ((f x).getD z) w := by
  obtain ⟨D, h, -, h3⟩ := h
  obtain ⟨v, ps, hr, hv⟩ := h.lookup int_key ht hz (zd := .held z) (zp := []) rfl (key_int hx)
  rw [hr]
  have h4 := (h3 x hx).2 (.held z)
  rw [h4] at hv
  have : v = (f x).getD z := by
    unfold RV at hv
    cases hf : f x with
    | none => rw [hf] at hv; simp at hv; simpa using hv.1
    | some u => rw [hf] at hv; simp at hv; simpa using hv.1
  rw [this]
theorem IMap.store {t e : TypeId} (h : IMap w b n f) (ht : Tryz.prog.underlying t = some (.map 3 e)) (hn : n < maxLen) (x : Int) (hx : I64 x) (val : Value) :
    ∃ w', (Instr.mapUpdate t (.map (some b)) (.int .i64 x) val).run Tryz.prog w = .ok () w' ∧ IMap w' b (n + 1) (fun y => if y = x then some val else f y) ∧ Keep (one b) w w' := by
  obtain ⟨D, h, hm, h3⟩ := h
  obtain ⟨w', hr, h4, h5⟩ := h.update int_key ht hn (key_int hx) (d := .held val) (ps := []) rfl
  have hk : WideAt.IsKeyLit (.int .i64 x) := by trivial
  refine ⟨w', hr, ⟨_, h4, ?_, fun y hy => ?_⟩, Keep.grown (Keep.refl _ _) h5 (fun k hk _ => by
    have : b = k := by simpa using hk
    exact this.symm)⟩
  · exact h4.isMap
  · by_cases e : y = x
    · subst e
      simp only [if_true]
      exact ⟨Maps.has_put_same hm hk _, fun z => Maps.atKey_put_same hm hk _ z⟩
    · simp only [if_neg e]
      have hne : (Lit.int .i64 y) ≠ (.int .i64 x) := fun h => e (by simpa using h)
      refine ⟨by rw [Maps.has_put_other hne]; exact (h3 y hy).1, fun z => ?_⟩
      rw [Maps.atKey_put_other hne]
      exact (h3 y hy).2 z
end
end Go.Proofs.YtpkfckcilpiabaaGreat
