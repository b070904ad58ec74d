/-
  A map keyed by strings, as a function to values: look, store, delete.
-/
import Derived.Test.YtmioichjhiengaaData
import Derived.Test.YtmioichjhiengaaArg
import Derived.Maps.OwnSet
import Derived.Maps.Views
namespace Go.Proofs.Ytmioichjhiengaa
open Go.RowKit

def RVs (v : Value) : Option (DataW Value × List MemPlace) := some (.held v, [])
/-- Block b is a map that is f. -/
def SMap (w : World) (b n : Nat) (f : ByteArray → Option Value) : Prop :=
  ∃ D : DataW Value, w.ownsMap Try.prog 9 RVs b n D ∧ Maps.IsMap D ∧ ∀ x : ByteArray, x.size ≤ maxLen → Maps.has D (.string x.data.toList) = (f x).isSome ∧ ∀ z, D.atKey (.string x.data.toList) z = match f x with | some v => .held v | none => z
theorem str_key : Maps.Keyed Try.prog 9 := Maps.string_keyed Try.underlying9
theorem key_str {x : ByteArray} (hx : x.size ≤ maxLen) : keyOf Try.prog 9 (.string x) = some (.string x.data.toList) := by
  simp [keyOf, Try.underlying9, mapKey, hx]
theorem lit_ne {x y : ByteArray} (h : y ≠ x) : Lit.string y.data.toList ≠ .string x.data.toList := fun e => h (by
  have e1 : y.data.toList = x.data.toList := by simpa using e
  have e2 : y.data = x.data := by rw [← Array.toList_inj]; exact e1
  cases y; cases x; simp at e2; rw [e2])
section
variable {w w' : World} {b n : Nat} {f : ByteArray → Option Value}
theorem smap_made (w : World) : SMap (w.alloc (.map #[] 0)) w.heap.size 0 (fun _ => none) :=
  ⟨.map [], World.ownsMap_made w _ _ _, ⟨_, rfl⟩, fun x _ => ⟨rfl, fun z => rfl⟩⟩
theorem SMap.lt (h : SMap w b n f) : b < w.heap.size := by
  obtain ⟨D, h, -⟩ := h
  exact h.lt
theorem SMap.keep {S : Nat → Prop} (h : SMap w b n f) (k : Keep S w w') (hs : ¬ S b) : SMap w' b n f := by
  obtain ⟨D, ⟨es, clock, hb, hf, hn, hD⟩, h2, h3⟩ := h
  exact ⟨D, ⟨es, clock, (k.block b (Array.getElem?_eq_some_iff.1 hb).1 hs).trans hb, hf, hn, hD⟩, h2, h3⟩
theorem SMap.look {t e : TypeId} {z : Value} (h : SMap w b n f) (ht : Try.prog.underlying t = some (.map 9 e)) (hz : (zeroValue e).run Try.prog w = .ok z w) (x : ByteArray) (hx : x.size ≤ maxLen) :
    (Instr.lookup t (.map (some b)) (.string x) false).run Try.prog w = .ok ((f x).getD z) w := by
  obtain ⟨D, h, -, h3⟩ := h
  obtain ⟨v, ps, hr, hv⟩ := h.lookup str_key ht hz (zd := .held z) (zp := []) rfl (key_str hx)
  rw [hr]
  have h4 := (h3 x hx).2 (.held z)
  rw [h4] at hv
  have : v = (f x).getD z := by
    unfold RVs at hv
    cases hf : f x with
    | none => rw [hf] at hv; simp at hv; simpa using hv.1
    | some u => rw [hf] at hv; simp at hv; simpa using hv.1
  rw [this]
theorem SMap.store {t e : TypeId} (h : SMap w b n f) (ht : Try.prog.underlying t = some (.map 9 e)) (hn : n < maxLen) (x : ByteArray) (hx : x.size ≤ maxLen) (val : Value) :
    ∃ w', (Instr.mapUpdate t (.map (some b)) (.string x) val).run Try.prog w = .ok () w' ∧ SMap w' b (n + 1) (fun y => if y = x then some val else f y) ∧ Keep (one b) w w' := by
  obtain ⟨D, h, hm, h3⟩ := h
  obtain ⟨w', hr, h4, h5⟩ := h.update str_key ht hn (key_str hx) (d := .held val) (ps := []) rfl
  have hk : WideAt.IsKeyLit (.string x.data.toList) := by trivial
  refine ⟨w', hr, ⟨_, h4, ?_, fun y hy => ?_⟩, Keep.grown (Keep.refl _ _) h5 (fun k hk _ => by
    have : b = k := by simpa using hk
    exact this.symm)⟩
  · exact h4.isMap
  · by_cases e : y = x
    · subst e
      simp only [if_true]
      exact ⟨Maps.has_put_same hm hk _, fun z => Maps.atKey_put_same hm hk _ z⟩
    · simp only [if_neg e]
      have hne := lit_ne e
      refine ⟨by rw [Maps.has_put_other hne]; exact (h3 y hy).1, fun z => ?_⟩
      rw [Maps.atKey_put_other hne]
      exact (h3 y hy).2 z
theorem SMap.delete {t e : TypeId} (h : SMap w b n f) (ht : Try.prog.underlying t = some (.map 9 e)) (x : ByteArray) (hx : x.size ≤ maxLen) (ty : TypeId) :
    ∃ w', (Builtin.delete_ #[t, 9] ty #[.map (some b), .string x]).run Try.prog w = .ok (.tuple #[]) w' ∧ SMap w' b n (fun y => if y = x then none else f y) ∧ Keep (one b) w w' := by
  obtain ⟨D, h, hm, h3⟩ := h
  obtain ⟨w', hr, h4, h5⟩ := h.drop str_key ht (key_str hx) ty
  refine ⟨w', hr, ⟨_, h4, ?_, fun y hy => ?_⟩, Keep.grown (Keep.refl _ _) h5.grown (fun k hk _ => by
    have : b = k := by simpa using hk
    exact this.symm)⟩
  · exact h4.isMap
  · by_cases e : y = x
    · subst e
      simp only [if_true]
      exact ⟨Maps.has_del_same, fun z => Maps.atKey_del_same z⟩
    · simp only [if_neg e]
      have hne := lit_ne e
      refine ⟨by rw [Maps.has_del_other hne]; exact (h3 y hy).1, fun z => ?_⟩
      rw [Maps.atKey_del_other hne]
      exact (h3 y hy).2 z
end
end Go.Proofs.Ytmioichjhiengaa
