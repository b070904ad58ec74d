/-
  Texts of one kind, one behind the other.
-/
import Derived.Test.YtmioichjhiengaaGreatBaseA
import Derived.Test.YtmioichjhiengaaGreatBaseRow
import Derived.Maps.OwnSet
import Derived.Maps.Views
set_option linter.unusedSimpArgs false
set_option linter.unusedVariables false
/-
  A map keyed by strings, as a function to values: look, store, delete.
-/
namespace Go.Proofs.YtmioichjhiengaaGreat
open Go.RowKit

def RVs (v : Value) : Option (DataW Value × List MemPlace) := some (.held v, [])
/-- Block b is a map that is f. -/
def SMap (w : World) (b n : Nat) (f : ByteArray → Option Value) : Prop :=
  ∃ D : DataW Value, w.ownsMap Tryz.prog 9 RVs b n D ∧ Maps.IsMap D ∧ ∀ x : ByteArray, x.size ≤ maxLen → Maps.has D (.string x.data.toList) = (f x).isSome ∧ ∀ z, D.atKey (.string x.data.toList) z = match f x with | some v => .held v | none => z
theorem str_key : Maps.Keyed Tryz.prog 9 := Maps.string_keyed Tryz.underlying9
theorem key_str {x : ByteArray} (hx : x.size ≤ maxLen) : keyOf Tryz.prog 9 (.string x) = some (.string x.data.toList) := by
  simp [keyOf, Tryz.underlying9, mapKey, hx]
theorem lit_ne {x y : ByteArray} (h : y ≠ x) : Lit.string y.data.toList ≠ .string x.data.toList := fun e => h (by
  have e1 : y.data.toList = x.data.toList := by simpa using e
  have e2 : y.data = x.data := by rw [← Array.toList_inj]; exact e1
  cases y; cases x; simp at e2; rw [e2])
section
variable {w w' : World} {b n : Nat} {f : ByteArray → Option Value}
theorem smap_made (w : World) : SMap (w.alloc (.map #[] 0)) w.heap.size 0 (fun _ => none) :=
  ⟨.map [], World.ownsMap_made w _ _ _, ⟨_, rfl⟩, fun x _ => ⟨rfl, fun z => rfl⟩⟩
theorem SMap.lt (h : SMap w b n f) : b < w.heap.size := by
  obtain ⟨D, h, -⟩ := h
  exact h.lt
theorem SMap.keep {S : Nat → Prop} (h : SMap w b n f) (k : Keep S w w') (hs : ¬ S b) : SMap w' b n f := by
  obtain ⟨D, ⟨es, clock, hb, hf, hn, hD⟩, h2, h3⟩ := h
  exact ⟨D, ⟨es, clock, (k.block b (Array.getElem?_eq_some_iff.1 hb).1 hs).trans hb, hf, hn, hD⟩, h2, h3⟩
theorem SMap.look {t e : TypeId} {z : Value} (h : SMap w b n f) (ht : Tryz.prog.underlying t = some (.map 9 e)) (hz : (zeroValue e).run Tryz.prog w = .ok z w) (x : ByteArray) (hx : x.size ≤ maxLen) :
    (Instr.lookup t (.map (some b)) (.string x) false).run Tryz.prog w = .ok ((f x).getD z) w := by
  obtain ⟨D, h, -, h3⟩ := h
  obtain ⟨v, ps, hr, hv⟩ := h.lookup str_key ht hz (zd := .held z) (zp := []) rfl (key_str hx)
  rw [hr]
  have h4 := (h3 x hx).2 (.held z)
  rw [h4] at hv
  have : v = (f x).getD z := by
    unfold RVs at hv
    cases hf : f x with
    | none => rw [hf] at hv; simp at hv; simpa using hv.1
    | some u => rw [hf] at hv; simp at hv; simpa using hv.1
  rw [this]
theorem SMap.store {t e : TypeId} (h : SMap w b n f) (ht : Tryz.prog.underlying t = some (.map 9 e)) (hn : n < maxLen) (x : ByteArray) (hx : x.size ≤ maxLen) (val : Value) :
    ∃ w', (Instr.mapUpdate t (.map (some b)) (.string x) val).run Tryz.prog w = .ok () w' ∧ SMap w' b (n + 1) (fun y => if y = x then some val else f y) ∧ Keep (one b) w w' := by
  obtain ⟨D, h, hm, h3⟩ := h
  obtain ⟨w', hr, h4, h5⟩ := h.update str_key ht hn (key_str hx) (d := .held val) (ps := []) rfl
  have hk : WideAt.IsKeyLit (.string x.data.toList) := by trivial
  refine ⟨w', hr, ⟨_, h4, ?_, fun y hy => ?_⟩, Keep.grown (Keep.refl _ _) h5 (fun k hk _ => by
    have : b = k := by simpa using hk
    exact this.symm)⟩
  · exact h4.isMap
  · by_cases e : y = x
    · subst e
      simp only [if_true]
      exact ⟨Maps.has_put_same hm hk _, fun z => Maps.atKey_put_same hm hk _ z⟩
    · simp only [if_neg e]
      have hne := lit_ne e
      refine ⟨by rw [Maps.has_put_other hne]; exact (h3 y hy).1, fun z => ?_⟩
      rw [Maps.atKey_put_other hne]
      exact (h3 y hy).2 z
theorem SMap.delete {t e : TypeId} (h : SMap w b n f) (ht : Tryz.prog.underlying t = some (.map 9 e)) (x : ByteArray) (hx : x.size ≤ maxLen) (ty : TypeId) :
    ∃ w', (Builtin.delete_ #[t, 9] ty #[.map (some b), .string x]).run Tryz.prog w = .ok (.tuple #[]) w' ∧ SMap w' b n (fun y => if y = x then none else f y) ∧ Keep (one b) w w' := by
  obtain ⟨D, h, hm, h3⟩ := h
  obtain ⟨w', hr, h4, h5⟩ := h.drop str_key ht (key_str hx) ty
  refine ⟨w', hr, ⟨_, h4, ?_, fun y hy => ?_⟩, Keep.grown (Keep.refl _ _) h5.grown (fun k hk _ => by
    have : b = k := by simpa using hk
    exact this.symm)⟩
  · exact h4.isMap
  · by_cases e : y = x
    · subst e
      simp only [if_true]
      exact ⟨Maps.has_del_same, fun z => Maps.atKey_del_same z⟩
    · simp only [if_neg e]
      have hne := lit_ne e
      refine ⟨by rw [Maps.has_del_other hne]; exact (h3 y hy).1, fun z => ?_⟩
      rw [Maps.atKey_del_other hne]
      exact (h3 y hy).2 z
end
end Go.Proofs.YtmioichjhiengaaGreat

/-
  A group's map: of each key its panes; Group.set, Group.Panes.
-/
namespace Go.Proofs.YtmioichjhiengaaGreat
open Go.RowKit

theorem wpList_delete_s {w : World} {b n : Nat} {f : ByteArray → Option Value} {ops : Array Oper} {rest : List Oper} {o : Oper} {a : Act} {Q : Exit → Act → World → Prop} (hgd : o.guard = none) (m x : Operand) (t e : TypeId)
    (hop : o.op = Op.call { callee := Callee.builtin Builtin.delete, args := #[m, x], argTypes := #[t, 9] }) (ht : Tryz.prog.underlying t = some (.map 9 e)) (hm : a.eval m = .map (some b)) (key : ByteArray) (hx : a.eval x = .string key)
    (h : SMap w b n f) (hk : key.size ≤ maxLen) (hK : ∀ w', SMap w' b n (fun y => if y = key then none else f y) → Keep (one b) w w' → wpList Tryz.prog ops Q rest (a.put o.dst (.tuple #[])) w') : wpList Tryz.prog ops Q (o :: rest) a w := by
  refine wpList_plain hgd fun K' hK' => ?_
  obtain ⟨w', hrun, r1, r2⟩ := h.delete ht key hk o.type
  unfold Oper.wp
  simp [execOp, hop, resolve, invoke, builtin, hm, hx, hrun, Result.andThen]
  exact hK' _ _ (hK w' r1 r2)

/-- Block mp is a map to slices of panes that lie in none of F's blocks. -/
def MapAt (w : World) (mp N : Nat) (F : Nat → Prop) (M : ByteArray → List Pane) : Prop :=
  ∃ n f, n ≤ N ∧ SMap w mp n f ∧ ∀ key : ByteArray, key.size ≤ maxLen → (f key = none ∧ M key = []) ∨ ∃ A m d, f key = some (.slice A m d) ∧ 0 < m ∧ Sl Pane.cells 7 w A m d (M key) ∧ ∀ a, A = some a → ¬ F a.block
section
variable {w w' : World} {mp N : Nat} {F F' : Nat → Prop} {M : ByteArray → List Pane}
theorem MapAt.lt (h : MapAt w mp N F M) : mp < w.heap.size := by
  obtain ⟨n, f, -, h, -⟩ := h
  exact h.lt
theorem MapAt.keep {S : Nat → Prop} (h : MapAt w mp N F M) (k : Keep S w w') (hS : ∀ q, S q → q < w.heap.size → F q) (hm : ¬ S mp) : MapAt w' mp N F M := by
  obtain ⟨n, f, hn, hs, hall⟩ := h
  refine ⟨n, f, hn, hs.keep k hm, fun key hk => ?_⟩
  rcases hall key hk with h | ⟨A, m, d, h1, h2, h3, h4⟩
  · exact .inl h
  · refine .inr ⟨A, m, d, h1, h2, ?_, h4⟩
    obtain ⟨b, off, rfl, hb, -⟩ := h3.at_ h2
    exact h3.keep k (fun a ha e => by
      have : a = ⟨b, off, none⟩ := by simpa using ha.symm
      subst this
      exact h4 _ rfl (hS _ e hb))
theorem MapAt.sets (h : MapAt w mp N F M) (hF : ∀ q, q < w.heap.size → F' q → F q) : MapAt w mp N F' M := by
  obtain ⟨n, f, hn, hs, hall⟩ := h
  refine ⟨n, f, hn, hs, fun key hk => ?_⟩
  rcases hall key hk with h | ⟨A, m, d, h1, h2, h3, h4⟩
  · exact .inl h
  · refine .inr ⟨A, m, d, h1, h2, h3, fun a ha e => ?_⟩
    obtain ⟨b, off, rfl, hb, -⟩ := h3.at_ h2
    have : a = ⟨b, off, none⟩ := by simpa using ha.symm
    subst this
    exact h4 _ rfl (hF _ hb e)
theorem MapAt.move {S : Nat → Prop} (h : MapAt w mp N F M) (k : Keep S w w') (hS : ∀ q, S q → q < w.heap.size → F q) (hm : ¬ S mp) (hF : ∀ q, q < w.heap.size → F' q → F q) : MapAt w' mp N F' M := by
  obtain ⟨n, f, hn, hs, hall⟩ := h
  refine ⟨n, f, hn, hs.keep k hm, fun key hk => ?_⟩
  rcases hall key hk with h | ⟨A, m, d, h1, h2, h3, h4⟩
  · exact .inl h
  · obtain ⟨b, off, rfl, hb, -⟩ := h3.at_ h2
    refine .inr ⟨_, m, d, h1, h2, h3.keep k (fun a ha e => ?_), fun a ha e => ?_⟩
    · have : a = ⟨b, off, none⟩ := by simpa using ha.symm
      subst this
      exact h4 _ rfl (hS _ e hb)
    · have : a = ⟨b, off, none⟩ := by simpa using ha.symm
      subst this
      exact h4 _ rfl (hF _ hb e)
theorem MapAt.made (w : World) (F : Nat → Prop) : MapAt (w.alloc (.map #[] 0)) w.heap.size 0 F (fun _ => []) :=
  ⟨0, _, Nat.le_refl _, smap_made w, fun key _ => .inl ⟨rfl, rfl⟩⟩
/-- What a look-up yields. -/
theorem MapAt.look (h : MapAt w mp N F M) {t e : TypeId} (ht : Tryz.prog.underlying t = some (.map 9 e)) (hz : (zeroValue e).run Tryz.prog w = .ok (.slice none 0 0) w) (key : ByteArray) (hk : key.size ≤ maxLen) :
    ∃ A m d, (Instr.lookup t (.map (some mp)) (.string key) false).run Tryz.prog w = .ok (.slice A m d) w ∧ Sl Pane.cells 7 w A m d (M key) ∧ ∀ a, A = some a → ¬ F a.block := by
  obtain ⟨n, f, hn, hs, hall⟩ := h
  have hr := hs.look ht hz key hk
  rcases hall key hk with ⟨h1, h2⟩ | ⟨A, m, d, h1, h2, h3, h4⟩
  · rw [h1] at hr
    exact ⟨none, 0, 0, hr, by rw [h2]; exact Sl.nil _ _ _ _ _ (by unfold maxLen; omega), fun a ha => by cases ha⟩
  · rw [h1] at hr
    exact ⟨A, m, d, hr, h3, h4⟩
/-- .. in each world that keeps all. -/
theorem MapAt.looks (h : MapAt w mp N F M) {t e : TypeId} (ht : Tryz.prog.underlying t = some (.map 9 e)) (hz : ∀ w, (zeroValue e).run Tryz.prog w = .ok (.slice none 0 0) w) (key : ByteArray) (hk : key.size ≤ maxLen) :
    ∃ A m d, (∀ W', Keep none_ w W' → (Instr.lookup t (.map (some mp)) (.string key) false).run Tryz.prog W' = .ok (.slice A m d) W') ∧ Sl Pane.cells 7 w A m d (M key) ∧ ∀ a, A = some a → ¬ F a.block := by
  obtain ⟨n, f, hn, hs, hall⟩ := h
  have hr := fun W' (kz : Keep none_ w W') => (hs.keep kz (fun e => e)).look ht (hz W') key hk
  rcases hall key hk with ⟨h1, h2⟩ | ⟨A, m, d, h1, h2, h3, h4⟩
  · rw [h1] at hr
    exact ⟨none, 0, 0, hr, by rw [h2]; exact Sl.nil _ _ _ _ _ (by unfold maxLen; omega), fun a ha => by cases ha⟩
  · rw [h1] at hr
    exact ⟨A, m, d, hr, h3, h4⟩
/-- A key's panes are set anew. -/
def setM (M : ByteArray → List Pane) (key : ByteArray) (L : List Pane) : ByteArray → List Pane := fun k => if k = key then L else M k
end
theorem zero_panes (w : World) : (zeroValue 34).run Tryz.prog w = .ok (.slice none 0 0) w := by kernel_rfl
set_option maxRecDepth 100000 in
theorem group_set {w : World} {gp mp N : Nat} {F : Nat → Prop} {M : ByteArray → List Pane} {cs : Array Value} (hg : At w gp cs 93) (h8 : cs[8]? = some (.map (some mp))) (h : MapAt w mp N F M) (hF : F mp) (hN : N < maxLen) (key : ByteArray) (hk : key.size ≤ maxLen)
    {A : Option Addr} {n d : Nat} {L : List Pane} (hL : Sl Pane.cells 7 w A n d L) (hA : ∀ a, A = some a → ¬ F a.block) :
    Calls Tryz.prog 46 #[.pointer (some ⟨gp, 0, none⟩), .string key, .slice A n d] w fun e w' => e = .returned (.tuple #[]) ∧ MapAt w' mp (N + 1) F (setM M key L) ∧ Keep (one mp) w w' := by
  have c8 : w.cell? ⟨gp, 8, none⟩ = some (.map (some mp)) := (At.cell hg 8).trans h8
  obtain ⟨q, f, hq, hs, hall⟩ := h
  have hln := hL.len
  by_cases h0 : n = 0
  · have hLe : L = [] := List.length_eq_zero_iff.1 (by omega)
    subst h0
    clear hln
    go_enter Tryz.func46, Tryz.ntmps46
    go_wp2_with (at_delete; refine wpList_delete_s rfl _ _ _ _ rfl Tryz.underlying89 rfl key rfl hs hk ?_)
    intro w' hs' k'
    have hfin : MapAt w' mp (N + 1) F (setM M key L) := by
      refine ⟨q, _, by omega, hs', fun k9 hk9 => ?_⟩
      unfold setM
      by_cases e : k9 = key
      · simp only [e, if_true]
        exact .inl ⟨trivial, hLe⟩
      · simp only [e, if_false]
        rcases hall k9 hk9 with h | ⟨A, m, d, h1, h2, h3, h4⟩
        · exact .inl h
        · exact .inr ⟨A, m, d, h1, h2, h3.keep k' (fun a ha e9 => h4 a ha (by unfold one at e9; rw [e9]; exact hF)), h4⟩
    clear hs hs' hall hL hLe
    go_wp2_with fail
    exact bodyPost_ret (v := .tuple #[]) (results_none Tryz.results46 _ _ _) rfl ⟨rfl, hfin, k'⟩
  · have hn1 : ((n : Int) == 0) = false := by simp; omega
    obtain ⟨w', hrun, hs', k'⟩ := hs.store (t := 89) Tryz.underlying89 (by omega) key hk (.slice A n d)
    have hfin : MapAt w' mp (N + 1) F (setM M key L) := by
      refine ⟨q + 1, _, by omega, hs', fun k9 hk9 => ?_⟩
      unfold setM
      by_cases e : k9 = key
      · simp only [e, if_true]
        exact .inr ⟨A, n, d, rfl, by omega, hL.keep k' (fun a ha e9 => hA a ha (by unfold one at e9; rw [e9]; exact hF)), hA⟩
      · simp only [e, if_false]
        rcases hall k9 hk9 with h | ⟨A, m, d, h1, h2, h3, h4⟩
        · exact .inl h
        · exact .inr ⟨A, m, d, h1, h2, h3.keep k' (fun a ha e9 => h4 a ha (by unfold one at e9; rw [e9]; exact hF)), h4⟩
    clear hs hs' hall hL hln
    go_enter Tryz.func46, Tryz.ntmps46
    go_wp2_with fail
    refine bodyPost_end (v := .tuple #[]) ?_ ?_ ?_
    · exact results_none Tryz.results46 _ _ _
    · rfl
    · exact ⟨rfl, hfin, k'⟩
theorem group_panes {w : World} {gp mp N : Nat} {F : Nat → Prop} {M : ByteArray → List Pane} {cs : Array Value} (hg : At w gp cs 93) (h8 : cs[8]? = some (.map (some mp))) (h : MapAt w mp N F M) (key : ByteArray) (hk : key.size ≤ maxLen) (hn : (M key).length ≤ 900000) :
    Calls Tryz.prog 20 #[.pointer (some ⟨gp, 0, none⟩), .string key] w (Cloned w (M key)) := by
  have c8 : w.cell? ⟨gp, 8, none⟩ = some (.map (some mp)) := (At.cell hg 8).trans h8
  obtain ⟨A, m, d, hr, hs, -⟩ := h.look Tryz.underlying89 (zero_panes w) key hk
  have cl := Lib.hid (pane_clone hs (by have := hs.len; omega))
  clear h hs hg h8
  go_enter Tryz.func20, Tryz.ntmps20
  go_wp2_with fail
  refine cl.out.mono ?_
  rintro e w1 ⟨v, rfl, o1, k1⟩
  obtain ⟨A1, d1, rfl⟩ := own_form o1
  go_wp2_with fail
  go_ret
  exact ⟨_, rfl, o1, k1⟩
end Go.Proofs.YtmioichjhiengaaGreat
