/-
  A group's map: of each key its panes; Group.set, Group.Panes.
-/
import Derived.Test.YtmioichjhiengaaSMap
import Derived.Test.YtmioichjhiengaaPaneRow
namespace Go.Proofs.Ytmioichjhiengaa
open Go.RowKit

theorem wpList_delete_s {w : World} {b n : Nat} {f : ByteArray → Option Value} {ops : Array Oper} {rest : List Oper} {o : Oper} {a : Act} {Q : Exit → Act → World → Prop} (hgd : o.guard = none) (m x : Operand) (t e : TypeId)
    (hop : o.op = Op.call { callee := Callee.builtin Builtin.delete, args := #[m, x], argTypes := #[t, 9] }) (ht : Try.prog.underlying t = some (.map 9 e)) (hm : a.eval m = .map (some b)) (key : ByteArray) (hx : a.eval x = .string key)
    (h : SMap w b n f) (hk : key.size ≤ maxLen) (hK : ∀ w', SMap w' b n (fun y => if y = key then none else f y) → Keep (one b) w w' → wpList Try.prog ops Q rest (a.put o.dst (.tuple #[])) w') : wpList Try.prog ops Q (o :: rest) a w := by
  refine wpList_plain hgd fun K' hK' => ?_
  obtain ⟨w', hrun, r1, r2⟩ := h.delete ht key hk o.type
  unfold Oper.wp
  simp [execOp, hop, resolve, invoke, builtin, hm, hx, hrun, Result.andThen]
  exact hK' _ _ (hK w' r1 r2)

/-- Block mp is a map to slices of panes that lie in none of F's blocks. -/
def MapAt (w : World) (mp N : Nat) (F : Nat → Prop) (M : ByteArray → List Pane) : Prop :=
  ∃ n f, n ≤ N ∧ SMap w mp n f ∧ ∀ key : ByteArray, key.size ≤ maxLen → (f key = none ∧ M key = []) ∨ ∃ A m d, f key = some (.slice A m d) ∧ 0 < m ∧ Sl Pane.cells 7 w A m d (M key) ∧ ∀ a, A = some a → ¬ F a.block
section
variable {w w' : World} {mp N : Nat} {F F' : Nat → Prop} {M : ByteArray → List Pane}
theorem MapAt.lt (h : MapAt w mp N F M) : mp < w.heap.size := by
  obtain ⟨n, f, -, h, -⟩ := h
  exact h.lt
theorem MapAt.keep {S : Nat → Prop} (h : MapAt w mp N F M) (k : Keep S w w') (hS : ∀ q, S q → q < w.heap.size → F q) (hm : ¬ S mp) : MapAt w' mp N F M := by
  obtain ⟨n, f, hn, hs, hall⟩ := h
  refine ⟨n, f, hn, hs.keep k hm, fun key hk => ?_⟩
  rcases hall key hk with h | ⟨A, m, d, h1, h2, h3, h4⟩
  · exact .inl h
  · refine .inr ⟨A, m, d, h1, h2, ?_, h4⟩
    obtain ⟨b, off, rfl, hb, -⟩ := h3.at_ h2
    exact h3.keep k (fun a ha e => by
      have : a = ⟨b, off, none⟩ := by simpa using ha.symm
      subst this
      exact h4 _ rfl (hS _ e hb))
theorem MapAt.sets (h : MapAt w mp N F M) (hF : ∀ q, q < w.heap.size → F' q → F q) : MapAt w mp N F' M := by
  obtain ⟨n, f, hn, hs, hall⟩ := h
  refine ⟨n, f, hn, hs, fun key hk => ?_⟩
  rcases hall key hk with h | ⟨A, m, d, h1, h2, h3, h4⟩
  · exact .inl h
  · refine .inr ⟨A, m, d, h1, h2, h3, fun a ha e => ?_⟩
    obtain ⟨b, off, rfl, hb, -⟩ := h3.at_ h2
    have : a = ⟨b, off, none⟩ := by simpa using ha.symm
    subst this
    exact h4 _ rfl (hF _ hb e)
theorem MapAt.move {S : Nat → Prop} (h : MapAt w mp N F M) (k : Keep S w w') (hS : ∀ q, S q → q < w.heap.size → F q) (hm : ¬ S mp) (hF : ∀ q, q < w.heap.size → F' q → F q) : MapAt w' mp N F' M := by
  obtain ⟨n, f, hn, hs, hall⟩ := h
  refine ⟨n, f, hn, hs.keep k hm, fun key hk => ?_⟩
  rcases hall key hk with h | ⟨A, m, d, h1, h2, h3, h4⟩
  · exact .inl h
  · obtain ⟨b, off, rfl, hb, -⟩ := h3.at_ h2
    refine .inr ⟨_, m, d, h1, h2, h3.keep k (fun a ha e => ?_), fun a ha e => ?_⟩
    · have : a = ⟨b, off, none⟩ := by simpa using ha.symm
      subst this
      exact h4 _ rfl (hS _ e hb)
    · have : a = ⟨b, off, none⟩ := by simpa using ha.symm
      subst this
      exact h4 _ rfl (hF _ hb e)
theorem MapAt.made (w : World) (F : Nat → Prop) : MapAt (w.alloc (.map #[] 0)) w.heap.size 0 F (fun _ => []) :=
  ⟨0, _, Nat.le_refl _, smap_made w, fun key _ => .inl ⟨rfl, rfl⟩⟩
/-- What a look-up yields. -/
theorem MapAt.look (h : MapAt w mp N F M) {t e : TypeId} (ht : Try.prog.underlying t = some (.map 9 e)) (hz : (zeroValue e).run Try.prog w = .ok (.slice none 0 0) w) (key : ByteArray) (hk : key.size ≤ maxLen) :
    ∃ A m d, (Instr.lookup t (.map (some mp)) (.string key) false).run Try.prog w = .ok (.slice A m d) w ∧ Sl Pane.cells 7 w A m d (M key) ∧ ∀ a, A = some a → ¬ F a.block := by
  obtain ⟨n, f, hn, hs, hall⟩ := h
  have hr := hs.look ht hz key hk
  rcases hall key hk with ⟨h1, h2⟩ | ⟨A, m, d, h1, h2, h3, h4⟩
  · rw [h1] at hr
    exact ⟨none, 0, 0, hr, by rw [h2]; exact Sl.nil _ _ _ _ _ (by unfold maxLen; omega), fun a ha => by cases ha⟩
  · rw [h1] at hr
    exact ⟨A, m, d, hr, h3, h4⟩
/-- .. in each world that keeps all. -/
theorem MapAt.looks (h : MapAt w mp N F M) {t e : TypeId} (ht : Try.prog.underlying t = some (.map 9 e)) (hz : ∀ w, (zeroValue e).run Try.prog w = .ok (.slice none 0 0) w) (key : ByteArray) (hk : key.size ≤ maxLen) :
    ∃ A m d, (∀ W', Keep none_ w W' → (Instr.lookup t (.map (some mp)) (.string key) false).run Try.prog W' = .ok (.slice A m d) W') ∧ Sl Pane.cells 7 w A m d (M key) ∧ ∀ a, A = some a → ¬ F a.block := by
  obtain ⟨n, f, hn, hs, hall⟩ := h
  have hr := fun W' (kz : Keep none_ w W') => (hs.keep kz (fun e => e)).look ht (hz W') key hk
  rcases hall key hk with ⟨h1, h2⟩ | ⟨A, m, d, h1, h2, h3, h4⟩
  · rw [h1] at hr
    exact ⟨none, 0, 0, hr, by rw [h2]; exact Sl.nil _ _ _ _ _ (by unfold maxLen; omega), fun a ha => by cases ha⟩
  · rw [h1] at hr
    exact ⟨A, m, d, hr, h3, h4⟩
/-- A key's panes are set anew. -/
def setM (M : ByteArray → List Pane) (key : ByteArray) (L : List Pane) : ByteArray → List Pane := fun k => if k = key then L else M k
end
theorem zero_panes (w : World) : (zeroValue 26).run Try.prog w = .ok (.slice none 0 0) w := by kernel_rfl
set_option maxRecDepth 100000 in
theorem group_set {w : World} {gp mp N : Nat} {F : Nat → Prop} {M : ByteArray → List Pane} {cs : Array Value} (hg : At w gp cs 112) (h8 : cs[8]? = some (.map (some mp))) (h : MapAt w mp N F M) (hF : F mp) (hN : N < maxLen) (key : ByteArray) (hk : key.size ≤ maxLen)
    {A : Option Addr} {n d : Nat} {L : List Pane} (hL : Sl Pane.cells 7 w A n d L) (hA : ∀ a, A = some a → ¬ F a.block) :
    Calls Try.prog 89 #[.pointer (some ⟨gp, 0, none⟩), .string key, .slice A n d] w fun e w' => e = .returned (.tuple #[]) ∧ MapAt w' mp (N + 1) F (setM M key L) ∧ Keep (one mp) w w' := by
  have c8 : w.cell? ⟨gp, 8, none⟩ = some (.map (some mp)) := (At.cell hg 8).trans h8
  obtain ⟨q, f, hq, hs, hall⟩ := h
  have hln := hL.len
  by_cases h0 : n = 0
  · have hLe : L = [] := List.length_eq_zero_iff.1 (by omega)
    subst h0
    clear hln
    go_enter Try.func89, Try.ntmps89
    go_wp2_with (at_delete; refine wpList_delete_s rfl _ _ _ _ rfl Try.underlying108 rfl key rfl hs hk ?_)
    intro w' hs' k'
    have hfin : MapAt w' mp (N + 1) F (setM M key L) := by
      refine ⟨q, _, by omega, hs', fun k9 hk9 => ?_⟩
      unfold setM
      by_cases e : k9 = key
      · simp only [e, if_true]
        exact .inl ⟨trivial, hLe⟩
      · simp only [e, if_false]
        rcases hall k9 hk9 with h | ⟨A, m, d, h1, h2, h3, h4⟩
        · exact .inl h
        · exact .inr ⟨A, m, d, h1, h2, h3.keep k' (fun a ha e9 => h4 a ha (by unfold one at e9; rw [e9]; exact hF)), h4⟩
    clear hs hs' hall hL hLe
    go_wp2_with fail
    exact bodyPost_ret (v := .tuple #[]) (results_none Try.results89 _ _ _) rfl ⟨rfl, hfin, k'⟩
  · have hn1 : ((n : Int) == 0) = false := by simp; omega
    obtain ⟨w', hrun, hs', k'⟩ := hs.store (t := 108) Try.underlying108 (by omega) key hk (.slice A n d)
    have hfin : MapAt w' mp (N + 1) F (setM M key L) := by
      refine ⟨q + 1, _, by omega, hs', fun k9 hk9 => ?_⟩
      unfold setM
      by_cases e : k9 = key
      · simp only [e, if_true]
        exact .inr ⟨A, n, d, rfl, by omega, hL.keep k' (fun a ha e9 => hA a ha (by unfold one at e9; rw [e9]; exact hF)), hA⟩
      · simp only [e, if_false]
        rcases hall k9 hk9 with h | ⟨A, m, d, h1, h2, h3, h4⟩
        · exact .inl h
        · exact .inr ⟨A, m, d, h1, h2, h3.keep k' (fun a ha e9 => h4 a ha (by unfold one at e9; rw [e9]; exact hF)), h4⟩
    clear hs hs' hall hL hln
    go_enter Try.func89, Try.ntmps89
    go_wp2_with fail
    refine bodyPost_end (v := .tuple #[]) ?_ ?_ ?_
    · exact results_none Try.results89 _ _ _
    · rfl
    · exact ⟨rfl, hfin, k'⟩
theorem group_panes {w : World} {gp mp N : Nat} {F : Nat → Prop} {M : ByteArray → List Pane} {cs : Array Value} (hg : At w gp cs 112) (h8 : cs[8]? = some (.map (some mp))) (h : MapAt w mp N F M) (key : ByteArray) (hk : key.size ≤ maxLen) (hn : (M key).length ≤ 900000) :
    Calls Try.prog 38 #[.pointer (some ⟨gp, 0, none⟩), .string key] w (Cloned w (M key)) := by
  have c8 : w.cell? ⟨gp, 8, none⟩ = some (.map (some mp)) := (At.cell hg 8).trans h8
  obtain ⟨A, m, d, hr, hs, -⟩ := h.look Try.underlying108 (zero_panes w) key hk
  have cl := Lib.hid (pane_clone hs (by have := hs.len; omega))
  clear h hs hg h8
  go_enter Try.func38, Try.ntmps38
  go_wp2_with fail
  refine cl.out.mono ?_
  rintro e w1 ⟨v, rfl, o1, k1⟩
  obtain ⟨A1, d1, rfl⟩ := own_form o1
  go_wp2_with fail
  go_ret
  exact ⟨_, rfl, o1, k1⟩
end Go.Proofs.Ytmioichjhiengaa
