/-
  slices.Clone, Insert on panes.
-/
import Derived.Test.YtmioichjhiengaaRowK
import Derived.Test.YtmioichjhiengaaSame
import Derived.Lib.Overlaps
import Derived.Deep.RegionLaw
namespace Go.Proofs.Ytmioichjhiengaa
open Go.RowKit

def Pane.zero : Pane := ⟨⟨#[]⟩, ⟨0, 0⟩, ⟨0, 0, 0, 0⟩⟩
theorem row_pane : Row Try.prog 26 32 7 := row_of (b := 64) (z := .agg #[.string ⟨#[]⟩, .int .i64 0, .int .i64 0, .int .i64 0, .int .i64 0, .int .i64 0, .int .i64 0]) Try.underlying26 (by kernel_rfl) rfl (by decide) (by decide)
theorem size_pane : (Try.prog.info? 32).map (·.size) = some 7 := by
  obtain ⟨i, z, hi, -, hs, -⟩ := row_pane.info
  rw [hi, Option.map_some, hs]
/-- A row of panes of the call's own. -/
abbrev PRow (w : World) (base : Nat) (v : Value) (l : List Pane) : Prop := w.ownsRow base 32 7 v l.length (flat Pane.cells l)
theorem pane_cells1 {u : Value} {l : List Pane} (h : u ∈ flat Pane.cells l) : u.oneCell' = true := by
  obtain ⟨x, _, hx⟩ := List.mem_flatMap.1 h
  exact pane_one x u hx

def Cloned (w : World) (xs : List Pane) (e : Ending) (w' : World) : Prop := ∃ v, e = .returned v ∧ PRow w' w.heap.size v xs ∧ Keep none_ w w'
set_option maxRecDepth 100000 in
theorem pane_clone {w : World} {A : Option Addr} {n c : Nat} {xs : List Pane} (h : Sl Pane.cells 7 w A n c xs) (hn : n ≤ 900000) :
    Calls Try.prog 46 #[.slice A n c] w (Cloned w xs) := by
  have hlen := h.len
  subst hlen
  have q22 : ∀ (w : World) (a : Option Addr) (n c n' c' : Nat), (binOp .eql 26 (.slice a n c) (.slice none n' c')).run Try.prog w = .ok (.bool a.isNone) w := fun w a n c n' c' => Lib.run_eql_slice_nil w _ _ a n c n' c' Try.underlying26
  rcases A with _ | a
  · have h0 : xs.length = 0 := by
      rcases Nat.eq_zero_or_pos xs.length with h0 | h0
      · exact h0
      · obtain ⟨b, off, h1, -⟩ := h.at_ h0
        cases h1
    have : xs = [] := List.length_eq_zero_iff.1 h0
    subst this
    clear h hn
    go_enter Try.func46, Try.ntmps46
    go_wp2_with fail
    go_ret
    exact ⟨_, rfl, ⟨rfl, .inl ⟨rfl, rfl⟩⟩, Keep.refl _ _⟩
  · obtain ⟨hW0, rfl⟩ : ∃ hW0, hW0 = w.heap.size := ⟨_, rfl⟩
    have kk : Keep none_ w (w.alloc (.cells #[] 32)) := (by repeat' (first | assumption | with_reducible exact Keep.refl _ _ | with_reducible refine Keep.alloc ?_ _ | with_reducible refine Keep.drew ?_))
    have hown : (w.alloc (.cells #[] 32)).ownsRow w.heap.size 32 7 (.slice (some ⟨w.heap.size, 0, none⟩) 0 0) 0 (flat Pane.cells []) := own_empty (At.new w #[] 32) (Nat.le_refl _)
    have hsl := h.keep kk Off.none_
    obtain ⟨ab, ao, asp⟩ := a
    go_enter Try.func46, Try.ntmps46
    go_wp2_with (at_builtin; refine wpList_append_sl _ rfl _ _ _ rfl w.heap.size 32 row_pane pane_len pane_one _ 0 [] rfl hown (some ⟨ab, ao, asp⟩) xs.length c xs rfl hsl (by omega) (by simp) ?_)
    intro v' w' own' hg hb
    have k2 := keep_grown (S := none_) kk hown hg (Nat.le_refl _)
    clear h hsl hown kk hg hb
    go_wp2_with fail
    go_ret
    exact ⟨_, rfl, by simpa using own', k2⟩

/-- A list with one more element at a place. -/
def insL {α : Type} (l : List α) (i : Nat) (x : α) : List α := l.take i ++ x :: l.drop i
theorem insL_len {α : Type} (l : List α) (i : Nat) (x : α) : (insL l i x).length = l.length + 1 := by simp [insL]; omega
theorem insL_get? {α : Type} {l : List α} {i : Nat} {x : α} (hi : i ≤ l.length) (q : Nat) : (insL l i x)[q]? = if q < i then l[q]? else if q = i then some x else l[q - 1]? := by
  unfold insL
  have hl : (l.take i).length = i := by rw [List.length_take]; omega
  by_cases h : q < i
  · rw [if_pos h, List.getElem?_append_left (by omega), List.getElem?_take_of_lt h]
  · rw [if_neg h, List.getElem?_append_right (by omega), hl]
    by_cases h2 : q = i
    · subst h2
      rw [if_pos rfl, Nat.sub_self, List.getElem?_cons_zero]
    · rw [if_neg h2]
      obtain ⟨d, rfl⟩ : ∃ d, q = i + 1 + d := ⟨q - i - 1, by omega⟩
      rw [show i + 1 + d - i = d + 1 by omega, List.getElem?_cons_succ, List.getElem?_drop, show i + 1 + d - 1 = i + d by omega]

section
variable {α : Type} {enc : α → List Value} {k : Nat}
theorem ins_cells (hl : ∀ x, (enc x).length = k) {cur : Array Value} {cap : Nat} {l : List α} {i : Nat} {x : α} (hi : i ≤ l.length) (hget : ∀ q (hq : q < l.length) r, q < i → r < k → cur[q * k + r]? = (enc l[q])[r]?) (hsz : cur.size = cap * k) (hroom : l.length + 1 ≤ cap) :
    ∀ q (hq : q < (insL l i x).length) r, r < k → (putC (putC cur ((i + 1) * k) (flat enc (l.drop i))) (i * k) (enc x))[q * k + r]? = (enc (insL l i x)[q])[r]? := by
  intro q hq r hr
  have e := insL_get? (x := x) hi q
  rw [List.getElem?_eq_getElem hq] at e
  rw [insL_len] at hq
  have h2 : (i + 1) * k + (l.length - i) * k ≤ cap * k := by rw [← Nat.add_mul]; exact Nat.mul_le_mul_right _ (by omega)
  have h3 : i * k + 1 * k ≤ cap * k := by rw [← Nat.add_mul]; exact Nat.mul_le_mul_right _ (by omega)
  rw [← flat_one (enc := enc) x, putC_flat hl _ i [x] (by rw [putC_size, hsz]; exact h3) q r hr]
  by_cases h : i ≤ q ∧ q < i + [x].length
  · rw [dif_pos h]
    have hqi : q = i := by simp at h; omega
    subst hqi
    rw [if_neg (by omega), if_pos rfl] at e
    rw [Option.some.inj e]
    simp
  · rw [dif_neg h]
    have hne : q ≠ i := fun e => h (by subst e; simp)
    rw [putC_flat hl cur (i + 1) (l.drop i) (by rw [hsz, List.length_drop]; exact h2) q r hr]
    by_cases h4 : i + 1 ≤ q ∧ q < i + 1 + (l.drop i).length
    · rw [dif_pos h4]
      rw [if_neg (by omega), if_neg hne, List.getElem?_eq_getElem (by omega)] at e
      rw [Option.some.inj e]
      simp only [List.getElem_drop, show i + (q - (i + 1)) = q - 1 by omega]
    · rw [dif_neg h4]
      rw [List.length_drop] at h4
      have hqi : q < i := by omega
      rw [if_pos hqi, List.getElem?_eq_getElem (by omega)] at e
      rw [Option.some.inj e]
      exact hget q (by omega) r hqi hr
end

def Inserted (w : World) (S : Nat → Prop) (base : Nat) (l : List Pane) (e : Ending) (w' : World) : Prop := ∃ v, e = .returned v ∧ PRow w' base v l ∧ Keep S w w'
def own_of (v : Value) : Nat → Prop := fun b => v.ownBlock = some b
theorem overlaps_no (w : World) {vb g : Nat} {ca cb : Array Value} (hA : At w vb ca 32) (hB : At w g cb 32) (hne : vb ≠ g) (h0 : 0 < cb.size) (m vc o lb cc : Nat) :
    (callFunc 86 #[.slice (some ⟨vb, 0, none⟩) m vc, .slice (some ⟨g, o, none⟩) lb cc]).run Try.prog w = .ok (.value (.bool false)) w := by
  rw [run_callFunc_extern Try.func86 (by kernel_rfl) (by kernel_rfl) (by kernel_rfl) (e := Extern.SlicesOverlaps.overlaps #[26, 26] #[4]) (by kernel_rfl),
    Lib.run_overlaps_apart w 26 4 32 Try.underlying26 7 Try.sizeOf32 ⟨vb, 0, none⟩ ⟨g, o, none⟩ m vc lb cc hne 32 32 ca.size cb.size
      (by unfold At at hA; simp [World.shape?, hA]) (by unfold At at hB; simp [World.shape?, hB]) (by omega) (hA.frozen 0) (hA.frozen _)]
  rfl

set_option maxHeartbeats 4000000 in
set_option maxRecDepth 100000 in
/-- There is room: in place. -/
theorem insert_in {w : World} {base g n cap : Nat} {xs : List Pane} (own : w.ownsRow base 32 7 (.slice (some ⟨g, 0, none⟩) n cap) n (flat Pane.cells xs)) (i : Nat) (hi : i < n) (hroom : n + 1 ≤ cap) {vb : Nat} (p : Pane) (hv : At w vb p.cells.toArray 32) (hne : vb ≠ g) :
    Calls Try.prog 57 #[.slice (some ⟨g, 0, none⟩) n cap, .int .i64 i, .slice (some ⟨vb, 0, none⟩) 1 1] w (Inserted w (one g) base (insL xs i p)) := by
  obtain ⟨cur, hat, hsz, hnx, hnc, hmc, hb, hget⟩ := own_get pane_len (by decide) own
  have hc63 : cap ≤ 9223372036854775807 := by unfold maxLen at hmc; omega
  have hov := fun lb cc => overlaps_no w hv hat hne (by omega) 1 1 ((i + 1) * 7) lb cc
  have hz2 : ¬ ((i : Int) = (n : Int)) := by omega
  have hw1 : IntKind.i64.wrap ((i : Int) + 1) = ((i + 1 : Nat) : Int) := by rw [IntKind.wrap_i64]; omega
  -- the first copy: what stood from i on
  obtain ⟨cs, hcs⟩ : ∃ cs, cs = flat Pane.cells (xs.drop i) := ⟨_, rfl⟩
  have hcl : cs.length = (n - i) * 7 := by rw [hcs, flat_length pane_len, List.length_drop, hnx]
  have hcp1 : ∀ ty dl dc sl sc, Nat.min sl dl = n - i → (Builtin.copy_ #[26, 26] ty #[.slice (some ⟨g, (i + 1) * 7, none⟩) dl dc, .slice (some ⟨g, i * 7, none⟩) sl sc]).run Try.prog w.drew = .ok (goInt ((n - i : Nat))) (w.drew.setCells g ((i + 1) * 7) cs) := fun ty dl dc sl sc hm =>
    run_copy_k w.drew _ _ ty 32 7 g ((i + 1) * 7) dl dc ⟨g, i * 7, none⟩ sl sc (n - i) cs Try.underlying26 size_pane hm hcl
      (fun j v hj => by
        rw [Addr.add_lit]
        have h1 : j < (n - i) * 7 := by rw [← hcl]; exact (List.getElem?_eq_some_iff.1 hj).1
        rw [hcs, flat_drop pane_len xs i (by omega), List.getElem?_drop] at hj
        have h9 := At.cell hat (i * 7 + j)
        rw [← hj]
        refine Eq.trans h9 ?_
        have hj2 : i * 7 + j < n * 7 := by omega
        have h3 : (i * 7 + j) / 7 < xs.length := by omega
        have h4 := hget ((i * 7 + j) / 7) h3 ((i * 7 + j) % 7) (Nat.mod_lt _ (by decide))
        have h5 := flat_get pane_len xs ((i * 7 + j) / 7) h3 ((i * 7 + j) % 7) (Nat.mod_lt _ (by decide))
        rw [show (i * 7 + j) / 7 * 7 + (i * 7 + j) % 7 = i * 7 + j by omega] at h4 h5
        rw [h4, h5])
      (fun j hj => by
        rw [World.cell?_drew, At.cell hat, Array.getElem?_eq_getElem (by rw [hsz]; rw [hcl] at hj; omega)]; rfl)
      (fun j hj => At.frozen hat _) (fun v hv => by rw [hcs] at hv; exact pane_cells1 hv)
  obtain ⟨W1, hW1⟩ : ∃ W1, W1 = w.drew.setCells g ((i + 1) * 7) cs := ⟨_, rfl⟩
  have hat1 : At W1 g (putC cur ((i + 1) * 7) cs) 32 := by
    rw [hW1, setCells_stores]
    exact At.setL (w := w.drew) cs hat
  have hv1 : At W1 vb p.cells.toArray 32 := by
    rw [hW1, setCells_stores]
    exact At.setL_other (fun e => hne e.symm) cs (w := w.drew) hv
  have hk1 : Keep (one g) w W1 := by
    rw [hW1, setCells_stores]
    exact Keep.setL (S := one g) (fun _ => rfl) cs (Keep.refl _ _).drew
  have hcp2 : ∀ (W : World), (∀ x, W.cell? x = W1.cell? x) → (∀ x, W.frozen? x = W1.frozen? x) → ∀ ty dl dc, Nat.min 1 dl = 1 → (Builtin.copy_ #[26, 26] ty #[.slice (some ⟨g, i * 7, none⟩) dl dc, .slice (some ⟨vb, 0, none⟩) 1 1]).run Try.prog W = .ok (goInt (1 : Nat)) (W.setCells g (i * 7) p.cells) := fun W hWc hWf ty dl dc hm =>
    run_copy_k W _ _ ty 32 7 g (i * 7) dl dc ⟨vb, 0, none⟩ 1 1 1 p.cells Try.underlying26 size_pane hm (by rw [pane_len])
      (fun j v hj => by rw [Addr.add_lit, hWc, At.cell hv1, Nat.zero_add, List.getElem?_toArray, hj])
      (fun j hj => by rw [hWc, At.cell hat1, Array.getElem?_eq_getElem (by rw [putC_size, hsz]; rw [pane_len] at hj; omega)]; rfl)
      (fun j hj => by rw [hWf]; exact At.frozen hat1 _) (pane_one p)
  have hfin : Hid (Inserted w (one g) base (insL xs i p) (.returned (.slice (some ⟨g, 0, none⟩) (n + 1) cap)) (W1.setCells g (i * 7) p.cells)) := by
    refine ⟨_, rfl, ?_, ?_⟩
    · rw [setCells_stores]
      have ha := At.setL (w := W1) p.cells (o := i * 7) hat1
      have := own_of_get pane_len (by decide) ha (by rw [putC_size, putC_size, hsz]) (n := n + 1) (l := insL xs i p) (by rw [insL_len, hnx]) hroom hmc hb
        (by rw [hcs]; exact ins_cells pane_len (by omega) (fun q hq r _ hr => hget q hq r hr) hsz (by omega))
      show World.ownsRow _ _ _ _ _ (insL xs i p).length _
      rw [insL_len, ← hnx]
      exact this
    · rw [setCells_stores]
      exact Keep.setL (S := one g) (fun _ => rfl) p.cells hk1
  rw [← hW1] at hcp1
  have hi0 := Int.natCast_nonneg i
  have hb2 : ¬ (cap = i + 1) := by omega
  have hb4 : ¬ (cap = i) := by omega
  have hin : i ≤ n := by omega
  have hin1 : i ≤ n + 1 := by omega
  have hicap : i ≤ cap := by omega
  have hb5 : (i : Int) ≤ (n : Int) + 1 := by omega
  have hb6 : (0 : Int) ≤ (i : Int) + 1 := by omega
  subst hnx
  have hm2 : Nat.min 1 (xs.length + 1 - i) = 1 := by simp only [Nat.min_def]; split <;> omega
  have hm1 : Nat.min (xs.length + 1 - i) (xs.length - i) = xs.length - i := by simp only [Nat.min_def]; split <;> omega
  clear own hat hget hcs hcl hat1 hv1 hk1 hv hW1 hsz
  go_enter Try.func57, Try.ntmps57
  go_wp2_with (simp only [hov])
  go_region_law (refine step_copy_run rfl (.tmp 73) (.tmp 76) 26 26 rfl (.slice (some ⟨g, (i + 1) * 7, none⟩) (xs.length - i) (cap - (i + 1))) (.slice (some ⟨g, i * 7, none⟩) (xs.length + 1 - i) (cap - i)) (by simp [Act.eval, Act.put]) (by simp [Act.eval, Act.put]) (hcp1 _ _ _ _ _ hm1) ?_)
  go_wp2_with (at_builtin; refine wpList_copy_run rfl (.tmp 80) (.tmp 81) 26 26 rfl _ _ rfl rfl (hcp2 _ (fun _ => rfl) (fun _ => rfl) _ _ _ hm2) ?_)
  go_ret
  exact hfin.out
end Go.Proofs.Ytmioichjhiengaa
