/-
  Texts of one kind, one behind the other.
-/
import Derived.WalkKit
import Derived.ProofKit
import Derived.OpenShut
import Derived.Carry
import Derived.SizedLaws
import Derived.ChangeOld
import Derived.Deep.Slices
import Derived.Deep.Strs
import Derived.Test.YtmioichjhiengaaGreatProg
import Derived.KernelRfl
import Derived.Below
import Derived.Deep.QuietTactic
import Derived.BigQuiet
import Derived.Maps.AppendAt
import Derived.Deep.AppendLies
import Derived.OwnWalk
import Derived.RegionTactic
import Derived.Laws.MakeOwn
import Derived.Laws.StructEq
import Derived.StillTail
import Derived.Lib.Hide
import Derived.Outline
import Derived.LaidEql
set_option linter.unusedSimpArgs false
set_option linter.unusedVariables false
/-
  How arguments that came in read, as Lean's own values: a reader says what the cells of a value of a type are; 'Opens': whatever can be read as data is read by it.
-/
namespace Go.Proofs.YtmioichjhiengaaGreat
open Go.RowKit Go.ChangeShapes Go.WideShapes Go.Deep

/-- The cells cs of world w read as a. -/
abbrev Rdr (α : Type) := World → α → List Value → Prop
def Opens {α : Type} (P : Program) (t : TypeId) (R : Rdr α) : Prop :=
  ∀ (H : Type) (enc : TypeId × Value → H) (w : World) (fuel : Nat) (cs : List Value) (x : DataW H × List MemPlace),
    DataW.trod enc P w 0 (fun _ => true) true fuel t cs = some x → ∃ a, R w a cs

def kindLo : IntKind → Int | .i8 => -128 | .i16 => -32768 | .i32 => -2147483648 | .i64 => -9223372036854775808 | _ => 0
def kindHi : IntKind → Int | .i8 => 127 | .i16 => 32767 | .i32 => 2147483647 | .i64 => 9223372036854775807 | .u8 => 255 | .u16 => 65535 | .u32 => 4294967295 | .u64 => 18446744073709551615

theorem wf_i64 {n : Int} : (Lit.int .i64 n).wf = true ↔ -9223372036854775808 ≤ n ∧ n ≤ 9223372036854775807 := by
  simp [Lit.wf, IntKind.min, IntKind.max, IntKind.signed, IntKind.bits] <;> omega
theorem wf_u8 {n : Int} : (Lit.int .u8 n).wf = true ↔ 0 ≤ n ∧ n ≤ 255 := by
  simp [Lit.wf, IntKind.min, IntKind.max, IntKind.signed, IntKind.bits] <;> omega

def I64 (n : Int) : Prop := -9223372036854775808 ≤ n ∧ n ≤ 9223372036854775807

def rInt : Rdr Int := fun _ n cs => cs = [.int .i64 n] ∧ I64 n
def rBool : Rdr Bool := fun _ b cs => cs = [.bool b]
def rStr : Rdr ByteArray := fun _ s cs => cs = [.string s] ∧ s.size ≤ maxLen
/-- A slice, its elements of so many cells each. -/
def rSlice {α : Type} (size : Nat) (R : Rdr α) : Rdr (List α) := fun w xs cs =>
  ∃ ao len cap, cs = [.slice ao len cap] ∧ len = xs.length ∧ len ≤ cap ∧ cap ≤ maxLen ∧ (0 < len → ∃ b off, ao = some ⟨b, off, none⟩ ∧ b < w.heap.size ∧
    ∀ i (h : i < xs.length), ∃ es, R w xs[i] es ∧ es.length = size ∧ ∀ j, j < size → w.cell? ⟨b, off + i * size + j, none⟩ = es[j]?)

section
variable {P : Program} {t : TypeId}
theorem opens_int (ht : P.underlying t = some (.int .i64)) : Opens P t rInt := by
  intro H enc w fuel cs x h
  obtain ⟨n, rfl, _, hw⟩ := DataW.trod_int ht h
  exact ⟨n, rfl, wf_i64.1 hw⟩
theorem opens_bool (ht : P.underlying t = some .bool) : Opens P t rBool := by
  intro H enc w fuel cs x h
  obtain ⟨n, rfl, _⟩ := DataW.trod_bool ht h
  exact ⟨n, rfl⟩
theorem opens_str (ht : P.underlying t = some .string) : Opens P t rStr := by
  intro H enc w fuel cs x h
  obtain ⟨n, rfl, _, hw⟩ := DataW.trod_string ht h
  exact ⟨n, rfl, hw⟩
theorem opens_slice {α : Type} {e : TypeId} {size : Nat} {R : Rdr α} (ht : P.underlying t = some (.slice e)) (hs : P.cellsOf e = size) (hp : 0 < size) (hR : Opens P e R) : Opens P t (rSlice size R) := by
  intro H enc w fuel cs x h
  subst hs
  rcases open_slice ht h with ⟨rfl, _⟩ | ⟨a, len, cap, m, n, D, Pl, rfl, _, hl, hm, hmm, _, hx⟩
  · exact ⟨[], none, 0, 0, rfl, rfl, Nat.le_refl _, by decide, fun h => absurd h (Nat.lt_irrefl _)⟩
  · have hmm : m = cap := by simpa using hmm
    subst hmm
    classical
    have hch : ∀ i, i < len → ∃ y, ∃ es, R w y es ∧ es.length = P.cellsOf e ∧ ∀ j, j < P.cellsOf e → w.cell? ((a.add (i * P.cellsOf e)).add j) = es[j]? := by
      intro i hi
      obtain ⟨cs', h1, h2⟩ := hx i (by omega)
      obtain ⟨y, hy⟩ := hR H enc w n cs' _ h2
      obtain ⟨_, hlen, hc⟩ := World.cells?_some h1
      exact ⟨y, cs', hy, hlen, hc⟩
    by_cases h0 : 0 < len
    · have hsp : a.spot = none := by
        obtain ⟨cs', h1, _⟩ := hx 0 (by omega)
        obtain ⟨_, hlen, hc⟩ := World.cells?_some h1
        have h2 := hc 0 hp
        rw [Nat.zero_mul, add_add, Nat.add_zero] at h2
        have h3 : cs'[0]? ≠ none := by rw [List.getElem?_eq_getElem (by omega)]; exact fun h => by cases h
        rw [← h2] at h3
        by_cases hs : a.spot.isSome
        · exfalso; apply h3; simp [Addr.add, World.cell?, hs]; split <;> rfl
        · simpa using hs
      obtain ⟨ab, ao, asp⟩ := a
      simp only at hsp
      subst hsp
      have inst : Inhabited α := ⟨Classical.choose (hch 0 h0)⟩
      obtain ⟨f, hf⟩ := choose_lt (α := α) hch
      have hadd : ∀ i j : Nat, ((⟨ab, ao, none⟩ : Addr).add i).add j = ⟨ab, ao + i + j, none⟩ := by
        intro i j; rw [add_add]; unfold Addr.add; split
        · rename_i h; have : i = 0 ∧ j = 0 := by omega
          obtain ⟨rfl, rfl⟩ := this; rfl
        · simp [Nat.add_assoc]
      refine ⟨(List.range len).map f, some ⟨ab, ao, none⟩, len, m, rfl, by simp, hl, hm, fun _ => ⟨ab, ao, rfl, ?_, ?_⟩⟩
      · obtain ⟨es, _, hl0, hc0⟩ := hf 0 h0
        have h2 := hc0 0 hp
        rw [hadd] at h2
        have h3 : es[0]? ≠ none := by rw [List.getElem?_eq_getElem (by omega)]; exact fun h => by cases h
        rw [← h2] at h3
        obtain ⟨v, hv⟩ := Option.ne_none_iff_exists'.1 h3
        exact World.block_lt_of_cell? w ⟨ab, ao + 0 * P.cellsOf e + 0, none⟩ hv
      · intro i hi
        have hi' : i < len := by simpa using hi
        obtain ⟨es, h1, h2, h3⟩ := hf i hi'
        refine ⟨es, by simpa using h1, h2, fun j hj => ?_⟩
        rw [← h3 j hj, hadd]
    · have : len = 0 := by omega
      subst this
      exact ⟨[], some a, 0, m, rfl, rfl, hl, hm, fun h => absurd h (Nat.lt_irrefl _)⟩
/-- A field of a struct. -/
theorem opens_field {α : Type} {fs : Array Field} {i : Nat} {f : Field} {R : Rdr α} {o m : Nat} (ht : P.underlying t = some (.struct fs)) (hf : fs[i]? = some f) (ho : f.offset = o) (hm : P.cellsOf f.type = m) (hR : Opens P f.type R) :
    Opens P t (fun w a cs => R w a ((cs.drop o).take m)) := by
  intro H enc w fuel cs x h
  obtain ⟨xs, n, _, _, _, hl, hx⟩ := DataW.trod_struct ht h
  have h1 := hx i f hf
  have hi : i < fs.size := (Array.getElem?_eq_some_iff.1 hf).1
  rw [List.getElem?_eq_getElem (by omega), ho, hm] at h1
  exact hR H enc w n _ _ h1
theorem opens_len {fs : Array Field} {n : Nat} (ht : P.underlying t = some (.struct fs)) (hm : P.cellsOf t = n) {H : Type} {enc : TypeId × Value → H} {w : World} {fuel : Nat} {cs : List Value} {x : DataW H × List MemPlace}
    (h : DataW.trod enc P w 0 (fun _ => true) true fuel t cs = some x) : cs.length = n := by
  obtain ⟨xs, k, _, _, hl, _⟩ := DataW.trod_struct ht h
  rw [hl, hm]
end

/-! ### Arguments -/
section
variable {H : Type} {enc : TypeId × Value → H} {P : Program} {W : World} {base : Nat} {t : TypeId} {v : Value} {d : DataW H} {ps : List MemPlace}
/-- An argument of a struct type: its cells. -/
theorem arg_struct {α : Type} {R : Rdr α} {fs : Array Field} (ht : P.underlying t = some (.struct fs)) (hR : Opens P t R) (hval : Value.okWide P W .any base t v) (hd : DataW.Trod enc P W 0 (fun _ => true) true t v d ps) :
    ∃ a cs, v = .agg cs ∧ R W a cs.toList := by
  obtain ⟨fuel, hf⟩ := hd
  obtain ⟨a, ha⟩ := hR H enc W fuel _ _ hf
  simp only [Value.okWide, ht] at hval
  obtain ⟨cs, rfl, _⟩ := hval
  exact ⟨a, cs, rfl, by simpa [Value.cells] using ha⟩
theorem arg_int (ht : P.underlying t = some (.int .i64)) (hval : Value.okWide P W .any base t v) (hd : DataW.Trod enc P W 0 (fun _ => true) true t v d ps) :
    ∃ n, v = .int .i64 n ∧ I64 n := by
  obtain ⟨n, rfl, _, _, hw⟩ := open_int ht hval hd
  exact ⟨n, rfl, wf_i64.1 hw⟩
theorem arg_u8 (ht : P.underlying t = some (.int .u8)) (hval : Value.okWide P W .any base t v) (hd : DataW.Trod enc P W 0 (fun _ => true) true t v d ps) :
    ∃ n : Int, v = .int .u8 n ∧ 0 ≤ n ∧ n ≤ 255 := by
  obtain ⟨n, rfl, _, _, hw⟩ := open_int ht hval hd
  have := wf_u8.1 hw
  exact ⟨n, rfl, this.1, this.2⟩
theorem arg_bool (ht : P.underlying t = some .bool) (hval : Value.okWide P W .any base t v) (hd : DataW.Trod enc P W 0 (fun _ => true) true t v d ps) :
    ∃ n, v = .bool n := by
  obtain ⟨n, rfl, _⟩ := open_bool ht hval hd
  exact ⟨n, rfl⟩
theorem arg_str (ht : P.underlying t = some .string) (hval : Value.okWide P W .any base t v) (hd : DataW.Trod enc P W 0 (fun _ => true) true t v d ps) :
    ∃ s, v = .string s ∧ s.size ≤ maxLen := by
  obtain ⟨n, rfl, _, _, hw⟩ := Go.ChangeMaps.open_string ht hval hd
  exact ⟨n, rfl, hw⟩
theorem arg_slice {α : Type} {R : Rdr α} {size : Nat} {e : TypeId} (ht : P.underlying t = some (.slice e)) (hR : Opens P t (rSlice size R)) (hval : Value.okWide P W .any base t v) (hd : DataW.Trod enc P W 0 (fun _ => true) true t v d ps) :
    ∃ xs, rSlice size R W xs [v] := by
  obtain ⟨fuel, hf⟩ := hd
  obtain ⟨xs, ao, len, cap, hv, hr⟩ := hR H enc W fuel _ _ hf
  simp only [Value.okWide, ht] at hval
  cases v with
  | slice a l c => exact ⟨xs, ao, len, cap, by simpa [Value.cells] using hv, hr⟩
  | _ => simp [Cell.okWide, ht, Cell.ok] at hval

/-- The end of a law's row: it returned true, and nothing that was there has turned. -/
theorem law_post {f : Func} {s : ChangeSpec} {args : Array Value} {ds gs : List (DataW H)} {before : List MemPlace} {W' : World} {T : TypeId} {ps' : List MemPlace}
    (hv : s.vars = []) (hs : s.fn H (ds ++ gs) = { results := [.lit (.bool true)], args := ds }) (hr : f.resultTypes.toList = [T]) (hT : P.underlying T = some .bool)
    (hW : DataW.Whole enc P f.params.toList s.vars false W args.toList ds gs before) (hb : Below W.heap.size W W')
    (hargs : DataW.TrodAll enc P W' 0 (fun b => decide (b < W.heap.size)) true f.params.toList args.toList ds ps') :
    ∃ v, Ending.returned (.bool true) = .returned v ∧ s.post enc P f false true false false W args v W' := by
  refine ⟨_, rfl, ds, gs, before, [], ps', [], hW, ?_, ?_, ?_, hb.frame _, fun h => by cases h⟩
  · have hsz : f.resultTypes.size = 1 := by rw [← Array.length_toList, hr]; rfl
    rw [hs, hr, hsz]
    exact trodAll_mk1 (shut_bool hT _)
  · rw [hs]; exact hargs
  · rw [hs, hv]; exact (by rfl : DataW.TrodVars enc P W' _ [] [] [])
end
end Go.Proofs.YtmioichjhiengaaGreat

/-
  Go's struct types as Lean structures, their cells in memory, and that whatever reads as data reads as such. WRITTEN BY PROGRAM (wip/gendata.py).
-/
namespace Go.Proofs.YtmioichjhiengaaGreat
open Go.RowKit
theorem laid : laidOutB Tryz.prog = true := by kernel_rfl

structure Span where
  s : Int
  e : Int
instance : Inhabited Span := ⟨⟨0, 0⟩⟩
abbrev Span.cells (x : Span) : List Value := [.int .i64 x.s, .int .i64 x.e]
attribute [go_sem] Span.cells
def Span.ok (x : Span) : Prop := I64 x.s ∧ I64 x.e
theorem Span.cells_length (x : Span) : x.cells.length = 2 := rfl
theorem cellsOf_Span : Tryz.prog.cellsOf 84 = 2 := by kernel_rfl
def rSpan : Rdr Span := fun _ x cs => cs = x.cells ∧ x.ok
theorem opens_Span : Opens Tryz.prog 84 rSpan := by
  intro H enc w fuel cs x h
  have hl := opens_len Tryz.underlying84 cellsOf_Span h
  obtain ⟨a0, h0⟩ := opens_field (i := 0) (o := 0) (m := 1) Tryz.underlying84 rfl rfl (by kernel_rfl) (opens_int (by kernel_rfl)) H enc w fuel cs x h
  obtain ⟨a1, h1⟩ := opens_field (i := 1) (o := 1) (m := 1) Tryz.underlying84 rfl rfl (by kernel_rfl) (opens_int (by kernel_rfl)) H enc w fuel cs x h
  match cs, hl with
  | [c0, c1], _ =>
    simp only [List.drop, List.take, rInt, rBool, rStr] at h0 h1
    refine ⟨⟨a0, a1⟩, ?_, ⟨h0.2, h1.2⟩⟩
    have e0 := h0.1
    have e1 := h1.1
    simp only [Span.cells]
    simp only [List.cons.injEq, and_true] at e0 e1 ⊢
    simp [e0, e1]
structure Agg where
  count : Int
  sum : Int
  lo : Int
  hi : Int
instance : Inhabited Agg := ⟨⟨0, 0, 0, 0⟩⟩
abbrev Agg.cells (x : Agg) : List Value := [.int .i64 x.count, .int .i64 x.sum, .int .i64 x.lo, .int .i64 x.hi]
attribute [go_sem] Agg.cells
def Agg.ok (x : Agg) : Prop := I64 x.count ∧ I64 x.sum ∧ I64 x.lo ∧ I64 x.hi
theorem Agg.cells_length (x : Agg) : x.cells.length = 4 := rfl
theorem cellsOf_Agg : Tryz.prog.cellsOf 86 = 4 := by kernel_rfl
def rAgg : Rdr Agg := fun _ x cs => cs = x.cells ∧ x.ok
theorem opens_Agg : Opens Tryz.prog 86 rAgg := by
  intro H enc w fuel cs x h
  have hl := opens_len Tryz.underlying86 cellsOf_Agg h
  obtain ⟨a0, h0⟩ := opens_field (i := 0) (o := 0) (m := 1) Tryz.underlying86 rfl rfl (by kernel_rfl) (opens_int (by kernel_rfl)) H enc w fuel cs x h
  obtain ⟨a1, h1⟩ := opens_field (i := 1) (o := 1) (m := 1) Tryz.underlying86 rfl rfl (by kernel_rfl) (opens_int (by kernel_rfl)) H enc w fuel cs x h
  obtain ⟨a2, h2⟩ := opens_field (i := 2) (o := 2) (m := 1) Tryz.underlying86 rfl rfl (by kernel_rfl) (opens_int (by kernel_rfl)) H enc w fuel cs x h
  obtain ⟨a3, h3⟩ := opens_field (i := 3) (o := 3) (m := 1) Tryz.underlying86 rfl rfl (by kernel_rfl) (opens_int (by kernel_rfl)) H enc w fuel cs x h
  match cs, hl with
  | [c0, c1, c2, c3], _ =>
    simp only [List.drop, List.take, rInt, rBool, rStr] at h0 h1 h2 h3
    refine ⟨⟨a0, a1, a2, a3⟩, ?_, ⟨h0.2, h1.2, h2.2, h3.2⟩⟩
    have e0 := h0.1
    have e1 := h1.1
    have e2 := h2.1
    have e3 := h3.1
    simp only [Agg.cells]
    simp only [List.cons.injEq, and_true] at e0 e1 e2 e3 ⊢
    simp [e0, e1, e2, e3]
structure Config where
  kind : Int
  size : Int
  slide : Int
  gap : Int
  late : Int
  shards : Int
  groups : Int
  cap : Int
instance : Inhabited Config := ⟨⟨0, 0, 0, 0, 0, 0, 0, 0⟩⟩
abbrev Config.cells (x : Config) : List Value := [.int .i64 x.kind, .int .i64 x.size, .int .i64 x.slide, .int .i64 x.gap, .int .i64 x.late, .int .i64 x.shards, .int .i64 x.groups, .int .i64 x.cap]
attribute [go_sem] Config.cells
def Config.ok (x : Config) : Prop := I64 x.kind ∧ I64 x.size ∧ I64 x.slide ∧ I64 x.gap ∧ I64 x.late ∧ I64 x.shards ∧ I64 x.groups ∧ I64 x.cap
theorem Config.cells_length (x : Config) : x.cells.length = 8 := rfl
theorem cellsOf_Config : Tryz.prog.cellsOf 23 = 8 := by kernel_rfl
def rConfig : Rdr Config := fun _ x cs => cs = x.cells ∧ x.ok
theorem opens_Config : Opens Tryz.prog 23 rConfig := by
  intro H enc w fuel cs x h
  have hl := opens_len Tryz.underlying23 cellsOf_Config h
  obtain ⟨a0, h0⟩ := opens_field (i := 0) (o := 0) (m := 1) Tryz.underlying23 rfl rfl (by kernel_rfl) (opens_int (by kernel_rfl)) H enc w fuel cs x h
  obtain ⟨a1, h1⟩ := opens_field (i := 1) (o := 1) (m := 1) Tryz.underlying23 rfl rfl (by kernel_rfl) (opens_int (by kernel_rfl)) H enc w fuel cs x h
  obtain ⟨a2, h2⟩ := opens_field (i := 2) (o := 2) (m := 1) Tryz.underlying23 rfl rfl (by kernel_rfl) (opens_int (by kernel_rfl)) H enc w fuel cs x h
  obtain ⟨a3, h3⟩ := opens_field (i := 3) (o := 3) (m := 1) Tryz.underlying23 rfl rfl (by kernel_rfl) (opens_int (by kernel_rfl)) H enc w fuel cs x h
  obtain ⟨a4, h4⟩ := opens_field (i := 4) (o := 4) (m := 1) Tryz.underlying23 rfl rfl (by kernel_rfl) (opens_int (by kernel_rfl)) H enc w fuel cs x h
  obtain ⟨a5, h5⟩ := opens_field (i := 5) (o := 5) (m := 1) Tryz.underlying23 rfl rfl (by kernel_rfl) (opens_int (by kernel_rfl)) H enc w fuel cs x h
  obtain ⟨a6, h6⟩ := opens_field (i := 6) (o := 6) (m := 1) Tryz.underlying23 rfl rfl (by kernel_rfl) (opens_int (by kernel_rfl)) H enc w fuel cs x h
  obtain ⟨a7, h7⟩ := opens_field (i := 7) (o := 7) (m := 1) Tryz.underlying23 rfl rfl (by kernel_rfl) (opens_int (by kernel_rfl)) H enc w fuel cs x h
  match cs, hl with
  | [c0, c1, c2, c3, c4, c5, c6, c7], _ =>
    simp only [List.drop, List.take, rInt, rBool, rStr] at h0 h1 h2 h3 h4 h5 h6 h7
    refine ⟨⟨a0, a1, a2, a3, a4, a5, a6, a7⟩, ?_, ⟨h0.2, h1.2, h2.2, h3.2, h4.2, h5.2, h6.2, h7.2⟩⟩
    have e0 := h0.1
    have e1 := h1.1
    have e2 := h2.1
    have e3 := h3.1
    have e4 := h4.1
    have e5 := h5.1
    have e6 := h6.1
    have e7 := h7.1
    simp only [Config.cells]
    simp only [List.cons.injEq, and_true] at e0 e1 e2 e3 e4 e5 e6 e7 ⊢
    simp [e0, e1, e2, e3, e4, e5, e6, e7]
structure Pane where
  key : ByteArray
  span : Span
  agg : Agg
instance : Inhabited Pane := ⟨⟨ByteArray.empty, default, default⟩⟩
abbrev Pane.cells (x : Pane) : List Value := [.string x.key, .int .i64 x.span.s, .int .i64 x.span.e, .int .i64 x.agg.count, .int .i64 x.agg.sum, .int .i64 x.agg.lo, .int .i64 x.agg.hi]
attribute [go_sem] Pane.cells
def Pane.ok (x : Pane) : Prop := x.key.size ≤ maxLen ∧ x.span.ok ∧ x.agg.ok
theorem Pane.cells_length (x : Pane) : x.cells.length = 7 := rfl
theorem cellsOf_Pane : Tryz.prog.cellsOf 88 = 7 := by kernel_rfl
def rPane : Rdr Pane := fun _ x cs => cs = x.cells ∧ x.ok
theorem opens_Pane : Opens Tryz.prog 88 rPane := by
  intro H enc w fuel cs x h
  have hl := opens_len Tryz.underlying88 cellsOf_Pane h
  obtain ⟨a0, h0⟩ := opens_field (i := 0) (o := 0) (m := 1) Tryz.underlying88 rfl rfl (by kernel_rfl) (opens_str (by kernel_rfl)) H enc w fuel cs x h
  obtain ⟨a1, h1⟩ := opens_field (i := 1) (o := 1) (m := 2) Tryz.underlying88 rfl rfl (by kernel_rfl) opens_Span H enc w fuel cs x h
  obtain ⟨a2, h2⟩ := opens_field (i := 2) (o := 3) (m := 4) Tryz.underlying88 rfl rfl (by kernel_rfl) opens_Agg H enc w fuel cs x h
  match cs, hl with
  | [c0, c1, c2, c3, c4, c5, c6], _ =>
    simp only [List.drop, List.take, rInt, rBool, rStr, rAgg, rSpan] at h0 h1 h2
    refine ⟨⟨a0, a1, a2⟩, ?_, ⟨h0.2, h1.2, h2.2⟩⟩
    have e0 := h0.1
    have e1 := h1.1
    have e2 := h2.1
    simp only [Pane.cells, Agg.cells, Span.cells] at e0 e1 e2 ⊢
    simp only [List.cons.injEq, and_true] at e0 e1 e2 ⊢
    simp [e0, e1, e2]
structure Call where
  op : Int
  key : ByteArray
  time : Int
  value : Int
  fin : Int
  group : Int
  shard : Int
instance : Inhabited Call := ⟨⟨0, ByteArray.empty, 0, 0, 0, 0, 0⟩⟩
abbrev Call.cells (x : Call) : List Value := [.int .i64 x.op, .string x.key, .int .i64 x.time, .int .i64 x.value, .int .i64 x.fin, .int .i64 x.group, .int .i64 x.shard]
attribute [go_sem] Call.cells
def Call.ok (x : Call) : Prop := I64 x.op ∧ x.key.size ≤ maxLen ∧ I64 x.time ∧ I64 x.value ∧ I64 x.fin ∧ I64 x.group ∧ I64 x.shard
theorem Call.cells_length (x : Call) : x.cells.length = 7 := rfl
theorem cellsOf_Call : Tryz.prog.cellsOf 60 = 7 := by kernel_rfl
def rCall : Rdr Call := fun _ x cs => cs = x.cells ∧ x.ok
theorem opens_Call : Opens Tryz.prog 60 rCall := by
  intro H enc w fuel cs x h
  have hl := opens_len Tryz.underlying60 cellsOf_Call h
  obtain ⟨a0, h0⟩ := opens_field (i := 0) (o := 0) (m := 1) Tryz.underlying60 rfl rfl (by kernel_rfl) (opens_int (by kernel_rfl)) H enc w fuel cs x h
  obtain ⟨a1, h1⟩ := opens_field (i := 1) (o := 1) (m := 1) Tryz.underlying60 rfl rfl (by kernel_rfl) (opens_str (by kernel_rfl)) H enc w fuel cs x h
  obtain ⟨a2, h2⟩ := opens_field (i := 2) (o := 2) (m := 1) Tryz.underlying60 rfl rfl (by kernel_rfl) (opens_int (by kernel_rfl)) H enc w fuel cs x h
  obtain ⟨a3, h3⟩ := opens_field (i := 3) (o := 3) (m := 1) Tryz.underlying60 rfl rfl (by kernel_rfl) (opens_int (by kernel_rfl)) H enc w fuel cs x h
  obtain ⟨a4, h4⟩ := opens_field (i := 4) (o := 4) (m := 1) Tryz.underlying60 rfl rfl (by kernel_rfl) (opens_int (by kernel_rfl)) H enc w fuel cs x h
  obtain ⟨a5, h5⟩ := opens_field (i := 5) (o := 5) (m := 1) Tryz.underlying60 rfl rfl (by kernel_rfl) (opens_int (by kernel_rfl)) H enc w fuel cs x h
  obtain ⟨a6, h6⟩ := opens_field (i := 6) (o := 6) (m := 1) Tryz.underlying60 rfl rfl (by kernel_rfl) (opens_int (by kernel_rfl)) H enc w fuel cs x h
  match cs, hl with
  | [c0, c1, c2, c3, c4, c5, c6], _ =>
    simp only [List.drop, List.take, rInt, rBool, rStr] at h0 h1 h2 h3 h4 h5 h6
    refine ⟨⟨a0, a1, a2, a3, a4, a5, a6⟩, ?_, ⟨h0.2, h1.2, h2.2, h3.2, h4.2, h5.2, h6.2⟩⟩
    have e0 := h0.1
    have e1 := h1.1
    have e2 := h2.1
    have e3 := h3.1
    have e4 := h4.1
    have e5 := h5.1
    have e6 := h6.1
    simp only [Call.cells]
    simp only [List.cons.injEq, and_true] at e0 e1 e2 e3 e4 e5 e6 ⊢
    simp [e0, e1, e2, e3, e4, e5, e6]
structure Timer where
  key : ByteArray
  span : Span
instance : Inhabited Timer := ⟨⟨ByteArray.empty, default⟩⟩
abbrev Timer.cells (x : Timer) : List Value := [.string x.key, .int .i64 x.span.s, .int .i64 x.span.e]
attribute [go_sem] Timer.cells
def Timer.ok (x : Timer) : Prop := x.key.size ≤ maxLen ∧ x.span.ok
theorem Timer.cells_length (x : Timer) : x.cells.length = 3 := rfl
theorem cellsOf_Timer : Tryz.prog.cellsOf 95 = 3 := by kernel_rfl
def rTimer : Rdr Timer := fun _ x cs => cs = x.cells ∧ x.ok
theorem opens_Timer : Opens Tryz.prog 95 rTimer := by
  intro H enc w fuel cs x h
  have hl := opens_len Tryz.underlying95 cellsOf_Timer h
  obtain ⟨a0, h0⟩ := opens_field (i := 0) (o := 0) (m := 1) Tryz.underlying95 rfl rfl (by kernel_rfl) (opens_str (by kernel_rfl)) H enc w fuel cs x h
  obtain ⟨a1, h1⟩ := opens_field (i := 1) (o := 1) (m := 2) Tryz.underlying95 rfl rfl (by kernel_rfl) opens_Span H enc w fuel cs x h
  match cs, hl with
  | [c0, c1, c2], _ =>
    simp only [List.drop, List.take, rInt, rBool, rStr, rSpan] at h0 h1
    refine ⟨⟨a0, a1⟩, ?_, ⟨h0.2, h1.2⟩⟩
    have e0 := h0.1
    have e1 := h1.1
    simp only [Timer.cells, Span.cells] at e0 e1 ⊢
    simp only [List.cons.injEq, and_true] at e0 e1 ⊢
    simp [e0, e1]
structure Deed08 where
  settle : Bool
  key : ByteArray
  t : Int
  v : Int
  mark : Int
instance : Inhabited Deed08 := ⟨⟨false, ByteArray.empty, 0, 0, 0⟩⟩
abbrev Deed08.cells (x : Deed08) : List Value := [.bool x.settle, .string x.key, .int .i64 x.t, .int .i64 x.v, .int .i64 x.mark]
attribute [go_sem] Deed08.cells
def Deed08.ok (x : Deed08) : Prop := x.key.size ≤ maxLen ∧ I64 x.t ∧ I64 x.v ∧ I64 x.mark
theorem Deed08.cells_length (x : Deed08) : x.cells.length = 5 := rfl
theorem cellsOf_Deed08 : Tryz.prog.cellsOf 38 = 5 := by kernel_rfl
def rDeed08 : Rdr Deed08 := fun _ x cs => cs = x.cells ∧ x.ok
theorem opens_Deed08 : Opens Tryz.prog 38 rDeed08 := by
  intro H enc w fuel cs x h
  have hl := opens_len Tryz.underlying38 cellsOf_Deed08 h
  obtain ⟨a0, h0⟩ := opens_field (i := 0) (o := 0) (m := 1) Tryz.underlying38 rfl rfl (by kernel_rfl) (opens_bool (by kernel_rfl)) H enc w fuel cs x h
  obtain ⟨a1, h1⟩ := opens_field (i := 1) (o := 1) (m := 1) Tryz.underlying38 rfl rfl (by kernel_rfl) (opens_str (by kernel_rfl)) H enc w fuel cs x h
  obtain ⟨a2, h2⟩ := opens_field (i := 2) (o := 2) (m := 1) Tryz.underlying38 rfl rfl (by kernel_rfl) (opens_int (by kernel_rfl)) H enc w fuel cs x h
  obtain ⟨a3, h3⟩ := opens_field (i := 3) (o := 3) (m := 1) Tryz.underlying38 rfl rfl (by kernel_rfl) (opens_int (by kernel_rfl)) H enc w fuel cs x h
  obtain ⟨a4, h4⟩ := opens_field (i := 4) (o := 4) (m := 1) Tryz.underlying38 rfl rfl (by kernel_rfl) (opens_int (by kernel_rfl)) H enc w fuel cs x h
  match cs, hl with
  | [c0, c1, c2, c3, c4], _ =>
    simp only [List.drop, List.take, rInt, rBool, rStr] at h0 h1 h2 h3 h4
    refine ⟨⟨a0, a1, a2, a3, a4⟩, ?_, ⟨h1.2, h2.2, h3.2, h4.2⟩⟩
    have e0 := h0
    have e1 := h1.1
    have e2 := h2.1
    have e3 := h3.1
    have e4 := h4.1
    simp only [Deed08.cells]
    simp only [List.cons.injEq, and_true] at e0 e1 e2 e3 e4 ⊢
    simp [e0, e1, e2, e3, e4]
end Go.Proofs.YtmioichjhiengaaGreat

/-
  Words on memory for this seat's walks: a block known whole, what a store, a new block, a draw leave of it; 'Keep S w w'': all that was there but the blocks of S is as it was.
-/
namespace Go.Proofs.YtmioichjhiengaaGreat
open Go.RowKit

/-- Block p holds these cells. -/
def At (w : World) (p : Nat) (c : Array Value) (T : TypeId) : Prop := w.heap[p]? = some (.cells c T (0, 0))

theorem At.cell {w : World} {p : Nat} {c : Array Value} {T : TypeId} (h : At w p c T) : ∀ i, w.cell? ⟨p, i, none⟩ = c[i]? := by
  intro i; unfold At at h; simp [World.cell?, h]
theorem At.frozen {w : World} {p : Nat} {c : Array Value} {T : TypeId} (h : At w p c T) : ∀ i, w.frozen? ⟨p, i, none⟩ = false := by
  intro i; unfold At at h; simp [World.frozen?, h]
theorem At.lt {w : World} {p : Nat} {c : Array Value} {T : TypeId} (h : At w p c T) : p < w.heap.size := by
  unfold At at h; exact (Array.getElem?_eq_some_iff.1 h).1
theorem At.of_block {w w' : World} {p : Nat} {c : Array Value} {T : TypeId} (h : At w p c T) (e : w'.heap[p]? = w.heap[p]?) : At w' p c T := by
  unfold At at *; rw [e, h]
theorem At.set {w : World} {p : Nat} {c : Array Value} {T : TypeId} (h : At w p c T) (i : Nat) (v : Value) : At (w.setCell ⟨p, i, none⟩ v) p (c.setIfInBounds i v) T := by
  unfold At at *
  simp [World.setCell, Array.getElem?_modify, h]
theorem At.set_other {w : World} {p : Nat} {c : Array Value} {T : TypeId} (h : At w p c T) {a : Addr} (ha : a.block ≠ p) (v : Value) : At (w.setCell a v) p c T :=
  h.of_block (Below.heap_setCell _ _ _ _ (fun e => ha e.symm))
theorem At.alloc {w : World} {p : Nat} {c : Array Value} {T : TypeId} (h : At w p c T) (o : Obj) : At (w.alloc o) p c T :=
  h.of_block (Below.heap_alloc _ _ _ h.lt)
theorem At.drewN {w : World} {p : Nat} {c : Array Value} {T : TypeId} (h : At w p c T) (n : Nat) : At (w.drewN n) p c T := h
theorem At.drew {w : World} {p : Nat} {c : Array Value} {T : TypeId} (h : At w p c T) : At w.drew p c T := h
theorem At.new (w : World) (c : Array Value) (T : TypeId) : At (w.alloc (.cells c T)) w.heap.size c T := by
  unfold At; show (w.heap.push _)[w.heap.size]? = _; simp

theorem At.newAt {w : World} {n : Nat} (h : n = w.heap.size) (c : Array Value) (T : TypeId) : At (w.alloc (.cells c T)) n c T := by subst h; exact At.new _ _ _

/-- All blocks that were there, but those of S, are as they were; the streams too. -/
structure Keep (S : Nat → Prop) (w w' : World) : Prop where
  os : w'.os = w.os
  tape : w'.tape = w.tape
  output : w'.output = w.output
  size : w.heap.size ≤ w'.heap.size
  block : ∀ k, k < w.heap.size → ¬ S k → w'.heap[k]? = w.heap[k]?

def none_ : Nat → Prop := fun _ => False
def one (p : Nat) : Nat → Prop := fun k => k = p

theorem one_self (p : Nat) : one p p := rfl
theorem Keep.refl (S : Nat → Prop) (w : World) : Keep S w w := ⟨rfl, rfl, rfl, Nat.le_refl _, fun _ _ _ => rfl⟩
theorem Keep.trans {S : Nat → Prop} {a b c : World} (h : Keep S a b) (k : Keep S b c) : Keep S a c :=
  ⟨k.os.trans h.os, k.tape.trans h.tape, k.output.trans h.output, Nat.le_trans h.size k.size,
    fun i hi hs => (k.block i (Nat.lt_of_lt_of_le hi h.size) hs).trans (h.block i hi hs)⟩
theorem Keep.mono {S S' : Nat → Prop} {w w' : World} (h : Keep S w w') (hs : ∀ k, k < w.heap.size → S k → S' k) : Keep S' w w' :=
  ⟨h.os, h.tape, h.output, h.size, fun k hk hn => h.block k hk (fun e => hn (hs k hk e))⟩
theorem Keep.drew {S : Nat → Prop} {a w : World} (h : Keep S a w) : Keep S a w.drew := ⟨h.os, h.tape, h.output, h.size, h.block⟩
theorem Keep.alloc {S : Nat → Prop} {a w : World} (h : Keep S a w) (o : Obj) : Keep S a (w.alloc o) :=
  h.trans ⟨rfl, rfl, rfl, by simp, fun k hk _ => Below.heap_alloc _ _ _ hk⟩
theorem Keep.setCell {S : Nat → Prop} {a w : World} (h : Keep S a w) {p : Addr} (hp : p.block < a.heap.size → S p.block) (u : Value) : Keep S a (w.setCell p u) :=
  ⟨h.os, h.tape, h.output, by have := h.size; simpa [World.setCell] using this, fun k hk hs => by
    rw [Below.heap_setCell _ _ _ _ (fun e => hs (by subst e; exact hp hk))]; exact h.block k hk hs⟩
theorem Keep.set1 {a w : World} {p i : Nat} (h : Keep (one p) a w) (u : Value) : Keep (one p) a (w.setCell ⟨p, i, none⟩ u) := Keep.setCell (p := ⟨p, i, none⟩) h (fun _ => one_self p) u
theorem Keep.setNew {S : Nat → Prop} {a w : World} {p i : Nat} (h : Keep S a w) (hp : a.heap.size ≤ p) (u : Value) : Keep S a (w.setCell ⟨p, i, none⟩ u) := Keep.setCell (p := ⟨p, i, none⟩) h (fun h => absurd h (Nat.not_lt.2 hp)) u
/-- What a later step did to blocks that are new since a is nothing to a. -/
theorem Keep.fresh {S S' : Nat → Prop} {a b c : World} (h : Keep S a b) (k : Keep S' b c) (hs : ∀ q, q < a.heap.size → ¬ S' q) : Keep S a c :=
  ⟨k.os.trans h.os, k.tape.trans h.tape, k.output.trans h.output, Nat.le_trans h.size k.size,
    fun i hi hn => (k.block i (Nat.lt_of_lt_of_le hi h.size) (hs i hi)).trans (h.block i hi hn)⟩
theorem keep_drewN {S : Nat → Prop} (w : World) (n : Nat) : Keep S w (w.drewN n) := ⟨rfl, rfl, rfl, Nat.le_refl _, fun _ _ _ => rfl⟩
theorem not_one {p : Nat} {n : Nat} (h : n ≤ p) : ∀ q, q < n → ¬ one p q := fun q hq e => by unfold one at e; omega
theorem not_none {n : Nat} : ∀ q, q < n → ¬ none_ q := fun q _ e => e
theorem Keep.grown {S : Nat → Prop} {a w w' : World} {row : Option Nat} (h : Keep S a w) (hg : w.grownBy w' row) (hr : ∀ k, row = some k → k < a.heap.size → S k) : Keep S a w' :=
  ⟨hg.os.trans h.os, hg.tape.trans h.tape, hg.output.trans h.output, Nat.le_trans h.size hg.size, fun k hk hs =>
    (hg.block k (Nat.lt_of_lt_of_le hk h.size) (fun e => hs (hr k e.symm hk))).trans (h.block k hk hs)⟩
theorem Keep.at {S : Nat → Prop} {w w' : World} (h : Keep S w w') {p : Nat} {c : Array Value} {T : TypeId} (ha : At w p c T) (hs : ¬ S p) : At w' p c T :=
  ha.of_block (h.block p ha.lt hs)
/-- What was there when the call began is as it was; then a step that turned only blocks of the call's own. -/
theorem bk {S : Nat → Prop} {a b c : World} (h : Below a.heap.size a b) (k : Keep S b c) (hs : ∀ q, q < a.heap.size → ¬ S q) : Below a.heap.size a c :=
  ⟨k.os.trans h.os, k.tape.trans h.tape, k.output.trans h.output, Nat.le_trans h.size k.size,
    fun i hi => (k.block i (Nat.lt_of_lt_of_le hi h.size) (hs i hi)).trans (h.block i hi)⟩
theorem bd {B : Nat} {a b : World} (h : Below B a b) (n : Nat) : Below B a (b.drewN n) := ⟨h.os, h.tape, h.output, h.size, h.block⟩
theorem keep0 {a b : World} (h : Below a.heap.size a b) : Keep none_ a b := ⟨h.os, h.tape, h.output, h.size, fun k hk _ => h.block k hk⟩
theorem Keep.below {w w' : World} {S : Nat → Prop} (h : Keep S w w') {B : Nat} (hB : B ≤ w.heap.size) (hs : ∀ k, k < B → ¬ S k) : Below B w w' :=
  ⟨h.os, h.tape, h.output, h.size, fun k hk => h.block k (Nat.lt_of_lt_of_le hk hB) (hs k hk)⟩
theorem Keep.of_below {w w' : World} {S : Nat → Prop} (h : Below w.heap.size w w') : Keep S w w' :=
  ⟨h.os, h.tape, h.output, h.size, fun k hk _ => h.block k hk⟩

/-! ### A region that draws its order: one walk of the text's order, in a class of worlds -/
theorem class_of (S : Nat → Prop) (w : World) : ∃ (ι : Type) (_ : Nonempty ι) (f : ι → World), (∃ n, f n = w.drew) ∧ (∀ n, Keep S w (f n)) ∧ ∀ n w', Keep S (f n) w' → ∃ m, w' = f m :=
  ⟨{ w' : World // Keep S w w' }, ⟨⟨w, Keep.refl _ _⟩⟩, Subtype.val, ⟨⟨w.drew, (Keep.refl _ _).drew⟩, rfl⟩, fun n => n.2, fun n w' h => ⟨⟨w', n.2.trans h⟩, rfl⟩⟩
theorem wp_region_class {P : Program} {ι : Type} (f : ι → World) {id : Nat} {Q : Exit → Act → World → Prop} {a : Act} {w : World} {l : List Oper} (hm : P.follows .mixedOrders = true) (hB : Region.lexB .any l.toArray = true)
    (h0 : ∃ n, f n = w.drew) (h : wpQuiet P l.toArray (fun w' => ∃ n, w' = f n) (fun a' => ∀ w', (∃ n, w' = f n) → Q .normal a' w') l a) : (Code.region id l.toArray true).wp P Q a w :=
  wp_region_quiet (C := fun w' => ∃ n, w' = f n) hm hB (let ⟨n, hn⟩ := h0; ⟨n, hn.symm⟩) (by simpa using h)
theorem Calls.class_of {P : Program} {g : FuncId} {args : Array Value} {S : Nat → Prop} {ι : Type} {f : ι → World} (hall : ∀ n w', Keep S (f n) w' → ∃ m, w' = f m) {n : ι} {v : Value}
    (h : Calls P g args (f n) fun e w' => e = .returned v ∧ Keep S (f n) w') : Calls P g args (f n) fun e w' => e = .returned v ∧ ∃ m, w' = f m :=
  h.mono fun _ _ ⟨he, hk⟩ => ⟨he, hall _ _ hk⟩
theorem Keep.of_none {S : Nat → Prop} {w w' : World} (h : Keep none_ w w') : Keep S w w' := h.mono fun _ _ e => e.elim

theorem wrap_u64_add (a b : Int) : wrap64 (IntKind.u64.wrap (IntKind.u64.wrap a + IntKind.u64.wrap b)) = wrap64 (a + b) := by
  unfold wrap64; simp only [IntKind.wrap, IntKind.signed, IntKind.bits]; omega
end Go.Proofs.YtmioichjhiengaaGreat

/-
  A slice that reads as a list of structs (or of single cells); a row of the call's own that does; append onto such a row, whatever its source.
-/
namespace Go.Proofs.YtmioichjhiengaaGreat
open Go.RowKit

def flat {α : Type} (enc : α → List Value) (xs : List α) : List Value := xs.flatMap enc
section
variable {α : Type} {enc : α → List Value} {k : Nat}
theorem flat_nil : flat enc [] = [] := rfl
theorem flat_cons (x : α) (xs : List α) : flat enc (x :: xs) = enc x ++ flat enc xs := by simp [flat]
theorem flat_append (xs ys : List α) : flat enc (xs ++ ys) = flat enc xs ++ flat enc ys := by simp [flat]
theorem flat_length (hl : ∀ x, (enc x).length = k) (xs : List α) : (flat enc xs).length = xs.length * k := by
  induction xs with
  | nil => simp [flat]
  | cons x xs ih => rw [flat_cons, List.length_append, ih, hl, List.length_cons, Nat.add_mul]; omega
theorem flat_get (hl : ∀ x, (enc x).length = k) (xs : List α) : ∀ i (h : i < xs.length) j, j < k → (flat enc xs)[i * k + j]? = (enc xs[i])[j]? := by
  induction xs with
  | nil => intro i h; simp at h
  | cons x xs ih =>
    intro i h j hj
    rw [flat_cons]
    match i, h with
    | 0, h =>
      rw [Nat.zero_mul, Nat.zero_add, List.getElem?_append_left (by rw [hl]; exact hj)]
      rfl
    | i + 1, h =>
      rw [Nat.add_mul, List.getElem?_append_right (by rw [hl]; omega), hl, show i * k + 1 * k + j - k = i * k + j by omega]
      exact ih i (by simpa using h) j hj

/-- A slice value '.slice A n c' reads as xs. -/
def Sl (enc : α → List Value) (k : Nat) (w : World) (A : Option Addr) (n c : Nat) (xs : List α) : Prop :=
  n = xs.length ∧ n ≤ c ∧ c ≤ maxLen ∧ (0 < n → ∃ b off, A = some ⟨b, off, none⟩ ∧ b < w.heap.size ∧
    ∀ i (h : i < xs.length) j, j < k → w.cell? ⟨b, off + i * k + j, none⟩ = (enc xs[i])[j]?)
theorem Sl.len {w : World} {A : Option Addr} {n c : Nat} {xs : List α} (h : Sl enc k w A n c xs) : n = xs.length := h.1
theorem Sl.nil (enc : α → List Value) (k : Nat) (w : World) (A : Option Addr) (c : Nat) (hc : c ≤ maxLen) : Sl enc k w A 0 c [] := ⟨rfl, Nat.zero_le _, hc, fun h => absurd h (Nat.lt_irrefl _)⟩
theorem Sl.at_ {w : World} {A : Option Addr} {n c : Nat} {xs : List α} (h : Sl enc k w A n c xs) (hn : 0 < n) : ∃ b off, A = some ⟨b, off, none⟩ ∧ b < w.heap.size ∧
    ∀ i (h : i < xs.length) j, j < k → w.cell? ⟨b, off + i * k + j, none⟩ = (enc xs[i])[j]? := h.2.2.2 hn
/-- The block of a slice that reads is none of S. -/
def Off (S : Nat → Prop) (A : Option Addr) : Prop := ∀ a, A = some a → ¬ S a.block
theorem Sl.keep {S : Nat → Prop} {w w' : World} {A : Option Addr} {n c : Nat} {xs : List α} (h : Sl enc k w A n c xs) (kk : Keep S w w') (hs : Off S A) : Sl enc k w' A n c xs := by
  obtain ⟨h1, h2, h3, h4⟩ := h
  refine ⟨h1, h2, h3, fun hn => ?_⟩
  obtain ⟨b, off, rfl, hb, hc⟩ := h4 hn
  refine ⟨b, off, rfl, Nat.lt_of_lt_of_le hb kk.size, fun i hi j hj => ?_⟩
  rw [← hc i hi j hj]
  have := kk.block b hb (hs _ rfl)
  simp [World.cell?, this]
theorem Off.none_ {A : Option Addr} : Off none_ A := fun _ _ e => e
theorem Off.none' {S : Nat → Prop} : Off S none := fun _ h => by cases h
theorem Sl.of_own {w : World} {base n c : Nat} {e : TypeId} {A : Option Addr} {xs : List α} (hl : ∀ x, (enc x).length = k) (hk : 0 < k) (h : w.ownsRow base e k (.slice A n c) n (flat enc xs)) : Sl enc k w A n c xs := by
  have hn : n = xs.length := by
    have := h.1
    rw [flat_length hl] at this
    exact (Nat.eq_of_mul_eq_mul_right hk this).symm
  rcases h.2 with ⟨hv, h0⟩ | ⟨g, cap, cur, hv, hb, hg, hnc, hcm, hcs, htake⟩
  · injection hv with h1 h2 h3
    subst h2 h3
    exact ⟨hn, Nat.le_refl _, by unfold maxLen; omega, fun h => absurd h (Nat.lt_irrefl _)⟩
  · injection hv with h1 h2 h3
    subst h1 h3
    have hat : At w g cur e := hg
    refine ⟨hn, hnc, hcm, fun _ => ⟨g, 0, rfl, hat.lt, fun i hi j hj => ?_⟩⟩
    rw [hat.cell, ← flat_get hl xs i hi j hj, ← htake, Nat.zero_add, List.getElem?_take_of_lt, Array.getElem?_toList]
    have : (i + 1) * k ≤ n * k := Nat.mul_le_mul_right k (by omega)
    rw [Nat.add_mul] at this; omega
/-- A slice without its first so many elements. -/
theorem Sl.drop {w : World} {b off n c m c' : Nat} {x : Nat} {xs ys : List α} (h : Sl enc k w (some ⟨b, off, none⟩) n c xs) (i : Nat) (hi : i ≤ n) (hx : x = off + i * k) (hm : m = n - i) (hc : c' = c - i) (hy : ys = xs.drop i) : Sl enc k w (some ⟨b, x, none⟩) m c' ys := by
  subst hx hm hc hy
  obtain ⟨h1, h2, h3, h4⟩ := h
  refine ⟨by rw [List.length_drop, h1], by omega, by omega, fun hn => ?_⟩
  obtain ⟨b', off', e, hb, hc⟩ := h4 (by omega)
  obtain ⟨rfl, rfl⟩ : b = b' ∧ off = off' := by simpa using e
  refine ⟨b, off + i * k, rfl, hb, fun j hj l hl => ?_⟩
  rw [List.length_drop] at hj
  have := hc (i + j) (by omega) l hl
  rw [List.getElem_drop, ← this, Nat.add_mul]
  congr 2
  omega
theorem own_len {w : World} {base n : Nat} {e : TypeId} {v : Value} {xs : List α} (hl : ∀ x, (enc x).length = k) (hk : 0 < k) (h : w.ownsRow base e k v n (flat enc xs)) : n = xs.length := by
  have := h.1
  rw [flat_length hl] at this
  exact (Nat.eq_of_mul_eq_mul_right hk this).symm
theorem own_form {w : World} {base n : Nat} {e : TypeId} {v : Value} {xs : List Value} (h : w.ownsRow base e k v n xs) : ∃ A c, v = .slice A n c := by
  rcases h.2 with ⟨rfl, h0⟩ | ⟨g, cap, cur, rfl, -⟩
  · exact ⟨none, 0, by rw [h0]⟩
  · exact ⟨_, _, rfl⟩
theorem own_keep {S : Nat → Prop} {w w' : World} {base : Nat} {e : TypeId} {n : Nat} {v : Value} {xs : List Value} (h : w.ownsRow base e k v n xs) (kk : Keep S w w') (hs : ∀ g, v.ownBlock = some g → ¬ S g) : w'.ownsRow base e k v n xs := by
  refine ⟨h.1, ?_⟩
  rcases h.2 with hn | ⟨g, cap, cur, rfl, hb, hgg, rest⟩
  · exact .inl hn
  · exact .inr ⟨g, cap, cur, rfl, hb, (kk.block g (Array.getElem?_eq_some_iff.1 hgg).1 (hs g rfl)).trans hgg, rest⟩
theorem own_drew {w : World} {b : Nat} {e : TypeId} {n : Nat} {v : Value} {xs : List Value} (h : w.ownsRow b e k v n xs) : w.drew.ownsRow b e k v n xs := h
theorem own_lower {w : World} {b b' : Nat} {e : TypeId} {n : Nat} {v : Value} {xs : List Value} (h : w.ownsRow b e k v n xs) (hb : b' ≤ b) : w.ownsRow b' e k v n xs := by
  refine ⟨h.1, h.2.imp id ?_⟩
  rintro ⟨g, cap, cur, rfl, hg, rest⟩
  exact ⟨g, cap, cur, rfl, Nat.le_trans hb hg, rest⟩
/-- A new row: its cells are those of the elements. -/
theorem own_new {w : World} {base : Nat} (hb : base ≤ w.heap.size) (e : TypeId) (xs : List α) (cs : Array Value) (hl : ∀ x, (enc x).length = k) (n m : Nat) (hn : n = w.heap.size) (hm : m = xs.length) (hc : cs.toList = flat enc xs) (h63 : m ≤ maxLen) :
    (w.alloc (.cells cs e)).ownsRow base e k (.slice (some ⟨n, 0, none⟩) m m) m (flat enc xs) := by
  subst hn hm
  have hs : cs.size = xs.length * k := by rw [← Array.length_toList, hc, flat_length hl]
  exact ⟨flat_length hl xs, .inr ⟨w.heap.size, _, cs, rfl, hb, At.new w cs e, Nat.le_refl _, h63, hs, by rw [hc]; exact List.take_of_length_le (by rw [flat_length hl]; exact Nat.le_refl _)⟩⟩
theorem Sl.new {w : World} (e : TypeId) (xs : List α) (cs : Array Value) (hl : ∀ x, (enc x).length = k) (hk : 0 < k) (n m : Nat) (hn : n = w.heap.size) (hm : m = xs.length) (hc : cs.toList = flat enc xs) (h63 : m ≤ maxLen) :
    Sl enc k (w.alloc (.cells cs e)) (some ⟨n, 0, none⟩) m m xs :=
  Sl.of_own hl hk (own_new (Nat.zero_le _) e xs cs hl n m hn hm hc h63)

theorem Sl.of_at {w : World} {e : TypeId} {xs : List α} {cs : Array Value} {g m : Nat} (h : At w g cs e) (hl : ∀ x, (enc x).length = k) (hk : 0 < k) (hm : m = xs.length) (hc : cs.toList = flat enc xs) (h63 : m ≤ maxLen) :
    Sl enc k w (some ⟨g, 0, none⟩) m m xs :=
  Sl.of_own (base := 0) (e := e) hl hk ⟨by rw [flat_length hl, hm], .inr ⟨g, m, cs, rfl, Nat.zero_le _, h, Nat.le_refl _, h63, by rw [← Array.length_toList, hc, flat_length hl, hm], by rw [hc]; exact List.take_of_length_le (by rw [flat_length hl, hm]; exact Nat.le_refl _)⟩⟩
theorem At.grown {w w' : World} {p : Nat} {c : Array Value} {T : TypeId} {row : Option Nat} (h : At w p c T) (hg : w.grownBy w' row) (hr : row ≠ some p) : At w' p c T :=
  h.of_block (hg.block p h.lt (fun e => hr e.symm))

variable {P : Program}
theorem run_append_nothing (w : World) (base : Nat) (t ty e : TypeId) (i : TypeInfo) (size : Nat) (ht : P.underlying t = some (.slice e)) (hi : P.info? e = some i)
    (v : Value) (n : Nat) (xs : List Value) (hown : w.ownsRow base e size v n xs) (c : Nat) : (Builtin.append_ #[t, t] ty #[v, .slice none 0 c]).run P w = .ok v w := by
  rcases hown.2 with ⟨rfl, rfl⟩ | ⟨g, cap, cur, rfl, _, _, hnc, _⟩
  · simp [Builtin.append_, run_underlying ht, sizeOf, typeInfo, hi, Builtin.lenOf, Builtin.firstCells]
  · simp [Builtin.append_, run_underlying ht, sizeOf, typeInfo, hi, Builtin.lenOf, Builtin.firstCells, hnc, storeCells]

/-- What one must know of a slice type to append to its slices. -/
structure Row (P : Program) (t e : TypeId) (k : Nat) : Prop where
  under : P.underlying t = some (.slice e)
  info : ∃ i z, P.info? e = some i ∧ i.zero = some z ∧ i.size = k ∧ z.cells.size = k ∧ i.bytes ≤ 256
  pos : 0 < k

theorem run_append_sl (w : World) (base : Nat) (t ty e : TypeId) (R : Row P t e k) (hl : ∀ x, (enc x).length = k) (h1 : ∀ x, ∀ u ∈ enc x, u.oneCell' = true)
    (v : Value) (n : Nat) (xs : List α) (hown : w.ownsRow base e k v n (flat enc xs)) (A : Option Addr) (m c : Nat) (ys : List α) (hr : Sl enc k w A m c ys)
    (h63 : n + m ≤ 1000000) (hbase : base ≤ w.heap.size) :
    ∃ v' w', (Builtin.append_ #[t, t] ty #[v, .slice A m c]).run P w = .ok v' w' ∧ w'.ownsRow base e k v' (n + m) (flat enc (xs ++ ys)) ∧ w.grownBy w' v.ownBlock ∧
      (v'.ownBlock = v.ownBlock ∨ v'.ownBlock = some w.heap.size) := by
  obtain ⟨i, z, hi, hz, hs, hzs, hby⟩ := R.info
  rcases Nat.eq_zero_or_pos m with h0 | h0
  · subst h0
    have hys : ys = [] := List.length_eq_zero_iff.1 hr.1.symm
    subst hys
    rcases A with _ | ad
    · exact ⟨v, w, run_append_nothing w base t ty e i k R.under hi v n _ hown c, by simpa using hown, World.grownBy.refl w _, .inl rfl⟩
    · obtain ⟨v', w', hrun, h2, h3, _, h5⟩ := run_append_own_at (P := P) w base t ty e i z k i.bytes R.under hi hz hs rfl hzs R.pos v n _ hown ad 0 c [] (by simp) (by simp) (by simp) (by unfold maxLen; omega)
        (Nat.le_trans (Nat.mul_le_mul_left _ hby) (by omega)) hbase
      exact ⟨v', w', hrun, by simpa using h2, h3, h5⟩
  · obtain ⟨b, off, rfl, hb, hc⟩ := hr.at_ h0
    have hm := hr.1
    obtain ⟨v', w', hrun, h2, h3, _, h5⟩ := run_append_own_at (P := P) w base t ty e i z k i.bytes R.under hi hz hs rfl hzs R.pos v n _ hown ⟨b, off, none⟩ m c (flat enc ys) (by rw [flat_length hl, hm])
      (fun j u hj => by
        have hj2 : j < ys.length * k := by
          rw [← flat_length hl ys]
          exact (List.getElem?_eq_some_iff.1 hj).1
        have hq : j / k < ys.length := Nat.div_lt_of_lt_mul (by rw [Nat.mul_comm]; exact hj2)
        have hr2 : j % k < k := Nat.mod_lt _ R.pos
        have e1 : j / k * k + j % k = j := by rw [Nat.mul_comm]; exact Nat.div_add_mod j k
        have := hc (j / k) hq (j % k) hr2
        rw [← flat_get hl ys _ hq _ hr2, e1, hj, Nat.add_assoc, e1] at this
        rw [Addr.add_lit, this])
      (fun u hu => by
        obtain ⟨x, _, hx⟩ := List.mem_flatMap.1 hu
        exact h1 x u hx) (by unfold maxLen; omega) (Nat.le_trans (Nat.mul_le_mul_left _ hby) (by omega)) hbase
    exact ⟨v', w', hrun, by rw [flat_append]; exact h2, h3, h5⟩

theorem wp_append_sl (w : World) {o : Oper} {a : Act} {K : Act → World → Prop} {Q : Exit → Act → World → Prop} (s x : Operand) (t : TypeId)
    (ho : o.op = .call { callee := .builtin .append, args := #[s, x], argTypes := #[t, t] })
    (base : Nat) (e : TypeId) (R : Row P t e k) (hl : ∀ x, (enc x).length = k) (h1 : ∀ x, ∀ u ∈ enc x, u.oneCell' = true)
    (v : Value) (n : Nat) (xs : List α) (hs : a.eval s = v) (hown : w.ownsRow base e k v n (flat enc xs)) (A : Option Addr) (m c : Nat) (ys : List α) (hx : a.eval x = .slice A m c) (hr : Sl enc k w A m c ys)
    (h63 : n + m ≤ 1000000) (hbase : base ≤ w.heap.size)
    (h : ∀ v' w', w'.ownsRow base e k v' (n + m) (flat enc (xs ++ ys)) → w.grownBy w' v.ownBlock → (v'.ownBlock = v.ownBlock ∨ v'.ownBlock = some w.heap.size) → K (a.put o.dst v') w') : o.wp P a w K Q := by
  obtain ⟨v', w', hrun, h2, h3, h4⟩ := run_append_sl (P := P) w base t o.type e R hl h1 v n xs hown A m c ys hr h63 hbase
  unfold Oper.wp execOp
  simp only [ho, resolve, invoke, builtin, Sem.run_bind, Sem.run_pure, Result.andThen_ok, List.map_toArray, List.map_cons, List.map_nil, hs, hx, hrun]
  exact h v' w' h2 h3 h4
theorem wpList_append_sl (w : World) {ops : Array Oper} {rest : List Oper} {o : Oper} {a : Act} {Q : Exit → Act → World → Prop} (hgd : o.guard = none) (s x : Operand) (t : TypeId)
    (ho : o.op = .call { callee := .builtin .append, args := #[s, x], argTypes := #[t, t] })
    (base : Nat) (e : TypeId) (R : Row P t e k) (hl : ∀ x, (enc x).length = k) (h1 : ∀ x, ∀ u ∈ enc x, u.oneCell' = true)
    (v : Value) (n : Nat) (xs : List α) (hs : a.eval s = v) (hown : w.ownsRow base e k v n (flat enc xs)) (A : Option Addr) (m c : Nat) (ys : List α) (hx : a.eval x = .slice A m c) (hr : Sl enc k w A m c ys)
    (h63 : n + m ≤ 1000000) (hbase : base ≤ w.heap.size)
    (h : ∀ v' w', w'.ownsRow base e k v' (n + m) (flat enc (xs ++ ys)) → w.grownBy w' v.ownBlock → (v'.ownBlock = v.ownBlock ∨ v'.ownBlock = some w.heap.size) → wpList P ops Q rest (a.put o.dst v') w') : wpList P ops Q (o :: rest) a w :=
  wpList_plain hgd fun _ hK => wp_append_sl w s x t ho base e R hl h1 v n xs hs hown A m c ys hx hr h63 hbase fun v' w' h2 h3 h4 => hK _ _ (h v' w' h2 h3 h4)
theorem step_append_sl (w : World) {ops : Array Oper} {o : Oper} {a : Act} {K : Act → World → Prop} {Q : Exit → Act → World → Prop} {E : Prop} (hgd : o.guard = none) (s x : Operand) (t : TypeId)
    (ho : o.op = .call { callee := .builtin .append, args := #[s, x], argTypes := #[t, t] })
    (base : Nat) (e : TypeId) (R : Row P t e k) (hl : ∀ x, (enc x).length = k) (h1 : ∀ x, ∀ u ∈ enc x, u.oneCell' = true)
    (v : Value) (n : Nat) (xs : List α) (hs : a.eval s = v) (hown : w.ownsRow base e k v n (flat enc xs)) (A : Option Addr) (m c : Nat) (ys : List α) (hx : a.eval x = .slice A m c) (hr : Sl enc k w A m c ys)
    (h63 : n + m ≤ 1000000) (hbase : base ≤ w.heap.size)
    (h : ∀ v' w', w'.ownsRow base e k v' (n + m) (flat enc (xs ++ ys)) → w.grownBy w' v.ownBlock → (v'.ownBlock = v.ownBlock ∨ v'.ownBlock = some w.heap.size) → K (a.put o.dst v') w') :
    if Region.wanted o (yielded ops a.tmps) = true then Oper.wp P o a w K Q else E := by
  have hw : Region.wanted o (yielded ops a.tmps) = true := by simp [Region.wanted, hgd]
  rw [if_pos hw]
  exact wp_append_sl w s x t ho base e R hl h1 v n xs hs hown A m c ys hx hr h63 hbase h
theorem row_of {t e : TypeId} {k b : Nat} {z : Value} (ht : P.underlying t = some (.slice e)) (h : (P.info? e).map (fun i => (i.zero, i.size, i.bytes)) = some (some z, k, b)) (hz : z.cells.size = k) (hk : 0 < k) (hb : b ≤ 256) : Row P t e k := by
  obtain ⟨i, hi, h0, h1, h2⟩ := info_parts h
  exact ⟨ht, ⟨i, z, hi, h0, h1, hz, by omega⟩, hk⟩
theorem keep_cell {a w : World} (kk : Keep none_ a w) {b i : Nat} (hb : b < a.heap.size) : w.cell? ⟨b, i, none⟩ = a.cell? ⟨b, i, none⟩ := by
  have := kk.block b hb (fun e => e)
  simp [World.cell?, this]
theorem and_keep {a w : World} {b i : Nat} {v : Value} (hb : b < a.heap.size) (h : a.cell? ⟨b, i, none⟩ = some v) (kk : Keep none_ a w) : w.cell? ⟨b, i, none⟩ = some v ∧ Keep none_ a w := ⟨(keep_cell kk hb).trans h, kk⟩
theorem own_empty {w : World} {b g : Nat} {e : TypeId} (h : At w g #[] e) (hb : b ≤ g) : w.ownsRow b e k (.slice (some ⟨g, 0, none⟩) 0 0) 0 (flat enc []) :=
  ⟨by simp [flat], .inr ⟨g, 0, #[], rfl, hb, h, Nat.le_refl _, by unfold maxLen; omega, by simp, by simp [flat]⟩⟩
/-- What was there before an append to a row of the call's own is kept. -/
theorem keep_grown {S : Nat → Prop} {a w w' : World} {base : Nat} {e : TypeId} {v : Value} {n : Nat} {xs : List Value} (h : Keep S a w) (hown : w.ownsRow base e k v n xs) (hg : w.grownBy w' v.ownBlock) (hb : a.heap.size ≤ base) : Keep S a w' :=
  Keep.grown h hg fun q hq hl => by have := (hown.lt q hq).1; omega
end
end Go.Proofs.YtmioichjhiengaaGreat

/-
  Arguments that are slices: they read as lists ('Sl').
-/
namespace Go.Proofs.YtmioichjhiengaaGreat
open Go.RowKit

theorem sl_of {α : Type} {k : Nat} {R : Rdr α} (enc : α → List Value) (ok : α → Prop) (hR : ∀ w x cs, R w x cs → cs = enc x ∧ ok x) {w : World} {xs : List α} {v : Value} (h : rSlice k R w xs [v]) :
    ∃ A n c, v = .slice A n c ∧ Sl enc k w A n c xs ∧ ∀ x ∈ xs, ok x := by
  obtain ⟨ao, len, cap, e1, rfl, hcap, hcap2, hcells⟩ := h
  obtain rfl : v = .slice ao xs.length cap := by simpa using e1
  refine ⟨ao, xs.length, cap, rfl, ⟨rfl, hcap, hcap2, fun hn => ?_⟩, fun x hx => ?_⟩
  · obtain ⟨b, off, rfl, hb, hc⟩ := hcells hn
    refine ⟨b, off, rfl, hb, fun i hi j hj => ?_⟩
    obtain ⟨es, hes, hlen, h⟩ := hc i hi
    obtain ⟨rfl, -⟩ := hR _ _ _ hes
    exact h j hj
  · obtain ⟨i, hi, rfl⟩ := List.mem_iff_getElem.1 hx
    obtain ⟨b, off, rfl, hb, hc⟩ := hcells (by omega)
    obtain ⟨es, hes, hlen, h⟩ := hc i hi
    exact (hR _ _ _ hes).2
/-- Where nothing that was there has turned, an argument reads as it did. -/
theorem Sl.below {α : Type} {enc : α → List Value} {k : Nat} {w w' : World} {A : Option Addr} {n c : Nat} {xs : List α} (h : Sl enc k w A n c xs) (hb : Below w.heap.size w w') : Sl enc k w' A n c xs :=
  h.keep (keep0 hb) Off.none_
def encI (n : Int) : List Value := [.int .i64 n]
def encS (s : ByteArray) : List Value := [.string s]
theorem encI_len (x : Int) : (encI x).length = 1 := rfl
theorem encS_len (x : ByteArray) : (encS x).length = 1 := rfl
theorem encI_one (x : Int) : ∀ u ∈ encI x, u.oneCell' = true := by intro u hu; simp [encI] at hu; subst hu; rfl
theorem encS_one (x : ByteArray) : ∀ u ∈ encS x, u.oneCell' = true := by intro u hu; simp [encS] at hu; subst hu; rfl
theorem rInt_of (w : World) (x : Int) (cs : List Value) (h : rInt w x cs) : cs = encI x ∧ I64 x := h
theorem rStr_of (w : World) (x : ByteArray) (cs : List Value) (h : rStr w x cs) : cs = encS x ∧ x.size ≤ maxLen := h
/-- The cells of element i. -/
theorem Sl.cell1 {α : Type} {enc : α → List Value} {w : World} {b off n c : Nat} {xs : List α} (h : Sl enc 1 w (some ⟨b, off, none⟩) n c xs) {i : Nat} (hi : i < xs.length) : w.cell? ⟨b, off + i, none⟩ = (enc xs[i])[0]? := by
  obtain ⟨b', off', e, hb, hc⟩ := h.at_ (by have := h.1; omega)
  obtain ⟨rfl, rfl⟩ : b = b' ∧ off = off' := by simpa using e
  have := hc i hi 0 (by omega)
  simpa using this
theorem Sl.cellk {α : Type} {enc : α → List Value} {k : Nat} {w : World} {b off n c : Nat} {xs : List α} (h : Sl enc k w (some ⟨b, off, none⟩) n c xs) {i : Nat} (hi : i < xs.length) : ∀ j, j < k → w.cell? ⟨b, off + i * k + j, none⟩ = (enc xs[i])[j]? := by
  obtain ⟨b', off', e, hb, hc⟩ := h.at_ (by have := h.1; omega)
  obtain ⟨rfl, rfl⟩ : b = b' ∧ off = off' := by simpa using e
  exact hc i hi
end Go.Proofs.YtmioichjhiengaaGreat

/-
  A block that holds a list of structs, cell by cell; a store to a cell of it.
-/
namespace Go.Proofs.YtmioichjhiengaaGreat
open Go.RowKit

section
variable {α : Type} {enc : α → List Value} {k : Nat}
theorem flat_lset (hl : ∀ x, (enc x).length = k) (y : α) (j : Nat) (v : Value) (hj : j < k) : ∀ (t : List α) (i : Nat) (hi : i < t.length), enc y = (enc t[i]).set j v → (flat enc t).set (i * k + j) v = flat enc (t.set i y) := by
  intro t
  induction t with
  | nil => intro i hi; simp at hi
  | cons x t ih =>
    intro i hi hy
    rw [flat_cons]
    match i, hi with
    | 0, hi =>
      rw [List.set_cons_zero, flat_cons, Nat.zero_mul, Nat.zero_add, List.set_append_left _ _ (by rw [hl]; exact hj)]
      rw [hy]; rfl
    | i + 1, hi =>
      rw [List.set_cons_succ, flat_cons, List.set_append_right _ _ (by rw [hl, Nat.add_mul]; omega), hl, show (i + 1) * k + j - k = i * k + j by rw [Nat.add_mul]; omega]
      rw [ih i (by simpa using hi) hy]
/-- Block g holds the list t. -/
def Flat (enc : α → List Value) (w : World) (g : Nat) (t : List α) (T : TypeId) : Prop := At w g (flat enc t).toArray T
section
variable {w w' : World} {g : Nat} {t : List α} {T : TypeId}
theorem Flat.lt (h : Flat enc w g t T) : g < w.heap.size := At.lt h
theorem Flat.keep {S : Nat → Prop} (h : Flat enc w g t T) (kk : Keep S w w') (hs : ¬ S g) : Flat enc w' g t T := kk.at h hs
theorem Flat.frozen (h : Flat enc w g t T) : ∀ i, w.frozen? ⟨g, i, none⟩ = false := At.frozen h
theorem Flat.cell (h : Flat enc w g t T) (hl : ∀ x, (enc x).length = k) {i : Nat} (hi : i < t.length) (j : Nat) (hj : j < k) : w.cell? ⟨g, i * k + j, none⟩ = (enc t[i])[j]? := by
  rw [At.cell h, ← flat_get hl t i hi j hj, List.getElem?_toArray]
theorem Flat.set (h : Flat enc w g t T) (hl : ∀ x, (enc x).length = k) {i : Nat} (hi : i < t.length) (y : α) (j : Nat) (v : Value) (hj : j < k) (hy : enc y = (enc t[i]).set j v) : Flat enc (w.setCell ⟨g, i * k + j, none⟩ v) g (t.set i y) T := by
  have := At.set h (i * k + j) v
  rw [List.setIfInBounds_toArray, flat_lset hl y j v hj t i hi hy] at this
  exact this
theorem Flat.other (h : Flat enc w g t T) {a : Addr} (ha : a.block ≠ g) (v : Value) : Flat enc (w.setCell a v) g t T := At.set_other h ha v
theorem Flat.alloc (h : Flat enc w g t T) (o : Obj) : Flat enc (w.alloc o) g t T := At.alloc h o
theorem Flat.drew (h : Flat enc w g t T) : Flat enc w.drew g t T := h
theorem Flat.new (w : World) (c : Array Value) (T : TypeId) (t : List α) (hc : c.toList = flat enc t) : Flat enc (w.alloc (.cells c T)) w.heap.size t T := by
  have : c = (flat enc t).toArray := by rw [← hc]
  subst this
  exact At.new _ _ _
theorem Flat.sl (h : Flat enc w g t T) (hl : ∀ x, (enc x).length = k) (hk : 0 < k) (h63 : t.length ≤ maxLen) : Sl enc k w (some ⟨g, 0, none⟩) t.length t.length t :=
  Sl.of_at h hl hk rfl (by simp) h63
end
theorem made_flat (hl : ∀ x, (enc x).length = k) (hk : 0 < k) (zc : Array Value) (z : α) (hz : zc.toList = enc z) (n : Nat) : (madeCells zc (n * k)).toList = flat enc (List.replicate n z) := by
  have hs : zc.size = k := by rw [← Array.length_toList, hz, hl]
  apply List.ext_getElem?
  intro j
  by_cases hj : j < n * k
  · have hq : j / k < n := Nat.div_lt_of_lt_mul (by rw [Nat.mul_comm]; exact hj)
    have hr : j % k < k := Nat.mod_lt _ hk
    have e1 : j / k * k + j % k = j := by rw [Nat.mul_comm]; exact Nat.div_add_mod j k
    have := flat_get hl (List.replicate n z) (j / k) (by simpa using hq) (j % k) hr
    rw [e1, List.getElem_replicate] at this
    rw [this, ← hz]
    simp only [madeCells, Array.toList_map, Array.toList_range, List.getElem?_map, hs]
    rw [List.getElem?_range hj, Option.map_some, Array.getElem?_toList, getElem!_pos zc _ (by omega), Array.getElem?_eq_getElem]
  · rw [List.getElem?_eq_none (by rw [Array.length_toList, size_madeCells]; omega), List.getElem?_eq_none (by rw [flat_length hl]; simp; omega)]
end
end Go.Proofs.YtmioichjhiengaaGreat

/-
  A ring of cells that holds a queue: what a store at its end, and the clearing of its head, leave of it.
-/
namespace Go.Proofs.YtmioichjhiengaaGreat
open Go.RowKit

/-- Cells that are stored one behind the other. -/
def putC (cur : Array Value) (o : Nat) : List Value → Array Value
  | [] => cur
  | v :: vs => putC (cur.setIfInBounds o v) (o + 1) vs
theorem putC_size (vs : List Value) : ∀ (cur : Array Value) (o : Nat), (putC cur o vs).size = cur.size := by
  induction vs with
  | nil => intro cur o; rfl
  | cons v vs ih => intro cur o; rw [putC, ih]; simp
theorem putC_get (vs : List Value) : ∀ (cur : Array Value) (o i : Nat), o + vs.length ≤ cur.size →
    (putC cur o vs)[i]? = if o ≤ i ∧ i < o + vs.length then vs[i - o]? else cur[i]? := by
  induction vs with
  | nil => intro cur o i h; simp [putC]; intro h1 h2; omega
  | cons v vs ih =>
    intro cur o i h
    rw [List.length_cons] at h ⊢
    rw [putC, ih _ _ _ (by simp; omega)]
    by_cases h1 : o + 1 ≤ i ∧ i < o + 1 + vs.length
    · rw [if_pos h1, if_pos (by omega), show i - o = (i - (o + 1)) + 1 by omega, List.getElem?_cons_succ]
    · rw [if_neg h1]
      by_cases h2 : o = i
      · subst h2
        rw [if_pos (by omega), Nat.sub_self, List.getElem?_cons_zero, Array.getElem?_setIfInBounds_self_of_lt (by omega)]
      · rw [if_neg (by omega), Array.getElem?_setIfInBounds_ne h2]
theorem putC_one (cur : Array Value) (o : Nat) (v : Value) : putC cur o [v] = cur.setIfInBounds o v := rfl

/-- A store of cells one behind the other. -/
def stores (w : World) (p : Nat) : Nat → List Value → World
  | _, [] => w
  | o, v :: vs => stores (w.setCell ⟨p, o, none⟩ v) p (o + 1) vs
theorem At.setL {w : World} {p : Nat} {T : TypeId} (vs : List Value) : ∀ {w : World} {c : Array Value} {o : Nat}, At w p c T → At (stores w p o vs) p (putC c o vs) T := by
  induction vs with
  | nil => intro w c o h; exact h
  | cons v vs ih => intro w c o h; exact ih (At.set h o v)
theorem putC_whole (vs : List Value) (c : Array Value) (h : vs.length = c.size) : putC c 0 vs = vs.toArray := by
  apply Array.ext_getElem?
  intro i
  rw [putC_get _ _ _ _ (by omega)]
  by_cases hi : i < vs.length
  · rw [if_pos ⟨Nat.zero_le _, by omega⟩, Nat.sub_zero]; simp
  · rw [if_neg (by omega), Array.getElem?_eq_none (by omega), Array.getElem?_eq_none (by simp; omega)]
theorem At.whole {w : World} {p : Nat} {c : Array Value} {T : TypeId} (h : At w p c T) (vs : List Value) (hl : vs.length = c.size) : At (stores w p 0 vs) p vs.toArray T := by
  have := At.setL (w := w) vs (o := 0) h
  rwa [putC_whole vs c hl] at this
theorem At.setL_other {p q : Nat} {T : TypeId} {c : Array Value} (hn : q ≠ p) (vs : List Value) : ∀ {w : World} {o : Nat}, At w p c T → At (stores w q o vs) p c T := by
  induction vs with
  | nil => intro w o h; exact h
  | cons v vs ih => intro w o h; exact ih (At.set_other (a := ⟨q, o, none⟩) h hn v)
theorem Keep.setL {S : Nat → Prop} {a : World} {p : Nat} (hp : p < a.heap.size → S p) (vs : List Value) : ∀ {w : World} {o : Nat}, Keep S a w → Keep S a (stores w p o vs) := by
  induction vs with
  | nil => intro w o h; exact h
  | cons v vs ih => intro w o h; exact ih (Keep.setCell (p := ⟨p, o, none⟩) h hp v)

/-- The cells hold a queue, its head at place fr, of room places of k cells each. -/
structure RingIn {α : Type} (enc : α → List Value) (k : Nat) (cur : Array Value) (room fr : Nat) (q : List α) : Prop where
  size : cur.size = room * k
  head : fr < room
  len : q.length ≤ room
  at_ : ∀ i (h : i < q.length) j, j < k → cur[((fr + i) % room) * k + j]? = (enc q[i])[j]?

section
variable {α : Type} {enc : α → List Value} {k : Nat} {cur : Array Value} {room fr : Nat} {q : List α}

theorem RingIn.slot {i : Nat} (h : i < room) {j : Nat} (hj : j < k) : i * k + j < room * k := by
  have : (i + 1) * k ≤ room * k := Nat.mul_le_mul_right k h
  rw [Nat.add_mul] at this; omega
theorem apart_slots {a b i j k : Nat} (h : a ≠ b) (hi : i < k) (hj : j < k) : a * k + i ≠ b * k + j := by
  intro e
  rcases Nat.lt_or_gt_of_ne h with h | h
  · have : (a + 1) * k ≤ b * k := Nat.mul_le_mul_right k h
    rw [Nat.add_mul] at this; omega
  · have : (b + 1) * k ≤ a * k := Nat.mul_le_mul_right k h
    rw [Nat.add_mul] at this; omega
theorem ring_inj {fr i j room : Nat} (hi : i < room) (hj : j < room) (h : (fr + i) % room = (fr + j) % room) : i = j := by
  have h1 := Nat.div_add_mod (fr + i) room
  have h2 := Nat.div_add_mod (fr + j) room
  have e : room * ((fr + i) / room) + j = room * ((fr + j) / room) + i := by omega
  rcases Nat.lt_trichotomy ((fr + i) / room) ((fr + j) / room) with h3 | h3 | h3
  · have : room * ((fr + i) / room + 1) ≤ room * ((fr + j) / room) := Nat.mul_le_mul_left room h3
    rw [Nat.mul_add] at this; omega
  · rw [h3] at e; omega
  · have : room * ((fr + j) / room + 1) ≤ room * ((fr + i) / room) := Nat.mul_le_mul_left room h3
    rw [Nat.mul_add] at this; omega

theorem RingIn.put (h : RingIn enc k cur room fr q) (hl : ∀ x, (enc x).length = k) (hq : q.length < room) (x : α) :
    RingIn enc k (putC cur (((fr + q.length) % room) * k) (enc x)) room fr (q ++ [x]) := by
  have hr : 0 < room := by have := h.head; omega
  have hm : (fr + q.length) % room < room := Nat.mod_lt _ hr
  have hfit : ((fr + q.length) % room) * k + (enc x).length ≤ cur.size := by
    rw [h.size, hl]
    have : ((fr + q.length) % room + 1) * k ≤ room * k := Nat.mul_le_mul_right k hm
    rw [Nat.add_mul] at this; omega
  refine ⟨by rw [putC_size]; exact h.size, h.head, by simp; omega, ?_⟩
  intro i hi j hj
  rw [List.length_append, List.length_singleton] at hi
  rw [putC_get _ _ _ _ hfit, hl]
  by_cases e : i = q.length
  · subst e
    rw [if_pos (by omega)]
    simp
  · have hi2 : i < q.length := by omega
    have hne : (fr + i) % room ≠ (fr + q.length) % room := fun h2 => e (ring_inj (by omega) hq h2)
    rw [if_neg, h.at_ i hi2 j hj, List.getElem_append_left hi2]
    rintro ⟨h3, h4⟩
    exact apart_slots (i := j) (j := (fr + i) % room * k + j - (fr + q.length) % room * k) hne hj (by omega) (by omega)

theorem RingIn.take {x : α} (h : RingIn enc k cur room fr (x :: q)) (z : List Value) (hz : z.length = k) :
    (∀ j, j < k → cur[fr * k + j]? = (enc x)[j]?) ∧ RingIn enc k (putC cur (fr * k) z) room ((fr + 1) % room) q := by
  have hr : 0 < room := by have := h.head; omega
  have hf := h.head
  have hlen := h.len
  rw [List.length_cons] at hlen
  have hfit : fr * k + z.length ≤ cur.size := by
    rw [h.size, hz]
    have : (fr + 1) * k ≤ room * k := Nat.mul_le_mul_right k hf
    rw [Nat.add_mul] at this; omega
  constructor
  · intro j hj
    have := h.at_ 0 (by simp) j hj
    rw [Nat.add_zero, Nat.mod_eq_of_lt hf] at this
    simpa using this
  · refine ⟨by rw [putC_size]; exact h.size, Nat.mod_lt _ hr, by omega, ?_⟩
    intro i hi j hj
    rw [putC_get _ _ _ _ hfit, hz, Nat.mod_add_mod]
    have e : fr + 1 + i = fr + (i + 1) := by omega
    rw [e]
    have hne : (fr + (i + 1)) % room ≠ fr := fun h2 => by
      have := ring_inj (fr := fr) (i := i + 1) (j := 0) (room := room) (by omega) hr (by rw [h2, Nat.add_zero, Nat.mod_eq_of_lt hf])
      omega
    have := h.at_ (i + 1) (by simp; omega) j hj
    rw [if_neg, this]
    · simp
    · rintro ⟨h3, h4⟩
      exact apart_slots (i := j) (j := (fr + (i + 1)) % room * k + j - fr * k) hne hj (by omega) (by omega)

/-- The blocks of a mailbox: p its struct, g its ring. -/
def BoxAt (enc : α → List Value) (k : Nat) (TB TE : TypeId) (w : World) (p g room : Nat) (q : List α) (cl : Bool) : Prop :=
  p ≠ g ∧ 1 ≤ room ∧ room ≤ 16 ∧ ∃ (fr : Nat) (cur : Array Value), At w p #[.slice (some ⟨g, 0, none⟩) room room, .int .i64 fr, .int .i64 (q.length : Nat), .bool cl] TB ∧ At w g cur TE ∧ RingIn enc k cur room fr q
def two (p g : Nat) : Nat → Prop := fun b => b = p ∨ b = g
theorem BoxAt.keep {S : Nat → Prop} {TB TE : TypeId} {w w' : World} {p g : Nat} {cl : Bool} (h : BoxAt enc k TB TE w p g room q cl) (kk : Keep S w w') (hp : ¬ S p) (hg : ¬ S g) : BoxAt enc k TB TE w' p g room q cl := by
  obtain ⟨h1, h2, h3, fr, cur, h4, h5, h6⟩ := h
  exact ⟨h1, h2, h3, fr, cur, kk.at h4 hp, kk.at h5 hg, h6⟩
theorem BoxAt.le {TB TE : TypeId} {w : World} {p g : Nat} {cl : Bool} (h : BoxAt enc k TB TE w p g room q cl) : q.length ≤ room := by
  obtain ⟨h1, h2, h3, fr, cur, h4, h5, h6⟩ := h
  exact h6.len
theorem BoxAt.lt {TB TE : TypeId} {w : World} {p g : Nat} {cl : Bool} (h : BoxAt enc k TB TE w p g room q cl) : p < w.heap.size ∧ g < w.heap.size := by
  obtain ⟨h1, h2, h3, fr, cur, h4, h5, h6⟩ := h
  exact ⟨h4.lt, h5.lt⟩
def NewBox (enc : α → List Value) (k : Nat) (TB TE : TypeId) (w : World) (room : Nat) (e : Ending) (w' : World) : Prop :=
  ∃ p g, e = .returned (.tuple #[.pointer (some ⟨p, 0, none⟩), .nilIface]) ∧ Keep none_ w w' ∧ w.heap.size ≤ p ∧ w.heap.size ≤ g ∧ BoxAt enc k TB TE w' p g room [] false
end
end Go.Proofs.YtmioichjhiengaaGreat

/-
  A row of the call's own: an element stored, the last one dropped.
-/
namespace Go.Proofs.YtmioichjhiengaaGreat
open Go.RowKit

section
variable {α : Type} {enc : α → List Value} {k : Nat}
theorem own_stores {w : World} {base g n cap : Nat} {e : TypeId} {l : List α} (hl : ∀ x, (enc x).length = k) (hk : 0 < k) (h : w.ownsRow base e k (.slice (some ⟨g, 0, none⟩) n cap) n (flat enc l))
    (i : Nat) (hi : i < l.length) (x : α) : (stores w g (i * k) (enc x)).ownsRow base e k (.slice (some ⟨g, 0, none⟩) n cap) n (flat enc (l.set i x)) := by
  have hn := own_len hl hk h
  rcases h.2 with ⟨h0, -⟩ | ⟨g', cap', cur, he, hb, hg, hc, hm, hs, ht⟩
  · cases h0
  · obtain ⟨rfl, rfl⟩ : g = g' ∧ cap = cap' := by simpa using he
    have hin : i * k + k ≤ cur.size := by
      rw [hs]
      calc i * k + k = (i + 1) * k := by rw [Nat.add_mul]; omega
        _ ≤ cap * k := Nat.mul_le_mul_right _ (by omega)
    refine ⟨by rw [flat_length hl, List.length_set, hn], .inr ⟨g, cap, putC cur (i * k) (enc x), rfl, hb, At.setL (w := w) (enc x) (c := cur) hg, hc, hm, by rw [putC_size, hs], ?_⟩⟩
    apply List.ext_getElem?
    intro j
    by_cases hj : j < n * k
    · have hq : j / k < l.length := by rw [← hn]; exact Nat.div_lt_of_lt_mul (by rw [Nat.mul_comm]; exact hj)
      have hr : j % k < k := Nat.mod_lt _ hk
      have e1 : j / k * k + j % k = j := by rw [Nat.mul_comm]; exact Nat.div_add_mod j k
      rw [List.getElem?_take_of_lt hj, Array.getElem?_toList, putC_get _ _ _ _ (by rw [hl]; exact hin)]
      have f1 := flat_get hl (l.set i x) (j / k) (by simpa using hq) (j % k) hr
      have f2 := flat_get hl l (j / k) hq (j % k) hr
      rw [e1] at f1 f2
      rw [f1, hl]
      by_cases hij : j / k = i
      · have hjk : j = i * k + j % k := by rw [← hij]; exact e1.symm
        rw [if_pos (by omega)]
        have : (l.set i x)[j / k]'(by simpa using hq) = x := by simp [hij]
        rw [this, show j - i * k = j % k by omega]
      · rw [if_neg (by
          intro ⟨ha, hb2⟩
          apply hij
          have : j / k = i := by
            rw [Nat.div_eq_of_lt_le (by omega) (by rw [Nat.add_mul]; omega)]
          exact this)]
        rw [List.getElem_set_ne (by omega), ← f2, ← ht, List.getElem?_take_of_lt hj, Array.getElem?_toList]
    · rw [List.getElem?_eq_none (by rw [List.length_take]; omega), List.getElem?_eq_none (by rw [flat_length hl, List.length_set, ← hn]; omega)]
theorem own_shrink {w : World} {base g n cap m : Nat} {e : TypeId} {l : List α} (hl : ∀ x, (enc x).length = k) (hk : 0 < k) (h : w.ownsRow base e k (.slice (some ⟨g, 0, none⟩) n cap) n (flat enc l)) (hmn : m ≤ n) :
    w.ownsRow base e k (.slice (some ⟨g, 0, none⟩) m cap) m (flat enc (l.take m)) := by
  have hn := own_len hl hk h
  rcases h.2 with ⟨h0, -⟩ | ⟨g', cap', cur, he, hb, hg, hc, hm, hs, ht⟩
  · cases h0
  · obtain ⟨rfl, rfl⟩ : g = g' ∧ cap = cap' := by simpa using he
    refine ⟨by rw [flat_length hl, List.length_take, ← hn, Nat.min_eq_left hmn], .inr ⟨g, cap, cur, rfl, hb, hg, by omega, hm, hs, ?_⟩⟩
    have e1 : flat enc (l.take m) = (flat enc l).take (m * k) := by
      have : flat enc l = flat enc (l.take m) ++ flat enc (l.drop m) := by rw [← flat_append, List.take_append_drop]
      have hlen : (flat enc (l.take m)).length = m * k := by rw [flat_length hl, List.length_take, ← hn, Nat.min_eq_left hmn]
      rw [this]
      generalize flat enc (l.take m) = a at hlen ⊢
      generalize flat enc (l.drop m) = b
      rw [← hlen]; simp
    rw [e1, ← ht, List.take_take, Nat.min_eq_left (Nat.mul_le_mul_right _ hmn)]
theorem own_some {w : World} {base n : Nat} {e : TypeId} {v : Value} {xs : List Value} (h : w.ownsRow base e k v n xs) (hn : 0 < n) : ∃ g cap, v = .slice (some ⟨g, 0, none⟩) n cap ∧ base ≤ g ∧ g < w.heap.size ∧ n ≤ cap ∧ cap ≤ maxLen := by
  rcases h.2 with ⟨-, h0⟩ | ⟨g, cap, cur, rfl, hb, hg, hc, hm, -⟩
  · omega
  · exact ⟨g, cap, rfl, hb, (Array.getElem?_eq_some_iff.1 hg).1, hc, hm⟩
end
end Go.Proofs.YtmioichjhiengaaGreat

/-
  '==' and '!=' between structs, as Bools over the fields. WRITTEN BY PROGRAM (wip/geneq.py).
-/
namespace Go.Proofs.YtmioichjhiengaaGreat
open Go.RowKit

/-- Two strings are the same. -/
def strB (a b : ByteArray) : Bool := decide (a.toList = b.toList)
theorem strB_iff (a b : ByteArray) : strB a b = true ↔ a = b := by
  unfold strB
  rw [decide_eq_true_eq]
  constructor
  · intro h
    have h2 : a.data.toList = b.data.toList := by
      rw [← ByteArray.toList_eq a, ← ByteArray.toList_eq b, h]
    cases a; cases b
    simp only [ByteArray.mk.injEq]
    exact Array.toList_inj.1 h2
  · rintro rfl; rfl
def Span.eqB (x y : Span) : Bool := x.s == y.s && x.e == y.e
theorem Span.eqB_iff (x y : Span) : x.eqB y = true ↔ x = y := by
  obtain ⟨x0, x1⟩ := x
  obtain ⟨y0, y1⟩ := y
  simp only [Span.eqB, Bool.and_eq_true, beq_iff_eq, Span.mk.injEq]
theorem run_eql_Span (x y : Span) (w : World) : (binOp .eql 84 (.agg x.cells.toArray) (.agg y.cells.toArray)).run Tryz.prog w = .ok (.bool (x.eqB y)) w := by
  have hS : Tryz.prog.underlying 84 = some (.struct (Tryz.prog.fieldsOf 84)) := by kernel_rfl
  have hp : Tryz.prog.stoodInHeld 84 = false := by kernel_rfl
  obtain ⟨a0, a1⟩ := x
  obtain ⟨b0, b1⟩ := y
  simp only [Span.cells, Span.eqB]
  rw [run_eql_struct, show (10000 : Nat) = 9999 + 1 from rfl, run_equalIn_agg w 9999 84 _ _ hS hp]
  simp only [Program.fieldsOf, Tryz.underlying84]
  go_simp
  by_cases h0 : a0 = b0
  rotate_left
  · simp [h0]
  by_cases h1 : a1 = b1
  rotate_left
  · simp [h0, h1]
  simp [h0, h1]
theorem run_neq_Span (x y : Span) (w : World) : (binOp .neq 84 (.agg x.cells.toArray) (.agg y.cells.toArray)).run Tryz.prog w = .ok (.bool (!(x.eqB y))) w := by
  have hS : Tryz.prog.underlying 84 = some (.struct (Tryz.prog.fieldsOf 84)) := by kernel_rfl
  have hp : Tryz.prog.stoodInHeld 84 = false := by kernel_rfl
  obtain ⟨a0, a1⟩ := x
  obtain ⟨b0, b1⟩ := y
  simp only [Span.cells, Span.eqB]
  rw [run_neq_struct, show (10000 : Nat) = 9999 + 1 from rfl, run_equalIn_agg w 9999 84 _ _ hS hp]
  simp only [Program.fieldsOf, Tryz.underlying84]
  go_simp
  by_cases h0 : a0 = b0
  rotate_left
  · simp [h0]
  by_cases h1 : a1 = b1
  rotate_left
  · simp [h0, h1]
  simp [h0, h1]
def Agg.eqB (x y : Agg) : Bool := x.count == y.count && (x.sum == y.sum && (x.lo == y.lo && x.hi == y.hi))
theorem Agg.eqB_iff (x y : Agg) : x.eqB y = true ↔ x = y := by
  obtain ⟨x0, x1, x2, x3⟩ := x
  obtain ⟨y0, y1, y2, y3⟩ := y
  simp only [Agg.eqB, Bool.and_eq_true, beq_iff_eq, Agg.mk.injEq]
theorem run_eql_Agg (x y : Agg) (w : World) : (binOp .eql 86 (.agg x.cells.toArray) (.agg y.cells.toArray)).run Tryz.prog w = .ok (.bool (x.eqB y)) w := by
  have hS : Tryz.prog.underlying 86 = some (.struct (Tryz.prog.fieldsOf 86)) := by kernel_rfl
  have hp : Tryz.prog.stoodInHeld 86 = false := by kernel_rfl
  obtain ⟨a0, a1, a2, a3⟩ := x
  obtain ⟨b0, b1, b2, b3⟩ := y
  simp only [Agg.cells, Agg.eqB]
  rw [run_eql_struct, show (10000 : Nat) = 9999 + 1 from rfl, run_equalIn_agg w 9999 86 _ _ hS hp]
  simp only [Program.fieldsOf, Tryz.underlying86]
  go_simp
  by_cases h0 : a0 = b0
  rotate_left
  · simp [h0]
  by_cases h1 : a1 = b1
  rotate_left
  · simp [h0, h1]
  by_cases h2 : a2 = b2
  rotate_left
  · simp [h0, h1, h2]
  by_cases h3 : a3 = b3
  rotate_left
  · simp [h0, h1, h2, h3]
  simp [h0, h1, h2, h3]
theorem run_neq_Agg (x y : Agg) (w : World) : (binOp .neq 86 (.agg x.cells.toArray) (.agg y.cells.toArray)).run Tryz.prog w = .ok (.bool (!(x.eqB y))) w := by
  have hS : Tryz.prog.underlying 86 = some (.struct (Tryz.prog.fieldsOf 86)) := by kernel_rfl
  have hp : Tryz.prog.stoodInHeld 86 = false := by kernel_rfl
  obtain ⟨a0, a1, a2, a3⟩ := x
  obtain ⟨b0, b1, b2, b3⟩ := y
  simp only [Agg.cells, Agg.eqB]
  rw [run_neq_struct, show (10000 : Nat) = 9999 + 1 from rfl, run_equalIn_agg w 9999 86 _ _ hS hp]
  simp only [Program.fieldsOf, Tryz.underlying86]
  go_simp
  by_cases h0 : a0 = b0
  rotate_left
  · simp [h0]
  by_cases h1 : a1 = b1
  rotate_left
  · simp [h0, h1]
  by_cases h2 : a2 = b2
  rotate_left
  · simp [h0, h1, h2]
  by_cases h3 : a3 = b3
  rotate_left
  · simp [h0, h1, h2, h3]
  simp [h0, h1, h2, h3]
def Pane.eqB (x y : Pane) : Bool := strB x.key y.key && (x.span.eqB y.span && x.agg.eqB y.agg)
theorem Pane.eqB_iff (x y : Pane) : x.eqB y = true ↔ x = y := by
  obtain ⟨x0, x1, x2⟩ := x
  obtain ⟨y0, y1, y2⟩ := y
  simp only [Pane.eqB, Bool.and_eq_true, beq_iff_eq, Pane.mk.injEq, strB_iff, Agg.eqB_iff, Span.eqB_iff]
theorem run_eql_Pane (x y : Pane) (w : World) : (binOp .eql 88 (.agg x.cells.toArray) (.agg y.cells.toArray)).run Tryz.prog w = .ok (.bool (x.eqB y)) w := by
  have hS : Tryz.prog.underlying 88 = some (.struct (Tryz.prog.fieldsOf 88)) := by kernel_rfl
  have hp : Tryz.prog.stoodInHeld 88 = false := by kernel_rfl
  obtain ⟨a0, ⟨a1, a2⟩, ⟨a3, a4, a5, a6⟩⟩ := x
  obtain ⟨b0, ⟨b1, b2⟩, ⟨b3, b4, b5, b6⟩⟩ := y
  simp only [Agg.cells, Agg.eqB, Pane.cells, Pane.eqB, Span.cells, Span.eqB, strB]
  rw [run_eql_struct, show (10000 : Nat) = 9999 + 1 from rfl, run_equalIn_agg w 9999 88 _ _ hS hp]
  simp only [Program.fieldsOf, Tryz.underlying88]
  go_simp
  by_cases h0 : a0.toList = b0.toList
  rotate_left
  · simp [h0]
  by_cases h1 : a1 = b1
  rotate_left
  · simp [h0, h1]
  by_cases h2 : a2 = b2
  rotate_left
  · simp [h0, h1, h2]
  by_cases h3 : a3 = b3
  rotate_left
  · simp [h0, h1, h2, h3]
  by_cases h4 : a4 = b4
  rotate_left
  · simp [h0, h1, h2, h3, h4]
  by_cases h5 : a5 = b5
  rotate_left
  · simp [h0, h1, h2, h3, h4, h5]
  by_cases h6 : a6 = b6
  rotate_left
  · simp [h0, h1, h2, h3, h4, h5, h6]
  simp [h0, h1, h2, h3, h4, h5, h6]
theorem run_neq_Pane (x y : Pane) (w : World) : (binOp .neq 88 (.agg x.cells.toArray) (.agg y.cells.toArray)).run Tryz.prog w = .ok (.bool (!(x.eqB y))) w := by
  have hS : Tryz.prog.underlying 88 = some (.struct (Tryz.prog.fieldsOf 88)) := by kernel_rfl
  have hp : Tryz.prog.stoodInHeld 88 = false := by kernel_rfl
  obtain ⟨a0, ⟨a1, a2⟩, ⟨a3, a4, a5, a6⟩⟩ := x
  obtain ⟨b0, ⟨b1, b2⟩, ⟨b3, b4, b5, b6⟩⟩ := y
  simp only [Agg.cells, Agg.eqB, Pane.cells, Pane.eqB, Span.cells, Span.eqB, strB]
  rw [run_neq_struct, show (10000 : Nat) = 9999 + 1 from rfl, run_equalIn_agg w 9999 88 _ _ hS hp]
  simp only [Program.fieldsOf, Tryz.underlying88]
  go_simp
  by_cases h0 : a0.toList = b0.toList
  rotate_left
  · simp [h0]
  by_cases h1 : a1 = b1
  rotate_left
  · simp [h0, h1]
  by_cases h2 : a2 = b2
  rotate_left
  · simp [h0, h1, h2]
  by_cases h3 : a3 = b3
  rotate_left
  · simp [h0, h1, h2, h3]
  by_cases h4 : a4 = b4
  rotate_left
  · simp [h0, h1, h2, h3, h4]
  by_cases h5 : a5 = b5
  rotate_left
  · simp [h0, h1, h2, h3, h4, h5]
  by_cases h6 : a6 = b6
  rotate_left
  · simp [h0, h1, h2, h3, h4, h5, h6]
  simp [h0, h1, h2, h3, h4, h5, h6]
def Call.eqB (x y : Call) : Bool := x.op == y.op && (strB x.key y.key && (x.time == y.time && (x.value == y.value && (x.fin == y.fin && (x.group == y.group && x.shard == y.shard)))))
theorem Call.eqB_iff (x y : Call) : x.eqB y = true ↔ x = y := by
  obtain ⟨x0, x1, x2, x3, x4, x5, x6⟩ := x
  obtain ⟨y0, y1, y2, y3, y4, y5, y6⟩ := y
  simp only [Call.eqB, Bool.and_eq_true, beq_iff_eq, Call.mk.injEq, strB_iff]
theorem run_eql_Call (x y : Call) (w : World) : (binOp .eql 60 (.agg x.cells.toArray) (.agg y.cells.toArray)).run Tryz.prog w = .ok (.bool (x.eqB y)) w := by
  have hS : Tryz.prog.underlying 60 = some (.struct (Tryz.prog.fieldsOf 60)) := by kernel_rfl
  have hp : Tryz.prog.stoodInHeld 60 = false := by kernel_rfl
  obtain ⟨a0, a1, a2, a3, a4, a5, a6⟩ := x
  obtain ⟨b0, b1, b2, b3, b4, b5, b6⟩ := y
  simp only [Call.cells, Call.eqB, strB]
  rw [run_eql_struct, show (10000 : Nat) = 9999 + 1 from rfl, run_equalIn_agg w 9999 60 _ _ hS hp]
  simp only [Program.fieldsOf, Tryz.underlying60]
  go_simp
  by_cases h0 : a0 = b0
  rotate_left
  · simp [h0]
  by_cases h1 : a1.toList = b1.toList
  rotate_left
  · simp [h0, h1]
  by_cases h2 : a2 = b2
  rotate_left
  · simp [h0, h1, h2]
  by_cases h3 : a3 = b3
  rotate_left
  · simp [h0, h1, h2, h3]
  by_cases h4 : a4 = b4
  rotate_left
  · simp [h0, h1, h2, h3, h4]
  by_cases h5 : a5 = b5
  rotate_left
  · simp [h0, h1, h2, h3, h4, h5]
  by_cases h6 : a6 = b6
  rotate_left
  · simp [h0, h1, h2, h3, h4, h5, h6]
  simp [h0, h1, h2, h3, h4, h5, h6]
theorem run_neq_Call (x y : Call) (w : World) : (binOp .neq 60 (.agg x.cells.toArray) (.agg y.cells.toArray)).run Tryz.prog w = .ok (.bool (!(x.eqB y))) w := by
  have hS : Tryz.prog.underlying 60 = some (.struct (Tryz.prog.fieldsOf 60)) := by kernel_rfl
  have hp : Tryz.prog.stoodInHeld 60 = false := by kernel_rfl
  obtain ⟨a0, a1, a2, a3, a4, a5, a6⟩ := x
  obtain ⟨b0, b1, b2, b3, b4, b5, b6⟩ := y
  simp only [Call.cells, Call.eqB, strB]
  rw [run_neq_struct, show (10000 : Nat) = 9999 + 1 from rfl, run_equalIn_agg w 9999 60 _ _ hS hp]
  simp only [Program.fieldsOf, Tryz.underlying60]
  go_simp
  by_cases h0 : a0 = b0
  rotate_left
  · simp [h0]
  by_cases h1 : a1.toList = b1.toList
  rotate_left
  · simp [h0, h1]
  by_cases h2 : a2 = b2
  rotate_left
  · simp [h0, h1, h2]
  by_cases h3 : a3 = b3
  rotate_left
  · simp [h0, h1, h2, h3]
  by_cases h4 : a4 = b4
  rotate_left
  · simp [h0, h1, h2, h3, h4]
  by_cases h5 : a5 = b5
  rotate_left
  · simp [h0, h1, h2, h3, h4, h5]
  by_cases h6 : a6 = b6
  rotate_left
  · simp [h0, h1, h2, h3, h4, h5, h6]
  simp [h0, h1, h2, h3, h4, h5, h6]
def Timer.eqB (x y : Timer) : Bool := strB x.key y.key && x.span.eqB y.span
theorem Timer.eqB_iff (x y : Timer) : x.eqB y = true ↔ x = y := by
  obtain ⟨x0, x1⟩ := x
  obtain ⟨y0, y1⟩ := y
  simp only [Timer.eqB, Bool.and_eq_true, beq_iff_eq, Timer.mk.injEq, strB_iff, Span.eqB_iff]
theorem run_eql_Timer (x y : Timer) (w : World) : (binOp .eql 95 (.agg x.cells.toArray) (.agg y.cells.toArray)).run Tryz.prog w = .ok (.bool (x.eqB y)) w := by
  have hS : Tryz.prog.underlying 95 = some (.struct (Tryz.prog.fieldsOf 95)) := by kernel_rfl
  have hp : Tryz.prog.stoodInHeld 95 = false := by kernel_rfl
  obtain ⟨a0, ⟨a1, a2⟩⟩ := x
  obtain ⟨b0, ⟨b1, b2⟩⟩ := y
  simp only [Span.cells, Span.eqB, Timer.cells, Timer.eqB, strB]
  rw [run_eql_struct, show (10000 : Nat) = 9999 + 1 from rfl, run_equalIn_agg w 9999 95 _ _ hS hp]
  simp only [Program.fieldsOf, Tryz.underlying95]
  go_simp
  by_cases h0 : a0.toList = b0.toList
  rotate_left
  · simp [h0]
  by_cases h1 : a1 = b1
  rotate_left
  · simp [h0, h1]
  by_cases h2 : a2 = b2
  rotate_left
  · simp [h0, h1, h2]
  simp [h0, h1, h2]
theorem run_neq_Timer (x y : Timer) (w : World) : (binOp .neq 95 (.agg x.cells.toArray) (.agg y.cells.toArray)).run Tryz.prog w = .ok (.bool (!(x.eqB y))) w := by
  have hS : Tryz.prog.underlying 95 = some (.struct (Tryz.prog.fieldsOf 95)) := by kernel_rfl
  have hp : Tryz.prog.stoodInHeld 95 = false := by kernel_rfl
  obtain ⟨a0, ⟨a1, a2⟩⟩ := x
  obtain ⟨b0, ⟨b1, b2⟩⟩ := y
  simp only [Span.cells, Span.eqB, Timer.cells, Timer.eqB, strB]
  rw [run_neq_struct, show (10000 : Nat) = 9999 + 1 from rfl, run_equalIn_agg w 9999 95 _ _ hS hp]
  simp only [Program.fieldsOf, Tryz.underlying95]
  go_simp
  by_cases h0 : a0.toList = b0.toList
  rotate_left
  · simp [h0]
  by_cases h1 : a1 = b1
  rotate_left
  · simp [h0, h1]
  by_cases h2 : a2 = b2
  rotate_left
  · simp [h0, h1, h2]
  simp [h0, h1, h2]
end Go.Proofs.YtmioichjhiengaaGreat

/-
  A region that draws its order, whose first n operations only read or call what makes new blocks alone, and whose others come behind all of them, one behind the other: one walk of the text's order, in a class of worlds.
-/
namespace Go.Proofs.YtmioichjhiengaaGreat
open Go.RowKit

/-- Binding edges lead to what stands ahead; guards of the head lie in it. -/
def headDown (ops : Array Oper) (n : Nat) : Bool :=
  (List.range n).all fun i => match ops[i]? with
    | some o => o.after.all (fun e => !Region.binds .any e || decide (e.on < i)) && (match o.guard with | some (j, _) => decide (j < n) | none => true)
    | none => false
def headList (n m : Nat) : Array Bool := Array.replicate n true ++ Array.replicate m false
def tailOk (l : List Oper) (n : Nat) : Bool :=
  decide (n < l.length) && Region.lexB .any (l.take n).toArray && Region.sinkB .any l.toArray n && Region.chainB .any l.toArray n && headDown l.toArray n &&
    Region.seqB .any l.toArray (l.length - n) n (headList n (l.length - n))

section
variable {P : Program} {ops hd : Array Oper} {n : Nat}

theorem wanted_head {o : Oper} {a : Act} (hh : ∀ j, j < n → hd[j]? = ops[j]?) (hg : ∀ j b, o.guard = some (j, b) → j < n) :
    Region.wanted o (yielded ops a.tmps) = Region.wanted o (yielded hd a.tmps) := by
  unfold Region.wanted
  cases ho : o.guard with
  | none => rfl
  | some p =>
    obtain ⟨j, b⟩ := p
    simp only [yielded, hh j (hg j b ho)]

theorem headDown_at {i : Nat} {o : Oper} (h : headDown ops n = true) (hi : i < n) (ho : ops[i]? = some o) :
    (∀ e ∈ o.after, Region.binds .any e = true → e.on < i) ∧ ∀ j b, o.guard = some (j, b) → j < n := by
  have h1 := List.all_eq_true.1 h i (List.mem_range.2 hi)
  simp only [ho, Bool.and_eq_true] at h1
  refine ⟨fun e he hb => ?_, fun j b hg => ?_⟩
  · have h2 := Array.all_eq_true_iff_forall_mem.1 h1.1 e he
    simpa [hb] using h2
  · have h2 := h1.2
    simp only [hg] at h2
    simpa using h2

/-- So many of the first n are not yet listed. -/
def openOf (listed : Array Bool) (n : Nat) : Nat := (List.range n).countP fun i => !listed.getD i true

theorem openOf_set {listed : Array Bool} {n i : Nat} (hi : i < n) (hs : i < listed.size) (hun : listed.getD i true = false) : openOf listed n = openOf (listed.setIfInBounds i true) n + 1 := by
  unfold openOf
  induction n with
  | zero => omega
  | succ n ih =>
    rw [List.range_succ, List.countP_append, List.countP_append]
    by_cases hin : i = n
    · subst hin
      have h1 : (List.range i).countP (fun j => !listed.getD j true) = (List.range i).countP (fun j => !(listed.setIfInBounds i true).getD j true) := by
        refine List.countP_congr fun j hj => ?_
        rw [getD_set_ne true (by have := List.mem_range.1 hj; omega)]
      have h2 : (listed.setIfInBounds i true).getD i true = true := by simp [hs]
      rw [h1]
      simp only [List.countP_cons, List.countP_nil, hun, h2]
      simp
    · have hlt : i < n := by omega
      rw [ih hlt]
      have h3 : (listed.setIfInBounds i true).getD n true = listed.getD n true := getD_set_ne true hin
      simp only [List.countP_cons, List.countP_nil, h3]
      omega

theorem openOf_pos {listed : Array Bool} {n : Nat} (h : 0 < openOf listed n) : ∃ i, i < n ∧ listed.getD i true = false ∧ ∀ j, j < i → listed.getD j true = true := by
  have h1 : ∃ i, i < n ∧ listed.getD i true = false := by
    obtain ⟨i, hi, hb⟩ := List.countP_pos_iff.1 h
    exact ⟨i, List.mem_range.1 hi, by simpa using hb⟩
  obtain ⟨i, hi, hb⟩ := h1
  induction i using Nat.strongRecOn with
  | _ i ih =>
    by_cases hall : ∀ j, j < i → listed.getD j true = true
    · exact ⟨i, hi, hb, hall⟩
    · obtain ⟨j, hj⟩ := Classical.not_forall.1 hall
      obtain ⟨hj1, hj2⟩ := Classical.not_imp.1 hj
      exact ih j hj1 (by omega) (by simpa using hj2)

theorem openOf_zero {listed : Array Bool} {n : Nat} (h : openOf listed n = 0) : ∀ i, i < n → listed.getD i true = true := by
  intro i hi
  have := List.countP_eq_zero.1 h i (List.mem_range.2 hi)
  simpa using this

theorem wpAny_of_headQ {C : World → Prop} {g : Nat} {Qh : Act → Prop} {Q' : Exit → Act → World → Prop} (hsz : n < ops.size) (hhs : hd.size = n) (hh : ∀ j, j < n → hd[j]? = ops[j]?)
    (hs : Region.sinkB .any ops n = true) (hc : Region.chainB .any ops n = true) (hdn : headDown ops n = true)
    (hfin : ∀ listed a w, HeadInv .any ops n listed → openOf listed n = 0 → C w → Qh a → wpAny P .any ops Q' g listed a w) :
    ∀ (f : Nat) (listed lh : Array Bool) (a : Act) (w : World), HeadInv .any ops n listed → lh.size = n → (∀ i, i < n → lh.getD i true = listed.getD i true) → openOf listed n = f → C w →
      wpAnyQ P .any hd C Qh f lh a → wpAny P .any ops Q' (f + g) listed a w := by
  intro f
  induction f with
  | zero =>
    intro listed lh a w inv hls hag ho hw h
    rw [Nat.zero_add]
    exact hfin listed a w inv ho hw h.2
  | succ f ih =>
    intro listed lh a w inv hls hag ho hw h
    rw [show f + 1 + g = (f + g) + 1 by omega]
    have hagf : ∀ i, i < n → lh.getD i false = listed.getD i false := fun i hi => by
      have h1 := hag i hi
      have h2 : i < listed.size := by rw [inv.size]; omega
      have h3 : i < lh.size := by omega
      simp only [Array.getD_eq_getD_getElem?, Array.getElem?_eq_getElem h2, Array.getElem?_eq_getElem h3, Option.getD_some] at h1 ⊢
      exact h1
    obtain ⟨i0, hi0, hun0, hall0⟩ := openOf_pos (listed := listed) (n := n) (by omega)
    have tready : ∀ i, i < n → i ∈ Region.ready .any ops listed → i ∈ Region.ready .any hd lh := fun i hi hr => by
      obtain ⟨hun, o, hoo, hall⟩ := mem_ready.1 hr
      refine mem_ready.2 ⟨by rw [hag i hi]; exact hun, o, by rw [hh i hi]; exact hoo, fun e he hb => ?_⟩
      have hlt := (headDown_at hdn hi hoo).1 e he hb
      rw [hagf e.on (by omega)]
      exact hall e he hb
    refine ⟨fun h0 => ?_, fun i hi => ?_⟩
    · exfalso
      have ho0 : ops[i0]? = some (ops[i0]'(by omega)) := Array.getElem?_eq_getElem (by omega)
      have : i0 ∈ Region.ready .any ops listed := mem_ready.2 ⟨hun0, _, ho0, fun e he hb => by
        have hlt := (headDown_at hdn hi0 ho0).1 e he hb
        have h1 := hall0 e.on hlt
        have h2 : e.on < listed.size := by rw [inv.size]; omega
        simp only [Array.getD_eq_getD_getElem?, Array.getElem?_eq_getElem h2, Option.getD_some] at h1 ⊢
        exact h1⟩
      rw [h0] at this
      cases this
    · have hin : i < n := by
        rcases Nat.lt_or_ge i n with h1 | h1
        · exact h1
        · exact absurd hi (tail_waits hs hc hsz inv _ i0 rfl hi0 hun0 i h1)
      have h1 := h.2 i (tready i hin hi)
      obtain ⟨hun, o, hoo, _⟩ := mem_ready.1 hi
      have hi2 : i < listed.size := by rw [inv.size]; omega
      have hcont : ∀ a' w', C w' → wpAnyQ P .any hd C Qh f (lh.setIfInBounds i true) a' → wpAny P .any ops Q' (f + g) (listed.setIfInBounds i true) a' w' := fun a' w' hw' hk => by
        refine ih _ _ a' w' (inv.set hi hin) (by simpa using hls) (fun j hj => ?_) ?_ hw' hk
        · by_cases hij : i = j
          · subst hij
            have h3 : i < lh.size := by omega
            simp [hi2, h3]
          · rw [getD_set_ne true hij, getD_set_ne true hij]; exact hag j hj
        · have := openOf_set hin hi2 hun
          omega
      unfold qOp at h1
      unfold wpOp
      rw [hh i hin] at h1
      simp only [hoo] at h1 ⊢
      rw [wanted_head hh (headDown_at hdn hin hoo).2]
      by_cases hwant : Region.wanted o (yielded hd a.tmps) = true
      · simp only [hwant, if_true] at h1 ⊢
        exact .inl (Oper.wp_of_quiet hw hcont h1)
      · simp only [hwant] at h1 ⊢
        exact hcont _ _ hw h1
end

/-- The law. -/
theorem wp_region_class_tail {P : Program} {ι : Type} (f : ι → World) {id : Nat} {Q : Exit → Act → World → Prop} {a : Act} {w : World} {l : List Oper} (n : Nat) (hm : P.follows .mixedOrders = true) (hB : tailOk l n = true)
    (h0 : ∃ k, f k = w.drew)
    (h : wpQuiet P (l.take n).toArray (fun w' => ∃ k, w' = f k) (fun a' => ∀ k, wpList P l.toArray Q (l.drop n) a' (f k)) (l.take n) a) : (Code.region id l.toArray true).wp P Q a w := by
  simp only [tailOk, Bool.and_eq_true, decide_eq_true_eq] at hB
  obtain ⟨⟨⟨⟨⟨hn, hlex⟩, hs⟩, hc⟩, hdn⟩, hseq⟩ := hB
  simp only [Region.lexB, Bool.and_eq_true] at hlex
  have hsz : n < l.toArray.size := by simpa using hn
  have htl : (l.take n).length = n := by simp; omega
  have hdl : (l.drop n).length = l.length - n := by simp
  have hh : ∀ j, j < n → (l.take n).toArray[j]? = l.toArray[j]? := fun j hj => by simp [List.getElem?_take, hj]
  have inv0 : HeadInv .any l.toArray n (Array.replicate l.toArray.size false) :=
    ⟨by simp, fun j oj _ hl => (by rw [getD_replicate_false] at hl; cases hl), fun t _ ht => getD_in (by simpa using ht) (getD_replicate_false _ _)⟩
  have H := wpAnyQ_lex (P := P) (C := fun w' => ∃ k, w' = f k) (md := .any) hlex.1 (l.take n) 0 (Array.replicate (l.take n).toArray.size false) a (by simp) (by simpa using hlex.2) h
  have hopen : openOf (Array.replicate l.toArray.size false) n = n := by
    unfold openOf
    rw [List.countP_eq_length.2 (fun i hi => by
      have := List.mem_range.1 hi
      have h2 : i < l.toArray.size := by omega
      simp at h2
      simp [h2])]
    simp
  obtain ⟨k0, hk0⟩ := h0
  refine wp_region_any hm ?_
  have := wpAny_of_headQ (P := P) (ops := l.toArray) (hd := (l.take n).toArray) (n := n) (g := l.length - n) (C := fun w' => ∃ k, w' = f k)
    (Qh := fun a' => ∀ k, wpList P l.toArray Q (l.drop n) a' (f k)) (Q' := Q) hsz (by simpa using htl) hh hs hc hdn
    (fun listed a' w' inv hop ⟨k, hw'⟩ hq => by
      have hlist : listed = headList n (l.length - n) := by
        have hz : listed.size = (headList n (l.length - n)).size := by rw [inv.size]; simp [headList]; omega
        refine Array.ext hz fun i hi1 hi2 => ?_
        by_cases hin : i < n
        · have h1 := openOf_zero hop i hin
          simp only [Array.getD_eq_getD_getElem?, Array.getElem?_eq_getElem hi1, Option.getD_some] at h1
          rw [h1]
          simp [headList, Array.getElem_append, hin]
        · have hi3 : i < l.toArray.size := by rw [← inv.size]; exact hi1
          have h1 := inv.tail i (by omega) hi3
          simp only [Array.getD_eq_getD_getElem?, Array.getElem?_eq_getElem hi1, Option.getD_some] at h1
          rw [h1]
          simp [headList, Array.getElem_append, hin]
      subst hw'
      have := wpAny_of_seq (md := .any) (P := P) (ops := l.toArray) (Q' := Q) (l.drop n) n listed a' (f k) (fun j => by simp [List.getElem?_drop]) (by rw [hdl, hlist]; exact hseq) (hq k)
      rwa [hdl] at this)
    n (Array.replicate l.toArray.size false) (Array.replicate (l.take n).toArray.size false) a { w with drawn := w.drawn + 1 } inv0 (by simpa using htl)
    (fun i hi => by
      have h1 : i < l.toArray.size := by omega
      have h2 : i < (l.take n).toArray.size := by simpa using (by rw [htl]; exact hi : i < (l.take n).length)
      simp only [Array.getD_eq_getD_getElem?]
      rw [Array.getElem?_replicate, Array.getElem?_replicate, if_pos h1, if_pos h2]) hopen ⟨k0, hk0.symm⟩ (by have H2 := H; rw [htl] at H2; exact H2)
  have e : n + (l.length - n) = l.toArray.size := by simp; omega
  rwa [e] at this
end Go.Proofs.YtmioichjhiengaaGreat

/-
  Whether panes are the same: the reference's Same, slices.Equal.
-/
namespace Go.Proofs.YtmioichjhiengaaGreat
open Go.RowKit

def panesB : List Pane → List Pane → Bool
  | [], [] => true
  | x :: a, y :: b => x.eqB y && panesB a b
  | _, _ => false
theorem panesB_iff (a : List Pane) : ∀ b, panesB a b = true ↔ a = b := by
  induction a with
  | nil => intro b; cases b <;> simp [panesB]
  | cons x a ih => intro b; cases b <;> simp [panesB, Pane.eqB_iff, ih]
theorem panesB_self (a : List Pane) : panesB a a = true := (panesB_iff a a).2 rfl
theorem panesB_len {a b : List Pane} (h : a.length ≠ b.length) : panesB a b = false := by
  rw [Bool.eq_false_iff]
  intro e
  exact h (by rw [(panesB_iff a b).1 e])
theorem panesB_at {a b : List Pane} (h : a.length = b.length) : (∀ i (h1 : i < a.length) (h2 : i < b.length), a[i].eqB b[i] = true) → panesB a b = true := by
  intro hh
  rw [panesB_iff]
  exact List.ext_getElem h fun i h1 h2 => (Pane.eqB_iff _ _).1 (hh i h1 h2)
theorem panesB_not {a b : List Pane} (i : Nat) (h1 : i < a.length) (h2 : i < b.length) (h : a[i].eqB b[i] = false) : panesB a b = false := by
  rw [Bool.eq_false_iff]
  intro e
  have := (panesB_iff a b).1 e
  subst this
  rw [(Pane.eqB_iff _ _).2 rfl] at h
  cases h
theorem pane_len (x : Pane) : x.cells.length = 7 := rfl
theorem pane_one (x : Pane) : ∀ u ∈ x.cells, u.oneCell' = true := by
  intro u hu
  simp only [Pane.cells, List.mem_cons, List.not_mem_nil, or_false] at hu
  rcases hu with rfl | rfl | rfl | rfl | rfl | rfl | rfl <;> rfl
/-- The seven cells of a pane that lies at place o of block b. -/
structure PaneIn (w : World) (b o : Nat) (x : Pane) : Prop where
  c0 : w.cell? ⟨b, o, none⟩ = some (.string x.key)
  c1 : w.cell? ⟨b, o + 1, none⟩ = some (.int .i64 x.span.s)
  c2 : w.cell? ⟨b, o + 2, none⟩ = some (.int .i64 x.span.e)
  c3 : w.cell? ⟨b, o + 3, none⟩ = some (.int .i64 x.agg.count)
  c4 : w.cell? ⟨b, o + 4, none⟩ = some (.int .i64 x.agg.sum)
  c5 : w.cell? ⟨b, o + 5, none⟩ = some (.int .i64 x.agg.lo)
  c6 : w.cell? ⟨b, o + 6, none⟩ = some (.int .i64 x.agg.hi)
theorem Sl.pane {w : World} {b off n c : Nat} {xs : List Pane} (h : Sl Pane.cells 7 w (some ⟨b, off, none⟩) n c xs) {i : Nat} (hi : i < xs.length) : PaneIn w b (off + i * 7) xs[i] :=
  ⟨h.cellk hi 0 (by omega), h.cellk hi 1 (by omega), h.cellk hi 2 (by omega), h.cellk hi 3 (by omega), h.cellk hi 4 (by omega), h.cellk hi 5 (by omega), h.cellk hi 6 (by omega)⟩

set_option maxHeartbeats 1000000 in
theorem ref_same (w : World) {A B : Option Addr} {n c m d : Nat} {a b : List Pane} (h1 : Sl Pane.cells 7 w A n c a) (h2 : Sl Pane.cells 7 w B m d b) :
    Calls Tryz.prog 11 #[.slice A n c, .slice B m d] w fun e w' => e = .returned (.bool (panesB a b)) ∧ Keep none_ w w' := by
  obtain rfl := h1.len
  obtain rfl := h2.len
  have hnc := h1.2.2.1
  have hlc := h1.2.1
  unfold maxLen at hnc
  obtain ⟨r, hr⟩ : ∃ r, r = panesB a b := ⟨_, rfl⟩
  rw [← hr]
  by_cases hl : a.length = b.length
  · have hlb : ((a.length : Int) != (b.length : Int)) = false := by simp [hl]
    have hlb2 : (a.length != b.length) = false := by simp [hl]
    replace hl := Lib.hid hl
    replace hr := Lib.hid hr
    go_enter Tryz.func11, Tryz.ntmps11
    go_wp2_with fail
    go_loopw [5] (fun wn wr => ∃ k : Nat, k ≤ a.length ∧ wn = .int .i64 k ∧ Keep none_ w wr ∧ ∀ i (h1 : i < a.length) (h2 : i < b.length), i < k → a[i].eqB b[i] = true) (fun wn _ => a.length - (intOf wn).toNat)
    case atStart => exact ⟨0, Nat.zero_le _, rfl, Keep.refl _ _, fun i _ _ h => absurd h (Nat.not_lt_zero _)⟩
    case round =>
      obtain ⟨k, hk, rfl, kk, hall⟩ := hrel
      by_cases hlt : k < a.length
      · have hltb : k < b.length := by rw [← hl.out]; exact hlt
        obtain ⟨b1, o1, rfl, hb1, -⟩ := h1.at_ (by omega)
        obtain ⟨b2, o2, rfl, hb2, -⟩ := h2.at_ (by omega)
        have p1 := (h1.keep kk Off.none_).pane hlt
        have p2 := (h2.keep kk Off.none_).pane hltb
        have hne := fun w => run_neq_Pane a[k] b[k] w
        have hcase : ∀ q, a[k].eqB b[k] = q → (q = true → ∀ i (h1 : i < a.length) (h2 : i < b.length), i < k + 1 → a[i].eqB b[i] = true) ∧ (q = false → r = false) := fun q hq =>
          ⟨fun hq2 i h1 h2 h3 => by
            by_cases e : i = k
            · subst e; rw [hq, hq2]
            · exact hall i h1 h2 (by omega), fun hq2 => by rw [hr.out]; exact panesB_not k hlt hltb (by rw [hq, hq2])⟩
        clear hall
        generalize a[k] = x at *
        generalize b[k] = y at *
        replace hcase := hcase _ rfl
        generalize x.eqB y = q at *
        replace hcase := Lib.hid hcase
        obtain ⟨xk, ⟨xs, xe⟩, ⟨xc, xu, xl, xh⟩⟩ := x
        obtain ⟨yk, ⟨ys, ye⟩, ⟨yc, yu, yl, yh⟩⟩ := y
        simp only [Pane.cells] at hne
        obtain ⟨ι, hnn, f, hf0, hfk, hfa⟩ := class_of none_ wr
        have q1 : ∀ n, ∀ {i : Nat}, (f n).cell? ⟨b1, i, none⟩ = wr.cell? ⟨b1, i, none⟩ := fun n {i} => keep_cell (hfk n) (Nat.lt_of_lt_of_le hb1 kk.size)
        have q2 : ∀ n, ∀ {i : Nat}, (f n).cell? ⟨b2, i, none⟩ = wr.cell? ⟨b2, i, none⟩ := fun n {i} => keep_cell (hfk n) (Nat.lt_of_lt_of_le hb2 kk.size)
        have p10 := fun n => (q1 n).trans p1.c0
        have p11 := fun n => (q1 n).trans p1.c1
        have p12 := fun n => (q1 n).trans p1.c2
        have p13 := fun n => (q1 n).trans p1.c3
        have p14 := fun n => (q1 n).trans p1.c4
        have p15 := fun n => (q1 n).trans p1.c5
        have p16 := fun n => (q1 n).trans p1.c6
        have p20 := fun n => (q2 n).trans p2.c0
        have p21 := fun n => (q2 n).trans p2.c1
        have p22 := fun n => (q2 n).trans p2.c2
        have p23 := fun n => (q2 n).trans p2.c3
        have p24 := fun n => (q2 n).trans p2.c4
        have p25 := fun n => (q2 n).trans p2.c5
        have p26 := fun n => (q2 n).trans p2.c6
        clear q1 q2 p1 p2
        simp only at p10 p11 p12 p13 p14 p15 p16 p20 p21 p22 p23 p24 p25 p26
        go_wp2_with fail
        refine wp_region_class f (by kernel_rfl) (by kernel_rfl) hf0 ?_
        repeat (go_big_quiet_step (fail))
        refine wpQuiet_nil ?_
        rintro _ ⟨nn, rfl⟩
        replace kk := kk.trans (hfk nn)
        clear p10 p11 p12 p13 p14 p15 p16 p20 p21 p22 p23 p24 p25 p26 hne
        cases q
        · go_wp2_with fail
          go_ret
          have e9 := hcase.out.2 (by first | rfl | trivial)
          subst e9
          exact ⟨rfl, kk⟩
        · go_wp2_with fail
          go_roundw
          case rel => exact ⟨k + 1, by omega, by go_num, kk, hcase.out.1 (by first | rfl | trivial)⟩
          case measure => simp [intOf]; omega
      · go_wp2_with fail
        go_ret
        have e9 : r = true := by rw [hr.out, panesB_at hl.out (fun i h1 h2 => hall i h1 h2 (by omega))]
        subst e9
        exact ⟨rfl, kk⟩
  · have hlb : ((a.length : Int) != (b.length : Int)) = true := by simp; omega
    have hlb2 : (a.length != b.length) = true := by simp [hl]
    rw [panesB_len hl] at hr
    subst hr
    clear hl
    go_enter Tryz.func11, Tryz.ntmps11
    go_wp2_with fail
    go_ret
    exact ⟨rfl, (by repeat' (first | assumption | with_reducible exact Keep.refl _ _ | with_reducible refine Keep.alloc ?_ _ | with_reducible refine Keep.drew ?_))⟩
set_option maxHeartbeats 1000000 in
theorem slices_equal (w : World) {A B : Option Addr} {n c m d : Nat} {a b : List Pane} (h1 : Sl Pane.cells 7 w A n c a) (h2 : Sl Pane.cells 7 w B m d b) :
    Calls Tryz.prog 66 #[.slice A n c, .slice B m d] w fun e w' => e = .returned (.bool (panesB a b)) ∧ Keep none_ w w' := by
  obtain rfl := h1.len
  obtain rfl := h2.len
  have hnc := h1.2.2.1
  have hlc := h1.2.1
  unfold maxLen at hnc
  obtain ⟨r, hr⟩ : ∃ r, r = panesB a b := ⟨_, rfl⟩
  rw [← hr]
  by_cases hl : a.length = b.length
  · have hlb : ((a.length : Int) != (b.length : Int)) = false := by simp [hl]
    have hlb2 : (a.length != b.length) = false := by simp [hl]
    replace hl := Lib.hid hl
    replace hr := Lib.hid hr
    go_enter Tryz.func66, Tryz.ntmps66
    go_wp2_with fail
    go_loopw [5, 13] (fun _ wn wr => ∃ k : Nat, k ≤ a.length ∧ wn = .int .i64 k ∧ Keep none_ w wr ∧ ∀ i (h1 : i < a.length) (h2 : i < b.length), i < k → a[i].eqB b[i] = true) (fun _ wn _ => a.length - (intOf wn).toNat)
    case atStart => exact ⟨0, Nat.zero_le _, rfl, Keep.refl _ _, fun i _ _ h => absurd h (Nat.not_lt_zero _)⟩
    case round =>
      obtain ⟨k, hk, rfl, kk, hall⟩ := hrel
      by_cases hlt : k < a.length
      · have hltb : k < b.length := by rw [← hl.out]; exact hlt
        obtain ⟨b1, o1, rfl, hb1, -⟩ := h1.at_ (by omega)
        obtain ⟨b2, o2, rfl, hb2, -⟩ := h2.at_ (by omega)
        have p1 := (h1.keep kk Off.none_).pane hlt
        have p2 := (h2.keep kk Off.none_).pane hltb
        have hne := fun w => run_neq_Pane a[k] b[k] w
        have hcase : ∀ q, a[k].eqB b[k] = q → (q = true → ∀ i (h1 : i < a.length) (h2 : i < b.length), i < k + 1 → a[i].eqB b[i] = true) ∧ (q = false → r = false) := fun q hq =>
          ⟨fun hq2 i h1 h2 h3 => by
            by_cases e : i = k
            · subst e; rw [hq, hq2]
            · exact hall i h1 h2 (by omega), fun hq2 => by rw [hr.out]; exact panesB_not k hlt hltb (by rw [hq, hq2])⟩
        clear hall
        generalize a[k] = x at *
        generalize b[k] = y at *
        replace hcase := hcase _ rfl
        generalize x.eqB y = q at *
        replace hcase := Lib.hid hcase
        obtain ⟨xk, ⟨xs, xe⟩, ⟨xc, xu, xl, xh⟩⟩ := x
        obtain ⟨yk, ⟨ys, ye⟩, ⟨yc, yu, yl, yh⟩⟩ := y
        simp only [Pane.cells] at hne
        obtain ⟨ι, hnn, f, hf0, hfk, hfa⟩ := class_of none_ wr
        have q1 : ∀ n, ∀ {i : Nat}, (f n).cell? ⟨b1, i, none⟩ = wr.cell? ⟨b1, i, none⟩ := fun n {i} => keep_cell (hfk n) (Nat.lt_of_lt_of_le hb1 kk.size)
        have q2 : ∀ n, ∀ {i : Nat}, (f n).cell? ⟨b2, i, none⟩ = wr.cell? ⟨b2, i, none⟩ := fun n {i} => keep_cell (hfk n) (Nat.lt_of_lt_of_le hb2 kk.size)
        have p10 := fun n => (q1 n).trans p1.c0
        have p11 := fun n => (q1 n).trans p1.c1
        have p12 := fun n => (q1 n).trans p1.c2
        have p13 := fun n => (q1 n).trans p1.c3
        have p14 := fun n => (q1 n).trans p1.c4
        have p15 := fun n => (q1 n).trans p1.c5
        have p16 := fun n => (q1 n).trans p1.c6
        have p20 := fun n => (q2 n).trans p2.c0
        have p21 := fun n => (q2 n).trans p2.c1
        have p22 := fun n => (q2 n).trans p2.c2
        have p23 := fun n => (q2 n).trans p2.c3
        have p24 := fun n => (q2 n).trans p2.c4
        have p25 := fun n => (q2 n).trans p2.c5
        have p26 := fun n => (q2 n).trans p2.c6
        clear q1 q2 p1 p2
        simp only at p10 p11 p12 p13 p14 p15 p16 p20 p21 p22 p23 p24 p25 p26
        go_wp2_with fail
        refine wp_region_class f (by kernel_rfl) (by kernel_rfl) hf0 ?_
        repeat (go_big_quiet_step (fail))
        refine wpQuiet_nil ?_
        rintro _ ⟨nn, rfl⟩
        replace kk := kk.trans (hfk nn)
        clear p10 p11 p12 p13 p14 p15 p16 p20 p21 p22 p23 p24 p25 p26 hne
        cases q
        · go_wp2_with fail
          go_ret
          have e9 := hcase.out.2 (by first | rfl | trivial)
          subst e9
          exact ⟨rfl, kk⟩
        · go_wp2_with fail
          go_roundw
          case rel => exact ⟨k + 1, by omega, by go_num, kk, hcase.out.1 (by first | rfl | trivial)⟩
          case measure => simp [intOf]; omega
      · go_wp2_with fail
        go_ret
        have e9 : r = true := by rw [hr.out, panesB_at hl.out (fun i h1 h2 => hall i h1 h2 (by omega))]
        subst e9
        exact ⟨rfl, kk⟩
  · have hlb : ((a.length : Int) != (b.length : Int)) = true := by simp; omega
    have hlb2 : (a.length != b.length) = true := by simp [hl]
    rw [panesB_len hl] at hr
    subst hr
    clear hl
    go_enter Tryz.func66, Tryz.ntmps66
    go_wp2_with fail
    go_ret
    exact ⟨rfl, (by repeat' (first | assumption | with_reducible exact Keep.refl _ _ | with_reducible refine Keep.alloc ?_ _ | with_reducible refine Keep.drew ?_))⟩
end Go.Proofs.YtmioichjhiengaaGreat

/-
  '==' between errors of package api, and the number that easellaw00.Code tells of one.
-/
--auto
namespace Go.Proofs.YtmioichjhiengaaGreat
open Go.RowKit

/-- An error of package api. -/
abbrev errV (k : Int) : Value := .iface 32 (.int .i64 k)
theorem codeInfo : (Tryz.prog.info? 32).map (fun i => i.comparable) = some true := by kernel_rfl
theorem eq_err (w : World) (a b : Int) : (binOp .eql 28 (errV a) (errV b)).run Tryz.prog w = .ok (.bool (a == b)) w := by
  obtain ⟨i, hi, hc⟩ : ∃ i, Tryz.prog.info? 32 = some i ∧ i.comparable = true := by
    have := codeInfo
    cases h : Tryz.prog.info? 32 with
    | none => rw [h] at this; cases this
    | some i => rw [h] at this; exact ⟨i, rfl, by simpa using this⟩
  have e : ∀ d, (Op.equalIn (d + 2) 28 (errV a) (errV b)).run Tryz.prog w = .ok (a == b) w := fun d => by
    simp [Op.equalIn, run_underlying Tryz.underlying28, run_underlying Tryz.underlying32, typeInfo, hi, hc]
  simp only [binOp]
  simp [Op.equal, Op.maxDepth, e 9998]

theorem code_nil (w : World) : Calls Tryz.prog 41 #[.nilIface] w fun e w' => e = .returned (.int .i64 0) ∧ w = w' := by
  go_enter Tryz.func41, Tryz.ntmps41
  go_wp2
  go_ret
  exact ⟨rfl, rfl⟩

theorem code_err (w : World) (k : Int) (h1 : 1 ≤ k) (h2 : k ≤ 10) : Calls Tryz.prog 41 #[errV k] w fun e w' => e = .returned (.int .i64 k) ∧ w = w' := by
  have he := fun w a b => eq_err w a b
  go_enter Tryz.func41, Tryz.ntmps41
  go_wp2
  go_loop [3] (fun n => ∃ j : Int, 1 ≤ j ∧ j ≤ k ∧ n = .int .i64 j) (fun n => (k - intOf n).toNat)
  case atStart => exact ⟨1, by omega, by omega, rfl⟩
  case round =>
    obtain ⟨j, hj1, hj2, rfl⟩ := hrel
    by_cases hlt : j = k
    · subst hlt
      go_wp2
      go_ret
      exact ⟨rfl, rfl⟩
    · have hb : (k == j) = false := by simp; omega
      have hjk : j < k := by omega
      go_wp2
      go_round
      case rel => exact ⟨j + 1, by omega, by omega, rfl⟩
      case measure => simp [intOf]; omega
end Go.Proofs.YtmioichjhiengaaGreat

/-
  easellaw13.Few.
-/
namespace Go.Proofs.YtmioichjhiengaaGreat
open Go.RowKit

def encCall (x : Call) : List Value := x.cells
theorem call_of (w : World) (x : Call) (cs : List Value) (h : rCall w x cs) : cs = encCall x ∧ x.ok := h
set_option maxHeartbeats 1000000 in
theorem law_few {w : World} {A : Option Addr} {n c : Nat} {xs : List Call} (h : Sl encCall 7 w A n c xs) (most : Int) (hm : 0 ≤ most ∧ most ≤ 1000) :
    Calls Tryz.prog 24 #[.slice A n c, .int .i64 most] w fun e w' => (e = .returned (.int .i64 0) ∨ (e = .returned (.int .i64 1) ∧ (n : Int) ≤ most ∧ ∀ x ∈ xs, x.key.size ≤ 100)) ∧ w = w' := by
  have hlen := Lib.hid h.len
  have hlc := h.2.1
  have hnc := h.2.2.1
  unfold maxLen at hnc
  go_enter Tryz.func24, Tryz.ntmps24
  go_wp2_with fail
  go_loopw [5] (fun iv wr => ∃ i : Nat, iv = .int .i64 i ∧ i ≤ n ∧ (i : Int) ≤ most ∧ Hid (∀ j, (hj : j < xs.length) → j < i → xs[j].key.size ≤ 100) ∧ w = wr)
    (fun iv _ => n - (intOf iv).toNat)
  case atStart => exact ⟨0, rfl, Nat.zero_le _, by omega, Lib.hid (fun j _ h => absurd h (Nat.not_lt_zero _)), rfl⟩
  case round =>
    obtain ⟨i, rfl, hin, him, hd, rfl⟩ := hrel
    have hi0 := Int.natCast_nonneg i
    have hcase : (decide ((i : Int) < (n : Int)) = true ∧ decide ((i : Int) < most) = true) ∨ decide ((i : Int) < (n : Int)) = false ∨ (decide ((i : Int) < (n : Int)) = true ∧ decide ((i : Int) < most) = false) := by
      by_cases h1 : (i : Int) < (n : Int)
      · by_cases h2 : (i : Int) < most
        · exact .inl ⟨decide_eq_true h1, decide_eq_true h2⟩
        · exact .inr (.inr ⟨decide_eq_true h1, decide_eq_false h2⟩)
      · exact .inr (.inl (decide_eq_false h1))
    rcases hcase with ⟨h1, h2⟩ | h1 | ⟨h1, h2⟩
    · have hlt : i < n := by have := of_decide_eq_true h1; omega
      have hlt1 : (i : Int) < (n : Int) := by omega
      have hlt2 : (i : Int) < most := of_decide_eq_true h2
      have hix : i < xs.length := by have := hlen.out; omega
      obtain ⟨b, off, rfl, hbl, -⟩ := h.at_ (by omega)
      have c1 := h.cellk hix 1 (by omega)
      simp only [encCall, Call.cells, List.getElem?_cons_zero, List.getElem?_cons_succ] at c1
      have hdn : Hid (xs[i].key.size ≤ 100 → ∀ j, (hj : j < xs.length) → j < i + 1 → xs[j].key.size ≤ 100) := Lib.hid (fun hb j hj h2 => by
        by_cases e : j = i
        · subst e; exact hb
        · exact hd.out j hj (by omega))
      generalize xs[i] = y at *
      have hks : y.key.size ≤ 100 ∨ 100 < y.key.size := by omega
      clear hd
      rcases hks with hk | hk
      · have hkb : decide ((100 : Int) < (y.key.size : Int)) = false := by simp; omega
        have hdn2 := hdn.out hk
        replace hdn2 := Lib.hid hdn2
        clear hdn
        go_wp2_with fail
        go_roundw
        case rel => exact ⟨i + 1, by go_num, by omega, by omega, hdn2, by first | rfl | trivial⟩
        case measure => simp [intOf]; omega
      · have hkb : decide ((100 : Int) < (y.key.size : Int)) = true := by simp; omega
        clear hdn
        go_wp2_with fail
        go_ret
        exact ⟨.inl rfl, rfl⟩
    · have hnl : ¬ ((i : Int) < (n : Int)) := of_decide_eq_false h1
      have hin2 : i = n := by omega
      have hfin : ∀ x ∈ xs, x.key.size ≤ 100 := fun x hx => by
        obtain ⟨j, hj, rfl⟩ := List.getElem_of_mem hx
        exact hd.out j hj (by have := hlen.out; omega)
      have hg : decide (most < (n : Int)) = false := by simp; omega
      replace hfin := Lib.hid hfin
      clear hd
      have hnm : (n : Int) ≤ most := by omega
      replace hnm := Lib.hid hnm
      have hnm2 : ¬ (most < (n : Int)) := by omega
      clear hin2 hlen h
      go_wp2_with fail
      go_ret
      first
        | exact ⟨.inr ⟨rfl, hfin.out⟩, rfl⟩
        | exact .inr ⟨rfl, hfin.out⟩
    · have hnl : ¬ ((i : Int) < most) := of_decide_eq_false h2
      have hlt := of_decide_eq_true h1
      have hg : decide (most < (n : Int)) = true := by simp; omega
      have hgm : most < (n : Int) := by omega
      clear hd hlen h
      go_wp2_with fail
      go_ret
      exact ⟨.inl rfl, rfl⟩
end Go.Proofs.YtmioichjhiengaaGreat
