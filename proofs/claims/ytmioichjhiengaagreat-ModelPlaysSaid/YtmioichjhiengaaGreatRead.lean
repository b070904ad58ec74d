/-
  How arguments that came in read, as Lean's own values: a reader says what the cells of a value of a type are; 'Opens': whatever can be read as data is read by it.
-/
import Derived.WalkKit
import Derived.ProofKit
import Derived.OpenShut
import Derived.Carry
import Derived.SizedLaws
import Derived.ChangeOld
import Derived.Deep.Slices
import Derived.Deep.Strs
namespace Go.Proofs.YtmioichjhiengaaGreat
open Go.RowKit Go.ChangeShapes Go.WideShapes Go.Deep

/-- The cells cs of world w read as a. -/
abbrev Rdr (α : Type) := World → α → List Value → Prop
def Opens {α : Type} (P : Program) (t : TypeId) (R : Rdr α) : Prop :=
  ∀ (H : Type) (enc : TypeId × Value → H) (w : World) (fuel : Nat) (cs : List Value) (x : DataW H × List MemPlace),
    DataW.trod enc P w 0 (fun _ => true) true fuel t cs = some x → ∃ a, R w a cs

def kindLo : IntKind → Int | .i8 => -128 | .i16 => -32768 | .i32 => -2147483648 | .i64 => -9223372036854775808 | _ => 0
def kindHi : IntKind → Int | .i8 => 127 | .i16 => 32767 | .i32 => 2147483647 | .i64 => 9223372036854775807 | .u8 => 255 | .u16 => 65535 | .u32 => 4294967295 | .u64 => 18446744073709551615

theorem wf_i64 {n : Int} : (Lit.int .i64 n).wf = true ↔ -9223372036854775808 ≤ n ∧ n ≤ 9223372036854775807 := by
  simp [Lit.wf, IntKind.min, IntKind.max, IntKind.signed, IntKind.bits] <;> omega
theorem wf_u8 {n : Int} : (Lit.int .u8 n).wf = true ↔ 0 ≤ n ∧ n ≤ 255 := by
  simp [Lit.wf, IntKind.min, IntKind.max, IntKind.signed, IntKind.bits] <;> omega

def I64 (n : Int) : Prop := -9223372036854775808 ≤ n ∧ n ≤ 9223372036854775807

def rInt : Rdr Int := fun _ n cs => cs = [.int .i64 n] ∧ I64 n
def rBool : Rdr Bool := fun _ b cs => cs = [.bool b]
def rStr : Rdr ByteArray := fun _ s cs => cs = [.string s] ∧ s.size ≤ maxLen
/-- A slice, its elements of so many cells each. -/
def rSlice {α : Type} (size : Nat) (R : Rdr α) : Rdr (List α) := fun w xs cs =>
  ∃ ao len cap, cs = [.slice ao len cap] ∧ len = xs.length ∧ len ≤ cap ∧ cap ≤ maxLen ∧ (0 < len → ∃ b off, ao = some ⟨b, off, none⟩ ∧ b < w.heap.size ∧
    ∀ i (h : i < xs.length), ∃ es, R w xs[i] es ∧ es.length = size ∧ ∀ j, j < size → w.cell? ⟨b, off + i * size + j, none⟩ = es[j]?)

section
variable {P : Program} {t : TypeId}
theorem opens_int (ht : P.underlying t = some (.int .i64)) : Opens P t rInt := by
  intro H enc w fuel cs x h
  obtain ⟨n, rfl, _, hw⟩ := DataW.trod_int ht h
  exact ⟨n, rfl, wf_i64.1 hw⟩
theorem opens_bool (ht : P.underlying t = some .bool) : Opens P t rBool := by
  intro H enc w fuel cs x h
  obtain ⟨n, rfl, _⟩ := DataW.trod_bool ht h
  exact ⟨n, rfl⟩
theorem opens_str (ht : P.underlying t = some .string) : Opens P t rStr := by
  intro H enc w fuel cs x h
  obtain ⟨n, rfl, _, hw⟩ := DataW.trod_string ht h
  exact ⟨n, rfl, hw⟩
theorem opens_slice {α : Type} {e : TypeId} {size : Nat} {R : Rdr α} (ht : P.underlying t = some (.slice e)) (hs : P.cellsOf e = size) (hp : 0 < size) (hR : Opens P e R) : Opens P t (rSlice size R) := by
  intro H enc w fuel cs x h
  subst hs
  rcases open_slice ht h with ⟨rfl, _⟩ | ⟨a, len, cap, m, n, D, Pl, rfl, _, hl, hm, hmm, _, hx⟩
  · exact ⟨[], none, 0, 0, rfl, rfl, Nat.le_refl _, by decide, fun h => absurd h (Nat.lt_irrefl _)⟩
  · have hmm : m = cap := by simpa using hmm
    subst hmm
    classical
    have hch : ∀ i, i < len → ∃ y, ∃ es, R w y es ∧ es.length = P.cellsOf e ∧ ∀ j, j < P.cellsOf e → w.cell? ((a.add (i * P.cellsOf e)).add j) = es[j]? := by
      intro i hi
      obtain ⟨cs', h1, h2⟩ := hx i (by omega)
      obtain ⟨y, hy⟩ := hR H enc w n cs' _ h2
      obtain ⟨_, hlen, hc⟩ := World.cells?_some h1
      exact ⟨y, cs', hy, hlen, hc⟩
    by_cases h0 : 0 < len
    · have hsp : a.spot = none := by
        obtain ⟨cs', h1, _⟩ := hx 0 (by omega)
        obtain ⟨_, hlen, hc⟩ := World.cells?_some h1
        have h2 := hc 0 hp
        rw [Nat.zero_mul, add_add, Nat.add_zero] at h2
        have h3 : cs'[0]? ≠ none := by rw [List.getElem?_eq_getElem (by omega)]; exact fun h => by cases h
        rw [← h2] at h3
        by_cases hs : a.spot.isSome
        · exfalso; apply h3; simp [Addr.add, World.cell?, hs]; split <;> rfl
        · simpa using hs
      obtain ⟨ab, ao, asp⟩ := a
      simp only at hsp
      subst hsp
      have inst : Inhabited α := ⟨Classical.choose (hch 0 h0)⟩
      obtain ⟨f, hf⟩ := choose_lt (α := α) hch
      have hadd : ∀ i j : Nat, ((⟨ab, ao, none⟩ : Addr).add i).add j = ⟨ab, ao + i + j, none⟩ := by
        intro i j; rw [add_add]; unfold Addr.add; split
        · rename_i h; have : i = 0 ∧ j = 0 := by omega
          obtain ⟨rfl, rfl⟩ := this; rfl
        · simp [Nat.add_assoc]
      refine ⟨(List.range len).map f, some ⟨ab, ao, none⟩, len, m, rfl, by simp, hl, hm, fun _ => ⟨ab, ao, rfl, ?_, ?_⟩⟩
      · obtain ⟨es, _, hl0, hc0⟩ := hf 0 h0
        have h2 := hc0 0 hp
        rw [hadd] at h2
        have h3 : es[0]? ≠ none := by rw [List.getElem?_eq_getElem (by omega)]; exact fun h => by cases h
        rw [← h2] at h3
        obtain ⟨v, hv⟩ := Option.ne_none_iff_exists'.1 h3
        exact World.block_lt_of_cell? w ⟨ab, ao + 0 * P.cellsOf e + 0, none⟩ hv
      · intro i hi
        have hi' : i < len := by simpa using hi
        obtain ⟨es, h1, h2, h3⟩ := hf i hi'
        refine ⟨es, by simpa using h1, h2, fun j hj => ?_⟩
        rw [← h3 j hj, hadd]
    · have : len = 0 := by omega
      subst this
      exact ⟨[], some a, 0, m, rfl, rfl, hl, hm, fun h => absurd h (Nat.lt_irrefl _)⟩
/-- A field of a struct. -/
theorem opens_field {α : Type} {fs : Array Field} {i : Nat} {f : Field} {R : Rdr α} {o m : Nat} (ht : P.underlying t = some (.struct fs)) (hf : fs[i]? = some f) (ho : f.offset = o) (hm : P.cellsOf f.type = m) (hR : Opens P f.type R) :
    Opens P t (fun w a cs => R w a ((cs.drop o).take m)) := by
  intro H enc w fuel cs x h
  obtain ⟨xs, n, _, _, _, hl, hx⟩ := DataW.trod_struct ht h
  have h1 := hx i f hf
  have hi : i < fs.size := (Array.getElem?_eq_some_iff.1 hf).1
  rw [List.getElem?_eq_getElem (by omega), ho, hm] at h1
  exact hR H enc w n _ _ h1
theorem opens_len {fs : Array Field} {n : Nat} (ht : P.underlying t = some (.struct fs)) (hm : P.cellsOf t = n) {H : Type} {enc : TypeId × Value → H} {w : World} {fuel : Nat} {cs : List Value} {x : DataW H × List MemPlace}
    (h : DataW.trod enc P w 0 (fun _ => true) true fuel t cs = some x) : cs.length = n := by
  obtain ⟨xs, k, _, _, hl, _⟩ := DataW.trod_struct ht h
  rw [hl, hm]
end

/-! ### Arguments -/
section
variable {H : Type} {enc : TypeId × Value → H} {P : Program} {W : World} {base : Nat} {t : TypeId} {v : Value} {d : DataW H} {ps : List MemPlace}
/-- An argument of a struct type: its cells. -/
theorem arg_struct {α : Type} {R : Rdr α} {fs : Array Field} (ht : P.underlying t = some (.struct fs)) (hR : Opens P t R) (hval : Value.okWide P W .any base t v) (hd : DataW.Trod enc P W 0 (fun _ => true) true t v d ps) :
    ∃ a cs, v = .agg cs ∧ R W a cs.toList := by
  obtain ⟨fuel, hf⟩ := hd
  obtain ⟨a, ha⟩ := hR H enc W fuel _ _ hf
  simp only [Value.okWide, ht] at hval
  obtain ⟨cs, rfl, _⟩ := hval
  exact ⟨a, cs, rfl, by simpa [Value.cells] using ha⟩
theorem arg_int (ht : P.underlying t = some (.int .i64)) (hval : Value.okWide P W .any base t v) (hd : DataW.Trod enc P W 0 (fun _ => true) true t v d ps) :
    ∃ n, v = .int .i64 n ∧ I64 n := by
  obtain ⟨n, rfl, _, _, hw⟩ := open_int ht hval hd
  exact ⟨n, rfl, wf_i64.1 hw⟩
theorem arg_u8 (ht : P.underlying t = some (.int .u8)) (hval : Value.okWide P W .any base t v) (hd : DataW.Trod enc P W 0 (fun _ => true) true t v d ps) :
    ∃ n : Int, v = .int .u8 n ∧ 0 ≤ n ∧ n ≤ 255 := by
  obtain ⟨n, rfl, _, _, hw⟩ := open_int ht hval hd
  have := wf_u8.1 hw
  exact ⟨n, rfl, this.1, this.2⟩
theorem arg_bool (ht : P.underlying t = some .bool) (hval : Value.okWide P W .any base t v) (hd : DataW.Trod enc P W 0 (fun _ => true) true t v d ps) :
    ∃ n, v = .bool n := by
  obtain ⟨n, rfl, _⟩ := open_bool ht hval hd
  exact ⟨n, rfl⟩
theorem arg_str (ht : P.underlying t = some .string) (hval : Value.okWide P W .any base t v) (hd : DataW.Trod enc P W 0 (fun _ => true) true t v d ps) :
    ∃ s, v = .string s ∧ s.size ≤ maxLen := by
  obtain ⟨n, rfl, _, _, hw⟩ := Go.ChangeMaps.open_string ht hval hd
  exact ⟨n, rfl, hw⟩
theorem arg_slice {α : Type} {R : Rdr α} {size : Nat} {e : TypeId} (ht : P.underlying t = some (.slice e)) (hR : Opens P t (rSlice size R)) (hval : Value.okWide P W .any base t v) (hd : DataW.Trod enc P W 0 (fun _ => true) true t v d ps) :
    ∃ xs, rSlice size R W xs [v] := by
  obtain ⟨fuel, hf⟩ := hd
  obtain ⟨xs, ao, len, cap, hv, hr⟩ := hR H enc W fuel _ _ hf
  simp only [Value.okWide, ht] at hval
  cases v with
  | slice a l c => exact ⟨xs, ao, len, cap, by simpa [Value.cells] using hv, hr⟩
  | _ => simp [Cell.okWide, ht, Cell.ok] at hval

/-- The end of a law's row: it returned true, and nothing that was there has turned. -/
theorem law_post {f : Func} {s : ChangeSpec} {args : Array Value} {ds gs : List (DataW H)} {before : List MemPlace} {W' : World} {T : TypeId} {ps' : List MemPlace}
    (hv : s.vars = []) (hs : s.fn H (ds ++ gs) = { results := [.lit (.bool true)], args := ds }) (hr : f.resultTypes.toList = [T]) (hT : P.underlying T = some .bool)
    (hW : DataW.Whole enc P f.params.toList s.vars false W args.toList ds gs before) (hb : Below W.heap.size W W')
    (hargs : DataW.TrodAll enc P W' 0 (fun b => decide (b < W.heap.size)) true f.params.toList args.toList ds ps') :
    ∃ v, Ending.returned (.bool true) = .returned v ∧ s.post enc P f false true false false W args v W' := by
  refine ⟨_, rfl, ds, gs, before, [], ps', [], hW, ?_, ?_, ?_, hb.frame _, fun h => by cases h⟩
  · have hsz : f.resultTypes.size = 1 := by rw [← Array.length_toList, hr]; rfl
    rw [hs, hr, hsz]
    exact trodAll_mk1 (shut_bool hT _)
  · rw [hs]; exact hargs
  · rw [hs, hv]; exact (by rfl : DataW.TrodVars enc P W' _ [] [] [])
end
end Go.Proofs.YtmioichjhiengaaGreat
