/-
  Words on memory for this seat's walks: a block known whole, what a store, a new block, a draw leave of it; 'Keep S w w'': all that was there but the blocks of S is as it was.
-/
import Derived.WalkKit
import Derived.Below
import Derived.Deep.QuietTactic
import Derived.BigQuiet
namespace Go.Proofs.YtmioichjhiengaaGreat
open Go.RowKit

/-- Block p holds these cells. -/
def At (w : World) (p : Nat) (c : Array Value) (T : TypeId) : Prop := w.heap[p]? = some (.cells c T (0, 0))

theorem At.cell {w : World} {p : Nat} {c : Array Value} {T : TypeId} (h : At w p c T) : ∀ i, w.cell? ⟨p, i, none⟩ = c[i]? := by
  intro i; unfold At at h; simp [World.cell?, h]
theorem At.frozen {w : World} {p : Nat} {c : Array Value} {T : TypeId} (h : At w p c T) : ∀ i, w.frozen? ⟨p, i, none⟩ = false := by
  intro i; unfold At at h; simp [World.frozen?, h]
theorem At.lt {w : World} {p : Nat} {c : Array Value} {T : TypeId} (h : At w p c T) : p < w.heap.size := by
  unfold At at h; exact (Array.getElem?_eq_some_iff.1 h).1
theorem At.of_block {w w' : World} {p : Nat} {c : Array Value} {T : TypeId} (h : At w p c T) (e : w'.heap[p]? = w.heap[p]?) : At w' p c T := by
  unfold At at *; rw [e, h]
theorem At.set {w : World} {p : Nat} {c : Array Value} {T : TypeId} (h : At w p c T) (i : Nat) (v : Value) : At (w.setCell ⟨p, i, none⟩ v) p (c.setIfInBounds i v) T := by
  unfold At at *
  simp [World.setCell, Array.getElem?_modify, h]
theorem At.set_other {w : World} {p : Nat} {c : Array Value} {T : TypeId} (h : At w p c T) {a : Addr} (ha : a.block ≠ p) (v : Value) : At (w.setCell a v) p c T :=
  h.of_block (Below.heap_setCell _ _ _ _ (fun e => ha e.symm))
theorem At.alloc {w : World} {p : Nat} {c : Array Value} {T : TypeId} (h : At w p c T) (o : Obj) : At (w.alloc o) p c T :=
  h.of_block (Below.heap_alloc _ _ _ h.lt)
theorem At.drewN {w : World} {p : Nat} {c : Array Value} {T : TypeId} (h : At w p c T) (n : Nat) : At (w.drewN n) p c T := h
theorem At.drew {w : World} {p : Nat} {c : Array Value} {T : TypeId} (h : At w p c T) : At w.drew p c T := h
theorem At.new (w : World) (c : Array Value) (T : TypeId) : At (w.alloc (.cells c T)) w.heap.size c T := by
  unfold At; show (w.heap.push _)[w.heap.size]? = _; simp

theorem At.newAt {w : World} {n : Nat} (h : n = w.heap.size) (c : Array Value) (T : TypeId) : At (w.alloc (.cells c T)) n c T := by subst h; exact At.new _ _ _

/-- All blocks that were there, but those of S, are as they were; the streams too. -/
structure Keep (S : Nat → Prop) (w w' : World) : Prop where
  os : w'.os = w.os
  tape : w'.tape = w.tape
  output : w'.output = w.output
  size : w.heap.size ≤ w'.heap.size
  block : ∀ k, k < w.heap.size → ¬ S k → w'.heap[k]? = w.heap[k]?

def none_ : Nat → Prop := fun _ => False
def one (p : Nat) : Nat → Prop := fun k => k = p

theorem one_self (p : Nat) : one p p := rfl
theorem Keep.refl (S : Nat → Prop) (w : World) : Keep S w w := ⟨rfl, rfl, rfl, Nat.le_refl _, fun _ _ _ => rfl⟩
theorem Keep.trans {S : Nat → Prop} {a b c : World} (h : Keep S a b) (k : Keep S b c) : Keep S a c :=
  ⟨k.os.trans h.os, k.tape.trans h.tape, k.output.trans h.output, Nat.le_trans h.size k.size,
    fun i hi hs => (k.block i (Nat.lt_of_lt_of_le hi h.size) hs).trans (h.block i hi hs)⟩
theorem Keep.mono {S S' : Nat → Prop} {w w' : World} (h : Keep S w w') (hs : ∀ k, k < w.heap.size → S k → S' k) : Keep S' w w' :=
  ⟨h.os, h.tape, h.output, h.size, fun k hk hn => h.block k hk (fun e => hn (hs k hk e))⟩
theorem Keep.drew {S : Nat → Prop} {a w : World} (h : Keep S a w) : Keep S a w.drew := ⟨h.os, h.tape, h.output, h.size, h.block⟩
theorem Keep.alloc {S : Nat → Prop} {a w : World} (h : Keep S a w) (o : Obj) : Keep S a (w.alloc o) :=
  h.trans ⟨rfl, rfl, rfl, by simp, fun k hk _ => Below.heap_alloc _ _ _ hk⟩
theorem Keep.setCell {S : Nat → Prop} {a w : World} (h : Keep S a w) {p : Addr} (hp : p.block < a.heap.size → S p.block) (u : Value) : Keep S a (w.setCell p u) :=
  ⟨h.os, h.tape, h.output, by have := h.size; simpa [World.setCell] using this, fun k hk hs => by
    rw [Below.heap_setCell _ _ _ _ (fun e => hs (by subst e; exact hp hk))]; exact h.block k hk hs⟩
theorem Keep.set1 {a w : World} {p i : Nat} (h : Keep (one p) a w) (u : Value) : Keep (one p) a (w.setCell ⟨p, i, none⟩ u) := Keep.setCell (p := ⟨p, i, none⟩) h (fun _ => one_self p) u
theorem Keep.setNew {S : Nat → Prop} {a w : World} {p i : Nat} (h : Keep S a w) (hp : a.heap.size ≤ p) (u : Value) : Keep S a (w.setCell ⟨p, i, none⟩ u) := Keep.setCell (p := ⟨p, i, none⟩) h (fun h => absurd h (Nat.not_lt.2 hp)) u
/-- What a later step did to blocks that are new since a is nothing to a. -/
theorem Keep.fresh {S S' : Nat → Prop} {a b c : World} (h : Keep S a b) (k : Keep S' b c) (hs : ∀ q, q < a.heap.size → ¬ S' q) : Keep S a c :=
  ⟨k.os.trans h.os, k.tape.trans h.tape, k.output.trans h.output, Nat.le_trans h.size k.size,
    fun i hi hn => (k.block i (Nat.lt_of_lt_of_le hi h.size) (hs i hi)).trans (h.block i hi hn)⟩
theorem keep_drewN {S : Nat → Prop} (w : World) (n : Nat) : Keep S w (w.drewN n) := ⟨rfl, rfl, rfl, Nat.le_refl _, fun _ _ _ => rfl⟩
theorem not_one {p : Nat} {n : Nat} (h : n ≤ p) : ∀ q, q < n → ¬ one p q := fun q hq e => by unfold one at e; omega
theorem not_none {n : Nat} : ∀ q, q < n → ¬ none_ q := fun q _ e => e
theorem Keep.grown {S : Nat → Prop} {a w w' : World} {row : Option Nat} (h : Keep S a w) (hg : w.grownBy w' row) (hr : ∀ k, row = some k → k < a.heap.size → S k) : Keep S a w' :=
  ⟨hg.os.trans h.os, hg.tape.trans h.tape, hg.output.trans h.output, Nat.le_trans h.size hg.size, fun k hk hs =>
    (hg.block k (Nat.lt_of_lt_of_le hk h.size) (fun e => hs (hr k e.symm hk))).trans (h.block k hk hs)⟩
theorem Keep.at {S : Nat → Prop} {w w' : World} (h : Keep S w w') {p : Nat} {c : Array Value} {T : TypeId} (ha : At w p c T) (hs : ¬ S p) : At w' p c T :=
  ha.of_block (h.block p ha.lt hs)
/-- What was there when the call began is as it was; then a step that turned only blocks of the call's own. -/
theorem bk {S : Nat → Prop} {a b c : World} (h : Below a.heap.size a b) (k : Keep S b c) (hs : ∀ q, q < a.heap.size → ¬ S q) : Below a.heap.size a c :=
  ⟨k.os.trans h.os, k.tape.trans h.tape, k.output.trans h.output, Nat.le_trans h.size k.size,
    fun i hi => (k.block i (Nat.lt_of_lt_of_le hi h.size) (hs i hi)).trans (h.block i hi)⟩
theorem bd {B : Nat} {a b : World} (h : Below B a b) (n : Nat) : Below B a (b.drewN n) := ⟨h.os, h.tape, h.output, h.size, h.block⟩
theorem keep0 {a b : World} (h : Below a.heap.size a b) : Keep none_ a b := ⟨h.os, h.tape, h.output, h.size, fun k hk _ => h.block k hk⟩
theorem Keep.below {w w' : World} {S : Nat → Prop} (h : Keep S w w') {B : Nat} (hB : B ≤ w.heap.size) (hs : ∀ k, k < B → ¬ S k) : Below B w w' :=
  ⟨h.os, h.tape, h.output, h.size, fun k hk => h.block k (Nat.lt_of_lt_of_le hk hB) (hs k hk)⟩
theorem Keep.of_below {w w' : World} {S : Nat → Prop} (h : Below w.heap.size w w') : Keep S w w' :=
  ⟨h.os, h.tape, h.output, h.size, fun k hk _ => h.block k hk⟩

/-! ### A region that draws its order: one walk of the text's order, in a class of worlds -/
theorem class_of (S : Nat → Prop) (w : World) : ∃ (ι : Type) (_ : Nonempty ι) (f : ι → World), (∃ n, f n = w.drew) ∧ (∀ n, Keep S w (f n)) ∧ ∀ n w', Keep S (f n) w' → ∃ m, w' = f m :=
  ⟨{ w' : World // Keep S w w' }, ⟨⟨w, Keep.refl _ _⟩⟩, Subtype.val, ⟨⟨w.drew, (Keep.refl _ _).drew⟩, rfl⟩, fun n => n.2, fun n w' h => ⟨⟨w', n.2.trans h⟩, rfl⟩⟩
theorem wp_region_class {P : Program} {ι : Type} (f : ι → World) {id : Nat} {Q : Exit → Act → World → Prop} {a : Act} {w : World} {l : List Oper} (hm : P.follows .mixedOrders = true) (hB : Region.lexB .any l.toArray = true)
    (h0 : ∃ n, f n = w.drew) (h : wpQuiet P l.toArray (fun w' => ∃ n, w' = f n) (fun a' => ∀ w', (∃ n, w' = f n) → Q .normal a' w') l a) : (Code.region id l.toArray true).wp P Q a w :=
  wp_region_quiet (C := fun w' => ∃ n, w' = f n) hm hB (let ⟨n, hn⟩ := h0; ⟨n, hn.symm⟩) (by simpa using h)
theorem Calls.class_of {P : Program} {g : FuncId} {args : Array Value} {S : Nat → Prop} {ι : Type} {f : ι → World} (hall : ∀ n w', Keep S (f n) w' → ∃ m, w' = f m) {n : ι} {v : Value}
    (h : Calls P g args (f n) fun e w' => e = .returned v ∧ Keep S (f n) w') : Calls P g args (f n) fun e w' => e = .returned v ∧ ∃ m, w' = f m :=
  h.mono fun _ _ ⟨he, hk⟩ => ⟨he, hall _ _ hk⟩
theorem Keep.of_none {S : Nat → Prop} {w w' : World} (h : Keep none_ w w') : Keep S w w' := h.mono fun _ _ e => e.elim

theorem wrap_u64_add (a b : Int) : wrap64 (IntKind.u64.wrap (IntKind.u64.wrap a + IntKind.u64.wrap b)) = wrap64 (a + b) := by
  unfold wrap64; simp only [IntKind.wrap, IntKind.signed, IntKind.bits]; omega
end Go.Proofs.YtmioichjhiengaaGreat
