/-
  outlog.Log.Fine: whether all is in order.
-/
import Derived.Test.YtmioichjhiengaaLog
namespace Go.Proofs.Ytmioichjhiengaa
open Go.RowKit

def badP (q p : Pane) : Bool := (q.key.toList == p.key.toList) && (decide (p.span.e < q.span.e) || q.span.eqB p.span)
def FineP (xs : List Pane) : Prop := ∀ i j, (h : i < xs.length) → (hj : j < i) → badP (xs[j]'(by omega)) xs[i] = false

def FineDone (w : World) (xs : List Pane) (e : Ending) (w' : World) : Prop := ∃ b, e = .returned (.bool b) ∧ (b = true ↔ FineP xs) ∧ Keep none_ w w'
set_option maxHeartbeats 4000000 in
theorem log_fine {w : World} {b p : Nat} {v : Value} {xs : List Pane} (hL : IsLog w b p v xs) (hn : xs.length ≤ 800000) :
    Calls Try.prog 16 #[.pointer (some ⟨p, 0, none⟩)] w (FineDone w xs) := by
  have ho := hL.own
  obtain ⟨A, c, rfl⟩ := own_form ho
  have h := Sl.of_own pane_len (by decide) ho
  have hat := hL.at_
  obtain ⟨n, hnn⟩ : ∃ n, n = xs.length := ⟨_, rfl⟩
  rw [← hnn] at h hn hat
  have c0 := At.cell hat
  have hlen := Lib.hid hnn
  have hlc := h.2.1
  have hnc := h.2.2.1
  unfold maxLen at hnc
  clear hnn hL ho
  go_enter Try.func16, Try.ntmps16
  go_wp2_with fail
  go_loopw [3, 4, 6, 12] (fun _ _ _ iv wr => ∃ i : Nat, iv = .int .i64 i ∧ i ≤ n ∧ Hid (∀ i' j, (h : i' < xs.length) → (hj : j < i') → i' < i → badP (xs[j]'(by omega)) xs[i'] = false) ∧ Keep none_ w wr)
    (fun _ _ _ iv _ => n - (intOf iv).toNat)
  case atStart => exact ⟨0, rfl, Nat.zero_le _, Lib.hid (fun i' j _ _ h => absurd h (Nat.not_lt_zero _)), Keep.refl _ _⟩
  case round =>
    obtain ⟨i, rfl, hin, hd, kk⟩ := hrel
    by_cases hlt : i < n
    · have hix : i < xs.length := by have := hlen.out; omega
      have hsl := h.keep kk Off.none_
      obtain ⟨b, off, rfl, hbl, -⟩ := hsl.at_ (by omega)
      obtain ⟨q0, q1, q2, q3, q4, q5, q6⟩ := hsl.pane hix
      have hdone : Hid ((∀ j, (hj : j < i) → badP (xs[j]'(by omega)) xs[i] = false) → ∀ i' j, (h : i' < xs.length) → (hj : j < i') → i' < i + 1 → badP (xs[j]'(by omega)) xs[i'] = false) := Lib.hid (fun hall i' j h1 h2 h3 => by
        by_cases e : i' = i
        · subst e; exact hall j h2
        · exact hd.out i' j h1 h2 (by omega))
      have hnot : Hid (∀ j, (hj : j < i) → badP (xs[j]'(by omega)) xs[i] = true → ¬ FineP xs) := Lib.hid (fun j hj hb hf => by rw [hf i j hix hj] at hb; cases hb)
      obtain ⟨y, hy⟩ : ∃ y, y = xs[i] := ⟨_, rfl⟩
      rw [← hy] at q0 q1 q2 q3 q4 q5 q6
      simp only [← hy] at hdone hnot
      clear hy
      have k1 : Keep none_ w (wr.alloc (.cells y.cells.toArray 32)) := Keep.alloc kk _
      have hY := At.new wr y.cells.toArray 32
      have hlt' : (i : Int) < (n : Int) := by omega
      have hi0 := Int.natCast_nonneg i
      have hat1 := At.cell (Keep.at k1 hat (fun e => e))
      simp only [Pane.cells] at k1 hY hat1
      clear hsl
      go_wp2_with fail
      have hW : wr.heap.size < (wr.alloc (.cells #[.string y.key, .int .i64 y.span.s, .int .i64 y.span.e, .int .i64 y.agg.count, .int .i64 y.agg.sum, .int .i64 y.agg.lo, .int .i64 y.agg.hi] 32)).heap.size := by simp
      obtain ⟨gy, hgy⟩ : ∃ g, g = wr.heap.size := ⟨_, rfl⟩
      rw [← hgy] at hY hW ⊢
      generalize wr.alloc _ = w1 at *
      clear hgy q0 q1 q2 q3 q4 q5 q6 hat1 hd kk
      go_loopw [6, 24] (fun _ jv wr => ∃ j : Nat, jv = .int .i64 j ∧ j ≤ i ∧ Hid (∀ j', (hj : j' < i) → j' < j → badP (xs[j']'(by omega)) y = false) ∧ Keep none_ w1 wr)
        (fun _ jv _ => i - (intOf jv).toNat)
      case atStart => exact ⟨0, rfl, Nat.zero_le _, Lib.hid (fun j' _ h => absurd h (Nat.not_lt_zero _)), Keep.refl _ _⟩
      case round =>
        obtain ⟨j, rfl, hji, hd, kq⟩ := hrel
        have hY2 := Keep.at kq hY (fun e => e)
        have cy := At.cell hY2
        have k2 := k1.trans kq
        by_cases hjl : j < i
        · have hjx : j < xs.length := by omega
          obtain ⟨q0, q1, q2, q3, q4, q5, q6⟩ := (h.keep k2 Off.none_).pane hjx
          have hdn : Hid (badP (xs[j]'hjx) y = false → ∀ j', (hj : j' < i) → j' < j + 1 → badP (xs[j']'(by omega)) y = false) := Lib.hid (fun hb j' h1 h2 => by
            by_cases e : j' = j
            · subst e; exact hb
            · exact hd.out j' h1 (by omega))
          have hno : Hid (badP (xs[j]'hjx) y = true → ¬ FineP xs) := Lib.hid (fun hb => hnot.out j hjl hb)
          generalize xs[j] = x at *
          have k3 : Keep none_ wr (wr.alloc (.cells x.cells.toArray 32)) := Keep.alloc (Keep.refl _ _) _
          have cy3 := At.cell (Keep.at k3 hY2 (fun e => e))
          have hX := At.cell (At.new wr x.cells.toArray 32)
          have he := run_eql_Span x.span y.span
          have hwq := kq.size
          have hgy2 : gy ≠ wr.heap.size := by omega
          have hjl' : (j : Int) < (i : Int) := by omega
          have hj0 := Int.natCast_nonneg j
          simp only [Pane.cells, Span.cells] at k3 cy3 hX he
          unfold badP at hdn hno
          clear hdone hnot hd hY hY2 hat
          generalize hb3 : x.span.eqB y.span = b3 at *
          generalize hb1 : (x.key.toList == y.key.toList) = b1 at *
          replace hb3 := Lib.hid hb3
          have hcase : y.span.e < x.span.e ∨ ¬ y.span.e < x.span.e := Classical.em _
          cases b1
          · go_wp2_with fail
            go_roundw
            case rel => exact ⟨j + 1, by go_num, by omega, Lib.hid (hdn.out rfl), kq.trans k3⟩
            case measure => simp [intOf]; omega
          · rcases hcase with hc | hc
            · have hbad := hno.out (by simp [hc])
              replace hbad := Lib.hid hbad
              clear hdn hno
              go_wp2_with fail
              go_ret
              exact ⟨false, rfl, ⟨fun e => (by cases e), fun e => absurd e hbad.out⟩, k2.trans k3⟩
            · have hc2 : decide (y.span.e < x.span.e) = false := by simp [hc]
              cases b3
              · have hgood := hdn.out (by simp [hc])
                replace hgood := Lib.hid hgood
                clear hdn hno
                go_wp2_with fail
                go_roundw
                case rel => exact ⟨j + 1, by go_num, by omega, hgood, kq.trans k3⟩
                case measure => simp [intOf]; omega
              · have hbad := hno.out (by simp)
                replace hbad := Lib.hid hbad
                clear hdn hno
                go_wp2_with fail
                go_ret
                exact ⟨false, rfl, ⟨fun e => (by cases e), fun e => absurd e hbad.out⟩, k2.trans k3⟩
        · have hd' := hdone.out (fun j' hj => hd.out j' hj (by omega))
          replace hd' := Lib.hid hd'
          have hji' : ¬ (j : Int) < (i : Int) := by omega
          clear hdone hnot hd
          go_wp2_with fail
          go_roundw
          case rel => exact ⟨i + 1, by go_num, by omega, hd', k2⟩
          case measure => simp [intOf]; omega
    · have hf : FineP xs := fun i' j h1 h2 => hd.out i' j h1 h2 (by have := hlen.out; omega)
      replace hf := Lib.hid hf
      clear h
      go_wp2_with fail
      go_ret
      exact ⟨true, rfl, ⟨fun _ => hf.out, fun _ => rfl⟩, kk⟩
end Go.Proofs.Ytmioichjhiengaa
