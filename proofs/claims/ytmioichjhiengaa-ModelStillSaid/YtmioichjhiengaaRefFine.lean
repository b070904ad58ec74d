/-
  The reference's Fine.
-/
import Derived.Test.YtmioichjhiengaaSame
import Derived.Test.YtmioichjhiengaaBaseRow
import Derived.Test.YtmioichjhiengaaArg
import Derived.Laws.NewBlocks
--auto
namespace Go.Proofs.Ytmioichjhiengaa
open Go.RowKit

def badP (q p : Pane) : Bool := (q.key.toList == p.key.toList) && (decide (p.span.e < q.span.e) || q.span.eqB p.span)
def FineP (xs : List Pane) : Prop := ∀ i j, (h : i < xs.length) → (hj : j < i) → badP (xs[j]'(by omega)) xs[i] = false

def FineDone (w : World) (xs : List Pane) (e : Ending) (w' : World) : Prop := ∃ b, e = .returned (.bool b) ∧ (b = true ↔ FineP xs) ∧ Keep none_ w w'
set_option maxHeartbeats 4000000 in
theorem ref_fine6 {w : World} {A : Option Addr} {n c : Nat} {xs : List Pane} (h : Sl Pane.cells 7 w A n c xs) (hn : n ≤ 800000) :
    Calls Try.prog 17 #[.slice A n c] w (FineDone w xs) := by
  have hlen := Lib.hid h.len
  have hlc := h.2.1
  have hnc := h.2.2.1
  unfold maxLen at hnc
  go_enter Try.func17, Try.ntmps17
  go_wp2_with fail
  go_loopw [3, 4] (fun iv _ wr => ∃ i : Nat, iv = .int .i64 i ∧ i ≤ n ∧ Hid (∀ i' j, (h : i' < xs.length) → (hj : j < i') → i' < i → badP (xs[j]'(by omega)) xs[i'] = false) ∧ Keep none_ w wr)
    (fun iv _ _ => n - (intOf iv).toNat)
  case atStart => exact ⟨0, rfl, Nat.zero_le _, Lib.hid (fun i' j _ _ h => absurd h (Nat.not_lt_zero _)), Keep.refl _ _⟩
  case round =>
    obtain ⟨i, rfl, hin, hd, kk⟩ := hrel
    by_cases hlt : i < n
    · have hix : i < xs.length := by have := hlen.out; omega
      have hdone : Hid ((∀ j, (hj : j < i) → badP (xs[j]'(by omega)) xs[i] = false) → ∀ i' j, (h : i' < xs.length) → (hj : j < i') → i' < i + 1 → badP (xs[j]'(by omega)) xs[i'] = false) := Lib.hid (fun hall i' j h1 h2 h3 => by
        by_cases e : i' = i
        · subst e; exact hall j h2
        · exact hd.out i' j h1 h2 (by omega))
      have hnot : Hid (∀ j, (hj : j < i) → badP (xs[j]'(by omega)) xs[i] = true → ¬ FineP xs) := Lib.hid (fun j hj hb hf => by rw [hf i j hix hj] at hb; cases hb)
      obtain ⟨y, hy⟩ : ∃ y, y = xs[i] := ⟨_, rfl⟩
      have hYk : Hid (∀ W', Keep none_ w W' → ∀ b off, A = some ⟨b, off, none⟩ → PaneIn W' b (off + i * 7) y) := Lib.hid (fun W' k b off e => by
        subst e
        rw [hy]
        exact (h.keep k Off.none_).pane hix)
      simp only [← hy] at hdone hnot
      clear hy
      have hlt' : (i : Int) < (n : Int) := by omega
      have hi0 := Int.natCast_nonneg i
      clear hd
      go_wp2_with fail
      go_loopw [4] (fun jv wr => ∃ j : Nat, jv = .int .i64 j ∧ j ≤ i ∧ Hid (∀ j', (hj : j' < i) → j' < j → badP (xs[j']'(by omega)) y = false) ∧ Keep none_ w wr)
        (fun jv _ => i - (intOf jv).toNat)
      case atStart => exact ⟨0, rfl, Nat.zero_le _, Lib.hid (fun j' _ h => absurd h (Nat.not_lt_zero _)), kk⟩
      case round =>
        obtain ⟨j, rfl, hji, hd, kq⟩ := hrel
        by_cases hjl : j < i
        · have hjx : j < xs.length := by omega
          have hsl := h.keep kq Off.none_
          obtain ⟨b, off, rfl, hbl, -⟩ := hsl.at_ (by omega)
          obtain ⟨q0, q1, q2, q3, q4, q5, q6⟩ := hsl.pane hjx
          obtain ⟨p0, p1, p2, p3, p4, p5, p6⟩ := hYk.out _ kq b off rfl
          have hdn : Hid (badP (xs[j]'hjx) y = false → ∀ j', (hj : j' < i) → j' < j + 1 → badP (xs[j']'(by omega)) y = false) := Lib.hid (fun hb j' h1 h2 => by
            by_cases e : j' = j
            · subst e; exact hb
            · exact hd.out j' h1 (by omega))
          have hno : Hid (badP (xs[j]'hjx) y = true → ¬ FineP xs) := Lib.hid (fun hb => hnot.out j hjl hb)
          generalize xs[j] = x at *
          have he := run_eql_Span x.span y.span
          have hjl' : (j : Int) < (i : Int) := by omega
          have hjn' : (j : Int) < (n : Int) := by omega
          have hj0 := Int.natCast_nonneg j
          have kd := fun nq => kq.trans (keep_drewN wr nq)
          simp only [Span.cells] at he
          unfold badP at hdn hno
          clear hdone hnot hd hsl hYk h
          generalize hb3 : x.span.eqB y.span = b3 at *
          generalize hb1 : (x.key.toList == y.key.toList) = b1 at *
          replace hb3 := Lib.hid hb3
          have hcase : y.span.e < x.span.e ∨ ¬ y.span.e < x.span.e := Classical.em _
          cases b1
          · go_wp2_with fail
            go_quiet (fail)
            go_wp2_with fail
            go_roundw
            case rel => exact ⟨j + 1, by go_num, by omega, Lib.hid (hdn.out rfl), kd _⟩
            case measure => simp [intOf]; omega
          · rcases hcase with hc | hc
            · have hbad := hno.out (by simp [hc])
              replace hbad := Lib.hid hbad
              clear hdn hno
              go_wp2_with fail
              go_quiet (fail)
              go_wp2_with fail
              go_ret
              exact ⟨false, rfl, ⟨fun e => (by cases e), fun e => absurd e hbad.out⟩, kd _⟩
            · have hc2 : decide (y.span.e < x.span.e) = false := by simp [hc]
              cases b3
              · have hgood := hdn.out (by simp [hc])
                replace hgood := Lib.hid hgood
                clear hdn hno
                go_wp2_with fail
                go_quiet (fail)
                go_wp2_with fail
                go_roundw
                case rel => exact ⟨j + 1, by go_num, by omega, hgood, kd _⟩
                case measure => simp [intOf]; omega
              · have hbad := hno.out (by simp)
                replace hbad := Lib.hid hbad
                clear hdn hno
                go_wp2_with fail
                go_quiet (fail)
                go_wp2_with fail
                go_ret
                exact ⟨false, rfl, ⟨fun e => (by cases e), fun e => absurd e hbad.out⟩, kd _⟩
        · have hd' := hdone.out (fun j' hj => hd.out j' hj (by omega))
          replace hd' := Lib.hid hd'
          have hji' : ¬ (j : Int) < (i : Int) := by omega
          clear hdone hnot hd
          go_wp2_with fail
          go_roundw
          case rel => exact ⟨i + 1, by go_num, by omega, hd', kq⟩
          case measure => simp [intOf]; omega
    · have hf : FineP xs := fun i' j h1 h2 => hd.out i' j h1 h2 (by have := hlen.out; omega)
      replace hf := Lib.hid hf
      clear h
      go_wp2_with fail
      go_ret
      exact ⟨true, rfl, ⟨fun _ => hf.out, fun _ => rfl⟩, kk⟩
end Go.Proofs.Ytmioichjhiengaa
