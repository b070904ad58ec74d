/-
  Texts of one kind, one behind the other.
-/
import Derived.Test.YtmioichjhiengaaGreatBaseGood
import Derived.Test.YtmioichjhiengaaGreatBaseRow
import Derived.Deep.CutBlock
set_option linter.unusedSimpArgs false
set_option linter.unusedVariables false
/-
  The reference's group: Less, without, Settle.
-/
namespace Go.Proofs.YtmioichjhiengaaGreat
open Go.RowKit

theorem Sl.takeN {α : Type} {enc : α → List Value} {k : Nat} {w : World} {A : Option Addr} {n c : Nat} {xs : List α} (h : Sl enc k w A n c xs) (i : Nat) (hi : i ≤ n) : Sl enc k w A i c (xs.take i) := by
  obtain ⟨h1, h2, h3, h4⟩ := h
  refine ⟨by rw [List.length_take, ← h1, Nat.min_eq_left hi], by omega, h3, fun hn => ?_⟩
  obtain ⟨b, off, rfl, hb, hc⟩ := h4 (by omega)
  refine ⟨b, off, rfl, hb, fun j hj l hl => ?_⟩
  rw [List.length_take] at hj
  rw [List.getElem_take]
  exact hc j (by omega) l hl
theorem ref6_less (w : World) (a b : Pane) : Calls Tryz.prog 48 #[.agg a.cells.toArray, .agg b.cells.toArray] w fun e w' => e = .returned (.bool (lessP a b)) ∧ Keep none_ w w' := by
  unfold lessP
  rw [tlt_eq]
  obtain ⟨ak, ⟨aS, ae⟩, ⟨ac, as2, al, ah⟩⟩ := a
  obtain ⟨bk, ⟨bs, be⟩, ⟨bc, bs2, bl, bh⟩⟩ := b
  simp only [Pane.cells]
  unfold ltB
  have hx := At.alloc (At.new w #[.string ak, .int .i64 aS, .int .i64 ae, .int .i64 ac, .int .i64 as2, .int .i64 al, .int .i64 ah] 88) (.cells #[.string bk, .int .i64 bs, .int .i64 be, .int .i64 bc, .int .i64 bs2, .int .i64 bl, .int .i64 bh] 88)
  have hy : At ((w.alloc (.cells #[.string ak, .int .i64 aS, .int .i64 ae, .int .i64 ac, .int .i64 as2, .int .i64 al, .int .i64 ah] 88)).alloc (.cells #[.string bk, .int .i64 bs, .int .i64 be, .int .i64 bc, .int .i64 bs2, .int .i64 bl, .int .i64 bh] 88)) (w.heap.size + 1) #[.string bk, .int .i64 bs, .int .i64 be, .int .i64 bc, .int .i64 bs2, .int .i64 bl, .int .i64 bh] 88 := At.newAt (by simp) _ _
  have cx := At.cell hx
  have cy := At.cell hy
  clear hx hy
  by_cases h1 : ae = be
  · have b1 : (ae != be) = false := by simp [h1]
    rw [if_neg (by simp [h1])]
    by_cases h2 : aS = bs
    · have b2 : (aS != bs) = false := by simp [h2]
      rw [if_neg (by simp [h2])]
      clear h1 h2
      go_enter Tryz.func48, Tryz.ntmps48
      go_wp2_with fail
      go_ret
      exact ⟨rfl, (by repeat' (first | assumption | with_reducible exact Keep.refl _ _ | with_reducible refine Keep.alloc ?_ _ | with_reducible refine Keep.drew ?_))⟩
    · have b2 : (aS != bs) = true := by simp [h2]
      rw [if_pos h2]
      clear h1 h2
      go_enter Tryz.func48, Tryz.ntmps48
      go_wp2_with fail
      go_ret
      exact ⟨rfl, (by repeat' (first | assumption | with_reducible exact Keep.refl _ _ | with_reducible refine Keep.alloc ?_ _ | with_reducible refine Keep.drew ?_))⟩
  · have b1 : (ae != be) = true := by simp [h1]
    rw [if_pos h1]
    clear h1
    go_enter Tryz.func48, Tryz.ntmps48
    go_wp2_with fail
    go_ret
    exact ⟨rfl, (by repeat' (first | assumption | with_reducible exact Keep.refl _ _ | with_reducible refine Keep.alloc ?_ _ | with_reducible refine Keep.drew ?_))⟩
set_option maxHeartbeats 2000000 in
theorem ref6_without {w : World} {A : Option Addr} {n c : Nat} {xs : List Pane} (h : Sl Pane.cells 7 w A n c xs) (hn : n ≤ 800000) (i : Nat) (hi : i < n) :
    Calls Tryz.prog 49 #[.slice A n c, .int .i64 i] w (Cloned w (delL xs i)) := by
  have hlen := Lib.hid h.len
  have hnc := h.2.1
  have hcm := h.2.2.1
  unfold maxLen at hcm
  obtain ⟨b, off, rfl, hbl, -⟩ := h.at_ (by omega)
  have hi0 := Int.natCast_nonneg i
  have hi1 : (i : Int) < (n : Int) := by omega
  have hic : (i : Int) ≤ (c : Int) := by omega
  have hic2 : i ≤ c := by omega
  have hi1c : i + 1 ≤ c := by omega
  have hin : i + 1 ≤ n := by omega
  have hwi : IntKind.i64.wrap ((i : Int) + 1) = ((i + 1 : Nat) : Int) := by rw [IntKind.wrap_i64]; omega
  obtain ⟨p1, hp1⟩ : ∃ p1, p1 = xs.take i := ⟨_, rfl⟩
  obtain ⟨p2, hp2⟩ : ∃ p2, p2 = xs.drop (i + 1) := ⟨_, rfl⟩
  have hd : Hid (delL xs i = p1 ++ p2 ∧ p1.length = i ∧ p2.length = n - (i + 1)) := Lib.hid (by
    have := hlen.out
    subst hp1 hp2
    refine ⟨rfl, ?_, ?_⟩
    · rw [List.length_take]; omega
    · rw [List.length_drop]; omega)
  have k1 : Keep none_ w (w.alloc (.cells #[] 88)) := (by repeat' (first | assumption | with_reducible exact Keep.refl _ _ | with_reducible refine Keep.alloc ?_ _ | with_reducible refine Keep.drew ?_))
  have hown0 : (w.alloc (.cells #[] 88)).ownsRow w.heap.size 88 7 (.slice (some ⟨w.heap.size, 0, none⟩) 0 0) 0 (flat Pane.cells []) := own_empty (At.new w #[] 88) (Nat.le_refl _)
  have sA1 : Sl Pane.cells 7 (w.alloc (.cells #[] 88)) (some ⟨b, off, none⟩) i c p1 := by rw [hp1]; exact (h.takeN i (by omega)).keep k1 Off.none_
  have hfit : i + (n - (i + 1)) = (delL xs i).length := by
    rw [hd.out.1, List.length_append, hd.out.2.1, hd.out.2.2]
  have hfin : Hid (∀ W v3 m, m = 0 + i + (n - (i + 1)) → W.ownsRow w.heap.size 88 7 v3 m (flat Pane.cells ([] ++ p1 ++ p2)) → PRow W w.heap.size v3 (delL xs i)) := Lib.hid (fun W v3 m hm own => by
    unfold PRow
    rw [← hfit, hd.out.1]
    subst hm
    simpa using own)
  by_cases hca : c = i + 1
  · have sZ : ∀ W', Keep none_ w W' → Sl Pane.cells 7 W' (some ⟨b, off, none⟩) 0 0 p2 := fun W' kz => ⟨by rw [hd.out.2.2]; omega, Nat.zero_le _, by decide, fun h => absurd h (Nat.lt_irrefl _)⟩
    have hn1 : n = i + 1 := by omega
    subst hn1
    subst hca
    replace sZ := Lib.hid sZ
    clear h hd hfit hp1 hp2
    go_enter Tryz.func49, Tryz.ntmps49
    go_wp2_with (at_builtin; refine wpList_append_sl _ rfl _ _ _ rfl w.heap.size 88 row_pane pane_len pane_one _ 0 [] rfl hown0 (some ⟨b, off, none⟩) i (i + 1) p1 rfl sA1 (by omega) (by simp) ?_)
    intro v1 w2 own1 hg1 hb1
    have k2 : Keep none_ w w2 := keep_grown k1 hown0 hg1 (Nat.le_refl _)
    have hsz2 := k2.size
    clear hg1 hb1 hown0 k1 sA1
    go_wp2_with (at_builtin; refine wpList_append_sl _ rfl _ _ _ rfl w.heap.size 88 row_pane pane_len pane_one _ _ _ rfl own1 (some ⟨b, off, none⟩) 0 0 p2 rfl (sZ.out _ k2) (by omega) hsz2 ?_)
    intro v3 w4 own3 hg3 hb3
    have k4 : Keep none_ w w4 := keep_grown k2 own1 hg3 (Nat.le_refl _)
    go_wp2_with fail
    go_ret
    exact ⟨_, rfl, hfin.out _ _ _ (by omega) own3, k4⟩
  · have sZ : ∀ W', Keep none_ w W' → Sl Pane.cells 7 W' (some ⟨b, off + (i + 1) * 7, none⟩) (n - (i + 1)) (c - (i + 1)) p2 := fun W' kz => Sl.drop (h.keep kz Off.none_) (i + 1) hin rfl rfl rfl hp2
    replace sZ := Lib.hid sZ
    clear h hd hfit hp1 hp2
    go_enter Tryz.func49, Tryz.ntmps49
    go_wp2_with (at_builtin; refine wpList_append_sl _ rfl _ _ _ rfl w.heap.size 88 row_pane pane_len pane_one _ 0 [] rfl hown0 (some ⟨b, off, none⟩) i c p1 rfl sA1 (by omega) (by simp) ?_)
    intro v1 w2 own1 hg1 hb1
    have k2 : Keep none_ w w2 := keep_grown k1 hown0 hg1 (Nat.le_refl _)
    have hsz2 := k2.size
    clear hg1 hb1 hown0 k1 sA1
    go_wp2_with (at_builtin; refine wpList_append_sl _ rfl _ _ _ rfl w.heap.size 88 row_pane pane_len pane_one _ _ _ rfl own1 (some ⟨b, off + (i + 1) * 7, none⟩) (n - (i + 1)) (c - (i + 1)) p2 rfl (sZ.out _ k2) (by omega) hsz2 ?_)
    intro v3 w4 own3 hg3 hb3
    have k4 : Keep none_ w w4 := keep_grown k2 own1 hg3 (Nat.le_refl _)
    go_wp2_with fail
    go_ret
    exact ⟨_, rfl, hfin.out _ _ _ (by omega) own3, k4⟩
end Go.Proofs.YtmioichjhiengaaGreat

/-
  The reference's Group.Settle.
-/
namespace Go.Proofs.YtmioichjhiengaaGreat
open Go.RowKit

/-- A group of the reference: its config, its panes. -/
structure RGAt (w : World) (p : Nat) (c : Config) (A : Option Addr) (d : Nat) (L : List Pane) : Prop where
  at_ : At w p #[.int .i64 c.kind, .int .i64 c.size, .int .i64 c.slide, .int .i64 c.gap, .int .i64 c.late, .int .i64 c.shards, .int .i64 c.groups, .int .i64 c.cap, .slice A L.length d] 36
  sl : Sl Pane.cells 7 w A L.length d L
  ne : ∀ a, A = some a → a.block ≠ p
  lt : ∀ a, A = some a → a.block < w.heap.size
  ok : ∀ x ∈ L, x.ok
theorem RGAt.keep {S : Nat → Prop} {w w' : World} {p : Nat} {c : Config} {A : Option Addr} {d : Nat} {L : List Pane} (h : RGAt w p c A d L) (k : Keep S w w') (hp : ¬ S p) (hA : ∀ a, A = some a → ¬ S a.block) : RGAt w' p c A d L :=
  ⟨Keep.at k h.at_ hp, h.sl.keep k hA, h.ne, fun a ha => Nat.lt_of_lt_of_le (h.lt a ha) k.size, h.ok⟩
theorem RGAt.none {w w' : World} {p : Nat} {c : Config} {A : Option Addr} {d : Nat} {L : List Pane} (h : RGAt w p c A d L) (k : Keep none_ w w') : RGAt w' p c A d L := h.keep k (fun e => e) (fun _ _ e => e)
/-- The first of those that are over, of the first i. -/
def BestAt (late mark : Int) (L : List Pane) (i : Nat) (bv : Int) : Prop :=
  (bv = -1 ∧ ∀ j (hj : j < L.length), j < i → L[j].span.overB late mark = false) ∨
  ∃ (q : Nat) (hq : q < L.length), bv = q ∧ L[q].span.overB late mark = true ∧ ∀ j (hj : j < L.length), j < i → L[j].span.overB late mark = true → lessP L[j] L[q] = false
theorem BestAt.zero (late mark : Int) (L : List Pane) : BestAt late mark L 0 (-1) := .inl ⟨rfl, fun _ _ h => absurd h (Nat.not_lt_zero _)⟩
theorem BestAt.skip {late mark : Int} {L : List Pane} {i : Nat} {bv : Int} (h : BestAt late mark L i bv) (hi : i < L.length) (ho : L[i].span.overB late mark = false) : BestAt late mark L (i + 1) bv := by
  rcases h with ⟨e, h⟩ | ⟨q, hq, e, h1, h2⟩
  · refine .inl ⟨e, fun j hj hl => ?_⟩
    by_cases e2 : j = i
    · subst e2; exact ho
    · exact h j hj (by omega)
  · refine .inr ⟨q, hq, e, h1, fun j hj hl hov => ?_⟩
    by_cases e2 : j = i
    · subst e2; rw [ho] at hov; cases hov
    · exact h2 j hj (by omega) hov
theorem BestAt.first {late mark : Int} {L : List Pane} {i : Nat} {bv : Int} (h : BestAt late mark L i bv) (hb : bv < 0) (hi : i < L.length) (ho : L[i].span.overB late mark = true) : BestAt late mark L (i + 1) i := by
  rcases h with ⟨e, h⟩ | ⟨q, hq, e, h1, h2⟩
  · refine .inr ⟨i, hi, rfl, ho, fun j hj hl hov => ?_⟩
    by_cases e2 : j = i
    · subst e2; exact tlt_strict.irr _
    · rw [h j hj (by omega)] at hov; cases hov
  · omega
theorem BestAt.at_ {late mark : Int} {L : List Pane} {i : Nat} {bv : Int} (h : BestAt late mark L i bv) (hb : ¬ bv < 0) : ∃ (q : Nat) (hq : q < L.length), bv = q ∧ L[q].span.overB late mark = true ∧ ∀ j (hj : j < L.length), j < i → L[j].span.overB late mark = true → lessP L[j] L[q] = false := by
  rcases h with ⟨e, h⟩ | h
  · omega
  · exact h
theorem BestAt.more {late mark : Int} {L : List Pane} {i q : Nat} (hi : i < L.length) (hq : q < L.length) (h1 : L[q].span.overB late mark = true) (h2 : ∀ j (hj : j < L.length), j < i → L[j].span.overB late mark = true → lessP L[j] L[q] = false) (hl : lessP L[i] L[q] = false) : BestAt late mark L (i + 1) q := by
  refine .inr ⟨q, hq, rfl, h1, fun j hj hlt hov => ?_⟩
  by_cases e2 : j = i
  · subst e2; exact hl
  · exact h2 j hj (by omega) hov
theorem BestAt.less {late mark : Int} {L : List Pane} {i q : Nat} (hi : i < L.length) (hq : q < L.length) (ho : L[i].span.overB late mark = true) (h2 : ∀ j (hj : j < L.length), j < i → L[j].span.overB late mark = true → lessP L[j] L[q] = false) (hl : lessP L[i] L[q] = true) : BestAt late mark L (i + 1) i := by
  refine .inr ⟨i, hi, rfl, ho, fun j hj hlt hov => ?_⟩
  by_cases e2 : j = i
  · subst e2; exact tlt_strict.irr _
  · have h3 := h2 j hj (by omega) hov
    cases h4 : lessP L[j] L[i]
    · rfl
    · have h5 := tlt_strict.tra _ _ _ h4 hl
      have h6 : lessP L[j] L[q] = true := h5
      rw [h6] at h3
      cases h3
def RSettled (w : World) (p : Nat) (c : Config) (A : Option Addr) (L : List Pane) (mark : Int) (M : KM) (e : Ending) (w' : World) : Prop :=
  ∃ vo O A' d' L' M', e = .returned vo ∧ PRow w' w.heap.size vo O ∧ Steps c.late mark M O M' ∧ Calm c.late mark M' ∧ RelL L' M' ∧ RGAt w' p c A' d' L' ∧ Keep (one p) w w' ∧ (∀ a, A' = some a → A = some a ∨ w.heap.size ≤ a.block) ∧ O.length + L'.length = L.length
/-- What stands at the head of each round. -/
structure RSet (w wr : World) (p : Nat) (c : Config) (A : Option Addr) (L : List Pane) (mark : Int) (M : KM) (vo : Value) (O : List Pane) (A' : Option Addr) (d' : Nat) (L' : List Pane) (M' : KM) : Prop where
  row : PRow wr w.heap.size vo O
  st : Steps c.late mark M O M'
  rel : RelL L' M'
  at_ : RGAt wr p c A' d' L'
  keep : Keep (one p) w wr
  own : ∀ a, A' = some a → A = some a ∨ w.heap.size ≤ a.block
  len : O.length + L'.length = L.length
  ap : ∀ a, A' = some a → vo.ownBlock ≠ some a.block
set_option maxHeartbeats 8000000 in
set_option maxRecDepth 100000 in
theorem ref6_settle {w : World} {p : Nat} {c : Config} {A : Option Addr} {d : Nat} {L : List Pane} {M : KM} (h : RGAt w p c A d L) (hr : RelL L M) (hk : KMOK M) (hn : L.length ≤ 400000) (hc : c.ok) (mark : Int) (hm : I64 mark) :
    Calls Tryz.prog 13 #[.pointer (some ⟨p, 0, none⟩), .int .i64 mark] w (RSettled w p c A L mark M) := by
  have hpl0 := h.at_.lt
  have hlate : I64 c.late := hc.2.2.2.2.1
  have s0 : RSet w w p c A L mark M (.slice none 0 0) [] A d L M := ⟨⟨rfl, .inl ⟨rfl, rfl⟩⟩, rfl, hr, h, Keep.refl _ _, fun a e => .inl e, by simp, fun a e e2 => (by cases e2)⟩
  clear h hr
  go_enter Tryz.func13, Tryz.ntmps13
  go_wp2_with fail
  go_loopw [5, 6, 7, 8] (fun ov _ _ _ wr => ∃ O A' d' L' M', RSet w wr p c A L mark M ov O A' d' L' M')
    (fun ov _ _ _ _ => L.length - lenV ov)
  case atStart => exact ⟨[], A, d, L, M, s0⟩
  case round =>
    clear s0
    obtain ⟨O, A', d', L', M', st⟩ := hrel
    obtain ⟨Ao, co, rfl⟩ := own_form st.row
    have hLl := st.len
    have hok := st.at_.ok
    have hpl := st.at_.at_.lt
    have hne := st.at_.ne
    have hdl := st.at_.sl.2.1
    obtain ⟨w1, rfl⟩ : ∃ w1, w1 = wr := ⟨wr, rfl⟩
    go_wp2_with fail
    go_loopw [6, 7, 8] (fun bv iv _ wq => ∃ (i : Nat) (b : Int), iv = .int .i64 i ∧ bv = .int .i64 b ∧ i ≤ L'.length ∧ BestAt c.late mark L' i b ∧ Keep none_ w1 wq)
      (fun _ iv _ _ => L'.length - (intOf iv).toNat)
    case atStart => exact ⟨0, -1, rfl, rfl, Nat.zero_le _, BestAt.zero _ _ _, Keep.refl _ _⟩
    case round =>
      obtain ⟨i, b, rfl, rfl, hi, hb, kq⟩ := hrel
      have hi0 := Int.natCast_nonneg i
      have sq := st.at_.none kq
      by_cases hlt : i < L'.length
      · have hlt1 : (i : Int) < (L'.length : Int) := by omega
        obtain ⟨bb, off, rfl, hbl, -⟩ := st.at_.sl.at_ (by omega)
        obtain ⟨ι, hne9, f, hf0, hfk, hfa⟩ := class_of none_ wr
        have sf := fun z => sq.none (hfk z)
        have cp := At.cell sq.at_
        have p8 : wr.cell? ⟨p, 8, none⟩ = some (.slice (some ⟨bb, off, none⟩) L'.length d') := cp 8
        have f4 : ∀ z, (f z).cell? ⟨p, 4, none⟩ = some (.int .i64 c.late) := fun z => At.cell (sf z).at_ 4
        have f8 : ∀ z, (f z).cell? ⟨p, 8, none⟩ = some (.slice (some ⟨bb, off, none⟩) L'.length d') := fun z => At.cell (sf z).at_ 8
        have hplq : p < wr.heap.size := sq.at_.lt
        have hplf : ∀ z, p < (f z).heap.size := fun z => (sf z).at_.lt
        have qs := fun z => (sf z).sl.pane hlt
        have qa := fun z => (qs z).c1
        have qb := fun z => (qs z).c2
        have cov := fun W => ref_over W (L'[i].span) c.late mark (hok _ (List.getElem_mem hlt)).2.1 hlate hm
        have hbs := hb.skip hlt
        have hbf := fun hb0 => hb.first hb0 hlt
        have hbo := fun hb0 => hb.at_ hb0
        simp only [Span.cells] at cov
        replace cov := Lib.hid cov
        obtain ⟨ob, hob⟩ : ∃ ob, ob = L'[i].span.overB c.late mark := ⟨_, rfl⟩
        rw [← hob] at cov hbs hbf
        have hless : Hid (∀ q (hq : q < L'.length), ob = true → (∀ j (hj : j < L'.length), j < i → L'[j].span.overB c.late mark = true → lessP L'[j] L'[q] = false) → L'[q].span.overB c.late mark = true → (lessP L'[i] L'[q] = true → BestAt c.late mark L' (i + 1) i) ∧ (lessP L'[i] L'[q] = false → BestAt c.late mark L' (i + 1) q)) :=
          Lib.hid (fun q hq ho h2 h1 => ⟨fun hl => BestAt.less hlt hq (by rw [← hob]; exact ho) h2 hl, fun hl => BestAt.more hlt hq h1 h2 hl⟩)
        obtain ⟨x, hx⟩ : ∃ x, x = L'[i] := ⟨_, rfl⟩
        rw [← hx] at qa qb cov
        replace hx := Lib.hid hx
        replace hob := Lib.hid hob
        replace hbo := Lib.hid hbo
        clear qs
        cases ob
        · have hbn := hbs rfl
          clear hbs hbf hbo hless
          go_wp2_with fail
          refine wp_region_class f (by kernel_rfl) (by kernel_rfl) hf0 ?_
          repeat (go_big_quiet_step ((go_at_call 47; exact Calls.class_of hfa (cov.out _))))
          refine wpQuiet_nil ?_
          rintro _ ⟨nn, rfl⟩
          have k9 := kq.trans (hfk nn)
          clear qa qb f4 f8 hf0 hfk hfa cov sf hplf
          go_wp2_with fail
          go_roundw
          case rel => exact ⟨i + 1, b, by go_num, rfl, by omega, hbn, k9⟩
          case measure => simp [intOf]; omega
        · by_cases hb0 : b < 0
          · have hbn := hbf hb0 rfl
            have hbd : decide (b < 0) = true := decide_eq_true hb0
            clear hbs hbf hbo hless
            go_wp2_with fail
            refine wp_region_class f (by kernel_rfl) (by kernel_rfl) hf0 ?_
            repeat (go_big_quiet_step ((go_at_call 47; exact Calls.class_of hfa (cov.out _))))
            refine wpQuiet_nil ?_
            rintro _ ⟨nn, rfl⟩
            have k9 := kq.trans (hfk nn)
            clear qa qb f4 f8 hf0 hfk hfa cov sf hplf
            go_wp2_with fail
            go_roundw
            case rel => exact ⟨i + 1, i, by go_num, rfl, by omega, hbn, k9⟩
            case measure => simp [intOf]; omega
          · obtain ⟨q, hq, rfl, hqo, hqall⟩ := hbo.out hb0
            have hbd : decide ((q : Int) < 0) = false := decide_eq_false hb0
            obtain ⟨hl1, hl2⟩ := hless.out q hq rfl hqall hqo
            clear hbs hbf hbo hless hqall
            go_wp2_with fail
            refine wp_region_class f (by kernel_rfl) (by kernel_rfl) hf0 ?_
            repeat (go_big_quiet_step ((go_at_call 47; exact Calls.class_of hfa (cov.out _))))
            refine wpQuiet_nil ?_
            rintro _ ⟨nn, rfl⟩
            have k9 := kq.trans (hfk nn)
            clear qa qb f4 f8 hf0 hfa cov sf hplf
            generalize f nn = w2 at *
            clear hfk
            have s2 := st.at_.none k9
            obtain ⟨ι2, hne2, g, hg0, hgk, hga⟩ := class_of none_ w2
            have sg := fun z => s2.none (hgk z)
            have g8 : ∀ z, (g z).cell? ⟨p, 8, none⟩ = some (.slice (some ⟨bb, off, none⟩) L'.length d') := fun z => At.cell (sg z).at_ 8
            have hplg : ∀ z, p < (g z).heap.size := fun z => (sg z).at_.lt
            have qx := fun z => (sg z).sl.pane hlt
            have qy := fun z => (sg z).sl.pane hq
            rw [← hx.out] at qx hl1 hl2
            have cle := fun W => ref6_less W x L'[q]
            generalize L'[q] = y at *
            obtain ⟨lb, hlb⟩ : ∃ lb, lb = lessP x y := ⟨_, rfl⟩
            rw [← hlb] at cle hl1 hl2
            simp only [Pane.cells] at cle
            replace cle := Lib.hid cle
            have hq1 : (q : Int) < (L'.length : Int) := by omega
            have hq0 := Int.natCast_nonneg q
            have x0 := fun z => (qx z).c0
            have x1 := fun z => (qx z).c1
            have x2 := fun z => (qx z).c2
            have x3 := fun z => (qx z).c3
            have x4 := fun z => (qx z).c4
            have x5 := fun z => (qx z).c5
            have x6 := fun z => (qx z).c6
            have y0 := fun z => (qy z).c0
            have y1 := fun z => (qy z).c1
            have y2 := fun z => (qy z).c2
            have y3 := fun z => (qy z).c3
            have y4 := fun z => (qy z).c4
            have y5 := fun z => (qy z).c5
            have y6 := fun z => (qy z).c6
            clear qx qy hlb
            go_wp2_with fail
            refine wp_region_class g (by kernel_rfl) (by kernel_rfl) hg0 ?_
            repeat (go_big_quiet_step ((go_at_call 48; exact Calls.class_of hga (cle.out _))))
            refine wpQuiet_nil ?_
            rintro _ ⟨nn, rfl⟩
            have k10 := k9.trans (hgk nn)
            clear x0 x1 x2 x3 x4 x5 x6 y0 y1 y2 y3 y4 y5 y6 g8 hg0 hgk hga cle sg hplg
            cases lb
            · have hbn := hl2 rfl
              clear hl1 hl2
              go_wp2_with fail
              go_roundw
              case rel => exact ⟨i + 1, q, by go_num, rfl, by omega, hbn, k10⟩
              case measure => simp [intOf]; omega
            · have hbn := hl1 rfl
              clear hl1 hl2
              go_wp2_with fail
              go_roundw
              case rel => exact ⟨i + 1, i, by go_num, rfl, by omega, hbn, k10⟩
              case measure => simp [intOf]; omega
      · obtain rfl : i = L'.length := by omega
        have hin : ¬ ((L'.length : Int) < (L'.length : Int)) := by omega
        have hkm := st.st.km hk
        have cp := At.cell sq.at_
        have p8 : wr.cell? ⟨p, 8, none⟩ = some (.slice A' L'.length d') := cp 8
        have hplq : p < wr.heap.size := sq.at_.lt
        have kp := st.keep.trans (Keep.of_none kq)
        have rowq := own_keep st.row kq (fun _ _ e => e)
        clear cp
        rcases hb with ⟨rfl, hall⟩ | ⟨q, hq, rfl, hqo, hqall⟩
        · have hcalm : Calm c.late mark M' := st.rel.calm hkm (fun x hx => by
            obtain ⟨j, hj, rfl⟩ := List.getElem_of_mem hx
            exact hall j hj hj)
          have hfin : RSettled w p c A L mark M (.returned (.slice Ao O.length co)) wr := ⟨_, O, A', d', L', M', rfl, rowq, st.st, hcalm, st.rel, sq, kp, st.own, st.len⟩
          clear hall hcalm st rowq
          go_wp2_with fail
          go_ret
          exact hfin
        · have hnx : Next c.late mark M' L'[q] := st.rel.next hkm hq hqo (fun x hx ho => by
            obtain ⟨j, hj, rfl⟩ := List.getElem_of_mem hx
            exact hqall j hj hj ho)
          have hst2 := st.st.snoc hnx
          have hrel2 := st.rel.out hkm hq
          obtain ⟨bb, off, rfl, hbl, -⟩ := st.at_.sl.at_ (by omega)
          have hq1 : (q : Int) < (L'.length : Int) := by omega
          have hq0 := Int.natCast_nonneg q
          have hbd : decide ((q : Int) < 0) = false := by simp
          have hok2 : ∀ x ∈ delL L' q, x.ok := fun x hx => hok x ((delL_sub L' q).subset hx)
          have hdl2 : (delL L' q).length + 1 = L'.length := by
            have := (delL_perm hq).length_eq
            simp only [List.length_cons] at this
            omega
          have qx := sq.sl.pane hq
          obtain ⟨x0, x1, x2, x3, x4, x5, x6⟩ := qx
          have hbw : bb < wr.heap.size := Nat.lt_of_lt_of_le hbl kq.size
          have hsw := kp.size
          have hap := st.ap
          have hown := st.own
          generalize L'[q] = y at *
          have kb : Keep none_ wr (wr.alloc (.cells y.cells.toArray 88)) := Keep.alloc (Keep.refl _ _) _
          have own1 := own_keep rowq kb (fun _ _ e => e)
          have hsl1 := Sl.of_at (xs := [y]) (At.new wr y.cells.toArray 88) pane_len (by decide) (rfl : (1 : Nat) = [y].length) (by simp [flat_one]) (by unfold maxLen; omega)
          have hbase1 : w.heap.size ≤ (wr.alloc (.cells y.cells.toArray 88)).heap.size := by simp; omega
          have s1 := sq.none kb
          have kp1 := kp.trans (Keep.of_none (S := one p) kb)
          simp only [Pane.cells] at hsl1 kb own1 hbase1 s1 kp1
          have hst2' := Lib.hid hst2
          clear hnx hst2 rowq hqall
          go_wp2_with (at_builtin; refine wpList_append_sl _ rfl _ _ _ rfl w.heap.size 88 row_pane pane_len pane_one _ _ _ rfl own1 (some ⟨wr.heap.size, 0, none⟩) 1 1 [y] rfl hsl1 (by omega) hbase1 ?_)
          intro v2 w2 own2 hg2 hb2
          have hovw : ∀ g, (Value.slice Ao O.length co).ownBlock = some g → w.heap.size ≤ g := fun g e => (own1.lt g e).1
          have k2 : Keep (own_of (.slice Ao O.length co)) (wr.alloc (.cells #[.string y.key, .int .i64 y.span.s, .int .i64 y.span.e, .int .i64 y.agg.count, .int .i64 y.agg.sum, .int .i64 y.agg.lo, .int .i64 y.agg.hi] 88)) w2 := Keep.grown (Keep.refl _ _) hg2 (fun g e _ => e)
          have s2 := s1.keep k2 (fun e => by have := hovw p e; omega) (fun a e e2 => hap a e e2)
          have kp2 : Keep (one p) w w2 := Keep.fresh kp1 k2 (fun g hg e => by have := hovw g e; omega)
          have cwo := Lib.hid (ref6_without s2.sl (by omega) q hq)
          have hpl2 := s2.at_.lt
          have p82 : w2.cell? ⟨p, 8, none⟩ = some (.slice (some ⟨bb, off, none⟩) L'.length d') := At.cell s2.at_ 8
          have own2' : PRow w2 w.heap.size v2 (O ++ [y]) := by
            have : (O ++ [y]).length = O.length + 1 := by simp
            unfold PRow
            rw [this]
            exact own2
          have hv2 : ∀ g, v2.ownBlock = some g → g < w2.heap.size := fun g e => (own2'.lt g e).2
          have hv2w : ∀ g, v2.ownBlock = some g → w.heap.size ≤ g := fun g e => (own2'.lt g e).1
          clear own1 own2 hg2 hb2 hsl1 hbase1 kb x0 x1 x2 x3 x4 x5 x6 p8 s1 kp1 k2 kp sq hplq
          go_wp2_with fail
          refine cwo.out.mono ?_
          rintro e w3 ⟨v3, rfl, o3, k3⟩
          obtain ⟨A3, d3, rfl⟩ := own_form o3
          have s3 := s2.none k3
          have cp3 := At.cell s3.at_
          have fp3 := At.frozen s3.at_
          have hpl3 := s3.at_.lt
          have hs23 := k3.size
          have hs2w := kp2.size
          have ge3 := own_block_ge o3
          have lt3 : ∀ a, A3 = some a → a.block < w3.heap.size := fun a ha => (o3.lt a.block (by rw [ha]; rfl)).2
          have at4 : At (w3.setCell ⟨p, 8, none⟩ (.slice A3 (delL L' q).length d3)) p #[.int .i64 c.kind, .int .i64 c.size, .int .i64 c.slide, .int .i64 c.gap, .int .i64 c.late, .int .i64 c.shards, .int .i64 c.groups, .int .i64 c.cap, .slice A3 (delL L' q).length d3] 36 := At.set s3.at_ 8 _
          have k34 : Keep (one p) w3 (w3.setCell ⟨p, 8, none⟩ (.slice A3 (delL L' q).length d3)) := Keep.set1 (Keep.refl _ _) _
          have sl4 := (Sl.of_own pane_len (by decide) o3).keep k34 (fun a ha e => by have := ge3 a ha; unfold one at e; omega)
          have k4 : Keep (one p) w (w3.setCell ⟨p, 8, none⟩ (.slice A3 (delL L' q).length d3)) := (kp2.trans (Keep.of_none k3)).trans k34
          have row4 := own_keep (own_keep own2' k3 (fun _ _ e => e)) k34 (fun g hg e => by have := hv2w g hg; unfold one at e; omega)
          have hnew : RSet w (w3.setCell ⟨p, 8, none⟩ (.slice A3 (delL L' q).length d3)) p c A L mark M v2 (O ++ [y]) A3 d3 (delL L' q) (cutM M' y) :=
            ⟨row4, hst2'.out, hrel2, ⟨at4, sl4, fun a ha e => by have := ge3 a ha; omega, fun a ha => by have := lt3 a ha; simp; omega, hok2⟩, k4, fun a ha => .inr (by have := ge3 a ha; omega), by rw [List.length_append]; simp only [List.length_cons, List.length_nil]; omega, fun a ha e => by have := ge3 a ha; have := hv2 _ e; omega⟩
          have hv2l : lenV v2 = O.length + 1 := by
            obtain ⟨A2, c2, rfl⟩ := own_form own2'
            show (O ++ [y]).length = _
            simp
          clear cwo s2 s3 o3 row4 at4 sl4 k4 k34 own2' st hst2' hrel2
          go_wp2_with fail
          go_roundw
          case rel => exact ⟨O ++ [y], A3, d3, delL L' q, cutM M' y, hnew⟩
          case measure => rw [hv2l]; simp only [lenV]; omega
end Go.Proofs.YtmioichjhiengaaGreat

/-
  The reference's Group.Panes: a key's panes, by rising windows.
-/
namespace Go.Proofs.YtmioichjhiengaaGreat
open Go.RowKit

theorem sorted_perm_eq {a b : List Pane} (ha : SortedP a) (hb : SortedP b) (p : a.Perm b) : a = b :=
  List.Perm.eq_of_pairwise (fun x y _ _ h1 h2 => by have := slt_tra h1 h2; rw [slt_irr] at this; cases this) ha hb p
def InsSt (L : List Pane) (key : ByteArray) (i : Nat) (S : List Pane) : Prop := SortedP S ∧ S.Perm ((L.take i).filter (fun p => eqS p.key key))
theorem InsSt.zero (L : List Pane) (key : ByteArray) : InsSt L key 0 [] := ⟨List.Pairwise.nil, List.Perm.nil⟩
theorem InsSt.skip {L : List Pane} {key : ByteArray} {i : Nat} {S : List Pane} (h : InsSt L key i S) (hi : i < L.length) (hk : eqS L[i].key key = false) : InsSt L key (i + 1) S := by
  refine ⟨h.1, ?_⟩
  rw [List.take_succ_eq_append_getElem hi, List.filter_append]
  have : [L[i]].filter (fun p => eqS p.key key) = [] := by simp [hk]
  rw [this, List.append_nil]
  exact h.2
theorem ins_at {S : List Pane} {x : Pane} {a : Nat} (hs : SortedP S) (h1 : ∀ j (hj : j < S.length), a ≤ j → slt x.span S[j].span = true) (h2 : a = 0 ∨ ∃ h : a - 1 < S.length, slt x.span S[a - 1].span = false) (hne : ∀ y ∈ S, y.span ≠ x.span) : SortedP (insL S a x) := by
  refine insL_pairwise hs (fun k hk hka => ?_) (fun k hk h => h1 k hk h)
  rcases h2 with h2 | ⟨hl, h2⟩
  · omega
  · have h3 : slt S[a - 1].span x.span = true := by
      cases h4 : slt S[a - 1].span x.span
      · exact absurd (slt_tri h4 h2) (hne _ (List.getElem_mem hl))
      · rfl
    by_cases e : k = a - 1
    · subst e; exact h3
    · exact slt_tra (List.pairwise_iff_getElem.1 hs k (a - 1) hk hl (by omega)) h3
theorem InsSt.ins {L : List Pane} {key : ByteArray} {i a : Nat} {S : List Pane} (h : InsSt L key i S) (hi : i < L.length) (hk : eqS L[i].key key = true) (hs : SortedP (insL S a L[i])) : InsSt L key (i + 1) (insL S a L[i]) := by
  refine ⟨hs, ?_⟩
  rw [List.take_succ_eq_append_getElem hi, List.filter_append]
  have : [L[i]].filter (fun p => eqS p.key key) = [L[i]] := by simp [hk]
  rw [this]
  exact (insL_perm S a L[i]).trans (h.2.append_right _)
theorem RelL.apart {L : List Pane} {M : KM} (h : RelL L M) (hk : KMOK M) (key : ByteArray) {i : Nat} {S : List Pane} (hS : InsSt L key i S) (hi : i < L.length) (he : eqS L[i].key key = true) : ∀ y ∈ S, y.span ≠ L[i].span := by
  intro y hy
  have h1 : (L.filter (fun p => eqS p.key key)).Pairwise (fun a b => a.span ≠ b.span) := by
    refine ((h.per key).pairwise_iff (fun {a b} e e2 => e e2.symm)).2 ?_
    refine (hk.srt key).imp ?_
    intro a b h1 h2
    rw [h2, slt_irr] at h1
    cases h1
  have h2 : L = L.take i ++ L.drop i := (List.take_append_drop i L).symm
  rw [h2, List.filter_append, List.pairwise_append] at h1
  refine h1.2.2 y (hS.2.mem_iff.1 hy) L[i] (List.mem_filter.2 ⟨?_, he⟩)
  rw [List.drop_eq_getElem_cons hi]
  exact List.mem_cons_self
set_option maxHeartbeats 1000000 in
set_option maxRecDepth 100000 in
theorem ref6_panes {w : World} {p : Nat} {c : Config} {A : Option Addr} {d : Nat} {L : List Pane} {M : KM} (h : RGAt w p c A d L) (hr : RelL L M) (hk : KMOK M) (hn : L.length ≤ 400000) (key : ByteArray) :
    Calls Tryz.prog 21 #[.pointer (some ⟨p, 0, none⟩), .string key] w (Cloned w (M key)) := by
  have hap := fun i S hS hi he => hr.apart hk key (i := i) (S := S) hS hi he
  replace hap := Lib.hid hap
  have hend : Hid (∀ S, InsSt L key L.length S → S = M key) := Lib.hid (fun S hS => by
    refine sorted_perm_eq hS.1 (hk.srt key) ?_
    have h2 := hS.2
    rw [List.take_length] at h2
    exact h2.trans (hr.per key))
  have hpw := h.at_.lt
  clear hr hk
  go_enter Tryz.func21, Tryz.ntmps21
  go_wp2_with fail
  go_loopw [5, 6, 7, 8] (fun ov iv _ _ wr => ∃ (i : Nat) (S : List Pane), iv = .int .i64 i ∧ i ≤ L.length ∧ PRow wr w.heap.size ov S ∧ InsSt L key i S ∧ Keep none_ w wr)
    (fun _ iv _ _ _ => L.length - (intOf iv).toNat)
  case atStart => exact ⟨0, [], rfl, Nat.zero_le _, ⟨rfl, .inl ⟨rfl, rfl⟩⟩, InsSt.zero _ _, Keep.refl _ _⟩
  case round =>
    obtain ⟨i, S, rfl, hi, row, hS, kk⟩ := hrel
    have hi0 := Int.natCast_nonneg i
    have hSl : S.length ≤ L.length := by
      rw [hS.2.length_eq]
      exact Nat.le_trans (List.length_filter_le _ _) (by rw [List.length_take]; omega)
    have hat := h.none kk
    have cp := At.cell hat.at_
    have p8 : wr.cell? ⟨p, 8, none⟩ = some (.slice A L.length d) := cp 8
    have hplr := hat.at_.lt
    obtain ⟨w1, rfl⟩ : ∃ w1, w1 = wr := ⟨wr, rfl⟩
    obtain ⟨Ao, co, rfl⟩ := own_form row
    by_cases hlt : i < L.length
    · have hlt1 : (i : Int) < (L.length : Int) := by omega
      obtain ⟨bb, off, rfl, hbl, -⟩ := h.sl.at_ (by omega)
      have hbl1 : bb < w1.heap.size := Nat.lt_of_lt_of_le hbl kk.size
      have hY : Hid (∀ W, Keep none_ w1 W → PaneIn W bb (off + i * 7) L[i] ∧ W.cell? ⟨p, 8, none⟩ = some (.slice (some ⟨bb, off, none⟩) L.length d) ∧ p < W.heap.size ∧ bb < W.heap.size) := Lib.hid (fun W k => ⟨(hat.none k).sl.pane hlt, At.cell (hat.none k).at_ 8, (hat.none k).at_.lt, Nat.lt_of_lt_of_le hbl1 k.size⟩)
      have qk := (hY.out w1 (Keep.refl _ _)).1.c0
      have hsk := hS.skip hlt
      have hin := fun he a (hs : SortedP (insL S a L[i])) => hS.ins hlt he hs
      have hne := fun he => hap.out i S hS hlt he
      have hSs := hS.1
      obtain ⟨y, hy⟩ : ∃ y, y = L[i] := ⟨_, rfl⟩
      rw [← hy] at hY qk hsk hin hne
      clear hy cp
      obtain ⟨kb, hkb⟩ : ∃ kb, kb = (y.key.toList == key.toList) := ⟨_, rfl⟩
      have hkb' : (y.key.toList == key.toList) = kb := hkb.symm
      have hke : eqS y.key key = kb := hkb'
      rw [hke] at hsk hin hne
      have hkn : (y.key.toList != key.toList) = !kb := by rw [← hkb']; rfl
      clear hkb hke
      cases kb
      · have hS2 := hsk rfl
        replace hin := trivial
        clear hsk hne hY hap
        go_wp2_with fail
        go_roundw
        case rel => exact ⟨i + 1, S, by go_num, by omega, row, hS2, kk⟩
        case measure => simp [intOf]; omega
      · have hin2 := hin rfl
        have hne2 := hne rfl
        replace hin := trivial
        replace hne := trivial
        replace hin2 := Lib.hid hin2
        replace hne2 := Lib.hid hne2
        clear hsk
        go_wp2_with fail
        go_loopw [7] (fun av wq => ∃ a : Nat, av = .int .i64 a ∧ a ≤ S.length ∧ Hid (∀ j (hj : j < S.length), a ≤ j → slt y.span S[j].span = true) ∧ Keep none_ w1 wq) (fun av _ => (intOf av).toNat)
        case atStart => exact ⟨S.length, rfl, Nat.le_refl _, Lib.hid (fun j hj h => by omega), Keep.refl _ _⟩
        case round =>
          obtain ⟨a, rfl, ha, hall, kq⟩ := hrel
          have slS : Sl Pane.cells 7 w1 Ao S.length co S := Sl.of_own pane_len (by decide) row
          have hcS := slS.2.1
          by_cases ha0 : a = 0
          · have hsorted : SortedP (insL S a y) := ins_at hSs hall.out (.inl ha0) hne2.out
            have hg0 : decide ((0 : Int) < (a : Int)) = false := by simp; omega
            have hg1 : ¬ ((0 : Int) < (a : Int)) := by omega
            have hgN : ¬ (0 < a) := by omega
            replace ha0 := Lib.hid ha0
            obtain ⟨ι, hne9, f, hf0, hfk, hfa⟩ := class_of none_ wr
            go_wp2_with fail
            refine wp_region_class f (by kernel_rfl) (by kernel_rfl) hf0 ?_
            repeat (go_big_quiet_step (fail))
            refine wpQuiet_nil ?_
            rintro _ ⟨nn, rfl⟩
            replace kq := kq.trans (hfk nn)
            clear hf0 hfk hfa hg0 hg1 hgN
            generalize f nn = wr at *
            have hYk := Lib.hid (fun W' (kz : Keep none_ wr W') => hY.out W' (kq.trans kz))
            have hS2 := Lib.hid (hin2.out a hsorted)
            have k1 : Keep none_ wr (wr.alloc (.cells #[] 88)) := (by repeat' (first | assumption | with_reducible exact Keep.refl _ _ | with_reducible refine Keep.alloc ?_ _ | with_reducible refine Keep.drew ?_))
            have hown0 : (wr.alloc (.cells #[] 88)).ownsRow wr.heap.size 88 7 (.slice (some ⟨wr.heap.size, 0, none⟩) 0 0) 0 (flat Pane.cells []) := own_empty (At.new wr #[] 88) (Nat.le_refl _)
            have hszw : w.heap.size ≤ wr.heap.size := Nat.le_trans kk.size kq.size
            obtain ⟨p1, hp1⟩ : ∃ p1, p1 = S.take a := ⟨_, rfl⟩
            obtain ⟨p2, hp2⟩ : ∃ p2, p2 = S.drop a := ⟨_, rfl⟩
            have hpl : p1.length = a ∧ p2.length = S.length - a := by
              subst hp1 hp2
              rw [List.length_take, List.length_drop]
              omega
            have hfin : Hid (∀ W v3 m, m = S.length + 1 → W.ownsRow wr.heap.size 88 7 v3 m (flat Pane.cells (p1 ++ [y] ++ p2)) → PRow W w.heap.size v3 (insL S a y)) := Lib.hid (fun W v3 m hm own => by
              have e : insL S a y = p1 ++ [y] ++ p2 := by subst hp1 hp2; simp [insL]
              unfold PRow
              rw [e]
              have e2 : (p1 ++ [y] ++ p2).length = m := by
                simp only [List.length_append, List.length_cons, List.length_nil]
                omega
              rw [e2]
              exact own_lower own hszw)
            have slA := slS.takeN a ha
            rw [← hp1] at slA
            have slA1 := (slA.keep kq Off.none_).keep k1 Off.none_
            have ha0 := Int.natCast_nonneg a
            have haS : (a : Int) ≤ (S.length : Int) := by omega
            have hac : (a : Int) ≤ (co : Int) := by omega
            have hac2 : a ≤ co := by omega
            have hdrop : Hid (∀ b0, Ao = some ⟨b0, 0, none⟩ → ∀ W', Keep none_ wr W' → Sl Pane.cells 7 W' (some ⟨b0, a * 7, none⟩) (S.length - a) (co - a) p2) := Lib.hid (fun b0 e W' kz => by
              subst e
              exact Sl.drop ((slS.keep kq Off.none_).keep kz Off.none_) a ha (by omega) rfl rfl hp2)
            have hnil : Hid (S.length = a → ∀ A0 W', Sl Pane.cells 7 W' A0 0 0 p2) := Lib.hid (fun e A0 W' => ⟨by rw [hpl.2]; omega, Nat.zero_le _, by decide, fun h => absurd h (Nat.lt_irrefl _)⟩)
            replace hsorted := trivial
            clear hin2 hne2 hall hap hY slS slA hend hp1 hp2
            have hr2 := row.2
            clear row
            generalize hnS : S.length = n at *
            replace hnS := Lib.hid hnS
            rcases hr2 with ⟨e9, h0⟩ | ⟨g, cap, cur, e9, hbg, hcur, hnc9, hmc9, -⟩
            · obtain ⟨rfl, hS0, rfl⟩ : Ao = none ∧ n = 0 ∧ co = 0 := by simpa using e9
              subst hS0
              obtain rfl : a = 0 := by omega
              have sZ := Lib.hid (hnil.out rfl)
              obtain rfl : p1 = [] := List.length_eq_zero_iff.1 hpl.1
              clear e9 hnil hdrop slA1
              go_wp2_with (at_builtin; refine wpList_append_sl _ rfl _ _ _ rfl wr.heap.size 88 row_pane pane_len pane_one _ 0 [] rfl hown0 none 0 0 [] rfl (Sl.nil _ _ _ _ _ (by decide)) (by omega) (by simp) ?_)
              intro v1 w2 own1 hg1 hb1
              have k2 : Keep none_ wr w2 := keep_grown k1 hown0 hg1 (Nat.le_refl _)
              have hat2 := hYk.out w2 k2
              obtain ⟨x0, x1, x2, x3, x4, x5, x6⟩ := hat2.1
              have p82 := hat2.2.1
              have hpl2 := hat2.2.2.1
              have hbl2 := hat2.2.2.2
              have hsz2 := k2.size
              have kb : Keep none_ w2 (w2.alloc (.cells y.cells.toArray 88)) := Keep.alloc (Keep.refl _ _) _
              have own1b := own_keep own1 kb (fun _ _ e => e)
              have sl1 := Sl.of_at (xs := [y]) (At.new w2 y.cells.toArray 88) pane_len (by decide) (rfl : (1 : Nat) = [y].length) (by simp [flat_one]) (by unfold maxLen; omega)
              have hbs2 : wr.heap.size ≤ (w2.alloc (.cells y.cells.toArray 88)).heap.size := by simp; omega
              simp only [Pane.cells] at kb own1b sl1 hbs2
              clear own1 hg1 hb1 hown0 k1 hat2
              go_wp2_with (at_builtin; refine wpList_append_sl _ rfl _ _ _ rfl wr.heap.size 88 row_pane pane_len pane_one _ _ _ rfl own1b (some ⟨w2.heap.size, 0, none⟩) 1 1 [y] rfl sl1 (by omega) hbs2 ?_)
              intro v2 w3 own2 hg2 hb2
              have k3 : Keep none_ wr w3 := keep_grown (k2.trans kb) own1b hg2 (Nat.le_refl _)
              have hsz3 := k3.size
              clear own1b hg2 hb2 sl1 kb hbs2 hsz2 x0 x1 x2 x3 x4 x5 x6 p82 hpl2
              go_wp2_with (at_builtin; refine wpList_append_sl _ rfl _ _ _ rfl wr.heap.size 88 row_pane pane_len pane_one _ _ _ rfl own2 (none) (0) (0) (p2) rfl (sZ.out _ _) (by omega) hsz3 ?_)
              intro v3 w4 own3 hg3 hb3
              have k4 : Keep none_ wr w4 := keep_grown k3 own2 hg3 (Nat.le_refl _)
              have hsz4 := k4.size
              clear own2 hg3 hb3 k3 k2
              go_wp2_with fail
              go_roundw
              case rel => exact ⟨i + 1, insL S 0 y, by go_num, by omega, hfin.out _ _ (0 + 0 + 1 + 0) (by omega) (by simpa using own3), hS2.out, kk.trans (kq.trans k4)⟩
              case measure => simp [intOf]; omega
            · obtain ⟨rfl, rfl⟩ : Ao = some ⟨g, 0, none⟩ ∧ co = cap := by simpa using e9
              clear e9 hcur
              unfold maxLen at hmc9
              go_wp2_with (at_builtin; refine wpList_append_sl _ rfl _ _ _ rfl wr.heap.size 88 row_pane pane_len pane_one _ 0 [] rfl hown0 (some ⟨g, 0, none⟩) a co p1 rfl slA1 (by omega) (by simp) ?_)
              by_cases hca : co = a
              · obtain rfl : n = a := by omega
                subst hca
                have sZ := Lib.hid (hnil.out rfl)
                clear hnil hdrop
                intro v1 w2 own1 hg1 hb1
                have k2 : Keep none_ wr w2 := keep_grown k1 hown0 hg1 (Nat.le_refl _)
                have hat2 := hYk.out w2 k2
                obtain ⟨x0, x1, x2, x3, x4, x5, x6⟩ := hat2.1
                have p82 := hat2.2.1
                have hpl2 := hat2.2.2.1
                have hbl2 := hat2.2.2.2
                have hsz2 := k2.size
                have kb : Keep none_ w2 (w2.alloc (.cells y.cells.toArray 88)) := Keep.alloc (Keep.refl _ _) _
                have own1b := own_keep own1 kb (fun _ _ e => e)
                have sl1 := Sl.of_at (xs := [y]) (At.new w2 y.cells.toArray 88) pane_len (by decide) (rfl : (1 : Nat) = [y].length) (by simp [flat_one]) (by unfold maxLen; omega)
                have hbs2 : wr.heap.size ≤ (w2.alloc (.cells y.cells.toArray 88)).heap.size := by simp; omega
                simp only [Pane.cells] at kb own1b sl1 hbs2
                clear own1 hg1 hb1 hown0 k1 hat2
                go_wp2_with (at_builtin; refine wpList_append_sl _ rfl _ _ _ rfl wr.heap.size 88 row_pane pane_len pane_one _ _ _ rfl own1b (some ⟨w2.heap.size, 0, none⟩) 1 1 [y] rfl sl1 (by omega) hbs2 ?_)
                intro v2 w3 own2 hg2 hb2
                have k3 : Keep none_ wr w3 := keep_grown (k2.trans kb) own1b hg2 (Nat.le_refl _)
                have hsz3 := k3.size
                clear own1b hg2 hb2 sl1 kb hbs2 hsz2 x0 x1 x2 x3 x4 x5 x6 p82 hpl2
                go_wp2_with (at_builtin; refine wpList_append_sl _ rfl _ _ _ rfl wr.heap.size 88 row_pane pane_len pane_one _ _ _ rfl own2 (some ⟨g, 0, none⟩) (0) (0) (p2) rfl (sZ.out _ _) (by omega) hsz3 ?_)
                intro v3 w4 own3 hg3 hb3
                have k4 : Keep none_ wr w4 := keep_grown k3 own2 hg3 (Nat.le_refl _)
                have hsz4 := k4.size
                clear own2 hg3 hb3 k3 k2
                go_wp2_with fail
                go_roundw
                case rel => exact ⟨i + 1, insL S _ y, by go_num, by omega, hfin.out _ _ (0 + p1.length + 1 + 0) (by have := hpl.1; omega) (by have e9 := hpl.1; rw [e9]; simpa using own3), hS2.out, kk.trans (kq.trans k4)⟩
                case measure => simp [intOf]; omega
              · have sB := Lib.hid (hdrop.out g rfl)
                clear hnil hdrop
                intro v1 w2 own1 hg1 hb1
                have k2 : Keep none_ wr w2 := keep_grown k1 hown0 hg1 (Nat.le_refl _)
                have hat2 := hYk.out w2 k2
                obtain ⟨x0, x1, x2, x3, x4, x5, x6⟩ := hat2.1
                have p82 := hat2.2.1
                have hpl2 := hat2.2.2.1
                have hbl2 := hat2.2.2.2
                have hsz2 := k2.size
                have kb : Keep none_ w2 (w2.alloc (.cells y.cells.toArray 88)) := Keep.alloc (Keep.refl _ _) _
                have own1b := own_keep own1 kb (fun _ _ e => e)
                have sl1 := Sl.of_at (xs := [y]) (At.new w2 y.cells.toArray 88) pane_len (by decide) (rfl : (1 : Nat) = [y].length) (by simp [flat_one]) (by unfold maxLen; omega)
                have hbs2 : wr.heap.size ≤ (w2.alloc (.cells y.cells.toArray 88)).heap.size := by simp; omega
                simp only [Pane.cells] at kb own1b sl1 hbs2
                clear own1 hg1 hb1 hown0 k1 hat2
                go_wp2_with (at_builtin; refine wpList_append_sl _ rfl _ _ _ rfl wr.heap.size 88 row_pane pane_len pane_one _ _ _ rfl own1b (some ⟨w2.heap.size, 0, none⟩) 1 1 [y] rfl sl1 (by omega) hbs2 ?_)
                intro v2 w3 own2 hg2 hb2
                have k3 : Keep none_ wr w3 := keep_grown (k2.trans kb) own1b hg2 (Nat.le_refl _)
                have hsz3 := k3.size
                clear own1b hg2 hb2 sl1 kb hbs2 hsz2 x0 x1 x2 x3 x4 x5 x6 p82 hpl2
                go_wp2_with (at_builtin; refine wpList_append_sl _ rfl _ _ _ rfl wr.heap.size 88 row_pane pane_len pane_one _ _ _ rfl own2 (some ⟨g, a * 7, none⟩) (n - a) (co - a) (p2) rfl (sB.out _ k3) (by omega) hsz3 ?_)
                intro v3 w4 own3 hg3 hb3
                have k4 : Keep none_ wr w4 := keep_grown k3 own2 hg3 (Nat.le_refl _)
                have hsz4 := k4.size
                clear own2 hg3 hb3 k3 k2
                go_wp2_with fail
                go_roundw
                case rel => exact ⟨i + 1, insL S a y, by go_num, by omega, hfin.out _ _ (0 + a + 1 + (n - a)) (by omega) (by simpa using own3), hS2.out, kk.trans (kq.trans k4)⟩
                case measure => simp [intOf]; omega
          · have ha1 : a - 1 < S.length := by omega
            have hY7 := hY
            obtain ⟨ι, hne9, f, hf0, hfk, hfa⟩ := class_of none_ wr
            have f8 : ∀ z, (f z).cell? ⟨p, 8, none⟩ = some (.slice (some ⟨bb, off, none⟩) L.length d) := fun z => (hY.out _ (kq.trans (hfk z))).2.1
            have fpl : ∀ z, p < (f z).heap.size := fun z => (hY.out _ (kq.trans (hfk z))).2.2.1
            have y1 := fun z => (hY.out _ (kq.trans (hfk z))).1.c1
            have y2 := fun z => (hY.out _ (kq.trans (hfk z))).1.c2
            obtain ⟨gg, go, rfl, hgl, -⟩ := slS.at_ (by omega)
            have s1 := fun z => ((slS.keep (kq.trans (hfk z)) Off.none_).pane ha1).c1
            have s2 := fun z => ((slS.keep (kq.trans (hfk z)) Off.none_).pane ha1).c2
            have cc := fun W => ref_compare W y.span S[a - 1].span
            have hstop : slt y.span S[a - 1].span = false → SortedP (insL S a y) := fun e => ins_at hSs hall.out (.inr ⟨ha1, e⟩) hne2.out
            have hgo : Hid (slt y.span S[a - 1].span = true → ∀ j (hj : j < S.length), a - 1 ≤ j → slt y.span S[j].span = true) := Lib.hid (fun e j hj h => by
              by_cases e2 : j = a - 1
              · subst e2; exact e
              · exact hall.out j hj (by omega))
            generalize S[a - 1] = z at *
            obtain ⟨b9, hb9⟩ : ∃ b9, b9 = slt y.span z.span := ⟨_, rfl⟩
            have hd9 : decide (y.span.cmp z.span < 0) = b9 := hb9.symm
            rw [← hb9] at hstop hgo
            simp only [Span.cells] at cc
            have hwm : IntKind.i64.wrap ((a : Int) - 1) = ((a - 1 : Nat) : Int) := by rw [IntKind.wrap_i64]; omega
            have hg0 : decide ((0 : Int) < (a : Int)) = true := by simp; omega
            have hg1 : (0 : Int) < (a : Int) := by omega
            have hgN : 0 < a := by omega
            have ha10 := Int.natCast_nonneg (a - 1)
            have ha1i : ((a - 1 : Nat) : Int) < (S.length : Int) := by omega
            have ha1s : (a : Int) - 1 < (S.length : Int) := by omega
            have ha1p : (0 : Int) ≤ (a : Int) - 1 := by omega
            replace cc := Lib.hid cc
            replace hb9 := Lib.hid hb9
            generalize y.span.cmp z.span = cv at *
            cases b9
            · have hsorted := hstop rfl
              clear hgo
              go_wp2_with fail
              refine wp_region_class f (by kernel_rfl) (by kernel_rfl) hf0 ?_
              repeat (go_big_quiet_step ((go_at_call 59; exact Calls.class_of hfa (cc.out _))))
              refine wpQuiet_nil ?_
              rintro _ ⟨nn, rfl⟩
              replace kq := kq.trans (hfk nn)
              clear f8 fpl y1 y2 s1 s2 hf0 hfk hfa hg0 cc hstop hg1 hgN ha1i ha1s ha1p ha10 hwm ha1
              generalize f nn = wr at *
              generalize hAo2 : (some ⟨gg, go, none⟩ : Option Addr) = Ao at *
              replace hAo2 := Lib.hid hAo2
              replace ha0 := Lib.hid ha0
              have hYk := Lib.hid (fun W' (kz : Keep none_ wr W') => hY.out W' (kq.trans kz))
              have hS2 := Lib.hid (hin2.out a hsorted)
              have k1 : Keep none_ wr (wr.alloc (.cells #[] 88)) := (by repeat' (first | assumption | with_reducible exact Keep.refl _ _ | with_reducible refine Keep.alloc ?_ _ | with_reducible refine Keep.drew ?_))
              have hown0 : (wr.alloc (.cells #[] 88)).ownsRow wr.heap.size 88 7 (.slice (some ⟨wr.heap.size, 0, none⟩) 0 0) 0 (flat Pane.cells []) := own_empty (At.new wr #[] 88) (Nat.le_refl _)
              have hszw : w.heap.size ≤ wr.heap.size := Nat.le_trans kk.size kq.size
              obtain ⟨p1, hp1⟩ : ∃ p1, p1 = S.take a := ⟨_, rfl⟩
              obtain ⟨p2, hp2⟩ : ∃ p2, p2 = S.drop a := ⟨_, rfl⟩
              have hpl : p1.length = a ∧ p2.length = S.length - a := by
                subst hp1 hp2
                rw [List.length_take, List.length_drop]
                omega
              have hfin : Hid (∀ W v3 m, m = S.length + 1 → W.ownsRow wr.heap.size 88 7 v3 m (flat Pane.cells (p1 ++ [y] ++ p2)) → PRow W w.heap.size v3 (insL S a y)) := Lib.hid (fun W v3 m hm own => by
                have e : insL S a y = p1 ++ [y] ++ p2 := by subst hp1 hp2; simp [insL]
                unfold PRow
                rw [e]
                have e2 : (p1 ++ [y] ++ p2).length = m := by
                  simp only [List.length_append, List.length_cons, List.length_nil]
                  omega
                rw [e2]
                exact own_lower own hszw)
              have slA := slS.takeN a ha
              rw [← hp1] at slA
              have slA1 := (slA.keep kq Off.none_).keep k1 Off.none_
              have ha0 := Int.natCast_nonneg a
              have haS : (a : Int) ≤ (S.length : Int) := by omega
              have hac : (a : Int) ≤ (co : Int) := by omega
              have hac2 : a ≤ co := by omega
              have hdrop : Hid (∀ b0, Ao = some ⟨b0, 0, none⟩ → ∀ W', Keep none_ wr W' → Sl Pane.cells 7 W' (some ⟨b0, a * 7, none⟩) (S.length - a) (co - a) p2) := Lib.hid (fun b0 e W' kz => by
                subst e
                exact Sl.drop ((slS.keep kq Off.none_).keep kz Off.none_) a ha (by omega) rfl rfl hp2)
              have hnil : Hid (S.length = a → ∀ A0 W', Sl Pane.cells 7 W' A0 0 0 p2) := Lib.hid (fun e A0 W' => ⟨by rw [hpl.2]; omega, Nat.zero_le _, by decide, fun h => absurd h (Nat.lt_irrefl _)⟩)
              replace hsorted := trivial
              clear hin2 hne2 hall hap hY slS slA hend hp1 hp2
              have hr2 := row.2
              clear row
              generalize hnS : S.length = n at *
              replace hnS := Lib.hid hnS
              rcases hr2 with ⟨e9, h0⟩ | ⟨g, cap, cur, e9, hbg, hcur, hnc9, hmc9, -⟩
              · obtain ⟨rfl, hS0, rfl⟩ : Ao = none ∧ n = 0 ∧ co = 0 := by simpa using e9
                subst hS0
                obtain rfl : a = 0 := by omega
                have sZ := Lib.hid (hnil.out rfl)
                obtain rfl : p1 = [] := List.length_eq_zero_iff.1 hpl.1
                clear e9 hnil hdrop slA1
                go_wp2_with (at_builtin; refine wpList_append_sl _ rfl _ _ _ rfl wr.heap.size 88 row_pane pane_len pane_one _ 0 [] rfl hown0 none 0 0 [] rfl (Sl.nil _ _ _ _ _ (by decide)) (by omega) (by simp) ?_)
                intro v1 w2 own1 hg1 hb1
                have k2 : Keep none_ wr w2 := keep_grown k1 hown0 hg1 (Nat.le_refl _)
                have hat2 := hYk.out w2 k2
                obtain ⟨x0, x1, x2, x3, x4, x5, x6⟩ := hat2.1
                have p82 := hat2.2.1
                have hpl2 := hat2.2.2.1
                have hbl2 := hat2.2.2.2
                have hsz2 := k2.size
                have kb : Keep none_ w2 (w2.alloc (.cells y.cells.toArray 88)) := Keep.alloc (Keep.refl _ _) _
                have own1b := own_keep own1 kb (fun _ _ e => e)
                have sl1 := Sl.of_at (xs := [y]) (At.new w2 y.cells.toArray 88) pane_len (by decide) (rfl : (1 : Nat) = [y].length) (by simp [flat_one]) (by unfold maxLen; omega)
                have hbs2 : wr.heap.size ≤ (w2.alloc (.cells y.cells.toArray 88)).heap.size := by simp; omega
                simp only [Pane.cells] at kb own1b sl1 hbs2
                clear own1 hg1 hb1 hown0 k1 hat2
                go_wp2_with (at_builtin; refine wpList_append_sl _ rfl _ _ _ rfl wr.heap.size 88 row_pane pane_len pane_one _ _ _ rfl own1b (some ⟨w2.heap.size, 0, none⟩) 1 1 [y] rfl sl1 (by omega) hbs2 ?_)
                intro v2 w3 own2 hg2 hb2
                have k3 : Keep none_ wr w3 := keep_grown (k2.trans kb) own1b hg2 (Nat.le_refl _)
                have hsz3 := k3.size
                clear own1b hg2 hb2 sl1 kb hbs2 hsz2 x0 x1 x2 x3 x4 x5 x6 p82 hpl2
                go_wp2_with (at_builtin; refine wpList_append_sl _ rfl _ _ _ rfl wr.heap.size 88 row_pane pane_len pane_one _ _ _ rfl own2 (none) (0) (0) (p2) rfl (sZ.out _ _) (by omega) hsz3 ?_)
                intro v3 w4 own3 hg3 hb3
                have k4 : Keep none_ wr w4 := keep_grown k3 own2 hg3 (Nat.le_refl _)
                have hsz4 := k4.size
                clear own2 hg3 hb3 k3 k2
                go_wp2_with fail
                go_roundw
                case rel => exact ⟨i + 1, insL S 0 y, by go_num, by omega, hfin.out _ _ (0 + 0 + 1 + 0) (by omega) (by simpa using own3), hS2.out, kk.trans (kq.trans k4)⟩
                case measure => simp [intOf]; omega
              · obtain ⟨rfl, rfl⟩ : Ao = some ⟨g, 0, none⟩ ∧ co = cap := by simpa using e9
                clear e9 hcur
                unfold maxLen at hmc9
                go_wp2_with (at_builtin; refine wpList_append_sl _ rfl _ _ _ rfl wr.heap.size 88 row_pane pane_len pane_one _ 0 [] rfl hown0 (some ⟨g, 0, none⟩) a co p1 rfl slA1 (by omega) (by simp) ?_)
                by_cases hca : co = a
                · obtain rfl : n = a := by omega
                  subst hca
                  have sZ := Lib.hid (hnil.out rfl)
                  clear hnil hdrop
                  intro v1 w2 own1 hg1 hb1
                  have k2 : Keep none_ wr w2 := keep_grown k1 hown0 hg1 (Nat.le_refl _)
                  have hat2 := hYk.out w2 k2
                  obtain ⟨x0, x1, x2, x3, x4, x5, x6⟩ := hat2.1
                  have p82 := hat2.2.1
                  have hpl2 := hat2.2.2.1
                  have hbl2 := hat2.2.2.2
                  have hsz2 := k2.size
                  have kb : Keep none_ w2 (w2.alloc (.cells y.cells.toArray 88)) := Keep.alloc (Keep.refl _ _) _
                  have own1b := own_keep own1 kb (fun _ _ e => e)
                  have sl1 := Sl.of_at (xs := [y]) (At.new w2 y.cells.toArray 88) pane_len (by decide) (rfl : (1 : Nat) = [y].length) (by simp [flat_one]) (by unfold maxLen; omega)
                  have hbs2 : wr.heap.size ≤ (w2.alloc (.cells y.cells.toArray 88)).heap.size := by simp; omega
                  simp only [Pane.cells] at kb own1b sl1 hbs2
                  clear own1 hg1 hb1 hown0 k1 hat2
                  go_wp2_with (at_builtin; refine wpList_append_sl _ rfl _ _ _ rfl wr.heap.size 88 row_pane pane_len pane_one _ _ _ rfl own1b (some ⟨w2.heap.size, 0, none⟩) 1 1 [y] rfl sl1 (by omega) hbs2 ?_)
                  intro v2 w3 own2 hg2 hb2
                  have k3 : Keep none_ wr w3 := keep_grown (k2.trans kb) own1b hg2 (Nat.le_refl _)
                  have hsz3 := k3.size
                  clear own1b hg2 hb2 sl1 kb hbs2 hsz2 x0 x1 x2 x3 x4 x5 x6 p82 hpl2
                  go_wp2_with (at_builtin; refine wpList_append_sl _ rfl _ _ _ rfl wr.heap.size 88 row_pane pane_len pane_one _ _ _ rfl own2 (some ⟨g, 0, none⟩) (0) (0) (p2) rfl (sZ.out _ _) (by omega) hsz3 ?_)
                  intro v3 w4 own3 hg3 hb3
                  have k4 : Keep none_ wr w4 := keep_grown k3 own2 hg3 (Nat.le_refl _)
                  have hsz4 := k4.size
                  clear own2 hg3 hb3 k3 k2
                  go_wp2_with fail
                  go_roundw
                  case rel => exact ⟨i + 1, insL S _ y, by go_num, by omega, hfin.out _ _ (0 + p1.length + 1 + 0) (by have := hpl.1; omega) (by have e9 := hpl.1; rw [e9]; simpa using own3), hS2.out, kk.trans (kq.trans k4)⟩
                  case measure => simp [intOf]; omega
                · have sB := Lib.hid (hdrop.out g rfl)
                  clear hnil hdrop
                  intro v1 w2 own1 hg1 hb1
                  have k2 : Keep none_ wr w2 := keep_grown k1 hown0 hg1 (Nat.le_refl _)
                  have hat2 := hYk.out w2 k2
                  obtain ⟨x0, x1, x2, x3, x4, x5, x6⟩ := hat2.1
                  have p82 := hat2.2.1
                  have hpl2 := hat2.2.2.1
                  have hbl2 := hat2.2.2.2
                  have hsz2 := k2.size
                  have kb : Keep none_ w2 (w2.alloc (.cells y.cells.toArray 88)) := Keep.alloc (Keep.refl _ _) _
                  have own1b := own_keep own1 kb (fun _ _ e => e)
                  have sl1 := Sl.of_at (xs := [y]) (At.new w2 y.cells.toArray 88) pane_len (by decide) (rfl : (1 : Nat) = [y].length) (by simp [flat_one]) (by unfold maxLen; omega)
                  have hbs2 : wr.heap.size ≤ (w2.alloc (.cells y.cells.toArray 88)).heap.size := by simp; omega
                  simp only [Pane.cells] at kb own1b sl1 hbs2
                  clear own1 hg1 hb1 hown0 k1 hat2
                  go_wp2_with (at_builtin; refine wpList_append_sl _ rfl _ _ _ rfl wr.heap.size 88 row_pane pane_len pane_one _ _ _ rfl own1b (some ⟨w2.heap.size, 0, none⟩) 1 1 [y] rfl sl1 (by omega) hbs2 ?_)
                  intro v2 w3 own2 hg2 hb2
                  have k3 : Keep none_ wr w3 := keep_grown (k2.trans kb) own1b hg2 (Nat.le_refl _)
                  have hsz3 := k3.size
                  clear own1b hg2 hb2 sl1 kb hbs2 hsz2 x0 x1 x2 x3 x4 x5 x6 p82 hpl2
                  go_wp2_with (at_builtin; refine wpList_append_sl _ rfl _ _ _ rfl wr.heap.size 88 row_pane pane_len pane_one _ _ _ rfl own2 (some ⟨g, a * 7, none⟩) (n - a) (co - a) (p2) rfl (sB.out _ k3) (by omega) hsz3 ?_)
                  intro v3 w4 own3 hg3 hb3
                  have k4 : Keep none_ wr w4 := keep_grown k3 own2 hg3 (Nat.le_refl _)
                  have hsz4 := k4.size
                  clear own2 hg3 hb3 k3 k2
                  go_wp2_with fail
                  go_roundw
                  case rel => exact ⟨i + 1, insL S a y, by go_num, by omega, hfin.out _ _ (0 + a + 1 + (n - a)) (by omega) (by simpa using own3), hS2.out, kk.trans (kq.trans k4)⟩
                  case measure => simp [intOf]; omega
            · have hall2 := Lib.hid (hgo.out (by first | rfl | trivial))
              clear hgo hstop
              go_wp2_with fail
              refine wp_region_class f (by kernel_rfl) (by kernel_rfl) hf0 ?_
              repeat (go_big_quiet_step ((go_at_call 59; exact Calls.class_of hfa (cc.out _))))
              refine wpQuiet_nil ?_
              rintro _ ⟨nn, rfl⟩
              replace kq := kq.trans (hfk nn)
              clear f8 fpl y1 y2 s1 s2 hf0 hfk hfa hg0 cc
              go_wp2_with fail
              go_roundw
              case rel => exact ⟨a - 1, rfl, by omega, hall2, kq⟩
              case measure => simp [intOf]; omega
    · have hie : i = L.length := by omega
      rw [hie] at hS
      have hSM := hend.out S hS
      have hin : ¬ ((i : Int) < (L.length : Int)) := by omega
      clear hS hap hend
      subst hSM
      have hfin : Cloned w (M key) (.returned (.slice Ao (M key).length co)) w1 := ⟨_, rfl, row, kk⟩
      clear row
      go_wp2_with fail
      go_ret
      exact hfin
end Go.Proofs.YtmioichjhiengaaGreat
