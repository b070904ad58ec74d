/-
  Group.Take.
-/
import Derived.Test.YtmioichjhiengaaGreatGroupPut
import Derived.Test.YtmioichjhiengaaGreatGroupMerge
import Derived.Test.YtmioichjhiengaaGreatGroupSettle
import Derived.Test.YtmioichjhiengaaGreatBaseOf
set_option linter.unusedSimpArgs false
set_option linter.unusedVariables false
namespace Go.Proofs.YtmioichjhiengaaGreat
open Go.RowKit

theorem GrpOK.up {N N' : Nat} {M : KM} {T : List Timer} (h : GrpOK N M T) (hN : N ≤ N') : GrpOK N' M T := ⟨h.rel, h.key, h.srt, h.ok, fun k => Nat.le_trans (h.len k) hN, Nat.le_trans h.tim hN⟩
theorem MapAt.more {w : World} {mp N N' : Nat} {F : Nat → Prop} {M : KM} (h : MapAt w mp N F M) (hN : N ≤ N') : MapAt w mp N' F M := by
  obtain ⟨n, f, h1, h2⟩ := h
  exact ⟨n, f, Nat.le_trans h1 hN, h2⟩
theorem GrpAt.up {w : World} {gp mp tp N N' Q Q' : Nat} {c : Config} {vq : Value} {X : Nat → Prop} {M : KM} {T : List Timer} (h : GrpAt w gp mp tp N Q c vq X M T) (hN : N ≤ N') (hQ : Q ≤ Q') : GrpAt w gp mp tp N' Q' c vq X M T :=
  ⟨h.self, h.map.more hQ, h.tim, h.mt, h.gf, h.inv.up hN, h.ap, h.xl⟩
theorem GrpNext.up {w w' : World} {gp mp tp N N' Q Q' : Nat} {c : Config} {vq : Value} {X : Nat → Prop} {M : KM} (h : GrpNext w gp mp tp N Q c vq X M w') (hN : N ≤ N') (hQ : Q ≤ Q') : GrpNext w gp mp tp N' Q' c vq X M w' := by
  obtain ⟨v, T, h1, h2⟩ := h
  exact ⟨v, T, h1.up hN hQ, h2⟩
theorem GrpNext.trans {w w1 w2 : World} {gp mp tp N Q : Nat} {c : Config} {vq vq1 : Value} {X : Nat → Prop} {M : KM} (hlt : ∀ q, grpF mp tp vq q → q < w.heap.size) (k : Keep (grpF mp tp vq) w w1) (o : SameOwn w vq vq1) (h : GrpNext w1 gp mp tp N Q c vq1 X M w2) : GrpNext w gp mp tp N Q c vq X M w2 := by
  obtain ⟨v, T, h1, h2, h3⟩ := h
  exact ⟨v, T, h1, Keep.comb k h2 (fun q hq e => by
    rcases e with e | e
    · exact .inl e
    · exact .inr (o.set q hq e)), o.trans h3 k.size⟩
theorem group_putM {w : World} {gp mp tp N Q : Nat} {c : Config} {vq : Value} {X : Nat → Prop} {M : KM} {T : List Timer} (h : GrpAt w gp mp tp N Q c vq X M T) (hN : N ≤ 80000) (hQ : Q ≤ 1000000) (key : ByteArray) (hk : key.size ≤ maxLen) (s : Span) (hs : s.ok) (hss : s.s < s.e) (v : Int) (hv : I64 v) :
    Calls Tryz.prog 52 #[.pointer (some ⟨gp, 0, none⟩), .string key, .agg s.cells.toArray, .int .i64 v] w fun e w' => e = .returned (.tuple #[]) ∧ GrpNext w gp mp tp (N + 1) (Q + 1) c vq X (putM c.kind M key s v) w' := by
  unfold putM
  by_cases k2 : c.kind = 2
  · rw [if_pos k2]
    exact group_put_session h k2 hN hQ key hk s hs hss v hv
  · rw [if_neg k2]
    exact group_put h k2 hN hQ key hk s hs v hv
/-- What taking a record leaves. -/
def Taken (w : World) (gp mp tp N Q : Nat) (c : Config) (vq : Value) (X : Nat → Prop) (mark : Int) (key : ByteArray) (t v : Int) (M : KM) (e : Ending) (w' : World) : Prop :=
  ∃ vo O M1 M2 code, e = .returned (.tuple #[.int .i64 code, vo]) ∧ Steps c.late mark M O M1 ∧ Calm c.late mark M1 ∧
    ((ofL c t = none ∧ code = 4 ∧ M2 = M1) ∨ ∃ l, ofL c t = some l ∧ code = codeG c.late mark l ∧ M2 = takeM c.kind c.late mark key v l M1) ∧
    GrpNext w gp mp tp (N + 16) (Q + N + 16) c vq X M2 w' ∧ PRow w' w.heap.size vo O
theorem openN_snoc (late mark : Int) (l : List Span) (s : Span) : openN late mark (l ++ [s]) = openN late mark l + (if s.overB late mark then 0 else 1) := by
  unfold openN
  rw [List.filter_append, List.length_append]
  cases h : s.overB late mark <;> simp [h]
set_option maxHeartbeats 4000000 in
set_option maxRecDepth 100000 in
theorem group_take {w : World} {gp mp tp N Q : Nat} {c : Config} {vq : Value} {X : Nat → Prop} {M : KM} {T : List Timer} (h : GrpAt w gp mp tp N Q c vq X M T) (hN : N ≤ 79984) (hQ : Q ≤ 900000) (hc : c.ok) (hm : c.mayB = true) (key : ByteArray) (hk : key.size ≤ maxLen) (t v mark : Int) (ht : I64 t) (hv : I64 v) (hmk : I64 mark) :
    Calls Tryz.prog 14 #[.pointer (some ⟨gp, 0, none⟩), .string key, .int .i64 t, .int .i64 v, .int .i64 mark] w (Taken w gp mp tp N Q c vq X mark key t v M) := by
  have hF := h.F_lt
  have hlate : I64 c.late := hc.2.2.2.2.1
  have cs := Lib.hid (group_settle h (by omega) (by omega) hc mark hmk)
  go_enter Tryz.func14, Tryz.ntmps14
  go_wp2_with fail
  refine cs.out.mono ?_
  rintro e w1 ⟨vo, O, M1, vq1, T1, rfl, hst, hcalm, h1, ob, own1, k1⟩
  obtain ⟨Ao, co, rfl⟩ := own_form own1
  clear cs
  have g1 := h1.self
  have gc := At.cell g1
  have c0 : w1.cell? ⟨gp, 0, none⟩ = some (.int .i64 c.kind) := gc 0
  have c1 : w1.cell? ⟨gp, 1, none⟩ = some (.int .i64 c.size) := gc 1
  have c2 : w1.cell? ⟨gp, 2, none⟩ = some (.int .i64 c.slide) := gc 2
  have c3 : w1.cell? ⟨gp, 3, none⟩ = some (.int .i64 c.gap) := gc 3
  have c4 : w1.cell? ⟨gp, 4, none⟩ = some (.int .i64 c.late) := gc 4
  have c5 : w1.cell? ⟨gp, 5, none⟩ = some (.int .i64 c.shards) := gc 5
  have c6 : w1.cell? ⟨gp, 6, none⟩ = some (.int .i64 c.groups) := gc 6
  have c7 : w1.cell? ⟨gp, 7, none⟩ = some (.int .i64 c.cap) := gc 7
  have cof := assign_of w1 c t hc ht hm
  simp only [Config.cells] at cof
  replace cof := Lib.hid cof
  clear gc
  go_wp2_with fail
  refine cof.out.mono ?_
  rintro e w2 ⟨lv, er, rfl, k2, hl⟩
  clear cof c0 c1 c2 c3 c4 c5 c6 c7 g1
  have hso : SameOwn w vq vq1 := .inl ob
  have own2 := own_keep own1 k2 (fun _ _ e => e)
  have h2 := h1.none k2
  have kw2 : Keep (grpF mp tp vq) w w2 := k1.trans (Keep.of_none k2)
  rcases hl with ⟨l, hl, rfl, hlo⟩ | ⟨hl, rfl, rfl⟩
  · have hw := ofL_wins c t l hc ht hm hl
    obtain ⟨Al, cl, rfl⟩ := own_form hlo
    have hfew := hw.few
    have hlF : ∀ q, grpF mp tp vq1 q → q < w1.heap.size := h1.F_lt
    have hlB : ∀ g, (Value.slice Al l.length cl).ownBlock = some g → w1.heap.size ≤ g := fun g hg => (hlo.lt g hg).1
    have hn0 : GrpNext w2 gp mp tp (N + 0) (Q + N + 0) c vq1 X (takeM c.kind c.late mark key v (l.take 0) M1) w2 := ⟨vq1, T1, h2, Keep.refl _ _, .inl rfl⟩
    have hend : Hid (∀ w', GrpNext w2 gp mp tp (N + l.length) (Q + N + l.length) c vq1 X (takeM c.kind c.late mark key v l M1) w' → Taken w gp mp tp N Q c vq X mark key t v M (.returned (.tuple #[.int .i64 (codeG c.late mark l), .slice Ao O.length co])) w') := by
      refine Lib.hid fun w' hn => ?_
      have ⟨_, _, _, kk, _⟩ := hn
      refine ⟨_, O, M1, _, _, rfl, hst, hcalm, .inr ⟨l, hl, rfl, rfl⟩, (GrpNext.trans hF kw2 hso hn).up (by omega) (by omega), own_keep own2 kk (fun g hg e => ?_)⟩
      have h8 := (own1.lt g hg).1
      rcases e with e | e
      · have := hF g (.inl e); omega
      · have := hF g (.inr (by unfold tset at e ⊢; rwa [ob] at e)); omega
    have hlc : l.length ≤ 9223372036854775807 := by omega
    have hgl := h2.self.lt
    have hlF2 : ∀ q, grpF mp tp vq1 q → q < w2.heap.size := fun q hq => Nat.lt_of_lt_of_le (hlF q hq) k2.size
    clear own1 own2 h1 h2 hst hcalm hl h kw2 hso k1 k2
    go_wp2_with fail
    go_loopw [15, 17, 35] (fun cv _ iv wr => ∃ k : Nat, iv = .int .i64 k ∧ k ≤ l.length ∧ cv = .int .i64 (codeG c.late mark (l.take k)) ∧ GrpNext w2 gp mp tp (N + k) (Q + N + k) c vq1 X (takeM c.kind c.late mark key v (l.take k) M1) wr) (fun _ _ iv _ => l.length - (intOf iv).toNat)
    case atStart => exact ⟨0, rfl, Nat.zero_le _, by simp [codeG, openN], hn0⟩
    case round =>
      clear hn0
      obtain ⟨k, rfl, hk', rfl, hn⟩ := hrel
      have hk0 := Int.natCast_nonneg k
      by_cases hlt : k < l.length
      · obtain ⟨vqk, Tk, hgk, kk, sk⟩ := hn
        have hlt1 : (k : Int) < (l.length : Int) := by omega
        have hsl : Sl Span.cells 2 wr Al l.length cl l := Sl.of_own span_len (by decide) (own_keep hlo kk (fun g hg e => by have := hlB g hg; have := hlF g e; omega))
        have hd3 := hsl.2.1
        obtain ⟨b1, o1, rfl, hb1, -⟩ := hsl.at_ (by omega)
        have q := hsl.cellk hlt
        have q0 := q 0 (by omega)
        have q1 := q 1 (by omega)
        have hwk := hw.has k hlt
        have hT := takeM_snoc c.kind c.late mark key v (l.take k) l[k] M1
        have hC := openN_snoc c.late mark (l.take k) l[k]
        rw [← List.take_succ_eq_append_getElem hlt] at hT hC
        have hso : l[k].ok := ⟨hwk.2.2.2.1, hwk.2.2.2.2⟩
        have hss : l[k].s < l[k].e := by omega
        have hgr := hgk.self
        have hgrl := hgr.lt
        have c4 : wr.cell? ⟨gp, 4, none⟩ = some (.int .i64 c.late) := At.cell hgr 4
        clear q hsl hwk
        simp only [Span.cells, Nat.add_zero, List.getElem?_cons_zero, List.getElem?_cons_succ] at q0 q1
        generalize l[k] = s at *
        have cover := fun W => span_over W s c.late mark hso hlate hmk
        have cput := fun W' (kz : Keep none_ wr W') => group_putM (hgk.none kz) (by omega) (by omega) key hk s hso hss v hv
        obtain ⟨ov, hov⟩ : ∃ b, s.overB c.late mark = b := ⟨_, rfl⟩
        rw [hov] at cover hT hC
        simp only [Span.cells] at cover cput
        replace cover := Lib.hid cover
        replace cput := Lib.hid cput
        replace hT := Lib.hid hT
        replace hC := Lib.hid hC
        clear hov
        go_wp2_with fail
        have hxn := At.new wr #[.int .i64 s.s, .int .i64 s.e] 84
        have kn : Keep none_ wr (wr.alloc (.cells #[.int .i64 s.s, .int .i64 s.e] 84)) := (by repeat' (first | assumption | with_reducible exact Keep.refl _ _ | with_reducible refine Keep.alloc ?_ _ | with_reducible refine Keep.drew ?_))
        have c4' := At.cell (Keep.at kn hgr (fun e => e)) 4
        have cu0 := At.cell hxn 0
        have cu1 := At.cell hxn 1
        generalize hw5 : wr.alloc _ = w5 at *
        replace hw5 := Lib.hid hw5
        clear q0 q1 c4
        go_cut [47] from 39 to 47 (fun bv w' => bv = .bool (!ov) ∧ Keep none_ w5 w')
        case first =>
          go_region_law (first
            | (go_simp; go_at_call 51; refine (cover.out _).mono ?_; rintro e w6 ⟨rfl, k6⟩; have kc6 : Keep none_ w5 w6 := (by refine Keep.trans ?_ k6; exact (by repeat' (first | assumption | with_reducible exact Keep.refl _ _ | with_reducible refine Keep.alloc ?_ _ | with_reducible refine Keep.drew ?_))))
            | fail)
          all_goals
            go_wp2_with fail
            go_meet
            first
              | exact ⟨rfl, kc6⟩
              | (trace_state; fail)
        case rest =>
          obtain ⟨rfl, kc⟩ := hcut
          have kwc : Keep none_ wr wc := kn.trans kc
          have hkc : Keep (grpF mp tp vq1) w2 wc := kk.trans (Keep.of_none kwc)
          have hxc := Keep.at kc hxn (fun e => e)
          have cu0 : wc.cell? ⟨wr.heap.size, 0, none⟩ = some (.int .i64 s.s) := At.cell hxc 0
          have cu1 : wc.cell? ⟨wr.heap.size, 1, none⟩ = some (.int .i64 s.e) := At.cell hxc 1
          clear cover c4' hxc hxn kn kc
          cases ov
          · have e1 : codeG c.late mark (l.take (k + 1)) = 0 := by
              unfold codeG
              rw [hC.out]
              simp
            have e2 : takeM c.kind c.late mark key v (l.take (k + 1)) M1 = putM c.kind (takeM c.kind c.late mark key v (l.take k) M1) key s v := by
              rw [hT.out]
              simp
            replace e1 := Lib.hid e1
            replace e2 := Lib.hid e2
            clear hC hT
            go_wp2_with fail
            refine (cput.out _ kwc).mono ?_
            rintro e w6 ⟨rfl, hn6⟩
            have hnx : GrpNext w2 gp mp tp (N + (k + 1)) (Q + N + (k + 1)) c vq1 X (takeM c.kind c.late mark key v (l.take (k + 1)) M1) w6 := by
              rw [e2.out]
              exact GrpNext.trans hlF2 hkc sk hn6
            replace hnx := Lib.hid hnx
            clear cput hn6 e2 hgk kk hgr cu0 cu1
            go_wp2_with fail
            go_roundw
            case rel => exact ⟨k + 1, by go_num, by omega, by rw [e1.out], hnx.out⟩
            case measure => simp [intOf]; omega
          · have e1 : codeG c.late mark (l.take (k + 1)) = codeG c.late mark (l.take k) := by
              unfold codeG
              rw [hC.out]
              simp
            have hnx : GrpNext w2 gp mp tp (N + (k + 1)) (Q + N + (k + 1)) c vq1 X (takeM c.kind c.late mark key v (l.take (k + 1)) M1) wc := by
              rw [hT.out]
              simp only [if_true]
              exact ⟨vqk, Tk, (hgk.none kwc).up (by omega) (by omega), hkc, sk⟩
            replace hnx := Lib.hid hnx
            replace e1 := Lib.hid e1
            clear hC hT cput hgk kk hgr cu0 cu1
            go_wp2_with fail
            go_roundw
            case rel => exact ⟨k + 1, by go_num, by omega, by rw [e1.out], hnx.out⟩
            case measure => simp [intOf]; omega
      · have htk : l.take k = l := List.take_of_length_le (by omega)
        have hkl : k = l.length := by omega
        have hfin : Taken w gp mp tp N Q c vq X mark key t v M (.returned (.tuple #[.int .i64 (codeG c.late mark (l.take k)), .slice Ao O.length co])) wr := by
          rw [htk]
          refine hend.out wr ?_
          rw [htk, hkl] at hn
          exact hn
        have hn1 : ¬ ((k : Int) < (l.length : Int)) := by omega
        clear hn htk hkl hend
        go_wp2_with fail
        go_ret2
        exact hfin
  · have hfin : Taken w gp mp tp N Q c vq X mark key t v M (.returned (.tuple #[.int .i64 4, .slice Ao O.length co])) w2 :=
      ⟨_, O, M1, M1, 4, rfl, hst, hcalm, .inl ⟨hl, rfl, rfl⟩, ⟨vq1, T1, h2.up (by omega) (by omega), kw2, hso⟩, own2⟩
    clear h2 own2 own1 h1 hst hcalm h
    go_wp2_with fail
    go_ret2
    exact hfin
end Go.Proofs.YtmioichjhiengaaGreat
