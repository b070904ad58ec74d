/-
  Texts of one kind, one behind the other.
-/
import Derived.Test.YtmioichjhiengaaGreatBaseGood
import Derived.Test.YtmioichjhiengaaGreatBaseRef
import Derived.Test.YtmioichjhiengaaGreatBaseUp
set_option linter.unusedSimpArgs false
set_option linter.unusedVariables false
/-
  A group has as many panes as timers, of each key and of all; the reference's list is as long (plain).
-/
namespace Go.Proofs.YtmioichjhiengaaGreat
open Go.RowKit

def tmP (p : Pane) : Timer := ⟨p.key, p.span⟩
theorem nodup_le {α : Type} : ∀ {l m : List α}, l.Nodup → (∀ x ∈ l, x ∈ m) → l.length ≤ m.length
  | [], _, _, _ => Nat.zero_le _
  | x :: l, m, hn, hs => by
    obtain ⟨s, t, rfl⟩ := List.append_of_mem (hs x List.mem_cons_self)
    have hx := List.nodup_cons.1 hn
    have := nodup_le (l := l) (m := s ++ t) hx.2 (fun y hy => by
      have h1 := hs y (List.mem_cons_of_mem _ hy)
      rw [List.mem_append, List.mem_cons] at h1
      rw [List.mem_append]
      rcases h1 with h1 | rfl | h1
      · exact .inl h1
      · exact absurd hy hx.1
      · exact .inr h1)
    simp only [List.length_append, List.length_cons] at this ⊢
    omega
theorem tm_nodup {M : KM} (hs : ∀ k, SortedP (M k)) (k : ByteArray) : ((M k).map tmP).Nodup := by
  refine List.pairwise_map.2 (List.Pairwise.imp ?_ (hs k))
  intro a b h e
  have e2 : a.span = b.span := by
    have : (tmP a).span = (tmP b).span := by rw [e]
    exact this
  rw [e2, slt_irr] at h
  cases h
/-- Timers of a key. -/
def ofT (k : ByteArray) (T : List Timer) : List Timer := T.filter (fun t => eqS t.key k)
theorem ofT_len {N : Nat} {M : KM} {T : List Timer} (h : GrpOK N M T) (hn : T.Nodup) (k : ByteArray) : (ofT k T).length = (M k).length := by
  have hm : ∀ x, x ∈ (M k).map tmP ↔ x ∈ ofT k T ∨ (x ∈ (M k).map tmP ∧ ¬ x.key.size ≤ maxLen) := fun x => by
    unfold ofT
    rw [List.mem_filter, List.mem_map]
    constructor
    · rintro ⟨p, hp, rfl⟩
      have hk : p.key = k := (h.ok k p hp).2
      by_cases hs : p.key.size ≤ maxLen
      · exact .inl ⟨(h.rel (tmP p) hs).2 ⟨p, by show p ∈ M p.key; rw [hk]; exact hp, rfl⟩, eqS_iff.2 hk⟩
      · exact .inr ⟨⟨p, hp, rfl⟩, hs⟩
    · rintro (⟨h1, h2⟩ | ⟨h1, -⟩)
      · obtain ⟨p, hp, e⟩ := (h.rel x (h.key x h1)).1 h1
        have e2 := eqS_iff.1 h2
        rw [e2] at hp
        refine ⟨p, hp, ?_⟩
        obtain ⟨xk, xs⟩ := x
        simp only at e e2
        unfold tmP
        rw [(h.ok k p hp).2, e, e2]
      · exact h1
  have hok : ∀ x ∈ (M k).map tmP, x.key.size ≤ maxLen := fun x hx => by
    obtain ⟨p, hp, rfl⟩ := List.mem_map.1 hx
    exact (h.ok k p hp).1.1
  refine Nat.le_antisymm ?_ ?_
  · have := nodup_le (l := ofT k T) (m := (M k).map tmP) (List.Nodup.sublist List.filter_sublist hn) (fun x hx => (hm x).2 (.inl hx))
    simpa using this
  · have := nodup_le (l := (M k).map tmP) (m := ofT k T) (tm_nodup h.srt k) (fun x hx => by
      rcases (hm x).1 hx with h1 | h1
      · exact h1
      · exact absurd (hok x hx) h1.2)
    simpa using this
theorem nodup_of_keys {α : Type} (f : α → ByteArray) : ∀ {l : List α}, (∀ k, (l.filter (fun x => eqS (f x) k)).Nodup) → l.Nodup
  | [], _ => List.nodup_nil
  | x :: l, h => by
    refine List.nodup_cons.2 ⟨fun hx => ?_, nodup_of_keys f (fun k => ?_)⟩
    · have h1 := h (f x)
      rw [List.filter_cons_of_pos (p := fun y => eqS (f y) (f x)) (eqS_iff.2 rfl), List.nodup_cons] at h1
      exact h1.1 (List.mem_filter.2 ⟨hx, eqS_iff.2 rfl⟩)
    · have h1 := h k
      exact List.Nodup.sublist (List.Sublist.filter _ (List.sublist_cons_self x l)) h1
theorem relL_nodup {L : List Pane} {M : KM} (hr : RelL L M) (hk : KMOK M) : (L.map tmP).Nodup := by
  refine nodup_of_keys Timer.key (fun k => ?_)
  have e : (L.map tmP).filter (fun t => eqS t.key k) = (L.filter (fun p => eqS p.key k)).map tmP := by
    rw [List.filter_map]
    rfl
  rw [e]
  exact (((hr.per k).map tmP).nodup_iff).2 (tm_nodup hk.srt k)
theorem relL_len {N : Nat} {L : List Pane} {M : KM} {T : List Timer} (hr : RelL L M) (h : GrpOK N M T) (hn : T.Nodup) : T.length = L.length := by
  have hk := h.km
  refine Nat.le_antisymm ?_ ?_
  · have := nodup_le (l := T) (m := L.map tmP) hn (fun x hx => by
      obtain ⟨p, hp, e⟩ := (h.rel x (h.key x hx)).1 hx
      have e2 := hk.key x.key p hp
      refine List.mem_map.2 ⟨p, (hr.mem p).2 (by rw [e2]; exact hp), ?_⟩
      obtain ⟨xk, xs⟩ := x
      unfold tmP
      simp only at e e2
      rw [e, e2])
    simpa using this
  · have := nodup_le (l := L.map tmP) (m := T) (relL_nodup hr hk) (fun x hx => by
      obtain ⟨p, hp, rfl⟩ := List.mem_map.1 hx
      have hm := (hr.mem p).1 hp
      exact (h.rel (tmP p) (hr.key p hp)).2 ⟨p, hm, rfl⟩)
    simpa using this
/-- Texts that rise. -/
def RiseS (l : List ByteArray) : Prop := l.Pairwise (fun a b => ltB a b = true)
theorem rise_eq : ∀ {l m : List ByteArray}, RiseS l → RiseS m → (∀ x, x ∈ l ↔ x ∈ m) → l = m
  | [], [], _, _, _ => rfl
  | [], y :: m, _, _, h => by have := (h y).2 List.mem_cons_self; cases this
  | x :: l, [], _, _, h => by have := (h x).1 List.mem_cons_self; cases this
  | x :: l, y :: m, h1, h2, h => by
    have a1 := List.pairwise_cons.1 h1
    have a2 := List.pairwise_cons.1 h2
    have hxy : x = y := by
      rcases List.mem_cons.1 ((h x).1 List.mem_cons_self) with e | e
      · exact e
      · rcases List.mem_cons.1 ((h y).2 List.mem_cons_self) with e2 | e2
        · exact e2.symm
        · have b1 := a2.1 x e
          have b2 := a1.1 y e2
          have b3 := ltB_trans b1 b2
          rw [ltB_irr] at b3
          cases b3
    subst hxy
    rw [rise_eq a1.2 a2.2 (fun z => ?_)]
    constructor
    · intro hz
      rcases List.mem_cons.1 ((h z).1 (List.mem_cons_of_mem _ hz)) with e | e
      · subst e
        have := a1.1 z hz
        rw [ltB_irr] at this
        cases this
      · exact e
    · intro hz
      rcases List.mem_cons.1 ((h z).2 (List.mem_cons_of_mem _ hz)) with e | e
      · subst e
        have := a2.1 z hz
        rw [ltB_irr] at this
        cases this
      · exact e
/-- A key is put into its place. -/
def cntS (ks : List ByteArray) (k : ByteArray) : Nat := (ks.filter (fun x => ltB x k)).length
def insS (ks : List ByteArray) (k : ByteArray) : List ByteArray := ks.take (cntS ks k) ++ k :: ks.drop (cntS ks k)
def addS (ks : List ByteArray) (k : ByteArray) : List ByteArray := if ks.any (fun x => eqS x k) then ks else insS ks k
def keysS : List Pane → List ByteArray → List ByteArray
  | [], ks => ks
  | p :: L, ks => keysS L (addS ks p.key)
theorem rise_split {ks : List ByteArray} (h : RiseS ks) (k : ByteArray) : (∀ x ∈ ks.take (cntS ks k), ltB x k = true) ∧ ∀ x ∈ ks.drop (cntS ks k), ltB x k = false := by
  induction ks with
  | nil => exact ⟨fun x hx => by simp at hx, fun x hx => by simp at hx⟩
  | cons a ks ih =>
    have h1 := List.pairwise_cons.1 h
    unfold cntS at ih ⊢
    cases ha : ltB a k
    · have hall : ∀ x ∈ a :: ks, ltB x k = false := fun x hx => by
        rcases List.mem_cons.1 hx with rfl | hx
        · exact ha
        · cases hb : ltB x k
          · rfl
          · have := ltB_trans (h1.1 x hx) hb
            rw [ha] at this
            cases this
      have e : (a :: ks).filter (fun x => ltB x k) = [] := List.filter_eq_nil_iff.2 (fun x hx => by rw [hall x hx]; decide)
      rw [e]
      exact ⟨fun x hx => by simp at hx, fun x hx => hall x (by simpa using hx)⟩
    · rw [List.filter_cons_of_pos (by exact ha)]
      simp only [List.length_cons, List.take_succ_cons, List.drop_succ_cons, List.mem_cons]
      refine ⟨fun x hx => ?_, fun x hx => (ih h1.2).2 x hx⟩
      rcases hx with rfl | hx
      · exact ha
      · exact (ih h1.2).1 x hx
theorem insS_mem {ks : List ByteArray} {k x : ByteArray} : x ∈ insS ks k ↔ x = k ∨ x ∈ ks := by
  unfold insS
  rw [List.mem_append, List.mem_cons]
  have : x ∈ ks ↔ x ∈ ks.take (cntS ks k) ∨ x ∈ ks.drop (cntS ks k) := by
    rw [← List.mem_append, List.take_append_drop]
  rw [this]
  constructor
  · rintro (h | h | h)
    · exact .inr (.inl h)
    · exact .inl h
    · exact .inr (.inr h)
  · rintro (h | h | h)
    · exact .inr (.inl h)
    · exact .inl h
    · exact .inr (.inr h)
theorem insS_rise {ks : List ByteArray} (h : RiseS ks) {k : ByteArray} (hk : k ∉ ks) : RiseS (insS ks k) := by
  obtain ⟨h1, h2⟩ := rise_split h k
  have h3 : RiseS (ks.take (cntS ks k)) := h.sublist (List.take_sublist _ _)
  have h4 : RiseS (ks.drop (cntS ks k)) := h.sublist (List.drop_sublist _ _)
  have h5 : ∀ x ∈ ks.drop (cntS ks k), ltB k x = true := fun x hx => by
    cases hb : ltB k x
    · have := ltB_tri (h2 x hx) hb
      subst this
      exact absurd (List.mem_of_mem_drop hx) hk
    · rfl
  unfold RiseS insS
  refine List.pairwise_append.2 ⟨h3, List.pairwise_cons.2 ⟨h5, h4⟩, fun a ha b hb => ?_⟩
  rcases List.mem_cons.1 hb with rfl | hb
  · exact h1 a ha
  · exact ltB_trans (h1 a ha) (h5 b hb)
theorem any_eqS {ks : List ByteArray} {k : ByteArray} : ks.any (fun x => eqS x k) = true ↔ k ∈ ks := by
  rw [List.any_eq_true]
  constructor
  · rintro ⟨x, hx, e⟩
    exact eqS_iff.1 e ▸ hx
  · intro h
    exact ⟨k, h, eqS_iff.2 rfl⟩
theorem addS_mem {ks : List ByteArray} {k x : ByteArray} : x ∈ addS ks k ↔ x = k ∨ x ∈ ks := by
  unfold addS
  by_cases h : ks.any (fun x => eqS x k) = true
  · rw [if_pos h]
    constructor
    · exact .inr
    · rintro (rfl | h2)
      · exact any_eqS.1 h
      · exact h2
  · rw [if_neg h]
    exact insS_mem
theorem addS_rise {ks : List ByteArray} (h : RiseS ks) (k : ByteArray) : RiseS (addS ks k) := by
  unfold addS
  by_cases h2 : ks.any (fun x => eqS x k) = true
  · rw [if_pos h2]; exact h
  · rw [if_neg h2]
    exact insS_rise h (fun e => h2 (any_eqS.2 e))
theorem addS_len (ks : List ByteArray) (k : ByteArray) : (addS ks k).length ≤ ks.length + 1 := by
  unfold addS
  split
  · omega
  · unfold insS
    simp only [List.length_append, List.length_cons, List.length_take, List.length_drop]
    omega
theorem keysS_snoc (p : Pane) : ∀ (L : List Pane) (ks : List ByteArray), keysS (L ++ [p]) ks = addS (keysS L ks) p.key
  | [], _ => rfl
  | _ :: L, _ => keysS_snoc p L _
theorem keysS_take {L : List Pane} {i : Nat} (hi : i < L.length) : keysS (L.take (i + 1)) [] = addS (keysS (L.take i) []) L[i].key := by
  rw [List.take_succ_eq_append_getElem hi, keysS_snoc]
theorem keysS_rise : ∀ (L : List Pane) {ks : List ByteArray}, RiseS ks → RiseS (keysS L ks)
  | [], _, h => h
  | p :: L, _, h => keysS_rise L (addS_rise h p.key)
theorem keysS_mem : ∀ (L : List Pane) {ks : List ByteArray} {x : ByteArray}, x ∈ keysS L ks ↔ (∃ p ∈ L, p.key = x) ∨ x ∈ ks
  | [], _, _ => by simp [keysS]
  | p :: L, ks, x => by
    show x ∈ keysS L (addS ks p.key) ↔ _
    rw [keysS_mem L, addS_mem]
    constructor
    · rintro (⟨q, hq, e⟩ | rfl | h)
      · exact .inl ⟨q, List.mem_cons_of_mem _ hq, e⟩
      · exact .inl ⟨p, List.mem_cons_self, rfl⟩
      · exact .inr h
    · rintro (⟨q, hq, e⟩ | h)
      · rcases List.mem_cons.1 hq with rfl | hq
        · exact .inr (.inl e.symm)
        · exact .inl ⟨q, hq, e⟩
      · exact .inr (.inr h)
theorem keysS_len : ∀ (L : List Pane) (ks : List ByteArray), (keysS L ks).length ≤ ks.length + L.length
  | [], _ => Nat.le_refl _
  | p :: L, ks => by
    have := keysS_len L (addS ks p.key)
    have := addS_len ks p.key
    show (keysS L (addS ks p.key)).length ≤ _
    simp only [List.length_cons]
    omega
/-- The place of a key among those that rise, found one by one. -/
theorem cntS_last {ks : List ByteArray} (h : RiseS ks) (k : ByteArray) {j : Nat} (hj : j < ks.length) : cntS (ks.take (j + 1)) k = if ltB ks[j] k then j + 1 else cntS (ks.take j) k := by
  have h1 : RiseS (ks.take (j + 1)) := h.sublist (List.take_sublist _ _)
  rw [List.take_succ_eq_append_getElem hj] at h1 ⊢
  have h2 := List.pairwise_append.1 h1
  unfold cntS
  rw [List.filter_append, List.length_append]
  cases hb : ltB ks[j] k
  · rw [List.filter_cons_of_neg (by rw [hb]; decide)]
    simp
  · rw [List.filter_cons_of_pos (by exact hb)]
    have e : (ks.take j).filter (fun x => ltB x k) = ks.take j := List.filter_eq_self.2 (fun x hx => ltB_trans (h2.2.2 x hx ks[j] List.mem_cons_self) hb)
    rw [e, List.length_take]
    simp
    omega
theorem any_take {ks : List ByteArray} (k : ByteArray) {j : Nat} (hj : j < ks.length) : (ks.take (j + 1)).any (fun x => eqS x k) = ((ks.take j).any (fun x => eqS x k) || eqS ks[j] k) := by
  rw [List.take_succ_eq_append_getElem hj, List.any_append]
  simp
end Go.Proofs.YtmioichjhiengaaGreat

/-
  The reference's Group.Keys: the keys of its panes, by rising.
-/
namespace Go.Proofs.YtmioichjhiengaaGreat
open Go.RowKit

theorem row_str : Row Tryz.prog 43 9 1 := row_of (z := .string ⟨#[]⟩) (b := 16) Tryz.underlying43 (by kernel_rfl) rfl (by decide) (by decide)
/-- v is a row of the call's own that holds these texts. -/
def KRow (w : World) (b : Nat) (v : Value) (ks : List ByteArray) : Prop := w.ownsRow b 9 1 v ks.length (flat encS ks)
def KeysAt (w : World) (ks : List ByteArray) (e : Ending) (w' : World) : Prop := ∃ v, e = .returned v ∧ KRow w' w.heap.size v ks ∧ Keep none_ w w'
theorem any_or {ks : List ByteArray} {k : ByteArray} {j : Nat} {b e : Bool} (hj : j < ks.length) (h : (ks.take j).any (fun x => eqS x k) = b) (he : eqS ks[j] k = e) : (ks.take (j + 1)).any (fun x => eqS x k) = (b || e) := by
  rw [any_take k hj, h, he]
set_option maxHeartbeats 4000000 in
set_option maxRecDepth 100000 in
theorem ref6_keys {w : World} {p : Nat} {c : Config} {A : Option Addr} {d : Nat} {L : List Pane} (h : RGAt w p c A d L) (hn : L.length ≤ 400000) :
    Calls Tryz.prog 17 #[.pointer (some ⟨p, 0, none⟩)] w (KeysAt w (keysS L [])) := by
  have hpw := h.at_.lt
  go_enter Tryz.func17, Tryz.ntmps17
  go_wp2_with fail
  go_loopw [3, 4, 5, 6, 7, 8] (fun ov iv _ _ _ _ wr => ∃ (i : Nat) (ks : List ByteArray), iv = .int .i64 i ∧ i ≤ L.length ∧ KRow wr w.heap.size ov ks ∧ Hid (ks = keysS (L.take i) []) ∧ Keep none_ w wr)
    (fun _ iv _ _ _ _ _ => L.length - (intOf iv).toNat)
  case atStart => exact ⟨0, [], rfl, Nat.zero_le _, ⟨rfl, .inl ⟨rfl, rfl⟩⟩, Lib.hid rfl, Keep.refl _ _⟩
  case round =>
    obtain ⟨i, ks, rfl, hi, row, hK, kk⟩ := hrel
    have hi0 := Int.natCast_nonneg i
    have hr : RiseS ks := by rw [hK.out]; exact keysS_rise _ List.Pairwise.nil
    have hkl : ks.length ≤ i := by
      rw [hK.out]
      have := keysS_len (L.take i) []
      rw [List.length_take] at this
      simp only [List.length_nil] at this
      omega
    have hat := h.none kk
    have p8 : wr.cell? ⟨p, 8, none⟩ = some (.slice A L.length d) := At.cell hat.at_ 8
    have hplr := hat.at_.lt
    obtain ⟨w1, rfl⟩ : ∃ w1, w1 = wr := ⟨wr, rfl⟩
    obtain ⟨Ao, co, rfl⟩ := own_form row
    by_cases hlt : i < L.length
    · have hlt1 : (i : Int) < (L.length : Int) := by omega
      obtain ⟨bb, off, rfl, hbl, -⟩ := h.sl.at_ (by omega)
      have hbl1 : bb < w1.heap.size := Nat.lt_of_lt_of_le hbl kk.size
      have hY : Hid (∀ W, Keep none_ w1 W → W.cell? ⟨bb, off + i * 7, none⟩ = some (.string L[i].key) ∧ W.cell? ⟨p, 8, none⟩ = some (.slice (some ⟨bb, off, none⟩) L.length d) ∧ p < W.heap.size ∧ bb < W.heap.size) := Lib.hid (fun W k => ⟨((hat.none k).sl.pane hlt).c0, At.cell (hat.none k).at_ 8, (hat.none k).at_.lt, Nat.lt_of_lt_of_le hbl1 k.size⟩)
      have hstep : Hid (keysS (L.take (i + 1)) [] = addS ks L[i].key) := Lib.hid (by rw [keysS_take hlt, ← hK.out])
      generalize L[i].key = key at *
      have slS : Sl encS 1 w1 Ao ks.length co ks := Sl.of_own encS_len (by decide) row
      have hcS := slS.2.1
      have hall : Hid (cntS (ks.take ks.length) key = cntS ks key ∧ (ks.take ks.length).any (fun x => eqS x key) = ks.any (fun x => eqS x key)) := Lib.hid (by rw [List.take_length]; exact ⟨rfl, rfl⟩)
      go_wp2_with fail
      go_loopw [5, 6, 7] (fun av mv jv wq => ∃ (j a : Nat) (met : Bool), av = .int .i64 a ∧ mv = .bool met ∧ jv = .int .i64 j ∧ j ≤ ks.length ∧ a ≤ j ∧ Hid (a = cntS (ks.take j) key ∧ (ks.take j).any (fun x => eqS x key) = met) ∧ Keep none_ w1 wq) (fun _ _ jv _ => ks.length - (intOf jv).toNat)
      case atStart => exact ⟨0, 0, false, rfl, rfl, rfl, Nat.zero_le _, Nat.le_refl _, Lib.hid ⟨rfl, rfl⟩, Keep.refl _ _⟩
      case round =>
        obtain ⟨j, a, met, rfl, rfl, rfl, hj, haj, hcm, kq⟩ := hrel
        have hj0 := Int.natCast_nonneg j
        by_cases hjl : j < ks.length
        · have hj1 : (j : Int) < (ks.length : Int) := by omega
          obtain ⟨gg, go, rfl, hgl, -⟩ := slS.at_ (by omega)
          have hnext : ∀ {b e : Bool}, Hid (ltB ks[j] key = b ∧ eqS ks[j] key = e) → Hid ((if b then j + 1 else a) = cntS (ks.take (j + 1)) key ∧ (ks.take (j + 1)).any (fun x => eqS x key) = (met || e)) := fun {b e} hh => Lib.hid (by
            obtain ⟨h1, h2⟩ := hh.out
            obtain ⟨h3, h4⟩ := hcm.out
            refine ⟨?_, any_or hjl h4 h2⟩
            rw [cntS_last hr key hjl, h1, ← h3])
          have kc := fun W (k : Keep none_ wr W) => (slS.keep (kq.trans k) Off.none_).cell1 hjl
          obtain ⟨y, hy⟩ : ∃ y, y = ks[j] := ⟨_, rfl⟩
          rw [← hy] at kc
          have hh : Hid (ltB ks[j] key = ltB y key ∧ eqS ks[j] key = eqS y key) := Lib.hid (by rw [hy]; exact ⟨rfl, rfl⟩)
          clear hy
          have hn2 := hnext hh
          have hlb : Op.bytesLess y.toList key.toList = ltB y key := rfl
          have heb : (y.toList == key.toList) = eqS y key := rfl
          generalize ltB y key = b at *
          generalize eqS y key = e at *
          clear hnext hh
          obtain ⟨ι, hne9, f, hf0, hfk, hfa⟩ := class_of none_ wr
          have f8 : ∀ z, (f z).cell? ⟨p, 8, none⟩ = some (.slice (some ⟨bb, off, none⟩) L.length d) := fun z => (hY.out _ (kq.trans (hfk z))).2.1
          have fpl : ∀ z, p < (f z).heap.size := fun z => (hY.out _ (kq.trans (hfk z))).2.2.1
          have y1 : ∀ z, (f z).cell? ⟨bb, off + i * 7, none⟩ = some (.string key) := fun z => (hY.out _ (kq.trans (hfk z))).1
          have s1 : ∀ z, (f z).cell? ⟨gg, go + j, none⟩ = some (.string y) := fun z => kc _ (hfk z)
          replace kc := Lib.hid kc
          cases b
          all_goals
            simp only [Bool.false_eq_true, if_false, if_true] at hn2
            go_wp2_with fail
            refine wp_region_class f (by kernel_rfl) (by kernel_rfl) hf0 ?_
            repeat (go_big_quiet_step (fail))
            refine wpQuiet_nil ?_
            rintro _ ⟨nn, rfl⟩
            have kn := hfk nn
            clear f8 fpl y1 s1 hf0 hfk hfa
            generalize f nn = wz at *
            obtain ⟨ι, hne9, f, hf0, hfk, hfa⟩ := class_of none_ wz
            have f8 : ∀ z, (f z).cell? ⟨p, 8, none⟩ = some (.slice (some ⟨bb, off, none⟩) L.length d) := fun z => (hY.out _ (kq.trans (kn.trans (hfk z)))).2.1
            have fpl : ∀ z, p < (f z).heap.size := fun z => (hY.out _ (kq.trans (kn.trans (hfk z)))).2.2.1
            have y1 : ∀ z, (f z).cell? ⟨bb, off + i * 7, none⟩ = some (.string key) := fun z => (hY.out _ (kq.trans (kn.trans (hfk z)))).1
            have s1 : ∀ z, (f z).cell? ⟨gg, go + j, none⟩ = some (.string y) := fun z => kc.out _ (kn.trans (hfk z))
            go_wp2_with fail
            cases met
            all_goals
              simp only [Bool.false_or, Bool.true_or] at hn2
              refine wp_region_class f (by kernel_rfl) (by kernel_rfl) hf0 ?_
              repeat (go_big_quiet_step (fail))
              refine wpQuiet_nil ?_
              rintro _ ⟨nn, rfl⟩
              have kn2 := kq.trans (kn.trans (hfk nn))
              clear f8 fpl y1 s1 hf0 hfk hfa
              generalize f nn = wy at *
              go_wp2_with fail
              go_roundw
              case rel => exact ⟨j + 1, _, _, by go_num, rfl, by go_num, by omega, by omega, hn2, kn2⟩
              case measure => simp [intOf]; omega
        · obtain rfl : j = ks.length := by omega
          have hj1 : ¬ ((ks.length : Int) < (ks.length : Int)) := by omega
          have hA : Hid (a = cntS ks key ∧ ks.any (fun x => eqS x key) = met) := Lib.hid (by
            obtain ⟨h1, h2⟩ := hcm.out
            obtain ⟨h3, h4⟩ := hall.out
            rw [h3] at h1
            rw [h4] at h2
            exact ⟨h1, h2⟩)
          clear hcm hall
          cases met
          · have hS2 : Hid (keysS (L.take (i + 1)) [] = ks.take a ++ key :: ks.drop a) := Lib.hid (by
              obtain ⟨h1, h2⟩ := hA.out
              rw [hstep.out]
              unfold addS
              rw [h2, if_neg (by decide), h1]
              rfl)
            clear hstep hA
            have hYk := Lib.hid (fun W' (kz : Keep none_ wr W') => hY.out W' (kq.trans kz))
            have k1 : Keep none_ wr (wr.alloc (.cells #[] 9)) := (by repeat' (first | assumption | with_reducible exact Keep.refl _ _ | with_reducible refine Keep.alloc ?_ _ | with_reducible refine Keep.drew ?_))
            have hown0 : (wr.alloc (.cells #[] 9)).ownsRow wr.heap.size 9 1 (.slice (some ⟨wr.heap.size, 0, none⟩) 0 0) 0 (flat encS []) := own_empty (At.new wr #[] 9) (Nat.le_refl _)
            have hszw : w.heap.size ≤ wr.heap.size := Nat.le_trans kk.size kq.size
            obtain ⟨p1, hp1⟩ : ∃ p1, p1 = ks.take a := ⟨_, rfl⟩
            obtain ⟨p2, hp2⟩ : ∃ p2, p2 = ks.drop a := ⟨_, rfl⟩
            have hpl : p1.length = a ∧ p2.length = ks.length - a := by
              subst hp1 hp2
              rw [List.length_take, List.length_drop]
              omega
            have hfin : Hid (∀ W v3 m, m = ks.length + 1 → W.ownsRow wr.heap.size 9 1 v3 m (flat encS (p1 ++ [key] ++ p2)) → ∃ ks', KRow W w.heap.size v3 ks' ∧ Hid (ks' = keysS (L.take (i + 1)) [])) := Lib.hid (fun W v3 m hm own => by
              refine ⟨p1 ++ [key] ++ p2, ?_, Lib.hid ?_⟩
              · unfold KRow
                have e2 : (p1 ++ [key] ++ p2).length = m := by
                  simp only [List.length_append, List.length_cons, List.length_nil]
                  omega
                rw [e2]
                exact own_lower own hszw
              · rw [hS2.out, hp1, hp2]
                simp)
            have slA := slS.takeN a haj
            rw [← hp1] at slA
            have slA1 := (slA.keep kq Off.none_).keep k1 Off.none_
            have ha0 := Int.natCast_nonneg a
            have haS : (a : Int) ≤ (ks.length : Int) := by omega
            have hac : (a : Int) ≤ (co : Int) := by omega
            have hac2 : a ≤ co := by omega
            have hdrop : Hid (∀ b0, Ao = some ⟨b0, 0, none⟩ → ∀ W', Keep none_ wr W' → Sl encS 1 W' (some ⟨b0, a, none⟩) (ks.length - a) (co - a) p2) := Lib.hid (fun b0 e W' kz => by
              subst e
              exact Sl.drop ((slS.keep kq Off.none_).keep kz Off.none_) a haj (by omega) rfl rfl hp2)
            have hnil : Hid (ks.length = a → ∀ A0 W', Sl encS 1 W' A0 0 0 p2) := Lib.hid (fun e A0 W' => ⟨by rw [hpl.2]; omega, Nat.zero_le _, by decide, fun h => absurd h (Nat.lt_irrefl _)⟩)
            clear hY slS slA hp1 hp2 hS2 hK hr
            have hr2 := row.2
            clear row
            generalize hnS : ks.length = n at *
            replace hnS := Lib.hid hnS
            rcases hr2 with ⟨e9, h0⟩ | ⟨g, cap, cur, e9, hbg, hcur, hnc9, hmc9, -⟩
            · obtain ⟨rfl, hS0, rfl⟩ : Ao = none ∧ n = 0 ∧ co = 0 := by simpa using e9
              subst hS0
              obtain rfl : a = 0 := by omega
              have sZ := Lib.hid (hnil.out rfl)
              obtain rfl : p1 = [] := List.length_eq_zero_iff.1 hpl.1
              clear e9 hnil hdrop slA1
              go_wp2_with (at_builtin; refine wpList_append_sl _ rfl _ _ _ rfl wr.heap.size 9 row_str encS_len encS_one _ 0 [] rfl hown0 none 0 0 [] rfl (Sl.nil _ _ _ _ _ (by decide)) (by omega) (by simp) ?_)
              intro v1 w2 own1 hg1 hb1
              have k2 : Keep none_ wr w2 := keep_grown k1 hown0 hg1 (Nat.le_refl _)
              have hat2 := hYk.out w2 k2
              have x0 := hat2.1
              have p82 := hat2.2.1
              have hpl2 := hat2.2.2.1
              have hbl2 := hat2.2.2.2
              have hsz2 := k2.size
              have kb : Keep none_ w2 (w2.alloc (.cells #[.string key] 9)) := Keep.alloc (Keep.refl _ _) _
              have own1b := own_keep own1 kb (fun _ _ e => e)
              have sl1 := Sl.of_at (enc := encS) (xs := [key]) (At.new w2 #[.string key] 9) encS_len (by decide) (rfl : (1 : Nat) = [key].length) rfl (by unfold maxLen; omega)
              have hbs2 : wr.heap.size ≤ (w2.alloc (.cells #[.string key] 9)).heap.size := by simp; omega
              clear own1 hg1 hb1 hown0 k1 hat2
              go_wp2_with (at_builtin; refine wpList_append_sl _ rfl _ _ _ rfl wr.heap.size 9 row_str encS_len encS_one _ _ _ rfl own1b (some ⟨w2.heap.size, 0, none⟩) 1 1 [key] rfl sl1 (by omega) hbs2 ?_)
              intro v2 w3 own2 hg2 hb2
              have k3 : Keep none_ wr w3 := keep_grown (k2.trans kb) own1b hg2 (Nat.le_refl _)
              have hsz3 := k3.size
              clear own1b hg2 hb2 sl1 kb hbs2 hsz2 x0 p82 hpl2
              go_wp2_with (at_builtin; refine wpList_append_sl _ rfl _ _ _ rfl wr.heap.size 9 row_str encS_len encS_one _ _ _ rfl own2 (none) (0) (0) (p2) rfl (sZ.out _ _) (by omega) hsz3 ?_)
              intro v3 w4 own3 hg3 hb3
              have k4 : Keep none_ wr w4 := keep_grown k3 own2 hg3 (Nat.le_refl _)
              have hsz4 := k4.size
              clear own2 hg3 hb3 k3 k2
              go_wp2_with fail
              obtain ⟨ks2, row2, hK2⟩ := hfin.out _ _ (0 + 0 + 1 + 0) (by omega) (by simpa using own3)
              go_roundw
              case rel => exact ⟨i + 1, ks2, by go_num, by omega, row2, hK2, kk.trans (kq.trans k4)⟩
              case measure => simp [intOf]; omega
            · obtain ⟨rfl, rfl⟩ : Ao = some ⟨g, 0, none⟩ ∧ co = cap := by simpa using e9
              clear e9 hcur
              unfold maxLen at hmc9
              go_wp2_with (at_builtin; refine wpList_append_sl _ rfl _ _ _ rfl wr.heap.size 9 row_str encS_len encS_one _ 0 [] rfl hown0 (some ⟨g, 0, none⟩) a co p1 rfl slA1 (by omega) (by simp) ?_)
              by_cases hca : co = a
              · obtain rfl : n = a := by omega
                subst hca
                have sZ := Lib.hid (hnil.out rfl)
                clear hnil hdrop
                intro v1 w2 own1 hg1 hb1
                have k2 : Keep none_ wr w2 := keep_grown k1 hown0 hg1 (Nat.le_refl _)
                have hat2 := hYk.out w2 k2
                have x0 := hat2.1
                have p82 := hat2.2.1
                have hpl2 := hat2.2.2.1
                have hbl2 := hat2.2.2.2
                have hsz2 := k2.size
                have kb : Keep none_ w2 (w2.alloc (.cells #[.string key] 9)) := Keep.alloc (Keep.refl _ _) _
                have own1b := own_keep own1 kb (fun _ _ e => e)
                have sl1 := Sl.of_at (enc := encS) (xs := [key]) (At.new w2 #[.string key] 9) encS_len (by decide) (rfl : (1 : Nat) = [key].length) rfl (by unfold maxLen; omega)
                have hbs2 : wr.heap.size ≤ (w2.alloc (.cells #[.string key] 9)).heap.size := by simp; omega
                clear own1 hg1 hb1 hown0 k1 hat2
                go_wp2_with (at_builtin; refine wpList_append_sl _ rfl _ _ _ rfl wr.heap.size 9 row_str encS_len encS_one _ _ _ rfl own1b (some ⟨w2.heap.size, 0, none⟩) 1 1 [key] rfl sl1 (by omega) hbs2 ?_)
                intro v2 w3 own2 hg2 hb2
                have k3 : Keep none_ wr w3 := keep_grown (k2.trans kb) own1b hg2 (Nat.le_refl _)
                have hsz3 := k3.size
                clear own1b hg2 hb2 sl1 kb hbs2 hsz2 x0 p82 hpl2
                go_wp2_with (at_builtin; refine wpList_append_sl _ rfl _ _ _ rfl wr.heap.size 9 row_str encS_len encS_one _ _ _ rfl own2 (some ⟨g, 0, none⟩) (0) (0) (p2) rfl (sZ.out _ _) (by omega) hsz3 ?_)
                intro v3 w4 own3 hg3 hb3
                have k4 : Keep none_ wr w4 := keep_grown k3 own2 hg3 (Nat.le_refl _)
                have hsz4 := k4.size
                clear own2 hg3 hb3 k3 k2
                go_wp2_with fail
                obtain ⟨ks2, row2, hK2⟩ := hfin.out _ _ (0 + p1.length + 1 + 0) (by have := hpl.1; omega) (by have e9 := hpl.1; rw [e9]; simpa using own3)
                go_roundw
                case rel => exact ⟨i + 1, ks2, by go_num, by omega, row2, hK2, kk.trans (kq.trans k4)⟩
                case measure => simp [intOf]; omega
              · have sB := Lib.hid (hdrop.out g rfl)
                clear hnil hdrop
                intro v1 w2 own1 hg1 hb1
                have k2 : Keep none_ wr w2 := keep_grown k1 hown0 hg1 (Nat.le_refl _)
                have hat2 := hYk.out w2 k2
                have x0 := hat2.1
                have p82 := hat2.2.1
                have hpl2 := hat2.2.2.1
                have hbl2 := hat2.2.2.2
                have hsz2 := k2.size
                have kb : Keep none_ w2 (w2.alloc (.cells #[.string key] 9)) := Keep.alloc (Keep.refl _ _) _
                have own1b := own_keep own1 kb (fun _ _ e => e)
                have sl1 := Sl.of_at (enc := encS) (xs := [key]) (At.new w2 #[.string key] 9) encS_len (by decide) (rfl : (1 : Nat) = [key].length) rfl (by unfold maxLen; omega)
                have hbs2 : wr.heap.size ≤ (w2.alloc (.cells #[.string key] 9)).heap.size := by simp; omega
                clear own1 hg1 hb1 hown0 k1 hat2
                go_wp2_with (at_builtin; refine wpList_append_sl _ rfl _ _ _ rfl wr.heap.size 9 row_str encS_len encS_one _ _ _ rfl own1b (some ⟨w2.heap.size, 0, none⟩) 1 1 [key] rfl sl1 (by omega) hbs2 ?_)
                intro v2 w3 own2 hg2 hb2
                have k3 : Keep none_ wr w3 := keep_grown (k2.trans kb) own1b hg2 (Nat.le_refl _)
                have hsz3 := k3.size
                clear own1b hg2 hb2 sl1 kb hbs2 hsz2 x0 p82 hpl2
                go_wp2_with (at_builtin; refine wpList_append_sl _ rfl _ _ _ rfl wr.heap.size 9 row_str encS_len encS_one _ _ _ rfl own2 (some ⟨g, a, none⟩) (n - a) (co - a) (p2) rfl (sB.out _ k3) (by omega) hsz3 ?_)
                intro v3 w4 own3 hg3 hb3
                have k4 : Keep none_ wr w4 := keep_grown k3 own2 hg3 (Nat.le_refl _)
                have hsz4 := k4.size
                clear own2 hg3 hb3 k3 k2
                go_wp2_with fail
                obtain ⟨ks2, row2, hK2⟩ := hfin.out _ _ (0 + a + 1 + (n - a)) (by omega) (by simpa using own3)
                go_roundw
                case rel => exact ⟨i + 1, ks2, by go_num, by omega, row2, hK2, kk.trans (kq.trans k4)⟩
                case measure => simp [intOf]; omega
          · have hS2 : Hid (ks = keysS (L.take (i + 1)) []) := Lib.hid (by
              obtain ⟨h1, h2⟩ := hA.out
              rw [hstep.out]
              unfold addS
              rw [h2, if_pos rfl])
            clear hstep hA
            have rowq : KRow wr w.heap.size (.slice Ao ks.length co) ks := own_keep row kq (fun _ _ e => e)
            go_wp2_with fail
            go_roundw
            case rel => exact ⟨i + 1, ks, by go_num, by omega, rowq, hS2, kk.trans kq⟩
            case measure => simp [intOf]; omega
    · obtain rfl : i = L.length := by omega
      have hin : ¬ ((L.length : Int) < (L.length : Int)) := by omega
      have hfin : KeysAt w (keysS L []) (.returned (.slice Ao ks.length co)) w1 := ⟨_, rfl, by have := hK.out; rw [List.take_length] at this; rw [← this]; exact row, kk⟩
      clear row hK
      go_wp2_with fail
      go_ret
      exact hfin
end Go.Proofs.YtmioichjhiengaaGreat

/-
  Group.Len: as many as there are timers.
-/
namespace Go.Proofs.YtmioichjhiengaaGreat
open Go.RowKit

/-- So many timers are of keys that are left. -/
def restT (left : Lit → Bool) (T : List Timer) : Nat := (T.filter (fun t => left (.string t.key.data.toList))).length
theorem restT_none {left : Lit → Bool} (h : ∀ kl, left kl = false) (T : List Timer) : restT left T = 0 := by
  unfold restT
  rw [List.filter_eq_nil_iff.2 (fun t _ => by rw [h]; decide)]
  rfl
theorem restT_all {left : Lit → Bool} {T : List Timer} (h : ∀ t ∈ T, left (.string t.key.data.toList) = true) : restT left T = T.length := by
  unfold restT
  rw [List.filter_eq_self.2 (fun t ht => h t ht)]
theorem restT_step {left : Lit → Bool} {x : ByteArray} (hl : left (.string x.data.toList) = true) : ∀ T : List Timer, restT left T = restT (fun z => left z && !z.sameKey (.string x.data.toList)) T + (ofT x T).length
  | [] => rfl
  | t :: T => by
    have ih := restT_step hl T
    unfold restT ofT at ih ⊢
    have hsame : ∀ y : ByteArray, (Lit.string y.data.toList).sameKey (.string x.data.toList) = eqS y x := fun y => by
      show (y.data.toList == x.data.toList) = eqS y x
      unfold eqS
      rw [ByteArray.toList_eq, ByteArray.toList_eq]
    simp only [hsame] at ih ⊢
    cases he : eqS t.key x
    · cases hlt : left (.string t.key.data.toList)
      · simp only [List.filter_cons, hlt, he, Bool.false_and, Bool.false_eq_true, if_false]
        exact ih
      · simp only [List.filter_cons, hlt, he, Bool.true_and, Bool.not_false, Bool.false_eq_true, if_false, if_true, List.length_cons]
        omega
    · have e := eqS_iff.1 he
      have hlt : left (.string t.key.data.toList) = true := by rw [e]; exact hl
      simp only [List.filter_cons, hlt, he, Bool.true_and, Bool.not_true, Bool.false_eq_true, if_false, if_true, List.length_cons]
      omega
theorem map_val {w : World} {mp N : Nat} {F : Nat → Prop} {M : KM} (h : MapAt w mp N F M) : ∃ n D, w.ownsMap Tryz.prog 9 RVs mp n D ∧ Maps.size D ≤ n ∧ n ≤ N ∧
    (∀ (x : ByteArray) (v : Value), x.size ≤ maxLen → (∀ z, D.atKey (.string x.data.toList) z = .held v) → ∃ A m d, v = .slice A m d ∧ m = (M x).length) ∧ (∀ x : ByteArray, x.size ≤ maxLen → (Maps.has D (.string x.data.toList) = true ↔ M x ≠ [])) := by
  obtain ⟨n, f, hn, ⟨D, hD, -, h3⟩, h2⟩ := h
  refine ⟨n, D, hD, hD.size_le, hn, fun x v hx hat => ?_, fun x hx => ?_⟩
  · have h4 := h3 x hx
    rcases h2 x hx with ⟨h1, -⟩ | ⟨A, m, d, h1, -, hsl, -⟩
    · have h5 := hat (.map [])
      rw [h4.2, h1] at h5
      cases h5
    · have h5 := hat (.map [])
      rw [h4.2, h1] at h5
      have : Value.slice A m d = v := by simpa using h5
      exact ⟨A, m, d, this.symm, hsl.len⟩
  · rw [(h3 x hx).1]
    rcases h2 x hx with ⟨h1, h5⟩ | ⟨A, m, d, h1, hm, hsl, -⟩
    · rw [h1, h5]; simp
    · rw [h1]
      have := hsl.len
      constructor
      · intro _ e
        rw [e] at this
        simp at this
        omega
      · intro _
        rfl
set_option maxHeartbeats 1000000 in
theorem group_len {w : World} {gp mp tp N Q : Nat} {c : Config} {vq : Value} {X : Nat → Prop} {M : KM} {T : List Timer} (h : GrpAt w gp mp tp N Q c vq X M T) (hN : N ≤ 1000000) :
    Calls Tryz.prog 18 #[.pointer (some ⟨gp, 0, none⟩)] w fun e w' => e = .returned (.int .i64 T.length) ∧ Keep none_ w w' := by
  have c8 : w.cell? ⟨gp, 8, none⟩ = some (.map (some mp)) := At.cell h.self 8
  obtain ⟨n, D, hown, -, -, hval, hhas⟩ := map_val h.map
  have hin : ∀ t ∈ T, Maps.has D (.string t.key.data.toList) = true := fun t ht => by
    have hk := h.inv.key t ht
    refine (hhas t.key hk).2 (fun e => ?_)
    obtain ⟨p, hp, -⟩ := (h.inv.rel t hk).1 ht
    rw [e] at hp
    cases hp
  have hT := h.inv.tim
  have hof := Lib.hid (fun k => ofT_len h.inv h.tim.nodup k)
  have hall := Lib.hid (restT_all hin)
  replace hval := Lib.hid hval
  clear h hhas hin
  go_enter Tryz.func18, Tryz.ntmps18
  go_wp2_with (first | (at_range; refine wpList_range_own _ rfl _ 89 rfl 9 _ str_key Tryz.underlying89 RVs mp n D rfl hown ?_; intro w0 hrg0 hg0 hs0) | fail)
  have k0 : Keep none_ w w0 := Keep.grown (Keep.refl _ _) hg0 (fun k hk _ => by cases hk)
  clear hown c8 hg0 hs0
  go_frame
  go_loopw [3, 5] (fun nv _ wr => ∃ (left : Lit → Bool) (cnt S : Nat), nv = .int .i64 S ∧ Hid (S + restT left T = T.length) ∧ wr.ranges Tryz.prog 9 RVs mp w.heap.size n D left cnt ∧ Keep none_ w wr) (fun _ _ wr => wr.rangeLeft mp w.heap.size)
  case atStart => exact ⟨_, _, 0, rfl, Lib.hid (by rw [hall.out]; omega), hrg0, k0⟩
  case round =>
    clear hrg0 k0
    obtain ⟨left, cnt, S, rfl, hS, hrg, kk⟩ := hrel
    go_wp2_with (first | (at_next; refine wpList_next_ranges _ rfl _ rfl 9 str_key RVs (fun x : ByteArray => Value.string x) (fun x : Value => x) (fun key kl hk => (key_str_inv hk).imp fun x hx => hx.1) (fun v y _ => ⟨v, rfl⟩) mp w.heap.size n D _ _ rfl hrg ?_ ?_) | fail)
    · intro _ hl
      have hfin : S = T.length := by have := hS.out; rw [restT_none hl] at this; omega
      subst hfin
      clear hrg hS
      go_wp2_with fail
      go_ret
      exact ⟨rfl, kk⟩
    · intro x c kl y ps w1 cnt1 hk hl hR hat hrg1 hlt hg1 hs1 hen
      obtain ⟨x', e1, e2, e3⟩ := key_str_inv hk
      obtain rfl : x = x' := by simpa using e1
      subst e2
      obtain ⟨rfl, rfl⟩ : .held c = y ∧ [] = ps := by unfold RVs at hR; simpa using hR
      obtain ⟨A, m, d, rfl, hm⟩ := hval.out x c e3 hat
      have hst := restT_step hl T
      rw [hof.out x] at hst
      have hS2 : Hid (S + m + restT (fun z => left z && !z.sameKey (.string x.data.toList)) T = T.length) := Lib.hid (by have := hS.out; omega)
      have hb : S + m ≤ N := by have := hS2.out; omega
      have kk1 : Keep none_ w w1 := Keep.grown kk hg1 (fun k hk hl => by have : w.heap.size = k := by simpa using hk
                                                                         omega)
      have hle : w1.rangeLeft mp w.heap.size < wr.rangeLeft mp w.heap.size := by rw [hrg1.left_eq, hrg.left_eq]; exact hlt
      have hen2 : (Instr.entry (.pointer (some ⟨w.heap.size, 0, none⟩))).run Tryz.prog w1 = .ok (.tuple #[.string x, .slice A m d]) w1 := hen
      replace hrg1 := Lib.hid hrg1
      replace hle := Lib.hid hle
      clear hrg hS hst hm hk hl hR hat hg1 hs1 hen e1 hval hof hall hlt
      go_wp2_with fail
      go_roundw
      case rel => exact ⟨_, _, S + m, by go_num, hS2, hrg1.out, kk1⟩
      case measure => exact hle.out
end Go.Proofs.YtmioichjhiengaaGreat
