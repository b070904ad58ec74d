/-
  Texts of one kind, one behind the other.
-/
import Derived.Test.YtmioichjhiengaaGreatBaseGrp
import Derived.Test.YtmioichjhiengaaGreatRefFine
import Derived.Test.YtmioichjhiengaaGreatBaseOf
import Derived.Test.YtmioichjhiengaaGreatBaseModel
set_option linter.unusedSimpArgs false
set_option linter.unusedVariables false
/-
  What GroupOnce keeps, round by round (plain).
-/
namespace Go.Proofs.YtmioichjhiengaaGreat
open Go.RowKit

def kK : ByteArray := ⟨#[107]⟩
theorem kK_ok : kK.size ≤ maxLen := by show 1 ≤ maxLen; unfold maxLen; omega
/-- What went out, and what is there, behind some rounds. -/
structure Once (late mark : Int) (O : List Pane) (M : KM) (many : Int) : Prop where
  key : ∀ p ∈ O, p.key = kK
  fine : O.Pairwise (fun a b => a.span.e ≤ b.span.e ∧ a.span ≠ b.span)
  over : ∀ p ∈ O, p.span.e + late ≤ mark
  lone : ∀ k, k ≠ kK → M k = []
  open_ : ∀ p ∈ M kK, ¬ p.span.e + late ≤ mark
  km : KMOK M
  pos : ∀ p ∈ O ++ M kK, 1 ≤ p.agg.count
  all : cnt (O ++ M kK) = many
theorem cnt_app (a b : List Pane) : cnt (a ++ b) = cnt a + cnt b := by simp [cnt]
theorem Once.zero (late mark : Int) : Once late mark [] (fun _ => []) 0 :=
  ⟨fun p hp => (by cases hp), List.Pairwise.nil, fun p hp => (by cases hp), fun _ _ => rfl, fun p hp => (by cases hp), ⟨fun _ => List.Pairwise.nil, fun _ p hp => (by cases hp)⟩, fun p hp => (by cases hp), rfl⟩
theorem tlt_fine {a b : Pane} (hk : a.key = b.key) (h : tlt ⟨a.key, a.span⟩ ⟨b.key, b.span⟩ = true) : a.span.e ≤ b.span.e ∧ a.span ≠ b.span := by
  refine ⟨?_, fun e => ?_⟩
  · rw [tlt_eq] at h
    by_cases e : a.span.e ≠ b.span.e
    · rw [if_pos e] at h
      simp only [decide_eq_true_eq] at h
      omega
    · omega
  · rw [hk, e, tlt_strict.irr] at h
    cases h
theorem Once.settle {late mark mark' : Int} {O O1 : List Pane} {M M1 : KM} {many : Int} (h : Once late mark O M many) (hm : mark ≤ mark') (hs : Steps late mark' M O1 M1) (hc : Calm late mark' M1) : Once late mark' (O ++ O1) M1 many := by
  have hout := hs.out h.km
  have hkey : ∀ p ∈ O1, p.key = kK := fun p hp => by
    by_cases e : p.key = kK
    · exact e
    · have := (hout p hp).2.1
      rw [h.lone _ e] at this
      cases this
  have hov : ∀ p ∈ O1, p.span.e + late ≤ mark' := fun p hp => by
    have := (hout p hp).2.2
    simpa [Span.overB] using this
  have hsub := hs.sub h.km
  have hrest : ∀ p ∈ O1, p ∈ M kK := fun p hp => by
    have := (hout p hp).2.1
    rwa [hkey p hp] at this
  refine ⟨fun p hp => ?_, ?_, fun p hp => ?_, fun k hk => ?_, fun p hp => ?_, hs.km h.km, fun p hp => ?_, ?_⟩
  · rcases List.mem_append.1 hp with hp | hp
    · exact h.key p hp
    · exact hkey p hp
  · rw [List.pairwise_append]
    refine ⟨h.fine, ?_, fun a ha b hb => ?_⟩
    · refine (hs.rises h.km).imp_of_mem ?_
      intro a b ha hb hab
      exact tlt_fine ((hkey a ha).trans (hkey b hb).symm) hab
    · have h1 := h.over a ha
      have h2 := h.open_ b (hrest b hb)
      refine ⟨by omega, fun e => ?_⟩
      rw [e] at h1
      exact h2 h1
  · rcases List.mem_append.1 hp with hp | hp
    · have := h.over p hp; omega
    · exact hov p hp
  · have := hsub k
    rw [h.lone k hk] at this
    exact List.sublist_nil.1 this
  · have := hc kK p kK_ok hp
    simpa [Span.overB] using this
  · rcases List.mem_append.1 hp with hp | hp
    · rcases List.mem_append.1 hp with hp | hp
      · exact h.pos p (List.mem_append.2 (.inl hp))
      · exact h.pos p (List.mem_append.2 (.inr (hrest p hp)))
    · exact h.pos p (List.mem_append.2 (.inr ((hsub kK).subset hp)))
  · have h1 := hs.counts h.km kK
    have h2 : O1.filter (fun p => eqS p.key kK) = O1 := List.filter_eq_self.2 (fun p hp => eqS_iff.2 (hkey p hp))
    rw [h2] at h1
    have h3 := h.all
    rw [cnt_app] at h3
    rw [cnt_app, cnt_app]
    omega
theorem putP_mem {l : List Pane} {key : ByteArray} {s : Span} {v : Int} {p : Pane} (hp : p ∈ putP l key s v) : p.span = s ∨ ∃ q ∈ l, q.span = p.span := by
  cases hb : isP l s
  · have he : putP l key s v = insL l (lbP l s) ⟨key, s, Agg.one v⟩ := by unfold putP; rw [hb]
    rw [he] at hp
    rcases insL_mem.1 hp with rfl | hp
    · exact .inl rfl
    · exact .inr ⟨p, hp, rfl⟩
  · obtain ⟨hl, e⟩ := isP_at hb
    have he : putP l key s v = l.set (lbP l s) { l[lbP l s] with agg := l[lbP l s].agg.merge (Agg.one v) } := by unfold putP; rw [hb, List.getElem?_eq_getElem hl]
    rw [he] at hp
    rcases List.mem_or_eq_of_mem_set hp with hp | rfl
    · exact .inr ⟨p, hp, rfl⟩
    · exact .inl e
theorem Once.put {kind late mark : Int} {O : List Pane} {M : KM} {many : Int} (h : Once late mark O M many) (hmany : many < 1000000) (s : Span) (hss : s.s < s.e) (v : Int) (ho : s.overB late mark = false) (hap : kind = 2 → Apart (M kK)) : Once late mark O (putM kind M kK s v) (many + 1) := by
  have hs : ¬ s.e + late ≤ mark := by simpa [Span.overB] using ho
  have hM : putM kind M kK s v kK = (if kind = 2 then mergeP kK s v (M kK) else putP (M kK) kK s v) := by unfold putM setM; rw [if_pos rfl]
  have hMo : ∀ k, k ≠ kK → putM kind M kK s v k = M k := fun k hk => by unfold putM setM; rw [if_neg hk]
  have hall := h.all
  rw [cnt_app] at hall
  have hO0 : 0 ≤ cnt O := cnt_nonneg (fun p hp => h.pos p (List.mem_append.2 (.inl hp)))
  have hcn : Counts (M kK) (cnt (M kK)) (sms (M kK)) := ⟨fun p hp => h.pos p (List.mem_append.2 (.inr hp)), rfl, rfl⟩
  have hnew : Counts (putM kind M kK s v kK) (cnt (M kK) + 1) (sms (M kK) + v) := by
    rw [hM]
    split
    · exact counts_merge hcn (by omega) kK s
    · exact counts_put hcn (by omega) kK s
  refine ⟨h.key, h.fine, h.over, fun k hk => by rw [hMo k hk]; exact h.lone k hk, fun p hp => ?_, ⟨fun k => ?_, fun k p hp => ?_⟩, fun p hp => ?_, ?_⟩
  · rw [hM] at hp
    split at hp
    · rcases insL_mem.1 hp with rfl | hp
      · have := (fold_span (metP (M kK) s) ⟨kK, s, Agg.one v⟩).2.1
        show ¬ (accP kK s v (M kK)).span.e + late ≤ mark
        have h9 : s.e ≤ (accP kK s v (M kK)).span.e := this
        omega
      · exact h.open_ p (List.mem_filter.1 hp).1
    · rcases putP_mem hp with e | ⟨q, hq, e⟩
      · rw [e]; exact hs
      · rw [← e]; exact h.open_ q hq
  · by_cases hk : k = kK
    · subst hk
      rw [hM]
      split
      · rename_i e
        exact (merge_apart (hap e) kK v hss).sorted
      · exact put_sorted (h.km.srt kK) kK s v
    · rw [hMo k hk]; exact h.km.srt k
  · by_cases hk : k = kK
    · subst hk
      rw [hM] at hp
      split at hp
      · rcases insL_mem.1 hp with rfl | hp
        · exact fold_key _ _
        · exact h.km.key kK p (List.mem_filter.1 hp).1
      · exact putP_key (h.km.key kK) p hp
    · rw [hMo k hk] at hp; exact h.km.key k p hp
  · rcases List.mem_append.1 hp with hp | hp
    · exact h.pos p (List.mem_append.2 (.inl hp))
    · exact hnew.pos p hp
  · rw [cnt_app, hnew.all]
    omega
theorem put_apart {kind : Int} {M : KM} {s : Span} {v : Int} (hss : s.s < s.e) (hap : kind = 2 → Apart (M kK)) : kind = 2 → Apart (putM kind M kK s v kK) := by
  intro e
  have hM : putM kind M kK s v kK = mergeP kK s v (M kK) := by unfold putM setM; rw [if_pos rfl, if_pos e]
  rw [hM]
  exact merge_apart (hap e) kK v hss
theorem Once.take {kind late mark v : Int} {O : List Pane} : ∀ (l : List Span) {M : KM} {many : Int}, Once late mark O M many → many + l.length < 1000000 → (∀ s ∈ l, s.s < s.e) → (kind = 2 → Apart (M kK)) → Once late mark O (takeM kind late mark kK v l M) (many + openN late mark l)
  | [], M, many, h, _, _, _ => by simpa [openN, takeM] using h
  | s :: l, M, many, h, hm, hs, hap => by
    have hl : ((s :: l).length : Int) = (l.length : Int) + 1 := by simp
    cases ho : s.overB late mark
    · have e1 : takeM kind late mark kK v (s :: l) M = takeM kind late mark kK v l (putM kind M kK s v) := by
        show takeM kind late mark kK v l (if s.overB late mark then M else putM kind M kK s v) = _
        rw [ho]; rfl
      have e2 : openN late mark (s :: l) = openN late mark l + 1 := by unfold openN; rw [List.filter_cons_of_pos (by simp [ho])]; rfl
      rw [e1, e2]
      have := Once.take (v := v) l (h.put (by omega) s (hs s (by simp)) v ho hap) (by omega) (fun x hx => hs x (by simp [hx])) (put_apart (hs s (by simp)) hap)
      have e3 : many + ((openN late mark l + 1 : Nat) : Int) = many + 1 + (openN late mark l : Int) := by omega
      rw [e3]
      exact this
    · have e1 : takeM kind late mark kK v (s :: l) M = takeM kind late mark kK v l M := by
        show takeM kind late mark kK v l (if s.overB late mark then M else putM kind M kK s v) = _
        rw [ho]; rfl
      have e2 : openN late mark (s :: l) = openN late mark l := by unfold openN; rw [List.filter_cons_of_neg (by simp [ho])]
      rw [e1, e2]
      exact Once.take l h (by omega) (fun x hx => hs x (by simp [hx])) hap
theorem Once.fineP {late mark : Int} {O : List Pane} {M : KM} {many : Int} (h : Once late mark O M many) : FineP O := by
  intro i j hi hj
  have := List.pairwise_iff_getElem.1 h.fine j i (by omega) hi hj
  unfold badP
  have h1 : decide (O[i].span.e < (O[j]'(by omega)).span.e) = false := by
    rw [decide_eq_false_iff_not]
    omega
  have h2 : (O[j]'(by omega)).span.eqB O[i].span = false := by
    cases e : (O[j]'(by omega)).span.eqB O[i].span
    · rfl
    · exact absurd ((Span.eqB_iff _ _).1 e) this.2
  rw [h1, h2]
  simp
theorem openN_le (late mark : Int) (l : List Span) : openN late mark l ≤ l.length := List.length_filter_le _ _
end Go.Proofs.YtmioichjhiengaaGreat

/-
  What ModelStill keeps, call by call (plain).
-/
namespace Go.Proofs.YtmioichjhiengaaGreat
open Go.RowKit

/-- What went out: of each key by rising Ends; and nothing that is there is over. -/
structure StillSt (late mark : Int) (O : List Pane) (M : KM) : Prop where
  fine : O.Pairwise (fun a b => a.key = b.key → a.span.e ≤ b.span.e ∧ a.span ≠ b.span)
  over : ∀ p ∈ O, p.span.e + late ≤ mark
  calm : Calm late mark M
theorem StillSt.zero (late mark : Int) : StillSt late mark [] (fun _ => []) :=
  ⟨List.Pairwise.nil, fun p hp => (by cases hp), fun k q _ hq => (by cases hq)⟩
theorem StillSt.settle {late mark mark' : Int} {O O1 : List Pane} {M M1 : KM} (h : StillSt late mark O M) (hk : KMOK M) (hm : mark ≤ mark') (hs : Steps late mark' M O1 M1) (hc : Calm late mark' M1) : StillSt late mark' (O ++ O1) M1 := by
  have hout := hs.out hk
  refine ⟨?_, fun p hp => ?_, hc⟩
  · rw [List.pairwise_append]
    refine ⟨h.fine, ?_, fun a ha b hb _ => ?_⟩
    · refine (hs.rises hk).imp ?_
      intro a b hab e
      exact tlt_fine e hab
    · have h1 := h.over a ha
      obtain ⟨h2, h3, -⟩ := hout b hb
      have h4 := h.calm b.key b h2 h3
      have h5 : ¬ b.span.e + late ≤ mark := by simpa [Span.overB] using h4
      refine ⟨by omega, fun e => ?_⟩
      rw [e] at h1
      exact h5 h1
  · rcases List.mem_append.1 hp with hp | hp
    · have := h.over p hp; omega
    · have := (hout p hp).2.2
      simpa [Span.overB] using this
theorem Calm.put {kind late mark : Int} {M : KM} (h : Calm late mark M) (key : ByteArray) (hkey : key.size ≤ maxLen) {s : Span} (v : Int) (ho : s.overB late mark = false) : Calm late mark (putM kind M key s v) := by
  intro k q hk hq
  by_cases e : k = key
  · subst e
    have hM : putM kind M k s v k = (if kind = 2 then mergeP k s v (M k) else putP (M k) k s v) := by unfold putM setM; rw [if_pos rfl]
    rw [hM] at hq
    split at hq
    · rcases insL_mem.1 hq with rfl | hq
      · have := (fold_span (metP (M k) s) ⟨k, s, Agg.one v⟩).2.1
        have h9 : s.e ≤ (accP k s v (M k)).span.e := this
        have hs : ¬ s.e + late ≤ mark := by simpa [Span.overB] using ho
        have h8 : ¬ (accP k s v (M k)).span.e + late ≤ mark := by omega
        simpa [Span.overB] using h8
      · exact h k q hk (List.mem_filter.1 hq).1
    · rcases putP_mem hq with e | ⟨p, hp, e⟩
      · rw [e]; exact ho
      · rw [← e]; exact h k p hk hp
  · have hM : putM kind M key s v k = M k := by unfold putM setM; rw [if_neg e]
    rw [hM] at hq
    exact h k q hk hq
theorem Calm.take {kind late mark v : Int} {key : ByteArray} (hkey : key.size ≤ maxLen) : ∀ (l : List Span) {M : KM}, Calm late mark M → Calm late mark (takeM kind late mark key v l M)
  | [], _, h => h
  | s :: l, M, h => by
    show Calm late mark (takeM kind late mark key v l (if s.overB late mark then M else putM kind M key s v))
    refine Calm.take hkey l ?_
    cases ho : s.overB late mark
    · exact h.put key hkey v ho
    · exact h
theorem takeM_none {kind late mark v : Int} {key : ByteArray} : ∀ (l : List Span) {M : KM}, openN late mark l = 0 → takeM kind late mark key v l M = M
  | [], _, _ => rfl
  | s :: l, M, h => by
    cases ho : s.overB late mark
    · unfold openN at h
      rw [List.filter_cons_of_pos (by simp [ho])] at h
      simp at h
    · have e1 : takeM kind late mark key v (s :: l) M = takeM kind late mark key v l M := by
        show takeM kind late mark key v l (if s.overB late mark then M else putM kind M key s v) = _
        rw [ho]; rfl
      rw [e1]
      refine takeM_none l ?_
      unfold openN at h ⊢
      rwa [List.filter_cons_of_neg (by simp [ho])] at h
theorem Steps.calm {late mark : Int} {O : List Pane} {M M1 : KM} (h : Steps late mark M O M1) (hc : Calm late mark M) : O = [] ∧ M1 = M := by
  cases O with
  | nil => exact ⟨rfl, h⟩
  | cons p O =>
    have h1 := h.1
    have := hc p.key p h1.key h1.mem
    rw [h1.over] at this
    cases this
/-- A call's effect on what is kept. -/
theorem StillSt.do {c : Config} {x : Call} {M M2 : KM} {mark mark2 code : Int} {closed closed2 : Bool} {R O O1 : List Pane} (h : StillSt c.late mark O M) (hk : KMOK M) (hx : x.key.size ≤ maxLen) (hd : DoRel c x M mark closed code R O1 M2 mark2 closed2) :
    StillSt c.late mark2 (O ++ O1) M2 ∧ mark ≤ mark2 ∧ (code ≠ 0 ∨ x.op = 6 → O1 = [] ∧ M2 = M ∧ mark2 = mark ∧ R = []) := by
  rcases hd with ⟨-, -, rfl, rfl, rfl, rfl, -⟩ | ⟨-, -, -, rfl, rfl, rfl, rfl, -⟩ | ⟨-, -, -, -, -, rfl, rfl, rfl, rfl, -⟩ | ⟨-, -, hky, rfl, -, M1, hs, hc, hr⟩ | ⟨-, -, h3, hlt, rfl, rfl, rfl, -, hs, hc⟩ | ⟨-, -, -, -, -, rfl, rfl, rfl, rfl, -⟩
  · exact ⟨by rwa [List.append_nil], Int.le_refl _, fun _ => ⟨rfl, rfl, rfl, rfl⟩⟩
  · exact ⟨by rwa [List.append_nil], Int.le_refl _, fun _ => ⟨rfl, rfl, rfl, rfl⟩⟩
  · exact ⟨by rwa [List.append_nil], Int.le_refl _, fun _ => ⟨rfl, rfl, rfl, rfl⟩⟩
  · obtain ⟨rfl, rfl⟩ := hs.calm h.calm
    have h6 : x.op ≠ 6 := fun e => by
      unfold Call.keyedB at hky
      rw [e] at hky
      exact absurd hky (by decide)
    rw [List.append_nil]
    rcases hr with ⟨-, rfl, ⟨-, rfl, rfl⟩ | ⟨l, -, rfl, rfl⟩⟩ | ⟨-, rfl, rfl, rfl⟩
    · exact ⟨h, Int.le_refl _, fun _ => ⟨rfl, rfl, rfl, rfl⟩⟩
    · refine ⟨⟨h.fine, h.over, h.calm.take hx l⟩, Int.le_refl _, fun e => ⟨rfl, ?_, rfl, rfl⟩⟩
      have h0 : codeG c.late mark2 l ≠ 0 := e.resolve_right h6
      unfold codeG at h0
      exact takeM_none l (by
        by_cases e2 : openN c.late mark2 l = 0
        · exact e2
        · rw [if_neg e2] at h0; exact absurd rfl h0)
    · exact ⟨h, Int.le_refl _, fun e => absurd (e.resolve_right h6) (by simp)⟩
  · refine ⟨h.settle hk (by omega) hs hc, by omega, fun e => ?_⟩
    rcases e with e | e
    · exact absurd rfl e
    · rw [h3] at e; exact absurd e (by decide)
  · exact ⟨by rwa [List.append_nil], Int.le_refl _, fun _ => ⟨rfl, rfl, rfl, rfl⟩⟩
theorem DoRel.len {N : Nat} {T : List Timer} {c : Config} {x : Call} {M M2 : KM} {mark mark2 code : Int} {closed closed2 : Bool} {R O1 : List Pane} (hd : DoRel c x M mark closed code R O1 M2 mark2 closed2) (hg : GrpOK N M T) (hn : T.Nodup) : O1.length ≤ N := by
  have ht := hg.tim
  rcases hd with ⟨-, -, -, rfl, -⟩ | ⟨-, -, -, -, rfl, -⟩ | ⟨-, -, -, -, -, -, rfl, -⟩ | ⟨-, -, -, -, -, M1, hs, -⟩ | ⟨-, -, -, -, -, -, -, -, hs, -⟩ | ⟨-, -, -, -, -, -, rfl, -⟩
  · exact Nat.zero_le _
  · exact Nat.zero_le _
  · exact Nat.zero_le _
  · have := steps_len hs hg hn; omega
  · have := steps_len hs hg hn; omega
  · exact Nat.zero_le _
theorem StillSt.fineP {late mark : Int} {O : List Pane} {M : KM} (h : StillSt late mark O M) : FineP O := by
  intro i j hi hj
  have := List.pairwise_iff_getElem.1 h.fine j i (by omega) hi hj
  unfold badP
  cases hk : (O[j]'(by omega)).key.toList == O[i].key.toList
  · rfl
  · have hk2 : (O[j]'(by omega)).key = O[i].key := by
      have h2 : (O[j]'(by omega)).key.toList = O[i].key.toList := by simpa using hk
      exact toList_inj h2
    have h9 := this hk2
    have h1 : decide (O[i].span.e < (O[j]'(by omega)).span.e) = false := by
      rw [decide_eq_false_iff_not]
      omega
    have h2 : (O[j]'(by omega)).span.eqB O[i].span = false := by
      cases e : (O[j]'(by omega)).span.eqB O[i].span
      · rfl
      · exact absurd ((Span.eqB_iff _ _).1 e) h9.2
    rw [h1, h2]
    rfl
end Go.Proofs.YtmioichjhiengaaGreat
