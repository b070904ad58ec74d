/-
  The reference's Order of histories: the same list.
-/
import Derived.Test.YtlnlbegcnhelmaaHistOrder
namespace Go.Proofs.Ytlnlbegcnhelmaa
open Go.RowKit

theorem Sl.takeR {α : Type} {enc : α → List Value} {k : Nat} {w : World} {A : Option Addr} {n c : Nat} {xs : List α} (h : Sl enc k w A n c xs) (i : Nat) (hi : i ≤ n) : Sl enc k w A i c (xs.take i) := by
  obtain ⟨h1, h2, h3, h4⟩ := h
  refine ⟨by rw [List.length_take, ← h1, Nat.min_eq_left hi], by omega, h3, fun hn => ?_⟩
  obtain ⟨b, off, rfl, hb, hc⟩ := h4 (by omega)
  refine ⟨b, off, rfl, hb, fun j hj l hl => ?_⟩
  rw [List.length_take] at hj
  rw [List.getElem_take]
  exact hc j (by omega) l hl
theorem Sl.zeroR {α : Type} {enc : α → List Value} {k : Nat} {w : World} {A : Option Addr} {n c : Nat} {xs : List α} (hn : n = 0) (hx : xs = []) (hc : c ≤ maxLen) : Sl enc k w A n c xs := by
  subst hn hx
  exact ⟨rfl, Nat.zero_le _, hc, fun h => absurd h (Nat.lt_irrefl _)⟩
/-- The new one behind the last one that is not behind it. -/
theorem insert_at {l : List Event} {S : List Int} {i : Nat} (sS : SortedC (cfE l) S) (htag : ∀ x ∈ S, x.toNat < i) {at_ : Nat} (hat : at_ ≤ S.length)
    (h2 : ∀ p (hp : p < S.length), at_ ≤ p → ptOf l (i : Int) < ptOf l S[p]) (h1 : ∀ x, 0 < at_ → S[at_ - 1]? = some x → ptOf l x ≤ ptOf l (i : Int)) : SortedC (cfE l) (S.take at_ ++ (i : Int) :: S.drop at_) := by
  refine insert_ok (weak_cfE l) (by rw [List.take_append_drop]; exact sS) (fun x hx => by simpa using htag x (List.mem_of_mem_take hx)) (fun x hx => ?_) (fun y hy => ?_)
  · obtain ⟨p, hp, rfl⟩ := List.getElem_of_mem hx
    rw [List.length_drop] at hp
    rw [List.getElem_drop, ltC_cfE, decide_eq_true_eq]
    exact h2 _ (by omega) (by omega)
  · obtain ⟨h0, hy⟩ := getLast_take hat hy
    rw [ltC_cfE, decide_eq_false_iff_not]
    have := h1 y h0 hy
    omega
theorem idxs_tag {l : List Event} {k : Nat} {x : Int} (hx : x ∈ idxs l k) : ∃ i : Nat, x = i ∧ i < k := by
  unfold idxs at hx
  rw [List.mem_map] at hx
  obtain ⟨i, hi, rfl⟩ := hx
  exact ⟨i, rfl, List.mem_range.1 (List.mem_filter.1 hi).1⟩

set_option maxHeartbeats 4000000 in
set_option maxRecDepth 100000 in
theorem ref12_order {w : World} {A : Option Addr} {c : Nat} {l : List Event} (h : Evs w A c l) (hlen : l.length ≤ 100) :
    Calls Try.prog 65 #[.slice A l.length c] w (OrderDone w l) := by
  have hnc := h.2.2.1
  have hlc := h.2.1
  unfold maxLen at hnc
  go_enter Try.func65, Try.ntmps65
  go_wp2_with fail
  go_loopw [3, 4, 5, 6] (fun ov iv _ _ wr => ∃ (i : Nat) (S : List Int), iv = .int .i64 i ∧ i ≤ l.length ∧ wr.ownsRow w.heap.size 3 1 ov S.length (flat encI S) ∧ Hid (S.Perm (idxs l i)) ∧ Hid (SortedC (cfE l) S) ∧ (S = [] → ov = .slice none 0 0) ∧ Keep none_ w wr)
    (fun _ iv _ _ _ => l.length - (intOf iv).toNat)
  case atStart => exact ⟨0, [], rfl, Nat.zero_le _, World.ownsRow_nil _ _ _ _, Lib.hid (List.Perm.refl _), Lib.hid List.Pairwise.nil, fun _ => rfl, Keep.refl _ _⟩
  case round =>
    obtain ⟨i, S, rfl, hi, own, pS, sS, hnil, kk⟩ := hrel
    by_cases hlt : i < l.length
    · obtain ⟨b, off, rfl, hbl, -⟩ := h.at_ (by omega)
      have ci : wr.cell? ⟨b, off + i * 14 + 12, none⟩ = some (.int .i64 l[i].point) := (h.keep kk Off.none_).cellk hlt 12 (by omega)
      have hpi : ptOf l (i : Int) = l[i].point := by simp [ptOf, List.getElem?_eq_getElem hlt]
      have hsu := idxs_succ l i
      rw [hpi] at hsu
      generalize l[i].point = pt at *
      obtain ⟨vA, vc, rfl⟩ := own_form own
      have hSl : S.length ≤ 100 := by have := pS.out.length_eq; have := idxs_len l i; omega
      by_cases hp : pt = 0
      · have hpb : (pt == 0) = true := by simp [hp]
        rw [if_pos hp] at hsu
        replace hsu := Lib.hid hsu
        clear hp
        go_wp2_with fail
        go_roundw
        case rel => exact ⟨i + 1, S, by go_num, by omega, own, Lib.hid (by rw [hsu.out]; exact pS.out), sS, hnil, kk⟩
        case measure => simp [intOf]; omega
      · have hpb : (pt == 0) = false := by simp [hp]
        rw [if_neg hp] at hsu
        replace hsu := Lib.hid hsu
        clear hp
        go_wp2_with fail
        go_loopw [5] (fun av wr => ∃ (a : Nat), av = .int .i64 a ∧ a ≤ S.length ∧ Hid (∀ p (hp : p < S.length), a ≤ p → ptOf l (i : Int) < ptOf l S[p]) ∧ Keep none_ w wr ∧ wr.ownsRow w.heap.size 3 1 (.slice vA S.length vc) S.length (flat encI S))
          (fun av _ => (intOf av).toNat)
        case atStart => exact ⟨S.length, rfl, Nat.le_refl _, Lib.hid (fun p hp h9 => by omega), kk, own⟩
        case round =>
          clear own kk ci
          obtain ⟨a, rfl, ha, h2, kk, own⟩ := hrel
          have hlen0 := own_len encI_len (by decide) own
          obtain ⟨ι, hnn, f, hf0, hfk, hfa⟩ := class_of none_ wr
          by_cases ha1 : 0 < a
          · have hSpos : 0 < S.length := by omega
            obtain ⟨g, cap, hv9, hbg, hgl, hgc, hgm⟩ := own_some own hSpos
            obtain ⟨a', ha'⟩ : ∃ a', a' = a - 1 := ⟨_, rfl⟩
            have ea : (a : Int) - 1 = (a' : Int) := by omega
            have ha'S : a' < S.length := by omega
            obtain ⟨jx, ej, hjx⟩ := idxs_tag (pS.out.mem_iff.1 (List.getElem_mem ha'S))
            have hjl : jx < l.length := by omega
            have hpj : ptOf l (jx : Int) = l[jx].point := by simp [ptOf, List.getElem?_eq_getElem hjl]
            injection hv9 with e1 e2 e3
            subst e1 e3
            have cj : ∀ n, (f n).cell? ⟨g, a', none⟩ = some (.int .i64 (jx : Int)) := fun n => (show IRow (f n) w.heap.size g S.length vc S from own_keep own (hfk n) (fun _ _ e => e)).cell (by rw [List.getElem?_eq_getElem ha'S, ej])
            have cpj : ∀ n, (f n).cell? ⟨b, off + jx * 14 + 12, none⟩ = some (.int .i64 l[jx].point) := fun n => (h.keep (kk.trans (hfk n)) Off.none_).cellk hjl 12 (by omega)
            have cpi : ∀ n, (f n).cell? ⟨b, off + i * 14 + 12, none⟩ = some (.int .i64 pt) := fun n => by
              have := (h.keep (kk.trans (hfk n)) Off.none_).cellk hlt 12 (by omega)
              rw [this]
              have h9 := hpi
              simp only [ptOf, Int.toNat_natCast, List.getElem?_eq_getElem hlt] at h9
              simp [Event.cells, h9]
            have hjI : (jx : Int) < (l.length : Int) := by omega
            have hj0 := Int.natCast_nonneg jx
            have haI' : (a' : Int) < (S.length : Int) := by omega
            have ha'0 := Int.natCast_nonneg a'
            have ha0' : (0 : Int) < (a : Int) := by omega
            generalize l[jx].point = pj at *
            replace ha' := Lib.hid ha'
            replace ej := Lib.hid ej
            replace hpj := Lib.hid hpj
            by_cases hgt : pt < pj
            · go_wp2_with fail
              refine wp_region_class f (by kernel_rfl) (by kernel_rfl) hf0 ?_
              repeat (go_big_quiet_step (fail))
              refine wpQuiet_nil ?_
              rintro _ ⟨nn, rfl⟩
              replace kk := kk.trans (hfk nn)
              replace own := own_keep own (hfk nn) (fun _ _ e => e)
              clear hf0 hfk hfa hlen0 cj cpj cpi
              go_wp2_with fail
              go_roundw
              case rel => exact ⟨a', by go_num, by omega, Lib.hid (fun p hp h9 => by
                by_cases e : p = a'
                · subst e
                  rw [ej.out, hpj.out, hpi]; exact hgt
                · exact h2.out p hp (by have := ha'.out; omega)), kk, own⟩
              case measure => have := ha'.out; simp [intOf]; omega
            · have h1 : Hid (∀ x, 0 < a → S[a - 1]? = some x → ptOf l x ≤ ptOf l (i : Int)) := Lib.hid (fun x _ hx => by
                have := ha'.out
                rw [← this, List.getElem?_eq_getElem ha'S, ej.out] at hx
                rw [← Option.some.inj hx, hpj.out, hpi]; omega)
              go_wp2_with fail
              refine wp_region_class f (by kernel_rfl) (by kernel_rfl) hf0 ?_
              repeat (go_big_quiet_step (fail))
              refine wpQuiet_nil ?_
              rintro _ ⟨nn, rfl⟩
              replace kk := kk.trans (hfk nn)
              replace own := own_keep own (hfk nn) (fun _ _ e => e)
              clear hf0 hfk hfa hlen0 cj cpj cpi
              generalize f nn = wr at *
              have hT : Hid ((S.take a ++ (i : Int) :: S.drop a).Perm (idxs l (i + 1))) := Lib.hid (by
                rw [hsu.out]
                refine List.perm_middle.trans ?_
                rw [List.take_append_drop]
                exact (List.Perm.cons _ pS.out).trans (List.perm_append_comm (l₁ := [(i : Int)])))
              have hO : Hid (SortedC (cfE l) (S.take a ++ (i : Int) :: S.drop a)) := Lib.hid (insert_at sS.out (fun x hx => by
                obtain ⟨q, rfl, hq⟩ := idxs_tag (pS.out.mem_iff.1 hx)
                simpa using hq) ha h2.out (fun x h0 hx => h1.out x h0 hx))
              have hlen9 : (S.take a ++ (i : Int) :: S.drop a).length = a + 1 + (S.length - a) := by rw [List.length_append, List.length_cons, List.length_take, List.length_drop]; omega
              clear h1 h2
              have slq := Sl.of_own encI_len (by decide) own
              have hvc := slq.2.1
              have hvm := slq.2.2.1
              unfold maxLen at hvm
              have ha0 := Int.natCast_nonneg a
              have haI : (a : Int) ≤ (S.length : Int) := by omega
              have havI : (a : Int) ≤ (vc : Int) := by omega
              have hav : a ≤ vc := by omega
              have hkq := kk.size
              have hown5 := own_empty (k := 1) (enc := encI) (At.new wr #[] 3) (Nat.le_refl wr.heap.size)
              have kq5 : Keep none_ wr (wr.alloc (.cells #[] 3)) := (by repeat' (first | assumption | with_reducible exact Keep.refl _ _ | with_reducible refine Keep.alloc ?_ _ | with_reducible refine Keep.drew ?_))
              clear hnil
              by_cases hca : vc = a
              · have hSa : S.length = a := by omega
                have hdn : S.drop a = [] := by rw [List.drop_eq_nil_iff]; omega
                replace hdn := Lib.hid hdn
                replace hSa := Lib.hid hSa
                replace hca := hca.symm
                subst hca
                go_wp2_with (at_builtin; refine wpList_append_sl _ rfl _ _ _ rfl wr.heap.size 3 row_intH encI_len encI_one _ 0 [] rfl hown5 (some ⟨g, 0, none⟩) _ _ (S.take a) rfl ((slq.takeR a ha).keep kq5 Off.none_) (by omega) (by simp) ?_)
                intro v1 w5 own1 grow1 loc1
                try simp only [Nat.zero_add, List.nil_append] at own1
                have kA : Keep none_ wr w5 := keep_grown (a := wr) (S := none_) kq5 hown5 grow1 (Nat.le_refl _)
                have own1' := own_keep own1 (S := none_) (Keep.alloc (Keep.refl none_ w5) (.cells #[.int .i64 (i : Int)] 3)) (fun _ _ e => e)
                have hbs5 : wr.heap.size ≤ (w5.alloc (.cells #[.int .i64 (i : Int)] 3)).heap.size := by have := kA.size; simp; omega
                have sl1 : Sl encI 1 (w5.alloc (.cells #[.int .i64 (i : Int)] 3)) (some ⟨w5.heap.size, 0, none⟩) 1 1 [(i : Int)] := Sl.of_at (At.new w5 #[.int .i64 (i : Int)] 3) encI_len (by decide) rfl rfl (by unfold maxLen; simp)
                replace own1 := Lib.hid own1
                replace own1' := Lib.hid own1'
                replace sl1 := Lib.hid sl1
                replace hbs5 := Lib.hid hbs5
                have h630 : a + 1 ≤ 1000000 := by omega
                go_wp2_with (at_builtin; refine wpList_append_sl _ rfl _ _ _ rfl wr.heap.size 3 row_intH encI_len encI_one _ a (S.take a) rfl own1'.out (some ⟨_, 0, none⟩) 1 1 [(i : Int)] rfl sl1.out h630 hbs5.out ?_)
                intro v2 w6 own2 grow2 loc2
                have kB : Keep none_ wr w6 := keep_grown (a := wr) (S := none_) (Keep.alloc kA _) own1'.out grow2 (Nat.le_refl _)
                replace own2 := Lib.hid own2
                have hsum : a + 1 + (S.length - a) ≤ 1000000 := by omega
                go_wp2_with (at_builtin; refine wpList_append_sl _ rfl _ _ _ rfl wr.heap.size 3 row_intH encI_len encI_one _ (a + 1) (S.take a ++ [(i : Int)]) rfl own2.out _ _ _ (S.drop a) rfl (Sl.zeroR (by have := hSa.out; omega) hdn.out (by unfold maxLen; omega)) (by omega) kB.size ?_)
                intro v3 w7 own3 grow3 loc3
                have kC : Keep none_ wr w7 := keep_grown (a := wr) (S := none_) kB own2.out grow3 (Nat.le_refl _)
                replace own3 := Lib.hid own3
                go_wp2_with fail
                go_roundw
                case rel => exact ⟨i + 1, S.take a ++ (i : Int) :: S.drop a, by go_num, by omega, by
                  have h9 := own_lower own3.out hkq
                  have hn9 := own_len encI_len (by decide) own3.out
                  have e9 : S.take a ++ [(i : Int)] ++ S.drop a = S.take a ++ (i : Int) :: S.drop a := by simp
                  try rw [e9] at hn9
                  try rw [e9] at h9
                  rw [← hn9]
                  exact h9, hT, hO, fun h => by simp at h, kk.trans kC⟩
                case measure => simp [intOf]; omega
              · go_wp2_with (at_builtin; refine wpList_append_sl _ rfl _ _ _ rfl wr.heap.size 3 row_intH encI_len encI_one _ 0 [] rfl hown5 (some ⟨g, 0, none⟩) _ _ (S.take a) rfl ((slq.takeR a ha).keep kq5 Off.none_) (by omega) (by simp) ?_)
                intro v1 w5 own1 grow1 loc1
                try simp only [Nat.zero_add, List.nil_append] at own1
                have kA : Keep none_ wr w5 := keep_grown (a := wr) (S := none_) kq5 hown5 grow1 (Nat.le_refl _)
                have own1' := own_keep own1 (S := none_) (Keep.alloc (Keep.refl none_ w5) (.cells #[.int .i64 (i : Int)] 3)) (fun _ _ e => e)
                have hbs5 : wr.heap.size ≤ (w5.alloc (.cells #[.int .i64 (i : Int)] 3)).heap.size := by have := kA.size; simp; omega
                have sl1 : Sl encI 1 (w5.alloc (.cells #[.int .i64 (i : Int)] 3)) (some ⟨w5.heap.size, 0, none⟩) 1 1 [(i : Int)] := Sl.of_at (At.new w5 #[.int .i64 (i : Int)] 3) encI_len (by decide) rfl rfl (by unfold maxLen; simp)
                replace own1 := Lib.hid own1
                replace own1' := Lib.hid own1'
                replace sl1 := Lib.hid sl1
                replace hbs5 := Lib.hid hbs5
                have h630 : a + 1 ≤ 1000000 := by omega
                go_wp2_with (at_builtin; refine wpList_append_sl _ rfl _ _ _ rfl wr.heap.size 3 row_intH encI_len encI_one _ a (S.take a) rfl own1'.out (some ⟨_, 0, none⟩) 1 1 [(i : Int)] rfl sl1.out h630 hbs5.out ?_)
                intro v2 w6 own2 grow2 loc2
                have kB : Keep none_ wr w6 := keep_grown (a := wr) (S := none_) (Keep.alloc kA _) own1'.out grow2 (Nat.le_refl _)
                replace own2 := Lib.hid own2
                have hsum : a + 1 + (S.length - a) ≤ 1000000 := by omega
                go_wp2_with (at_builtin; refine wpList_append_sl _ rfl _ _ _ rfl wr.heap.size 3 row_intH encI_len encI_one _ (a + 1) (S.take a ++ [(i : Int)]) rfl own2.out _ _ _ (S.drop a) rfl ((slq.drop a ha (by omega) rfl rfl rfl).keep kB Off.none_) (by omega) kB.size ?_)
                intro v3 w7 own3 grow3 loc3
                have kC : Keep none_ wr w7 := keep_grown (a := wr) (S := none_) kB own2.out grow3 (Nat.le_refl _)
                replace own3 := Lib.hid own3
                go_wp2_with fail
                go_roundw
                case rel => exact ⟨i + 1, S.take a ++ (i : Int) :: S.drop a, by go_num, by omega, by
                  have h9 := own_lower own3.out hkq
                  have hn9 := own_len encI_len (by decide) own3.out
                  have e9 : S.take a ++ [(i : Int)] ++ S.drop a = S.take a ++ (i : Int) :: S.drop a := by simp
                  try rw [e9] at hn9
                  try rw [e9] at h9
                  rw [← hn9]
                  exact h9, hT, hO, fun h => by simp at h, kk.trans kC⟩
                case measure => simp [intOf]; omega
          · have h1 : Hid (∀ x, 0 < a → S[a - 1]? = some x → ptOf l x ≤ ptOf l (i : Int)) := Lib.hid (fun x h => absurd h ha1)
            have hd0 : decide ((0 : Int) < (a : Int)) = false := by simp; omega
            go_wp2_with fail
            refine wp_region_class f (by kernel_rfl) (by kernel_rfl) hf0 ?_
            repeat (go_big_quiet_step (fail))
            refine wpQuiet_nil ?_
            rintro _ ⟨nn, rfl⟩
            replace kk := kk.trans (hfk nn)
            replace own := own_keep own (hfk nn) (fun _ _ e => e)
            clear hf0 hfk hfa hlen0
            generalize f nn = wr at *
            have hT : Hid ((S.take a ++ (i : Int) :: S.drop a).Perm (idxs l (i + 1))) := Lib.hid (by
              rw [hsu.out]
              refine List.perm_middle.trans ?_
              rw [List.take_append_drop]
              exact (List.Perm.cons _ pS.out).trans (List.perm_append_comm (l₁ := [(i : Int)])))
            have hO : Hid (SortedC (cfE l) (S.take a ++ (i : Int) :: S.drop a)) := Lib.hid (insert_at sS.out (fun x hx => by
              obtain ⟨q, rfl, hq⟩ := idxs_tag (pS.out.mem_iff.1 hx)
              simpa using hq) ha h2.out (fun x h0 hx => h1.out x h0 hx))
            have hlen9 : (S.take a ++ (i : Int) :: S.drop a).length = a + 1 + (S.length - a) := by rw [List.length_append, List.length_cons, List.length_take, List.length_drop]; omega
            clear h1 h2
            have slq := Sl.of_own encI_len (by decide) own
            have hvc := slq.2.1
            have hvm := slq.2.2.1
            unfold maxLen at hvm
            have ha0 := Int.natCast_nonneg a
            have haI : (a : Int) ≤ (S.length : Int) := by omega
            have havI : (a : Int) ≤ (vc : Int) := by omega
            have hav : a ≤ vc := by omega
            have hkq := kk.size
            have hown5 := own_empty (k := 1) (enc := encI) (At.new wr #[] 3) (Nat.le_refl wr.heap.size)
            have kq5 : Keep none_ wr (wr.alloc (.cells #[] 3)) := (by repeat' (first | assumption | with_reducible exact Keep.refl _ _ | with_reducible refine Keep.alloc ?_ _ | with_reducible refine Keep.drew ?_))
            rcases List.eq_nil_or_concat S with hS0 | ⟨q0, y0, hS0⟩
            · obtain rfl : vA = none := by
                have := hnil hS0
                injection this
              have haz : a = 0 := by rw [hS0] at ha; simpa using ha
              have hvc0 : vc = 0 := by
                have := hnil hS0
                injection this
              subst hvc0
              have hSl0 : S.length = 0 := by rw [hS0]; rfl
              clear hnil slq
              have hT0 : S.take a ++ (i : Int) :: S.drop a = [(i : Int)] := by rw [hS0]; simp
              replace hT0 := Lib.hid hT0
              replace hS0 := Lib.hid hS0
              replace haz := Lib.hid haz
              go_wp2_with (at_builtin; refine wpList_append_sl _ rfl _ _ _ rfl wr.heap.size 3 row_intH encI_len encI_one _ 0 [] rfl hown5 none 0 0 [] rfl (Sl.nil _ _ _ _ _ (by decide)) (by decide) (by simp) ?_)
              intro v1 w5 own1 grow1 loc1
              try simp only [Nat.zero_add, List.nil_append] at own1
              have kA : Keep none_ wr w5 := keep_grown (a := wr) (S := none_) kq5 hown5 grow1 (Nat.le_refl _)
              have own1' := own_keep own1 (S := none_) (Keep.alloc (Keep.refl none_ w5) (.cells #[.int .i64 (i : Int)] 3)) (fun _ _ e => e)
              have hbs5 : wr.heap.size ≤ (w5.alloc (.cells #[.int .i64 (i : Int)] 3)).heap.size := by have := kA.size; simp; omega
              have sl1 : Sl encI 1 (w5.alloc (.cells #[.int .i64 (i : Int)] 3)) (some ⟨w5.heap.size, 0, none⟩) 1 1 [(i : Int)] := Sl.of_at (At.new w5 #[.int .i64 (i : Int)] 3) encI_len (by decide) rfl rfl (by unfold maxLen; simp)
              replace own1 := Lib.hid own1
              replace own1' := Lib.hid own1'
              replace sl1 := Lib.hid sl1
              replace hbs5 := Lib.hid hbs5
              go_wp2_with (at_builtin; refine wpList_append_sl _ rfl _ _ _ rfl wr.heap.size 3 row_intH encI_len encI_one _ 0 [] rfl own1'.out (some ⟨_, 0, none⟩) 1 1 [(i : Int)] rfl sl1.out (by decide) hbs5.out ?_)
              intro v2 w6 own2 grow2 loc2
              have kB : Keep none_ wr w6 := keep_grown (a := wr) (S := none_) (Keep.alloc kA _) own1'.out grow2 (Nat.le_refl _)
              replace own2 := Lib.hid own2
              go_wp2_with (at_builtin; refine wpList_append_sl _ rfl _ _ _ rfl wr.heap.size 3 row_intH encI_len encI_one _ 1 [(i : Int)] rfl own2.out none 0 0 [] rfl (Sl.nil _ _ _ _ _ (by decide)) (by decide) kB.size ?_)
              intro v3 w7 own3 grow3 loc3
              have kC : Keep none_ wr w7 := keep_grown (a := wr) (S := none_) kB own2.out grow3 (Nat.le_refl _)
              replace own3 := Lib.hid own3
              go_wp2_with fail
              go_roundw
              case rel => exact ⟨i + 1, S.take a ++ (i : Int) :: S.drop a, by go_num, by omega, by
                have h9 := own_lower own3.out hkq
                rw [hT0.out]
                exact h9, hT, hO, fun h => by simp at h, kk.trans kC⟩
              case measure => simp [intOf]; omega
            · have hSpos : 0 < S.length := by rw [hS0]; simp
              obtain ⟨g, cap, hv9, hbg, hgl, hgc, hgm⟩ := own_some own hSpos
              injection hv9 with e1 e2 e3
              subst e1 e3
              clear hS0
              clear hnil
              have hca : ¬ vc = a := by omega
              go_wp2_with (at_builtin; refine wpList_append_sl _ rfl _ _ _ rfl wr.heap.size 3 row_intH encI_len encI_one _ 0 [] rfl hown5 (some ⟨g, 0, none⟩) _ _ (S.take a) rfl ((slq.takeR a ha).keep kq5 Off.none_) (by omega) (by simp) ?_)
              intro v1 w5 own1 grow1 loc1
              try simp only [Nat.zero_add, List.nil_append] at own1
              have kA : Keep none_ wr w5 := keep_grown (a := wr) (S := none_) kq5 hown5 grow1 (Nat.le_refl _)
              have own1' := own_keep own1 (S := none_) (Keep.alloc (Keep.refl none_ w5) (.cells #[.int .i64 (i : Int)] 3)) (fun _ _ e => e)
              have hbs5 : wr.heap.size ≤ (w5.alloc (.cells #[.int .i64 (i : Int)] 3)).heap.size := by have := kA.size; simp; omega
              have sl1 : Sl encI 1 (w5.alloc (.cells #[.int .i64 (i : Int)] 3)) (some ⟨w5.heap.size, 0, none⟩) 1 1 [(i : Int)] := Sl.of_at (At.new w5 #[.int .i64 (i : Int)] 3) encI_len (by decide) rfl rfl (by unfold maxLen; simp)
              replace own1 := Lib.hid own1
              replace own1' := Lib.hid own1'
              replace sl1 := Lib.hid sl1
              replace hbs5 := Lib.hid hbs5
              have h630 : a + 1 ≤ 1000000 := by omega
              go_wp2_with (at_builtin; refine wpList_append_sl _ rfl _ _ _ rfl wr.heap.size 3 row_intH encI_len encI_one _ a (S.take a) rfl own1'.out (some ⟨_, 0, none⟩) 1 1 [(i : Int)] rfl sl1.out h630 hbs5.out ?_)
              intro v2 w6 own2 grow2 loc2
              have kB : Keep none_ wr w6 := keep_grown (a := wr) (S := none_) (Keep.alloc kA _) own1'.out grow2 (Nat.le_refl _)
              replace own2 := Lib.hid own2
              have hsum : a + 1 + (S.length - a) ≤ 1000000 := by omega
              go_wp2_with (at_builtin; refine wpList_append_sl _ rfl _ _ _ rfl wr.heap.size 3 row_intH encI_len encI_one _ (a + 1) (S.take a ++ [(i : Int)]) rfl own2.out _ _ _ (S.drop a) rfl ((slq.drop a ha (by omega) rfl rfl rfl).keep kB Off.none_) (by omega) kB.size ?_)
              intro v3 w7 own3 grow3 loc3
              have kC : Keep none_ wr w7 := keep_grown (a := wr) (S := none_) kB own2.out grow3 (Nat.le_refl _)
              replace own3 := Lib.hid own3
              go_wp2_with fail
              go_roundw
              case rel => exact ⟨i + 1, S.take a ++ (i : Int) :: S.drop a, by go_num, by omega, by
                have h9 := own_lower own3.out hkq
                have hn9 := own_len encI_len (by decide) own3.out
                have e9 : S.take a ++ [(i : Int)] ++ S.drop a = S.take a ++ (i : Int) :: S.drop a := by simp
                try rw [e9] at hn9
                try rw [e9] at h9
                rw [← hn9]
                exact h9, hT, hO, fun h => by simp at h, kk.trans kC⟩
              case measure => simp [intOf]; omega
    · obtain rfl : i = l.length := by omega
      go_wp2_with fail
      go_ret
      exact ⟨_, S, rfl, own, pS.out, sS.out, kk⟩
end Go.Proofs.Ytlnlbegcnhelmaa
