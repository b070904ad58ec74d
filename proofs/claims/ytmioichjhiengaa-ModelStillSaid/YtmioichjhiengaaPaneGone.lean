/-
  slices.IndexFunc, DeleteFunc on windows, with pane.Merge's own predicate.
-/
import Derived.Test.YtmioichjhiengaaPaneDel
import Derived.Deep.LoopGhost
namespace Go.Proofs.Ytmioichjhiengaa
open Go.RowKit

theorem span_len (x : Span) : x.cells.length = 2 := rfl
theorem span_one (x : Span) : ∀ u ∈ x.cells, u.oneCell' = true := by
  intro u hu
  simp only [Span.cells, List.mem_cons, List.not_mem_nil, or_false] at hu
  rcases hu with rfl | rfl <;> rfl
theorem row_span : Row Try.prog 42 28 2 := row_of (b := 16) (z := .agg #[.int .i64 0, .int .i64 0]) Try.underlying42 (by kernel_rfl) rfl (by decide) (by decide)
abbrev SRow (w : World) (base : Nat) (v : Value) (l : List Span) : Prop := w.ownsRow base 28 2 v l.length (flat Span.cells l)
def idxF {α : Type} (q : α → Bool) (l : List α) : Int := if l.findIdx q < l.length then (l.findIdx q : Nat) else -1

theorem merge_1 {w : World} {pb : Nat} {p : Pane} (hp : At w pb p.cells.toArray 32) (x : Span) :
    Calls Try.prog 55 #[.agg x.cells.toArray, .pointer (some ⟨pb, 0, none⟩)] w fun e w' => e = .returned (.bool (x.eqB p.span)) ∧ Keep none_ w w' := by
  have hx := At.new w x.cells.toArray 28
  have kk : Keep none_ w (w.alloc (.cells x.cells.toArray 28)) := (by repeat' (first | assumption | with_reducible exact Keep.refl _ _ | with_reducible refine Keep.alloc ?_ _ | with_reducible refine Keep.drew ?_))
  have cp := At.cell (Keep.at kk hp (fun e => e))
  have cx := At.cell hx
  have he := run_eql_Span x p.span
  generalize x.eqB p.span = b at *
  simp only [Span.cells, Pane.cells] at cp cx kk he ⊢
  clear hp hx
  go_enter Try.func55, Try.ntmps55
  go_wp2_with fail
  go_ret
  exact ⟨rfl, kk⟩

set_option maxHeartbeats 4000000 in
theorem index_fun {w : World} {A : Option Addr} {n c : Nat} {xs : List Span} (h : Sl Span.cells 2 w A n c xs) (hn : n ≤ 900000) {pb : Nat} {p : Pane} (hp : At w pb p.cells.toArray 32) :
    Calls Try.prog 83 #[.slice A n c, .func (.func 55) #[] #[.pointer (some ⟨pb, 0, none⟩)]] w fun e w' =>
      e = .returned (.int .i64 (idxF (fun x => x.eqB p.span) xs)) ∧ Keep none_ w w' := by
  have hlen := Lib.hid h.len
  have hlc := h.2.1
  go_enter Try.func83, Try.ntmps83
  go_wp2_with fail
  go_loopw [5, 8] (fun _ kv wr => ∃ k : Nat, kv = .int .i64 k ∧ k ≤ n ∧ Hid (∀ i (hi : i < xs.length), i < k → xs[i].eqB p.span = false) ∧ Keep none_ w wr)
    (fun _ kv _ => n - (intOf kv).toNat)
  case atStart => exact ⟨0, rfl, Nat.zero_le _, Lib.hid (fun i _ h => absurd h (Nat.not_lt_zero _)), Keep.refl _ _⟩
  case round =>
    obtain ⟨k, rfl, hk, hall, kk⟩ := hrel
    by_cases hlt : k < n
    · have hkx : k < xs.length := by have := hlen.out; omega
      have hsl := h.keep kk Off.none_
      have c1 := merge_1 (Keep.at kk hp (fun e => e)) xs[k]
      obtain ⟨b, off, rfl, hbl, -⟩ := hsl.at_ (by omega)
      have q0 : wr.cell? ⟨b, off + k * 2, none⟩ = _ := hsl.cellk hkx 0 (by omega)
      have q1 : wr.cell? ⟨b, off + k * 2 + 1, none⟩ = _ := hsl.cellk hkx 1 (by omega)
      simp only [Span.cells, List.getElem?_cons_zero, List.getElem?_cons_succ, Nat.add_zero] at q0 q1 c1
      obtain ⟨bb, hbb⟩ : ∃ bb, bb = xs[k].eqB p.span := ⟨_, rfl⟩
      rw [← hbb] at c1
      replace hbb := Lib.hid hbb
      replace c1 := Lib.hid c1
      have hlt' : (k : Int) < (n : Int) := by omega
      have hk0 := Int.natCast_nonneg k
      generalize xs[k] = x at q0 q1 c1
      clear hsl h hp
      go_wp2_with fail
      refine c1.out.mono ?_
      rintro e w1 ⟨rfl, k1⟩
      replace kk := kk.trans k1
      clear c1 q0 q1 k1
      cases bb
      · go_wp2_with fail
        go_roundw
        case rel => exact ⟨k + 1, by go_num, by omega, Lib.hid (fun i hi hik => by
          rcases Nat.eq_or_lt_of_le (Nat.le_of_lt_succ hik) with rfl | hik
          · exact hbb.out.symm
          · exact hall.out i hi hik), kk⟩
        case measure => simp [intOf]; omega
      · have hf : idxF (fun x => x.eqB p.span) xs = (k : Int) := by
          have : xs.findIdx (fun x => x.eqB p.span) = k := (List.findIdx_eq hkx).2 ⟨hbb.out.symm, fun j hj => hall.out j (by omega) hj⟩
          unfold idxF
          rw [this, if_pos hkx]
        replace hf := Lib.hid hf
        go_wp2_with fail
        go_ret
        exact ⟨by rw [hf.out]; rfl, kk⟩
    · have hf : idxF (fun x => x.eqB p.span) xs = -1 := by
        unfold idxF
        rw [if_neg]
        intro h9
        have := List.findIdx_getElem (w := h9)
        rw [hall.out _ h9 (by have := hlen.out; omega)] at this
        cases this
      replace hf := Lib.hid hf
      clear h hp
      go_wp2_with fail
      go_ret
      exact ⟨by rw [hf.out]; rfl, kk⟩

def Deleted (w : World) (v0 : Value) (S : Nat → Prop) (base : Nat) (l : List Span) (e : Ending) (w' : World) : Prop := ∃ v, e = .returned v ∧ SRow w' base v l ∧ Keep S w w' ∧ v.ownBlock = v0.ownBlock
theorem idxF_no {α : Type} {q : α → Bool} {l : List α} (h : ¬ l.findIdx q < l.length) : l.filter (fun x => !q x) = l := by
  rw [List.filter_eq_self]
  intro x hx
  cases hq : q x
  · rfl
  · exact absurd (List.findIdx_lt_length.2 ⟨x, hx, hq⟩) h
theorem take_filter {α : Type} {q : α → Bool} {l : List α} {k : Nat} (hk : l.findIdx q = k) (hlt : k < l.length) : (l.take (k + 1)).filter (fun x => !q x) = l.take k := by
  rw [List.take_succ_eq_append_getElem hlt, List.filter_append]
  have h1 : (l.take k).filter (fun x => !q x) = l.take k := by
    rw [List.filter_eq_self]
    intro x hx
    obtain ⟨i, hi, rfl⟩ := List.getElem_of_mem hx
    rw [List.getElem_take]
    rw [List.length_take] at hi
    have := List.not_of_lt_findIdx (p := q) (xs := l) (i := i) (by omega)
    simpa using this
  have h2 : q l[k] = true := by
    subst hk
    exact List.findIdx_getElem (w := hlt)
  rw [h1]
  simp [h2]
set_option maxHeartbeats 4000000 in
set_option maxRecDepth 100000 in
theorem delete_fun {w : World} {base n : Nat} {v : Value} {xs : List Span} (own : w.ownsRow base 28 2 v n (flat Span.cells xs)) (hn : n ≤ 900000) {pb : Nat} {p : Pane} (hp : At w pb p.cells.toArray 32) (hne : v.ownBlock ≠ some pb) :
    Calls Try.prog 54 #[v, .func (.func 55) #[] #[.pointer (some ⟨pb, 0, none⟩)]] w (Deleted w v (own_of v) base (xs.filter (fun x => !(x.eqB p.span)))) := by
  have hnx := own_len span_len (by decide) own
  obtain ⟨A, c, rfl⟩ := own_form own
  have hsl := Sl.of_own span_len (by decide) own
  have c1 := index_fun hsl hn hp
  by_cases hk : xs.findIdx (fun x => x.eqB p.span) < xs.length
  · have c9 := idxF_no (q := fun x : Span => x.eqB p.span) (l := xs)
    obtain ⟨k, hke⟩ : ∃ k, xs.findIdx (fun x => x.eqB p.span) = k := ⟨_, rfl⟩
    have htf := take_filter hke (by omega)
    unfold idxF at c1
    rw [if_pos hk, hke] at c1
    rw [hke] at hk
    replace c1 := Lib.hid c1
    obtain ⟨g, cap, hv, hbg, hgw, hnc, hmc⟩ := own_some own (by omega)
    obtain ⟨rfl, rfl⟩ : A = some ⟨g, 0, none⟩ ∧ c = cap := by simpa using hv
    have hS : own_of (.slice (some ⟨g, 0, none⟩) n c) = one g := by
      funext z
      simp only [own_of, one, Value.ownBlock, Option.some.injEq, eq_iff_iff]
      exact ⟨fun h => h.symm, fun h => h.symm⟩
    rw [hS]
    have hpg : pb ≠ g := fun e => hne (by rw [e]; rfl)
    have hc63 : c ≤ 9223372036854775807 := by unfold maxLen at hmc; omega
    have hk1 : ((k : Int) == -1) = false := by rw [beq_eq_false_iff_ne]; omega
    obtain ⟨j0, hj0⟩ : ∃ j0, j0 = k + 1 := ⟨_, rfl⟩
    have ej0 : (k : Int) + 1 = (j0 : Int) := by omega
    have hkn : k < n := by omega
    have hj0n : j0 ≤ n := by omega
    rw [← hj0] at htf
    replace hj0 := Lib.hid hj0
    replace htf := Lib.hid htf
    replace hke := Lib.hid hke
    replace hnx := Lib.hid hnx
    clear hsl hv c9 hne hk hbg
    go_enter Try.func54, Try.ntmps54
    go_wp2_with fail
    refine c1.out.mono ?_
    rintro e w1 ⟨rfl, k1⟩
    replace own := own_keep own k1 (fun _ _ e => e)
    replace hp := Keep.at k1 hp (fun e => e)
    have kk : Keep (one g) w w1 := k1.of_none
    clear c1 k1 hgw
    go_wp2_with fail
    go_loopw [5, 6, 7] (fun iv jv _ wr => ∃ (i j : Nat) (L : List Span), iv = .int .i64 i ∧ jv = .int .i64 j ∧ i < j ∧ j ≤ n ∧ Hid (L.length = n) ∧ Hid (L.take i = (xs.take j).filter (fun x => !(x.eqB p.span))) ∧ Hid (L.drop j = xs.drop j) ∧
        wr.ownsRow base 28 2 (.slice (some ⟨g, 0, none⟩) n c) n (flat Span.cells L) ∧ Keep (one g) w1 wr)
      (fun _ jv _ _ => n - (intOf jv).toNat)
    case atStart => exact ⟨k, j0, xs, rfl, rfl, by have := hj0.out; omega, hj0n, Lib.hid hnx.out.symm, Lib.hid htf.out.symm, Lib.hid rfl, own, Keep.refl _ _⟩
    case round =>
      clear own hk1 ej0 hkn hj0n htf hke hj0
      obtain ⟨i, j, L, rfl, rfl, hij, hjn, hL, ht, hd, own, k2⟩ := hrel
      have hLl := hL.out
      have hin : i < n := by omega
      have hi0 := Int.natCast_nonneg i
      have hj0 := Int.natCast_nonneg j
      by_cases hlt : j < n
      · have hjx : j < xs.length := by have := hnx.out; omega
        have hjL : j < L.length := by omega
        have hLj : L[j] = xs[j] := by
          have h9 := congrArg (fun l => l[0]?) hd.out
          simp only [List.getElem?_drop, Nat.add_zero, List.getElem?_eq_getElem hjL, List.getElem?_eq_getElem hjx, Option.some.injEq] at h9
          exact h9
        have hsl := Sl.of_own span_len (by decide) own
        have q0 : wr.cell? ⟨g, j * 2, none⟩ = some (.int .i64 L[j].s) := by have := hsl.cellk hjL 0 (by omega); simpa using this
        have q1 : wr.cell? ⟨g, j * 2 + 1, none⟩ = some (.int .i64 L[j].e) := by have := hsl.cellk hjL 1 (by omega); simpa using this
        rw [hLj] at q0 q1
        have hf1 : (xs.take (j + 1)).filter (fun x => !(x.eqB p.span)) = (xs.take j).filter (fun x => !(x.eqB p.span)) ++ (if xs[j].eqB p.span then [] else [xs[j]]) := by
          rw [List.take_succ_eq_append_getElem hjx, List.filter_append]
          congr 1
          cases h9 : xs[j].eqB p.span <;> simp [h9]
        have hd1 : xs.drop j = xs[j] :: xs.drop (j + 1) := List.drop_eq_getElem_cons hjx
        have hpr := Keep.at k2 hp hpg
        obtain ⟨x, hx⟩ : ∃ x, x = xs[j] := ⟨_, rfl⟩
        rw [← hx] at q0 q1 hf1 hd1
        have c2 := merge_1 (Keep.at (Keep.alloc (Keep.refl none_ wr) (.cells x.cells.toArray 28)) hpr (fun e => e)) x
        have hnew := At.new wr x.cells.toArray 28
        obtain ⟨bb, hbb⟩ : ∃ bb, bb = x.eqB p.span := ⟨_, rfl⟩
        rw [← hbb] at c2 hf1
        simp only [Span.cells] at q0 q1 c2 hnew
        replace hbb := Lib.hid hbb
        replace c2 := Lib.hid c2
        replace hf1 := Lib.hid hf1
        replace hd1 := Lib.hid hd1
        have hlt' : (j : Int) < (n : Int) := by omega
        have hjc : j < c := by omega
        have hn63 : (n : Int) ≤ 900000 := by omega
        replace hx := Lib.hid hx
        replace hLj := Lib.hid hLj
        replace hnew := Lib.hid hnew
        have kn := Keep.alloc (Keep.refl none_ wr) (.cells #[.int .i64 x.s, .int .i64 x.e] 28)
        have own' := own_keep own kn (fun _ _ e => e)
        have hgw := own.lt g rfl
        replace hLl := Lib.hid hLl
        clear hsl hpr own
        go_wp2_with fail
        refine c2.out.mono ?_
        rintro e w2 ⟨rfl, k3⟩
        have kk3 := k2.trans ((kn.trans k3).of_none)
        have own2 := own_keep own' k3 (fun _ _ e => e)
        have hnew2 := Keep.at k3 hnew.out (fun e => e)
        clear c2 q0 q1 k3 own' kn k2 hnew
        cases bb
        · have hiL : i < L.length := by have := hL.out; omega
          have cn := At.cell hnew2
          have hsl2 := Sl.of_own span_len (by decide) own2
          have r0 : w2.cell? ⟨g, i * 2, none⟩ = some (.int .i64 L[i].s) := by have := hsl2.cellk hiL 0 (by omega); simpa using this
          have r1 : w2.cell? ⟨g, i * 2 + 1, none⟩ = some (.int .i64 L[i].e) := by have := hsl2.cellk hiL 1 (by omega); simpa using this
          obtain ⟨cur, hcur, -⟩ := own_get span_len (by decide) own2
          have fz := hcur.frozen
          have own3 := own_stores span_len (by decide) own2 i hiL x
          have k4 := Keep.setL (S := one g) (p := g) (fun _ => rfl) x.cells (o := i * 2) kk3
          have ht1 : (L.set i x).take (i + 1) = (xs.take (j + 1)).filter (fun x => !(x.eqB p.span)) := by
            rw [hf1.out, ← ht.out, List.take_set, List.take_succ_eq_append_getElem hiL, List.set_append_right _ _ (by rw [List.length_take]; omega)]
            simp [List.length_take, Nat.min_eq_left (Nat.le_of_lt hiL)]
          have hd2 : (L.set i x).drop (j + 1) = xs.drop (j + 1) := by
            rw [List.drop_set_of_lt (by omega)]
            have h9 := congrArg (List.drop 1) hd.out
            rw [List.drop_drop, List.drop_drop] at h9
            exact h9
          simp only [Span.cells, stores] at own3 k4
          replace ht1 := Lib.hid ht1
          replace hd2 := Lib.hid hd2
          have hic : i < c := by omega
          have hin' : (i : Int) < (n : Int) := by omega
          clear hsl2 own2 kk3 hcur hnew2
          go_wp2_with fail
          go_roundw
          case rel => exact ⟨i + 1, j + 1, L.set i x, by go_num, by go_num, by omega, by omega, Lib.hid (by rw [List.length_set]; exact hL.out), ht1, hd2, own3, k4⟩
          case measure => simp [intOf]; omega
        · clear hnew2
          go_wp2_with fail
          go_roundw
          case rel => exact ⟨i, j + 1, L, rfl, by go_num, by omega, by omega, hL, Lib.hid (by rw [hf1.out, ht.out]; simp), Lib.hid (by
            have h9 := congrArg (List.drop 1) hd.out
            rw [List.drop_drop, List.drop_drop] at h9
            exact h9), own2, kk3⟩
          case measure => simp [intOf]; omega
      · obtain rfl : j = n := by omega
        obtain ⟨cur, hat, hsz, hLn, -, -, hbg, hget⟩ := own_get span_len (by decide) own
        obtain ⟨zs, hzs⟩ : ∃ zs, zs = (Builtin.zeroCells (Value.agg #[.int .i64 0, .int .i64 0]).cells (j - i)).toList := ⟨_, rfl⟩
        have hzl : zs.length = (j - i) * 2 := by rw [hzs]; simp [Builtin.zeroCells, Value.cells]
        have hz1 : ∀ v ∈ zs, v.oneCell' = true := by
          intro v hv
          rw [hzs] at hv
          simp only [Builtin.zeroCells, Array.toList_map, List.mem_map] at hv
          obtain ⟨q, -, rfl⟩ := hv
          have : q % 2 = 0 ∨ q % 2 = 1 := by omega
          rcases this with e | e <;> simp [Value.cells, e, Value.oneCell']
        have hcl : ∀ ty c', (Builtin.clear_ #[42] ty #[.slice (some ⟨g, i * 2, none⟩) (j - i) c']).run Try.prog wr = .ok (.tuple #[]) (wr.setCells g (i * 2) zs) := fun ty c' =>
          run_clear_k wr _ _ ty _ Try.underlying42 Try.zeroValue28 g (i * 2) _ c' zs hzs.symm hz1 (by omega)
            (fun t ht => by rw [At.cell hat, Array.getElem?_eq_getElem (by rw [hsz]; omega)]; rfl) (fun t ht => At.frozen hat _)
        have hff : L.take i = xs.filter (fun x => !(x.eqB p.span)) := by
          have := ht.out
          rw [hnx.out, List.take_length] at this
          exact this
        have hfin : Hid (SRow (wr.setCells g (i * 2) zs) base (.slice (some ⟨g, 0, none⟩) i c) (xs.filter (fun x => !(x.eqB p.span))) ∧ Keep (one g) w (wr.setCells g (i * 2) zs)) := by
          have ha := At.setL (w := wr) zs (o := i * 2) hat
          rw [← setCells_stores] at ha
          refine ⟨?_, by rw [setCells_stores]; exact Keep.setL (S := one g) (fun _ => rfl) zs (kk.trans k2)⟩
          have hl9 : (L.take i).length = i := by rw [List.length_take]; have := hL.out; omega
          have := own_of_get span_len (by decide) ha (by rw [putC_size, hsz]) (n := i) (l := L.take i) hl9.symm (by omega) hmc hbg (fun q hq r hr => by
            rw [hl9] at hq
            rw [putC_get _ _ _ _ (by rw [hsz, hzl]; omega), if_neg (by omega), List.getElem_take]
            exact hget q (by have := hL.out; omega) r hr)
          rw [← hff]
          show World.ownsRow _ _ _ _ _ (L.take i).length _
          rw [hl9]
          exact this
        have hic : ¬ c = i := by omega
        have hicc : i ≤ c := by omega
        have hjn' : ¬ (j : Int) < (j : Int) := by omega
        have hi63 : i ≤ j := by omega
        clear own hat hsz hget hzs hzl hz1 hff ht hd hL hLn hLl k2 hlt
        go_wp2_with fail
        go_ret
        exact ⟨.slice (some ⟨g, 0, none⟩) i c, rfl, hfin.out.1, hfin.out.2, rfl⟩
  · have hf : xs.filter (fun x => !(x.eqB p.span)) = xs := idxF_no hk
    rw [hf]
    unfold idxF at c1
    rw [if_neg hk] at c1
    replace c1 := Lib.hid c1
    have hfin : Hid (∀ w', Keep none_ w w' → SRow w' base (.slice A n c) xs) := fun w' k1 => by
      show World.ownsRow _ _ _ _ _ xs.length _
      rw [← hnx]
      exact own_keep own k1 (fun _ _ e => e)
    replace hnx := Lib.hid hnx
    clear hsl own hp hne hf
    go_enter Try.func54, Try.ntmps54
    go_wp2_with fail
    refine c1.out.mono ?_
    rintro e w1 ⟨rfl, k1⟩
    go_wp2_with fail
    go_ret
    exact ⟨.slice A n c, rfl, hfin.out _ k1, k1.of_none, rfl⟩
end Go.Proofs.Ytmioichjhiengaa
