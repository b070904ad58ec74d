/-
  Texts of one kind, one behind the other.
-/
import Derived.Test.YtmioichjhiengaaGreatBaseCnt
import Derived.Test.YtmioichjhiengaaGreatBaseAsk
import Derived.Shelf.SlIter.Nil
import Derived.Shelf.SortM.Plain
import Derived.Shelf.SortM.SortNone
import Derived.Shelf.SlGeneric
import Derived.Sort.Walk0
set_option linter.unusedSimpArgs false
set_option linter.unusedVariables false
/-
  The library's maps.Keys and slices.Sorted at a group's map (the shelf's contracts laid in plain words); Group.Keys.
-/
namespace Go.Proofs.YtmioichjhiengaaGreat
open Go.RowKit Go.Shelf

def lay_keys_ren : Go.Shelf.Ren := ⟨fun | 7 => 56 | 10 => 97 | n => n, fun | 23 => 89 | 26 => 9 | 3 => 34 | 28 => 112 | 0 => 0 | 27 => 111 | 33 => 159 | 4 => 4 | n => n, fun | n => n⟩
theorem lay_keys : Go.Proofs.SlLaysZ.n7 Tryz.prog lay_keys_ren := {
  mixed := by kernel_rfl
  f7 := ⟨Tryz.f56.name, by decide, Tryz.func56.trans (congrArg some (by kernel_rfl))⟩
  f10 := ⟨Tryz.f97.name, by decide, Tryz.func97.trans (congrArg some (by kernel_rfl))⟩
  t0 := Tryz.underlying0
  a0 := Tryz.isAgg0
  z0 := Tryz.sizeOf0
  v0 := Tryz.zeroValue0
  t4 := Tryz.underlying4
  a4 := Tryz.isAgg4
  z4 := Tryz.sizeOf4
  v4 := Tryz.zeroValue4
  t23 := Tryz.underlying89
  a23 := Tryz.isAgg89
  z23 := Tryz.sizeOf89
  v23 := Tryz.zeroValue89
  t26 := Tryz.underlying9
  a26 := Tryz.isAgg9
  z26 := Tryz.sizeOf9
  v26 := Tryz.zeroValue9
  t27 := Tryz.underlying111
  a27 := Tryz.isAgg111
  z27 := Tryz.sizeOf111
  v27 := Tryz.zeroValue111
  t28 := Tryz.underlying112
  a28 := Tryz.isAgg112
  z28 := Tryz.sizeOf112
  v28 := Tryz.zeroValue112
  t33 := Tryz.underlying159
  a33 := Tryz.isAgg159
  z33 := Tryz.sizeOf159
  v33 := Tryz.zeroValue159 }
def lay_sorted_ren : Go.Shelf.Ren := ⟨fun | 6 => 55 | 8 => 95 | 9 => 96 | 11 => 126 | 13 => 128 | 12 => 127 | 23 => 147 | 24 => 148 | 14 => 138 | 15 => 139 | 16 => 140 | 17 => 141 | 18 => 142 | 19 => 143 | 20 => 144 | 21 => 145 | 22 => 146 | 25 => 153 | 26 => 154 | 27 => 155 | 28 => 156 | 29 => 157 | 30 => 158 | 31 => 161 | n => n, fun | 26 => 9 | 28 => 112 | 24 => 43 | 0 => 0 | 3 => 3 | 37 => 188 | 48 => 207 | 50 => 184 | 4 => 4 | 40 => 200 | 39 => 199 | 45 => 132 | 5 => 5 | 9 => 9 | 51 => 212 | 55 => 216 | 57 => 219 | 58 => 220 | 33 => 159 | n => n, fun | n => n⟩
theorem lay_sorted : Go.Proofs.SlLaysZ.n6 Tryz.prog lay_sorted_ren := {
  mixed := by kernel_rfl
  f6 := ⟨Tryz.f55.name, by decide, Tryz.func55.trans (congrArg some (by kernel_rfl))⟩
  f8 := ⟨Tryz.f95.name, by decide, Tryz.func95.trans (congrArg some (by kernel_rfl))⟩
  f11 := ⟨Tryz.f126.name, by decide, Tryz.func126.trans (congrArg some (by kernel_rfl))⟩
  t0 := Tryz.underlying0
  a0 := Tryz.isAgg0
  z0 := Tryz.sizeOf0
  v0 := Tryz.zeroValue0
  t24 := Tryz.underlying43
  a24 := Tryz.isAgg43
  z24 := Tryz.sizeOf43
  v24 := Tryz.zeroValue43
  t26 := Tryz.underlying9
  a26 := Tryz.isAgg9
  z26 := Tryz.sizeOf9
  v26 := Tryz.zeroValue9
  t28 := Tryz.underlying112
  a28 := Tryz.isAgg112
  z28 := Tryz.sizeOf112
  v28 := Tryz.zeroValue112
  i26 := by kernel_rfl }
def lay_sort_ren : Go.Shelf.Ren := ⟨fun | 6 => 96 | 8 => 128 | 9 => 127 | 19 => 147 | 20 => 148 | 21 => 138 | 22 => 139 | 23 => 140 | 24 => 141 | 25 => 142 | 26 => 143 | 27 => 144 | 28 => 145 | 29 => 146 | 36 => 153 | 31 => 154 | 32 => 155 | 37 => 156 | 38 => 157 | 39 => 158 | 41 => 161 | n => n, fun | 27 => 43 | 29 => 9 | 3 => 3 | 32 => 188 | 26 => 43 | 0 => 0 | 44 => 207 | 46 => 184 | 4 => 4 | 36 => 200 | 35 => 199 | 41 => 132 | 5 => 5 | 9 => 9 | 53 => 212 | 57 => 216 | 63 => 219 | 64 => 220 | n => n, fun | n => n⟩
theorem lay_sort : Go.Proofs.SlLaysM.n6 Tryz.prog lay_sort_ren := {
  mixed := by kernel_rfl
  f6 := ⟨Tryz.f96.name, by decide, Tryz.func96.trans (congrArg some (by kernel_rfl))⟩
  f8 := Tryz.func128.trans (congrArg some (by kernel_rfl))
  f9 := ⟨Tryz.f127.name, by decide, Tryz.func127.trans (congrArg some (by kernel_rfl))⟩
  f19 := Tryz.func147.trans (congrArg some (by kernel_rfl))
  f20 := Tryz.func148.trans (congrArg some (by kernel_rfl))
  f21 := ⟨Tryz.f138.name, by decide, Tryz.func138.trans (congrArg some (by kernel_rfl))⟩
  f22 := ⟨Tryz.f139.name, by decide, Tryz.func139.trans (congrArg some (by kernel_rfl))⟩
  f23 := ⟨Tryz.f140.name, by decide, Tryz.func140.trans (congrArg some (by kernel_rfl))⟩
  f24 := ⟨Tryz.f141.name, by decide, Tryz.func141.trans (congrArg some (by kernel_rfl))⟩
  f25 := ⟨Tryz.f142.name, by decide, Tryz.func142.trans (congrArg some (by kernel_rfl))⟩
  f26 := ⟨Tryz.f143.name, by decide, Tryz.func143.trans (congrArg some (by kernel_rfl))⟩
  f27 := ⟨Tryz.f144.name, by decide, Tryz.func144.trans (congrArg some (by kernel_rfl))⟩
  f28 := ⟨Tryz.f145.name, by decide, Tryz.func145.trans (congrArg some (by kernel_rfl))⟩
  f29 := ⟨Tryz.f146.name, by decide, Tryz.func146.trans (congrArg some (by kernel_rfl))⟩
  f31 := Tryz.func154.trans (congrArg some (by kernel_rfl))
  f32 := Tryz.func155.trans (congrArg some (by kernel_rfl))
  f36 := ⟨Tryz.f153.name, by decide, Tryz.func153.trans (congrArg some (by kernel_rfl))⟩
  f37 := ⟨Tryz.f156.name, by decide, Tryz.func156.trans (congrArg some (by kernel_rfl))⟩
  f38 := ⟨Tryz.f157.name, by decide, Tryz.func157.trans (congrArg some (by kernel_rfl))⟩
  f39 := ⟨Tryz.f158.name, by decide, Tryz.func158.trans (congrArg some (by kernel_rfl))⟩
  f41 := ⟨Tryz.f161.name, by decide, Tryz.func161.trans (congrArg some (by kernel_rfl))⟩
  t0 := Tryz.underlying0
  a0 := Tryz.isAgg0
  z0 := Tryz.sizeOf0
  v0 := Tryz.zeroValue0
  t3 := Tryz.underlying3
  a3 := Tryz.isAgg3
  z3 := Tryz.sizeOf3
  v3 := Tryz.zeroValue3
  t4 := Tryz.underlying4
  a4 := Tryz.isAgg4
  z4 := Tryz.sizeOf4
  v4 := Tryz.zeroValue4
  t5 := Tryz.underlying5
  a5 := Tryz.isAgg5
  z5 := Tryz.sizeOf5
  v5 := Tryz.zeroValue5
  t9 := Tryz.underlying9
  a9 := Tryz.isAgg9
  z9 := Tryz.sizeOf9
  v9 := Tryz.zeroValue9
  t26 := Tryz.underlying43
  a26 := Tryz.isAgg43
  z26 := Tryz.sizeOf43
  v26 := Tryz.zeroValue43
  t27 := Tryz.underlying43
  a27 := Tryz.isAgg43
  z27 := Tryz.sizeOf43
  v27 := Tryz.zeroValue43
  t29 := Tryz.underlying9
  a29 := Tryz.isAgg9
  z29 := Tryz.sizeOf9
  v29 := Tryz.zeroValue9
  t32 := Tryz.underlying188
  a32 := Tryz.isAgg188
  z32 := Tryz.sizeOf188
  v32 := Tryz.zeroValue188
  t35 := Tryz.underlying199
  a35 := Tryz.isAgg199
  z35 := Tryz.sizeOf199
  v35 := Tryz.zeroValue199
  t36 := Tryz.underlying200
  a36 := Tryz.isAgg200
  z36 := Tryz.sizeOf200
  v36 := Tryz.zeroValue200
  t41 := Tryz.underlying132
  a41 := Tryz.isAgg132
  z41 := Tryz.sizeOf132
  v41 := Tryz.zeroValue132
  t44 := Tryz.underlying207
  a44 := Tryz.isAgg207
  z44 := Tryz.sizeOf207
  v44 := Tryz.zeroValue207
  t46 := Tryz.underlying184
  a46 := Tryz.isAgg184
  z46 := Tryz.sizeOf184
  v46 := Tryz.zeroValue184
  t53 := Tryz.underlying212
  a53 := Tryz.isAgg212
  z53 := Tryz.sizeOf212
  v53 := Tryz.zeroValue212
  t57 := Tryz.underlying216
  a57 := Tryz.isAgg216
  z57 := Tryz.sizeOf216
  v57 := Tryz.zeroValue216
  t63 := Tryz.underlying219
  a63 := Tryz.isAgg219
  z63 := Tryz.sizeOf219
  v63 := Tryz.zeroValue219
  t64 := Tryz.underlying220
  a64 := Tryz.isAgg220
  z64 := Tryz.sizeOf220
  v64 := Tryz.zeroValue220 }


theorem sorts_str (m : Nat) : Go.Proofs.AnyZ.SortsIn Tryz.prog lay_sorted_ren Fence.wide m :=
  ⟨fun blk off cap ss W hH hblk hsz => callsIn_wide.2 (Go.Proofs.AnyM.slices_Sort_string lay_sort blk off cap ss W hH hblk hsz),
   fun p cap W => callsIn_wide.2 (Go.Proofs.AnyM.slices_Sort_string_none lay_sort p cap W)⟩
theorem maps_keys (mb : Option Nat) (W : World) : Calls Tryz.prog 56 #[.map mb] W fun e w' => e = .returned (.func (.func 97) #[] #[.pointer (some ⟨W.heap.size, 0, none⟩)]) ∧ w' = W.alloc (.cells #[.map mb] 89) :=
  callsIn_wide.1 (Go.Proofs.AnyZ.keys_in lay_keys Fence.wide 5 trivial rfl mb W)
set_option maxHeartbeats 1000000 in
theorem slices_sorted {H : Type} (b nn : Nat) (D0 : DataW H) (R : Value → Option (DataW H × List MemPlace)) (w : World) (hown : w.ownsMap Tryz.prog 9 R b nn D0) (hmax : Maps.size D0 ≤ maxLen) (hbytes : Maps.size D0 * 16 ≤ 140737488355328) :
    Calls Tryz.prog 55 #[.func (.func 97) #[] #[.pointer (some ⟨w.heap.size, 0, none⟩)]] (w.alloc (.cells #[.map (some b)] 89)) fun e w' => ∃ (v : Value) (ss : List (List UInt8)), e = .returned v ∧ ss.Perm (strKeys D0) ∧
      w'.ownsRow (w.alloc (.cells #[.map (some b)] 89)).heap.size 9 1 v ss.length ((ss.mergeSort (fun x y => decide (x ≤ y))).map Go.Proofs.encStr) ∧ (v = .slice none 0 0 ↔ ss = []) ∧ Below (w.alloc (.cells #[.map (some b)] 89)).heap.size (w.alloc (.cells #[.map (some b)] 89)) w' := by
  have hbl := hown.lt
  have hseq : Go.SeqGives Fence.wide 2 Tryz.prog 97 #[.pointer (some ⟨w.heap.size, 0, none⟩)] Go.Proofs.encStr (fun ss => ss.Perm (strKeys D0)) (Maps.size D0) (w.alloc (.cells #[.map (some b)] 89)) :=
    Go.Proofs.AnyZ.keys_gives (ρ := lay_keys_ren) { lay_keys with } Fence.wide _ trivial rfl (by omega) w.heap.size b nn D0 _ (by simp) (by simp) (by
      obtain ⟨es, clock, hb, Ft, hs, hD⟩ := hown
      exact ⟨es, clock, (Below.heap_alloc _ _ b hbl).trans hb, Ft, hs, hD⟩)
  exact callsIn_wide.1 (Go.Proofs.AnyZ.sorted_in lay_sorted Fence.wide 5 trivial trivial trivial trivial rfl (by omega) (sorts_str _) (enters_of Tryz.func96 (by kernel_rfl) rfl) 97 #[.pointer (some ⟨w.heap.size, 0, none⟩)] trivial (enters_of Tryz.func97 (by kernel_rfl) rfl) _ _ hmax hbytes _ hseq)
end Go.Proofs.YtmioichjhiengaaGreat

/-
  Group.Keys: the keys that have panes, by rising.
-/
namespace Go.Proofs.YtmioichjhiengaaGreat
open Go.RowKit

/-- A text of these bytes. -/
def ofL8 (l : List UInt8) : ByteArray := ⟨l.toArray⟩
theorem ofL8_list (l : List UInt8) : (ofL8 l).toList = l := by rw [ByteArray.toList_eq]; rfl
theorem keys_mem {H : Type} {w : World} {k : TypeId} {R : Value → Option (DataW H × List MemPlace)} {b n : Nat} {D : DataW H} (h : w.ownsMap Tryz.prog 9 R b n D) : (strKeys D).Nodup ∧ ∀ x, x ∈ strKeys D ↔ Maps.has D (.string x) = true := by
  obtain ⟨es, hD, hpw, _⟩ := h.entries str_key
  obtain ⟨es', hD', hko⟩ := h.keysOf
  obtain rfl : es = es' := by rw [hD] at hD'; simpa using hD'
  subst hD
  have hk : ∀ p ∈ es, ∃ x, p.1 = .string x := fun p hp => by
    obtain ⟨v, hv⟩ := hko p hp
    obtain ⟨x, _, hx, _⟩ := Maps.keyOf_str Tryz.underlying9 hv
    exact ⟨x, hx⟩
  refine ⟨?_, fun x => ?_⟩
  · show (es.map fun p => strOf p.1).Nodup
    refine List.pairwise_map.2 (hpw.imp_of_mem fun {p q} hp' hq' hne e => hne ?_)
    obtain ⟨a, ha⟩ := hk p hp'
    obtain ⟨b, hb⟩ := hk q hq'
    rw [ha, hb] at e ⊢
    exact congrArg _ e
  · rw [Maps.has_eq, List.any_eq_true]
    show x ∈ es.map (fun p => strOf p.1) ↔ _
    rw [List.mem_map]
    constructor
    · rintro ⟨p, hp', rfl⟩
      obtain ⟨a, ha⟩ := hk p hp'
      exact ⟨p, hp', by rw [ha]; simp [Lit.sameKey, strOf]⟩
    · rintro ⟨p, hp', hs⟩
      obtain ⟨a, ha⟩ := hk p hp'
      rw [ha] at hs
      exact ⟨p, hp', by rw [ha]; simpa [Lit.sameKey, strOf] using hs⟩
theorem sort_rise {ss : List (List UInt8)} (hn : ss.Nodup) : RiseS ((ss.mergeSort (fun x y => decide (x ≤ y))).map ofL8) := by
  have tr : ∀ a b c : List UInt8, decide (a ≤ b) = true → decide (b ≤ c) = true → decide (a ≤ c) = true := fun a b c h1 h2 => by simp only [decide_eq_true_eq] at *; exact List.le_trans h1 h2
  have tot : ∀ a b : List UInt8, (decide (a ≤ b) || decide (b ≤ a)) = true := fun a b => by simp only [Bool.or_eq_true, decide_eq_true_eq]; exact List.le_total a b
  have h1 := List.pairwise_mergeSort tr tot ss
  have h2 : (ss.mergeSort (fun x y => decide (x ≤ y))).Nodup := ((List.mergeSort_perm ss _).nodup_iff).2 hn
  unfold RiseS
  refine List.pairwise_map.2 ((List.pairwise_and_iff.2 ⟨h1, h2⟩).imp ?_)
  rintro a b ⟨h3, h4⟩
  have h5 : a ≤ b := by simpa using h3
  unfold ltB
  rw [ofL8_list, ofL8_list, bytesLess_eq, decide_eq_true_eq]
  rcases List.le_iff_lt_or_eq.1 h5 with h | h
  · exact h
  · exact absurd h h4
theorem enc_ofL8 (l : List (List UInt8)) : l.map Go.Proofs.encStr = flat encS (l.map ofL8) := by
  induction l with
  | nil => rfl
  | cons a l ih =>
    show Go.Proofs.encStr a :: l.map Go.Proofs.encStr = encS (ofL8 a) ++ flat encS (l.map ofL8)
    rw [ih]
    rfl
/-- The keys of a map that have panes. -/
def KeysOfM (M : KM) (ks : List ByteArray) : Prop := RiseS ks ∧ (∀ x ∈ ks, x.size ≤ maxLen) ∧ ∀ x : ByteArray, x.size ≤ maxLen → (x ∈ ks ↔ M x ≠ [])
def KeysDone (w : World) (M : KM) (e : Ending) (w' : World) : Prop := ∃ v ks, e = .returned v ∧ KRow w' w.heap.size v ks ∧ KeysOfM M ks ∧ Keep none_ w w'
theorem keysOfM_of {w : World} {mp N : Nat} {F : Nat → Prop} {M : KM} (h : MapAt w mp N F M) : ∃ n D, w.ownsMap Tryz.prog 9 RVs mp n D ∧ Maps.size D ≤ N ∧ ∀ ss : List (List UInt8), ss.Perm (strKeys D) → KeysOfM M ((ss.mergeSort (fun x y => decide (x ≤ y))).map ofL8) := by
  obtain ⟨n, D, hown, hsz, hn, -, hhas⟩ := map_val h
  refine ⟨n, D, hown, Nat.le_trans hsz hn, fun ss hp => ?_⟩
  obtain ⟨hnd, hmem⟩ := keys_mem (k := 9) hown
  have hle := strKeys_le hown Tryz.underlying9
  have hm : ∀ x : ByteArray, x ∈ (ss.mergeSort (fun x y => decide (x ≤ y))).map ofL8 ↔ x.data.toList ∈ strKeys D := fun x => by
    rw [List.mem_map]
    constructor
    · rintro ⟨l, hl, rfl⟩
      have : l ∈ strKeys D := hp.mem_iff.1 ((List.mergeSort_perm ss _).mem_iff.1 hl)
      simpa [ofL8] using this
    · intro hx
      exact ⟨x.data.toList, (List.mergeSort_perm ss _).mem_iff.2 (hp.mem_iff.2 hx), by unfold ofL8; simp⟩
  refine ⟨sort_rise ((hp.nodup_iff).2 hnd), fun x hx => ?_, fun x hx => ?_⟩
  · have := hle _ ((hm x).1 hx)
    rw [Array.length_toList] at this
    exact this
  · rw [hm, hmem, hhas x hx]
set_option maxHeartbeats 1000000 in
theorem group_keys {w : World} {gp mp tp N Q : Nat} {c : Config} {vq : Value} {X : Nat → Prop} {M : KM} {T : List Timer} (h : GrpAt w gp mp tp N Q c vq X M T) (hQ : Q ≤ 1000000) :
    Calls Tryz.prog 16 #[.pointer (some ⟨gp, 0, none⟩)] w (KeysDone w M) := by
  have c8 : w.cell? ⟨gp, 8, none⟩ = some (.map (some mp)) := At.cell h.self 8
  obtain ⟨n, D, hown, hsz, hall⟩ := keysOfM_of h.map
  have c1 := Lib.hid (maps_keys (some mp) w)
  have c2 := Lib.hid (slices_sorted mp n D RVs w hown (by unfold maxLen; omega) (by omega))
  have k0 : Keep none_ w (w.alloc (.cells #[.map (some mp)] 89)) := (by repeat' (first | assumption | with_reducible exact Keep.refl _ _ | with_reducible refine Keep.alloc ?_ _ | with_reducible refine Keep.drew ?_))
  have hb0 : w.heap.size ≤ (w.alloc (.cells #[.map (some mp)] 89)).heap.size := by simp
  replace hall := Lib.hid hall
  clear h hown hsz
  go_enter Tryz.func16, Tryz.ntmps16
  go_wp2_with fail
  refine c1.out.mono ?_
  rintro e w1 ⟨rfl, rfl⟩
  go_wp2_with fail
  refine c2.out.mono ?_
  rintro e w2 ⟨v, ss, rfl, hp, hrow, -, hb⟩
  have hK := hall.out ss hp
  rw [enc_ofL8] at hrow
  have hl : ss.length = ((ss.mergeSort (fun x y => decide (x ≤ y))).map ofL8).length := by rw [List.length_map, List.length_mergeSort]
  rw [hl] at hrow
  generalize (ss.mergeSort (fun x y => decide (x ≤ y))).map ofL8 = ks at *
  have hrow2 : KRow w2 w.heap.size v ks := own_lower hrow hb0
  obtain ⟨A, d, rfl⟩ := own_form hrow
  have hfin : KeysDone w M (.returned (.slice A ks.length d)) w2 := ⟨_, ks, rfl, hrow2, hK, k0.trans (keep0 hb)⟩
  clear hrow hrow2 hK hl hp c1 c2 hall
  go_wp2_with fail
  go_ret
  exact hfin
end Go.Proofs.YtmioichjhiengaaGreat

/-
  GroupPlays: a group and the reference's, side by side, with a deed's block (plain).
-/
namespace Go.Proofs.YtmioichjhiengaaGreat
open Go.RowKit

/-- What a deed comes to. -/
def DidG (c : Config) (set : Bool) (key : ByteArray) (t v mark : Int) (M : KM) (code : Int) (O : List Pane) (M2 : KM) : Prop :=
  ∃ M1, Steps c.late mark M O M1 ∧ Calm c.late mark M1 ∧ ((set = true ∧ code = 0 ∧ M2 = M1) ∨ (set = false ∧ ((ofL c t = none ∧ code = 4 ∧ M2 = M1) ∨ ∃ l, ofL c t = some l ∧ code = codeG c.late mark l ∧ M2 = takeM c.kind c.late mark key v l M1)))
theorem DidG.uniq {c : Config} {set : Bool} {key : ByteArray} {t v mark : Int} {M M2 N2 : KM} {code dode : Int} {O P : List Pane} (hk : KMOK M) (h : DidG c set key t v mark M code O M2) (h2 : DidG c set key t v mark M dode P N2) : code = dode ∧ O = P ∧ M2 = N2 := by
  obtain ⟨M1, a1, a2, a3⟩ := h
  obtain ⟨N1, b1, b2, b3⟩ := h2
  obtain ⟨rfl, rfl⟩ := Steps.uniq hk a1 a2 b1 b2
  rcases a3 with ⟨e1, rfl, rfl⟩ | ⟨e1, a3⟩
  · rcases b3 with ⟨-, rfl, rfl⟩ | ⟨e2, -⟩
    · exact ⟨rfl, rfl, rfl⟩
    · rw [e1] at e2; cases e2
  · rcases b3 with ⟨e2, -⟩ | ⟨-, b3⟩
    · rw [e1] at e2; cases e2
    · rcases a3 with ⟨h1, rfl, rfl⟩ | ⟨l, h1, rfl, rfl⟩
      · rcases b3 with ⟨-, rfl, rfl⟩ | ⟨l, h3, -⟩
        · exact ⟨rfl, rfl, rfl⟩
        · rw [h1] at h3; cases h3
      · rcases b3 with ⟨h3, -⟩ | ⟨l2, h3, rfl, rfl⟩
        · rw [h1] at h3; cases h3
        · rw [h1] at h3
          obtain rfl := Option.some.inj h3
          exact ⟨rfl, rfl, rfl⟩
structure GpSt (W wr : World) (gp mp tp p db k : Nat) (c : Config) (dc : Array Value) (vq : Value) (T : List Timer) (M : KM) (A : Option Addr) (d : Nat) (L : List Pane) : Prop where
  st : AskSt W wr gp mp tp p k c vq T M A d L
  deed : At wr db dc 38
  nd : ¬ grpF mp tp vq db ∧ db ≠ p ∧ (∀ a, A = some a → a.block ≠ db) ∧ W.heap.size ≤ db
/-- The group did it, the reference not yet. -/
structure GpMid (W w0 wr : World) (gp mp tp p db k : Nat) (c : Config) (dc : Array Value) (set : Bool) (key : ByteArray) (t v mark : Int) (code : Int) (O : List Pane) (vq : Value) (T : List Timer) (M M2 : KM) (A : Option Addr) (d : Nat) (L : List Pane) : Prop where
  grp : GrpAt wr gp mp tp (16 * k + 16) (1000 * k + 16 * k + 16) c vq (fun q => q = p) M2 T
  ref : RGAt wr p c A d L
  rel : RelL L M
  good : GoodM (16 * k) c.kind M
  did : DidG c set key t v mark M code O M2
  nF : ¬ grpF mp tp vq p ∧ p ≠ gp ∧ (∀ a, A = some a → ¬ grpF mp tp vq a.block)
  keep : Keep none_ W wr
  lowp : W.heap.size ≤ p
  lowF : ∀ q, grpF mp tp vq q → W.heap.size ≤ q
  len : L.length ≤ 16 * k
  deed : At wr db dc 38
  nd : ¬ grpF mp tp vq db ∧ db ≠ p ∧ (∀ a, A = some a → a.block ≠ db) ∧ W.heap.size ≤ db
  old : p < w0.heap.size ∧ db < w0.heap.size ∧ w0.heap.size ≤ wr.heap.size
section
variable {W wr w' : World} {gp mp tp p db k : Nat} {c : Config} {dc : Array Value} {vq : Value} {T : List Timer} {M : KM} {A : Option Addr} {d : Nat} {L : List Pane}
theorem GpSt.still (h : GpSt W wr gp mp tp p db k c dc vq T M A d L) (kz : Keep none_ wr w') : GpSt W w' gp mp tp p db k c dc vq T M A d L :=
  ⟨h.st.still kz, Keep.at kz h.deed (fun e => e), h.nd⟩
theorem GpSt.of (st : AskSt W wr gp mp tp p k c vq T M A d L) {n : Nat} (hn : n = wr.heap.size) {w2 : World} (kz : Keep none_ wr w2) (hd : At w2 n dc 38) : GpSt W w2 gp mp tp p n k c dc vq T M A d L := by
  subst hn
  have hF := st.grp.F_lt
  have hp := st.ref.at_.lt
  exact ⟨st.still kz, hd, fun e => by have := hF _ e; omega, by omega, fun a ha => by have := st.ref.lt a ha; omega, st.keep.size⟩
theorem GpSt.toMid {w1 w2 : World} {N' Q' : Nat} {set : Bool} {key : ByteArray} {t v mark code : Int} {O : List Pane} {vq2 : Value} {T2 : List Timer} {M2 : KM} (h : GpSt W wr gp mp tp p db k c dc vq T M A d L) (kz : Keep none_ wr w1) (hg : GrpAt w2 gp mp tp N' Q' c vq2 (fun q => q = p) M2 T2) (hN : N' ≤ 16 * k + 16) (hQ : Q' ≤ 1000 * k + 16 * k + 16) (k2 : Keep (grpF mp tp vq) w1 w2) (so : SameOwn w1 vq vq2) (hd : DidG c set key t v mark M code O M2) :
    GpMid W w1 w2 gp mp tp p db k c dc set key t v mark code O vq2 T2 M M2 A d L := by
  obtain ⟨h1, h2, h3, h4⟩ := h.st.changed kz hg k2 so
  have hdl := h.deed.lt
  have hs1 := kz.size
  have hp := h.st.ref.at_.lt
  have hsub : ∀ q, q < w1.heap.size → grpF mp tp vq2 q → grpF mp tp vq q := fun q hq e => by
    rcases e with e | e
    · exact .inl e
    · exact .inr (so.set q hq e)
  exact ⟨hg.up hN hQ, h1, h.st.rel, h.st.good, hd, h2, h3, h.st.lowp, h4, h.st.len, Keep.at k2 (Keep.at kz h.deed (fun e => e)) h.nd.1, ⟨fun e => h.nd.1 (hsub db (by omega) e), h.nd.2⟩, by omega, by omega, k2.size⟩
theorem GpSt.settle {w1 w2 : World} {mark : Int} {key : ByteArray} {t v : Int} {e : Ending} (h : GpSt W wr gp mp tp p db k c dc vq T M A d L) (kz : Keep none_ wr w1) (hd : Settled w1 gp mp tp (16 * k) (1000 * k) c vq (fun q => q = p) mark M e w2) :
    ∃ A1 n1 d1 O vq2 T2 M2, e = .returned (.slice A1 n1 d1) ∧ Sl Pane.cells 7 w2 A1 n1 d1 O ∧ (∀ a, A1 = some a → w1.heap.size ≤ a.block) ∧ GpMid W w1 w2 gp mp tp p db k c dc true key t v mark 0 O vq2 T2 M M2 A d L := by
  obtain ⟨vo, O, M2, vq2, T2, rfl, hst, hcalm, hg, ob, row, k2⟩ := hd
  obtain ⟨A1, d1, rfl⟩ := own_form row
  exact ⟨A1, _, d1, O, vq2, T2, M2, rfl, Sl.of_own pane_len (by decide) row, fun a ha => (row.lt a.block (by subst ha; rfl)).1, h.toMid kz hg (by omega) (by omega) k2 (.inl ob) ⟨M2, hst, hcalm, .inl ⟨rfl, rfl, rfl⟩⟩⟩
theorem GpSt.take {w1 w2 : World} {mark : Int} {key : ByteArray} {t v : Int} {e : Ending} (h : GpSt W wr gp mp tp p db k c dc vq T M A d L) (kz : Keep none_ wr w1) (hd : Taken w1 gp mp tp (16 * k) (1000 * k) c vq (fun q => q = p) mark key t v M e w2) :
    ∃ code A1 n1 d1 O vq2 T2 M2, e = .returned (.tuple #[.int .i64 code, .slice A1 n1 d1]) ∧ Sl Pane.cells 7 w2 A1 n1 d1 O ∧ (∀ a, A1 = some a → w1.heap.size ≤ a.block) ∧ GpMid W w1 w2 gp mp tp p db k c dc false key t v mark code O vq2 T2 M M2 A d L := by
  obtain ⟨vo, O, M1, M2, code, rfl, hst, hcalm, hM, ⟨vq2, T2, hg, k2, so⟩, row⟩ := hd
  obtain ⟨A1, d1, rfl⟩ := own_form row
  exact ⟨code, A1, _, d1, O, vq2, T2, M2, rfl, Sl.of_own pane_len (by decide) row, fun a ha => (row.lt a.block (by subst ha; rfl)).1, h.toMid kz hg (by omega) (by omega) k2 so ⟨M1, hst, hcalm, .inr ⟨rfl, hM⟩⟩⟩
end
section
variable {W w0 wr w' : World} {gp mp tp p db k : Nat} {c : Config} {dc : Array Value} {set : Bool} {key : ByteArray} {t v mark code : Int} {O : List Pane} {vq : Value} {T : List Timer} {M M2 : KM} {A : Option Addr} {d : Nat} {L : List Pane}
theorem GpMid.still (h : GpMid W w0 wr gp mp tp p db k c dc set key t v mark code O vq T M M2 A d L) (kz : Keep none_ wr w') : GpMid W w0 w' gp mp tp p db k c dc set key t v mark code O vq T M M2 A d L :=
  ⟨h.grp.none kz, h.ref.none kz, h.rel, h.good, h.did, h.nF, h.keep.trans kz, h.lowp, h.lowF, h.len, Keep.at kz h.deed (fun e => e), h.nd, h.old.1, h.old.2.1, Nat.le_trans h.old.2.2 kz.size⟩
theorem GpMid.toSt {w1 w2 : World} {A' : Option Addr} {d' : Nat} {L' : List Pane} (h : GpMid W w0 wr gp mp tp p db k c dc set key t v mark code O vq T M M2 A d L) (hk : k < 61) (kz : Keep none_ wr w1) (hat : RGAt w2 p c A' d' L') (hrel : RelL L' M2) (hgood : GoodM (16 * k + 16) c.kind M2) (k2 : Keep (one p) w1 w2) (hown : ∀ a, A' = some a → A = some a ∨ w1.heap.size ≤ a.block) (hlen : L'.length ≤ L.length + 16) :
    GpSt W w2 gp mp tp p db (k + 1) c dc vq T M2 A' d' L' := by
  have hp := h.ref.at_.lt
  have hs1 := kz.size
  have hgf := h.grp.F_lt
  have hgl := h.grp.self.lt
  have hdl := h.deed.lt
  have hg2 := ((h.grp.none kz).up (N' := 16 * (k + 1)) (Q' := 1000 * (k + 1)) (by omega) (by omega)).shift (X' := fun q => q = p) k2 (fun q _ e => e) (fun q e => by unfold one at e; rw [e]; exact h.nF.1) (fun e => h.nF.2.1 e.symm) (fun q _ e => e) (fun q e => by rw [e]; exact hat.at_.lt)
  exact ⟨⟨hg2, hat, hrel, hgood.up (by omega), ⟨h.nF.1, h.nF.2.1, fun a ha e => by
    rcases hown a ha with e2 | e2
    · exact h.nF.2.2 a e2 e
    · have := hgf _ e; omega⟩, Keep.fresh (h.keep.trans kz) k2 (fun q hq e => by unfold one at e; have := h.lowp; omega), h.lowp, h.lowF, by have := h.len; omega⟩,
    Keep.at k2 (Keep.at kz h.deed (fun e => e)) (fun e => h.nd.2.1 e), h.nd.1, h.nd.2.1, fun a ha e => by
      rcases hown a ha with e2 | e2
      · exact h.nd.2.2.1 a e2 e
      · omega, h.nd.2.2.2⟩
theorem GpMid.settle {w1 w2 : World} {e : Ending} (h : GpMid W w0 wr gp mp tp p db k c dc true key t v mark code O vq T M M2 A d L) (hk : k < 61) (kz : Keep none_ wr w1) (hd : RSettled w1 p c A L mark M e w2) :
    ∃ A1 n1 d1 A' d' L', e = .returned (.slice A1 n1 d1) ∧ Sl Pane.cells 7 w2 A1 n1 d1 O ∧ Keep (one p) w1 w2 ∧ GpSt W w2 gp mp tp p db (k + 1) c dc vq T M2 A' d' L' := by
  obtain ⟨vo, P, A', d', L', N2, rfl, row, hst, hcalm, hrel, hat, k2, hown, hlen⟩ := hd
  obtain ⟨-, rfl, rfl⟩ := DidG.uniq h.good.km h.did (⟨N2, hst, hcalm, .inl ⟨rfl, rfl, rfl⟩⟩ : DidG c true key t v mark M 0 P N2)
  obtain ⟨A1, d1, rfl⟩ := own_form row
  exact ⟨A1, _, d1, A', d', L', rfl, Sl.of_own pane_len (by decide) row, k2, h.toSt hk kz hat hrel ((h.good.steps hst).up (by omega)) k2 hown (by omega)⟩
theorem GpMid.take {w1 w2 : World} {e : Ending} (h : GpMid W w0 wr gp mp tp p db k c dc false key t v mark code O vq T M M2 A d L) (hk : k < 61) (kz : Keep none_ wr w1) (hd : RTaken w1 p (16 * k) c A L mark key t v M e w2) :
    ∃ A1 n1 d1 A' d' L', e = .returned (.tuple #[.int .i64 code, .slice A1 n1 d1]) ∧ Sl Pane.cells 7 w2 A1 n1 d1 O ∧ Keep (one p) w1 w2 ∧ GpSt W w2 gp mp tp p db (k + 1) c dc vq T M2 A' d' L' := by
  obtain ⟨dode, vo, P, A', d', L', N1, N2, rfl, row, hst, hcalm, hN, hrel, hgood, hat, k2, hown, hlen⟩ := hd
  obtain ⟨rfl, rfl, rfl⟩ := DidG.uniq h.good.km h.did (⟨N1, hst, hcalm, .inr ⟨rfl, hN⟩⟩ : DidG c false key t v mark M dode P N2)
  obtain ⟨A1, d1, rfl⟩ := own_form row
  exact ⟨A1, _, d1, A', d', L', rfl, Sl.of_own pane_len (by decide) row, k2, h.toSt hk kz hat hrel hgood k2 hown hlen⟩
end
theorem group_due {w : World} {gp mp tp N Q : Nat} {c : Config} {vq : Value} {X : Nat → Prop} {M : KM} {T : List Timer} (h : GrpAt w gp mp tp N Q c vq X M T) :
    Calls Tryz.prog 19 #[.pointer (some ⟨gp, 0, none⟩)] w fun e w' => e = .returned (.int .i64 T.length) ∧ w = w' := by
  have c9 : w.cell? ⟨gp, 9, none⟩ = some (.pointer (some ⟨tp, 0, none⟩)) := At.cell h.self 9
  have ca := Lib.hid (timers_len h.tim)
  clear h
  go_enter Tryz.func19, Tryz.ntmps19
  go_wp2_with fail
  refine ca.out.mono ?_
  rintro e w' ⟨rfl, rfl⟩
  go_wp2_with fail
  go_ret
  exact ⟨rfl, rfl⟩
theorem keys_same {L : List Pane} {M : KM} (hr : RelL L M) (hk : KMOK M) {ks : List ByteArray} (h : KeysOfM M ks) : keysS L [] = ks := by
  refine rise_eq (keysS_rise L List.Pairwise.nil) h.1 (fun x => ?_)
  rw [keysS_mem]
  constructor
  · rintro (⟨p, hp, rfl⟩ | h2)
    · refine (h.2.2 p.key (hr.key p hp)).2 (fun e => ?_)
      have := (hr.mem p).1 hp
      rw [e] at this
      cases this
    · cases h2
  · intro hx
    have h1 := (h.2.2 x (h.2.1 x hx)).1 hx
    obtain ⟨p, hp⟩ := List.exists_mem_of_ne_nil _ h1
    have e := hk.key x p hp
    exact .inl ⟨p, (hr.mem p).2 (by rw [e]; exact hp), e⟩
end Go.Proofs.YtmioichjhiengaaGreat
