/-
  The contracts of package owner: whose a group is.
-/
import Derived.Test.YtpkfckcilpiabaaGreatFlat
import Derived.Test.YtpkfckcilpiabaaGreatRegion
import Derived.Test.YtpkfckcilpiabaaGreatErr
import Derived.Test.YtpkfckcilpiabaaGreatArg
import Derived.Test.YtpkfckcilpiabaaGreatData
import Derived.Outline
namespace Go.Proofs.YtpkfckcilpiabaaGreat
open Go.RowKit

theorem own_cells_len (x : Own) : x.cells.length = 3 := rfl
theorem ownInfo : (Tryz.prog.info? 72).map (fun i => (i.zero, i.size, i.bytes)) = some (some (.agg #[.int .i64 0, .int .i64 0, .bool false]), 3, 24) := by kernel_rfl
def Own.zero : Own := ⟨0, 0, false⟩

/-- A table: its struct in block p, its owners in block g. -/
structure TabAt (w : World) (p g : Nat) (t : List Own) (sh : Nat) : Prop where
  ne : p ≠ g
  lo : 1 ≤ t.length
  hi : t.length ≤ 16
  slo : 1 ≤ sh
  shi : sh ≤ 8
  self : At w p #[.slice (some ⟨g, 0, none⟩) t.length t.length, .int .i64 sh] 70
  row : Flat Own.cells w g t 72
theorem TabAt.keep {S : Nat → Prop} {w w' : World} {p g sh : Nat} {t : List Own} (h : TabAt w p g t sh) (kk : Keep S w w') (hp : ¬ S p) (hg : ¬ S g) : TabAt w' p g t sh :=
  ⟨h.ne, h.lo, h.hi, h.slo, h.shi, kk.at h.self hp, h.row.keep kk hg⟩

def initT (n s : Nat) : List Own := (List.range n).map fun i => ⟨((i % s : Nat) : Int), 0, false⟩
def partT (n s j : Nat) : List Own := (List.range n).map fun i => if i < j then ⟨((i % s : Nat) : Int), 0, false⟩ else Own.zero
theorem partT_zero (n s : Nat) : partT n s 0 = List.replicate n Own.zero := by
  apply List.ext_getElem <;> simp [partT]
theorem partT_all (n s : Nat) : partT n s n = initT n s := by
  apply List.ext_getElem
  · simp [partT, initT]
  · intro i h1 h2
    simp [partT, initT] at h1 h2 ⊢
    omega
theorem partT_len (n s j : Nat) : (partT n s j).length = n := by simp [partT]
theorem initT_len (n s : Nat) : (initT n s).length = n := by simp [initT]
theorem partT_get (n s j : Nat) (h : j < n) : (partT n s j)[j]'(by rw [partT_len]; exact h) = Own.zero := by simp [partT]
theorem partT_set (n s j : Nat) (h : j < n) : (partT n s j).set j ⟨((j % s : Nat) : Int), 0, false⟩ = partT n s (j + 1) := by
  apply List.ext_getElem
  · simp [partT]
  · intro i h1 h2
    by_cases e : j = i
    · subst e; simp [partT]
    · rw [List.getElem_set_ne e]
      simp only [partT, List.getElem_map, List.getElem_range]
      by_cases h3 : i < j
      · rw [if_pos h3, if_pos (by omega)]
      · rw [if_neg h3, if_neg (by omega)]

def NewTab (w : World) (n s : Nat) (e : Ending) (w' : World) : Prop :=
  ∃ p g, e = .returned (.tuple #[.pointer (some ⟨p, 0, none⟩), .nilIface]) ∧ Keep none_ w w' ∧ w.heap.size ≤ p ∧ w.heap.size ≤ g ∧ TabAt w' p g (initT n s) s

set_option maxRecDepth 100000 in
theorem owner_new (w : World) (n s : Nat) (h1 : 1 ≤ n) (h2 : n ≤ 16) (h3 : 1 ≤ s) (h4 : s ≤ 8) : Calls Tryz.prog 11 #[.int .i64 n, .int .i64 s] w (NewTab w n s) := by
  obtain ⟨i0, hi, hz0, hz1, hz2⟩ := info_parts ownInfo
  have hmk := fun w => run_make w 68 72 i0 _ Tryz.underlying68 hi hz0 .i64 .i64 (n : Int) (n : Int) (by omega) (Int.le_refl _) (by rw [hz2]; omega) (by omega)
  have n1 : ¬ (16 < (n : Int)) := by omega
  have n2 : ¬ (8 < (s : Int)) := by omega
  simp only [Int.toNat_natCast] at hmk
  rw [hz1] at hmk
  have hmf := made_flat (enc := Own.cells) own_cells_len (by decide) #[.int .i64 0, .int .i64 0, .bool false] Own.zero rfl n
  rw [← partT_zero n s] at hmf
  simp only [Value.cells] at hmk
  generalize madeCells #[.int .i64 0, .int .i64 0, .bool false] (n * 3) = mc at *
  clear hi hz0 hz1 hz2
  replace hmf := Lib.hid hmf
  have ha := At.newAt (w := w.alloc (.cells mc 72)) (n := w.heap.size + 1) (by simp) #[.slice (some ⟨w.heap.size, 0, none⟩) n n, .int .i64 s] 70
  have hr := (Flat.new w mc 72 (partT n s 0) hmf.out).alloc (.cells #[.slice (some ⟨w.heap.size, 0, none⟩) n n, .int .i64 s] 70)
  have k0 : Keep none_ w ((w.alloc (.cells mc 72)).alloc (.cells #[.slice (some ⟨w.heap.size, 0, none⟩) n n, .int .i64 s] 70)) := (by repeat' (first | assumption | with_reducible exact Keep.refl _ _ | with_reducible refine Keep.alloc ?_ _ | with_reducible refine Keep.drew ?_))
  have cp := At.cell ha
  go_enter Tryz.func11, Tryz.ntmps11
  go_wp2_with fail
  clear hmk
  generalize (w.alloc _).alloc _ = w1 at *
  go_loopw [7, 33] (fun _ i wr => ∃ j : Nat, j ≤ n ∧ i = .int .i64 j ∧ Keep none_ w wr ∧ At wr (w.heap.size + 1) #[.slice (some ⟨w.heap.size, 0, none⟩) n n, .int .i64 s] 70 ∧ Flat Own.cells wr w.heap.size (partT n s j) 72)
    (fun _ i _ => n - (intOf i).toNat)
  case atStart => exact ⟨0, Nat.zero_le _, rfl, k0, ha, hr⟩
  case round =>
    clear k0 ha hr cp
    obtain ⟨j, hj, rfl, k0, ha, hr⟩ := hrel
    by_cases hlt : j < n
    · have s2 : (j : Int).tmod (s : Int) = ((j % s : Nat) : Int) := by rw [Int.ofNat_tmod]
      have s3 : (s : Int) ≠ 0 := by omega
      have hjl : j < (partT n s j).length := by rw [partT_len]; exact hlt
      obtain ⟨ι, hne, f, hf0, hfk, hfa⟩ := class_of none_ wr
      have cf : ∀ n i, (f n).cell? ⟨w.heap.size + 1, i, none⟩ = _ := fun n => At.cell (Keep.at (hfk n) ha (fun e => e))
      go_wp2_with fail
      refine wp_region_class_tail f 10 (by kernel_rfl) (by kernel_rfl) hf0 ?_
      simp only [List.take_succ_cons, List.take_zero, List.drop_succ_cons, List.drop_zero]
      repeat (go_big_quiet_step (fail))
      refine wpQuiet_nil ?_
      intro m
      replace ha := Keep.at (hfk m) ha (fun e => e)
      replace hr := hr.keep (hfk m) (fun e => e)
      replace k0 := k0.trans (hfk m)
      clear cf hf0 hfk hfa
      generalize f m = w2 at *
      have c0 : w2.cell? ⟨w.heap.size, j * 3, none⟩ = some _ := (hr.cell own_cells_len hjl 0 (by omega)).trans (List.getElem?_eq_getElem (by simp [Own.cells]))
      have f0 := hr.frozen
      go_wp2_with fail
      go_roundw
      case rel =>
        refine ⟨j + 1, by omega, by go_num, Keep.setNew k0 (Nat.le_refl _) _, At.set_other ha (by simp) _, ?_⟩
        have := hr.set own_cells_len hjl ⟨((j % s : Nat) : Int), 0, false⟩ 0 (.int .i64 ((j % s : Nat) : Int)) (by omega) (by rw [partT_get n s j hlt]; rfl)
        rw [partT_set n s j hlt] at this
        exact this
      case measure => simp [intOf]; omega
    · obtain rfl : j = n := by omega
      go_wp2_with fail
      go_ret2
      refine ⟨_, _, rfl, k0, by omega, Nat.le_refl _, ⟨by omega, by rw [initT_len]; omega, by rw [initT_len]; omega, h3, h4, by rw [initT_len]; exact ha, by rw [← partT_all]; exact hr⟩⟩

theorem owner_new_no (w : World) (n s : Int) (h : n < 1 ∨ 16 < n ∨ s < 1 ∨ 8 < s) : Calls Tryz.prog 11 #[.int .i64 n, .int .i64 s] w fun e w' =>
    e = .returned (.tuple #[.pointer none, errV 1]) ∧ w = w' := by
  by_cases h1 : n < 1
  · go_enter Tryz.func11, Tryz.ntmps11
    go_wp2
    go_ret2
    exact ⟨rfl, rfl⟩
  by_cases h2 : 16 < n
  · go_enter Tryz.func11, Tryz.ntmps11
    go_wp2
    go_ret2
    exact ⟨rfl, rfl⟩
  by_cases h3 : s < 1
  · go_enter Tryz.func11, Tryz.ntmps11
    go_wp2
    go_ret2
    exact ⟨rfl, rfl⟩
  · have h4 : 8 < s := by omega
    clear h
    go_enter Tryz.func11, Tryz.ntmps11
    go_wp2
    go_ret2
    exact ⟨rfl, rfl⟩

section
variable {w : World} {p g sh : Nat} {t : List Own}
theorem owner_in (h : TabAt w p g t sh) (i : Int) : Calls Tryz.prog 85 #[.pointer (some ⟨p, 0, none⟩), .int .i64 i] w fun e w' =>
    e = .returned (.bool (decide (0 ≤ i) && decide (i < t.length))) ∧ w = w' := by
  have cp := At.cell h.self
  by_cases h0 : 0 ≤ i
  · go_enter Tryz.func85, Tryz.ntmps85
    go_wp2
    go_ret
    exact ⟨by simp [h0], rfl⟩
  · have h0' : decide (0 ≤ i) = false := by simpa using h0
    go_enter Tryz.func85, Tryz.ntmps85
    go_wp2
    go_ret
    exact ⟨by simp [h0'], rfl⟩
theorem owner_shards (h : TabAt w p g t sh) : Calls Tryz.prog 113 #[.pointer (some ⟨p, 0, none⟩)] w fun e w' =>
    e = .returned (.int .i64 sh) ∧ w = w' := by
  have cp := At.cell h.self
  go_enter Tryz.func113, Tryz.ntmps113
  go_wp2
  go_ret
  exact ⟨rfl, rfl⟩
theorem in_no {i : Int} {n : Nat} (hi : i < 0 ∨ (n : Int) ≤ i) : (decide (0 ≤ i) && decide (i < n)) = false := by
  rcases hi with h | h
  · have : decide (0 ≤ i) = false := by simp; omega
    simp [this]
  · have : decide (i < (n : Int)) = false := by simp; omega
    simp [this]
theorem in_yes {i n : Nat} (hi : i < n) : (decide (0 ≤ (i : Int)) && decide ((i : Int) < n)) = true := by simp [hi]

theorem owner_of_no (h : TabAt w p g t sh) (i : Int) (hi : i < 0 ∨ (t.length : Int) ≤ i) : Calls Tryz.prog 93 #[.pointer (some ⟨p, 0, none⟩), .int .i64 i] w fun e w' =>
    e = .returned (.tuple #[.agg Own.zero.cells.toArray, .bool false]) ∧ Keep none_ w w' := by
  have c1 := fun w' (k : Keep none_ w w') => owner_in (h.keep k (fun e => e) (fun e => e)) i
  simp only [in_no hi] at c1
  have k1 : Keep none_ w (w.alloc (.cells #[.int .i64 0, .int .i64 0, .bool false] 72)) := (by repeat' (first | assumption | with_reducible exact Keep.refl _ _ | with_reducible refine Keep.alloc ?_ _ | with_reducible refine Keep.drew ?_))
  replace c1 := Lib.hid (c1 _ k1)
  clear hi h
  simp only [Own.zero, Own.cells]
  go_enter Tryz.func93, Tryz.ntmps93
  go_wp2_with fail
  refine c1.out.mono ?_
  rintro e w' ⟨rfl, rfl⟩
  go_wp2_with fail
  exact bodyPost_ret (v := .tuple #[.agg #[.int .i64 0, .int .i64 0, .bool false], .bool false]) (by simp [results, Tryz.results93, go_sem]) rfl ⟨rfl, (by repeat' (first | assumption | with_reducible exact Keep.refl _ _ | with_reducible refine Keep.alloc ?_ _ | with_reducible refine Keep.drew ?_))⟩
theorem owner_of (h : TabAt w p g t sh) (i : Nat) (hi : i < t.length) : Calls Tryz.prog 93 #[.pointer (some ⟨p, 0, none⟩), .int .i64 i] w fun e w' =>
    e = .returned (.tuple #[.agg t[i].cells.toArray, .bool true]) ∧ Keep none_ w w' := by
  have k1 : Keep none_ w (w.alloc (.cells #[.int .i64 0, .int .i64 0, .bool false] 72)) := (by repeat' (first | assumption | with_reducible exact Keep.refl _ _ | with_reducible refine Keep.alloc ?_ _ | with_reducible refine Keep.drew ?_))
  have h' := h.keep k1 (fun e => e) (fun e => e)
  have c1 := owner_in h' i
  rw [in_yes hi] at c1
  replace c1 := Lib.hid c1
  have cp := At.cell h'.self
  have c2 := h'.row.cell own_cells_len hi 0 (by omega)
  have c3 := h'.row.cell own_cells_len hi 1 (by omega)
  have c4 := h'.row.cell own_cells_len hi 2 (by omega)
  have hl := h.hi
  clear h h'
  generalize t[i] = x at *
  obtain ⟨s, v, m⟩ := x
  simp only [Own.cells, List.getElem?_cons_zero, List.getElem?_cons_succ, Nat.add_zero] at c2 c3 c4 ⊢
  go_enter Tryz.func93, Tryz.ntmps93
  go_wp2_with fail
  refine c1.out.mono ?_
  rintro e w' ⟨rfl, rfl⟩
  go_wp2_with fail
  exact bodyPost_ret (v := .tuple #[.agg #[.int .i64 s, .int .i64 v, .bool m], .bool true]) (by simp [results, Tryz.results93, go_sem]) rfl ⟨rfl, (by repeat' (first | assumption | with_reducible exact Keep.refl _ _ | with_reducible refine Keep.alloc ?_ _ | with_reducible refine Keep.drew ?_))⟩

theorem owner_freeze_no (h : TabAt w p g t sh) (i : Int) (hi : i < 0 ∨ (t.length : Int) ≤ i) : Calls Tryz.prog 114 #[.pointer (some ⟨p, 0, none⟩), .int .i64 i] w fun e w' =>
    e = .returned (errV 6) ∧ w = w' := by
  have c1 := owner_in h i
  rw [in_no hi] at c1
  replace c1 := Lib.hid c1
  clear h hi
  go_enter Tryz.func114, Tryz.ntmps114
  go_wp2_with fail
  refine c1.out.mono ?_
  rintro e w' ⟨rfl, rfl⟩
  go_wp2_with fail
  go_ret
  exact ⟨rfl, rfl⟩
theorem owner_freeze_busy (h : TabAt w p g t sh) (i : Nat) (hi : i < t.length) (hm : t[i].moving = true) : Calls Tryz.prog 114 #[.pointer (some ⟨p, 0, none⟩), .int .i64 i] w fun e w' =>
    e = .returned (errV 7) ∧ w = w' := by
  have c1 := owner_in h i
  rw [in_yes hi] at c1
  replace c1 := Lib.hid c1
  have cp := At.cell h.self
  have c4 := h.row.cell own_cells_len hi 2 (by omega)
  simp only [Own.cells, List.getElem?_cons_zero, List.getElem?_cons_succ, hm] at c4
  have hl := h.hi
  clear h hm
  go_enter Tryz.func114, Tryz.ntmps114
  go_wp2_with fail
  refine c1.out.mono ?_
  rintro e w' ⟨rfl, rfl⟩
  go_wp2_with fail
  go_ret
  exact ⟨rfl, rfl⟩
theorem owner_freeze (h : TabAt w p g t sh) (i : Nat) (hi : i < t.length) (hm : t[i].moving = false) : Calls Tryz.prog 114 #[.pointer (some ⟨p, 0, none⟩), .int .i64 i] w fun e w' =>
    e = .returned .nilIface ∧ Keep (one g) w w' ∧ TabAt w' p g (t.set i { t[i] with moving := true }) sh := by
  have c1 := owner_in h i
  rw [in_yes hi] at c1
  replace c1 := Lib.hid c1
  have cp := At.cell h.self
  have c4 := h.row.cell own_cells_len hi 2 (by omega)
  simp only [Own.cells, List.getElem?_cons_zero, List.getElem?_cons_succ, hm] at c4
  have hr := h.row.set own_cells_len hi { t[i] with moving := true } 2 (.bool true) (by omega) rfl
  have ha := h.self.set_other (a := ⟨g, i * 3 + 2, none⟩) (fun e => h.ne e.symm) (.bool true)
  have hgoal : TabAt (w.setCell ⟨g, i * 3 + 2, none⟩ (.bool true)) p g (t.set i { t[i] with moving := true }) sh :=
    ⟨h.ne, by rw [List.length_set]; exact h.lo, by rw [List.length_set]; exact h.hi, h.slo, h.shi, by rw [List.length_set]; exact ha, hr⟩
  have f4 := h.row.frozen
  have hl := h.hi
  clear hr ha hm h
  go_enter Tryz.func114, Tryz.ntmps114
  go_wp2_with fail
  refine c1.out.mono ?_
  rintro e w' ⟨rfl, rfl⟩
  go_wp2_with fail
  go_ret
  exact ⟨rfl, Keep.set1 (Keep.refl _ _) _, hgoal⟩

theorem owner_publish_no (h : TabAt w p g t sh) (i s : Int) (hi : i < 0 ∨ (t.length : Int) ≤ i) : Calls Tryz.prog 60 #[.pointer (some ⟨p, 0, none⟩), .int .i64 i, .int .i64 s] w fun e w' =>
    e = .returned (errV 6) ∧ w = w' := by
  have c1 := owner_in h i
  rw [in_no hi] at c1
  replace c1 := Lib.hid c1
  clear h hi
  go_enter Tryz.func60, Tryz.ntmps60
  go_wp2_with fail
  refine c1.out.mono ?_
  rintro e w' ⟨rfl, rfl⟩
  go_wp2_with fail
  go_ret
  exact ⟨rfl, rfl⟩
theorem owner_publish_arg (h : TabAt w p g t sh) (i : Nat) (s : Int) (hi : i < t.length) (hs : s < 0 ∨ (sh : Int) ≤ s) : Calls Tryz.prog 60 #[.pointer (some ⟨p, 0, none⟩), .int .i64 i, .int .i64 s] w fun e w' =>
    e = .returned (errV 1) ∧ w = w' := by
  have c1 := owner_in h i
  rw [in_yes hi] at c1
  replace c1 := Lib.hid c1
  have cp := At.cell h.self
  clear h
  rcases hs with hs | hs
  · go_enter Tryz.func60, Tryz.ntmps60
    go_wp2_with fail
    refine c1.out.mono ?_
    rintro e w' ⟨rfl, rfl⟩
    go_wp2_with fail
    go_ret
    exact ⟨rfl, rfl⟩
  · have hs0 : ¬ s < 0 := by omega
    have hs' : decide ((sh : Int) ≤ s) = true := by simpa using hs
    go_enter Tryz.func60, Tryz.ntmps60
    go_wp2_with fail
    refine c1.out.mono ?_
    rintro e w' ⟨rfl, rfl⟩
    go_wp2_with fail
    go_ret
    exact ⟨rfl, rfl⟩
theorem owner_publish_busy (h : TabAt w p g t sh) (i s : Nat) (hi : i < t.length) (hs : s < sh) (hm : t[i].moving = false) : Calls Tryz.prog 60 #[.pointer (some ⟨p, 0, none⟩), .int .i64 i, .int .i64 s] w fun e w' =>
    e = .returned (errV 7) ∧ w = w' := by
  have c1 := owner_in h i
  rw [in_yes hi] at c1
  replace c1 := Lib.hid c1
  have cp := At.cell h.self
  have c4 := h.row.cell own_cells_len hi 2 (by omega)
  simp only [Own.cells, List.getElem?_cons_zero, List.getElem?_cons_succ, hm] at c4
  have hl := h.hi
  have hs' : decide ((sh : Int) ≤ s) = false := by simpa using hs
  clear h hm
  go_enter Tryz.func60, Tryz.ntmps60
  go_wp2_with fail
  refine c1.out.mono ?_
  rintro e w' ⟨rfl, rfl⟩
  go_wp2_with fail
  go_ret
  exact ⟨rfl, rfl⟩
theorem owner_publish (h : TabAt w p g t sh) (i s : Nat) (hi : i < t.length) (hs : s < sh) (hm : t[i].moving = true) (hv0 : 0 ≤ t[i].version) (hv : t[i].version < 1000000000) : Calls Tryz.prog 60 #[.pointer (some ⟨p, 0, none⟩), .int .i64 i, .int .i64 s] w fun e w' =>
    e = .returned .nilIface ∧ Keep (one g) w w' ∧ TabAt w' p g (t.set i ⟨s, t[i].version + 1, false⟩) sh := by
  have c1 := owner_in h i
  rw [in_yes hi] at c1
  replace c1 := Lib.hid c1
  have cp := At.cell h.self
  have hc : ∀ j, j < 3 → w.cell? ⟨g, i * 3 + j, none⟩ = (t[i].cells)[j]? := fun j hj => h.row.cell own_cells_len hi j hj
  have c4 := hc 2 (by omega)
  simp only [Own.cells, List.getElem?_cons_zero, List.getElem?_cons_succ, hm] at c4
  have hl := h.hi
  have hs' : decide ((sh : Int) ≤ s) = false := by simpa using hs
  have hw : IntKind.i64.wrap (t[i].version + 1) = t[i].version + 1 := by rw [IntKind.wrap_i64]; omega
  go_enter Tryz.func60, Tryz.ntmps60
  go_wp2_with fail
  refine c1.out.mono ?_
  rintro e w' ⟨rfl, rfl⟩
  go_wp2_with fail
  clear c1 c4
  obtain ⟨ι, hne, f, hf0, hfk, hfa⟩ := class_of none_ w
  have cf : ∀ n i, (f n).cell? ⟨p, i, none⟩ = _ := fun n => At.cell (Keep.at (hfk n) h.self (fun e => e))
  have cv : ∀ n, (f n).cell? ⟨g, i * 3 + 1, none⟩ = some (.int .i64 t[i].version) := fun n => (h.row.keep (hfk n) (fun e => e)).cell own_cells_len hi 1 (by omega)
  refine wp_region_class_tail f 17 (by kernel_rfl) (by kernel_rfl) hf0 ?_
  simp only [List.take_succ_cons, List.take_zero, List.drop_succ_cons, List.drop_zero]
  repeat (go_big_quiet_step (fail))
  refine wpQuiet_nil ?_
  intro m
  have h2 := h.keep (hfk m) (fun e => e) (fun e => e)
  have k0 := hfk m
  clear cf cv hf0 hfk hfa hc cp h
  generalize f m = w2 at *
  have c0 := h2.row.cell own_cells_len hi 0 (by omega)
  have c1 := h2.row.cell own_cells_len hi 1 (by omega)
  have c2 := h2.row.cell own_cells_len hi 2 (by omega)
  have f0 := h2.row.frozen
  have r1 := h2.row.set own_cells_len hi { t[i] with shard := s } 0 (.int .i64 s) (by omega) rfl
  have r2 := r1.set own_cells_len (by rw [List.length_set]; exact hi) ⟨s, t[i].version + 1, t[i].moving⟩ 1 (.int .i64 (t[i].version + 1)) (by omega) (by rw [List.getElem_set_self]; rfl)
  have r3 := r2.set own_cells_len (by rw [List.length_set, List.length_set]; exact hi) ⟨s, t[i].version + 1, false⟩ 2 (.bool false) (by omega) (by rw [List.getElem_set_self]; rfl)
  rw [List.set_set, List.set_set] at r3
  have ha := ((h2.self.set_other (a := ⟨g, i * 3 + 0, none⟩) (fun e => h2.ne e.symm) (.int .i64 s)).set_other (a := ⟨g, i * 3 + 1, none⟩) (fun e => h2.ne e.symm) (.int .i64 (t[i].version + 1))).set_other (a := ⟨g, i * 3 + 2, none⟩) (fun e => h2.ne e.symm) (.bool false)
  have hgoal : TabAt _ p g (t.set i ⟨s, t[i].version + 1, false⟩) sh :=
    ⟨h2.ne, by rw [List.length_set]; exact h2.lo, by rw [List.length_set]; exact h2.hi, h2.slo, h2.shi, by rw [List.length_set]; exact ha, r3⟩
  replace hgoal := Lib.hid hgoal
  clear r1 r2 r3 ha h2
  simp only [Own.cells, List.getElem?_cons_zero, List.getElem?_cons_succ, Nat.add_zero] at c0 c1 c2 hgoal
  go_wp2_with fail
  go_ret
  exact ⟨rfl, (Keep.set1 (Keep.set1 (Keep.set1 k0.of_none _) _) _), hgoal.out⟩

/-- The groups of a shard, below number j. -/
def ofShard (t : List Own) (s : Int) (j : Nat) : List Int := ((List.range j).filter fun i => (t.getD i Own.zero).shard == s).map fun (i : Nat) => (i : Int)
theorem ofShard_yes (t : List Own) (s : Int) (j : Nat) (hj : j < t.length) (h : t[j].shard = s) : ofShard t s (j + 1) = ofShard t s j ++ [(j : Int)] := by
  unfold ofShard
  rw [List.range_succ, List.filter_append, List.map_append]
  simp [List.getD_eq_getElem?_getD, hj, h]
theorem ofShard_not (t : List Own) (s : Int) (j : Nat) (hj : j < t.length) (h : t[j].shard ≠ s) : ofShard t s (j + 1) = ofShard t s j := by
  unfold ofShard
  rw [List.range_succ, List.filter_append, List.map_append]
  simp [List.getD_eq_getElem?_getD, hj, h]
theorem ofShard_le (t : List Own) (s : Int) (j : Nat) : (ofShard t s j).length ≤ j := by
  unfold ofShard
  rw [List.length_map]
  exact Nat.le_trans (List.length_filter_le _ _) (by simp)

theorem ofShard_app (t : List Own) (s : Int) (j : Nat) : ∀ d, ∃ r, ofShard t s (j + d) = ofShard t s j ++ r := by
  intro d
  refine ⟨((((List.range d).map (j + ·)).filter fun i => (t.getD i Own.zero).shard == s).map fun (i : Nat) => (i : Int)), ?_⟩
  unfold ofShard
  rw [List.range_add, List.filter_append, List.map_append]
/-- The next group that a shard has stands behind those below it. -/
theorem ofShard_next (t : List Own) (s : Int) (j : Nat) (hj : j < t.length) (h : t[j].shard = s) : ∃ hl : (ofShard t s j).length < (ofShard t s t.length).length, (ofShard t s t.length)[(ofShard t s j).length] = (j : Int) := by
  obtain ⟨r, hr⟩ := ofShard_app t s (j + 1) (t.length - (j + 1))
  rw [show j + 1 + (t.length - (j + 1)) = t.length by omega, ofShard_yes t s j hj h] at hr
  refine ⟨by rw [hr]; simp, ?_⟩
  simp [hr]
theorem row_int : Row Tryz.prog 50 3 1 := row_of (z := .int .i64 0) (b := 8) Tryz.underlying50 (by kernel_rfl) rfl (by decide) (by decide)

set_option maxHeartbeats 1000000 in
set_option maxRecDepth 100000 in
theorem owner_groups (h : TabAt w p g t sh) (s : Int) : Calls Tryz.prog 15 #[.pointer (some ⟨p, 0, none⟩), .int .i64 s] w fun e w' =>
    ∃ A c, e = .returned (.slice A (ofShard t s t.length).length c) ∧ Keep none_ w w' ∧ w'.ownsRow w.heap.size 3 1 (.slice A (ofShard t s t.length).length c) (ofShard t s t.length).length (flat encI (ofShard t s t.length)) := by
  have cp := At.cell h.self
  have hl := h.hi
  go_enter Tryz.func15, Tryz.ntmps15
  go_wp2_with fail
  go_loopw [5, 6, 7, 13] (fun out _ _ i wr => ∃ j : Nat, j ≤ t.length ∧ i = .int .i64 j ∧ Keep none_ w wr ∧ wr.ownsRow w.heap.size 3 1 out (ofShard t s j).length (flat encI (ofShard t s j)))
    (fun _ _ _ i _ => t.length - (intOf i).toNat)
  case atStart => exact ⟨0, Nat.zero_le _, rfl, Keep.refl _ _, World.ownsRow_nil _ _ _ _⟩
  case round =>
    obtain ⟨j, hj, rfl, kk, hown⟩ := hrel
    have hr := h.row.keep kk (fun e => e)
    obtain ⟨A, c, rfl⟩ := own_form hown
    have hle := ofShard_le t s j
    by_cases hlt : j < t.length
    · have c0 := hr.cell own_cells_len hlt 0 (by omega)
      have c1 := hr.cell own_cells_len hlt 1 (by omega)
      have c2 := hr.cell own_cells_len hlt 2 (by omega)
      simp only [Own.cells, List.getElem?_cons_zero, List.getElem?_cons_succ, Nat.add_zero] at c0 c1 c2
      by_cases hs : t[j].shard = s
      · have hsb : (t[j].shard == s) = true := by simp [hs]
        have hy := ofShard_yes t s j hlt hs
        have hyl : (ofShard t s (j + 1)).length = (ofShard t s j).length + 1 := by rw [hy]; simp
        replace hy := Lib.hid hy
        replace hyl := Lib.hid hyl
        clear hs
        generalize t[j] = x at *
        obtain ⟨s0, v0, m0⟩ := x
        simp only at c0 c1 c2 hsb
        have hown2 := (hown.alloc (.cells #[.int .i64 s0, .int .i64 v0, .bool m0] 72)).alloc (.cells #[.int .i64 j] 3)
        have hx := At.newAt (w := wr.alloc (.cells #[.int .i64 s0, .int .i64 v0, .bool m0] 72)) (n := wr.heap.size + 1) (by simp) #[.int .i64 j] 3
        go_wp2_with (at_builtin; refine wpList_append_sl _ rfl _ _ _ rfl w.heap.size 3 row_int encI_len encI_one _ _ (ofShard t s j) rfl hown2 (some ⟨_, 0, none⟩) 1 1 [(j : Int)] rfl (Sl.of_at hx encI_len (by decide) rfl rfl (by unfold maxLen; omega)) (by omega) (show Keep none_ w _ from (by repeat' (first | assumption | with_reducible exact Keep.refl _ _ | with_reducible refine Keep.alloc ?_ _ | with_reducible refine Keep.drew ?_))).size ?_)
        intro v5 w5 own5 grow5 loc5
        have k5 : Keep none_ w w5 := Keep.grown (by repeat' (first | assumption | with_reducible exact Keep.refl _ _ | with_reducible refine Keep.alloc ?_ _ | with_reducible refine Keep.drew ?_)) grow5 (by intro z hz hl; have := (hown2.lt z hz).1; omega)
        clear hown2 hx grow5 loc5 hown kk hr c0 c1 c2
        go_wp2_with fail
        go_roundw
        case rel => exact ⟨j + 1, by omega, by go_num, k5, by rw [hyl.out, hy.out]; exact own5⟩
        case measure => simp [intOf]; omega
      · have hsb : (t[j].shard == s) = false := by simp [hs]
        have hy := ofShard_not t s j hlt hs
        replace hy := Lib.hid hy
        clear hs
        generalize t[j] = x at *
        obtain ⟨s0, v0, m0⟩ := x
        simp only at c0 c1 c2 hsb
        go_wp2_with fail
        go_roundw
        case rel => exact ⟨j + 1, by omega, by go_num, (by repeat' (first | assumption | with_reducible exact Keep.refl _ _ | with_reducible refine Keep.alloc ?_ _ | with_reducible refine Keep.drew ?_)), by rw [hy.out]; exact hown.alloc _⟩
        case measure => simp [intOf]; omega
    · obtain rfl : j = t.length := by omega
      go_wp2_with fail
      go_ret
      exact ⟨_, _, rfl, kk, hown⟩
end
end Go.Proofs.YtpkfckcilpiabaaGreat
