/-
  The mailbox of package box, at messages of one cell: int and string.
-/
import Derived.Test.YtlnlbegcnhelmaaRing
import Derived.Test.YtlnlbegcnhelmaaRegion
import Derived.Test.YtlnlbegcnhelmaaErr
import Derived.Outline
import Derived.Laws.MakeOwn
namespace Go.Proofs.Ytlnlbegcnhelmaa
open Go.RowKit

abbrev Box_int := @BoxAt Int (fun x => [.int .i64 x]) 1 125 3
theorem info_int : (Try.prog.info? 3).map (fun i => (i.zero, i.size, i.bytes)) = some (some (.int .i64 0), 1, 8) := by kernel_rfl
set_option maxRecDepth 100000 in
theorem box_new_int (w : World) (room : Nat) (h1 : 1 ≤ room) (h2 : room ≤ 16) : Calls Try.prog 19 #[.int .i64 room] w (NewBox (fun x => [.int .i64 x]) 1 125 3 w room) := by
  obtain ⟨i0, hi, hz0, hz1, hz2⟩ := info_parts info_int
  have hmk := fun w => run_make w 23 3 i0 (.int .i64 0) Try.underlying23 hi hz0 .i64 .i64 (room : Int) (room : Int) (by omega) (Int.le_refl _) (by rw [hz2]; omega) (by omega)
  have hnot : ¬ (16 < (room : Int)) := by omega
  simp only [Int.toNat_natCast] at hmk
  rw [hz1, Nat.mul_one] at hmk
  clear hi hz0 hz1 hz2
  go_enter Try.func19, Try.ntmps19
  go_wp2
  go_ret2
  exact ⟨_, _, rfl, (by repeat' (first | exact Keep.refl _ _ | refine Keep.set1 ?_ _ | refine Keep.alloc ?_ _ | refine Keep.drew ?_ | refine Keep.setNew ?_ (by simp) _)), by simp, Nat.le_refl _, by omega, h1, h2, 0, _, At.newAt (by simp) _ _, At.alloc (At.new w _ _) _, by simp [size_madeCells], by omega, by simp, fun i h => by simp at h⟩
theorem box_new_no_int (w : World) (room : Int) (h : room < 1 ∨ 16 < room) : Calls Try.prog 19 #[.int .i64 room] w fun e w' =>
    e = .returned (.tuple #[.pointer none, errV 1]) ∧ w = w' := by
  rcases h with h | h
  · go_enter Try.func19, Try.ntmps19
    go_wp2
    go_ret2
    exact ⟨rfl, rfl⟩
  · have h' : ¬ room < 1 := by omega
    go_enter Try.func19, Try.ntmps19
    go_wp2
    go_ret2
    exact ⟨rfl, rfl⟩
section
variable {w : World} {p g room : Nat} {q : List Int} {cl : Bool}
theorem box_put_closed_int (x : Int) (h : Box_int w p g room q true) : Calls Try.prog 22 #[.pointer (some ⟨p, 0, none⟩), .int .i64 x] w fun e w' =>
    e = .returned (errV 5) ∧ w = w' := by
  obtain ⟨h1, h2, h3, fr, cur, h4, h5, h6⟩ := h
  have cp := At.cell h4
  go_enter Try.func22, Try.ntmps22
  go_wp2
  go_ret
  exact ⟨rfl, rfl⟩
theorem box_put_full_int (x : Int) (h : Box_int w p g room q false) (hq : q.length = room) : Calls Try.prog 22 #[.pointer (some ⟨p, 0, none⟩), .int .i64 x] w fun e w' =>
    e = .returned (errV 4) ∧ Keep none_ w w' := by
  obtain ⟨h1, h2, h3, fr, cur, h4, h5, h6⟩ := h
  rw [hq] at h4
  have cp := At.cell h4
  obtain ⟨ι, hne, f, hf0, hfk, hfa⟩ := class_of none_ (w)
  have cf : ∀ n i, (f n).cell? ⟨p, i, none⟩ = _ := fun n => At.cell (Keep.at (hfk n) h4 (fun e => e))
  clear hq
  go_enter Try.func22, Try.ntmps22
  go_wp2_with fail
  refine wp_region_class f (by kernel_rfl) (by kernel_rfl) hf0 ?_
  repeat (go_big_quiet_step (fail))
  refine wpQuiet_nil ?_
  rintro _ ⟨n, rfl⟩
  go_wp2_with fail
  go_ret
  exact ⟨rfl, hfk n⟩
theorem box_put_int (x : Int) (h : Box_int w p g room q false) (hq : q.length < room) : Calls Try.prog 22 #[.pointer (some ⟨p, 0, none⟩), .int .i64 x] w fun e w' =>
    e = .returned .nilIface ∧ Keep (two p g) w w' ∧ Box_int w' p g room (q ++ [x]) false := by
  obtain ⟨h1, h2, h3, fr, cur, h4, h5, h6⟩ := h
  have h7 := h6.put (fun _ => rfl) hq x
  have hfr := h6.head
  have hsz := h6.size
  have hm := Nat.mod_lt (fr + q.length) (show 0 < room by omega)
  have hen : (q ++ [x]).length = q.length + 1 := by simp
  have hgoal : ∀ w', At w' p #[.slice (some ⟨g, 0, none⟩) room room, .int .i64 fr, .int .i64 ((q.length : Nat) + 1), .bool false] 125 → At w' g (putC cur ((fr + q.length) % room * 1) [.int .i64 x]) 3 → Box_int w' p g room (q ++ [x]) false := fun w' a1 a2 =>
    ⟨h1, h2, h3, fr, _, by rw [hen]; exact a1, a2, h7⟩
  clear h6 h7 hen
  rw [putC_one, Nat.mul_one] at hgoal
  have s1 : ((fr : Int) + (q.length : Nat)) = ((fr + q.length : Nat) : Int) := by omega
  have s2 : ((fr + q.length : Nat) : Int).tmod (room : Int) = (((fr + q.length) % room : Nat) : Int) := by rw [Int.ofNat_tmod]
  have s4 : IntKind.i64.wrap ((fr : Int) + (q.length : Nat)) = ((fr + q.length : Nat) : Int) := by rw [IntKind.wrap_i64]; omega
  have t1 : ((q.length : Int) == (room : Int)) = false := by simp; omega
  have hmz : (fr + q.length) % room < cur.size := by omega
  generalize hmm : (fr + q.length) % room = m at *
  clear hmm
  generalize fr + q.length = s at *
  generalize q.length = nq at *
  clear s1
  replace hgoal := Lib.hid hgoal
  have cp := At.cell h4
  obtain ⟨ι, hne, f, hf0, hfk, hfa⟩ := class_of none_ (w)
  have cf : ∀ n i, (f n).cell? ⟨p, i, none⟩ = _ := fun n => At.cell (Keep.at (hfk n) h4 (fun e => e))
  clear hsz
  go_enter Try.func22, Try.ntmps22
  go_wp2_with fail
  refine wp_region_class f (by kernel_rfl) (by kernel_rfl) hf0 ?_
  repeat (go_big_quiet_step (fail))
  refine wpQuiet_nil ?_
  rintro _ ⟨n, rfl⟩
  have h4 := Keep.at (hfk n) h4 (fun e => e)
  have h5 := Keep.at (hfk n) h5 (fun e => e)
  have k0 := hfk n
  clear cf hf0 hfk hfa cp
  generalize f n = w1 at *
  have cp := At.cell h4
  go_wp2_with fail
  obtain ⟨ι, hne, f, hf0, hfk, hfa⟩ := class_of none_ w1
  have cf : ∀ n i, (f n).cell? ⟨p, i, none⟩ = _ := fun n => At.cell (Keep.at (hfk n) h4 (fun e => e))
  refine wp_region_class_tail f 21 (by kernel_rfl) (by kernel_rfl) hf0 ?_
  simp only [List.take_succ_cons, List.take_zero, List.drop_succ_cons, List.drop_zero]
  repeat (go_big_quiet_step (fail))
  refine wpQuiet_nil ?_
  intro n
  have h4 := Keep.at (hfk n) h4 (fun e => e)
  have h5 := Keep.at (hfk n) h5 (fun e => e)
  replace k0 := k0.trans (hfk n)
  clear cf hf0 hfk hfa cp
  generalize f n = w2 at *
  have cp := At.cell h4
  have fp := At.frozen h4
  have fg := At.frozen h5
  have cg : w2.cell? ⟨g, m, none⟩ = some cur[m] := by rw [At.cell h5, Array.getElem?_eq_getElem hmz]
  go_wp2_with fail
  go_ret
  exact ⟨rfl, (Keep.setCell (p := ⟨p, 2, none⟩) (Keep.setCell (p := ⟨g, m, none⟩) k0.of_none (fun _ => .inr rfl) _) (fun _ => .inl rfl) _),
    hgoal.out _ ((h4.set_other (a := ⟨g, m, none⟩) (fun e => h1 e.symm) _).set 2 _) ((h5.set m _).set_other (a := ⟨p, 2, none⟩) h1 _)⟩
theorem box_take_no_int (h : Box_int w p g room [] cl) : Calls Try.prog 23 #[.pointer (some ⟨p, 0, none⟩)] w fun e w' =>
    e = .returned (.tuple #[.int .i64 0, .bool false]) ∧ w = w' := by
  obtain ⟨h1, h2, h3, fr, cur, h4, h5, h6⟩ := h
  have cp := At.cell h4
  go_enter Try.func23, Try.ntmps23
  go_wp2
  go_ret2
  exact ⟨rfl, rfl⟩
theorem box_take_int (x : Int) (h : Box_int w p g room (x :: q) cl) : Calls Try.prog 23 #[.pointer (some ⟨p, 0, none⟩)] w fun e w' =>
    e = .returned (.tuple #[.int .i64 x, .bool true]) ∧ Keep (two p g) w w' ∧ Box_int w' p g room q cl := by
  obtain ⟨h1, h2, h3, fr, cur, h4, h5, h6⟩ := h
  obtain ⟨h8, h7⟩ := h6.take [.int .i64 0] rfl
  have hfr := h6.head
  have hsz := h6.size
  have hm := Nat.mod_lt (fr + 1) (show 0 < room by omega)
  have hx := h8 0 (by omega)
  rw [Nat.add_zero, Nat.mul_one, List.getElem?_cons_zero] at hx
  rw [putC_one, Nat.mul_one] at h7
  have hgoal : ∀ w', At w' p #[.slice (some ⟨g, 0, none⟩) room room, .int .i64 ((fr + 1) % room : Nat), .int .i64 (q.length : Nat), .bool cl] 125 → At w' g (cur.setIfInBounds fr (.int .i64 0)) 3 → Box_int w' p g room q cl := fun w' a1 a2 =>
    ⟨h1, h2, h3, _, _, a1, a2, h7⟩
  have hlq : ((x :: q).length : Int) = (q.length : Int) + 1 := by simp
  rw [hlq] at h4
  have hq16 : q.length ≤ 16 := by have := h6.len; simp at this; omega
  clear h6 h7 h8 hlq
  have s2 : ((fr : Int) + 1).tmod (room : Int) = (((fr + 1) % room : Nat) : Int) := by rw [show (fr : Int) + 1 = ((fr + 1 : Nat) : Int) by omega, Int.ofNat_tmod]
  have s4 : IntKind.i64.wrap ((fr : Int) + 1) = (fr : Int) + 1 := by rw [IntKind.wrap_i64]; omega
  have s5 : wrap64 ((q.length : Int) + 1 - 1) = (q.length : Int) := by unfold wrap64; omega
  have s6 : (q.length : Int) + 1 - 1 = (q.length : Int) := by omega
  have t1 : ((q.length : Int) + 1 == 0) = false := by simp; omega
  have hmz : fr < cur.size := by omega
  generalize (fr + 1) % room = m at *
  generalize q.length = nq at *
  replace hgoal := Lib.hid hgoal
  have cp := At.cell h4
  clear hsz
  go_enter Try.func23, Try.ntmps23
  go_wp2_with fail
  obtain ⟨ι, hne, f, hf0, hfk, hfa⟩ := class_of none_ (w)
  have cf : ∀ n i, (f n).cell? ⟨p, i, none⟩ = _ := fun n => At.cell (Keep.at (hfk n) h4 (fun e => e))
  have cg : ∀ n, (f n).cell? ⟨g, fr, none⟩ = some (.int .i64 x) := fun n => by rw [At.cell (Keep.at (hfk n) h5 (fun e => e)), hx]
  refine wp_region_class f (by kernel_rfl) (by kernel_rfl) hf0 ?_
  repeat (go_big_quiet_step (fail))
  refine wpQuiet_nil ?_
  rintro _ ⟨n, rfl⟩
  have h4 := Keep.at (hfk n) h4 (fun e => e)
  have h5 := Keep.at (hfk n) h5 (fun e => e)
  have k0 := hfk n
  clear cf cg hf0 hfk hfa cp
  generalize f n = w1 at *
  have cp := At.cell h4
  go_wp2_with fail
  obtain ⟨ι, hne, f, hf0, hfk, hfa⟩ := class_of none_ w1
  have cf : ∀ n i, (f n).cell? ⟨p, i, none⟩ = _ := fun n => At.cell (Keep.at (hfk n) h4 (fun e => e))
  refine wp_region_class_tail f 10 (by kernel_rfl) (by kernel_rfl) hf0 ?_
  simp only [List.take_succ_cons, List.take_zero, List.drop_succ_cons, List.drop_zero]
  repeat (go_big_quiet_step (fail))
  refine wpQuiet_nil ?_
  intro n
  have h4 := Keep.at (hfk n) h4 (fun e => e)
  have h5 := Keep.at (hfk n) h5 (fun e => e)
  replace k0 := k0.trans (hfk n)
  clear cf hf0 hfk hfa cp
  generalize f n = w2 at *
  have cp := At.cell h4
  have fp := At.frozen h4
  have fg := At.frozen h5
  have cg : w2.cell? ⟨g, fr, none⟩ = some cur[fr] := by rw [At.cell h5, Array.getElem?_eq_getElem hmz]
  go_wp2_with fail
  have h4 := h4.set_other (a := ⟨g, fr, none⟩) (fun e => h1 e.symm) (.int .i64 0)
  have h5 := h5.set fr (.int .i64 0)
  have k0 : Keep (two p g) w _ := Keep.setCell (p := ⟨g, fr, none⟩) k0.of_none (fun _ => .inr rfl) (.int .i64 0)
  clear cp fp fg cg
  generalize w2.setCell _ _ = w3 at *
  have cp := At.cell h4
  have fp := At.frozen h4
  obtain ⟨ι, hne, f, hf0, hfk, hfa⟩ := class_of none_ w3
  have cf : ∀ n i, (f n).cell? ⟨p, i, none⟩ = _ := fun n => At.cell (Keep.at (hfk n) h4 (fun e => e))
  refine wp_region_class_tail f 14 (by kernel_rfl) (by kernel_rfl) hf0 ?_
  simp only [List.take_succ_cons, List.take_zero, List.drop_succ_cons, List.drop_zero]
  repeat (go_big_quiet_step (fail))
  refine wpQuiet_nil ?_
  intro n
  have h4 := Keep.at (hfk n) h4 (fun e => e)
  have h5 := Keep.at (hfk n) h5 (fun e => e)
  replace k0 := k0.trans (hfk n).of_none
  clear cf hf0 hfk hfa cp fp
  generalize f n = w4 at *
  have cp := At.cell h4
  have fp := At.frozen h4
  go_wp2_with fail
  go_ret2
  exact ⟨rfl, (Keep.setCell (p := ⟨p, 2, none⟩) (Keep.setCell (p := ⟨p, 1, none⟩) k0 (fun _ => .inl rfl) _) (fun _ => .inl rfl) _),
    hgoal.out _ ((h4.set 1 _).set 2 _) ((h5.set_other (a := ⟨p, 1, none⟩) h1 _).set_other (a := ⟨p, 2, none⟩) h1 _)⟩
theorem box_len_int (h : Box_int w p g room q cl) : Calls Try.prog 25 #[.pointer (some ⟨p, 0, none⟩)] w fun e w' =>
    e = .returned (.int .i64 (q.length : Nat)) ∧ w = w' := by
  obtain ⟨h1, h2, h3, fr, cur, h4, h5, h6⟩ := h
  have cp := At.cell h4
  generalize q.length = nq at *
  go_enter Try.func25, Try.ntmps25
  go_wp2
  go_ret
  exact ⟨rfl, rfl⟩
end
section
variable {w : World} {p g room : Nat} {q : List Int} {cl : Bool}
theorem box_closed_int (h : Box_int w p g room q cl) : Calls Try.prog 26 #[.pointer (some ⟨p, 0, none⟩)] w fun e w' =>
    e = .returned (.bool cl) ∧ w = w' := by
  obtain ⟨h1, h2, h3, fr, cur, h4, h5, h6⟩ := h
  have cp := At.cell h4
  go_enter Try.func26, Try.ntmps26
  go_wp2
  go_ret
  exact ⟨rfl, rfl⟩
theorem box_close_int (h : Box_int w p g room q cl) : Calls Try.prog 24 #[.pointer (some ⟨p, 0, none⟩)] w fun e w' =>
    e = .returned (.bool (!cl)) ∧ Keep (two p g) w w' ∧ Box_int w' p g room q true := by
  obtain ⟨h1, h2, h3, fr, cur, h4, h5, h6⟩ := h
  have hgoal : ∀ w', At w' p #[.slice (some ⟨g, 0, none⟩) room room, .int .i64 fr, .int .i64 (q.length : Nat), .bool true] 125 → At w' g cur 3 → Box_int w' p g room q true := fun w' a1 a2 =>
    ⟨h1, h2, h3, _, _, a1, a2, h6⟩
  replace hgoal := Lib.hid hgoal
  clear h6
  have cp := At.cell h4
  have fp := At.frozen h4
  go_enter Try.func24, Try.ntmps24
  go_wp2
  go_ret
  exact ⟨rfl, Keep.setCell (p := ⟨p, 3, none⟩) (Keep.refl _ _) (fun _ => .inl rfl) _, hgoal.out _ (h4.set 3 _) (h5.set_other (a := ⟨p, 3, none⟩) h1 _)⟩
end
abbrev Box_string := @BoxAt ByteArray (fun x => [.string x]) 1 123 9
theorem info_string : (Try.prog.info? 9).map (fun i => (i.zero, i.size, i.bytes)) = some (some (.string ⟨#[]⟩), 1, 16) := by kernel_rfl
set_option maxRecDepth 100000 in
theorem box_new_string (w : World) (room : Nat) (h1 : 1 ≤ room) (h2 : room ≤ 16) : Calls Try.prog 15 #[.int .i64 room] w (NewBox (fun x => [.string x]) 1 123 9 w room) := by
  obtain ⟨i0, hi, hz0, hz1, hz2⟩ := info_parts info_string
  have hmk := fun w => run_make w 22 9 i0 (.string ⟨#[]⟩) Try.underlying22 hi hz0 .i64 .i64 (room : Int) (room : Int) (by omega) (Int.le_refl _) (by rw [hz2]; omega) (by omega)
  have hnot : ¬ (16 < (room : Int)) := by omega
  simp only [Int.toNat_natCast] at hmk
  rw [hz1, Nat.mul_one] at hmk
  clear hi hz0 hz1 hz2
  go_enter Try.func15, Try.ntmps15
  go_wp2
  go_ret2
  exact ⟨_, _, rfl, (by repeat' (first | exact Keep.refl _ _ | refine Keep.set1 ?_ _ | refine Keep.alloc ?_ _ | refine Keep.drew ?_ | refine Keep.setNew ?_ (by simp) _)), by simp, Nat.le_refl _, by omega, h1, h2, 0, _, At.newAt (by simp) _ _, At.alloc (At.new w _ _) _, by simp [size_madeCells], by omega, by simp, fun i h => by simp at h⟩
theorem box_new_no_string (w : World) (room : Int) (h : room < 1 ∨ 16 < room) : Calls Try.prog 15 #[.int .i64 room] w fun e w' =>
    e = .returned (.tuple #[.pointer none, errV 1]) ∧ w = w' := by
  rcases h with h | h
  · go_enter Try.func15, Try.ntmps15
    go_wp2
    go_ret2
    exact ⟨rfl, rfl⟩
  · have h' : ¬ room < 1 := by omega
    go_enter Try.func15, Try.ntmps15
    go_wp2
    go_ret2
    exact ⟨rfl, rfl⟩
section
variable {w : World} {p g room : Nat} {q : List ByteArray} {cl : Bool}
theorem box_put_closed_string (x : ByteArray) (h : Box_string w p g room q true) : Calls Try.prog 17 #[.pointer (some ⟨p, 0, none⟩), .string x] w fun e w' =>
    e = .returned (errV 5) ∧ w = w' := by
  obtain ⟨h1, h2, h3, fr, cur, h4, h5, h6⟩ := h
  have cp := At.cell h4
  go_enter Try.func17, Try.ntmps17
  go_wp2
  go_ret
  exact ⟨rfl, rfl⟩
theorem box_put_full_string (x : ByteArray) (h : Box_string w p g room q false) (hq : q.length = room) : Calls Try.prog 17 #[.pointer (some ⟨p, 0, none⟩), .string x] w fun e w' =>
    e = .returned (errV 4) ∧ Keep none_ w w' := by
  obtain ⟨h1, h2, h3, fr, cur, h4, h5, h6⟩ := h
  rw [hq] at h4
  have cp := At.cell h4
  obtain ⟨ι, hne, f, hf0, hfk, hfa⟩ := class_of none_ (w)
  have cf : ∀ n i, (f n).cell? ⟨p, i, none⟩ = _ := fun n => At.cell (Keep.at (hfk n) h4 (fun e => e))
  clear hq
  go_enter Try.func17, Try.ntmps17
  go_wp2_with fail
  refine wp_region_class f (by kernel_rfl) (by kernel_rfl) hf0 ?_
  repeat (go_big_quiet_step (fail))
  refine wpQuiet_nil ?_
  rintro _ ⟨n, rfl⟩
  go_wp2_with fail
  go_ret
  exact ⟨rfl, hfk n⟩
theorem box_put_string (x : ByteArray) (h : Box_string w p g room q false) (hq : q.length < room) : Calls Try.prog 17 #[.pointer (some ⟨p, 0, none⟩), .string x] w fun e w' =>
    e = .returned .nilIface ∧ Keep (two p g) w w' ∧ Box_string w' p g room (q ++ [x]) false := by
  obtain ⟨h1, h2, h3, fr, cur, h4, h5, h6⟩ := h
  have h7 := h6.put (fun _ => rfl) hq x
  have hfr := h6.head
  have hsz := h6.size
  have hm := Nat.mod_lt (fr + q.length) (show 0 < room by omega)
  have hen : (q ++ [x]).length = q.length + 1 := by simp
  have hgoal : ∀ w', At w' p #[.slice (some ⟨g, 0, none⟩) room room, .int .i64 fr, .int .i64 ((q.length : Nat) + 1), .bool false] 123 → At w' g (putC cur ((fr + q.length) % room * 1) [.string x]) 9 → Box_string w' p g room (q ++ [x]) false := fun w' a1 a2 =>
    ⟨h1, h2, h3, fr, _, by rw [hen]; exact a1, a2, h7⟩
  clear h6 h7 hen
  rw [putC_one, Nat.mul_one] at hgoal
  have s1 : ((fr : Int) + (q.length : Nat)) = ((fr + q.length : Nat) : Int) := by omega
  have s2 : ((fr + q.length : Nat) : Int).tmod (room : Int) = (((fr + q.length) % room : Nat) : Int) := by rw [Int.ofNat_tmod]
  have s4 : IntKind.i64.wrap ((fr : Int) + (q.length : Nat)) = ((fr + q.length : Nat) : Int) := by rw [IntKind.wrap_i64]; omega
  have t1 : ((q.length : Int) == (room : Int)) = false := by simp; omega
  have hmz : (fr + q.length) % room < cur.size := by omega
  generalize hmm : (fr + q.length) % room = m at *
  clear hmm
  generalize fr + q.length = s at *
  generalize q.length = nq at *
  clear s1
  replace hgoal := Lib.hid hgoal
  have cp := At.cell h4
  obtain ⟨ι, hne, f, hf0, hfk, hfa⟩ := class_of none_ (w)
  have cf : ∀ n i, (f n).cell? ⟨p, i, none⟩ = _ := fun n => At.cell (Keep.at (hfk n) h4 (fun e => e))
  clear hsz
  go_enter Try.func17, Try.ntmps17
  go_wp2_with fail
  refine wp_region_class f (by kernel_rfl) (by kernel_rfl) hf0 ?_
  repeat (go_big_quiet_step (fail))
  refine wpQuiet_nil ?_
  rintro _ ⟨n, rfl⟩
  have h4 := Keep.at (hfk n) h4 (fun e => e)
  have h5 := Keep.at (hfk n) h5 (fun e => e)
  have k0 := hfk n
  clear cf hf0 hfk hfa cp
  generalize f n = w1 at *
  have cp := At.cell h4
  go_wp2_with fail
  obtain ⟨ι, hne, f, hf0, hfk, hfa⟩ := class_of none_ w1
  have cf : ∀ n i, (f n).cell? ⟨p, i, none⟩ = _ := fun n => At.cell (Keep.at (hfk n) h4 (fun e => e))
  refine wp_region_class_tail f 21 (by kernel_rfl) (by kernel_rfl) hf0 ?_
  simp only [List.take_succ_cons, List.take_zero, List.drop_succ_cons, List.drop_zero]
  repeat (go_big_quiet_step (fail))
  refine wpQuiet_nil ?_
  intro n
  have h4 := Keep.at (hfk n) h4 (fun e => e)
  have h5 := Keep.at (hfk n) h5 (fun e => e)
  replace k0 := k0.trans (hfk n)
  clear cf hf0 hfk hfa cp
  generalize f n = w2 at *
  have cp := At.cell h4
  have fp := At.frozen h4
  have fg := At.frozen h5
  have cg : w2.cell? ⟨g, m, none⟩ = some cur[m] := by rw [At.cell h5, Array.getElem?_eq_getElem hmz]
  go_wp2_with fail
  go_ret
  exact ⟨rfl, (Keep.setCell (p := ⟨p, 2, none⟩) (Keep.setCell (p := ⟨g, m, none⟩) k0.of_none (fun _ => .inr rfl) _) (fun _ => .inl rfl) _),
    hgoal.out _ ((h4.set_other (a := ⟨g, m, none⟩) (fun e => h1 e.symm) _).set 2 _) ((h5.set m _).set_other (a := ⟨p, 2, none⟩) h1 _)⟩
theorem box_take_no_string (h : Box_string w p g room [] cl) : Calls Try.prog 16 #[.pointer (some ⟨p, 0, none⟩)] w fun e w' =>
    e = .returned (.tuple #[.string ⟨#[]⟩, .bool false]) ∧ w = w' := by
  obtain ⟨h1, h2, h3, fr, cur, h4, h5, h6⟩ := h
  have cp := At.cell h4
  go_enter Try.func16, Try.ntmps16
  go_wp2
  go_ret2
  exact ⟨rfl, rfl⟩
theorem box_take_string (x : ByteArray) (h : Box_string w p g room (x :: q) cl) : Calls Try.prog 16 #[.pointer (some ⟨p, 0, none⟩)] w fun e w' =>
    e = .returned (.tuple #[.string x, .bool true]) ∧ Keep (two p g) w w' ∧ Box_string w' p g room q cl := by
  obtain ⟨h1, h2, h3, fr, cur, h4, h5, h6⟩ := h
  obtain ⟨h8, h7⟩ := h6.take [.string ⟨#[]⟩] rfl
  have hfr := h6.head
  have hsz := h6.size
  have hm := Nat.mod_lt (fr + 1) (show 0 < room by omega)
  have hx := h8 0 (by omega)
  rw [Nat.add_zero, Nat.mul_one, List.getElem?_cons_zero] at hx
  rw [putC_one, Nat.mul_one] at h7
  have hgoal : ∀ w', At w' p #[.slice (some ⟨g, 0, none⟩) room room, .int .i64 ((fr + 1) % room : Nat), .int .i64 (q.length : Nat), .bool cl] 123 → At w' g (cur.setIfInBounds fr (.string ⟨#[]⟩)) 9 → Box_string w' p g room q cl := fun w' a1 a2 =>
    ⟨h1, h2, h3, _, _, a1, a2, h7⟩
  have hlq : ((x :: q).length : Int) = (q.length : Int) + 1 := by simp
  rw [hlq] at h4
  have hq16 : q.length ≤ 16 := by have := h6.len; simp at this; omega
  clear h6 h7 h8 hlq
  have s2 : ((fr : Int) + 1).tmod (room : Int) = (((fr + 1) % room : Nat) : Int) := by rw [show (fr : Int) + 1 = ((fr + 1 : Nat) : Int) by omega, Int.ofNat_tmod]
  have s4 : IntKind.i64.wrap ((fr : Int) + 1) = (fr : Int) + 1 := by rw [IntKind.wrap_i64]; omega
  have s5 : wrap64 ((q.length : Int) + 1 - 1) = (q.length : Int) := by unfold wrap64; omega
  have s6 : (q.length : Int) + 1 - 1 = (q.length : Int) := by omega
  have t1 : ((q.length : Int) + 1 == 0) = false := by simp; omega
  have hmz : fr < cur.size := by omega
  generalize (fr + 1) % room = m at *
  generalize q.length = nq at *
  replace hgoal := Lib.hid hgoal
  have cp := At.cell h4
  clear hsz
  go_enter Try.func16, Try.ntmps16
  go_wp2_with fail
  obtain ⟨ι, hne, f, hf0, hfk, hfa⟩ := class_of none_ (w)
  have cf : ∀ n i, (f n).cell? ⟨p, i, none⟩ = _ := fun n => At.cell (Keep.at (hfk n) h4 (fun e => e))
  have cg : ∀ n, (f n).cell? ⟨g, fr, none⟩ = some (.string x) := fun n => by rw [At.cell (Keep.at (hfk n) h5 (fun e => e)), hx]
  refine wp_region_class f (by kernel_rfl) (by kernel_rfl) hf0 ?_
  repeat (go_big_quiet_step (fail))
  refine wpQuiet_nil ?_
  rintro _ ⟨n, rfl⟩
  have h4 := Keep.at (hfk n) h4 (fun e => e)
  have h5 := Keep.at (hfk n) h5 (fun e => e)
  have k0 := hfk n
  clear cf cg hf0 hfk hfa cp
  generalize f n = w1 at *
  have cp := At.cell h4
  go_wp2_with fail
  obtain ⟨ι, hne, f, hf0, hfk, hfa⟩ := class_of none_ w1
  have cf : ∀ n i, (f n).cell? ⟨p, i, none⟩ = _ := fun n => At.cell (Keep.at (hfk n) h4 (fun e => e))
  refine wp_region_class_tail f 10 (by kernel_rfl) (by kernel_rfl) hf0 ?_
  simp only [List.take_succ_cons, List.take_zero, List.drop_succ_cons, List.drop_zero]
  repeat (go_big_quiet_step (fail))
  refine wpQuiet_nil ?_
  intro n
  have h4 := Keep.at (hfk n) h4 (fun e => e)
  have h5 := Keep.at (hfk n) h5 (fun e => e)
  replace k0 := k0.trans (hfk n)
  clear cf hf0 hfk hfa cp
  generalize f n = w2 at *
  have cp := At.cell h4
  have fp := At.frozen h4
  have fg := At.frozen h5
  have cg : w2.cell? ⟨g, fr, none⟩ = some cur[fr] := by rw [At.cell h5, Array.getElem?_eq_getElem hmz]
  go_wp2_with fail
  have h4 := h4.set_other (a := ⟨g, fr, none⟩) (fun e => h1 e.symm) (.string ⟨#[]⟩)
  have h5 := h5.set fr (.string ⟨#[]⟩)
  have k0 : Keep (two p g) w _ := Keep.setCell (p := ⟨g, fr, none⟩) k0.of_none (fun _ => .inr rfl) (.string ⟨#[]⟩)
  clear cp fp fg cg
  generalize w2.setCell _ _ = w3 at *
  have cp := At.cell h4
  have fp := At.frozen h4
  obtain ⟨ι, hne, f, hf0, hfk, hfa⟩ := class_of none_ w3
  have cf : ∀ n i, (f n).cell? ⟨p, i, none⟩ = _ := fun n => At.cell (Keep.at (hfk n) h4 (fun e => e))
  refine wp_region_class_tail f 14 (by kernel_rfl) (by kernel_rfl) hf0 ?_
  simp only [List.take_succ_cons, List.take_zero, List.drop_succ_cons, List.drop_zero]
  repeat (go_big_quiet_step (fail))
  refine wpQuiet_nil ?_
  intro n
  have h4 := Keep.at (hfk n) h4 (fun e => e)
  have h5 := Keep.at (hfk n) h5 (fun e => e)
  replace k0 := k0.trans (hfk n).of_none
  clear cf hf0 hfk hfa cp fp
  generalize f n = w4 at *
  have cp := At.cell h4
  have fp := At.frozen h4
  go_wp2_with fail
  go_ret2
  exact ⟨rfl, (Keep.setCell (p := ⟨p, 2, none⟩) (Keep.setCell (p := ⟨p, 1, none⟩) k0 (fun _ => .inl rfl) _) (fun _ => .inl rfl) _),
    hgoal.out _ ((h4.set 1 _).set 2 _) ((h5.set_other (a := ⟨p, 1, none⟩) h1 _).set_other (a := ⟨p, 2, none⟩) h1 _)⟩
theorem box_len_string (h : Box_string w p g room q cl) : Calls Try.prog 18 #[.pointer (some ⟨p, 0, none⟩)] w fun e w' =>
    e = .returned (.int .i64 (q.length : Nat)) ∧ w = w' := by
  obtain ⟨h1, h2, h3, fr, cur, h4, h5, h6⟩ := h
  have cp := At.cell h4
  generalize q.length = nq at *
  go_enter Try.func18, Try.ntmps18
  go_wp2
  go_ret
  exact ⟨rfl, rfl⟩
end
end Go.Proofs.Ytlnlbegcnhelmaa
