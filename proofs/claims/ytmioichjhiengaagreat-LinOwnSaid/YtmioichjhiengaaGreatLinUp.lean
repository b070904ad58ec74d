/-
  The head of layer 20's laws; few.
-/
import Derived.Test.YtmioichjhiengaaGreatBaseLin
import Derived.Test.YtmioichjhiengaaGreatBaseUp
set_option linter.unusedSimpArgs false
set_option linter.unusedVariables false
namespace Go.Proofs.YtmioichjhiengaaGreat
open Go.RowKit

set_option maxHeartbeats 2000000 in
set_option maxRecDepth 100000 in
theorem law20_few {w : World} {A : Option Addr} {d : Nat} {l : List EventP} (h : EvAt w A l.length d l) :
    Calls Tryz.prog 39 #[.slice A l.length d] w fun e w' => (e = .returned (.bool false) ∨ (e = .returned (.bool true) ∧ l.length ≤ 40)) ∧ w = w' := by
  have hlc := h.sl.2.1
  have hnc := h.sl.2.2.1
  unfold maxLen at hnc
  go_enter Tryz.func39, Tryz.ntmps39
  go_wp2_with fail
  go_loopw [3, 4] (fun iv _ wr => ∃ i : Nat, iv = .int .i64 i ∧ i ≤ l.length ∧ i ≤ 40 ∧ w = wr) (fun iv _ _ => l.length - (intOf iv).toNat)
  case atStart => exact ⟨0, rfl, Nat.zero_le _, Nat.zero_le _, rfl⟩
  case round =>
    obtain ⟨i, rfl, hin, hi40, rfl⟩ := hrel
    have hi0 := Int.natCast_nonneg i
    by_cases hlt : i < l.length
    · have hlt1 : (i : Int) < (l.length : Int) := by omega
      have hd1 : decide ((i : Int) < (l.length : Int)) = true := by simp; omega
      by_cases hm : i < 40
      · have hm1 : (i : Int) < 40 := by omega
        have hd2 : decide ((i : Int) < (40 : Int)) = true := by simp; omega
        obtain ⟨b, off, rfl, hbl, -⟩ := h.sl.at_ (by omega)
        have ce := h.sl.cellk hlt
        obtain ⟨-, B, m, q, hpan, slB⟩ := h.each l[i] (List.getElem_mem _)
        have c1 := ce 3 (by omega)
        have c2 := ce 10 (by omega)
        simp only [Event.cells, List.getElem?_cons_zero, List.getElem?_cons_succ] at c1 c2
        rw [hpan] at c2
        generalize l[i] = y at *
        obtain ⟨ye, yp⟩ := y
        simp only at slB c1 c2
        have hmq := slB.2.1
        have hqm := slB.2.2.1
        unfold maxLen at hqm
        clear ce hpan
        by_cases hk : 100 < ye.call.key.size
        · have hkb : decide ((100 : Int) < (ye.call.key.size : Int)) = true := by simp; omega
          clear slB
          go_wp2_with fail
          go_ret
          exact ⟨.inl rfl, rfl⟩
        · have hkb : decide ((100 : Int) < (ye.call.key.size : Int)) = false := by simp; omega
          by_cases h20 : 20 < m
          · have h2b : decide ((20 : Int) < (m : Int)) = true := by simp; omega
            clear slB
            go_wp2_with fail
            go_ret
            exact ⟨.inl rfl, rfl⟩
          · have h2b : decide ((20 : Int) < (m : Int)) = false := by simp; omega
            go_wp2_with fail
            go_loopw [4] (fun kv wq => ∃ k : Nat, kv = .int .i64 k ∧ k ≤ m ∧ w = wq) (fun kv _ => m - (intOf kv).toNat)
            case atStart => exact ⟨0, rfl, Nat.zero_le _, rfl⟩
            case round =>
              obtain ⟨k, rfl, hkm, rfl⟩ := hrel
              have hk0 := Int.natCast_nonneg k
              by_cases hkl : k < m
              · have hkl1 : (k : Int) < (m : Int) := by omega
                have hml := slB.len
                obtain ⟨g, go, rfl, hgl, -⟩ := slB.at_ (by omega)
                have cp := slB.cellk (i := k) (by omega) 0 (by omega)
                simp only [Pane.cells, List.getElem?_cons_zero, Nat.add_zero] at cp
                generalize (yp[k]'(by omega)).key = pk at *
                replace hml := Lib.hid hml
                by_cases hpk : 100 < pk.size
                · have hpb : decide ((100 : Int) < (pk.size : Int)) = true := by simp; omega
                  clear slB
                  go_wp2_with fail
                  go_ret
                  exact ⟨.inl rfl, rfl⟩
                · have hpb : decide ((100 : Int) < (pk.size : Int)) = false := by simp; omega
                  clear slB
                  go_wp2_with fail
                  go_roundw
                  case rel => exact ⟨k + 1, by go_num, by omega, by first | rfl | trivial⟩
                  case measure => simp [intOf]; omega
              · have hkl1 : ¬ ((k : Int) < (m : Int)) := by omega
                clear slB
                go_wp2_with fail
                go_roundw
                case rel => exact ⟨i + 1, by go_num, by omega, by omega, by first | rfl | trivial⟩
                case measure => simp [intOf]; omega
      · have hm1 : ¬ ((i : Int) < 40) := by omega
        have hd2 : decide ((i : Int) < (40 : Int)) = false := by simp; omega
        have hd3 : decide ((l.length : Int) ≤ (40 : Int)) = false := by simp; omega
        have hi4 : ¬ ((l.length : Int) ≤ 40) := by omega
        clear h
        go_wp2_with fail
        go_ret
        exact ⟨.inl rfl, rfl⟩
    · have hlt1 : ¬ ((i : Int) < (l.length : Int)) := by omega
      have hd1 : decide ((i : Int) < (l.length : Int)) = false := by simp; omega
      have hd3 : decide ((l.length : Int) ≤ (40 : Int)) = true := by simp; omega
      have hi4 : (l.length : Int) ≤ 40 := by omega
      clear h
      go_wp2_with fail
      go_ret
      exact ⟨.inr ⟨rfl, by omega⟩, rfl⟩
def xCl : Call := ⟨7, ⟨#[]⟩, 0, 0, 0, 0, 0⟩
def evc (n code p : Int) : EventP := ⟨⟨0, n, xCl, code, .slice none 0 0, p, p, p⟩, []⟩
theorem zero_km : KMOK MS.zero.M := ⟨fun _ => List.Pairwise.nil, fun _ p hp => by cases hp⟩
theorem do_cl1 : doF c8 xCl MS.zero = ⟨0, [], [], fun _ => [], -9223372036854775808, true⟩ :=
  doF_eq zero_km (.inr (.inr (.inr (.inr (.inr ⟨by kernel_rfl, rfl, by decide, by kernel_rfl, rfl, rfl, rfl, rfl, rfl, rfl⟩)))))
theorem do_cl2 : doF c8 xCl ⟨fun _ => [], [], -9223372036854775808, true⟩ = ⟨3, [], [], fun _ => [], -9223372036854775808, true⟩ :=
  doF_eq zero_km (.inr (.inl ⟨by kernel_rfl, rfl, rfl, rfl, rfl, rfl, rfl, rfl⟩))
theorem up20_fine (code : Int) : FineE ([evc 0 0 1, evc 1 code 2].map EventP.ev) := by
  have h1 : FineE [(evc 0 0 1).ev] := .snoc [] _ .nil (by
    refine ⟨by simp [evc], by simp [evc], by simp [evc], fun k hk => ?_, fun k hk => ?_, by simp [cntC, evc]⟩
    · cases hk
    · cases hk)
  refine .snoc [(evc 0 0 1).ev] (evc 1 code 2).ev h1 ?_
  refine ⟨by simp [evc], by simp [evc], by simp [evc], fun k hk => ?_, fun k hk _ => ?_, by simp [cntC, evc]⟩
  · obtain rfl : k = (evc 0 0 1).ev := by simpa using hk
    simp [evc]
  · obtain rfl : k = (evc 0 0 1).ev := by simpa using hk
    simp [evc]
theorem up20_order {code : Int} {S : List Int} (h : OrdOf [evc 0 0 1, evc 1 code 2] S) : S = [0, 1] := by
  have e : idxs ([evc 0 0 1, evc 1 code 2].map EventP.ev) 2 = [0, 1] := by rfl
  have hp : S.Perm (idxs ([evc 0 0 1, evc 1 code 2].map EventP.ev) 2) := h.per
  rw [e] at hp
  refine sorted_unique (weak_cfE _) h.srt ?_ hp
  refine List.pairwise_cons.2 ⟨fun y hy => ?_, List.pairwise_singleton _ _⟩
  obtain rfl : y = 1 := by simpa using hy
  left
  rw [ltC_cfE]
  rfl
theorem up20_run (code : Int) : runF c8 (byPoint [evc 0 0 1, evc 1 code 2] [0, 1]) MS.zero = if code = 3 then some ⟨fun _ => [], [], -9223372036854775808, true⟩ else none := by
  have e1 : byPoint [evc 0 0 1, evc 1 code 2] [0, 1] = [evc 0 0 1, evc 1 code 2] := rfl
  have s1 : stepF c8 (evc 0 0 1) MS.zero = some ⟨fun _ => [], [], -9223372036854775808, true⟩ := by
    unfold stepF
    rw [if_neg (by decide)]
    show (if ((doF c8 xCl MS.zero).code == 0 && panesB (doF c8 xCl MS.zero).R []) = true then some ((doF c8 xCl MS.zero).next MS.zero) else none) = _
    rw [do_cl1]
    rfl
  have hsk : skipE c8 (evc 1 code 2) = false := by
    unfold skipE
    have : ((evc 1 code 2).ev.call.op == 2) = false := rfl
    rw [this]
    simp
  have s2 : stepF c8 (evc 1 code 2) ⟨fun _ => [], [], -9223372036854775808, true⟩ = if code = 3 then some ⟨fun _ => [], [], -9223372036854775808, true⟩ else none := by
    unfold stepF
    rw [hsk, if_neg (by decide)]
    show (if ((doF c8 xCl ⟨fun _ => [], [], -9223372036854775808, true⟩).code == code && panesB (doF c8 xCl ⟨fun _ => [], [], -9223372036854775808, true⟩).R []) = true then some ((doF c8 xCl ⟨fun _ => [], [], -9223372036854775808, true⟩).next _) else none) = _
    rw [do_cl2]
    by_cases h : code = 3
    · subst h; rfl
    · have h2 : ((3 : Int) == code) = false := by simp; omega
      simp [h, h2]
  rw [e1]
  show (match stepF c8 (evc 0 0 1) MS.zero with | some s' => runF c8 [evc 1 code 2] s' | none => none) = _
  rw [s1]
  show (match stepF c8 (evc 1 code 2) _ with | some s' => some s' | none => none) = _
  rw [s2]
  split <;> rename_i h <;> (split at h <;> simp_all)
theorem up20_at {w : World} {g : Nat} {code : Int} (hc : I64 code) (h : At w g #[.int .i64 0, .int .i64 0, .int .i64 7, .string ⟨#[]⟩, .int .i64 0, .int .i64 0, .int .i64 0, .int .i64 0, .int .i64 0, .int .i64 0, .slice none 0 0, .int .i64 1, .int .i64 1, .int .i64 1,
    .int .i64 0, .int .i64 1, .int .i64 7, .string ⟨#[]⟩, .int .i64 0, .int .i64 0, .int .i64 0, .int .i64 0, .int .i64 0, .int .i64 code, .slice none 0 0, .int .i64 2, .int .i64 2, .int .i64 2] 75) :
    EvAt w (some ⟨g, 0, none⟩) [evc 0 0 1, evc 1 code 2].length 2 [evc 0 0 1, evc 1 code 2] := by
  have z : ∀ x : Int, -10 ≤ x → x ≤ 10 → I64 x := fun x h1 h2 => by unfold I64; omega
  have hxc : xCl.ok := by simp [Call.ok, xCl, I64, maxLen, ByteArray.size]
  refine ⟨Sl.of_at h (fun _ => rfl) (by decide) rfl rfl (by unfold maxLen; simp), fun x hx => ?_⟩
  have hx2 : x = evc 0 0 1 ∨ x = evc 1 code 2 := by simpa using hx
  rcases hx2 with rfl | rfl
  · exact ⟨⟨z 0 (by omega) (by omega), z 0 (by omega) (by omega), hxc, z 0 (by omega) (by omega), ⟨_, _, _, rfl⟩, z 1 (by omega) (by omega), z 1 (by omega) (by omega), z 1 (by omega) (by omega)⟩, none, 0, 0, rfl, Sl.nil _ _ _ _ _ (by unfold maxLen; simp)⟩
  · exact ⟨⟨z 0 (by omega) (by omega), z 1 (by omega) (by omega), hxc, hc, ⟨_, _, _, rfl⟩, z 2 (by omega) (by omega), z 2 (by omega) (by omega), z 2 (by omega) (by omega)⟩, none, 0, 0, rfl, Sl.nil _ _ _ _ _ (by unfold maxLen; simp)⟩
theorem up20_no {w : World} {g : Nat} (hA : EvAt w (some ⟨g, 0, none⟩) [evc 0 0 1, evc 1 0 2].length 2 [evc 0 0 1, evc 1 0 2]) (hc : c8.ok) (hm : c8.mayB = true) :
    Calls Tryz.prog 38 #[.agg c8.cells.toArray, .slice (some ⟨g, 0, none⟩) 2 2] w fun e w' => e = .returned (.tuple #[.pointer none, errV 10]) ∧ Keep none_ w w' := by
  refine (lin_check w c8 hc hm hA (by simp)).mono ?_
  rintro e w' (⟨h, -⟩ | ⟨-, S, hS, ⟨-, rfl, k⟩ | ⟨s, b, mb, gp, mp, tp, lp, vq, lv, T, h, -⟩⟩)
  · exact absurd (up20_fine 0) h
  · exact ⟨rfl, k⟩
  · obtain rfl := up20_order hS
    rw [up20_run, if_neg (by decide)] at h
    cases h
theorem up20_yes {w : World} {g : Nat} (hA : EvAt w (some ⟨g, 0, none⟩) [evc 0 0 1, evc 1 3 2].length 2 [evc 0 0 1, evc 1 3 2]) (hc : c8.ok) (hm : c8.mayB = true) :
    Calls Tryz.prog 38 #[.agg c8.cells.toArray, .slice (some ⟨g, 0, none⟩) 2 2] w fun e w' => ∃ mb, e = .returned (.tuple #[.pointer (some ⟨mb, 0, none⟩), .nilIface]) ∧ Keep none_ w w' := by
  refine (lin_check w c8 hc hm hA (by simp)).mono ?_
  rintro e w' (⟨h, -⟩ | ⟨-, S, hS, ⟨h, -⟩ | ⟨s, b, mb, gp, mp, tp, lp, vq, lv, T, -, rfl, st⟩⟩)
  · exact absurd (up20_fine 3) h
  · obtain rfl := up20_order hS
    rw [up20_run, if_pos rfl] at h
    cases h
  · exact ⟨mb, rfl, st.keep⟩
set_option maxHeartbeats 4000000 in
set_option maxRecDepth 100000 in
theorem lin_up (w : World) : Calls Tryz.prog 37 #[] w fun e w' => e = .returned (.bool true) ∧ Keep none_ w w' := by
  have hi : ∀ n : Int, -1000 ≤ n → n ≤ 1000 → I64 n := fun n h1 h2 => by unfold I64; omega
  have ok8 : c8.ok := ⟨hi _ (by decide) (by decide), hi _ (by decide) (by decide), hi _ (by decide) (by decide), hi _ (by decide) (by decide), hi _ (by decide) (by decide), hi _ (by decide) (by decide), hi _ (by decide) (by decide), hi _ (by decide) (by decide)⟩
  have m8 : c8.mayB = true := by kernel_rfl
  have c1 := fun W g hA => up20_no (w := W) (g := g) (up20_at (hi _ (by decide) (by decide)) hA) ok8 m8
  have c2 := fun W g hA => up20_yes (w := W) (g := g) (up20_at (hi _ (by decide) (by decide)) hA) ok8 m8
  have hcb := At.alloc (At.new w c8.cells.toArray 23) (.cells xCl.cells.toArray 60)
  have hxb : At ((w.alloc (.cells c8.cells.toArray 23)).alloc (.cells xCl.cells.toArray 60)) (w.heap.size + 1) xCl.cells.toArray 60 := At.newAt (by simp) _ _
  have k0 : Keep none_ w ((w.alloc (.cells c8.cells.toArray 23)).alloc (.cells xCl.cells.toArray 60)) := (by repeat' (first | assumption | with_reducible exact Keep.refl _ _ | with_reducible refine Keep.alloc ?_ _ | with_reducible refine Keep.drew ?_))
  simp only [Config.cells, c8, Call.cells, xCl] at c1 c2 hcb hxb k0
  replace c1 := Lib.hid c1
  replace c2 := Lib.hid c2
  clear hi ok8 m8
  go_enter Tryz.func37, Tryz.ntmps37
  go_upto_region 3 with fail
  generalize World.alloc (World.alloc w _) _ = w0 at *
  generalize hxe : w.heap.size + 1 = xb at *
  generalize hce : w.heap.size = cb at *
  have q := At.cell hcb
  have qx := At.cell hxb
  have lcb := hcb.lt
  have lxb := hxb.lt
  replace hxe := Lib.hid hxe
  replace hce := Lib.hid hce
  replace hcb := Lib.hid hcb
  replace hxb := Lib.hid hxb
  go_wp2_with fail
  refine (c1.out _ _ (At.new _ _ _)).mono ?_
  rintro e w2 ⟨rfl, k2⟩
  have kk := k0.trans ((Keep.alloc (Keep.refl none_ w0) _).trans k2)
  have hc2 := Keep.at k2 (At.alloc hcb.out _) (fun e => e)
  have hx2 := Keep.at k2 (At.alloc hxb.out _) (fun e => e)
  clear q qx lcb lxb hcb hxb c1 k0
  have q := At.cell hc2
  have qx := At.cell hx2
  have lcb := hc2.lt
  have lxb := hx2.lt
  replace hc2 := Lib.hid hc2
  replace hx2 := Lib.hid hx2
  clear k2
  go_wp2_with fail
  refine (c2.out _ _ (At.new _ _ _)).mono ?_
  rintro e w3 ⟨mb, rfl, k3⟩
  have kk3 := kk.trans ((Keep.alloc (Keep.refl none_ w2) _).trans k3)
  have he := eq_err w3 10 10
  clear q qx lcb lxb hc2 hx2 c2 kk k3
  go_wp2_with fail
  go_ret
  exact ⟨rfl, kk3⟩
end Go.Proofs.YtmioichjhiengaaGreat
