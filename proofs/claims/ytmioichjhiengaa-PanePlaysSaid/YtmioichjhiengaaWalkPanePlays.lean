/-
  The walk of the law PanePlays.
-/
import Derived.Test.YtmioichjhiengaaPlaysR9
import Derived.Test.YtmioichjhiengaaPlaysCut
import Derived.Test.YtmioichjhiengaaPlaysL37
import Derived.Test.YtmioichjhiengaaPlaysMg
import Derived.Test.YtmioichjhiengaaPlaysPt
import Derived.Test.YtmioichjhiengaaPaneUp
import Derived.Test.YtmioichjhiengaaAgg
import Derived.Deep.CutRange
import Derived.Deep.RegionHeld3
namespace Go.Proofs.Ytmioichjhiengaa
open Go.RowKit

theorem deed07_len (x : Deed07) : x.cells.length = 4 := rfl

set_option maxHeartbeats 16000000 in
set_option maxRecDepth 100000 in
theorem law_PanePlays (l : List Deed07) (v : Value) (key : ByteArray) (W : World) (hv : rSlice 4 rDeed07 W l [v]) (hk : key.size ≤ maxLen) :
    Calls Try.prog 6 #[v, .string key] W fun e W' => e = .returned (.bool true) ∧ Below W.heap.size W W' := by
  obtain ⟨A, n, c, rfl, hsl, hok⟩ := sl_of Deed07.cells Deed07.ok (fun _ _ _ h => h) hv
  clear hv
  have hn := hsl.len
  have hlc := hsl.2.1
  have hnc := hsl.2.2.1
  unfold maxLen at hnc
  by_cases h60 : 60 < n
  · have hd : decide ((60 : Int) < (n : Int)) = true := by simp; omega
    clear hn hsl
    go_enter Try.func6, Try.ntmps6
    go_wp2_with fail
    refine (up7 _).mono ?_
    rintro e w1 ⟨rfl, k1⟩
    go_wp2_with fail
    go_ret
    exact ⟨by simp, k1.below (Nat.le_refl _) not_none⟩
  · have hd : decide ((60 : Int) < (n : Int)) = false := by simp; omega
    by_cases h100 : 100 < key.size
    · have hd2 : decide ((100 : Int) < (key.size : Int)) = true := by simp; omega
      clear hn hsl
      go_enter Try.func6, Try.ntmps6
      go_wp2_with fail
      refine (up7 _).mono ?_
      rintro e w1 ⟨rfl, k1⟩
      go_wp2_with fail
      go_ret
      exact ⟨by simp, k1.below (Nat.le_refl _) not_none⟩
    · have hd2 : decide ((100 : Int) < (key.size : Int)) = false := by simp; omega
      replace hn := Lib.hid hn
      replace hk := Lib.hid hk
      go_enter Try.func6, Try.ntmps6
      go_wp2_with fail
      refine (up7 _).mono ?_
      rintro e w1 ⟨rfl, k1⟩
      go_wp2_with fail
      go_loopw [6, 7, 8, 9, 10, 11, 12, 13, 14, 15, 16, 17, 18, 19, 20, 21, 22, 23, 24, 25, 26, 27, 28] (fun mv iv _ _ _ _ _ _ _ _ _ _ _ _ _ _ _ _ _ _ _ _ _ wr => ∃ (i : Nat) (m : List Pane), iv = .int .i64 i ∧ i ≤ n ∧ PRow wr W.heap.size mv m ∧ Hid (PlayP i key m) ∧ Keep none_ W wr)
        (fun _ iv _ _ _ _ _ _ _ _ _ _ _ _ _ _ _ _ _ _ _ _ _ _ => n - (intOf iv).toNat)
      case atStart => exact ⟨0, [], rfl, Nat.zero_le _, ⟨rfl, .inl ⟨rfl, rfl⟩⟩, Lib.hid (PlayP.zero key), k1⟩
      case round =>
        clear k1 w1
        obtain ⟨i, m, rfl, hin, oM, hP, kk⟩ := hrel
        generalize wr = wv at *
        by_cases hlt : i < n
        · have hix : i < l.length := by have := hn.out; omega
          have hsr := hsl.keep kk Off.none_
          obtain ⟨b, off, rfl, hbl, -⟩ := hsr.at_ (by omega)
          have q0 := hsr.cellk hix 0 (by omega)
          have q1 := hsr.cellk hix 1 (by omega)
          have q2 := hsr.cellk hix 2 (by omega)
          have q3 := hsr.cellk hix 3 (by omega)
          have hxok : Hid (l[i].ok) := Lib.hid (hok _ (List.getElem_mem hix))
          generalize l[i] = x at *
          simp only [Deed07.cells, List.getElem?_cons_zero, List.getElem?_cons_succ, Nat.add_zero] at q0 q1 q2 q3
          have hlt' : (i : Int) < (n : Int) := by omega
          have hi0 := Int.natCast_nonneg i
          have hMl : m.length ≤ 60 := by have := hP.out.len; omega
          obtain ⟨AM, dM, rfl⟩ := own_form oM
          have hxb := At.new wv x.cells.toArray 53
          have kx : Keep none_ wv (wv.alloc (.cells x.cells.toArray 53)) := Keep.alloc (Keep.refl _ _) _
          have hWw := kk.size
          simp only [Deed07.cells] at hxb kx
          clear hsr
          go_wp2_with fail
          generalize hw0 : wv.alloc _ = w0 at *
          generalize hsb : wv.heap.size = xb at *
          refine plays_r9 _ _ _ _ _ _ _ _ _ _ _ _ _ _ _ _ _ _ _ _ _ _ _ _ _ _ _ _ _ _ _ _ _ _ _ _ _ _ _ _ _ _ _ _ _ _ _ _ _ _ _ _ _ _ _ _ _ _ _ _ _ _ _ _ _ _ _ _ _ _ _ _ _ _ _ _ _ _ _ _ _ _ _ _ _ _ _ _ _ _ _ _ _ _ _ _ _ _ _ _ _ _ _ _ _ _ _ _ _ _ _ _ _ _ _ _ _ _ _ _ _ _ _ _ _ _ _ _ _ _ _ _ _ _ _ _ _ _ _ _ _ _ _ _ _ _ _ _ _ _ _ _ _ _ _ _ _ _ _ _ _ _ _ _ _ _ _ _ _ _ _ _ _ _ _ _ _ _ _ _ _ _ _ _ _ _ _ _ _ _ _ _ _ _ _ _ _ _ _ _ _ _ _ _ _ _ _ _ _ _ _ _ _ _ _ _ _ _ _ _ _ _ _ _ _ _ _ _ _ _ _ _ _ _ _ _ _ _ _ _ _ _ _ _ _ _ _ _ _ _ _ _ _ _ _ _ _ _ _ _ _ _ _ _ _ _ _ _ _ _ _ _ _ _ _ _ _ _ _ _ _ _ _ _ _ _ _ _ _ hxb ?_
          intro e49 e50 e51 e52 e53 e54 e55 pb w3 hp0 k2 hpb
          have hx3 := Keep.at k2 hxb (fun e => e)
          have k3 := kx.trans k2
          have hx2l := hxb.lt
          have hs23 := hp0.lt
          have cx3 := At.cell hx3
          clear hw0
          simp only [Pane.cells] at hp0 cx3
          have hpk := pick_range x.what 3 (by decide)
          have hpa := Lib.hid (fun w => pick_any w x.what 3 hxok.out.1.1 hxok.out.1.2 (by decide) (by decide))
          generalize hpv : pick x.what 3 = pv at *
          clear hpv
          go_wp2_with fail
          refine (hpa.out _).mono ?_
          rintro e w' ⟨rfl, rfl⟩
          clear hpa cx3
          have L : QLow wv w3.heap.size pb xb := ⟨hs23, by omega, by omega, by omega⟩
          have hm0 : QInv wv w3 w3.heap.size pb xb x (pv == 1) key (m.take 0) (.slice none 0 0) (.slice none 0 0) := ⟨⟨rfl, .inl ⟨rfl, rfl⟩⟩, ⟨rfl, .inl ⟨rfl, rfl⟩⟩, (fun g e => by cases e), hp0, hx3, k3, Nat.le_refl _⟩
          have hb3 : xb ≤ w3.heap.size := by omega
          generalize w3.heap.size = base at *
          clear hs23 hp0 hx3 k3 k2 q0 q1 q2 q3
          go_wp2_with fail
          generalize hmg : (pv == 1) = mg at *
          refine plays_loop _ _ _ _ _ _ _ _ _ _ _ _ _ _ _ _ _ _ _ _ _ _ _ _ _ _ _ _ _ _ _ _ _ _ _ _ _ _ _ _ _ _ _ _ _ _ _ _ _ _ _ _ _ _ _ _ _ _ _ _ _ _ _ _ _ _ _ _ _ _ _ _ _ _ _ _ _ _ _ _ _ _ _ _ _ _ _ _ _ _ _ _ _ _ _ _ _ _ _ _ _ _ _ _ _ _ _ _ _ _ _ _ _ _ _ _ _ _ _ _ _ _ _ _ _ _ _ _ _ _ _ _ _ _ _ _ _ _ _ _ _ _ _ _ _ _ _ _ _ _ _ _ _ _ _ _ _ _ _ _ _ _ _ _ _ _ _ _ _ _ _ _ _ _ _ _ _ _ _ _ _ _ _ _ _ _ _ _ _ _ _ _ _ _ _ _ _ _ _ _ _ _ _ _ _ _ _ _ _ _ _ _ _ _ _ _ _ _ _ _ _ _ _ _ _ _ _ _ _ _ _ _ _ _ _ _ _ _ _ _ _ _ _ _ _ _ _ _ _ _ _ _ _ _ _ _ _ _ _ _ _ _ _ _ _ _ _ _ _ _ _ _ _ _ _ _ _ _ _ _ _ _ _ _ _ _ oM hMl hP hxok L (by simpa using hm0) ?_
          intro e10 e11 e14 e15 e61 e62 e63 e64 e65 e66 e67 e68 e69 e70 e71 e72 e73 e74 e75 e76 e77 e78 e79 e80 e81 e82 e83 e84 e85 e86 e87 e88 e89 e90 e91 e92 e93 e94 e95 e96 e97 e98 e99 e100 e101 e102 e103 e104 e105 e106 e107 e108 e109 e110 e111 e112 e113 e114 e115 e116 e117 e118 e119 e120 e121 e122 e123 e124 e125 e126 e127 e128 e129 e130 e131 e132 e133 e134 e135 e136 e137 e138 e139 e140 e141 e142 w' hm
          have hs9 := hm.size
          have sM := fun W' (kz : Keep none_ wv W') => Sl.of_own (enc := Pane.cells) pane_len (by decide) (own_keep oM kz (fun _ _ e => e))
          have cfd := Lib.hid (fun W' (kz : Keep none_ wv W') => pane_find (sM W' kz) hP.out.srt (by omega) x.s)
          have cof := Lib.hid (fun W' (kz : Keep none_ wv W') => ref_of (sM W' kz) (by omega) key)
          rw [ofKey_all hP.out.key_] at cof
          rw [show findP m x.s = ((findP m x.s).1, isP m x.s) from Prod.ext rfl (find_is m x.s)] at cfd
          generalize hfp : (findP m x.s).1 = fp at *
          obtain ⟨bf, hbf⟩ : ∃ bf, bf = isP m x.s := ⟨_, rfl⟩
          rw [← hbf] at cfd
          simp only [Pane.cells, Span.cells] at cfd
          have cx1 : w'.cell? ⟨xb, 1, none⟩ = some (.int .i64 x.s.s) := At.cell hm.dd 1
          have cx2 : w'.cell? ⟨xb, 2, none⟩ = some (.int .i64 x.s.e) := At.cell hm.dd 2
          replace hfp := Lib.hid hfp
          replace hbf := Lib.hid hbf
          go_wp2_with fail
          refine (cfd.out _ hm.keep).mono ?_
          rintro e w4 ⟨rfl, k4⟩
          have hm4 := hm.on k4
          have hf0 := At.new w4 #[.string fp.key, .int .i64 fp.span.s, .int .i64 fp.span.e, .int .i64 fp.agg.count, .int .i64 fp.agg.sum, .int .i64 fp.agg.lo, .int .i64 fp.agg.hi] 32
          have k4' := Keep.alloc (Keep.refl none_ w4) (.cells #[.string fp.key, .int .i64 fp.span.s, .int .i64 fp.span.e, .int .i64 fp.agg.count, .int .i64 fp.agg.sum, .int .i64 fp.agg.lo, .int .i64 fp.agg.hi] 32)
          have hm5 := hm4.on k4'
          clear cfd hm k4 cx1 cx2
          go_wp2_with fail
          generalize hw5 : w4.alloc _ = w5 at *
          generalize hfb : w4.heap.size = fb at *
          clear hw5 k4' hm4
          refine (cof.out _ hm5.keep).mono ?_
          rintro e w6 ⟨vh, rfl, oH, k6⟩
          obtain ⟨AH, dH, rfl⟩ := own_form oH
          have hm6 := hm5.on k6
          have hf6 := Keep.at k6 hf0 (fun e => e)
          clear cof hm5 k6 hf0
          obtain ⟨Ar, dr, rfl⟩ := own_form hm6.out
          obtain ⟨Ag, dg, rfl⟩ := own_form hm6.gone
          generalize hgl : ((metQ mg x.s m).map (fun p : Pane => p.span)).length = gl at *
          replace hgl := Lib.hid hgl
          by_cases hcut : pv = 2
          · subst hcut
            obtain rfl : mg = false := by rw [← hmg]; rfl
            clear hmg oH
            go_upto_if 154 with fail
            refine plays_cut _ _ _ _ _ _ _ _ _ _ _ _ _ _ _ _ _ _ _ _ _ _ _ _ _ _ _ _ _ _ _ _ _ _ _ _ _ _ _ _ _ _ _ _ _ _ _ _ _ _ _ _ _ _ _ _ _ _ _ _ _ _ _ _ _ _ _ _ _ _ _ _ _ _ _ _ _ _ _ _ _ _ _ _ _ _ _ _ _ _ _ _ _ _ _ _ _ _ _ _ _ _ _ _ _ _ _ _ _ _ _ _ _ _ _ _ _ _ _ _ _ _ _ _ _ _ _ _ _ _ _ _ _ _ _ _ _ _ _ _ _ _ _ _ _ _ _ _ _ _ _ _ _ _ _ _ _ _ _ _ _ _ _ _ _ _ _ _ _ _ _ _ _ _ _ _ _ _ _ _ _ _ _ _ _ _ _ _ _ _ _ _ _ _ _ _ _ _ _ _ _ _ _ _ _ _ _ _ _ _ _ _ _ _ _ _ _ _ _ _ _ _ _ _ _ _ _ _ _ _ _ _ _ _ _ _ _ _ _ _ _ _ _ _ _ _ _ _ _ _ _ _ _ _ _ _ _ _ _ _ _ _ _ _ _ _ _ _ _ _ _ _ _ _ _ _ _ _ _ _ _ _ _ _ oM kk.size hMl hP L hm6 hgl hf6 hfp hbf ?_
            intro f6 f11 f19 f20 f21 f155 f156 f157 f158 f159 f160 f161 f162 f163 f164 f165 f166 f167 f168 f169 f170 f171 f172 f173 f174 f175 f176 f177 f178 f179 f180 f181 f182 f183 f184 f185 f186 f187 f188 f189 f190 f191 f192 f193 f194 f195 f196 f197 f198 f199 m' w7 oM' hP' k7
            have kf := kk.trans k7
            clear hm6 hf6
            go_wp2_with fail
            go_roundw
            case rel => exact ⟨i + 1, m', by go_num, by omega, oM', Lib.hid hP', kf⟩
            case measure => simp [intOf]; omega
          · have hcut2 : (pv == 2) = false := by simp [hcut]
            have hRl := Nat.le_trans (restQ_le mg x.s m) hMl
            cases mg
            · have hcut3 : (pv == 1) = false := hmg
              obtain ⟨hwant, hsr⟩ := hP.out.want (by omega) x.s x.v hxok.out.2.2
              have p6 := At.cell hm6.pane
              have cs := Lib.hid (ref_set hm6.out hsr (by omega) (accQ false key x.s x.v m))
              rw [← hwant] at cs
              obtain ⟨WL, hWL⟩ : ∃ WL, WL = putP m key x.s x.v := ⟨_, rfl⟩
              rw [← hWL] at cs
              have hP' := hP.out.put (by omega) hxok.out.2.2 hk.out hxok.out.2.1
              rw [← hWL] at hP'
              have oM6 := own_keep oM hm6.keep (fun _ _ e => e)
              have hk6 := hm6.keep
              have hd6 := hm6.dd
              replace hWL := Lib.hid hWL
              replace hP' := Lib.hid hP'
              generalize accQ false key x.s x.v m = p at *
              simp only [Pane.cells] at cs p6
              clear hm6 hf6 hsr hwant hfp hbf
              go_wp2_with fail
              refine cs.out.mono ?_
              rintro e w7 ⟨vw, rfl, oW, k7⟩
              obtain ⟨Aw, dw, rfl⟩ := own_form oW
              have k67 := hk6.trans k7
              have hd7 := Keep.at k7 hd6 (fun e => e)
              have oH7 := own_keep oH k7 (fun _ _ e => e)
              clear cs p6
              go_upto_if 219 with fail
              refine plays_pt _ _ _ _ _ _ _ _ _ _ _ _ _ _ _ _ _ _ _ _ _ _ _ _ _ _ _ _ _ _ _ _ _ _ _ _ _ _ _ _ _ _ _ _ _ _ _ _ _ _ _ _ _ _ _ _ _ _ _ _ _ _ _ _ _ _ _ _ _ _ _ _ _ _ _ _ _ _ _ _ _ _ _ _ _ _ _ _ _ _ _ _ _ _ _ _ _ _ _ _ _ _ _ _ _ _ _ _ _ _ _ _ _ _ _ _ _ _ _ _ _ _ _ _ _ _ _ _ _ _ _ _ _ _ _ _ _ _ _ _ _ _ _ _ _ _ _ _ _ _ _ _ _ _ _ _ _ _ _ _ _ _ _ _ _ _ _ _ _ _ _ _ _ _ _ _ _ _ _ _ _ _ _ _ _ _ _ _ _ _ _ _ _ _ _ _ _ _ _ _ _ _ _ _ _ _ _ _ _ _ _ _ _ _ _ _ _ _ _ _ _ _ _ _ _ _ _ _ _ _ _ _ _ _ _ _ _ _ _ _ _ _ _ _ _ _ _ _ _ _ _ _ _ _ _ _ _ _ _ _ _ _ _ _ _ _ _ _ _ _ _ _ _ _ _ _ _ _ _ _ _ _ _ _ _ _ oM hMl hP hxok k67 hd7 oW hWL ?_
              intro j4 j275 j276 j277 j278 j279 j280 j281 j282 j283 j284 w8 k8
              have k68 := k67.trans k8
              have sa := Sl.of_own (enc := Pane.cells) pane_len (by decide) (own_keep oM k68 (fun _ _ e => e))
              have sb := Sl.of_own (enc := Pane.cells) pane_len (by decide) (own_keep oH7 k8 (fun _ _ e => e))
              have cz := Lib.hid (ref_same w8 sa sb)
              rw [panesB_self] at cz
              have oW8 := own_keep oW k8 (fun _ _ e => e)
              clear sa sb oH7 oH oM6 oW
              go_wp2_with fail
              refine cz.out.mono ?_
              rintro e w9 ⟨rfl, k9⟩
              have kf := kk.trans (k68.trans k9)
              have oW9 := own_lower (own_keep oW8 k9 (fun _ _ e => e)) (b' := W.heap.size) (Nat.le_trans kk.size hk6.size)
              clear cz oW8
              go_wp2_with fail
              go_roundw
              case rel => exact ⟨i + 1, WL, by go_num, by omega, oW9, hP', kf⟩
              case measure => simp [intOf]; omega
            · have hcut3 : (pv == 1) = true := hmg
              have hrest : restQ true x.s m = outP m x.s := rfl
              have hacc : accQ true key x.s x.v m = accP key x.s x.v m := rfl
              have hsr : SortedP (restQ true x.s m) := hP.out.srt.filter _
              obtain ⟨G, hG⟩ : ∃ G, G = (metP m x.s).map (·.span) := ⟨_, rfl⟩
              obtain rfl : G.length = gl := by rw [← hgl.out, hG]; rfl
              have oG6 : SRow w6 base (.slice Ag G.length dg) G := by
                have h9 := hm6.gone
                rw [hgl.out] at h9
                have e9 : (metQ true x.s m).map (·.span) = G := hG.symm
                rw [e9] at h9
                exact h9
              obtain ⟨p, hp⟩ : ∃ p, p = accQ true key x.s x.v m := ⟨_, rfl⟩
              have hp6 := hm6.pane
              rw [← hp] at hp6
              have hk6 := hm6.keep
              have hd6 := hm6.dd
              have oR6 := hm6.out
              have hmP := fun (hno : isP (outP m x.s) (accP key x.s x.v m).span = false) => hP.out.merge (by omega) hxok.out.2.2 hk.out hxok.out.2.1 hno
              obtain ⟨WL, hWL⟩ : ∃ WL, WL = mergeP key x.s x.v m := ⟨_, rfl⟩
              have hins : insL (restQ true x.s m) (lbP (restQ true x.s m) p.span) p = WL := by rw [hWL, hp]; rfl
              rw [← hWL, ← hacc, ← hp, ← hrest] at hmP
              have hpe : Hid (p = accP key x.s x.v m) := Lib.hid hp
              generalize restQ true x.s m = R at *
              replace hG := Lib.hid hG
              replace hWL := Lib.hid hWL
              replace hins := Lib.hid hins
              replace hmP := Lib.hid hmP
              replace hsr := Lib.hid hsr
              clear hm6 hf6 hfp hbf hrest hacc hp hgl
              go_wp2_with fail
              refine plays_l37 _ _ _ _ _ _ _ _ _ _ _ _ _ _ _ _ _ _ _ _ _ _ _ _ _ _ _ _ _ _ _ _ _ _ _ _ _ _ _ _ _ _ _ _ _ _ _ _ _ _ _ _ _ _ _ _ _ _ _ _ _ _ _ _ _ _ _ _ _ _ _ _ _ _ _ _ _ _ _ _ _ _ _ _ _ _ _ _ _ _ _ _ _ _ _ _ _ _ _ _ _ _ _ _ _ _ _ _ _ _ _ _ _ _ _ _ _ _ _ _ _ _ _ _ _ _ _ _ _ _ _ _ _ _ _ _ _ _ _ _ _ _ _ _ _ _ _ _ _ _ _ _ _ _ _ _ _ _ _ _ _ _ _ _ _ _ _ _ _ _ _ _ _ _ _ _ _ _ _ _ _ _ _ _ _ _ _ _ _ _ _ _ _ _ _ _ _ _ _ _ _ _ _ _ _ _ _ _ _ _ _ _ _ _ _ _ _ _ _ _ _ _ _ _ _ _ _ _ _ _ _ _ _ _ _ _ _ _ _ _ _ _ _ _ _ _ _ _ _ _ _ _ _ _ _ _ _ _ _ _ _ _ _ _ _ _ _ _ _ _ _ _ _ _ _ _ _ _ _ _ _ _ _ _ _ _ _ oR6 (by omega) hp6 ?_ ?_
              · intro g4 g22 g201 g202 g203 g204 g205 g206 g207 g208 g209 g210 g211 g212 g213 g214 g215 w7 hall k67
                have hp7 := Keep.at k67 hp6 (fun e => e)
                have p7 := At.cell hp7
                have oR7 := own_keep oR6 k67 (fun _ _ e => e)
                have cs := Lib.hid (ref_set oR7 hsr.out (by omega) p)
                rw [hins.out] at cs
                have hno : isP R p.span = false := by
                  rw [← Bool.not_eq_true, isP_iff hsr.out]
                  rintro ⟨y, hy, e⟩
                  exact hall y hy e
                have hP' := Lib.hid (hmP.out hno)
                have k7 := hk6.trans k67
                simp only [Pane.cells] at cs p7
                clear hall hno hmP oR7
                go_wp2_with fail
                refine cs.out.mono ?_
                rintro e w8 ⟨vw, rfl, oW, k8⟩
                obtain ⟨Aw, dw, rfl⟩ := own_form oW
                have k68 := k67.trans k8
                have kv8 := hk6.trans k68
                have hd8 := Keep.at k68 hd6 (fun e => e)
                have hp8 := Keep.at k8 hp7 (fun e => e)
                have oG8 := own_keep oG6 k68 (fun _ _ e => e)
                have oH8 := own_keep oH k68 (fun _ _ e => e)
                clear cs p7 hp7
                go_upto_if 219 with fail
                refine plays_mg _ _ _ _ _ _ _ _ _ _ _ _ _ _ _ _ _ _ _ _ _ _ _ _ _ _ _ _ _ _ _ _ _ _ _ _ _ _ _ _ _ _ _ _ _ _ _ _ _ _ _ _ _ _ _ _ _ _ _ _ _ _ _ _ _ _ _ _ _ _ _ _ _ _ _ _ _ _ _ _ _ _ _ _ _ _ _ _ _ _ _ _ _ _ _ _ _ _ _ _ _ _ _ _ _ _ _ _ _ _ _ _ _ _ _ _ _ _ _ _ _ _ _ _ _ _ _ _ _ _ _ _ _ _ _ _ _ _ _ _ _ _ _ _ _ _ _ _ _ _ _ _ _ _ _ _ _ _ _ _ _ _ _ _ _ _ _ _ _ _ _ _ _ _ _ _ _ _ _ _ _ _ _ _ _ _ _ _ _ _ _ _ _ _ _ _ _ _ _ _ _ _ _ _ _ _ _ _ _ _ _ _ _ _ _ _ _ _ _ _ _ _ _ _ _ _ _ _ _ _ _ _ _ _ _ _ _ _ _ _ _ _ _ _ _ _ _ _ _ _ _ _ _ _ _ _ _ _ _ _ _ _ _ _ _ _ _ _ _ _ _ _ _ _ _ _ _ _ _ _ _ _ _ _ oM hMl hP hxok kv8 hd8 oW hp8 oG8 hG hpe hWL ?_
                intro h4 h24 h25 h26 h27 h28 h220 h221 h222 h223 h224 h225 h226 h227 h228 h229 h230 h231 h232 h233 h234 h235 h236 h237 h238 h239 h240 h241 h242 h243 h244 h245 h246 h247 h248 h249 h250 h251 h252 h253 h254 h255 h256 h257 h258 h259 h260 h261 h262 h263 h264 h265 h266 h267 h268 h269 h270 h271 h272 h273 h274 w9 k9
                have kv9 := kv8.trans k9
                have sa := Sl.of_own (enc := Pane.cells) pane_len (by decide) (own_keep oM kv9 (fun _ _ e => e))
                have sb := Sl.of_own (enc := Pane.cells) pane_len (by decide) (own_keep oH8 k9 (fun _ _ e => e))
                have cz := Lib.hid (ref_same w9 sa sb)
                rw [panesB_self] at cz
                have oW9 := own_keep oW k9 (fun _ _ e => e)
                clear sa sb oH8 oH oW oG8 oG6 oR6
                go_wp2_with fail
                refine cz.out.mono ?_
                rintro e w10 ⟨rfl, k10⟩
                have kf := kk.trans (kv9.trans k10)
                have oWf := own_lower (own_keep oW9 k10 (fun _ _ e => e)) (b' := W.heap.size) (Nat.le_trans kk.size k7.size)
                clear cz oW9
                go_wp2_with fail
                go_roundw
                case rel => exact ⟨i + 1, WL, by go_num, by omega, oWf, hP', kf⟩
                case measure => simp [intOf]; omega
              · intro g22 g201 g202 g203 g204 g205 g206 g207 g208 g209 g210 g211 g212 g213 g214 g215 w7 k67
                have kf := kk.trans (hk6.trans k67)
                go_wp2_with fail
                go_ret
                exact ⟨by simp, kf.below (Nat.le_refl _) not_none⟩
        · clear hsl oM hP
          go_wp2_with fail
          go_ret
          exact ⟨by simp, kk.below (Nat.le_refl _) not_none⟩
end Go.Proofs.Ytmioichjhiengaa
