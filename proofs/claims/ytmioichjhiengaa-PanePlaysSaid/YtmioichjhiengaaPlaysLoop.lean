/-
  PanePlays' inner loop.
-/
import Derived.Test.YtmioichjhiengaaPlaysInv
import Derived.Test.YtmioichjhiengaaAgg
import Derived.Deep.CutRange
namespace Go.Proofs.Ytmioichjhiengaa
open Go.RowKit

theorem meet_same (a b : Span) : a.meetB b = (a.mayB && b.mayB && a.meetR b) := by
  unfold Span.meetB Span.meetR Span.mayB; rw [Bool.eq_iff_iff]; simp; split <;> omega
def headReg : Code → Option Nat
  | .region id _ _ => some id
  | .seq a b => match headReg a with
    | some r => some r
    | none => headReg b
  | .loop c => headReg c
  | .block _ c => headReg c
  | .scope c => headReg c
  | _ => none
/-- The body of the loop whose first region is r. -/
def loopAt (r : Nat) : Code → Option Code
  | .loop c => if headReg c == some r then some c else loopAt r c
  | .seq a b => match loopAt r a with
    | some c => some c
    | none => loopAt r b
  | .block _ c => loopAt r c
  | .scope c => loopAt r c
  | .cond _ a b => match loopAt r a with
    | some c => some c
    | none => loopAt r b
  | _ => none
/-- The region r. -/
def regAt (r : Nat) : Code → Option Code
  | .region id ops b => if id == r then some (.region id ops b) else none
  | .loop c => regAt r c
  | .seq a b => match regAt r a with
    | some c => some c
    | none => regAt r b
  | .block _ c => regAt r c
  | .scope c => regAt r c
  | .cond _ a b => match regAt r a with
    | some c => some c
    | none => regAt r b
  | _ => none
/-- The 'if' that asks slot t. -/
def condAt (t : Nat) : Code → Option Code
  | .cond (.tmp i) a b => if i == t then some (.cond (.tmp i) a b) else match condAt t a with
    | some c => some c
    | none => condAt t b
  | .loop c => condAt t c
  | .seq a b => match condAt t a with
    | some c => some c
    | none => condAt t b
  | .block _ c => condAt t c
  | .scope c => condAt t c
  | .cond _ a b => match condAt t a with
    | some c => some c
    | none => condAt t b
  | _ => none
noncomputable def body15 : Code := ((Try.f6.body.bind (loopAt 15)).getD .skip)

set_option maxHeartbeats 16000000 in
set_option maxRecDepth 1000000 in
theorem plays_loop {Q0 : Exit → Act → World → Prop} {wv w3 : World} {B base pb xb i : Nat} {x : Deed07} {mg : Bool} {key : ByteArray} {m : List Pane} {AM : Option Addr} {dM : Nat} (v10 v11 v15 c0 c1 c2 c3 c4 c5 c7 c12 c16 c17 c18 c19 c20 c21 c22 c23 c24 c25 c26 c27 c28 c29 c30 c31 c32 c33 c34 c35 c36 c37 c38 c39 c40 c41 c42 c43 c44 c45 c46 c47 c48 c49 c50 c51 c52 c53 c54 c55 c56 c57 c58 c59 c60 c61 c62 c63 c64 c65 c66 c67 c68 c69 c70 c71 c72 c73 c74 c75 c76 c77 c78 c79 c80 c81 c82 c83 c84 c85 c86 c87 c88 c89 c90 c91 c92 c93 c94 c95 c96 c97 c98 c99 c100 c101 c102 c103 c104 c105 c106 c107 c108 c109 c110 c111 c112 c113 c114 c115 c116 c117 c118 c119 c120 c121 c122 c123 c124 c125 c126 c127 c128 c129 c130 c131 c132 c133 c134 c135 c136 c137 c138 c139 c140 c141 c142 c143 c144 c145 c146 c147 c148 c149 c150 c151 c152 c153 c154 c155 c156 c157 c158 c159 c160 c161 c162 c163 c164 c165 c166 c167 c168 c169 c170 c171 c172 c173 c174 c175 c176 c177 c178 c179 c180 c181 c182 c183 c184 c185 c186 c187 c188 c189 c190 c191 c192 c193 c194 c195 c196 c197 c198 c199 c200 c201 c202 c203 c204 c205 c206 c207 c208 c209 c210 c211 c212 c213 c214 c215 c216 c217 c218 c219 c220 c221 c222 c223 c224 c225 c226 c227 c228 c229 c230 c231 c232 c233 c234 c235 c236 c237 c238 c239 c240 c241 c242 c243 c244 c245 c246 c247 c248 c249 c250 c251 c252 c253 c254 c255 c256 c257 c258 c259 c260 c261 c262 c263 c264 c265 c266 c267 c268 c269 c270 c271 c272 c273 c274 c275 c276 c277 c278 c279 c280 c281 c282 c283 c284 c285 c286 c287 c288 c289 c290 : Value)
    (oM : PRow wv B (.slice AM m.length dM) m) (hMl : m.length ≤ 60) (hP : Hid (PlayP i key m)) (hxok : Hid x.ok) (L : QLow wv base pb xb)
    (hm0 : QInv wv w3 base pb xb x mg key [] v10 v11)
    (hexit : ∀ (e10 e11 e14 e15 e61 e62 e63 e64 e65 e66 e67 e68 e69 e70 e71 e72 e73 e74 e75 e76 e77 e78 e79 e80 e81 e82 e83 e84 e85 e86 e87 e88 e89 e90 e91 e92 e93 e94 e95 e96 e97 e98 e99 e100 e101 e102 e103 e104 e105 e106 e107 e108 e109 e110 e111 e112 e113 e114 e115 e116 e117 e118 e119 e120 e121 e122 e123 e124 e125 e126 e127 e128 e129 e130 e131 e132 e133 e134 e135 e136 e137 e138 e139 e140 e141 e142 : Value) (w' : World), QInv wv w' base pb xb x mg key m e10 e11 → Q0 (.exit 2) ⟨List.toArray (c0 :: c1 :: c2 :: c3 :: c4 :: c5 :: .slice AM m.length dM :: c7 :: .pointer (some ⟨xb, 0, none⟩) :: .pointer (some ⟨pb, 0, none⟩) :: e10 :: e11 :: c12 :: .bool mg :: e14 :: e15 :: c16 :: c17 :: c18 :: c19 :: c20 :: c21 :: c22 :: c23 :: c24 :: c25 :: c26 :: c27 :: c28 :: c29 :: c30 :: c31 :: c32 :: c33 :: c34 :: c35 :: c36 :: c37 :: c38 :: c39 :: c40 :: c41 :: c42 :: c43 :: c44 :: c45 :: c46 :: c47 :: c48 :: c49 :: c50 :: c51 :: c52 :: c53 :: c54 :: c55 :: c56 :: c57 :: c58 :: c59 :: c60 :: e61 :: e62 :: e63 :: e64 :: e65 :: e66 :: e67 :: e68 :: e69 :: e70 :: e71 :: e72 :: e73 :: e74 :: e75 :: e76 :: e77 :: e78 :: e79 :: e80 :: e81 :: e82 :: e83 :: e84 :: e85 :: e86 :: e87 :: e88 :: e89 :: e90 :: e91 :: e92 :: e93 :: e94 :: e95 :: e96 :: e97 :: e98 :: e99 :: e100 :: e101 :: e102 :: e103 :: e104 :: e105 :: e106 :: e107 :: e108 :: e109 :: e110 :: e111 :: e112 :: e113 :: e114 :: e115 :: e116 :: e117 :: e118 :: e119 :: e120 :: e121 :: e122 :: e123 :: e124 :: e125 :: e126 :: e127 :: e128 :: e129 :: e130 :: e131 :: e132 :: e133 :: e134 :: e135 :: e136 :: e137 :: e138 :: e139 :: e140 :: e141 :: e142 :: c143 :: c144 :: c145 :: c146 :: c147 :: c148 :: c149 :: c150 :: c151 :: c152 :: c153 :: c154 :: c155 :: c156 :: c157 :: c158 :: c159 :: c160 :: c161 :: c162 :: c163 :: c164 :: c165 :: c166 :: c167 :: c168 :: c169 :: c170 :: c171 :: c172 :: c173 :: c174 :: c175 :: c176 :: c177 :: c178 :: c179 :: c180 :: c181 :: c182 :: c183 :: c184 :: c185 :: c186 :: c187 :: c188 :: c189 :: c190 :: c191 :: c192 :: c193 :: c194 :: c195 :: c196 :: c197 :: c198 :: c199 :: c200 :: c201 :: c202 :: c203 :: c204 :: c205 :: c206 :: c207 :: c208 :: c209 :: c210 :: c211 :: c212 :: c213 :: c214 :: c215 :: c216 :: c217 :: c218 :: c219 :: c220 :: c221 :: c222 :: c223 :: c224 :: c225 :: c226 :: c227 :: c228 :: c229 :: c230 :: c231 :: c232 :: c233 :: c234 :: c235 :: c236 :: c237 :: c238 :: c239 :: c240 :: c241 :: c242 :: c243 :: c244 :: c245 :: c246 :: c247 :: c248 :: c249 :: c250 :: c251 :: c252 :: c253 :: c254 :: c255 :: c256 :: c257 :: c258 :: c259 :: c260 :: c261 :: c262 :: c263 :: c264 :: c265 :: c266 :: c267 :: c268 :: c269 :: c270 :: c271 :: c272 :: c273 :: c274 :: c275 :: c276 :: c277 :: c278 :: c279 :: c280 :: c281 :: c282 :: c283 :: c284 :: c285 :: c286 :: c287 :: c288 :: c289 :: c290 :: []), []⟩ w') :
    Code.wp Try.prog (Code.loop body15) Q0 ⟨List.toArray (c0 :: c1 :: c2 :: c3 :: c4 :: c5 :: .slice AM m.length dM :: c7 :: .pointer (some ⟨xb, 0, none⟩) :: .pointer (some ⟨pb, 0, none⟩) :: v10 :: v11 :: c12 :: .bool mg :: .int .i64 0 :: v15 :: c16 :: c17 :: c18 :: c19 :: c20 :: c21 :: c22 :: c23 :: c24 :: c25 :: c26 :: c27 :: c28 :: c29 :: c30 :: c31 :: c32 :: c33 :: c34 :: c35 :: c36 :: c37 :: c38 :: c39 :: c40 :: c41 :: c42 :: c43 :: c44 :: c45 :: c46 :: c47 :: c48 :: c49 :: c50 :: c51 :: c52 :: c53 :: c54 :: c55 :: c56 :: c57 :: c58 :: c59 :: c60 :: c61 :: c62 :: c63 :: c64 :: c65 :: c66 :: c67 :: c68 :: c69 :: c70 :: c71 :: c72 :: c73 :: c74 :: c75 :: c76 :: c77 :: c78 :: c79 :: c80 :: c81 :: c82 :: c83 :: c84 :: c85 :: c86 :: c87 :: c88 :: c89 :: c90 :: c91 :: c92 :: c93 :: c94 :: c95 :: c96 :: c97 :: c98 :: c99 :: c100 :: c101 :: c102 :: c103 :: c104 :: c105 :: c106 :: c107 :: c108 :: c109 :: c110 :: c111 :: c112 :: c113 :: c114 :: c115 :: c116 :: c117 :: c118 :: c119 :: c120 :: c121 :: c122 :: c123 :: c124 :: c125 :: c126 :: c127 :: c128 :: c129 :: c130 :: c131 :: c132 :: c133 :: c134 :: c135 :: c136 :: c137 :: c138 :: c139 :: c140 :: c141 :: c142 :: c143 :: c144 :: c145 :: c146 :: c147 :: c148 :: c149 :: c150 :: c151 :: c152 :: c153 :: c154 :: c155 :: c156 :: c157 :: c158 :: c159 :: c160 :: c161 :: c162 :: c163 :: c164 :: c165 :: c166 :: c167 :: c168 :: c169 :: c170 :: c171 :: c172 :: c173 :: c174 :: c175 :: c176 :: c177 :: c178 :: c179 :: c180 :: c181 :: c182 :: c183 :: c184 :: c185 :: c186 :: c187 :: c188 :: c189 :: c190 :: c191 :: c192 :: c193 :: c194 :: c195 :: c196 :: c197 :: c198 :: c199 :: c200 :: c201 :: c202 :: c203 :: c204 :: c205 :: c206 :: c207 :: c208 :: c209 :: c210 :: c211 :: c212 :: c213 :: c214 :: c215 :: c216 :: c217 :: c218 :: c219 :: c220 :: c221 :: c222 :: c223 :: c224 :: c225 :: c226 :: c227 :: c228 :: c229 :: c230 :: c231 :: c232 :: c233 :: c234 :: c235 :: c236 :: c237 :: c238 :: c239 :: c240 :: c241 :: c242 :: c243 :: c244 :: c245 :: c246 :: c247 :: c248 :: c249 :: c250 :: c251 :: c252 :: c253 :: c254 :: c255 :: c256 :: c257 :: c258 :: c259 :: c260 :: c261 :: c262 :: c263 :: c264 :: c265 :: c266 :: c267 :: c268 :: c269 :: c270 :: c271 :: c272 :: c273 :: c274 :: c275 :: c276 :: c277 :: c278 :: c279 :: c280 :: c281 :: c282 :: c283 :: c284 :: c285 :: c286 :: c287 :: c288 :: c289 :: c290 :: []), []⟩ w3 := by
  unfold body15
  conv => arg 2; arg 1; whnf
  go_loopw [10, 11, 14, 15] (fun vo vg kv _ wq => ∃ k : Nat, kv = .int .i64 k ∧ k ≤ m.length ∧ QInv wv wq base pb xb x mg key (m.take k) vo vg) (fun _ _ kv _ _ => m.length - (intOf kv).toNat)
  case atStart => exact ⟨0, rfl, Nat.zero_le _, by simpa using hm0⟩
  case round =>
    clear hm0
    obtain ⟨k, rfl, hkm, hm⟩ := hrel
    by_cases hkl : k < m.length
    · have sM := Sl.of_own pane_len (by decide) (own_keep oM hm.keep (fun _ _ e => e))
      obtain ⟨bm, fm, rfl, hbm, -⟩ := sM.at_ (by omega)
      obtain ⟨y, hy⟩ : ∃ y, y = m[k] := ⟨_, rfl⟩
      have hY : Hid (∀ W', Keep none_ wv W' → PaneIn W' bm (fm + k * 7) y) := Lib.hid (fun W' kz => by rw [hy]; exact (Sl.of_own pane_len (by decide) (own_keep oM kz (fun _ _ e => e))).pane hkl)
      have ha := accQ_succ (mg := mg) (key := key) (s := x.s) (v := x.v) hkl
      have ho := restQ_succ (mg := mg) (s := x.s) hkl
      have hg := metQ_succ (mg := mg) (s := x.s) hkl
      have hyok := (hP.out.ok _ (List.getElem_mem hkl)).2.2
      have haok := accQ_ok (mg := mg) (key := key) (s := x.s) hxok.out.2.2 (xs := m.take k) (fun z hz => hP.out.ok z (List.mem_of_mem_take hz))
      have hol := Nat.le_trans (restQ_le mg x.s (m.take k)) (List.length_take_le _ _)
      have hgl := Nat.le_trans (metQ_le mg x.s (m.take k)) (List.length_take_le _ _)
      rw [← hy] at ha ho hg hyok
      replace ha := Lib.hid ha
      replace ho := Lib.hid ho
      replace hg := Lib.hid hg
      replace haok := Lib.hid haok
      replace hyok := Lib.hid hyok
      have hD : Hid (∀ W', Keep none_ wr W' → At W' xb x.cells.toArray 53) := Lib.hid (fun W' kz => Keep.at kz hm.dd (fun e => e))
      have hkl' : (k : Int) < (m.length : Int) := by omega
      have hk0 := Int.natCast_nonneg k
      obtain ⟨y0, y1, y2, y3, y4, y5, y6⟩ := hY.out wr hm.keep
      have cx1 : wr.cell? ⟨xb, 1, none⟩ = some (.int .i64 x.s.s) := At.cell (hD.out wr (Keep.refl _ _)) 1
      have cx2 : wr.cell? ⟨xb, 2, none⟩ = some (.int .i64 x.s.e) := At.cell (hD.out wr (Keep.refl _ _)) 2
      have hee := fun W => run_eql_Span y.span x.s W
      have hsm : Hid (sameQ false x.s y = y.span.eqB x.s) := Lib.hid rfl
      have hsm2 : Hid (sameQ true x.s y = (y.span.mayB && x.s.mayB && y.span.meetR x.s)) := Lib.hid (meet_same _ _)
      generalize hbe : y.span.eqB x.s = be at *
      simp only [Span.cells] at hee
      clear hkm sM hy hbe
      go_wp2_with fail
      go_quiet (fail)
      generalize hwq : World.drewN wr _ = wq
      have kq : Keep none_ wr wq := by rw [← hwq]; exact keep_drewN _ _
      clear hwq y0 y1 y2 y3 y4 y5 y6 cx1 cx2 hee
      obtain ⟨y0, y1, y2, y3, y4, y5, y6⟩ := hY.out wq (hm.keep.trans kq)
      have cx1 : wq.cell? ⟨xb, 1, none⟩ = some (.int .i64 x.s.s) := At.cell (hD.out wq kq) 1
      have cx2 : wq.cell? ⟨xb, 2, none⟩ = some (.int .i64 x.s.e) := At.cell (hD.out wq kq) 2
      go_upto_if 75 with fail
      go_cut [15] from 61 to 142 (fun sv w' => sv = .bool (sameQ mg x.s y) ∧ Keep none_ wr w')
      case first =>
        as_aux_lemma =>
          clear ha ho hg
          cases mg
          · go_wp2_with fail
            go_meet
            exact ⟨by rw [hsm.out], kq⟩
          · by_cases okx : x.s.s < x.s.e
            · have okx' : decide (x.s.s < x.s.e) = true := by simp [okx]
              by_cases oky : y.span.s < y.span.e
              · have oky' : decide (y.span.s < y.span.e) = true := by simp [oky]
                have cm := Lib.hid (fun w => ref_meet w y.span x.s)
                have hsb : Hid (sameQ true x.s y = y.span.meetR x.s) := Lib.hid (by rw [hsm2.out]; simp [Span.mayB, okx, oky])
                generalize y.span.meetR x.s = mr at *
                simp only [Span.cells] at cm
                obtain ⟨ι, hne, f, hf0, hfk, hfa⟩ := class_of none_ wq
                have r1 : ∀ z, (f z).cell? ⟨bm, fm + k * 7 + 1, none⟩ = some (.int .i64 y.span.s) := fun z => (hY.out _ (hm.keep.trans (kq.trans (hfk z)))).c1
                have r2 : ∀ z, (f z).cell? ⟨bm, fm + k * 7 + 2, none⟩ = some (.int .i64 y.span.e) := fun z => (hY.out _ (hm.keep.trans (kq.trans (hfk z)))).c2
                have r3 : ∀ z, (f z).cell? ⟨xb, 1, none⟩ = some (.int .i64 x.s.s) := fun z => At.cell (hD.out _ (kq.trans (hfk z))) 1
                have r4 : ∀ z, (f z).cell? ⟨xb, 2, none⟩ = some (.int .i64 x.s.e) := fun z => At.cell (hD.out _ (kq.trans (hfk z))) 2
                clear y0 y1 y2 y3 y4 y5 y6 cx1 cx2
                go_wp2_with fail
                refine wp_region_class f (by kernel_rfl) (by kernel_rfl) hf0 ?_
                repeat (go_big_quiet_step ((go_at_call 28; exact Calls.class_of hfa (cm.out _))))
                refine wpQuiet_nil ?_
                rintro _ ⟨nn, rfl⟩
                have kf := kq.trans (hfk nn)
                clear r1 r2 r3 r4 hf0 hfk hfa cm
                go_wp2_with fail
                go_meet
                exact ⟨by rw [hsb.out], kf⟩
              · have oky' : decide (y.span.s < y.span.e) = false := by simp [oky]
                go_wp2_with fail
                go_quiet (fail)
                go_wp2_with fail
                go_meet
                exact ⟨by rw [hsm2.out]; unfold Span.mayB; rw [oky', Bool.false_and, Bool.false_and], Keep.trans kq (keep_drewN _ _)⟩
            · have okx' : decide (x.s.s < x.s.e) = false := by simp [okx]
              go_wp2_with fail
              go_quiet (fail)
              go_wp2_with fail
              go_meet
              exact ⟨by rw [hsm2.out]; unfold Span.mayB; rw [okx', Bool.and_false, Bool.false_and], Keep.trans kq (keep_drewN _ _)⟩
      case rest =>
        obtain ⟨rfl, k0⟩ := hcut
        have hm' := hm.on k0
        have hsz := hm'.size
        obtain ⟨y0, y1, y2, y3, y4, y5, y6⟩ := hY.out wc hm'.keep
        clear hm k0 hsm hsm2 kq hD hxok hP
        generalize hsb : sameQ mg x.s y = sb at *
        clear hsb
        cases sb
        · have hsl1 := Sl.of_at (xs := [y]) (At.new wc y.cells.toArray 32) pane_len (by decide) (rfl : (1 : Nat) = [y].length) (by simp [flat_one]) (by unfold maxLen; omega)
          have kb : Keep none_ wc (wc.alloc (.cells y.cells.toArray 32)) := Keep.alloc (Keep.refl _ _) _
          have own1 := own_keep hm'.out kb (fun _ _ e => e)
          have hbase1 : base ≤ (wc.alloc (.cells y.cells.toArray 32)).heap.size := Nat.le_trans hsz kb.size
          simp only [Pane.cells] at hsl1 kb own1 hbase1
          go_wp2_with (at_builtin; refine wpList_append_sl _ rfl _ _ _ rfl base 32 row_pane pane_len pane_one _ _ _ rfl own1 (some ⟨wc.heap.size, 0, none⟩) 1 1 [y] rfl hsl1 (by omega) hbase1 ?_)
          intro vo' w2 own2 hg2 hb2
          have hm2 := hm'.addOut (l' := m.take (k + 1)) L kb own2 rfl hg2 (by simpa using hb2) (by rw [ho.out]; rfl) (by rw [hg.out]; simp) (by rw [ha.out]; rfl)
          clear hm' own1 own2 hg2 hb2 hsl1 kb hbase1 y0 y1 y2 y3 y4 y5 y6
          go_wp2_with fail
          go_roundw
          case rel => exact ⟨k + 1, by go_num, by omega, hm2⟩
          case measure => simp [intOf]; omega
        · have hsl1 := Sl.of_at (xs := [y.span]) (At.new wc y.span.cells.toArray 28) span_len (by decide) (rfl : (1 : Nat) = [y.span].length) (by simp [flat_one]) (by unfold maxLen; omega)
          have kb : Keep none_ wc (wc.alloc (.cells y.span.cells.toArray 28)) := Keep.alloc (Keep.refl _ _) _
          have own1 := own_keep hm'.gone kb (fun _ _ e => e)
          have hbase1 : base ≤ (wc.alloc (.cells y.span.cells.toArray 28)).heap.size := Nat.le_trans hsz kb.size
          simp only [Span.cells] at hsl1 kb own1 hbase1
          go_wp2_with (at_builtin; refine wpList_append_sl _ rfl _ _ _ rfl base 28 row_span span_len span_one _ _ _ rfl own1 (some ⟨wc.heap.size, 0, none⟩) 1 1 [y.span] rfl hsl1 (by omega) hbase1 ?_)
          intro vg' w2 own2 hg2 hb2
          have hgm := own_of_ge hm'.gone
          have k2 := Keep.grown (S := own_of u11) (Keep.of_none kb) hg2 (fun q hq _ => hq)
          have hLp := L.p_lt
          have hLw := L.w_le
          have hp2 := Keep.at k2 hm'.pane (fun e => by have := hgm _ e; omega)
          have kv2 : Keep none_ wv w2 := Keep.fresh hm'.keep k2 (fun q hq e => by have := hgm q e; omega)
          obtain ⟨p, hp⟩ : ∃ p, p = accQ mg key x.s x.v (m.take k) := ⟨_, rfl⟩
          rw [← hp] at hp2 haok
          have hstep : accQ mg key x.s x.v (m.take (k + 1)) = mergeStep p y := by rw [ha.out, hp]; rfl
          replace hstep := Lib.hid hstep
          have hp2l := hp2.lt
          clear y0 y1 y2 y3 y4 y5 y6 hsl1 own1 hbase1 hp
          obtain ⟨ι, hne, f, hf0, hfk, hfa⟩ := class_of none_ w2
          have r1 : ∀ z, (f z).cell? ⟨pb, 1, none⟩ = some (.int .i64 p.span.s) := fun z => At.cell (Keep.at (hfk z) hp2 (fun e => e)) 1
          have r2 : ∀ z, (f z).cell? ⟨pb, 2, none⟩ = some (.int .i64 p.span.e) := fun z => At.cell (Keep.at (hfk z) hp2 (fun e => e)) 2
          have r3 : ∀ z, (f z).cell? ⟨bm, fm + k * 7 + 1, none⟩ = some (.int .i64 y.span.s) := fun z => (hY.out _ (kv2.trans (hfk z))).c1
          have r4 : ∀ z, (f z).cell? ⟨bm, fm + k * 7 + 2, none⟩ = some (.int .i64 y.span.e) := fun z => (hY.out _ (kv2.trans (hfk z))).c2
          have c3 := Lib.hid (fun W => ref_join W p.span y.span)
          have c4 := Lib.hid (fun W => ref_merge W p.agg y.agg haok.out hyok.out)
          obtain ⟨js, hjs⟩ : ∃ js, js = p.span.join y.span := ⟨_, rfl⟩
          rw [← hjs] at c3
          obtain ⟨ja, hja⟩ : ∃ ja, ja = p.agg.merge y.agg := ⟨_, rfl⟩
          rw [← hja] at c4
          replace hjs := Lib.hid hjs
          replace hja := Lib.hid hja
          simp only [Span.cells, Agg.cells] at c3 c4
          simp only [Pane.cells] at hp2
          go_wp2_with fail
          refine wp_region_class_tail f 9 (by kernel_rfl) (by kernel_rfl) hf0 ?_
          simp only [List.take_succ_cons, List.take_zero, List.drop_succ_cons, List.drop_zero]
          repeat (go_big_quiet_step ((go_at_call 29; exact Calls.class_of hfa (c3.out _))))
          refine wpQuiet_nil ?_
          intro z
          have hp3 := Keep.at (hfk z) hp2 (fun e => e)
          have k23 := hfk z
          have kv3 := kv2.trans k23
          clear hf0 hfa c3 r1 r2 r3 r4
          generalize f z = w3 at *
          clear hfk f
          have cp3 := At.cell hp3
          have fp3 := At.frozen hp3
          have hp4 := At.set (At.set hp3 1 (.int .i64 js.s)) 2 (.int .i64 js.e)
          have k34 := Keep.set1 (i := 2) (Keep.set1 (p := pb) (i := 1) (Keep.refl _ w3) (.int .i64 js.s)) (.int .i64 js.e)
          simp only [List.setIfInBounds_toArray, List.set_cons_succ, List.set_cons_zero] at hp4
          go_wp2_with fail
          generalize hW4 : World.setCell (World.setCell w3 ⟨pb, 1, none⟩ _) ⟨pb, 2, none⟩ _ = w4 at *
          have kv4 : Keep none_ wv w4 := Keep.fresh kv3 k34 (fun q hq e => by unfold one at e; omega)
          clear hW4 cp3 fp3 hp3 hp2
          obtain ⟨ι, hne, f, hf0, hfk, hfa⟩ := class_of none_ w4
          have r3 : ∀ z, (f z).cell? ⟨pb, 3, none⟩ = some (.int .i64 p.agg.count) := fun z => At.cell (Keep.at (hfk z) hp4 (fun e => e)) 3
          have r4 : ∀ z, (f z).cell? ⟨pb, 4, none⟩ = some (.int .i64 p.agg.sum) := fun z => At.cell (Keep.at (hfk z) hp4 (fun e => e)) 4
          have r5 : ∀ z, (f z).cell? ⟨pb, 5, none⟩ = some (.int .i64 p.agg.lo) := fun z => At.cell (Keep.at (hfk z) hp4 (fun e => e)) 5
          have r6 : ∀ z, (f z).cell? ⟨pb, 6, none⟩ = some (.int .i64 p.agg.hi) := fun z => At.cell (Keep.at (hfk z) hp4 (fun e => e)) 6
          have s3 : ∀ z, (f z).cell? ⟨bm, fm + k * 7 + 3, none⟩ = some (.int .i64 y.agg.count) := fun z => (hY.out _ (kv4.trans (hfk z))).c3
          have s4 : ∀ z, (f z).cell? ⟨bm, fm + k * 7 + 4, none⟩ = some (.int .i64 y.agg.sum) := fun z => (hY.out _ (kv4.trans (hfk z))).c4
          have s5 : ∀ z, (f z).cell? ⟨bm, fm + k * 7 + 5, none⟩ = some (.int .i64 y.agg.lo) := fun z => (hY.out _ (kv4.trans (hfk z))).c5
          have s6 : ∀ z, (f z).cell? ⟨bm, fm + k * 7 + 6, none⟩ = some (.int .i64 y.agg.hi) := fun z => (hY.out _ (kv4.trans (hfk z))).c6
          refine wp_region_class_tail f 9 (by kernel_rfl) (by kernel_rfl) hf0 ?_
          simp only [List.take_succ_cons, List.take_zero, List.drop_succ_cons, List.drop_zero]
          repeat (go_big_quiet_step ((go_at_call 30; exact Calls.class_of hfa (c4.out _))))
          refine wpQuiet_nil ?_
          intro z
          have hp5 := Keep.at (hfk z) hp4 (fun e => e)
          have k25 : Keep (one pb) w2 (f z) := (Keep.of_none k23).trans (k34.trans (Keep.of_none (hfk z)))
          clear hf0 hfa c4 r3 r4 r5 r6 s3 s4 s5 s6
          generalize f z = w5 at *
          clear hfk f
          have cp5 := At.cell hp5
          have fp5 := At.frozen hp5
          have hp6 := At.set (At.set (At.set (At.set hp5 3 (.int .i64 ja.count)) 4 (.int .i64 ja.sum)) 5 (.int .i64 ja.lo)) 6 (.int .i64 ja.hi)
          have k26 := Keep.set1 (i := 6) (Keep.set1 (i := 5) (Keep.set1 (i := 4) (Keep.set1 (i := 3) k25 (.int .i64 ja.count)) (.int .i64 ja.sum)) (.int .i64 ja.lo)) (.int .i64 ja.hi)
          simp only [List.setIfInBounds_toArray, List.set_cons_succ, List.set_cons_zero] at hp6
          have hm2 := hm'.addGone (l' := m.take (k + 1)) L kb own2 (by simp) hg2 (by simpa using hb2) k26 (by rw [ho.out]; simp) (by rw [hg.out]; rfl) (by
            rw [hstep.out]
            show At _ pb #[.string p.key, .int .i64 (p.span.join y.span).s, .int .i64 (p.span.join y.span).e, .int .i64 (p.agg.merge y.agg).count, .int .i64 (p.agg.merge y.agg).sum, .int .i64 (p.agg.merge y.agg).lo, .int .i64 (p.agg.merge y.agg).hi] _
            rw [← hjs.out, ← hja.out]
            exact hp6)
          clear hm' own2 hg2 hb2 kb hp4 hp5 hp6 k25 k26 k34 k23 k2 kv2 kv3 kv4
          go_wp2_with fail
          go_roundw
          case rel => exact ⟨k + 1, by go_num, by omega, hm2⟩
          case measure => simp [intOf]; omega
    · obtain rfl : k = m.length := by omega
      rw [List.take_length] at hm
      clear hkm hkl
      go_wp2_with fail
      exact hm
end Go.Proofs.Ytmioichjhiengaa
