/-
  PanePlays: a piece of its round.
-/
import Derived.Test.YtmioichjhiengaaPlaysLoop
import Derived.Deep.CutRange
import Derived.Deep.RegionHeld3
namespace Go.Proofs.Ytmioichjhiengaa
open Go.RowKit

noncomputable def plays_cut_code : Code := ((Try.f6.body.bind (condAt 154)).getD .skip)
set_option maxHeartbeats 16000000 in
set_option maxRecDepth 1000000 in
theorem plays_cut {Q0 : Exit → Act → World → Prop} {wv w6 : World} {B base pb xb fb i : Nat} {x : Deed07} {key : ByteArray} {m : List Pane} {AM Ar Ag : Option Addr} {dM dr dg gl : Nat} {fp : Pane} {bf : Bool} (c0 c1 c2 c3 c4 c5 c7 c9 c12 c13 c14 c15 c18 c19 c20 c21 c22 c23 c24 c25 c26 c27 c28 c29 c30 c31 c32 c33 c34 c35 c36 c37 c38 c39 c40 c41 c42 c43 c44 c45 c46 c47 c48 c49 c50 c51 c52 c53 c54 c55 c56 c57 c58 c59 c60 c61 c62 c63 c64 c65 c66 c67 c68 c69 c70 c71 c72 c73 c74 c75 c76 c77 c78 c79 c80 c81 c82 c83 c84 c85 c86 c87 c88 c89 c90 c91 c92 c93 c94 c95 c96 c97 c98 c99 c100 c101 c102 c103 c104 c105 c106 c107 c108 c109 c110 c111 c112 c113 c114 c115 c116 c117 c118 c119 c120 c121 c122 c123 c124 c125 c126 c127 c128 c129 c130 c131 c132 c133 c134 c135 c136 c137 c138 c139 c140 c141 c142 c143 c144 c145 c146 c147 c148 c149 c150 c151 c152 c153 c155 c156 c157 c158 c159 c160 c161 c162 c163 c164 c165 c166 c167 c168 c169 c170 c171 c172 c173 c174 c175 c176 c177 c178 c179 c180 c181 c182 c183 c184 c185 c186 c187 c188 c189 c190 c191 c192 c193 c194 c195 c196 c197 c198 c199 c200 c201 c202 c203 c204 c205 c206 c207 c208 c209 c210 c211 c212 c213 c214 c215 c216 c217 c218 c219 c220 c221 c222 c223 c224 c225 c226 c227 c228 c229 c230 c231 c232 c233 c234 c235 c236 c237 c238 c239 c240 c241 c242 c243 c244 c245 c246 c247 c248 c249 c250 c251 c252 c253 c254 c255 c256 c257 c258 c259 c260 c261 c262 c263 c264 c265 c266 c267 c268 c269 c270 c271 c272 c273 c274 c275 c276 c277 c278 c279 c280 c281 c282 c283 c284 c285 c286 c287 c288 c289 c290 : Value)
    (oM : PRow wv B (.slice AM m.length dM) m) (hB : B ≤ wv.heap.size) (hMl : m.length ≤ 60) (hP : Hid (PlayP i key m)) (L : QLow wv base pb xb)
    (hm : QInv wv w6 base pb xb x false key m (.slice Ar (restQ false x.s m).length dr) (.slice Ag gl dg)) (hgl : Hid (((metQ false x.s m).map (·.span)).length = gl)) (hf : At w6 fb fp.cells.toArray 32) (hfp : Hid ((findP m x.s).1 = fp)) (hbf : Hid (bf = isP m x.s))
    (hQ : ∀ (e6 e11 e19 e20 e21 e155 e156 e157 e158 e159 e160 e161 e162 e163 e164 e165 e166 e167 e168 e169 e170 e171 e172 e173 e174 e175 e176 e177 e178 e179 e180 e181 e182 e183 e184 e185 e186 e187 e188 e189 e190 e191 e192 e193 e194 e195 e196 e197 e198 e199 : Value) (m' : List Pane) (w' : World), PRow w' B e6 m' → PlayP (i + 1) key m' → Keep none_ wv w' → Q0 (.exit 1) ⟨List.toArray (c0 :: c1 :: c2 :: c3 :: c4 :: c5 :: e6 :: c7 :: .pointer (some ⟨xb, 0, none⟩) :: c9 :: .slice Ar (restQ false x.s m).length dr :: e11 :: c12 :: c13 :: c14 :: c15 :: .pointer (some ⟨fb, 0, none⟩) :: .bool bf :: c18 :: e19 :: e20 :: e21 :: c22 :: c23 :: c24 :: c25 :: c26 :: c27 :: c28 :: c29 :: c30 :: c31 :: c32 :: c33 :: c34 :: c35 :: c36 :: c37 :: c38 :: c39 :: c40 :: c41 :: c42 :: c43 :: c44 :: c45 :: c46 :: c47 :: c48 :: c49 :: c50 :: c51 :: c52 :: c53 :: c54 :: c55 :: c56 :: c57 :: c58 :: c59 :: c60 :: c61 :: c62 :: c63 :: c64 :: c65 :: c66 :: c67 :: c68 :: c69 :: c70 :: c71 :: c72 :: c73 :: c74 :: c75 :: c76 :: c77 :: c78 :: c79 :: c80 :: c81 :: c82 :: c83 :: c84 :: c85 :: c86 :: c87 :: c88 :: c89 :: c90 :: c91 :: c92 :: c93 :: c94 :: c95 :: c96 :: c97 :: c98 :: c99 :: c100 :: c101 :: c102 :: c103 :: c104 :: c105 :: c106 :: c107 :: c108 :: c109 :: c110 :: c111 :: c112 :: c113 :: c114 :: c115 :: c116 :: c117 :: c118 :: c119 :: c120 :: c121 :: c122 :: c123 :: c124 :: c125 :: c126 :: c127 :: c128 :: c129 :: c130 :: c131 :: c132 :: c133 :: c134 :: c135 :: c136 :: c137 :: c138 :: c139 :: c140 :: c141 :: c142 :: c143 :: c144 :: c145 :: c146 :: c147 :: c148 :: c149 :: c150 :: c151 :: c152 :: c153 :: .bool true :: e155 :: e156 :: e157 :: e158 :: e159 :: e160 :: e161 :: e162 :: e163 :: e164 :: e165 :: e166 :: e167 :: e168 :: e169 :: e170 :: e171 :: e172 :: e173 :: e174 :: e175 :: e176 :: e177 :: e178 :: e179 :: e180 :: e181 :: e182 :: e183 :: e184 :: e185 :: e186 :: e187 :: e188 :: e189 :: e190 :: e191 :: e192 :: e193 :: e194 :: e195 :: e196 :: e197 :: e198 :: e199 :: c200 :: c201 :: c202 :: c203 :: c204 :: c205 :: c206 :: c207 :: c208 :: c209 :: c210 :: c211 :: c212 :: c213 :: c214 :: c215 :: c216 :: c217 :: c218 :: c219 :: c220 :: c221 :: c222 :: c223 :: c224 :: c225 :: c226 :: c227 :: c228 :: c229 :: c230 :: c231 :: c232 :: c233 :: c234 :: c235 :: c236 :: c237 :: c238 :: c239 :: c240 :: c241 :: c242 :: c243 :: c244 :: c245 :: c246 :: c247 :: c248 :: c249 :: c250 :: c251 :: c252 :: c253 :: c254 :: c255 :: c256 :: c257 :: c258 :: c259 :: c260 :: c261 :: c262 :: c263 :: c264 :: c265 :: c266 :: c267 :: c268 :: c269 :: c270 :: c271 :: c272 :: c273 :: c274 :: c275 :: c276 :: c277 :: c278 :: c279 :: c280 :: c281 :: c282 :: c283 :: c284 :: c285 :: c286 :: c287 :: c288 :: c289 :: c290 :: []), []⟩ w')
    : Code.wp Try.prog plays_cut_code Q0 ⟨List.toArray (c0 :: c1 :: c2 :: c3 :: c4 :: c5 :: .slice AM m.length dM :: c7 :: .pointer (some ⟨xb, 0, none⟩) :: c9 :: .slice Ar (restQ false x.s m).length dr :: .slice Ag gl dg :: c12 :: c13 :: c14 :: c15 :: .pointer (some ⟨fb, 0, none⟩) :: .bool bf :: c18 :: c19 :: c20 :: c21 :: c22 :: c23 :: c24 :: c25 :: c26 :: c27 :: c28 :: c29 :: c30 :: c31 :: c32 :: c33 :: c34 :: c35 :: c36 :: c37 :: c38 :: c39 :: c40 :: c41 :: c42 :: c43 :: c44 :: c45 :: c46 :: c47 :: c48 :: c49 :: c50 :: c51 :: c52 :: c53 :: c54 :: c55 :: c56 :: c57 :: c58 :: c59 :: c60 :: c61 :: c62 :: c63 :: c64 :: c65 :: c66 :: c67 :: c68 :: c69 :: c70 :: c71 :: c72 :: c73 :: c74 :: c75 :: c76 :: c77 :: c78 :: c79 :: c80 :: c81 :: c82 :: c83 :: c84 :: c85 :: c86 :: c87 :: c88 :: c89 :: c90 :: c91 :: c92 :: c93 :: c94 :: c95 :: c96 :: c97 :: c98 :: c99 :: c100 :: c101 :: c102 :: c103 :: c104 :: c105 :: c106 :: c107 :: c108 :: c109 :: c110 :: c111 :: c112 :: c113 :: c114 :: c115 :: c116 :: c117 :: c118 :: c119 :: c120 :: c121 :: c122 :: c123 :: c124 :: c125 :: c126 :: c127 :: c128 :: c129 :: c130 :: c131 :: c132 :: c133 :: c134 :: c135 :: c136 :: c137 :: c138 :: c139 :: c140 :: c141 :: c142 :: c143 :: c144 :: c145 :: c146 :: c147 :: c148 :: c149 :: c150 :: c151 :: c152 :: c153 :: .bool true :: c155 :: c156 :: c157 :: c158 :: c159 :: c160 :: c161 :: c162 :: c163 :: c164 :: c165 :: c166 :: c167 :: c168 :: c169 :: c170 :: c171 :: c172 :: c173 :: c174 :: c175 :: c176 :: c177 :: c178 :: c179 :: c180 :: c181 :: c182 :: c183 :: c184 :: c185 :: c186 :: c187 :: c188 :: c189 :: c190 :: c191 :: c192 :: c193 :: c194 :: c195 :: c196 :: c197 :: c198 :: c199 :: c200 :: c201 :: c202 :: c203 :: c204 :: c205 :: c206 :: c207 :: c208 :: c209 :: c210 :: c211 :: c212 :: c213 :: c214 :: c215 :: c216 :: c217 :: c218 :: c219 :: c220 :: c221 :: c222 :: c223 :: c224 :: c225 :: c226 :: c227 :: c228 :: c229 :: c230 :: c231 :: c232 :: c233 :: c234 :: c235 :: c236 :: c237 :: c238 :: c239 :: c240 :: c241 :: c242 :: c243 :: c244 :: c245 :: c246 :: c247 :: c248 :: c249 :: c250 :: c251 :: c252 :: c253 :: c254 :: c255 :: c256 :: c257 :: c258 :: c259 :: c260 :: c261 :: c262 :: c263 :: c264 :: c265 :: c266 :: c267 :: c268 :: c269 :: c270 :: c271 :: c272 :: c273 :: c274 :: c275 :: c276 :: c277 :: c278 :: c279 :: c280 :: c281 :: c282 :: c283 :: c284 :: c285 :: c286 :: c287 :: c288 :: c289 :: c290 :: []), []⟩ w6 := by
  unfold plays_cut_code
  conv => arg 2; whnf
  have sM := fun W' (kz : Keep none_ wv W') => Sl.of_own (enc := Pane.cells) pane_len (by decide) (own_keep oM kz (fun _ _ e => e))
  have f1 := pane_cut (sM w6 hm.keep) hP.out.srt (by omega) x.s
  unfold CutDone at f1
  rw [cut_rest hP.out.srt, hfp.out, find_is, ← hbf.out] at f1
  have hmi := met_is hP.out.srt x.s
  rw [← hbf.out, ← List.length_map (f := fun p : Pane => p.span), hgl.out] at hmi
  have hn1 := fun W' => run_neq_Pane fp fp W'
  rw [(Pane.eqB_iff _ _).2 rfl] at hn1
  have x1 : w6.cell? ⟨xb, 1, none⟩ = some (.int .i64 x.s.s) := At.cell hm.dd 1
  have x2 : w6.cell? ⟨xb, 2, none⟩ = some (.int .i64 x.s.e) := At.cell hm.dd 2
  have hcutP := hP.out.cut x.s
  have hlat := hP.out.later
  have hkw := hm.keep
  have hwb := hm.keep.size
  have hdd := hm.dd
  have hout := hm.out
  obtain ⟨R, hR⟩ : ∃ R, R = restQ false x.s m := ⟨_, rfl⟩
  rw [← hR] at f1 hcutP hout hQ ⊢
  have hnoc : bf = false → R = m := fun e => by rw [hR]; exact (put_none hP.out.srt (by rw [← hbf.out]; exact e)).2
  have hzero : bf = false → fp = Pane.zero := fun e => by rw [← hfp.out]; exact find_no (by rw [← hbf.out]; exact e)
  have hspan : bf = true → fp.span = x.s := fun e => by rw [← hfp.out]; exact find_yes (by rw [← hbf.out]; exact e)
  clear hgl
  have hRl : R.length ≤ 60 := by rw [hR]; exact Nat.le_trans (restQ_le _ _ _) hMl
  clear hR hm hfp hbf hP
  simp only [Pane.cells, Span.cells, Bool.not_true] at f1 hn1 hf
  replace f1 := Lib.hid f1
  replace hcutP := Lib.hid hcutP
  replace hlat := Lib.hid hlat
  replace hnoc := Lib.hid hnoc
  replace hQ := Lib.hid hQ
  have fcs := Lib.hid (fun W' (A1 : Option Addr) (d1 : Nat) (h : Sl Pane.cells 7 W' A1 R.length d1 R) (h2 : Keep none_ w6 W') => ref_same W' h (Sl.of_own pane_len (by decide) (own_keep hout h2 (fun _ _ e => e))))
  rw [panesB_self] at fcs
  cases bf
  · obtain rfl : gl = 0 := by simp at hmi; omega
    obtain rfl := hzero rfl
    simp only [Pane.zero] at f1 hn1 hf
    clear hmi hspan hzero
    go_wp2_with fail
    refine f1.out.mono ?_
    rintro e w7 ⟨vq, rfl, oQ, k7⟩
    obtain ⟨Aq, dq, rfl⟩ := own_form oQ
    have hf7 := Keep.at k7 hf (fun e => e)
    have oQ8 := own_keep (S := none_) oQ (Keep.alloc (Keep.refl _ _) (.cells #[.string ⟨#[]⟩, .int .i64 0, .int .i64 0, .int .i64 0, .int .i64 0, .int .i64 0, .int .i64 0] 32)) (fun _ _ e => e)
    have hf8 := At.alloc hf7 (.cells #[.string ⟨#[]⟩, .int .i64 0, .int .i64 0, .int .i64 0, .int .i64 0, .int .i64 0, .int .i64 0] 32)
    have hc8 := At.new w7 #[.string ⟨#[]⟩, .int .i64 0, .int .i64 0, .int .i64 0, .int .i64 0, .int .i64 0, .int .i64 0] 32
    have k8 := Keep.alloc k7 (.cells #[.string ⟨#[]⟩, .int .i64 0, .int .i64 0, .int .i64 0, .int .i64 0, .int .i64 0, .int .i64 0] 32)
    have x8 := At.cell hf8
    have y8 := At.cell hc8
    have x7 := At.cell hf7
    have hfl := hf7.lt
    go_wp2_with fail
    refine (fcs.out _ _ _ (Sl.of_own pane_len (by decide) oQ8) k8).mono ?_
    rintro e w9 ⟨rfl, k9⟩
    have x9 := At.cell (Keep.at k9 hf8 (fun e => e))
    have kf := hkw.trans (k8.trans k9)
    have oMf := own_keep oM kf (fun _ _ e => e)
    clear fcs f1 oQ oQ8 x8 y8 x7 hf7 hf8 hc8 k7 k8 k9
    go_wp2_with fail
    exact hQ.out _ _ _ _ _ _ _ _ _ _ _ _ _ _ _ _ _ _ _ _ _ _ _ _ _ _ _ _ _ _ _ _ _ _ _ _ _ _ _ _ _ _ _ _ _ _ _ _ _ _ _ _ oMf hlat.out kf
  · have hdm : decide ((0 : Int) < (gl : Int)) = true := by simp at hmi ⊢; omega
    have hdm2 : 0 < gl := by simp at hmi; omega
    have hdm3 : (0 : Int) < (gl : Int) := by omega
    have hdm4 : decide (0 < gl) = true := by simp; omega
    have hsp := hspan rfl
    clear hmi hspan hzero
    go_wp2_with fail
    refine f1.out.mono ?_
    rintro e w7 ⟨vq, rfl, oQ, k7⟩
    obtain ⟨Aq, dq, rfl⟩ := own_form oQ
    have hf7 := Keep.at k7 hf (fun e => e)
    have oQ8 := own_keep (S := none_) oQ (Keep.alloc (Keep.refl _ _) (.cells #[.string fp.key, .int .i64 fp.span.s, .int .i64 fp.span.e, .int .i64 fp.agg.count, .int .i64 fp.agg.sum, .int .i64 fp.agg.lo, .int .i64 fp.agg.hi] 32)) (fun _ _ e => e)
    have hf8 := At.alloc hf7 (.cells #[.string fp.key, .int .i64 fp.span.s, .int .i64 fp.span.e, .int .i64 fp.agg.count, .int .i64 fp.agg.sum, .int .i64 fp.agg.lo, .int .i64 fp.agg.hi] 32)
    have hc8 := At.new w7 #[.string fp.key, .int .i64 fp.span.s, .int .i64 fp.span.e, .int .i64 fp.agg.count, .int .i64 fp.agg.sum, .int .i64 fp.agg.lo, .int .i64 fp.agg.hi] 32
    have k8 := Keep.alloc k7 (.cells #[.string fp.key, .int .i64 fp.span.s, .int .i64 fp.span.e, .int .i64 fp.agg.count, .int .i64 fp.agg.sum, .int .i64 fp.agg.lo, .int .i64 fp.agg.hi] 32)
    have x8 := At.cell hf8
    have y8 := At.cell hc8
    have x7 := At.cell hf7
    have hfl := hf7.lt
    have hns := fun W' => run_neq_Span fp.span x.s W'
    rw [(Span.eqB_iff _ _).2 hsp] at hns
    simp only [Span.cells, Bool.not_true] at hns
    replace hsp := Lib.hid hsp
    go_wp2_with fail
    refine (fcs.out _ _ _ (Sl.of_own pane_len (by decide) oQ8) k8).mono ?_
    rintro e w9 ⟨rfl, k9⟩
    have x9 := At.cell (Keep.at k9 hf8 (fun e => e))
    have kf := hkw.trans (k8.trans k9)
    have z9 := At.cell (Keep.at (k8.trans k9) hdd (fun e => e))
    have oQf := own_lower (own_keep oQ8 k9 (fun _ _ e => e)) (b' := B) (Nat.le_trans hB hwb)
    clear fcs f1 oQ oQ8 x8 y8 x7 hf7 hf8 hc8 k7 k8 k9
    go_wp2_with fail
    exact hQ.out _ _ _ _ _ _ _ _ _ _ _ _ _ _ _ _ _ _ _ _ _ _ _ _ _ _ _ _ _ _ _ _ _ _ _ _ _ _ _ _ _ _ _ _ _ _ _ _ _ _ _ _ oQf hcutP.out kf
end Go.Proofs.Ytmioichjhiengaa
