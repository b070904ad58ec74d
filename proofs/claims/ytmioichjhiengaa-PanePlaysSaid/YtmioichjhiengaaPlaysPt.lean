/-
  PanePlays: a piece of its round.
-/
import Derived.Test.YtmioichjhiengaaPlaysLoop
import Derived.Deep.CutRange
import Derived.Deep.RegionHeld3
namespace Go.Proofs.Ytmioichjhiengaa
open Go.RowKit

noncomputable def plays_pt_code : Code := ((Try.f6.body.bind (condAt 219)).getD .skip)
set_option maxHeartbeats 16000000 in
set_option maxRecDepth 1000000 in
theorem plays_pt {Q0 : Exit → Act → World → Prop} {wv w7 : World} {B bW xb i : Nat} {x : Deed07} {key : ByteArray} {m WL : List Pane} {AM Aw : Option Addr} {dM dw : Nat} (c0 c2 c3 c4 c5 c7 c9 c10 c11 c12 c13 c14 c15 c16 c17 c18 c19 c20 c21 c22 c24 c25 c26 c27 c28 c29 c30 c31 c32 c33 c34 c35 c36 c37 c38 c39 c40 c41 c42 c43 c44 c45 c46 c47 c48 c49 c50 c51 c52 c53 c54 c55 c56 c57 c58 c59 c60 c61 c62 c63 c64 c65 c66 c67 c68 c69 c70 c71 c72 c73 c74 c75 c76 c77 c78 c79 c80 c81 c82 c83 c84 c85 c86 c87 c88 c89 c90 c91 c92 c93 c94 c95 c96 c97 c98 c99 c100 c101 c102 c103 c104 c105 c106 c107 c108 c109 c110 c111 c112 c113 c114 c115 c116 c117 c118 c119 c120 c121 c122 c123 c124 c125 c126 c127 c128 c129 c130 c131 c132 c133 c134 c135 c136 c137 c138 c139 c140 c141 c142 c143 c144 c145 c146 c147 c148 c149 c150 c151 c152 c153 c154 c155 c156 c157 c158 c159 c160 c161 c162 c163 c164 c165 c166 c167 c168 c169 c170 c171 c172 c173 c174 c175 c176 c177 c178 c179 c180 c181 c182 c183 c184 c185 c186 c187 c188 c189 c190 c191 c192 c193 c194 c195 c196 c197 c198 c199 c200 c201 c202 c203 c204 c205 c206 c207 c208 c209 c210 c211 c212 c213 c214 c215 c216 c217 c218 c220 c221 c222 c223 c224 c225 c226 c227 c228 c229 c230 c231 c232 c233 c234 c235 c236 c237 c238 c239 c240 c241 c242 c243 c244 c245 c246 c247 c248 c249 c250 c251 c252 c253 c254 c255 c256 c257 c258 c259 c260 c261 c262 c263 c264 c265 c266 c267 c268 c269 c270 c271 c272 c273 c274 c275 c276 c277 c278 c279 c280 c281 c282 c283 c284 c285 c286 c287 c288 c289 c290 : Value)
    (oM : PRow wv B (.slice AM m.length dM) m) (hMl : m.length ≤ 60) (hP : Hid (PlayP i key m)) (hxok : Hid x.ok) (hkw : Keep none_ wv w7) (hdd : At w7 xb x.cells.toArray 53) (hW : PRow w7 bW (.slice Aw WL.length dw) WL) (hWe : Hid (WL = putP m key x.s x.v))
    (hQ : ∀ (e4 e275 e276 e277 e278 e279 e280 e281 e282 e283 e284 : Value)  (w' : World), Keep none_ w7 w' → Q0 (.normal) ⟨List.toArray (c0 :: .string key :: c2 :: c3 :: e4 :: c5 :: .slice AM m.length dM :: c7 :: .pointer (some ⟨xb, 0, none⟩) :: c9 :: c10 :: c11 :: c12 :: c13 :: c14 :: c15 :: c16 :: c17 :: c18 :: c19 :: c20 :: c21 :: c22 :: .slice Aw WL.length dw :: c24 :: c25 :: c26 :: c27 :: c28 :: c29 :: c30 :: c31 :: c32 :: c33 :: c34 :: c35 :: c36 :: c37 :: c38 :: c39 :: c40 :: c41 :: c42 :: c43 :: c44 :: c45 :: c46 :: c47 :: c48 :: c49 :: c50 :: c51 :: c52 :: c53 :: c54 :: c55 :: c56 :: c57 :: c58 :: c59 :: c60 :: c61 :: c62 :: c63 :: c64 :: c65 :: c66 :: c67 :: c68 :: c69 :: c70 :: c71 :: c72 :: c73 :: c74 :: c75 :: c76 :: c77 :: c78 :: c79 :: c80 :: c81 :: c82 :: c83 :: c84 :: c85 :: c86 :: c87 :: c88 :: c89 :: c90 :: c91 :: c92 :: c93 :: c94 :: c95 :: c96 :: c97 :: c98 :: c99 :: c100 :: c101 :: c102 :: c103 :: c104 :: c105 :: c106 :: c107 :: c108 :: c109 :: c110 :: c111 :: c112 :: c113 :: c114 :: c115 :: c116 :: c117 :: c118 :: c119 :: c120 :: c121 :: c122 :: c123 :: c124 :: c125 :: c126 :: c127 :: c128 :: c129 :: c130 :: c131 :: c132 :: c133 :: c134 :: c135 :: c136 :: c137 :: c138 :: c139 :: c140 :: c141 :: c142 :: c143 :: c144 :: c145 :: c146 :: c147 :: c148 :: c149 :: c150 :: c151 :: c152 :: c153 :: c154 :: c155 :: c156 :: c157 :: c158 :: c159 :: c160 :: c161 :: c162 :: c163 :: c164 :: c165 :: c166 :: c167 :: c168 :: c169 :: c170 :: c171 :: c172 :: c173 :: c174 :: c175 :: c176 :: c177 :: c178 :: c179 :: c180 :: c181 :: c182 :: c183 :: c184 :: c185 :: c186 :: c187 :: c188 :: c189 :: c190 :: c191 :: c192 :: c193 :: c194 :: c195 :: c196 :: c197 :: c198 :: c199 :: c200 :: c201 :: c202 :: c203 :: c204 :: c205 :: c206 :: c207 :: c208 :: c209 :: c210 :: c211 :: c212 :: c213 :: c214 :: c215 :: c216 :: c217 :: c218 :: .bool false :: c220 :: c221 :: c222 :: c223 :: c224 :: c225 :: c226 :: c227 :: c228 :: c229 :: c230 :: c231 :: c232 :: c233 :: c234 :: c235 :: c236 :: c237 :: c238 :: c239 :: c240 :: c241 :: c242 :: c243 :: c244 :: c245 :: c246 :: c247 :: c248 :: c249 :: c250 :: c251 :: c252 :: c253 :: c254 :: c255 :: c256 :: c257 :: c258 :: c259 :: c260 :: c261 :: c262 :: c263 :: c264 :: c265 :: c266 :: c267 :: c268 :: c269 :: c270 :: c271 :: c272 :: c273 :: c274 :: e275 :: e276 :: e277 :: e278 :: e279 :: e280 :: e281 :: e282 :: e283 :: e284 :: c285 :: c286 :: c287 :: c288 :: c289 :: c290 :: []), []⟩ w')
    : Code.wp Try.prog plays_pt_code Q0 ⟨List.toArray (c0 :: .string key :: c2 :: c3 :: c4 :: c5 :: .slice AM m.length dM :: c7 :: .pointer (some ⟨xb, 0, none⟩) :: c9 :: c10 :: c11 :: c12 :: c13 :: c14 :: c15 :: c16 :: c17 :: c18 :: c19 :: c20 :: c21 :: c22 :: .slice Aw WL.length dw :: c24 :: c25 :: c26 :: c27 :: c28 :: c29 :: c30 :: c31 :: c32 :: c33 :: c34 :: c35 :: c36 :: c37 :: c38 :: c39 :: c40 :: c41 :: c42 :: c43 :: c44 :: c45 :: c46 :: c47 :: c48 :: c49 :: c50 :: c51 :: c52 :: c53 :: c54 :: c55 :: c56 :: c57 :: c58 :: c59 :: c60 :: c61 :: c62 :: c63 :: c64 :: c65 :: c66 :: c67 :: c68 :: c69 :: c70 :: c71 :: c72 :: c73 :: c74 :: c75 :: c76 :: c77 :: c78 :: c79 :: c80 :: c81 :: c82 :: c83 :: c84 :: c85 :: c86 :: c87 :: c88 :: c89 :: c90 :: c91 :: c92 :: c93 :: c94 :: c95 :: c96 :: c97 :: c98 :: c99 :: c100 :: c101 :: c102 :: c103 :: c104 :: c105 :: c106 :: c107 :: c108 :: c109 :: c110 :: c111 :: c112 :: c113 :: c114 :: c115 :: c116 :: c117 :: c118 :: c119 :: c120 :: c121 :: c122 :: c123 :: c124 :: c125 :: c126 :: c127 :: c128 :: c129 :: c130 :: c131 :: c132 :: c133 :: c134 :: c135 :: c136 :: c137 :: c138 :: c139 :: c140 :: c141 :: c142 :: c143 :: c144 :: c145 :: c146 :: c147 :: c148 :: c149 :: c150 :: c151 :: c152 :: c153 :: c154 :: c155 :: c156 :: c157 :: c158 :: c159 :: c160 :: c161 :: c162 :: c163 :: c164 :: c165 :: c166 :: c167 :: c168 :: c169 :: c170 :: c171 :: c172 :: c173 :: c174 :: c175 :: c176 :: c177 :: c178 :: c179 :: c180 :: c181 :: c182 :: c183 :: c184 :: c185 :: c186 :: c187 :: c188 :: c189 :: c190 :: c191 :: c192 :: c193 :: c194 :: c195 :: c196 :: c197 :: c198 :: c199 :: c200 :: c201 :: c202 :: c203 :: c204 :: c205 :: c206 :: c207 :: c208 :: c209 :: c210 :: c211 :: c212 :: c213 :: c214 :: c215 :: c216 :: c217 :: c218 :: .bool false :: c220 :: c221 :: c222 :: c223 :: c224 :: c225 :: c226 :: c227 :: c228 :: c229 :: c230 :: c231 :: c232 :: c233 :: c234 :: c235 :: c236 :: c237 :: c238 :: c239 :: c240 :: c241 :: c242 :: c243 :: c244 :: c245 :: c246 :: c247 :: c248 :: c249 :: c250 :: c251 :: c252 :: c253 :: c254 :: c255 :: c256 :: c257 :: c258 :: c259 :: c260 :: c261 :: c262 :: c263 :: c264 :: c265 :: c266 :: c267 :: c268 :: c269 :: c270 :: c271 :: c272 :: c273 :: c274 :: c275 :: c276 :: c277 :: c278 :: c279 :: c280 :: c281 :: c282 :: c283 :: c284 :: c285 :: c286 :: c287 :: c288 :: c289 :: c290 :: []), []⟩ w7 := by
  unfold plays_pt_code
  conv => arg 2; whnf
  have sM := Sl.of_own (enc := Pane.cells) pane_len (by decide) (own_keep oM hkw (fun _ _ e => e))
  have f1 := pane_put sM hP.out.srt hP.out.ok (by omega) key x.s x.v hxok.out.2.2
  rw [← hWe.out] at f1
  have x1 : w7.cell? ⟨xb, 1, none⟩ = some (.int .i64 x.s.s) := At.cell hdd 1
  have x2 : w7.cell? ⟨xb, 2, none⟩ = some (.int .i64 x.s.e) := At.cell hdd 2
  have x3 : w7.cell? ⟨xb, 3, none⟩ = some (.int .i64 x.v) := At.cell hdd 3
  have fcs := Lib.hid (fun W' (A1 : Option Addr) (d1 : Nat) (h : Sl Pane.cells 7 W' A1 WL.length d1 WL) (h2 : Keep none_ w7 W') => ref_same W' h (Sl.of_own pane_len (by decide) (own_keep hW h2 (fun _ _ e => e))))
  rw [panesB_self] at fcs
  simp only [Span.cells] at f1
  replace f1 := Lib.hid f1
  replace hQ := Lib.hid hQ
  clear hWe hP hxok sM oM hkw hW
  go_wp2_with fail
  refine f1.out.mono ?_
  rintro e w8 ⟨vo, rfl, o1, k8⟩
  obtain ⟨Ao, dO, rfl⟩ := own_form o1
  clear f1 x1 x2 x3
  go_wp2_with fail
  refine (fcs.out _ _ _ (Sl.of_own pane_len (by decide) o1) k8).mono ?_
  rintro e w9 ⟨rfl, k9⟩
  clear fcs
  go_wp2_with fail
  exact hQ.out _ _ _ _ _ _ _ _ _ _ _ _ (k8.trans k9)
end Go.Proofs.Ytmioichjhiengaa
