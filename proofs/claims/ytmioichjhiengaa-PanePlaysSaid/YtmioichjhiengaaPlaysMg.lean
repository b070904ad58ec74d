/-
  PanePlays: a piece of its round.
-/
import Derived.Test.YtmioichjhiengaaPlaysL46
import Derived.Deep.CutRange
import Derived.Deep.RegionHeld3
namespace Go.Proofs.Ytmioichjhiengaa
open Go.RowKit

noncomputable def plays_mg_code : Code := ((Try.f6.body.bind (condAt 219)).getD .skip)
set_option maxHeartbeats 16000000 in
set_option maxRecDepth 1000000 in
theorem plays_mg {Q0 : Exit → Act → World → Prop} {wv w7 : World} {B bG bW pb xb i : Nat} {x : Deed07} {key : ByteArray} {m WL : List Pane} {G : List Span} {p : Pane} {AM Aw Ag : Option Addr} {dM dw dg : Nat} (c0 c2 c3 c4 c5 c7 c10 c12 c13 c14 c15 c16 c17 c18 c19 c20 c21 c22 c24 c25 c26 c27 c28 c29 c30 c31 c32 c33 c34 c35 c36 c37 c38 c39 c40 c41 c42 c43 c44 c45 c46 c47 c48 c49 c50 c51 c52 c53 c54 c55 c56 c57 c58 c59 c60 c61 c62 c63 c64 c65 c66 c67 c68 c69 c70 c71 c72 c73 c74 c75 c76 c77 c78 c79 c80 c81 c82 c83 c84 c85 c86 c87 c88 c89 c90 c91 c92 c93 c94 c95 c96 c97 c98 c99 c100 c101 c102 c103 c104 c105 c106 c107 c108 c109 c110 c111 c112 c113 c114 c115 c116 c117 c118 c119 c120 c121 c122 c123 c124 c125 c126 c127 c128 c129 c130 c131 c132 c133 c134 c135 c136 c137 c138 c139 c140 c141 c142 c143 c144 c145 c146 c147 c148 c149 c150 c151 c152 c153 c154 c155 c156 c157 c158 c159 c160 c161 c162 c163 c164 c165 c166 c167 c168 c169 c170 c171 c172 c173 c174 c175 c176 c177 c178 c179 c180 c181 c182 c183 c184 c185 c186 c187 c188 c189 c190 c191 c192 c193 c194 c195 c196 c197 c198 c199 c200 c201 c202 c203 c204 c205 c206 c207 c208 c209 c210 c211 c212 c213 c214 c215 c216 c217 c218 c220 c221 c222 c223 c224 c225 c226 c227 c228 c229 c230 c231 c232 c233 c234 c235 c236 c237 c238 c239 c240 c241 c242 c243 c244 c245 c246 c247 c248 c249 c250 c251 c252 c253 c254 c255 c256 c257 c258 c259 c260 c261 c262 c263 c264 c265 c266 c267 c268 c269 c270 c271 c272 c273 c274 c275 c276 c277 c278 c279 c280 c281 c282 c283 c284 c285 c286 c287 c288 c289 c290 : Value)
    (oM : PRow wv B (.slice AM m.length dM) m) (hMl : m.length ≤ 60) (hP : Hid (PlayP i key m)) (hxok : Hid x.ok) (hkw : Keep none_ wv w7) (hdd : At w7 xb x.cells.toArray 53) (hW : PRow w7 bW (.slice Aw WL.length dw) WL) (hp : At w7 pb p.cells.toArray 32) (hG : SRow w7 bG (.slice Ag G.length dg) G) (hGe : Hid (G = (metP m x.s).map (·.span))) (hpe : Hid (p = accP key x.s x.v m)) (hWe : Hid (WL = mergeP key x.s x.v m))
    (hQ : ∀ (e4 e24 e25 e26 e27 e28 e220 e221 e222 e223 e224 e225 e226 e227 e228 e229 e230 e231 e232 e233 e234 e235 e236 e237 e238 e239 e240 e241 e242 e243 e244 e245 e246 e247 e248 e249 e250 e251 e252 e253 e254 e255 e256 e257 e258 e259 e260 e261 e262 e263 e264 e265 e266 e267 e268 e269 e270 e271 e272 e273 e274 : Value)  (w' : World), Keep none_ w7 w' → Q0 (.normal) ⟨List.toArray (c0 :: .string key :: c2 :: c3 :: e4 :: c5 :: .slice AM m.length dM :: c7 :: .pointer (some ⟨xb, 0, none⟩) :: .pointer (some ⟨pb, 0, none⟩) :: c10 :: .slice Ag G.length dg :: c12 :: c13 :: c14 :: c15 :: c16 :: c17 :: c18 :: c19 :: c20 :: c21 :: c22 :: .slice Aw WL.length dw :: e24 :: e25 :: e26 :: e27 :: e28 :: c29 :: c30 :: c31 :: c32 :: c33 :: c34 :: c35 :: c36 :: c37 :: c38 :: c39 :: c40 :: c41 :: c42 :: c43 :: c44 :: c45 :: c46 :: c47 :: c48 :: c49 :: c50 :: c51 :: c52 :: c53 :: c54 :: c55 :: c56 :: c57 :: c58 :: c59 :: c60 :: c61 :: c62 :: c63 :: c64 :: c65 :: c66 :: c67 :: c68 :: c69 :: c70 :: c71 :: c72 :: c73 :: c74 :: c75 :: c76 :: c77 :: c78 :: c79 :: c80 :: c81 :: c82 :: c83 :: c84 :: c85 :: c86 :: c87 :: c88 :: c89 :: c90 :: c91 :: c92 :: c93 :: c94 :: c95 :: c96 :: c97 :: c98 :: c99 :: c100 :: c101 :: c102 :: c103 :: c104 :: c105 :: c106 :: c107 :: c108 :: c109 :: c110 :: c111 :: c112 :: c113 :: c114 :: c115 :: c116 :: c117 :: c118 :: c119 :: c120 :: c121 :: c122 :: c123 :: c124 :: c125 :: c126 :: c127 :: c128 :: c129 :: c130 :: c131 :: c132 :: c133 :: c134 :: c135 :: c136 :: c137 :: c138 :: c139 :: c140 :: c141 :: c142 :: c143 :: c144 :: c145 :: c146 :: c147 :: c148 :: c149 :: c150 :: c151 :: c152 :: c153 :: c154 :: c155 :: c156 :: c157 :: c158 :: c159 :: c160 :: c161 :: c162 :: c163 :: c164 :: c165 :: c166 :: c167 :: c168 :: c169 :: c170 :: c171 :: c172 :: c173 :: c174 :: c175 :: c176 :: c177 :: c178 :: c179 :: c180 :: c181 :: c182 :: c183 :: c184 :: c185 :: c186 :: c187 :: c188 :: c189 :: c190 :: c191 :: c192 :: c193 :: c194 :: c195 :: c196 :: c197 :: c198 :: c199 :: c200 :: c201 :: c202 :: c203 :: c204 :: c205 :: c206 :: c207 :: c208 :: c209 :: c210 :: c211 :: c212 :: c213 :: c214 :: c215 :: c216 :: c217 :: c218 :: .bool true :: e220 :: e221 :: e222 :: e223 :: e224 :: e225 :: e226 :: e227 :: e228 :: e229 :: e230 :: e231 :: e232 :: e233 :: e234 :: e235 :: e236 :: e237 :: e238 :: e239 :: e240 :: e241 :: e242 :: e243 :: e244 :: e245 :: e246 :: e247 :: e248 :: e249 :: e250 :: e251 :: e252 :: e253 :: e254 :: e255 :: e256 :: e257 :: e258 :: e259 :: e260 :: e261 :: e262 :: e263 :: e264 :: e265 :: e266 :: e267 :: e268 :: e269 :: e270 :: e271 :: e272 :: e273 :: e274 :: c275 :: c276 :: c277 :: c278 :: c279 :: c280 :: c281 :: c282 :: c283 :: c284 :: c285 :: c286 :: c287 :: c288 :: c289 :: c290 :: []), []⟩ w')
    : Code.wp Try.prog plays_mg_code Q0 ⟨List.toArray (c0 :: .string key :: c2 :: c3 :: c4 :: c5 :: .slice AM m.length dM :: c7 :: .pointer (some ⟨xb, 0, none⟩) :: .pointer (some ⟨pb, 0, none⟩) :: c10 :: .slice Ag G.length dg :: c12 :: c13 :: c14 :: c15 :: c16 :: c17 :: c18 :: c19 :: c20 :: c21 :: c22 :: .slice Aw WL.length dw :: c24 :: c25 :: c26 :: c27 :: c28 :: c29 :: c30 :: c31 :: c32 :: c33 :: c34 :: c35 :: c36 :: c37 :: c38 :: c39 :: c40 :: c41 :: c42 :: c43 :: c44 :: c45 :: c46 :: c47 :: c48 :: c49 :: c50 :: c51 :: c52 :: c53 :: c54 :: c55 :: c56 :: c57 :: c58 :: c59 :: c60 :: c61 :: c62 :: c63 :: c64 :: c65 :: c66 :: c67 :: c68 :: c69 :: c70 :: c71 :: c72 :: c73 :: c74 :: c75 :: c76 :: c77 :: c78 :: c79 :: c80 :: c81 :: c82 :: c83 :: c84 :: c85 :: c86 :: c87 :: c88 :: c89 :: c90 :: c91 :: c92 :: c93 :: c94 :: c95 :: c96 :: c97 :: c98 :: c99 :: c100 :: c101 :: c102 :: c103 :: c104 :: c105 :: c106 :: c107 :: c108 :: c109 :: c110 :: c111 :: c112 :: c113 :: c114 :: c115 :: c116 :: c117 :: c118 :: c119 :: c120 :: c121 :: c122 :: c123 :: c124 :: c125 :: c126 :: c127 :: c128 :: c129 :: c130 :: c131 :: c132 :: c133 :: c134 :: c135 :: c136 :: c137 :: c138 :: c139 :: c140 :: c141 :: c142 :: c143 :: c144 :: c145 :: c146 :: c147 :: c148 :: c149 :: c150 :: c151 :: c152 :: c153 :: c154 :: c155 :: c156 :: c157 :: c158 :: c159 :: c160 :: c161 :: c162 :: c163 :: c164 :: c165 :: c166 :: c167 :: c168 :: c169 :: c170 :: c171 :: c172 :: c173 :: c174 :: c175 :: c176 :: c177 :: c178 :: c179 :: c180 :: c181 :: c182 :: c183 :: c184 :: c185 :: c186 :: c187 :: c188 :: c189 :: c190 :: c191 :: c192 :: c193 :: c194 :: c195 :: c196 :: c197 :: c198 :: c199 :: c200 :: c201 :: c202 :: c203 :: c204 :: c205 :: c206 :: c207 :: c208 :: c209 :: c210 :: c211 :: c212 :: c213 :: c214 :: c215 :: c216 :: c217 :: c218 :: .bool true :: c220 :: c221 :: c222 :: c223 :: c224 :: c225 :: c226 :: c227 :: c228 :: c229 :: c230 :: c231 :: c232 :: c233 :: c234 :: c235 :: c236 :: c237 :: c238 :: c239 :: c240 :: c241 :: c242 :: c243 :: c244 :: c245 :: c246 :: c247 :: c248 :: c249 :: c250 :: c251 :: c252 :: c253 :: c254 :: c255 :: c256 :: c257 :: c258 :: c259 :: c260 :: c261 :: c262 :: c263 :: c264 :: c265 :: c266 :: c267 :: c268 :: c269 :: c270 :: c271 :: c272 :: c273 :: c274 :: c275 :: c276 :: c277 :: c278 :: c279 :: c280 :: c281 :: c282 :: c283 :: c284 :: c285 :: c286 :: c287 :: c288 :: c289 :: c290 :: []), []⟩ w7 := by
  unfold plays_mg_code
  conv => arg 2; whnf
  have sM := Sl.of_own (enc := Pane.cells) pane_len (by decide) (own_keep oM hkw (fun _ _ e => e))
  have f1 := pane_merge sM hP.out.srt hP.out.ok (by omega) key x.s x.v hxok.out.2.2
  unfold Merged at f1
  rw [← hWe.out, ← hpe.out] at f1
  have hNe : Hid (goneP key x.s x.v m = G.filter (fun s => !(s.eqB p.span))) := Lib.hid (by rw [hGe.out, hpe.out]; rfl)
  have hGl : G.length ≤ 60 := by rw [hGe.out]; exact Nat.le_trans (metQ_le true x.s m) hMl
  generalize goneP key x.s x.v m = N at *
  have x1 : w7.cell? ⟨xb, 1, none⟩ = some (.int .i64 x.s.s) := At.cell hdd 1
  have x2 : w7.cell? ⟨xb, 2, none⟩ = some (.int .i64 x.s.e) := At.cell hdd 2
  have x3 : w7.cell? ⟨xb, 3, none⟩ = some (.int .i64 x.v) := At.cell hdd 3
  have fcs := Lib.hid (fun W' (A1 : Option Addr) (d1 : Nat) (h : Sl Pane.cells 7 W' A1 WL.length d1 WL) (h2 : Keep none_ w7 W') => ref_same W' h (Sl.of_own pane_len (by decide) (own_keep hW h2 (fun _ _ e => e))))
  rw [panesB_self] at fcs
  have hns := fun W' => run_neq_Span p.span p.span W'
  rw [(Span.eqB_iff _ _).2 rfl] at hns
  simp only [Span.cells, Bool.not_true] at f1 hns
  replace f1 := Lib.hid f1
  replace hQ := Lib.hid hQ
  clear hGe hpe hWe hP hxok sM oM hkw hW
  go_wp2_with fail
  refine f1.out.mono ?_
  rintro e w8 ⟨vo, vg, rfl, o1, o2, k8⟩
  obtain ⟨Ao, dO, rfl⟩ := own_form o1
  obtain ⟨An, dn, rfl⟩ := own_form o2
  have hp8 := Keep.at k8 hp (fun e => e)
  have hG8 := own_keep hG k8 (fun _ _ e => e)
  have ka : Keep none_ w8 (w8.alloc (.cells #[.int .i64 p.span.s, .int .i64 p.span.e] 28)) := Keep.alloc (Keep.refl _ _) _
  have hn9 := At.new w8 #[.int .i64 p.span.s, .int .i64 p.span.e] 28
  have hp9 := Keep.at ka hp8 (fun e => e)
  have hG9 := own_keep hG8 ka (fun _ _ e => e)
  have hN9 := own_keep o2 ka (fun _ _ e => e)
  have ho9 := own_keep o1 ka (fun _ _ e => e)
  have k9 := k8.trans ka
  clear f1 o1 o2 hp8 hG8 hG hp x1 x2 x3 ka k8
  go_wp2_with fail
  refine plays_l46 _ _ _ _ _ _ _ _ _ _ _ _ _ _ _ _ _ _ _ _ _ _ _ _ _ _ _ _ _ _ _ _ _ _ _ _ _ _ _ _ _ _ _ _ _ _ _ _ _ _ _ _ _ _ _ _ _ _ _ _ _ _ _ _ _ _ _ _ _ _ _ _ _ _ _ _ _ _ _ _ _ _ _ _ _ _ _ _ _ _ _ _ _ _ _ _ _ _ _ _ _ _ _ _ _ _ _ _ _ _ _ _ _ _ _ _ _ _ _ _ _ _ _ _ _ _ _ _ _ _ _ _ _ _ _ _ _ _ _ _ _ _ _ _ _ _ _ _ _ _ _ _ _ _ _ _ _ _ _ _ _ _ _ _ _ _ _ _ _ _ _ _ _ _ _ _ _ _ _ _ _ _ _ _ _ _ _ _ _ _ _ _ _ _ _ _ _ _ _ _ _ _ _ _ _ _ _ _ _ _ _ _ _ _ _ _ _ _ _ _ _ _ _ _ _ _ _ _ _ _ _ _ _ _ _ _ _ _ _ _ _ _ _ _ _ _ _ _ _ _ _ _ _ _ _ _ _ _ _ _ _ _ _ _ _ _ _ _ _ _ _ _ _ _ _ _ _ _ _ _ _ _ _ _ _ _ hG9 hGl hN9 hNe hp9 ?_
  intro e4 e28 e231 e232 e233 e234 e235 e236 e237 e238 e239 e240 e241 e242 e243 e244 e245 e246 e247 e248 e249 e250 e251 e252 e253 e254 e255 e256 e257 e258 w10 k10
  have hn10 := At.cell (Keep.at k10 hn9 (fun e => e))
  have hp10 := At.cell (Keep.at k10 hp9 (fun e => e))
  have ho10 := own_keep ho9 k10 (fun _ _ e => e)
  have k7 := k9.trans k10
  clear hG9 hN9 ho9 hn9 hp9 k9 k10 hNe
  go_wp2_with fail
  refine (fcs.out _ _ _ (Sl.of_own pane_len (by decide) ho10) k7).mono ?_
  rintro e w11 ⟨rfl, k11⟩
  clear fcs
  go_wp2_with fail
  exact hQ.out _ _ _ _ _ _ _ _ _ _ _ _ _ _ _ _ _ _ _ _ _ _ _ _ _ _ _ _ _ _ _ _ _ _ _ _ _ _ _ _ _ _ _ _ _ _ _ _ _ _ _ _ _ _ _ _ _ _ _ _ _ _ (k7.trans k11)
end Go.Proofs.Ytmioichjhiengaa
