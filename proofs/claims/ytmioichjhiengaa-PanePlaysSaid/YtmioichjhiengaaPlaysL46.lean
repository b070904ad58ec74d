/-
  PanePlays: a piece of its round.
-/
import Derived.Test.YtmioichjhiengaaPlaysLoop
import Derived.Deep.CutRange
import Derived.Deep.RegionHeld3
namespace Go.Proofs.Ytmioichjhiengaa
open Go.RowKit

noncomputable def plays_l46_code : Code := ((Try.f6.body.bind ((loopAt 46))).getD .skip)
set_option maxHeartbeats 16000000 in
set_option maxRecDepth 1000000 in
theorem plays_l46 {Q0 : Exit → Act → World → Prop} {w6 : World} {bG bN pb : Nat} {G N : List Span} {p : Pane} {Ag An : Option Addr} {dg dn : Nat} (c0 c1 c2 c3 c4 c5 c6 c7 c8 c10 c12 c13 c14 c15 c16 c17 c18 c19 c20 c21 c22 c23 c24 c26 c29 c30 c31 c32 c33 c34 c35 c36 c37 c38 c39 c40 c41 c42 c43 c44 c45 c46 c47 c48 c49 c50 c51 c52 c53 c54 c55 c56 c57 c58 c59 c60 c61 c62 c63 c64 c65 c66 c67 c68 c69 c70 c71 c72 c73 c74 c75 c76 c77 c78 c79 c80 c81 c82 c83 c84 c85 c86 c87 c88 c89 c90 c91 c92 c93 c94 c95 c96 c97 c98 c99 c100 c101 c102 c103 c104 c105 c106 c107 c108 c109 c110 c111 c112 c113 c114 c115 c116 c117 c118 c119 c120 c121 c122 c123 c124 c125 c126 c127 c128 c129 c130 c131 c132 c133 c134 c135 c136 c137 c138 c139 c140 c141 c142 c143 c144 c145 c146 c147 c148 c149 c150 c151 c152 c153 c154 c155 c156 c157 c158 c159 c160 c161 c162 c163 c164 c165 c166 c167 c168 c169 c170 c171 c172 c173 c174 c175 c176 c177 c178 c179 c180 c181 c182 c183 c184 c185 c186 c187 c188 c189 c190 c191 c192 c193 c194 c195 c196 c197 c198 c199 c200 c201 c202 c203 c204 c205 c206 c207 c208 c209 c210 c211 c212 c213 c214 c215 c216 c217 c218 c219 c220 c221 c222 c223 c224 c225 c226 c227 c228 c229 c230 c231 c232 c233 c234 c235 c236 c237 c238 c239 c240 c241 c242 c243 c244 c245 c246 c247 c248 c249 c250 c251 c252 c253 c254 c255 c256 c257 c258 c259 c260 c261 c262 c263 c264 c265 c266 c267 c268 c269 c270 c271 c272 c273 c274 c275 c276 c277 c278 c279 c280 c281 c282 c283 c284 c285 c286 c287 c288 c289 c290 : Value)
    (hG : SRow w6 bG (.slice Ag G.length dg) G) (hGl : G.length ≤ 60) (hN : SRow w6 bN (.slice An N.length dn) N) (hNe : Hid (N = G.filter (fun s => !(s.eqB p.span)))) (hp : At w6 pb p.cells.toArray 32)
    (hQ : ∀ (e4 e28 e231 e232 e233 e234 e235 e236 e237 e238 e239 e240 e241 e242 e243 e244 e245 e246 e247 e248 e249 e250 e251 e252 e253 e254 e255 e256 e257 e258 : Value)  (w' : World), Keep none_ w6 w' → Q0 (.exit 6) ⟨List.toArray (c0 :: c1 :: c2 :: c3 :: e4 :: c5 :: c6 :: c7 :: c8 :: .pointer (some ⟨pb, 0, none⟩) :: c10 :: .slice Ag G.length dg :: c12 :: c13 :: c14 :: c15 :: c16 :: c17 :: c18 :: c19 :: c20 :: c21 :: c22 :: c23 :: c24 :: .slice An N.length dn :: c26 :: .int .i64 (N.length : Nat) :: e28 :: c29 :: c30 :: c31 :: c32 :: c33 :: c34 :: c35 :: c36 :: c37 :: c38 :: c39 :: c40 :: c41 :: c42 :: c43 :: c44 :: c45 :: c46 :: c47 :: c48 :: c49 :: c50 :: c51 :: c52 :: c53 :: c54 :: c55 :: c56 :: c57 :: c58 :: c59 :: c60 :: c61 :: c62 :: c63 :: c64 :: c65 :: c66 :: c67 :: c68 :: c69 :: c70 :: c71 :: c72 :: c73 :: c74 :: c75 :: c76 :: c77 :: c78 :: c79 :: c80 :: c81 :: c82 :: c83 :: c84 :: c85 :: c86 :: c87 :: c88 :: c89 :: c90 :: c91 :: c92 :: c93 :: c94 :: c95 :: c96 :: c97 :: c98 :: c99 :: c100 :: c101 :: c102 :: c103 :: c104 :: c105 :: c106 :: c107 :: c108 :: c109 :: c110 :: c111 :: c112 :: c113 :: c114 :: c115 :: c116 :: c117 :: c118 :: c119 :: c120 :: c121 :: c122 :: c123 :: c124 :: c125 :: c126 :: c127 :: c128 :: c129 :: c130 :: c131 :: c132 :: c133 :: c134 :: c135 :: c136 :: c137 :: c138 :: c139 :: c140 :: c141 :: c142 :: c143 :: c144 :: c145 :: c146 :: c147 :: c148 :: c149 :: c150 :: c151 :: c152 :: c153 :: c154 :: c155 :: c156 :: c157 :: c158 :: c159 :: c160 :: c161 :: c162 :: c163 :: c164 :: c165 :: c166 :: c167 :: c168 :: c169 :: c170 :: c171 :: c172 :: c173 :: c174 :: c175 :: c176 :: c177 :: c178 :: c179 :: c180 :: c181 :: c182 :: c183 :: c184 :: c185 :: c186 :: c187 :: c188 :: c189 :: c190 :: c191 :: c192 :: c193 :: c194 :: c195 :: c196 :: c197 :: c198 :: c199 :: c200 :: c201 :: c202 :: c203 :: c204 :: c205 :: c206 :: c207 :: c208 :: c209 :: c210 :: c211 :: c212 :: c213 :: c214 :: c215 :: c216 :: c217 :: c218 :: c219 :: c220 :: c221 :: c222 :: c223 :: c224 :: c225 :: c226 :: c227 :: c228 :: c229 :: c230 :: e231 :: e232 :: e233 :: e234 :: e235 :: e236 :: e237 :: e238 :: e239 :: e240 :: e241 :: e242 :: e243 :: e244 :: e245 :: e246 :: e247 :: e248 :: e249 :: e250 :: e251 :: e252 :: e253 :: e254 :: e255 :: e256 :: e257 :: e258 :: c259 :: c260 :: c261 :: c262 :: c263 :: c264 :: c265 :: c266 :: c267 :: c268 :: c269 :: c270 :: c271 :: c272 :: c273 :: c274 :: c275 :: c276 :: c277 :: c278 :: c279 :: c280 :: c281 :: c282 :: c283 :: c284 :: c285 :: c286 :: c287 :: c288 :: c289 :: c290 :: []), []⟩ w')
    : Code.wp Try.prog (Code.loop plays_l46_code) Q0 ⟨List.toArray (c0 :: c1 :: c2 :: c3 :: c4 :: c5 :: c6 :: c7 :: c8 :: .pointer (some ⟨pb, 0, none⟩) :: c10 :: .slice Ag G.length dg :: c12 :: c13 :: c14 :: c15 :: c16 :: c17 :: c18 :: c19 :: c20 :: c21 :: c22 :: c23 :: c24 :: .slice An N.length dn :: c26 :: .int .i64 0 :: .int .i64 0 :: c29 :: c30 :: c31 :: c32 :: c33 :: c34 :: c35 :: c36 :: c37 :: c38 :: c39 :: c40 :: c41 :: c42 :: c43 :: c44 :: c45 :: c46 :: c47 :: c48 :: c49 :: c50 :: c51 :: c52 :: c53 :: c54 :: c55 :: c56 :: c57 :: c58 :: c59 :: c60 :: c61 :: c62 :: c63 :: c64 :: c65 :: c66 :: c67 :: c68 :: c69 :: c70 :: c71 :: c72 :: c73 :: c74 :: c75 :: c76 :: c77 :: c78 :: c79 :: c80 :: c81 :: c82 :: c83 :: c84 :: c85 :: c86 :: c87 :: c88 :: c89 :: c90 :: c91 :: c92 :: c93 :: c94 :: c95 :: c96 :: c97 :: c98 :: c99 :: c100 :: c101 :: c102 :: c103 :: c104 :: c105 :: c106 :: c107 :: c108 :: c109 :: c110 :: c111 :: c112 :: c113 :: c114 :: c115 :: c116 :: c117 :: c118 :: c119 :: c120 :: c121 :: c122 :: c123 :: c124 :: c125 :: c126 :: c127 :: c128 :: c129 :: c130 :: c131 :: c132 :: c133 :: c134 :: c135 :: c136 :: c137 :: c138 :: c139 :: c140 :: c141 :: c142 :: c143 :: c144 :: c145 :: c146 :: c147 :: c148 :: c149 :: c150 :: c151 :: c152 :: c153 :: c154 :: c155 :: c156 :: c157 :: c158 :: c159 :: c160 :: c161 :: c162 :: c163 :: c164 :: c165 :: c166 :: c167 :: c168 :: c169 :: c170 :: c171 :: c172 :: c173 :: c174 :: c175 :: c176 :: c177 :: c178 :: c179 :: c180 :: c181 :: c182 :: c183 :: c184 :: c185 :: c186 :: c187 :: c188 :: c189 :: c190 :: c191 :: c192 :: c193 :: c194 :: c195 :: c196 :: c197 :: c198 :: c199 :: c200 :: c201 :: c202 :: c203 :: c204 :: c205 :: c206 :: c207 :: c208 :: c209 :: c210 :: c211 :: c212 :: c213 :: c214 :: c215 :: c216 :: c217 :: c218 :: c219 :: c220 :: c221 :: c222 :: c223 :: c224 :: c225 :: c226 :: c227 :: c228 :: c229 :: c230 :: c231 :: c232 :: c233 :: c234 :: c235 :: c236 :: c237 :: c238 :: c239 :: c240 :: c241 :: c242 :: c243 :: c244 :: c245 :: c246 :: c247 :: c248 :: c249 :: c250 :: c251 :: c252 :: c253 :: c254 :: c255 :: c256 :: c257 :: c258 :: c259 :: c260 :: c261 :: c262 :: c263 :: c264 :: c265 :: c266 :: c267 :: c268 :: c269 :: c270 :: c271 :: c272 :: c273 :: c274 :: c275 :: c276 :: c277 :: c278 :: c279 :: c280 :: c281 :: c282 :: c283 :: c284 :: c285 :: c286 :: c287 :: c288 :: c289 :: c290 :: []), []⟩ w6 := by
  unfold plays_l46_code
  conv => arg 2; arg 1; whnf
  have sG := Sl.of_own span_len (by decide) hG
  have sN := Sl.of_own span_len (by decide) hN
  clear hG hN
  replace hQ := Lib.hid hQ
  go_loopw [27, 28] (fun nv kv wq => ∃ k n : Nat, kv = .int .i64 k ∧ k ≤ G.length ∧ nv = .int .i64 n ∧ Hid (n = ((G.take k).filter (fun s => !(s.eqB p.span))).length) ∧ n ≤ k ∧ Keep none_ w6 wq) (fun _ kv _ => G.length - (intOf kv).toNat)
  case atStart => exact ⟨0, 0, rfl, Nat.zero_le _, rfl, Lib.hid (by simp), Nat.le_refl _, Keep.refl _ _⟩
  case round =>
    obtain ⟨k, n, rfl, hk, rfl, hn, hnk, kk⟩ := hrel
    by_cases hlt : k < G.length
    · have sG1 := sG.keep kk Off.none_
      obtain ⟨bm, fm, rfl, hbm, -⟩ := sG1.at_ (by omega)
      have y1 := sG1.cellk hlt 0 (by omega)
      have y2 := sG1.cellk hlt 1 (by omega)
      have hp1 := Keep.at kk hp (fun e => e)
      have p1 : wr.cell? ⟨pb, 1, none⟩ = some (.int .i64 p.span.s) := At.cell hp1 1
      have p2 : wr.cell? ⟨pb, 2, none⟩ = some (.int .i64 p.span.e) := At.cell hp1 2
      have hfs := take_succ_filter (q := fun s : Span => !(s.eqB p.span)) hlt
      have hfa := filter_at (q := fun s : Span => !(s.eqB p.span)) hlt
      obtain ⟨y, hy⟩ : ∃ y, y = G[k] := ⟨_, rfl⟩
      rw [← hy] at y1 y2 hfs hfa
      have hee := fun W => run_eql_Span y p.span W
      generalize hbe : y.eqB p.span = be at *
      simp only [Span.cells, List.getElem?_cons_zero, List.getElem?_cons_succ, Nat.add_zero] at hee y1 y2
      have hlt' : (k : Int) < (G.length : Int) := by omega
      have hk0 := Int.natCast_nonneg k
      have hn0 := Int.natCast_nonneg n
      replace hfs := Lib.hid hfs
      clear hp1 hbe hy
      cases be
      · obtain ⟨f1, f2⟩ := hfa rfl
        rw [← hNe.out, ← hn.out] at f1 f2
        have sN1 := sN.keep kk Off.none_
        obtain ⟨bn, fn, rfl, hbn, -⟩ := sN1.at_ (by omega)
        have u1 := sN1.cellk f1 0 (by omega)
        have u2 := sN1.cellk f1 1 (by omega)
        rw [List.getElem?_eq_getElem f1] at f2
        have f3 := Option.some.inj f2
        rw [f3] at u1 u2
        simp only [Span.cells, List.getElem?_cons_zero, List.getElem?_cons_succ, Nat.add_zero] at u1 u2
        have hnn := fun W => run_neq_Span y y W
        rw [(Span.eqB_iff _ _).2 rfl] at hnn
        simp only [Span.cells, Bool.not_true] at hnn
        have g1 : decide ((N.length : Int) ≤ (n : Int)) = false := by simp; omega
        have g2 : ¬ (N.length : Int) ≤ (n : Int) := by omega
        have g3 : (n : Int) < (N.length : Int) := by omega
        clear hfa f2 f3 sN1 sG1 sN sG
        go_wp2_with fail
        go_quiet (fail)
        go_wp2_with fail
        go_quiet (fail)
        go_wp2_with fail
        go_roundw
        case rel => exact ⟨k + 1, n + 1, by go_num, by omega, by go_num, Lib.hid (by rw [hfs.out, List.length_append, ← hn.out]; rfl), by omega, Keep.trans kk (keep_drewN _ _)⟩
        case measure => simp [intOf]; omega
      · clear hfa sG1 sN sG
        go_wp2_with fail
        go_quiet (fail)
        go_wp2_with fail
        go_roundw
        case rel => exact ⟨k + 1, n, by go_num, by omega, rfl, Lib.hid (by rw [hfs.out, List.length_append, ← hn.out]; rfl), by omega, Keep.trans kk (keep_drewN _ _)⟩
        case measure => simp [intOf]; omega
    · obtain rfl : k = G.length := by omega
      have hne : n = N.length := by
        have := hn.out
        rw [List.take_length, ← hNe.out] at this
        exact this
      subst hne
      clear sG sN hlt hk hn
      go_wp2_with fail
      exact hQ.out _ _ _ _ _ _ _ _ _ _ _ _ _ _ _ _ _ _ _ _ _ _ _ _ _ _ _ _ _ _ _ kk
end Go.Proofs.Ytmioichjhiengaa
