/-
  A leaf of the round of HandPlays. WRITTEN BY PROGRAM (wip/genhandrest.py).
-/
import Derived.Test.YtlnlbegcnhelmaaHandRest
namespace Go.Proofs.Ytlnlbegcnhelmaa
open Go.RowKit

set_option maxHeartbeats 4000000 in
set_option maxRecDepth 1000000 in
theorem hr_give_give {c0 c1 c5 c6 c7 c8 c9 c10 c11 c13 c15 c16 c17 c18 c20 c23 c24 c28 c29 c30 c31 c32 c33 c34 c35 c36 c37 c38 c39 c40 c41 c42 c43 c44 c45 c46 c47 c48 c49 c50 c51 c52 c53 c54 c55 c56 c57 c58 c59 c60 c61 c62 c63 c64 c65 c66 c67 c68 c69 c70 c71 c72 c73 c74 c75 c76 c77 c78 c79 c80 c81 c82 c83 c84 c85 c86 c87 c88 c89 c90 c91 c92 c93 c94 c95 c96 c97 c98 c99 c100 c101 c102 c103 c104 c105 c106 c107 c108 c109 c110 c111 c112 c113 c114 c115 c116 c117 c118 c119 c120 c121 c122 c123 c124 c125 c126 c127 c128 c129 c130 c131 c132 c133 c134 c135 c136 c137 c138 c139 c140 c141 c142 c143 c144 c145 c146 c147 c148 c149 c150 c151 c152 c153 c154 c155 c156 c157 c158 c159 c160 c161 c162 c163 c164 c165 c166 c167 c168 c169 c170 c171 c172 c173 c174 c175 c176 c177 c178 c179 c180 c181 c182 c183 c184 c185 c186 c187 c188 c189 c190 c191 c192 c193 c194 c195 c196 c197 c198 c199 c200 c201 c202 c203 c204 c205 c206 c207 c208 c209 c210 c211 c212 c213 c214 c215 c216 c217 c218 c219 c220 c221 c222 c223 c224 c225 c226 c227 c228 c229 c230 c231 c232 c233 c234 c235 c236 c237 c238 c239 c240 c241 c242 c243 c244 c245 c246 c247 c248 c249 c250 c251 c252 c253 c254 c255 c256 c257 c258 c259 c260 c261 c262 : Value} (i t k ph p gg hp gp n s b off c : Nat) (is : Bool) (ow : Int) (ot : Bool) (l : List Deed15) (W w8 : World) (K' : Act → World → Prop) (Q' : Exit → Act → World → Prop)
    (hph : ph ≤ 4) (hi8 : HI W n s i t p gg hp gp ph w8) (hne1 : hp ≠ p) (hne2 : hp ≠ gg) (hhW : W.heap.size ≤ hp) (hpW : W.heap.size ≤ p) (hgW : W.heap.size ≤ gg) (hin : i < n) (hkl : k < l.length) (e1 : W.cell? ⟨b, off + k * 2 + 1, none⟩ = some (.bool ot)) (hbl : b < W.heap.size) (h1 : ph = 1) (how : ot = false ∧ ow = i)
    (hK : ∀ (ph' : Nat) (pv : Int) (wx : World) (u28 u29 u30 u31 u197 u198 u199 u200 u201 u202 u203 u204 u205 u206 u207 u208 u209 u210 u211 u212 u213 u214 u215 u216 u217 u218 u219 u220 u221 u222 u223 u224 u225 u226 u227 u228 u229 u230 u231 u232 u233 u234 u235 u236 u237 u238 u239 u240 u241 u242 u243 u244 u245 u246 u247 u248 u249 u250 u251 u252 u253 u254 u255 u256 u257 u258 u259 u260 u261 : Value), pv = ph' → ph' ≤ 4 → HI W n s i t p gg hp gp ph' wx → K' ⟨#[c0, c1, .int .i64 (i : Int), .int .i64 (t : Int), .slice (some ⟨b, off, none⟩) l.length c, c5, c6, c7, c8, c9, c10, c11, .pointer (some ⟨p, 0, none⟩), c13, .pointer (some ⟨hp, 0, none⟩), c15, c16, c17, c18, .pointer (some ⟨gp, 0, none⟩), c20, .int .i64 pv, .int .i64 (k : Int), c23, c24, .bool is, .int .i64 1, .int .i64 ow, u28, u29, u30, u31, c32, c33, c34, c35, c36, c37, c38, c39, c40, c41, c42, c43, c44, c45, c46, c47, c48, c49, c50, c51, c52, c53, c54, c55, c56, c57, c58, c59, c60, c61, c62, c63, c64, c65, c66, c67, c68, c69, c70, c71, c72, c73, c74, c75, c76, c77, c78, c79, c80, c81, c82, c83, c84, c85, c86, c87, c88, c89, c90, c91, c92, c93, c94, c95, c96, c97, c98, c99, c100, c101, c102, c103, c104, c105, c106, c107, c108, c109, c110, c111, c112, c113, c114, c115, c116, c117, c118, c119, c120, c121, c122, c123, c124, c125, c126, c127, c128, c129, c130, c131, c132, c133, c134, c135, c136, c137, c138, c139, c140, c141, c142, c143, c144, c145, c146, c147, c148, c149, c150, c151, c152, c153, c154, c155, c156, c157, c158, c159, c160, c161, c162, c163, c164, c165, c166, c167, c168, c169, c170, c171, c172, c173, c174, c175, c176, c177, c178, c179, c180, c181, c182, c183, c184, c185, c186, c187, c188, c189, c190, c191, c192, c193, c194, c195, c196, u197, u198, u199, u200, u201, u202, u203, u204, u205, u206, u207, u208, u209, u210, u211, u212, u213, u214, u215, u216, u217, u218, u219, u220, u221, u222, u223, u224, u225, u226, u227, u228, u229, u230, u231, u232, u233, u234, u235, u236, u237, u238, u239, u240, u241, u242, u243, u244, u245, u246, u247, u248, u249, u250, u251, u252, u253, u254, u255, u256, u257, u258, u259, u260, u261, c262], []⟩ wx) :
    Code.wp Try.prog handRest (Exit.inBlock 1 (Exit.then K' Q')) ⟨#[c0, c1, .int .i64 (i : Int), .int .i64 (t : Int), .slice (some ⟨b, off, none⟩) l.length c, c5, c6, c7, c8, c9, c10, c11, .pointer (some ⟨p, 0, none⟩), c13, .pointer (some ⟨hp, 0, none⟩), c15, c16, c17, c18, .pointer (some ⟨gp, 0, none⟩), c20, .int .i64 (ph : Int), .int .i64 (k : Int), c23, c24, .bool is, .int .i64 1, .int .i64 ow, c28, c29, c30, c31, c32, c33, c34, c35, c36, c37, c38, c39, c40, c41, c42, c43, c44, c45, c46, c47, c48, c49, c50, c51, c52, c53, c54, c55, c56, c57, c58, c59, c60, c61, c62, c63, c64, c65, c66, c67, c68, c69, c70, c71, c72, c73, c74, c75, c76, c77, c78, c79, c80, c81, c82, c83, c84, c85, c86, c87, c88, c89, c90, c91, c92, c93, c94, c95, c96, c97, c98, c99, c100, c101, c102, c103, c104, c105, c106, c107, c108, c109, c110, c111, c112, c113, c114, c115, c116, c117, c118, c119, c120, c121, c122, c123, c124, c125, c126, c127, c128, c129, c130, c131, c132, c133, c134, c135, c136, c137, c138, c139, c140, c141, c142, c143, c144, c145, c146, c147, c148, c149, c150, c151, c152, c153, c154, c155, c156, c157, c158, c159, c160, c161, c162, c163, c164, c165, c166, c167, c168, c169, c170, c171, c172, c173, c174, c175, c176, c177, c178, c179, c180, c181, c182, c183, c184, c185, c186, c187, c188, c189, c190, c191, c192, c193, c194, c195, c196, c197, c198, c199, c200, c201, c202, c203, c204, c205, c206, c207, c208, c209, c210, c211, c212, c213, c214, c215, c216, c217, c218, c219, c220, c221, c222, c223, c224, c225, c226, c227, c228, c229, c230, c231, c232, c233, c234, c235, c236, c237, c238, c239, c240, c241, c242, c243, c244, c245, c246, c247, c248, c249, c250, c251, c252, c253, c254, c255, c256, c257, c258, c259, c260, c261, c262], []⟩ w8 := by
  conv => arg 2; whnf
  have f2 := fun o => (((hi8.none (Keep.alloc (Keep.refl none_ w8) o)).keep.below (Nat.le_refl _) not_none).cell hbl).trans e1
  replace hK := Lib.hid hK
  subst h1
  obtain ⟨rfl, rfl⟩ := how
  have hi9 := hi8.none (Keep.alloc (Keep.refl none_ w8) (.cells (DidV.cells ⟨(Msg.give i), false, 0, .slice none 0 0, .slice none 0 0, some gp⟩).toArray 91))
  have c9 := hand_did_give hi9.hand ⟨Msg.give i, false, 0, .slice none 0 0, .slice none 0 0, some gp⟩ (by simp [Msg.give]) (by simp) (by simp [Msg.give])
  simp only [DidV.cells, Msg.give, Msg.have_, Call.zero, ptr, Option.map_none, Option.map_some] at c9 hi9
  replace c9 := Lib.hid c9
  go_wp2_with fail
  refine c9.out.mono ?_
  rintro e w10 ⟨rfl, k10, hh10⟩
  have hi10 : HI W n s i t p gg hp gp 2 w10 := ⟨hh10, hi9.tab.keep k10 (fun e => hne1 e.symm) (fun e => hne2 e.symm), Keep.fresh hi9.keep k10 (fun z hz e => by unfold one at e; omega)⟩
  clear c9 k10 hi9 hi8 hh10
  have c10 := owner_of hi10.tab i (by rw [stepT_len]; exact hin)
  rw [stepT_at n s i t 2 hin] at c10
  simp only [Nat.reduceLT, if_true] at c10
  simp only [Own.cells] at c10
  replace c10 := Lib.hid c10
  go_wp2_with fail
  refine c10.out.mono ?_
  rintro e w11 ⟨rfl, k11⟩
  have hi11 := fun o => hi10.none (Keep.alloc k11 o)
  clear c10 k11 hi10
  go_wp2_with fail
  exact hK.out 2 _ _ _ _ _ _ _ _ _ _ _ _ _ _ _ _ _ _ _ _ _ _ _ _ _ _ _ _ _ _ _ _ _ _ _ _ _ _ _ _ _ _ _ _ _ _ _ _ _ _ _ _ _ _ _ _ _ _ _ _ _ _ _ _ _ _ _ _ _ _ _ (by first | rfl | omega) (by omega) (hi11 _)
end Go.Proofs.Ytlnlbegcnhelmaa
