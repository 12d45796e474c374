/- Parts joined by program: N22, N23, N21, N24, N25, N26, N27, N16, U0, SD, K0, K1. -/
import Derived.Test.YtkmgbejhbkbaoaaDom5
import Derived.Deep.DeepCutAuto
import Derived.Deep.CutBlock
import Derived.Test.YtkmgbejhbkbaoaaRows
import Derived.ProofKit
import Derived.OpenShut
import Derived.ChangeSame
import Derived.ChangeSlices
import Derived.Carry
/- The maker of functions: in one block's turn, what the phis make is at hand. -/
namespace Go.Proofs.Ytkmgbejhbkbaoaa
set_option linter.unusedSimpArgs false
set_option linter.unusedVariables false
open Go.RowKit

noncomputable def phCode : Code := (Try.f8.body.bind (findBlock 18)).getD .skip
set_option maxRecDepth 100000 in
def frPh (c0 c1 c2 c3 c4 c5 c6 c7 c8 c9 c10 c11 c12 c13 c14 c15 c16 c17 c18 c19 c21 c22 c23 c24 c25 c26 c27 c28 c29 c30 c31 c32 c33 c34 c35 c36 c37 c38 c39 c40 c41 c42 c43 c44 c45 c46 c47 c48 c49 c50 c51 c52 c53 c54 c55 c56 c57 c58 c59 c60 c61 c62 c63 c64 c65 c66 c67 c68 c69 c70 c71 c72 c73 c74 c75 c76 c77 c78 c79 c80 c81 c82 c83 c84 c85 c86 c87 c88 c89 c90 c91 c92 c93 c94 c95 c96 c97 c98 c99 c100 c101 c102 c103 c104 c105 c106 c107 c108 c109 c110 c111 c112 c113 c114 c115 c116 c117 c118 c119 c120 c121 c122 c123 c124 c125 c126 c127 c128 c129 c130 c131 c132 c133 c134 c135 c136 c137 c138 c139 c140 c141 c142 c143 c144 c145 c146 c147 c148 c149 c150 c151 c152 c153 c154 c155 c156 c157 c158 c159 c160 c161 c162 c163 c164 c165 c166 c167 c168 c169 c170 c171 c172 c173 c174 c175 c176 c177 c178 c179 c180 c181 c182 c183 c184 c185 c186 c187 c188 c189 c190 c191 c192 c193 c194 c195 c196 c197 c198 c199 c200 c201 c202 c203 c204 c205 c206 c207 c208 c209 c210 c211 c212 c213 c214 c215 c216 c217 c218 c219 c220 c221 c222 c223 c224 c225 c226 c227 c228 c229 c230 c231 c232 c233 c234 c235 c236 c237 c238 c239 c240 c241 c242 c243 c244 c281 c282 c283 c284 c285 c286 c287 c288 c289 c290 c291 c292 c293 c294 c295 c296 c297 c298 c299 c300 c301 c302 c303 c304 c305 c306 c307 c308 c309 c310 c311 c312 c313 c314 c315 c316 c317 c318 c319 c320 c321 c322 c323 c324 c325 c326 c327 c328 c329 c330 c331 c332 c333 c334 c335 c336 c337 c338 c339 c340 c341 c342 c343 c344 c345 c346 c347 c348 c349 c350 c351 c352 c353 c354 c355 c356 c357 c358 c359 c360 c361 c362 c363 c364 c365 c366 c367 c368 c369 c370 c371 c372 c373 c374 c375 c376 c377 c378 c379 c380 c381 c382 c383 c384 c385 c386 c387 c388 c389 c390 c391 c392 c393 c394 c395 c396 c397 c398 c399 c400 c401 c402 c403 c404 c405 c406 c407 c408 c409 c410 c411 c412 c413 c414 : Value) (u : Nat → Value) : Act := ⟨#[c0, c1, c2, c3, c4, c5, c6, c7, c8, c9, c10, c11, c12, c13, c14, c15, c16, c17, c18, c19, u 20, c21, c22, c23, c24, c25, c26, c27, c28, c29, c30, c31, c32, c33, c34, c35, c36, c37, c38, c39, c40, c41, c42, c43, c44, c45, c46, c47, c48, c49, c50, c51, c52, c53, c54, c55, c56, c57, c58, c59, c60, c61, c62, c63, c64, c65, c66, c67, c68, c69, c70, c71, c72, c73, c74, c75, c76, c77, c78, c79, c80, c81, c82, c83, c84, c85, c86, c87, c88, c89, c90, c91, c92, c93, c94, c95, c96, c97, c98, c99, c100, c101, c102, c103, c104, c105, c106, c107, c108, c109, c110, c111, c112, c113, c114, c115, c116, c117, c118, c119, c120, c121, c122, c123, c124, c125, c126, c127, c128, c129, c130, c131, c132, c133, c134, c135, c136, c137, c138, c139, c140, c141, c142, c143, c144, c145, c146, c147, c148, c149, c150, c151, c152, c153, c154, c155, c156, c157, c158, c159, c160, c161, c162, c163, c164, c165, c166, c167, c168, c169, c170, c171, c172, c173, c174, c175, c176, c177, c178, c179, c180, c181, c182, c183, c184, c185, c186, c187, c188, c189, c190, c191, c192, c193, c194, c195, c196, c197, c198, c199, c200, c201, c202, c203, c204, c205, c206, c207, c208, c209, c210, c211, c212, c213, c214, c215, c216, c217, c218, c219, c220, c221, c222, c223, c224, c225, c226, c227, c228, c229, c230, c231, c232, c233, c234, c235, c236, c237, c238, c239, c240, c241, c242, c243, c244, u 245, u 246, u 247, u 248, u 249, u 250, u 251, u 252, u 253, u 254, u 255, u 256, u 257, u 258, u 259, u 260, u 261, u 262, u 263, u 264, u 265, u 266, u 267, u 268, u 269, u 270, u 271, u 272, u 273, u 274, u 275, u 276, u 277, u 278, u 279, u 280, c281, c282, c283, c284, c285, c286, c287, c288, c289, c290, c291, c292, c293, c294, c295, c296, c297, c298, c299, c300, c301, c302, c303, c304, c305, c306, c307, c308, c309, c310, c311, c312, c313, c314, c315, c316, c317, c318, c319, c320, c321, c322, c323, c324, c325, c326, c327, c328, c329, c330, c331, c332, c333, c334, c335, c336, c337, c338, c339, c340, c341, c342, c343, c344, c345, c346, c347, c348, c349, c350, c351, c352, c353, c354, c355, c356, c357, c358, c359, c360, c361, c362, c363, c364, c365, c366, c367, c368, c369, c370, c371, c372, c373, c374, c375, c376, c377, c378, c379, c380, c381, c382, c383, c384, c385, c386, c387, c388, c389, c390, c391, c392, c393, c394, c395, c396, c397, c398, c399, c400, c401, c402, c403, c404, c405, c406, c407, c408, c409, c410, c411, c412, c413, c414], []⟩

/-- what stands behind the gathering of values -/
def LiveOkP (w w' wz : World) (q : Nat) (vs : Value) (a : Nat) (st : MSt) (vts : List Value) (g5 : Nat) (C5 : Array Value) (gp : Nat) (pr : List Nat) (gd : Nat) (D : List Bool) (S : List Nat) (vA : Value) (rows : List (List Bool)) (P : Nat) (b m : Nat) : Prop :=
  ∃ (F : List Nat) (l : List Int), MD w w' q vs F a { st with live := l } vts g5 C5 gp pr gd D ∧ Bes wz w' F kRowB 63 S vA rows ∧ AtHand (P : Int) st.blocks b l ∧ l.length ≤ m
set_option maxRecDepth 100000 in
set_option maxHeartbeats 12800000 in
theorem ph_block0 {w wz wj : World} {q P g5 gp gd b j a m : Nat} {vs : Value} {C5 : Array Value} {pr : List Nat} {F : List Nat} {st : MSt} {vts : List Value} {D : List Bool} {l : List Int} {S : List Nat} {vA : Value} {rows : List (List Bool)}
    (H0_ : RdS w [] vs) (hj : j < st.blocks.length) (h9 : st.blocks.length ≤ 9) (hw_ : j = b ∨ ¬ Rwo (ofF st.blocks) j b) (hp_ : st.blocks[j].phis.length ≤ 3) (HM_ : MD w wj q vs F a { st with live := l } vts g5 C5 gp pr gd D) (HB_ : Bes wz wj F kRowB 63 S vA rows) (HA_ : AtHand (P : Int) st.blocks b l) (Hl_ : l.length ≤ m) (hm : m ≤ 2000)
    (c0 c1 c2 c4 c5 c6 c7 c8 c9 c10 c11 c12 c13 c14 c15 c16 c17 c18 c21 c22 c23 c24 c25 c26 c27 c28 c29 c30 c31 c32 c33 c34 c35 c36 c37 c38 c39 c40 c41 c42 c43 c44 c45 c46 c47 c48 c49 c50 c51 c52 c53 c54 c55 c56 c57 c58 c59 c60 c61 c62 c63 c64 c65 c66 c67 c68 c69 c70 c71 c72 c73 c74 c75 c76 c77 c78 c79 c80 c81 c82 c83 c84 c85 c86 c87 c88 c89 c90 c91 c92 c93 c94 c95 c96 c97 c98 c99 c100 c101 c102 c103 c104 c105 c106 c107 c108 c109 c110 c111 c112 c113 c114 c115 c116 c117 c118 c119 c120 c121 c122 c123 c124 c125 c126 c127 c128 c129 c130 c131 c132 c133 c134 c135 c136 c137 c138 c139 c140 c141 c142 c143 c144 c145 c146 c147 c148 c149 c150 c151 c152 c153 c154 c155 c156 c157 c158 c159 c160 c161 c162 c163 c164 c165 c166 c167 c168 c169 c170 c171 c172 c173 c174 c175 c176 c177 c178 c179 c180 c181 c182 c183 c184 c185 c186 c187 c188 c189 c190 c191 c192 c193 c194 c195 c196 c197 c198 c199 c200 c201 c202 c203 c204 c205 c206 c207 c208 c209 c210 c211 c212 c213 c214 c215 c216 c217 c218 c219 c220 c221 c222 c223 c224 c225 c226 c227 c228 c229 c230 c231 c232 c233 c234 c235 c236 c237 c238 c239 c240 c241 c242 c243 c244 c245 c246 c247 c248 c249 c250 c251 c252 c253 c254 c255 c256 c257 c258 c259 c260 c261 c262 c263 c264 c265 c266 c267 c268 c269 c270 c271 c272 c273 c274 c275 c276 c277 c278 c279 c280 c281 c282 c283 c284 c285 c286 c287 c288 c289 c290 c291 c292 c293 c294 c295 c296 c297 c298 c299 c300 c301 c302 c303 c304 c305 c306 c307 c308 c309 c310 c311 c312 c313 c314 c315 c316 c317 c318 c319 c320 c321 c322 c323 c324 c325 c326 c327 c328 c329 c330 c331 c332 c333 c334 c335 c336 c337 c338 c339 c340 c341 c342 c343 c344 c345 c346 c347 c348 c349 c350 c351 c352 c353 c354 c355 c356 c357 c358 c359 c360 c361 c362 c363 c364 c365 c366 c367 c368 c369 c370 c371 c372 c373 c374 c375 c376 c377 c378 c379 c380 c381 c382 c383 c384 c385 c386 c387 c388 c389 c390 c391 c392 c393 c394 c395 c396 c397 c398 c399 c400 c401 c402 c403 c404 c405 c406 c407 c408 c409 c410 c411 c412 c413 c414 : Value) {Q : Exit → Act → World → Prop} (hexit : ∀ (a' : Act) (w' : World), a' = frPh c0 c1 c2 (.pointer (some ⟨q, 0, none⟩)) c4 c5 c6 c7 c8 c9 c10 c11 c12 c13 c14 c15 c16 c17 c18 (.int .i64 (j : Int)) c21 c22 c23 c24 c25 c26 c27 c28 c29 c30 c31 c32 c33 c34 c35 c36 c37 c38 c39 c40 c41 c42 c43 c44 c45 c46 c47 c48 c49 c50 c51 c52 c53 c54 c55 c56 c57 c58 c59 c60 c61 c62 c63 c64 c65 c66 c67 c68 c69 c70 c71 c72 c73 c74 c75 c76 c77 c78 c79 c80 c81 c82 c83 c84 c85 c86 c87 c88 c89 c90 c91 c92 c93 c94 c95 c96 c97 c98 c99 c100 c101 c102 c103 c104 c105 c106 c107 c108 c109 c110 c111 c112 c113 c114 c115 c116 c117 c118 c119 c120 c121 c122 c123 c124 c125 c126 c127 c128 c129 c130 c131 c132 c133 c134 c135 c136 c137 c138 c139 c140 c141 c142 c143 c144 c145 c146 c147 c148 c149 c150 c151 c152 c153 c154 c155 c156 c157 c158 c159 c160 c161 c162 c163 c164 c165 c166 c167 c168 c169 c170 c171 c172 c173 c174 c175 c176 c177 c178 c179 c180 c181 c182 c183 c184 c185 c186 c187 c188 c189 c190 c191 c192 c193 c194 c195 c196 c197 c198 c199 c200 c201 c202 c203 c204 c205 c206 c207 c208 c209 c210 c211 c212 c213 c214 c215 c216 c217 c218 c219 c220 c221 c222 c223 c224 c225 c226 c227 c228 c229 c230 c231 c232 c233 c234 c235 c236 c237 c238 c239 c240 c241 c242 c243 c244 c281 c282 c283 c284 c285 c286 c287 c288 c289 c290 c291 c292 c293 c294 c295 c296 c297 c298 c299 c300 c301 c302 c303 c304 c305 c306 c307 c308 c309 c310 c311 c312 c313 c314 c315 c316 c317 c318 c319 c320 c321 c322 c323 c324 c325 c326 c327 c328 c329 c330 c331 c332 c333 c334 c335 c336 c337 c338 c339 c340 c341 c342 c343 c344 c345 c346 c347 c348 c349 c350 c351 c352 c353 c354 c355 c356 c357 c358 c359 c360 c361 c362 c363 c364 c365 c366 c367 c368 c369 c370 c371 c372 c373 c374 c375 c376 c377 c378 c379 c380 c381 c382 c383 c384 c385 c386 c387 c388 c389 c390 c391 c392 c393 c394 c395 c396 c397 c398 c399 c400 c401 c402 c403 c404 c405 c406 c407 c408 c409 c410 c411 c412 c413 c414 (fun k => a'.tmps.toList.getD k undef) → LiveOkP w w' wz q vs a st vts g5 C5 gp pr gd D S vA rows P b (m + 3) → Q .normal a' w') :
    Code.wp Try.prog phCode Q ⟨#[c0, c1, c2, .pointer (some ⟨q, 0, none⟩), c4, c5, c6, c7, c8, c9, c10, c11, c12, c13, c14, c15, c16, c17, c18, .int .i64 (j : Int), .int .i64 0, c21, c22, c23, c24, c25, c26, c27, c28, c29, c30, c31, c32, c33, c34, c35, c36, c37, c38, c39, c40, c41, c42, c43, c44, c45, c46, c47, c48, c49, c50, c51, c52, c53, c54, c55, c56, c57, c58, c59, c60, c61, c62, c63, c64, c65, c66, c67, c68, c69, c70, c71, c72, c73, c74, c75, c76, c77, c78, c79, c80, c81, c82, c83, c84, c85, c86, c87, c88, c89, c90, c91, c92, c93, c94, c95, c96, c97, c98, c99, c100, c101, c102, c103, c104, c105, c106, c107, c108, c109, c110, c111, c112, c113, c114, c115, c116, c117, c118, c119, c120, c121, c122, c123, c124, c125, c126, c127, c128, c129, c130, c131, c132, c133, c134, c135, c136, c137, c138, c139, c140, c141, c142, c143, c144, c145, c146, c147, c148, c149, c150, c151, c152, c153, c154, c155, c156, c157, c158, c159, c160, c161, c162, c163, c164, c165, c166, c167, c168, c169, c170, c171, c172, c173, c174, c175, c176, c177, c178, c179, c180, c181, c182, c183, c184, c185, c186, c187, c188, c189, c190, c191, c192, c193, c194, c195, c196, c197, c198, c199, c200, c201, c202, c203, c204, c205, c206, c207, c208, c209, c210, c211, c212, c213, c214, c215, c216, c217, c218, c219, c220, c221, c222, c223, c224, c225, c226, c227, c228, c229, c230, c231, c232, c233, c234, c235, c236, c237, c238, c239, c240, c241, c242, c243, c244, c245, c246, c247, c248, c249, c250, c251, c252, c253, c254, c255, c256, c257, c258, c259, c260, c261, c262, c263, c264, c265, c266, c267, c268, c269, c270, c271, c272, c273, c274, c275, c276, c277, c278, c279, c280, c281, c282, c283, c284, c285, c286, c287, c288, c289, c290, c291, c292, c293, c294, c295, c296, c297, c298, c299, c300, c301, c302, c303, c304, c305, c306, c307, c308, c309, c310, c311, c312, c313, c314, c315, c316, c317, c318, c319, c320, c321, c322, c323, c324, c325, c326, c327, c328, c329, c330, c331, c332, c333, c334, c335, c336, c337, c338, c339, c340, c341, c342, c343, c344, c345, c346, c347, c348, c349, c350, c351, c352, c353, c354, c355, c356, c357, c358, c359, c360, c361, c362, c363, c364, c365, c366, c367, c368, c369, c370, c371, c372, c373, c374, c375, c376, c377, c378, c379, c380, c381, c382, c383, c384, c385, c386, c387, c388, c389, c390, c391, c392, c393, c394, c395, c396, c397, c398, c399, c400, c401, c402, c403, c404, c405, c406, c407, c408, c409, c410, c411, c412, c413, c414], []⟩ wj := by
  have H0 := Lib.hid H0_
  have Hw := Lib.hid hw_
  have Hp := Lib.hid hp_
  have HM := Lib.hid HM_
  have HB := Lib.hid HB_
  have HA := Lib.hid HA_
  have Hl := Lib.hid Hl_
  have Hexit := Lib.hid hexit
  obtain ⟨np, hnp⟩ : ∃ np, np = st.blocks[j].phis.length := ⟨_, rfl⟩
  have hn3 : np ≤ 3 := by omega
  have Hnp := Lib.hid hnp
  obtain ⟨n, hn⟩ : ∃ n, n = st.blocks.length := ⟨_, rfl⟩
  have hjn : j < n := by omega
  have Hn := Lib.hid hn
  clear hexit H0_ hw_ hp_ HM_ HB_ HA_ Hl_ hnp hn
  conv => arg 2; whnf
  go_wp2
  go_loopg [20] np (fun r v20 wx => ∃ (k : Nat) (F : List Nat) (l : List Int), v20 = .int .i64 (k : Int) ∧ k ≤ np ∧ Hid (k + r = np) ∧ Hid (MD w wx q vs F a { st with live := l } vts g5 C5 gp pr gd D) ∧ Hid (Bes wz wx F kRowB 63 S vA rows) ∧ Hid (AtHand (P : Int) st.blocks b l) ∧ Hid (l.length ≤ m + k))
  case atStart => exact ⟨0, F, l, rfl, by omega, by simp [Hid], HM, HB, HA, Hl⟩
  case round =>
    clear HM HB HA Hl
    obtain ⟨k, F, l, rfl, hk, HK, HM, HB, HA, Hl⟩ := hrel
    obtain ⟨g, cap, vp, vi, va, vt, Sp, Si, Sa, St, k3, -, O, -, -, vl, Sl, y5, hlv, hqSl, hgSl, hinSl⟩ := HM.out.mb.mi.opens H0.out j hj
    simp only [← Hn.out] at k3
    obtain ⟨Ap, cp, hvp, -⟩ := O.cells.p.shape
    simp only [← Hnp.out] at hvp
    subst hvp
    have kc := O.c0
    obtain ⟨gl, cl, hvl, -⟩ := hlv.shape
    simp only at hvl
    subst hvl
    by_cases hlt : k < np
    · skip
      -- [[more
      obtain ⟨gph, cph, Sk, cs, hv, hat⟩ := O.cells.p.at k (by simp only [← Hnp.out]; exact hlt)
      simp only [← Hnp.out] at hv
      cases hv
      have hrepk : kPhi.rep wr Sk (st.blocks[j].phis[k]'(by simp only [← Hnp.out]; exact hlt)) cs := hat.rep
      obtain ⟨vI, rfl, -⟩ := hrepk
      have kd := hat.cell 0 rfl
      simp only [kPhi, Nat.add_zero] at kd
      obtain ⟨d, hd⟩ : ∃ d, d = (st.blocks[j].phis[k]'(by simp only [← Hnp.out]; exact hlt)).dst := ⟨_, rfl⟩
      rw [← hd] at kd
      have HAd : Hid (AtHand (P : Int) st.blocks b (l ++ [d])) := by
        rw [hd]; exact HA.out.add hj Hw.out (phi_vals (by simp only [← Hnp.out]; exact hlt))
      have hm2 := hat.mem
      have hgphSl : gph ∉ Sl := hinSl gph (by simp [hm2.1])
      have Hlv := Lib.hid hlv
      have HO := Lib.hid O
      have hC0 : wr.drew.cell? ⟨q, 5, none⟩ = some (.slice gl l.length cl) ∧ wr.drew.cell? ⟨q, 3, none⟩ = some (.slice (some ⟨g, 0, none⟩) n cap) ∧ wr.drew.cell? ⟨g, j * 6, none⟩ = some (.slice (some ⟨gph, 0, none⟩) np cp) ∧ wr.drew.cell? ⟨gph, k * 2, none⟩ = some (.int .i64 d) := ⟨y5, k3, kc, kd⟩
      clear hat hd O hlv hinSl hm2
      go_wp2
      have hl2 := Hl.out
      have hmd := Lib.hid (HM.out.ext0 ((Ext.refl [] wr).drew))
      obtain ⟨w1, hw1⟩ : ∃ z, z = wr.drew.alloc (.cells #[.int .i64 d] 3) := ⟨_, rfl⟩
      have hx1 : Ext [] wr.drew w1 := by rw [hw1]; exact (Ext.refl _ _).alloc _
      have hsrc : Src w1 (.slice (some ⟨wr.heap.size, 0, none⟩) 1 1) 1 [.int .i64 d] := by rw [hw1]; simpa using Src.blk (w := wr.drew) (cs := [.int .i64 d]) (T := 3) 1
      obtain ⟨A', n', c', w2, hrun, d5, df, hE, F', m2, hF2⟩ := live_app hmd.out.mb.mi hx1 hC0.1 [d] hsrc (by simp; omega)
      have hEx := hE Sl (Hlv.out.ext0 ((Ext.refl _ _).drew))
      have hC1 : w1.cell? ⟨q, 5, none⟩ = some (.slice gl l.length cl) ∧ w1.cell? ⟨q, 3, none⟩ = some (.slice (some ⟨g, 0, none⟩) n cap) ∧ w1.cell? ⟨g, j * 6, none⟩ = some (.slice (some ⟨gph, 0, none⟩) np cp) ∧ w1.cell? ⟨gph, k * 2, none⟩ = some (.int .i64 d) := ⟨hx1.cell hC0.1 (by simp), hx1.cell hC0.2.1 (by simp), hx1.cell hC0.2.2.1 (by simp), hx1.cell hC0.2.2.2 (by simp)⟩
      have hC2 : w2.cell? ⟨q, 5, none⟩ = some (.slice gl l.length cl) ∧ w2.cell? ⟨q, 3, none⟩ = some (.slice (some ⟨g, 0, none⟩) n cap) ∧ w2.cell? ⟨g, j * 6, none⟩ = some (.slice (some ⟨gph, 0, none⟩) np cp) ∧ w2.cell? ⟨gph, k * 2, none⟩ = some (.int .i64 d) := ⟨d5, hEx.cell hC1.2.1 hqSl, hEx.cell hC1.2.2.1 hgSl, hEx.cell hC1.2.2.2 hgphSl⟩
      have HM2 := Lib.hid (hmd.out.step m2 hF2)
      have HB2 := Lib.hid ((HB.out.ext0 ((Ext.refl [] wr).drew)).step hF2)
      have Hw1 := Lib.hid hw1
      clear hE hEx m2 hF2 hsrc hx1 hmd HM HB hl2 hw1
      refine wp_region_rt (fun W => W.cell? ⟨q, 5, none⟩ = some (.slice gl l.length cl) ∧ W.cell? ⟨q, 3, none⟩ = some (.slice (some ⟨g, 0, none⟩) n cap) ∧ W.cell? ⟨g, j * 6, none⟩ = some (.slice (some ⟨gph, 0, none⟩) np cp) ∧ W.cell? ⟨gph, k * 2, none⟩ = some (.int .i64 d))
        (.q 0 (.q 1 (.q 2 (.q 3 (.q 4 (.q 5 (.q 6 (.q 7 (.q 8 (.q 9 (.q 10 (.q 11 (.q 12 (.q 13 (.q 14 (.q 15 (.q 16 (.q 17 (.e 18 (.e 19 (.q 20 (.q 21 (.fin 22))))))))))))))))))))))) (by kernel_rfl) (by kernel_rfl) hC0 ?_
      repeat (refine rt_quiet _ rfl rfl (fun W' hC => by conv => lhs; simp [go_sem, hC.1, hC.2.1, hC.2.2.1, hC.2.2.2, hjn, hlt]) ?_; simp only [put_lit, put_none, List.set_cons_succ, List.set_cons_zero])
      refine s_eff (.slice (some ⟨wr.heap.size, 0, none⟩) 1 1) (w' := w1) rfl rfl (by rw [Hw1.out]; simp [go_sem]) ⟨hC1, ?_⟩
      simp only [put_lit, put_none, List.set_cons_succ, List.set_cons_zero]
      refine s_eff (.slice A' n' c') (w' := w2) rfl rfl (exec_append rfl rfl rfl hrun) ⟨hC2, ?_⟩
      simp only [put_lit, put_none, List.set_cons_succ, List.set_cons_zero]
      repeat (refine rt_quiet _ rfl rfl (fun W' hC => by conv => lhs; simp [go_sem]) ?_; simp only [put_lit, put_none, List.set_cons_succ, List.set_cons_zero])
      refine fin_eff0 (w' := w2.setCell ⟨q, 5, none⟩ (.slice A' n' c')) rfl rfl (by simp [go_sem, d5, df]) ?_
      simp only [put_lit, put_none, List.set_cons_succ, List.set_cons_zero]
      clear hC0 hC1 hC2 hrun d5 df y5 k3 kc kd
      go_wp2
      go_roundg (gk - 1)
      case measure => have := HK.out; omega
      case rel => exact ⟨k + 1, F', l ++ [d], by go_num, by omega, by have := HK.out; simp only [Hid]; omega, HM2, HB2, HAd, by have := Hl.out; simp [Hid]; omega⟩
      -- more]]
    · go_wp2
      refine Hexit.out _ _ rfl ⟨F, l, HM.out, HB.out, HA.out, by have := Hl.out; omega⟩
end Go.Proofs.Ytkmgbejhbkbaoaa

/- The maker of functions: in one block's turn, what the instructions make is at hand. -/
namespace Go.Proofs.Ytkmgbejhbkbaoaa
set_option linter.unusedSimpArgs false
set_option linter.unusedVariables false
open Go.RowKit

noncomputable def inCode : Code := (Try.f8.body.bind (findBlock 20)).getD .skip
set_option maxRecDepth 100000 in
def frIn (c0 c1 c2 c3 c4 c5 c6 c7 c8 c9 c10 c11 c12 c13 c14 c15 c16 c17 c18 c19 c20 c23 c24 c25 c26 c27 c28 c29 c30 c31 c32 c33 c34 c35 c36 c37 c38 c39 c40 c41 c42 c43 c44 c45 c46 c47 c48 c49 c50 c51 c52 c53 c54 c55 c56 c57 c58 c59 c60 c61 c62 c63 c64 c65 c66 c67 c68 c69 c70 c71 c72 c73 c74 c75 c76 c77 c78 c79 c80 c81 c82 c83 c84 c85 c86 c87 c88 c89 c90 c91 c92 c93 c94 c95 c96 c97 c98 c99 c100 c101 c102 c103 c104 c105 c106 c107 c108 c109 c110 c111 c112 c113 c114 c115 c116 c117 c118 c119 c120 c121 c122 c123 c124 c125 c126 c127 c128 c129 c130 c131 c132 c133 c134 c135 c136 c137 c138 c139 c140 c141 c142 c143 c144 c145 c146 c147 c148 c149 c150 c151 c152 c153 c154 c155 c156 c157 c158 c159 c160 c161 c162 c163 c164 c165 c166 c167 c168 c169 c170 c171 c172 c173 c174 c175 c176 c177 c178 c179 c180 c181 c182 c183 c184 c185 c186 c187 c188 c189 c190 c191 c192 c193 c194 c195 c196 c197 c198 c199 c200 c201 c202 c203 c204 c205 c206 c207 c208 c209 c210 c211 c212 c213 c214 c215 c216 c217 c218 c219 c220 c221 c222 c223 c224 c225 c226 c227 c228 c229 c230 c231 c232 c233 c234 c235 c236 c237 c238 c239 c240 c241 c242 c243 c244 c245 c246 c247 c248 c249 c250 c251 c252 c253 c254 c255 c256 c257 c258 c259 c260 c261 c262 c263 c264 c265 c266 c267 c268 c269 c270 c271 c272 c273 c274 c275 c276 c277 c278 c279 c280 c317 c318 c319 c320 c321 c322 c323 c324 c325 c326 c327 c328 c329 c330 c331 c332 c333 c334 c335 c336 c337 c338 c339 c340 c341 c342 c343 c344 c345 c346 c347 c348 c349 c350 c351 c352 c353 c354 c355 c356 c357 c358 c359 c360 c361 c362 c363 c364 c365 c366 c367 c368 c369 c370 c371 c372 c373 c374 c375 c376 c377 c378 c379 c380 c381 c382 c383 c384 c385 c386 c387 c388 c389 c390 c391 c392 c393 c394 c395 c396 c397 c398 c399 c400 c401 c402 c403 c404 c405 c406 c407 c408 c409 c410 c411 c412 c413 c414 : Value) (u : Nat → Value) : Act := ⟨#[c0, c1, c2, c3, c4, c5, c6, c7, c8, c9, c10, c11, c12, c13, c14, c15, c16, c17, c18, c19, c20, u 21, u 22, c23, c24, c25, c26, c27, c28, c29, c30, c31, c32, c33, c34, c35, c36, c37, c38, c39, c40, c41, c42, c43, c44, c45, c46, c47, c48, c49, c50, c51, c52, c53, c54, c55, c56, c57, c58, c59, c60, c61, c62, c63, c64, c65, c66, c67, c68, c69, c70, c71, c72, c73, c74, c75, c76, c77, c78, c79, c80, c81, c82, c83, c84, c85, c86, c87, c88, c89, c90, c91, c92, c93, c94, c95, c96, c97, c98, c99, c100, c101, c102, c103, c104, c105, c106, c107, c108, c109, c110, c111, c112, c113, c114, c115, c116, c117, c118, c119, c120, c121, c122, c123, c124, c125, c126, c127, c128, c129, c130, c131, c132, c133, c134, c135, c136, c137, c138, c139, c140, c141, c142, c143, c144, c145, c146, c147, c148, c149, c150, c151, c152, c153, c154, c155, c156, c157, c158, c159, c160, c161, c162, c163, c164, c165, c166, c167, c168, c169, c170, c171, c172, c173, c174, c175, c176, c177, c178, c179, c180, c181, c182, c183, c184, c185, c186, c187, c188, c189, c190, c191, c192, c193, c194, c195, c196, c197, c198, c199, c200, c201, c202, c203, c204, c205, c206, c207, c208, c209, c210, c211, c212, c213, c214, c215, c216, c217, c218, c219, c220, c221, c222, c223, c224, c225, c226, c227, c228, c229, c230, c231, c232, c233, c234, c235, c236, c237, c238, c239, c240, c241, c242, c243, c244, c245, c246, c247, c248, c249, c250, c251, c252, c253, c254, c255, c256, c257, c258, c259, c260, c261, c262, c263, c264, c265, c266, c267, c268, c269, c270, c271, c272, c273, c274, c275, c276, c277, c278, c279, c280, u 281, u 282, u 283, u 284, u 285, u 286, u 287, u 288, u 289, u 290, u 291, u 292, u 293, u 294, u 295, u 296, u 297, u 298, u 299, u 300, u 301, u 302, u 303, u 304, u 305, u 306, u 307, u 308, u 309, u 310, u 311, u 312, u 313, u 314, u 315, u 316, c317, c318, c319, c320, c321, c322, c323, c324, c325, c326, c327, c328, c329, c330, c331, c332, c333, c334, c335, c336, c337, c338, c339, c340, c341, c342, c343, c344, c345, c346, c347, c348, c349, c350, c351, c352, c353, c354, c355, c356, c357, c358, c359, c360, c361, c362, c363, c364, c365, c366, c367, c368, c369, c370, c371, c372, c373, c374, c375, c376, c377, c378, c379, c380, c381, c382, c383, c384, c385, c386, c387, c388, c389, c390, c391, c392, c393, c394, c395, c396, c397, c398, c399, c400, c401, c402, c403, c404, c405, c406, c407, c408, c409, c410, c411, c412, c413, c414], []⟩

set_option maxRecDepth 100000 in
set_option maxHeartbeats 12800000 in
theorem in_block0 {w wz wj : World} {q P g5 gp gd b j a m : Nat} {vs : Value} {C5 : Array Value} {pr : List Nat} {F : List Nat} {st : MSt} {vts : List Value} {D : List Bool} {l : List Int} {S : List Nat} {vA : Value} {rows : List (List Bool)}
    (H0_ : RdS w [] vs) (hj : j < st.blocks.length) (h9 : st.blocks.length ≤ 9) (hw_ : j = b ∨ ¬ Rwo (ofF st.blocks) j b) (hp_ : st.blocks[j].ins.length ≤ 57) (HM_ : MD w wj q vs F a { st with live := l } vts g5 C5 gp pr gd D) (HB_ : Bes wz wj F kRowB 63 S vA rows) (HA_ : AtHand (P : Int) st.blocks b l) (Hl_ : l.length ≤ m) (hm : m ≤ 2000)
    (c0 c1 c2 c4 c5 c6 c7 c8 c9 c10 c11 c12 c13 c14 c15 c16 c17 c18 c20 c22 c23 c24 c25 c26 c27 c28 c29 c30 c31 c32 c33 c34 c35 c36 c37 c38 c39 c40 c41 c42 c43 c44 c45 c46 c47 c48 c49 c50 c51 c52 c53 c54 c55 c56 c57 c58 c59 c60 c61 c62 c63 c64 c65 c66 c67 c68 c69 c70 c71 c72 c73 c74 c75 c76 c77 c78 c79 c80 c81 c82 c83 c84 c85 c86 c87 c88 c89 c90 c91 c92 c93 c94 c95 c96 c97 c98 c99 c100 c101 c102 c103 c104 c105 c106 c107 c108 c109 c110 c111 c112 c113 c114 c115 c116 c117 c118 c119 c120 c121 c122 c123 c124 c125 c126 c127 c128 c129 c130 c131 c132 c133 c134 c135 c136 c137 c138 c139 c140 c141 c142 c143 c144 c145 c146 c147 c148 c149 c150 c151 c152 c153 c154 c155 c156 c157 c158 c159 c160 c161 c162 c163 c164 c165 c166 c167 c168 c169 c170 c171 c172 c173 c174 c175 c176 c177 c178 c179 c180 c181 c182 c183 c184 c185 c186 c187 c188 c189 c190 c191 c192 c193 c194 c195 c196 c197 c198 c199 c200 c201 c202 c203 c204 c205 c206 c207 c208 c209 c210 c211 c212 c213 c214 c215 c216 c217 c218 c219 c220 c221 c222 c223 c224 c225 c226 c227 c228 c229 c230 c231 c232 c233 c234 c235 c236 c237 c238 c239 c240 c241 c242 c243 c244 c245 c246 c247 c248 c249 c250 c251 c252 c253 c254 c255 c256 c257 c258 c259 c260 c261 c262 c263 c264 c265 c266 c267 c268 c269 c270 c271 c272 c273 c274 c275 c276 c277 c278 c279 c280 c281 c282 c283 c284 c285 c286 c287 c288 c289 c290 c291 c292 c293 c294 c295 c296 c297 c298 c299 c300 c301 c302 c303 c304 c305 c306 c307 c308 c309 c310 c311 c312 c313 c314 c315 c316 c317 c318 c319 c320 c321 c322 c323 c324 c325 c326 c327 c328 c329 c330 c331 c332 c333 c334 c335 c336 c337 c338 c339 c340 c341 c342 c343 c344 c345 c346 c347 c348 c349 c350 c351 c352 c353 c354 c355 c356 c357 c358 c359 c360 c361 c362 c363 c364 c365 c366 c367 c368 c369 c370 c371 c372 c373 c374 c375 c376 c377 c378 c379 c380 c381 c382 c383 c384 c385 c386 c387 c388 c389 c390 c391 c392 c393 c394 c395 c396 c397 c398 c399 c400 c401 c402 c403 c404 c405 c406 c407 c408 c409 c410 c411 c412 c413 c414 : Value) {Q : Exit → Act → World → Prop} (hexit : ∀ (a' : Act) (w' : World), a' = frIn c0 c1 c2 (.pointer (some ⟨q, 0, none⟩)) c4 c5 c6 c7 c8 c9 c10 c11 c12 c13 c14 c15 c16 c17 c18 (.int .i64 (j : Int)) c20 c23 c24 c25 c26 c27 c28 c29 c30 c31 c32 c33 c34 c35 c36 c37 c38 c39 c40 c41 c42 c43 c44 c45 c46 c47 c48 c49 c50 c51 c52 c53 c54 c55 c56 c57 c58 c59 c60 c61 c62 c63 c64 c65 c66 c67 c68 c69 c70 c71 c72 c73 c74 c75 c76 c77 c78 c79 c80 c81 c82 c83 c84 c85 c86 c87 c88 c89 c90 c91 c92 c93 c94 c95 c96 c97 c98 c99 c100 c101 c102 c103 c104 c105 c106 c107 c108 c109 c110 c111 c112 c113 c114 c115 c116 c117 c118 c119 c120 c121 c122 c123 c124 c125 c126 c127 c128 c129 c130 c131 c132 c133 c134 c135 c136 c137 c138 c139 c140 c141 c142 c143 c144 c145 c146 c147 c148 c149 c150 c151 c152 c153 c154 c155 c156 c157 c158 c159 c160 c161 c162 c163 c164 c165 c166 c167 c168 c169 c170 c171 c172 c173 c174 c175 c176 c177 c178 c179 c180 c181 c182 c183 c184 c185 c186 c187 c188 c189 c190 c191 c192 c193 c194 c195 c196 c197 c198 c199 c200 c201 c202 c203 c204 c205 c206 c207 c208 c209 c210 c211 c212 c213 c214 c215 c216 c217 c218 c219 c220 c221 c222 c223 c224 c225 c226 c227 c228 c229 c230 c231 c232 c233 c234 c235 c236 c237 c238 c239 c240 c241 c242 c243 c244 c245 c246 c247 c248 c249 c250 c251 c252 c253 c254 c255 c256 c257 c258 c259 c260 c261 c262 c263 c264 c265 c266 c267 c268 c269 c270 c271 c272 c273 c274 c275 c276 c277 c278 c279 c280 c317 c318 c319 c320 c321 c322 c323 c324 c325 c326 c327 c328 c329 c330 c331 c332 c333 c334 c335 c336 c337 c338 c339 c340 c341 c342 c343 c344 c345 c346 c347 c348 c349 c350 c351 c352 c353 c354 c355 c356 c357 c358 c359 c360 c361 c362 c363 c364 c365 c366 c367 c368 c369 c370 c371 c372 c373 c374 c375 c376 c377 c378 c379 c380 c381 c382 c383 c384 c385 c386 c387 c388 c389 c390 c391 c392 c393 c394 c395 c396 c397 c398 c399 c400 c401 c402 c403 c404 c405 c406 c407 c408 c409 c410 c411 c412 c413 c414 (fun k => a'.tmps.toList.getD k undef) → LiveOkP w w' wz q vs a st vts g5 C5 gp pr gd D S vA rows P b (m + 114) → Q .normal a' w') :
    Code.wp Try.prog inCode Q ⟨#[c0, c1, c2, .pointer (some ⟨q, 0, none⟩), c4, c5, c6, c7, c8, c9, c10, c11, c12, c13, c14, c15, c16, c17, c18, .int .i64 (j : Int), c20, .int .i64 0, c22, c23, c24, c25, c26, c27, c28, c29, c30, c31, c32, c33, c34, c35, c36, c37, c38, c39, c40, c41, c42, c43, c44, c45, c46, c47, c48, c49, c50, c51, c52, c53, c54, c55, c56, c57, c58, c59, c60, c61, c62, c63, c64, c65, c66, c67, c68, c69, c70, c71, c72, c73, c74, c75, c76, c77, c78, c79, c80, c81, c82, c83, c84, c85, c86, c87, c88, c89, c90, c91, c92, c93, c94, c95, c96, c97, c98, c99, c100, c101, c102, c103, c104, c105, c106, c107, c108, c109, c110, c111, c112, c113, c114, c115, c116, c117, c118, c119, c120, c121, c122, c123, c124, c125, c126, c127, c128, c129, c130, c131, c132, c133, c134, c135, c136, c137, c138, c139, c140, c141, c142, c143, c144, c145, c146, c147, c148, c149, c150, c151, c152, c153, c154, c155, c156, c157, c158, c159, c160, c161, c162, c163, c164, c165, c166, c167, c168, c169, c170, c171, c172, c173, c174, c175, c176, c177, c178, c179, c180, c181, c182, c183, c184, c185, c186, c187, c188, c189, c190, c191, c192, c193, c194, c195, c196, c197, c198, c199, c200, c201, c202, c203, c204, c205, c206, c207, c208, c209, c210, c211, c212, c213, c214, c215, c216, c217, c218, c219, c220, c221, c222, c223, c224, c225, c226, c227, c228, c229, c230, c231, c232, c233, c234, c235, c236, c237, c238, c239, c240, c241, c242, c243, c244, c245, c246, c247, c248, c249, c250, c251, c252, c253, c254, c255, c256, c257, c258, c259, c260, c261, c262, c263, c264, c265, c266, c267, c268, c269, c270, c271, c272, c273, c274, c275, c276, c277, c278, c279, c280, c281, c282, c283, c284, c285, c286, c287, c288, c289, c290, c291, c292, c293, c294, c295, c296, c297, c298, c299, c300, c301, c302, c303, c304, c305, c306, c307, c308, c309, c310, c311, c312, c313, c314, c315, c316, c317, c318, c319, c320, c321, c322, c323, c324, c325, c326, c327, c328, c329, c330, c331, c332, c333, c334, c335, c336, c337, c338, c339, c340, c341, c342, c343, c344, c345, c346, c347, c348, c349, c350, c351, c352, c353, c354, c355, c356, c357, c358, c359, c360, c361, c362, c363, c364, c365, c366, c367, c368, c369, c370, c371, c372, c373, c374, c375, c376, c377, c378, c379, c380, c381, c382, c383, c384, c385, c386, c387, c388, c389, c390, c391, c392, c393, c394, c395, c396, c397, c398, c399, c400, c401, c402, c403, c404, c405, c406, c407, c408, c409, c410, c411, c412, c413, c414], []⟩ wj := by
  have H0 := Lib.hid H0_
  have Hw := Lib.hid hw_
  have Hp := Lib.hid hp_
  have HM := Lib.hid HM_
  have HB := Lib.hid HB_
  have HA := Lib.hid HA_
  have Hl := Lib.hid Hl_
  have Hexit := Lib.hid hexit
  obtain ⟨ni, hni⟩ : ∃ ni, ni = st.blocks[j].ins.length := ⟨_, rfl⟩
  have hn3 : ni ≤ 57 := by omega
  have Hni := Lib.hid hni
  obtain ⟨n, hn⟩ : ∃ n, n = st.blocks.length := ⟨_, rfl⟩
  have hjn : j < n := by omega
  have Hn := Lib.hid hn
  clear hexit H0_ hw_ hp_ HM_ HB_ HA_ Hl_ hni hn
  conv => arg 2; whnf
  go_wp2
  go_loopg [21] ni (fun r v21 wx => ∃ (k : Nat) (F : List Nat) (l : List Int), v21 = .int .i64 (k : Int) ∧ k ≤ ni ∧ Hid (k + r = ni) ∧ Hid (MD w wx q vs F a { st with live := l } vts g5 C5 gp pr gd D) ∧ Hid (Bes wz wx F kRowB 63 S vA rows) ∧ Hid (AtHand (P : Int) st.blocks b l) ∧ Hid (l.length ≤ m + 2 * k))
  case atStart => exact ⟨0, F, l, rfl, by omega, by simp [Hid], HM, HB, HA, Hl⟩
  case round =>
    clear HM HB HA Hl
    obtain ⟨k, F, l, rfl, hk, HK, HM, HB, HA, Hl⟩ := hrel
    obtain ⟨g, cap, vp, vi, va, vt, Sp, Si, Sa, St, k3, -, O, -, -, -⟩ := HM.out.mb.mi.opens H0.out j hj
    simp only [← Hn.out] at k3
    obtain ⟨Ai, ci, hvi, -⟩ := O.cells.i.shape
    simp only [← Hni.out] at hvi
    subst hvi
    have kc := O.c1
    by_cases hlt : k < ni
    · skip
      -- [[more
      obtain ⟨gi, cpi, Sk, cs, hv, hat⟩ := O.cells.i.at k (by simp only [← Hni.out]; exact hlt)
      simp only [← Hni.out] at hv
      cases hv
      obtain ⟨x, hx⟩ : ∃ x, x = (st.blocks[j].ins[k]'(by simp only [← Hni.out]; exact hlt)) := ⟨_, rfl⟩
      have hrepk : kIns.rep wr Sk x cs := by rw [hx]; exact hat.rep
      have HAd : Hid (AtHand (P : Int) st.blocks b (l ++ makesF x)) := by
        rw [hx]; exact HA.out.add hj Hw.out (ins_vals (by simp only [← Hni.out]; exact hlt))
      obtain ⟨vI, rfl, hI⟩ := hrepk
      obtain ⟨AI, cI, rfl, -⟩ := hI.shape
      have e0 := hat.cell 0 rfl
      have e1 := hat.cell 1 rfl
      have e2 := hat.cell 2 rfl
      have e3 := hat.cell 3 rfl
      have e4 := hat.cell 4 rfl
      simp only [kIns, Nat.add_zero] at e0 e1 e2 e3 e4
      have HI := Lib.hid hI
      clear hat hx O hI
      go_wp2_with fail
      refine (makes3_calls (x := x) (S := Sk) (cs := [.int .i64 x.op, .int .i64 x.dst, .int .i64 x.two, .slice AI x.args.length cI, .int .i32 x.imm]) ⟨_, rfl, HI.out⟩).mono ?_
      rintro e w1 ⟨v1, S1, rfl, hm1, hnew1⟩
      obtain ⟨A1, c1, hv1, -⟩ := hm1.shape
      have HM1 := Lib.hid (HM.out.ext0 hnew1.ext)
      have HB1 := Lib.hid (HB.out.ext0 hnew1.ext)
      obtain ⟨-, -, -, -, ⟨g50, c50, y5⟩⟩ := HM1.out.mb.mi.m.cells
      simp only at y5
      have hl2 := Hl.out
      have hml := makesF_len x
      obtain ⟨news, Sy, hE, hnl, -, hsrc, -, -⟩ := hm1.src (by simp [kInt, kSc])
      have hnews : news = (makesF x).map (Value.int .i64) := by
        have h1 := (elems_sc.1 hE).2
        rw [List.take_of_length_le (by simpa [kInt, kSc] using Nat.le_of_eq hnl)] at h1
        exact h1
      rw [hnews] at hsrc
      obtain ⟨A', n', c', w2, hrun, d5, df, -, F', m2, hF2⟩ := live_app HM1.out.mb.mi (Ext.refl _ _) y5 (makesF x) hsrc (by simp only; omega)
      have HM2 := Lib.hid (HM1.out.step m2 hF2)
      have HB2 := Lib.hid (HB1.out.step hF2)
      have Hl9 : Hid ((l ++ makesF x).length ≤ m + 2 * (k + 1)) := by simp [Hid]; omega
      subst hv1
      clear m2 hF2 hsrc hE hnl hnews HM HB HM1 HB1 hl2 hml hm1 hnew1 e0 e1 e2 e3 e4 kc k3
      go_wp2_with (at_builtin; refine wpList_append_eq rfl (.tmp 312) (.tmp 313) 22 rfl rfl rfl hrun ?_)
      go_roundg (gk - 1)
      case measure => have := HK.out; omega
      case rel => exact ⟨k + 1, F', l ++ makesF x, by go_num, by omega, by have := HK.out; simp only [Hid]; omega, HM2, HB2, HAd, Hl9⟩
      -- more]]
    · go_wp2
      refine Hexit.out _ _ rfl ⟨F, l, HM.out, HB.out, HA.out, by have := Hl.out; omega⟩
end Go.Proofs.Ytkmgbejhbkbaoaa

/- The maker of functions: one block's turn in Made. -/
namespace Go.Proofs.Ytkmgbejhbkbaoaa
set_option linter.unusedSimpArgs false
set_option linter.unusedVariables false
open Go.RowKit

noncomputable def turnCode : Code := (Try.f8.body.bind (findBlock 9)).getD .skip
set_option maxRecDepth 100000 in
def frT (c0 c1 c2 c3 c4 c5 c6 c7 c8 c9 c10 c11 c12 c13 c25 c26 c27 c28 c29 c30 c31 c32 c33 c34 c35 c36 c37 c38 c39 c40 c41 c42 c43 c44 c45 c46 c47 c48 c49 c50 c51 c52 c53 c54 c55 c56 c57 c58 c59 c60 c61 c62 c63 c64 c65 c66 c67 c68 c69 c70 c71 c72 c73 c74 c75 c76 c77 c78 c79 c80 c81 c82 c83 c84 c85 c86 c87 c88 c89 c90 c91 c92 c93 c94 c95 c96 c97 c98 c99 c100 c101 c102 c103 c104 c105 c106 c107 c108 c109 c110 c111 c112 c113 c114 c115 c116 c117 c118 c119 c120 c121 c122 c123 c124 c125 c126 c127 c128 c129 c130 c131 c132 c133 c134 c135 c136 c137 c138 c139 c140 c141 c142 c143 c144 c145 c146 c334 c335 c336 c337 c338 c339 c340 c341 c342 c343 c344 c345 c346 c347 c348 c349 c350 c351 c352 c353 c354 c355 c356 c357 c358 c359 c360 c361 c362 c363 c364 c365 c366 c367 c368 c369 c370 c371 c372 c373 c374 c375 c376 c377 c378 c379 c380 c381 c382 c383 c384 c385 c386 c387 c388 c389 c390 c391 c392 c393 c394 c395 c396 c397 c398 c399 c400 c401 c402 c403 c404 c405 c406 c407 c408 c409 c410 c411 c412 c413 c414 : Value) (u : Nat → Value) : Act := ⟨#[c0, c1, c2, c3, c4, c5, c6, c7, c8, c9, c10, c11, c12, c13, u 14, u 15, u 16, u 17, u 18, u 19, u 20, u 21, u 22, u 23, u 24, c25, c26, c27, c28, c29, c30, c31, c32, c33, c34, c35, c36, c37, c38, c39, c40, c41, c42, c43, c44, c45, c46, c47, c48, c49, c50, c51, c52, c53, c54, c55, c56, c57, c58, c59, c60, c61, c62, c63, c64, c65, c66, c67, c68, c69, c70, c71, c72, c73, c74, c75, c76, c77, c78, c79, c80, c81, c82, c83, c84, c85, c86, c87, c88, c89, c90, c91, c92, c93, c94, c95, c96, c97, c98, c99, c100, c101, c102, c103, c104, c105, c106, c107, c108, c109, c110, c111, c112, c113, c114, c115, c116, c117, c118, c119, c120, c121, c122, c123, c124, c125, c126, c127, c128, c129, c130, c131, c132, c133, c134, c135, c136, c137, c138, c139, c140, c141, c142, c143, c144, c145, c146, u 147, u 148, u 149, u 150, u 151, u 152, u 153, u 154, u 155, u 156, u 157, u 158, u 159, u 160, u 161, u 162, u 163, u 164, u 165, u 166, u 167, u 168, u 169, u 170, u 171, u 172, u 173, u 174, u 175, u 176, u 177, u 178, u 179, u 180, u 181, u 182, u 183, u 184, u 185, u 186, u 187, u 188, u 189, u 190, u 191, u 192, u 193, u 194, u 195, u 196, u 197, u 198, u 199, u 200, u 201, u 202, u 203, u 204, u 205, u 206, u 207, u 208, u 209, u 210, u 211, u 212, u 213, u 214, u 215, u 216, u 217, u 218, u 219, u 220, u 221, u 222, u 223, u 224, u 225, u 226, u 227, u 228, u 229, u 230, u 231, u 232, u 233, u 234, u 235, u 236, u 237, u 238, u 239, u 240, u 241, u 242, u 243, u 244, u 245, u 246, u 247, u 248, u 249, u 250, u 251, u 252, u 253, u 254, u 255, u 256, u 257, u 258, u 259, u 260, u 261, u 262, u 263, u 264, u 265, u 266, u 267, u 268, u 269, u 270, u 271, u 272, u 273, u 274, u 275, u 276, u 277, u 278, u 279, u 280, u 281, u 282, u 283, u 284, u 285, u 286, u 287, u 288, u 289, u 290, u 291, u 292, u 293, u 294, u 295, u 296, u 297, u 298, u 299, u 300, u 301, u 302, u 303, u 304, u 305, u 306, u 307, u 308, u 309, u 310, u 311, u 312, u 313, u 314, u 315, u 316, u 317, u 318, u 319, u 320, u 321, u 322, u 323, u 324, u 325, u 326, u 327, u 328, u 329, u 330, u 331, u 332, u 333, c334, c335, c336, c337, c338, c339, c340, c341, c342, c343, c344, c345, c346, c347, c348, c349, c350, c351, c352, c353, c354, c355, c356, c357, c358, c359, c360, c361, c362, c363, c364, c365, c366, c367, c368, c369, c370, c371, c372, c373, c374, c375, c376, c377, c378, c379, c380, c381, c382, c383, c384, c385, c386, c387, c388, c389, c390, c391, c392, c393, c394, c395, c396, c397, c398, c399, c400, c401, c402, c403, c404, c405, c406, c407, c408, c409, c410, c411, c412, c413, c414], []⟩

/-- what stands behind a block's turn -/
def TurnOk (w w' : World) (q : Nat) (vs : Value) (P n : Nat) (R : List (List Int)) (G : List (List Nat)) (val : Nat → Value) (g5 : Nat) (C5 : Array Value) (gp : Nat) (pr : List Nat) (gd t b : Nat) : Prop :=
  ∃ (F : List Nat) (a : Nat) (st : MSt) (vts : List Value) (D : List Bool), MD w w' q vs F a st vts g5 C5 gp pr gd D ∧ TSt P n R pr D st ∧ TuI G n t (b + 1) D ∧ (∀ b, D[b]? = some false → vts[b]? = some (val b)) ∧ a + 3000 * offN D ≤ 300 + 3000 * n ∧ st.live.length ≤ 40000
set_option maxRecDepth 100000 in
set_option maxHeartbeats 12800000 in
theorem turn_block0 {w wz : World} {q n P g5 gp gd cap5 b t a : Nat} {vs : Value} {R : List (List Int)} {G : List (List Nat)} {val : Nat → Value} {C5 : Array Value} {pr : List Nat} {F : List Nat} {st : MSt} {vts : List Value} {D : List Bool}
    (H0_ : RdS w [] vs) (hP : P ≤ 4) (h9 : n ≤ 9) (hltb : b < n) (HC5_ : ∀ k, k < n → C5[k]? = some (val k)) (HR_ : TR n (3 * n) n R) (HG_ : G = gR R n) (HM_ : MD w wz q vs F a st vts g5 C5 gp pr gd D) (HT_ : TSt P n R pr D st) (HI_ : TuI G n t b D) (HV_ : ∀ b, D[b]? = some false → vts[b]? = some (val b)) (Ha_ : a + 3000 * offN D ≤ 300 + 3000 * n) (HLv_ : st.live.length ≤ 40000)
    (c0 c1 c2 c6 c8 c9 c10 c12 c14 c15 c16 c17 c18 c19 c20 c21 c22 c23 c24 c25 c26 c27 c28 c29 c30 c31 c32 c33 c34 c35 c36 c37 c38 c39 c40 c41 c42 c43 c44 c45 c46 c47 c48 c49 c50 c51 c52 c53 c54 c55 c56 c57 c58 c59 c60 c61 c62 c63 c64 c65 c66 c67 c68 c69 c70 c71 c72 c73 c74 c75 c76 c77 c78 c79 c80 c81 c82 c83 c84 c85 c86 c87 c88 c89 c90 c91 c92 c93 c94 c95 c96 c97 c98 c99 c100 c101 c102 c103 c104 c105 c106 c107 c108 c109 c110 c111 c112 c113 c114 c115 c116 c117 c118 c119 c120 c121 c122 c123 c124 c125 c126 c127 c128 c129 c130 c131 c132 c133 c134 c135 c136 c137 c138 c139 c140 c141 c142 c143 c144 c145 c146 c147 c148 c149 c150 c151 c152 c153 c154 c155 c156 c157 c158 c159 c160 c161 c162 c163 c164 c165 c166 c167 c168 c169 c170 c171 c172 c173 c174 c175 c176 c177 c178 c179 c180 c181 c182 c183 c184 c185 c186 c187 c188 c189 c190 c191 c192 c193 c194 c195 c196 c197 c198 c199 c200 c201 c202 c203 c204 c205 c206 c207 c208 c209 c210 c211 c212 c213 c214 c215 c216 c217 c218 c219 c220 c221 c222 c223 c224 c225 c226 c227 c228 c229 c230 c231 c232 c233 c234 c235 c236 c237 c238 c239 c240 c241 c242 c243 c244 c245 c246 c247 c248 c249 c250 c251 c252 c253 c254 c255 c256 c257 c258 c259 c260 c261 c262 c263 c264 c265 c266 c267 c268 c269 c270 c271 c272 c273 c274 c275 c276 c277 c278 c279 c280 c281 c282 c283 c284 c285 c286 c287 c288 c289 c290 c291 c292 c293 c294 c295 c296 c297 c298 c299 c300 c301 c302 c303 c304 c305 c306 c307 c308 c309 c310 c311 c312 c313 c314 c315 c316 c317 c318 c319 c320 c321 c322 c323 c324 c325 c326 c327 c328 c329 c330 c331 c332 c333 c334 c335 c336 c337 c338 c339 c340 c341 c342 c343 c344 c345 c346 c347 c348 c349 c350 c351 c352 c353 c354 c355 c356 c357 c358 c359 c360 c361 c362 c363 c364 c365 c366 c367 c368 c369 c370 c371 c372 c373 c374 c375 c376 c377 c378 c379 c380 c381 c382 c383 c384 c385 c386 c387 c388 c389 c390 c391 c392 c393 c394 c395 c396 c397 c398 c399 c400 c401 c402 c403 c404 c405 c406 c407 c408 c409 c410 c411 c412 c413 c414 : Value) {Q : Exit → Act → World → Prop} (hexit : ∀ (a' : Act) (w' : World), a' = frT c0 c1 c2 (.pointer (some ⟨q, 0, none⟩)) (.int .i64 (n : Int)) (.slice (some ⟨g5, 0, none⟩) n cap5) c6 (.slice (some ⟨gp, 0, none⟩) n n) c8 c9 c10 (.slice (some ⟨gd, 0, none⟩) n n) c12 (.int .i64 (b : Int)) c25 c26 c27 c28 c29 c30 c31 c32 c33 c34 c35 c36 c37 c38 c39 c40 c41 c42 c43 c44 c45 c46 c47 c48 c49 c50 c51 c52 c53 c54 c55 c56 c57 c58 c59 c60 c61 c62 c63 c64 c65 c66 c67 c68 c69 c70 c71 c72 c73 c74 c75 c76 c77 c78 c79 c80 c81 c82 c83 c84 c85 c86 c87 c88 c89 c90 c91 c92 c93 c94 c95 c96 c97 c98 c99 c100 c101 c102 c103 c104 c105 c106 c107 c108 c109 c110 c111 c112 c113 c114 c115 c116 c117 c118 c119 c120 c121 c122 c123 c124 c125 c126 c127 c128 c129 c130 c131 c132 c133 c134 c135 c136 c137 c138 c139 c140 c141 c142 c143 c144 c145 c146 c334 c335 c336 c337 c338 c339 c340 c341 c342 c343 c344 c345 c346 c347 c348 c349 c350 c351 c352 c353 c354 c355 c356 c357 c358 c359 c360 c361 c362 c363 c364 c365 c366 c367 c368 c369 c370 c371 c372 c373 c374 c375 c376 c377 c378 c379 c380 c381 c382 c383 c384 c385 c386 c387 c388 c389 c390 c391 c392 c393 c394 c395 c396 c397 c398 c399 c400 c401 c402 c403 c404 c405 c406 c407 c408 c409 c410 c411 c412 c413 c414 (fun k => a'.tmps.toList.getD k undef) → TurnOk w w' q vs P n R G val g5 C5 gp pr gd t b → Q .normal a' w') :
    Code.wp Try.prog turnCode Q ⟨#[c0, c1, c2, .pointer (some ⟨q, 0, none⟩), .int .i64 (n : Int), .slice (some ⟨g5, 0, none⟩) n cap5, c6, .slice (some ⟨gp, 0, none⟩) n n, c8, c9, c10, .slice (some ⟨gd, 0, none⟩) n n, c12, .int .i64 (b : Int), c14, c15, c16, c17, c18, c19, c20, c21, c22, c23, c24, c25, c26, c27, c28, c29, c30, c31, c32, c33, c34, c35, c36, c37, c38, c39, c40, c41, c42, c43, c44, c45, c46, c47, c48, c49, c50, c51, c52, c53, c54, c55, c56, c57, c58, c59, c60, c61, c62, c63, c64, c65, c66, c67, c68, c69, c70, c71, c72, c73, c74, c75, c76, c77, c78, c79, c80, c81, c82, c83, c84, c85, c86, c87, c88, c89, c90, c91, c92, c93, c94, c95, c96, c97, c98, c99, c100, c101, c102, c103, c104, c105, c106, c107, c108, c109, c110, c111, c112, c113, c114, c115, c116, c117, c118, c119, c120, c121, c122, c123, c124, c125, c126, c127, c128, c129, c130, c131, c132, c133, c134, c135, c136, c137, c138, c139, c140, c141, c142, c143, c144, c145, c146, c147, c148, c149, c150, c151, c152, c153, c154, c155, c156, c157, c158, c159, c160, c161, c162, c163, c164, c165, c166, c167, c168, c169, c170, c171, c172, c173, c174, c175, c176, c177, c178, c179, c180, c181, c182, c183, c184, c185, c186, c187, c188, c189, c190, c191, c192, c193, c194, c195, c196, c197, c198, c199, c200, c201, c202, c203, c204, c205, c206, c207, c208, c209, c210, c211, c212, c213, c214, c215, c216, c217, c218, c219, c220, c221, c222, c223, c224, c225, c226, c227, c228, c229, c230, c231, c232, c233, c234, c235, c236, c237, c238, c239, c240, c241, c242, c243, c244, c245, c246, c247, c248, c249, c250, c251, c252, c253, c254, c255, c256, c257, c258, c259, c260, c261, c262, c263, c264, c265, c266, c267, c268, c269, c270, c271, c272, c273, c274, c275, c276, c277, c278, c279, c280, c281, c282, c283, c284, c285, c286, c287, c288, c289, c290, c291, c292, c293, c294, c295, c296, c297, c298, c299, c300, c301, c302, c303, c304, c305, c306, c307, c308, c309, c310, c311, c312, c313, c314, c315, c316, c317, c318, c319, c320, c321, c322, c323, c324, c325, c326, c327, c328, c329, c330, c331, c332, c333, c334, c335, c336, c337, c338, c339, c340, c341, c342, c343, c344, c345, c346, c347, c348, c349, c350, c351, c352, c353, c354, c355, c356, c357, c358, c359, c360, c361, c362, c363, c364, c365, c366, c367, c368, c369, c370, c371, c372, c373, c374, c375, c376, c377, c378, c379, c380, c381, c382, c383, c384, c385, c386, c387, c388, c389, c390, c391, c392, c393, c394, c395, c396, c397, c398, c399, c400, c401, c402, c403, c404, c405, c406, c407, c408, c409, c410, c411, c412, c413, c414], []⟩ wz := by
  have H0 := Lib.hid H0_
  have HC5 := Lib.hid HC5_
  have HR := Lib.hid HR_
  have HG := Lib.hid HG_
  have HM := Lib.hid HM_
  have HT := Lib.hid HT_
  have HI := Lib.hid HI_
  have HV := Lib.hid HV_
  have Ha := Lib.hid Ha_
  have HLv := Lib.hid HLv_
  have Hexit := Lib.hid hexit
  clear hexit H0_ HC5_ HR_ HG_ HM_ HT_ HI_ HV_ Ha_ HLv_
  conv => arg 2; whnf
  have hDl := HT.out.dl
  obtain ⟨d0, -⟩ := HM.out.done (b := b) (by omega)
  obtain ⟨Db, hDb⟩ : ∃ x, x = D[b]'(by omega) := ⟨_, rfl⟩
  rw [← hDb] at d0
  have HDb : Hid (Db = D.getD b false) := by rw [Hid, hDb, List.getD_eq_getElem?_getD, List.getElem?_eq_getElem (by omega)]; rfl
  have Hz := Lib.hid HM.out.lts
  clear hDb
  have HM1 := Lib.hid (HM.out.ext0 ((Ext.refl [] wz).alloc (.cells #[] 63)))
  have HB1 : Hid (Bes wz (wz.alloc (.cells #[] 63)) F kRowB 63 [] (.slice (some ⟨wz.heap.size, 0, none⟩) 0 0) []) := ⟨.inl ⟨_, rfl, rfl, rfl⟩, by simp, by simp, by simp⟩
  have HA1 : Hid (AwOk G n []) := by intro a ha; simp at ha
  have Hto := Lib.hid (to_bound HR.out HT.out.to)
  clear HM
  go_wp2
  go_loopg [15, 16] n (fun r v15 v16 wx => ∃ (i : Nat) (S : List Nat) (rows : List (List Bool)), v16 = .int .i64 (i : Int) ∧ i ≤ n ∧ Hid (i + r = n) ∧ Hid (MD w wx q vs F a st vts g5 C5 gp pr gd D) ∧ Hid (Bes wz wx F kRowB 63 S v15 rows) ∧ Hid (AwOk G n rows) ∧ Hid (rows.length = i) ∧ Hid (wz.heap.size ≤ wx.heap.size))
  case atStart => exact ⟨0, [], [], rfl, by omega, by simp [Hid], HM1, HB1, HA1, by simp [Hid], by simp [Hid]⟩
  case round =>
    clear HM1 HB1 HA1 d0
    obtain ⟨i, S, rows, rfl, hi, HK, HM, HB, HA, HL, Hsz⟩ := hrel
    obtain ⟨A5, k5, hv5, -⟩ := HB.out.row.shape
    rw [HL.out] at hv5
    subst hv5
    by_cases hlt : i < n
    · skip
      -- [[away
      obtain ⟨A3, cap3, S3, y2, y3, hfn, -, -, -⟩ := HM.out.mb.mi.m.fn
      rw [HT.out.len] at y3 hfn
      have Hfn := Lib.hid hfn
      have hbl : st.blocks.length = n := HT.out.len
      have Hbl := Lib.hid hbl
      have HG2 : Hid (ofF st.blocks = G) := by rw [Hid, HG.out]; exact ofF_R HT.out.to HT.out.len
      clear hfn hbl
      go_wp2_with fail
      refine (reached_calls Hfn.out (by show 0 < st.blocks.length; rw [Hbl.out]; omega) (by show st.blocks.length ≤ _; rw [Hbl.out]; omega) (fun x hx => by have := (Hto.out x hx).1; omega) (fun x hx t ht => by have := (Hto.out x hx).2 t ht; show 0 ≤ t ∧ t < (st.blocks.length : Int); rw [Hbl.out]; omega) i).mono ?_
      rintro e w1 ⟨rs, vr, Sr, rfl, hrs, hnewR, hrl, hrwo⟩
      obtain ⟨Ar, kr, rfl, _⟩ := hrs.shape
      have hx1 := hnewR.ext
      have hrl2 : rs.length = n := hrl.trans Hbl.out
      rw [hrl2] at hrs
      simp only [hrl2]
      obtain ⟨w2, hw2⟩ : ∃ z, z = w1.alloc (.cells #[.slice Ar n kr] 63) := ⟨_, rfl⟩
      have hx2 : Ext [] w1 w2 := by rw [hw2]; exact (Ext.refl _ _).alloc _
      have hx12 := hx1.nil hx2
      have hrep : kRowB.rep w2 Sr rs [.slice Ar n kr] := ⟨_, rfl, hrs.ext0 hx2⟩
      have hsrc : Src w2 (.slice (some ⟨w1.heap.size, 0, none⟩) 1 1) 1 [.slice Ar n kr] := by rw [hw2]; exact Src.blk (cs := [.slice Ar n kr]) 1
      have hSrF : ∀ k ∈ Sr, wr.heap.size ≤ k := hnewR.fresh
      have hltS := HB.out.row.lt
      obtain ⟨v', w3, S', hrun, hs', hxx, hf', hn'⟩ := run_append_sl (ty := 64) (d := kRowB) (ys := [rs]) ei_rowsB (HB.out.row.ext0 hx12) (.slice (some ⟨w1.heap.size, 0, none⟩) 1 1) [.slice Ar n kr] [Sr] (elems_single hrep) rfl (Kd.one kRowB hrep) hsrc (by
        intro k hk hk2; simp at hk; have := hSrF k hk; have := hltS k hk2; omega) (le_maxLen (by rw [HL.out]; omega)) (le_bytesB (n := rows.length) (by rw [HL.out]; omega) (by decide))
      have hltF := HM.out.mb.mi.m.lt
      have hszR := hx12.size
      have hsz0 := Hsz.out
      obtain ⟨p1, p2⟩ := (HM.out.ext0 hx12).beside H0.out (HB.out.ext0 hx12) Hz.out hxx hs' (fun k hk => by
        rcases hf' k hk with h2 | h2 | h2
        · exact .inl h2
        · exact .inr ⟨fun h3 => by have := hltF k h3; omega, by omega⟩
        · simp at h2
          have := hSrF k h2
          exact .inr ⟨fun h3 => by have := hltF k h3; omega, by omega⟩) (hn' HB.out.nd (by simpa using hnewR.nodup))
      have P1' := Lib.hid p1
      have P2' := Lib.hid p2
      have P3' := Lib.hid (HA.out.app hrl2 (by rw [HL.out, ← HG2.out]; exact hrwo))
      have P4' : Hid (wz.heap.size ≤ w3.heap.size) := by have := hxx.size; simp only [Hid]; omega
      obtain ⟨A', c', hv', _⟩ := hs'.shape
      have hvl : (rows ++ [rs]).length = i + 1 := by simp [HL.out]
      rw [hvl] at hv'
      subst hv' hw2
      have HL' := Lib.hid hvl
      clear hx1 hx2 hx12 hrep hsrc hSrF hltS hs' hxx hf' hn' hltF hszR hsz0 p1 p2 hrs hnewR hrl hrwo hrl2 hvl y2 y3 HM HB HA Hsz
      go_wp2_with (at_builtin; refine wpList_append_eq rfl (.tmp 158) (.tmp 165) 64 rfl rfl rfl hrun ?_)
      clear hrun
      go_roundg (gk - 1)
      case measure => have := HK.out; omega
      case rel => exact ⟨i + 1, S', rows ++ [rs], by go_num, by omega, by have := HK.out; simp only [Hid]; omega, P1', P2', P3', HL', P4'⟩
      -- away]]
    · obtain rfl : n = i := by omega
      clear hlt
      have HR0 : Hid (∃ rb, Value.bool (!Db) = .bool rb ∧ rb = rdB D rows b 0) := ⟨_, rfl, by rw [rdB_zero, ← HDb.out]⟩
      clear HDb
      go_wp2
      go_loopg [14, 17] n (fun r v14 v17 wx => ∃ (i : Nat) (rb : Bool), v17 = .int .i64 (i : Int) ∧ i ≤ n ∧ Hid (i + r = n) ∧ v14 = .bool rb ∧ Hid (rb = rdB D rows b i) ∧ wx = wr)
      case atStart =>
        obtain ⟨rb, h1, h2⟩ := HR0.out
        exact ⟨0, rb, rfl, by omega, by simp [Hid], h1, h2, rfl⟩
      case round =>
        clear HR0
        obtain ⟨i, rb, rfl, hi2, HKr, rfl, HRb, rfl⟩ := hrel
        by_cases hlti : i < n
        · skip
          -- [[ready
          obtain ⟨d1, -⟩ := HM.out.done (b := i) (by omega)
          obtain ⟨Di, hDi⟩ : ∃ x, x = D[i]'(by omega) := ⟨_, rfl⟩
          rw [← hDi] at d1
          have HDi : Hid (Di = D.getD i false) := by rw [Hid, hDi, List.getD_eq_getElem?_getD, List.getElem?_eq_getElem (by omega)]; rfl
          have hiR : i < rows.length := by rw [HL.out]; exact hlti
          obtain ⟨g15, cap15, Si, cs, hv15, hat⟩ := HB.out.row.at i hiR
          rw [HL.out] at hv15
          cases hv15
          have hrep15 : kRowB.rep wr Si (rows[i]'hiR) cs := hat.rep
          obtain ⟨vr, rfl, hrr⟩ := hrep15
          have hrl := (HA.out i hiR).1
          obtain ⟨gr, capr, hvr, _, hcr, _⟩ := hrr.cell b (by rw [hrl]; exact hltb)
          rw [hrl] at hvr
          subst hvr
          have c15 := hat.cell 0 rfl
          simp only [kRowB, kSl, Nat.mul_one, Nat.add_zero] at c15
          obtain ⟨rbb, hrbb⟩ : ∃ x, x = (rows[i]'hiR)[b]'(by rw [hrl]; exact hltb) := ⟨_, rfl⟩
          rw [← hrbb] at hcr
          have Hrbb : Hid (rbb = (rows.getD i []).getD b false) := by
            rw [Hid, hrbb, List.getD_eq_getElem?_getD (l := rows), List.getElem?_eq_getElem hiR]
            simp only [Option.getD_some]
            rw [List.getD_eq_getElem?_getD, List.getElem?_eq_getElem]; rfl
          have HS := Lib.hid (rdB_succ D rows b i)
          clear hDi hrbb hat hrr hrl hiR
          cases rb with
          | false =>
            go_wp2
            go_roundg (gk - 1)
            case measure => have := HKr.out; omega
            case rel => exact ⟨i + 1, false, by go_num, by omega, by have := HKr.out; simp only [Hid]; omega, rfl, by rw [Hid, HS.out, ← HRb.out]; rfl, rfl⟩
          | true =>
            by_cases hib : i = b
            · have e0 : ((i : Int) == (b : Int)) = true := by simp [hib]
              have Hib := Lib.hid hib
              clear hib
              go_wp2
              go_roundg (gk - 1)
              case measure => have := HKr.out; omega
              case rel => exact ⟨i + 1, true, by go_num, by omega, by have := HKr.out; simp only [Hid]; omega, rfl, by rw [Hid, HS.out, ← HRb.out, awB, Hib.out]; simp, rfl⟩
            · have e0 : ((i : Int) == (b : Int)) = false := by simp; omega
              have e1 : Hid ((i == b) = false) := by simp [Hid, hib]
              cases Di with
              | true =>
                go_wp2
                go_roundg (gk - 1)
                case measure => have := HKr.out; omega
                case rel => exact ⟨i + 1, true, by go_num, by omega, by have := HKr.out; simp only [Hid]; omega, rfl, by rw [Hid, HS.out, ← HRb.out, awB, e1.out, ← HDi.out]; rfl, rfl⟩
              | false =>
                go_wp2
                go_roundg (gk - 1)
                case measure => have := HKr.out; omega
                case rel => exact ⟨i + 1, rbb, by go_num, by omega, by have := HKr.out; simp only [Hid]; omega, rfl, by rw [Hid, HS.out, ← HRb.out, awB, e1.out, ← HDi.out, ← Hrbb.out]; simp, rfl⟩
          -- ready]]
        · obtain rfl : n = i := by omega
          clear hlti
          cases rb with
          | false =>
            go_wp2
            refine Hexit.out _ _ rfl ⟨F, a, st, vts, D, HM.out, HT.out, HI.out.skip (rdB_no HA.out HL.out hDl HRb.out.symm), HV.out, Ha.out, HLv.out⟩
          | true =>
            have HDf := Lib.hid (rdB_yes (n := n) (by omega) HRb.out.symm)
            obtain ⟨d1, d2⟩ := HM.out.done (b := b) (by omega)
            go_upto_region 43 with (fail)
            have HM42 := Lib.hid (HM.out.put H0.out b)
            have HB42 := Lib.hid (HB.out.ext (M := [gd]) ((Ext.refl _ _).setCell (.inl (by simp)) (Value.bool true) : Ext [gd] wr (wr.setCell ⟨gd, b, none⟩ (.bool true))) (by
              intro k hk h2; simp at h2; subst h2; have := HB.out.new _ hk; have := Hz.out.2.2.2; omega))
            obtain ⟨w42, hw42⟩ : ∃ z, z = wr.setCell ⟨gd, b, none⟩ (.bool true) := ⟨_, rfl⟩
            rw [← hw42] at HM42 HB42 ⊢
            have hs42 : wz.heap.size ≤ w42.heap.size := by rw [hw42]; simp; exact Hsz.out
            clear hw42 d1 d2
            obtain ⟨-, -, yf, -, ⟨g50, c50, y5⟩⟩ := HM42.out.mb.mi.m.cells
            have f5 := yf 5
            have hq5 := lt_of_cell y5
            simp only at hq5
            have hx43 : Ext [] w42 (w42.alloc (.cells #[] 3)) := (Ext.refl _ _).alloc _
            obtain ⟨F3, m3, hF3⟩ := live_nil HM42.out.mb.mi hx43 (some ⟨w42.heap.size, 0, none⟩)
            have e43 : (w42.alloc (.cells #[] 3)).setCell ⟨q, 5, none⟩ (.slice (some ⟨w42.heap.size, 0, none⟩) 0 0) = (w42.setCell ⟨q, 5, none⟩ (.slice (some ⟨w42.heap.size, 0, none⟩) 0 0)).alloc (.cells #[] 3) := by simp [go_sem, hq5]
            rw [e43] at m3 hF3
            obtain ⟨w43, hw43⟩ : ∃ z, z = (w42.setCell ⟨q, 5, none⟩ (.slice (some ⟨w42.heap.size, 0, none⟩) 0 0)).alloc (.cells #[] 3) := ⟨_, rfl⟩
            rw [← hw43] at m3 hF3
            have HM43 := Lib.hid (HM42.out.step m3 hF3)
            have HB43 := Lib.hid (HB42.out.step hF3)
            have HPar : Hid (st.params = (P : Int)) := HT.out.par
            have Hph := Lib.hid HT.out.ph
            have Hil := Lib.hid HT.out.il
            have Hple := Lib.hid HT.out.ple
            have hs43 : Hid (wz.heap.size ≤ w43.heap.size) := by have := hF3.1.size; simp only [Hid]; omega
            have HA0 : Hid (AtHand (P : Int) st.blocks b []) := AtHand.nil _ _ _
            clear e43 m3 hF3 yf hx43 HM HB HM42 HB42
            go_upto_block 14 with (fail)
            rw [← hw43]
            clear hw43 y5 f5 hq5
            go_wp2
            go_loopg [18] P (fun r v18 wx => ∃ (i : Nat) (F : List Nat) (l : List Int), v18 = .int .i64 (i : Int) ∧ i ≤ P ∧ Hid (i + r = P) ∧ Hid (MD w wx q vs F a { st with live := l } vts g5 C5 gp pr gd (D.set b true)) ∧ Hid (Bes wz wx F kRowB 63 S (.slice A5 n k5) rows) ∧ Hid (AtHand (P : Int) st.blocks b l) ∧ Hid (l.length = i))
            case atStart => exact ⟨0, F3, [], rfl, by omega, by simp [Hid], HM43, HB43, HA0, by simp [Hid]⟩
            case round =>
              clear HM43 HB43 HA0 hs42 hs43
              obtain ⟨i, F, l, rfl, hi3, HK14, HM, HB, HAt, Hll⟩ := hrel
              obtain ⟨A3, cap3, S3, y2, y3, -, -, -, yf⟩ := HM.out.mb.mi.m.fn
              obtain ⟨-, -, -, -, ⟨g50, c50, y5⟩⟩ := HM.out.mb.mi.m.cells
              simp only [HPar.out] at y2
              by_cases hlti : i < P
              · skip
                -- [[params
                have Hm0 := Lib.hid HM.out.mb.mi
                have hxa : Ext [] wr (wr.alloc (.cells #[.int .i64 (i : Int)] 3)) := (Ext.refl _ _).alloc _
                have hll : l.length = i := Hll.out
                simp only [hll] at y5
                obtain ⟨A', n', c', w2, hrun, d5, df, -, F', m2, hF2⟩ := live_app Hm0.out hxa y5 [(i : Int)] (Src.blk 1) (by simp [hll]; omega)
                have HM2 := Lib.hid (HM.out.step m2 hF2)
                have HB2 := Lib.hid (HB.out.step hF2)
                clear m2 hF2 hxa hll HM HB y3 yf
                go_wp2_with (at_builtin; refine wpList_append_eq rfl (.tmp 215) (.tmp 217) 22 rfl rfl rfl hrun ?_)
                go_roundg (gk - 1)
                case measure => have := HK14.out; omega
                case rel => exact ⟨i + 1, F', l ++ [(i : Int)], by go_num, by omega, by have := HK14.out; simp only [Hid]; omega, HM2, HB2, HAt.out.par (by omega) (by omega), by have := Hll.out; simp [Hid]; omega⟩
                -- params]]
              · obtain rfl : P = i := by omega
                have HLl : Hid (l.length ≤ 4 + 117 * 0) := by have := Hll.out; simp only [Hid]; omega
                have Hlen : Hid (st.blocks.length = n) := HT.out.len
                have HG2 : Hid (ofF st.blocks = G) := by rw [Hid, HG.out]; exact ofF_R HT.out.to HT.out.len
                clear hlti y3 y5 yf Hll
                go_wp2
                clear y2
                go_loopg [19] n (fun r v19 wx => ∃ (j : Nat) (F : List Nat) (l : List Int), v19 = .int .i64 (j : Int) ∧ j ≤ n ∧ Hid (j + r = n) ∧ Hid (MD w wx q vs F a { st with live := l } vts g5 C5 gp pr gd (D.set b true)) ∧ Hid (Bes wz wx F kRowB 63 S (.slice A5 n k5) rows) ∧ Hid (AtHand (P : Int) st.blocks b l) ∧ Hid (l.length ≤ 4 + 117 * j))
                case atStart => exact ⟨0, F, l, rfl, by omega, by simp [Hid], HM, HB, HAt, HLl⟩
                case round =>
                  clear HM HB HAt HLl
                  obtain ⟨j, F, l, rfl, hj, HK16, HM, HB, HAt, Hll⟩ := hrel
                  obtain ⟨q16, hq16⟩ : ∃ x, x = gk := ⟨_, rfl⟩
                  subst hq16
                  by_cases hltj : j < n
                  · skip
                    -- [[live
                    have hDl2 : (D.set b true).length = n := by simpa using hDl
                    obtain ⟨d1, -⟩ := HM.out.done (b := j) (by omega)
                    obtain ⟨Dj, hDj⟩ : ∃ x, x = (D.set b true)[j]'(by omega) := ⟨_, rfl⟩
                    rw [← hDj] at d1
                    have hiR : j < rows.length := by rw [HL.out]; exact hltj
                    obtain ⟨g15, cap15, Si, cs, hv15, hat⟩ := HB.out.row.at j hiR
                    rw [HL.out] at hv15
                    cases hv15
                    have hrep15 : kRowB.rep wr Si (rows[j]'hiR) cs := hat.rep
                    obtain ⟨vr, rfl, hrr⟩ := hrep15
                    have hrl := (HA.out j hiR).1
                    obtain ⟨gr, capr, hvr, -, hcr, -⟩ := hrr.cell b (by rw [hrl]; exact hltb)
                    rw [hrl] at hvr
                    subst hvr
                    have c15 := hat.cell 0 rfl
                    simp only [kRowB, kSl, Nat.mul_one, Nat.add_zero] at c15
                    obtain ⟨rbb, hrbb⟩ : ∃ x, x = (rows[j]'hiR)[b]'(by rw [hrl]; exact hltb) := ⟨_, rfl⟩
                    rw [← hrbb] at hcr
                    have HW : Hid (Rwo G j b → rbb = true) := fun h => by
                      have h2 := (HA.out j hiR).2 b h
                      rw [List.getElem?_eq_getElem (by rw [hrl]; exact hltb)] at h2
                      rw [hrbb]; simpa using h2
                    clear hDj hrbb hat hrr hrl hiR hDl2
                    go_upto_region 51 with (fail)
                    go_cut [244] from 226 to 243 (fun v244 wc => ∃ sk : Bool, v244 = .bool sk ∧ wc = wr ∧ Hid (sk = false → j = b ∨ ¬ Rwo G j b))
                    case first =>
                      by_cases hjb : j = b
                      · have e0 : ((j : Int) != (b : Int)) = false := by simp [hjb]
                        have Hjb := Lib.hid hjb
                        clear hjb
                        go_wp2
                        go_meet
                        exact ⟨false, rfl, rfl, fun _ => .inl Hjb.out⟩
                      · have e0 : ((j : Int) != (b : Int)) = true := by simp; omega
                        have e1 : ((j : Int) == (b : Int)) = false := by simp; omega
                        cases Dj with
                        | false =>
                          go_wp2
                          go_meet
                          exact ⟨true, rfl, rfl, fun h => by cases h⟩
                        | true =>
                          go_wp2
                          go_meet
                          exact ⟨rbb, rfl, rfl, fun h => .inr fun h2 => by have := HW.out h2; rw [h] at this; cases this⟩
                    case rest =>
                      obtain ⟨sk, rfl, rfl, HS⟩ := hcut
                      clear d1 c15 hcr HW
                      cases sk with
                      | true =>
                        go_wp2
                        go_roundg (q16 - 1)
                        case measure => have := HK16.out; omega
                        case rel => exact ⟨j + 1, F, l, by go_num, by omega, by have := HK16.out; simp only [Hid]; omega, HM, HB, HAt, by have := Hll.out; simp only [Hid]; omega⟩
                      | false =>
                        go_upto_block 18 with (fail)
                        have hjl : j < st.blocks.length := by rw [Hlen.out]; exact hltj
                        refine ph_block0 H0.out hjl (by rw [Hlen.out]; exact h9) (by rw [HG2.out]; exact HS.out rfl) (by have := (Hph.out j hjl).1; have := Hple.out j; omega) HM.out HB.out HAt.out Hll.out (by omega) _ _ _ _ _ _ _ _ _ _ _ _ _ _ _ _ _ _ _ _ _ _ _ _ _ _ _ _ _ _ _ _ _ _ _ _ _ _ _ _ _ _ _ _ _ _ _ _ _ _ _ _ _ _ _ _ _ _ _ _ _ _ _ _ _ _ _ _ _ _ _ _ _ _ _ _ _ _ _ _ _ _ _ _ _ _ _ _ _ _ _ _ _ _ _ _ _ _ _ _ _ _ _ _ _ _ _ _ _ _ _ _ _ _ _ _ _ _ _ _ _ _ _ _ _ _ _ _ _ _ _ _ _ _ _ _ _ _ _ _ _ _ _ _ _ _ _ _ _ _ _ _ _ _ _ _ _ _ _ _ _ _ _ _ _ _ _ _ _ _ _ _ _ _ _ _ _ _ _ _ _ _ _ _ _ _ _ _ _ _ _ _ _ _ _ _ _ _ _ _ _ _ _ _ _ _ _ _ _ _ _ _ _ _ _ _ _ _ _ _ _ _ _ _ _ _ _ _ _ _ _ _ _ _ _ _ _ _ _ _ _ _ _ _ _ _ _ _ _ _ _ _ _ _ _ _ _ _ _ _ _ _ _ _ _ _ _ _ _ _ _ _ _ _ _ _ _ _ _ _ _ _ _ _ _ _ _ _ _ _ _ _ _ _ _ _ _ _ _ _ _ _ _ _ _ _ _ _ _ _ _ _ _ _ _ _ _ _ _ _ _ _ _ _ _ _ _ _ _ _ _ _ _ _ _ _ _ _ _ _ _ _ _ _ _ _ _ _ _ _ _ _ _ _ _ _ _ _ _ _ _ _ _ _ _ _ _ _ _ _ _ _ _ _ _ _ _ _ _ _ _ _ _ _ _ _ _ _ _ _ _ _ _ _ _ _ _ _ _ _ _ _ _ _ _ _ _ _ _ _ _ _ ?_
                        intro a' w' ha' hok
                        obtain ⟨u, hu⟩ : ∃ u : Nat → Value, a' = frPh _ _ _ _ _ _ _ _ _ _ _ _ _ _ _ _ _ _ _ _ _ _ _ _ _ _ _ _ _ _ _ _ _ _ _ _ _ _ _ _ _ _ _ _ _ _ _ _ _ _ _ _ _ _ _ _ _ _ _ _ _ _ _ _ _ _ _ _ _ _ _ _ _ _ _ _ _ _ _ _ _ _ _ _ _ _ _ _ _ _ _ _ _ _ _ _ _ _ _ _ _ _ _ _ _ _ _ _ _ _ _ _ _ _ _ _ _ _ _ _ _ _ _ _ _ _ _ _ _ _ _ _ _ _ _ _ _ _ _ _ _ _ _ _ _ _ _ _ _ _ _ _ _ _ _ _ _ _ _ _ _ _ _ _ _ _ _ _ _ _ _ _ _ _ _ _ _ _ _ _ _ _ _ _ _ _ _ _ _ _ _ _ _ _ _ _ _ _ _ _ _ _ _ _ _ _ _ _ _ _ _ _ _ _ _ _ _ _ _ _ _ _ _ _ _ _ _ _ _ _ _ _ _ _ _ _ _ _ _ _ _ _ _ _ _ _ _ _ _ _ _ _ _ _ _ _ _ _ _ _ _ _ _ _ _ _ _ _ _ _ _ _ _ _ _ _ _ _ _ _ _ _ _ _ _ _ _ _ _ _ _ _ _ _ _ _ _ _ _ _ _ _ _ _ _ _ _ _ _ _ _ _ _ _ _ _ _ _ _ _ _ _ _ _ _ _ _ _ _ _ _ _ _ _ _ _ _ _ _ _ _ _ _ _ _ _ _ _ _ _ _ _ _ _ _ _ _ _ _ _ _ _ _ _ _ _ _ _ _ _ _ _ _ _ _ _ _ _ u := ⟨_, ha'⟩
                        clear ha'
                        subst hu
                        simp only [frPh]
                        obtain ⟨F, l, HM_, HB_, HA_, Hl_⟩ := hok
                        have HM := Lib.hid HM_
                        have HB := Lib.hid HB_
                        have HAt := Lib.hid HA_
                        have Hll := Lib.hid Hl_
                        clear HM_ HB_ HA_ Hl_
                        go_upto_block 20 with (fail)
                        refine in_block0 H0.out hjl (by rw [Hlen.out]; exact h9) (by rw [HG2.out]; exact HS.out rfl) (Hil.out j hjl) HM.out HB.out HAt.out Hll.out (by omega) _ _ _ _ _ _ _ _ _ _ _ _ _ _ _ _ _ _ _ _ _ _ _ _ _ _ _ _ _ _ _ _ _ _ _ _ _ _ _ _ _ _ _ _ _ _ _ _ _ _ _ _ _ _ _ _ _ _ _ _ _ _ _ _ _ _ _ _ _ _ _ _ _ _ _ _ _ _ _ _ _ _ _ _ _ _ _ _ _ _ _ _ _ _ _ _ _ _ _ _ _ _ _ _ _ _ _ _ _ _ _ _ _ _ _ _ _ _ _ _ _ _ _ _ _ _ _ _ _ _ _ _ _ _ _ _ _ _ _ _ _ _ _ _ _ _ _ _ _ _ _ _ _ _ _ _ _ _ _ _ _ _ _ _ _ _ _ _ _ _ _ _ _ _ _ _ _ _ _ _ _ _ _ _ _ _ _ _ _ _ _ _ _ _ _ _ _ _ _ _ _ _ _ _ _ _ _ _ _ _ _ _ _ _ _ _ _ _ _ _ _ _ _ _ _ _ _ _ _ _ _ _ _ _ _ _ _ _ _ _ _ _ _ _ _ _ _ _ _ _ _ _ _ _ _ _ _ _ _ _ _ _ _ _ _ _ _ _ _ _ _ _ _ _ _ _ _ _ _ _ _ _ _ _ _ _ _ _ _ _ _ _ _ _ _ _ _ _ _ _ _ _ _ _ _ _ _ _ _ _ _ _ _ _ _ _ _ _ _ _ _ _ _ _ _ _ _ _ _ _ _ _ _ _ _ _ _ _ _ _ _ _ _ _ _ _ _ _ _ _ _ _ _ _ _ _ _ _ _ _ _ _ _ _ _ _ _ _ _ _ _ _ _ _ _ _ _ _ _ _ _ _ _ _ _ _ _ _ _ _ _ _ _ _ _ _ _ _ _ _ _ _ _ _ _ _ _ _ _ _ _ _ ?_
                        intro a' w' ha' hok
                        obtain ⟨u, hu⟩ : ∃ u : Nat → Value, a' = frIn _ _ _ _ _ _ _ _ _ _ _ _ _ _ _ _ _ _ _ _ _ _ _ _ _ _ _ _ _ _ _ _ _ _ _ _ _ _ _ _ _ _ _ _ _ _ _ _ _ _ _ _ _ _ _ _ _ _ _ _ _ _ _ _ _ _ _ _ _ _ _ _ _ _ _ _ _ _ _ _ _ _ _ _ _ _ _ _ _ _ _ _ _ _ _ _ _ _ _ _ _ _ _ _ _ _ _ _ _ _ _ _ _ _ _ _ _ _ _ _ _ _ _ _ _ _ _ _ _ _ _ _ _ _ _ _ _ _ _ _ _ _ _ _ _ _ _ _ _ _ _ _ _ _ _ _ _ _ _ _ _ _ _ _ _ _ _ _ _ _ _ _ _ _ _ _ _ _ _ _ _ _ _ _ _ _ _ _ _ _ _ _ _ _ _ _ _ _ _ _ _ _ _ _ _ _ _ _ _ _ _ _ _ _ _ _ _ _ _ _ _ _ _ _ _ _ _ _ _ _ _ _ _ _ _ _ _ _ _ _ _ _ _ _ _ _ _ _ _ _ _ _ _ _ _ _ _ _ _ _ _ _ _ _ _ _ _ _ _ _ _ _ _ _ _ _ _ _ _ _ _ _ _ _ _ _ _ _ _ _ _ _ _ _ _ _ _ _ _ _ _ _ _ _ _ _ _ _ _ _ _ _ _ _ _ _ _ _ _ _ _ _ _ _ _ _ _ _ _ _ _ _ _ _ _ _ _ _ _ _ _ _ _ _ _ _ _ _ _ _ _ _ _ _ _ _ _ _ _ _ _ _ _ _ _ _ _ _ _ _ _ _ _ _ _ _ _ u := ⟨_, ha'⟩
                        clear ha' HM HB HAt Hll
                        subst hu
                        simp only [frIn]
                        obtain ⟨F, l, HM_, HB_, HA_, Hl_⟩ := hok
                        have HM := Lib.hid HM_
                        have HB := Lib.hid HB_
                        have HAt := Lib.hid HA_
                        have Hll := Lib.hid Hl_
                        clear HM_ HB_ HA_ Hl_
                        go_wp2
                        go_roundg (q16 - 1)
                        case measure => have := HK16.out; omega
                        case rel => exact ⟨j + 1, F, l, by go_num, by omega, by have := HK16.out; simp only [Hid]; omega, HM, HB, HAt, by have := Hll.out; simp only [Hid]; omega⟩
                    -- live]]
                  · obtain rfl : n = j := by omega
                    clear hltj
                    go_wp2_with fail
                    have ha0 := Ha.out
                    refine (take_calls HM.out.mb.mi.m (by omega) 7 (by omega) (by omega)).mono ?_
                    rintro e w1 ⟨k7, hk7, rfl, m1, hx1⟩
                    have HM1 := Lib.hid (HM.out.same m1 hx1)
                    have hbl : b < st.blocks.length := by rw [Hlen.out]; exact hltb
                    have hnx := HT.out.nx
                    have Hs0 : Hid (Sm (a + 2001 + 120 * 0) (a + 1) { st with live := l }) := ⟨by omega, by simp only; omega, by have := Hll.out; simp only; omega, fun x hx => by
                      obtain ⟨y, hy, rfl⟩ := List.getElem_of_mem hx
                      exact Nat.le_trans (Hil.out y hy) (by omega)⟩
                    have Hg0 : Hid (Grow b (9 * 0) { st with live := l } { st with live := l }) := Grow.refl _ _
                    clear m1 hx1 HM HB ha0 hnx
                    go_wp2
                    go_loopg [24] k7 (fun r v24 wx => ∃ (i : Nat) (F : List Nat) (a' : Nat) (st' : MSt), v24 = .int .i64 (i : Int) ∧ i ≤ k7 ∧ Hid (i + r = k7) ∧ Hid (MD w wx q vs F a' st' vts g5 C5 gp pr gd (D.set b true)) ∧ Hid (Sm (a + 2001 + 120 * i) a' st') ∧ Hid (Grow b (9 * i) { st with live := l } st'))
                    case atStart => exact ⟨0, F, a + 1, _, rfl, by omega, by simp [Hid], HM1, Hs0, Hg0⟩
                    case round =>
                      clear HM1 Hs0 Hg0
                      obtain ⟨i, F, a', st', rfl, hi9, HK22, HM, Hs, Hg⟩ := hrel
                      have hlen' : st'.blocks.length = n := Hg.out.len.trans Hlen.out
                      have HLen' := Lib.hid hlen'
                      have ha0 := Ha.out
                      clear hlen'
                      by_cases hlti : i < k7
                      · go_wp2_with fail
                        refine (instructionG HM.out.mb.mi.m Hs.out (by omega) b (by rw [HLen'.out]; exact hltb) (by rw [HLen'.out]; omega)).mono ?_
                        rintro e w2 ⟨rfl, a2, F2, st2, g2⟩
                        have HM2 := Lib.hid (HM.out.stepE g2.mm g2.fp)
                        have Hs2 : Hid (Sm (a + 2001 + 120 * (i + 1)) a2 st2) := by have := g2.sm; rw [Hid]; rwa [show a + 2001 + 120 * (i + 1) = a + 2001 + 120 * i + 120 by omega]
                        have Hg2 : Hid (Grow b (9 * (i + 1)) { st with live := l } st2) := by have := Hg.out.trans g2.gr; rw [Hid]; rwa [show 9 * (i + 1) = 9 * i + 9 by omega]
                        clear g2 HM Hs Hg
                        go_wp2
                        go_roundg (gk - 1)
                        case measure => have := HK22.out; omega
                        case rel => exact ⟨i + 1, F2, a2, st2, by go_num, by omega, by have := HK22.out; simp only [Hid]; omega, HM2, Hs2, Hg2⟩
                      · have hcb := HM.out.mb.l5.blk.cell (HC5.out b hltb)
                        have hb' : b < st'.blocks.length := by rw [HLen'.out]; exact hltb
                        have hto' : st'.blocks[b].term.to = R.getD b [] := by
                          have e := congrArg (fun x : JBlock => x.term.to) (Hg.out.term b hbl)
                          have e2 := HT.out.to
                          simp only at e
                          rw [e, ← e2]
                          simp [List.getD_eq_getElem?_getD, hbl]
                        have Hto' := Lib.hid hto'
                        have htl : st'.blocks[b].term.to.length ≤ 65 := by
                          have e2 := (Hto.out st.blocks[b] (List.getElem_mem hbl)).1
                          have e := congrArg (fun x : JBlock => x.term.to) (Hg.out.term b hbl)
                          simp only at e
                          rw [e]; omega
                        have Htl := Lib.hid htl
                        clear hto' htl
                        go_wp2_with fail
                        refine (end_calls HM.out.mb.mi.m Hs.out (by omega) b hb' (by rw [HLen'.out]; omega) (val b) (HV.out b HDf.out) Htl.out).mono ?_
                        rintro e w2 ⟨rfl, a2, F2, st2, tm, vts2, m2, hg2, hs2, hf2, hto2, hal2, hok2, hv2⟩
                        have HM2 := Lib.hid (HM.out.stepE m2 hf2)
                        have HT2 := Lib.hid (HT.out.turn HDf.out HAt.out ((Hg.out.trans hg2).mono (by omega)) (hto2.trans Hto'.out) hal2 hok2)
                        have HA2 : Hid (a2 + 3000 * offN (D.set b true) ≤ 300 + 3000 * n) := by
                          have h1 := hs2.1
                          have h2 := offN_set D b HDf.out
                          simp only [Hid]; omega
                        have HLv2 : Hid ((st2.endT b tm).live.length ≤ 40000) := by
                          have h1 := hs2.2.2.1
                          show st2.live.length ≤ _; omega
                        have HV2 : Hid (∀ x, (D.set b true)[x]? = some false → vts2[x]? = some (val x)) := fun x hx => by
                          have hxb : x ≠ b := by
                            rintro rfl
                            rw [List.getElem?_set_self (by omega)] at hx; simp at hx
                          rw [hv2 x hxb]
                          rw [List.getElem?_set_ne (fun e => hxb e.symm)] at hx
                          exact HV.out x hx
                        have HI2 := Lib.hid (HI.out.put HDf.out)
                        clear m2 hg2 hs2 hf2 hto2 hal2 hok2 hv2 hcb
                        go_wp2
                        refine Hexit.out _ _ rfl ⟨F2, a2, _, vts2, D.set b true, HM2.out, HT2.out, HI2.out, HV2.out, HA2.out, HLv2.out⟩
end Go.Proofs.Ytkmgbejhbkbaoaa

/- The maker of functions: all turns of Made. -/
namespace Go.Proofs.Ytkmgbejhbkbaoaa
set_option linter.unusedSimpArgs false
set_option linter.unusedVariables false
open Go.RowKit

noncomputable def turnsCode : Code := (Try.f8.body.bind (findBlock 6)).getD .skip
set_option maxRecDepth 100000 in
def frTs (c0 c1 c2 c3 c4 c5 c6 c7 c8 c9 c10 c11 c25 c26 c27 c28 c29 c30 c31 c32 c33 c34 c35 c36 c37 c38 c39 c40 c41 c42 c43 c44 c45 c46 c47 c48 c49 c50 c51 c52 c53 c54 c55 c56 c57 c58 c59 c60 c61 c62 c63 c64 c65 c66 c67 c68 c69 c70 c71 c72 c73 c74 c75 c76 c77 c78 c79 c80 c81 c82 c83 c84 c85 c86 c87 c88 c89 c90 c91 c92 c93 c94 c95 c96 c97 c98 c99 c100 c101 c102 c103 c104 c105 c106 c107 c108 c109 c110 c111 c112 c113 c114 c115 c116 c117 c118 c119 c120 c121 c122 c123 c124 c125 c126 c127 c128 c129 c130 c131 c132 c133 c134 c135 c136 c334 c335 c336 c337 c338 c339 c340 c341 c342 c343 c344 c345 c346 c347 c348 c349 c350 c351 c352 c353 c354 c355 c356 c357 c358 c359 c360 c361 c362 c363 c364 c365 c366 c367 c368 c369 c370 c371 c372 c373 c374 c375 c376 c377 c378 c379 c380 c381 c382 c383 c384 c385 c386 c387 c388 c389 c390 c391 c392 c393 c394 c395 c396 c397 c398 c399 c400 c401 c402 c403 c404 c405 c406 c407 c408 c409 c410 c411 c412 c413 c414 : Value) (u : Nat → Value) : Act := ⟨#[c0, c1, c2, c3, c4, c5, c6, c7, c8, c9, c10, c11, u 12, u 13, u 14, u 15, u 16, u 17, u 18, u 19, u 20, u 21, u 22, u 23, u 24, c25, c26, c27, c28, c29, c30, c31, c32, c33, c34, c35, c36, c37, c38, c39, c40, c41, c42, c43, c44, c45, c46, c47, c48, c49, c50, c51, c52, c53, c54, c55, c56, c57, c58, c59, c60, c61, c62, c63, c64, c65, c66, c67, c68, c69, c70, c71, c72, c73, c74, c75, c76, c77, c78, c79, c80, c81, c82, c83, c84, c85, c86, c87, c88, c89, c90, c91, c92, c93, c94, c95, c96, c97, c98, c99, c100, c101, c102, c103, c104, c105, c106, c107, c108, c109, c110, c111, c112, c113, c114, c115, c116, c117, c118, c119, c120, c121, c122, c123, c124, c125, c126, c127, c128, c129, c130, c131, c132, c133, c134, c135, c136, u 137, u 138, u 139, u 140, u 141, u 142, u 143, u 144, u 145, u 146, u 147, u 148, u 149, u 150, u 151, u 152, u 153, u 154, u 155, u 156, u 157, u 158, u 159, u 160, u 161, u 162, u 163, u 164, u 165, u 166, u 167, u 168, u 169, u 170, u 171, u 172, u 173, u 174, u 175, u 176, u 177, u 178, u 179, u 180, u 181, u 182, u 183, u 184, u 185, u 186, u 187, u 188, u 189, u 190, u 191, u 192, u 193, u 194, u 195, u 196, u 197, u 198, u 199, u 200, u 201, u 202, u 203, u 204, u 205, u 206, u 207, u 208, u 209, u 210, u 211, u 212, u 213, u 214, u 215, u 216, u 217, u 218, u 219, u 220, u 221, u 222, u 223, u 224, u 225, u 226, u 227, u 228, u 229, u 230, u 231, u 232, u 233, u 234, u 235, u 236, u 237, u 238, u 239, u 240, u 241, u 242, u 243, u 244, u 245, u 246, u 247, u 248, u 249, u 250, u 251, u 252, u 253, u 254, u 255, u 256, u 257, u 258, u 259, u 260, u 261, u 262, u 263, u 264, u 265, u 266, u 267, u 268, u 269, u 270, u 271, u 272, u 273, u 274, u 275, u 276, u 277, u 278, u 279, u 280, u 281, u 282, u 283, u 284, u 285, u 286, u 287, u 288, u 289, u 290, u 291, u 292, u 293, u 294, u 295, u 296, u 297, u 298, u 299, u 300, u 301, u 302, u 303, u 304, u 305, u 306, u 307, u 308, u 309, u 310, u 311, u 312, u 313, u 314, u 315, u 316, u 317, u 318, u 319, u 320, u 321, u 322, u 323, u 324, u 325, u 326, u 327, u 328, u 329, u 330, u 331, u 332, u 333, c334, c335, c336, c337, c338, c339, c340, c341, c342, c343, c344, c345, c346, c347, c348, c349, c350, c351, c352, c353, c354, c355, c356, c357, c358, c359, c360, c361, c362, c363, c364, c365, c366, c367, c368, c369, c370, c371, c372, c373, c374, c375, c376, c377, c378, c379, c380, c381, c382, c383, c384, c385, c386, c387, c388, c389, c390, c391, c392, c393, c394, c395, c396, c397, c398, c399, c400, c401, c402, c403, c404, c405, c406, c407, c408, c409, c410, c411, c412, c413, c414], []⟩

/-- what stands behind the turns -/
def TurnsOk (w w' : World) (q : Nat) (vs : Value) (P n : Nat) (R : List (List Int)) (g5 : Nat) (C5 : Array Value) (gp : Nat) (pr : List Nat) : Prop :=
  ∃ (F : List Nat) (a : Nat) (st : MSt) (vts : List Value) (D : List Bool), MB w w' q vs F a st vts g5 C5 gp pr ∧ TSt P n R pr D st ∧ offN D = 0 ∧ a ≤ 300 + 3000 * n ∧ st.live.length ≤ 40000
set_option maxRecDepth 100000 in
set_option maxHeartbeats 12800000 in
theorem turns_block0 {w w12 : World} {q n P g5 gp gd cap5 a : Nat} {vs : Value} {R : List (List Int)} {G : List (List Nat)} {val : Nat → Value} {C5 : Array Value} {pr : List Nat} {F : List Nat} {st : MSt} {vts : List Value} {D : List Bool}
    (H0_ : RdS w [] vs) (hP : P ≤ 4) (h9 : n ≤ 9) (HC5_ : ∀ k, k < n → C5[k]? = some (val k)) (HR_ : TR n (3 * n) n R) (HG_ : G = gR R n) (HAG_ : AllR G ∧ Good G ∧ G.length = n) (HM_ : MD w w12 q vs F a st vts g5 C5 gp pr gd D) (HT_ : TSt P n R pr D st) (HO_ : offN D + 0 ≤ n) (HV_ : ∀ b, D[b]? = some false → vts[b]? = some (val b)) (Ha_ : a + 3000 * offN D ≤ 300 + 3000 * n) (HLv_ : st.live.length ≤ 40000)
    (c0 c1 c2 c6 c8 c9 c10 c13 c14 c15 c16 c17 c18 c19 c20 c21 c22 c23 c24 c25 c26 c27 c28 c29 c30 c31 c32 c33 c34 c35 c36 c37 c38 c39 c40 c41 c42 c43 c44 c45 c46 c47 c48 c49 c50 c51 c52 c53 c54 c55 c56 c57 c58 c59 c60 c61 c62 c63 c64 c65 c66 c67 c68 c69 c70 c71 c72 c73 c74 c75 c76 c77 c78 c79 c80 c81 c82 c83 c84 c85 c86 c87 c88 c89 c90 c91 c92 c93 c94 c95 c96 c97 c98 c99 c100 c101 c102 c103 c104 c105 c106 c107 c108 c109 c110 c111 c112 c113 c114 c115 c116 c117 c118 c119 c120 c121 c122 c123 c124 c125 c126 c127 c128 c129 c130 c131 c132 c133 c134 c135 c136 c137 c138 c139 c140 c141 c142 c143 c144 c145 c146 c147 c148 c149 c150 c151 c152 c153 c154 c155 c156 c157 c158 c159 c160 c161 c162 c163 c164 c165 c166 c167 c168 c169 c170 c171 c172 c173 c174 c175 c176 c177 c178 c179 c180 c181 c182 c183 c184 c185 c186 c187 c188 c189 c190 c191 c192 c193 c194 c195 c196 c197 c198 c199 c200 c201 c202 c203 c204 c205 c206 c207 c208 c209 c210 c211 c212 c213 c214 c215 c216 c217 c218 c219 c220 c221 c222 c223 c224 c225 c226 c227 c228 c229 c230 c231 c232 c233 c234 c235 c236 c237 c238 c239 c240 c241 c242 c243 c244 c245 c246 c247 c248 c249 c250 c251 c252 c253 c254 c255 c256 c257 c258 c259 c260 c261 c262 c263 c264 c265 c266 c267 c268 c269 c270 c271 c272 c273 c274 c275 c276 c277 c278 c279 c280 c281 c282 c283 c284 c285 c286 c287 c288 c289 c290 c291 c292 c293 c294 c295 c296 c297 c298 c299 c300 c301 c302 c303 c304 c305 c306 c307 c308 c309 c310 c311 c312 c313 c314 c315 c316 c317 c318 c319 c320 c321 c322 c323 c324 c325 c326 c327 c328 c329 c330 c331 c332 c333 c334 c335 c336 c337 c338 c339 c340 c341 c342 c343 c344 c345 c346 c347 c348 c349 c350 c351 c352 c353 c354 c355 c356 c357 c358 c359 c360 c361 c362 c363 c364 c365 c366 c367 c368 c369 c370 c371 c372 c373 c374 c375 c376 c377 c378 c379 c380 c381 c382 c383 c384 c385 c386 c387 c388 c389 c390 c391 c392 c393 c394 c395 c396 c397 c398 c399 c400 c401 c402 c403 c404 c405 c406 c407 c408 c409 c410 c411 c412 c413 c414 : Value) {Q : Exit → Act → World → Prop} (hexit : ∀ (a' : Act) (w' : World), a' = frTs c0 c1 c2 (.pointer (some ⟨q, 0, none⟩)) (.int .i64 (n : Int)) (.slice (some ⟨g5, 0, none⟩) n cap5) c6 (.slice (some ⟨gp, 0, none⟩) n n) c8 c9 c10 (.slice (some ⟨gd, 0, none⟩) n n) c25 c26 c27 c28 c29 c30 c31 c32 c33 c34 c35 c36 c37 c38 c39 c40 c41 c42 c43 c44 c45 c46 c47 c48 c49 c50 c51 c52 c53 c54 c55 c56 c57 c58 c59 c60 c61 c62 c63 c64 c65 c66 c67 c68 c69 c70 c71 c72 c73 c74 c75 c76 c77 c78 c79 c80 c81 c82 c83 c84 c85 c86 c87 c88 c89 c90 c91 c92 c93 c94 c95 c96 c97 c98 c99 c100 c101 c102 c103 c104 c105 c106 c107 c108 c109 c110 c111 c112 c113 c114 c115 c116 c117 c118 c119 c120 c121 c122 c123 c124 c125 c126 c127 c128 c129 c130 c131 c132 c133 c134 c135 c136 c334 c335 c336 c337 c338 c339 c340 c341 c342 c343 c344 c345 c346 c347 c348 c349 c350 c351 c352 c353 c354 c355 c356 c357 c358 c359 c360 c361 c362 c363 c364 c365 c366 c367 c368 c369 c370 c371 c372 c373 c374 c375 c376 c377 c378 c379 c380 c381 c382 c383 c384 c385 c386 c387 c388 c389 c390 c391 c392 c393 c394 c395 c396 c397 c398 c399 c400 c401 c402 c403 c404 c405 c406 c407 c408 c409 c410 c411 c412 c413 c414 (fun k => a'.tmps.toList.getD k undef) → TurnsOk w w' q vs P n R g5 C5 gp pr → Q .normal a' w') :
    Code.wp Try.prog turnsCode Q ⟨#[c0, c1, c2, .pointer (some ⟨q, 0, none⟩), .int .i64 (n : Int), .slice (some ⟨g5, 0, none⟩) n cap5, c6, .slice (some ⟨gp, 0, none⟩) n n, c8, c9, c10, .slice (some ⟨gd, 0, none⟩) n n, .int .i64 0, c13, c14, c15, c16, c17, c18, c19, c20, c21, c22, c23, c24, c25, c26, c27, c28, c29, c30, c31, c32, c33, c34, c35, c36, c37, c38, c39, c40, c41, c42, c43, c44, c45, c46, c47, c48, c49, c50, c51, c52, c53, c54, c55, c56, c57, c58, c59, c60, c61, c62, c63, c64, c65, c66, c67, c68, c69, c70, c71, c72, c73, c74, c75, c76, c77, c78, c79, c80, c81, c82, c83, c84, c85, c86, c87, c88, c89, c90, c91, c92, c93, c94, c95, c96, c97, c98, c99, c100, c101, c102, c103, c104, c105, c106, c107, c108, c109, c110, c111, c112, c113, c114, c115, c116, c117, c118, c119, c120, c121, c122, c123, c124, c125, c126, c127, c128, c129, c130, c131, c132, c133, c134, c135, c136, c137, c138, c139, c140, c141, c142, c143, c144, c145, c146, c147, c148, c149, c150, c151, c152, c153, c154, c155, c156, c157, c158, c159, c160, c161, c162, c163, c164, c165, c166, c167, c168, c169, c170, c171, c172, c173, c174, c175, c176, c177, c178, c179, c180, c181, c182, c183, c184, c185, c186, c187, c188, c189, c190, c191, c192, c193, c194, c195, c196, c197, c198, c199, c200, c201, c202, c203, c204, c205, c206, c207, c208, c209, c210, c211, c212, c213, c214, c215, c216, c217, c218, c219, c220, c221, c222, c223, c224, c225, c226, c227, c228, c229, c230, c231, c232, c233, c234, c235, c236, c237, c238, c239, c240, c241, c242, c243, c244, c245, c246, c247, c248, c249, c250, c251, c252, c253, c254, c255, c256, c257, c258, c259, c260, c261, c262, c263, c264, c265, c266, c267, c268, c269, c270, c271, c272, c273, c274, c275, c276, c277, c278, c279, c280, c281, c282, c283, c284, c285, c286, c287, c288, c289, c290, c291, c292, c293, c294, c295, c296, c297, c298, c299, c300, c301, c302, c303, c304, c305, c306, c307, c308, c309, c310, c311, c312, c313, c314, c315, c316, c317, c318, c319, c320, c321, c322, c323, c324, c325, c326, c327, c328, c329, c330, c331, c332, c333, c334, c335, c336, c337, c338, c339, c340, c341, c342, c343, c344, c345, c346, c347, c348, c349, c350, c351, c352, c353, c354, c355, c356, c357, c358, c359, c360, c361, c362, c363, c364, c365, c366, c367, c368, c369, c370, c371, c372, c373, c374, c375, c376, c377, c378, c379, c380, c381, c382, c383, c384, c385, c386, c387, c388, c389, c390, c391, c392, c393, c394, c395, c396, c397, c398, c399, c400, c401, c402, c403, c404, c405, c406, c407, c408, c409, c410, c411, c412, c413, c414], []⟩ w12 := by
  have H0 := Lib.hid H0_
  have HC5 := Lib.hid HC5_
  have HR := Lib.hid HR_
  have HG := Lib.hid HG_
  have HAG := Lib.hid HAG_
  have HM := Lib.hid HM_
  have HT := Lib.hid HT_
  have HO := Lib.hid HO_
  have HV := Lib.hid HV_
  have Ha := Lib.hid Ha_
  have HLv := Lib.hid HLv_
  have Hexit := Lib.hid hexit
  clear hexit H0_ HC5_ HR_ HG_ HAG_ HM_ HT_ HO_ HV_ Ha_ HLv_
  conv => arg 2; whnf
  go_wp2
  go_loopg [12] n (fun r v12 wx => ∃ (t : Nat) (F : List Nat) (a : Nat) (st : MSt) (vts : List Value) (D : List Bool), v12 = .int .i64 (t : Int) ∧ t ≤ n ∧ Hid (t + r = n) ∧ Hid (MD w wx q vs F a st vts g5 C5 gp pr gd D) ∧ Hid (TSt P n R pr D st) ∧ Hid (offN D + t ≤ n) ∧
    Hid (∀ b, D[b]? = some false → vts[b]? = some (val b)) ∧ Hid (a + 3000 * offN D ≤ 300 + 3000 * n) ∧ Hid (st.live.length ≤ 40000))
  case atStart => exact ⟨0, F, a, st, _, _, rfl, by omega, by simp [Hid], HM, HT, HO, HV, Ha, HLv⟩
  case round =>
    clear HM HT HO HV Ha HLv
    obtain ⟨t, F, a, st, vts, D, rfl, ht, HK, HM, HT, HO, HV, Ha, HLv⟩ := hrel
    obtain ⟨q12, hq12⟩ : ∃ x, x = gk := ⟨_, rfl⟩
    subst hq12
    by_cases hltt : t < n
    · have Hi0 : Hid (TuI G n t 0 D) := TuI.start HO.out
      clear HO
      go_wp2
      go_loopg [13] n (fun r v13 wx => ∃ (b : Nat) (F : List Nat) (a : Nat) (st : MSt) (vts : List Value) (D : List Bool), v13 = .int .i64 (b : Int) ∧ b ≤ n ∧ Hid (b + r = n) ∧ Hid (MD w wx q vs F a st vts g5 C5 gp pr gd D) ∧ Hid (TSt P n R pr D st) ∧ Hid (TuI G n t b D) ∧
        Hid (∀ b, D[b]? = some false → vts[b]? = some (val b)) ∧ Hid (a + 3000 * offN D ≤ 300 + 3000 * n) ∧ Hid (st.live.length ≤ 40000))
      case atStart => exact ⟨0, F, a, st, vts, D, rfl, by omega, by simp [Hid], HM, HT, Hi0, HV, Ha, HLv⟩
      case round =>
        clear HM HT Hi0 HV Ha HLv
        obtain ⟨b, F, a, st, vts, D, rfl, hb, HKb, HM, HT, HI, HV, Ha, HLv⟩ := hrel
        obtain ⟨q13, hq13⟩ : ∃ x, x = gk := ⟨_, rfl⟩
        subst hq13
        by_cases hltb : b < n
        · go_upto_block 9 with (fail)
          refine turn_block0 H0.out hP h9 hltb HC5.out HR.out HG.out HM.out HT.out HI.out HV.out Ha.out HLv.out _ _ _ _ _ _ _ _ _ _ _ _ _ _ _ _ _ _ _ _ _ _ _ _ _ _ _ _ _ _ _ _ _ _ _ _ _ _ _ _ _ _ _ _ _ _ _ _ _ _ _ _ _ _ _ _ _ _ _ _ _ _ _ _ _ _ _ _ _ _ _ _ _ _ _ _ _ _ _ _ _ _ _ _ _ _ _ _ _ _ _ _ _ _ _ _ _ _ _ _ _ _ _ _ _ _ _ _ _ _ _ _ _ _ _ _ _ _ _ _ _ _ _ _ _ _ _ _ _ _ _ _ _ _ _ _ _ _ _ _ _ _ _ _ _ _ _ _ _ _ _ _ _ _ _ _ _ _ _ _ _ _ _ _ _ _ _ _ _ _ _ _ _ _ _ _ _ _ _ _ _ _ _ _ _ _ _ _ _ _ _ _ _ _ _ _ _ _ _ _ _ _ _ _ _ _ _ _ _ _ _ _ _ _ _ _ _ _ _ _ _ _ _ _ _ _ _ _ _ _ _ _ _ _ _ _ _ _ _ _ _ _ _ _ _ _ _ _ _ _ _ _ _ _ _ _ _ _ _ _ _ _ _ _ _ _ _ _ _ _ _ _ _ _ _ _ _ _ _ _ _ _ _ _ _ _ _ _ _ _ _ _ _ _ _ _ _ _ _ _ _ _ _ _ _ _ _ _ _ _ _ _ _ _ _ _ _ _ _ _ _ _ _ _ _ _ _ _ _ _ _ _ _ _ _ _ _ _ _ _ _ _ _ _ _ _ _ _ _ _ _ _ _ _ _ _ _ _ _ _ _ _ _ _ _ _ _ _ _ _ _ _ _ _ _ _ _ _ _ _ _ _ _ _ _ _ _ _ _ _ _ _ _ _ _ _ _ _ _ _ _ _ _ _ _ _ _ _ _ ?_
          intro a' w' ha' hok
          obtain ⟨u, hu⟩ : ∃ u : Nat → Value, a' = frT _ _ _ _ _ _ _ _ _ _ _ _ _ _ _ _ _ _ _ _ _ _ _ _ _ _ _ _ _ _ _ _ _ _ _ _ _ _ _ _ _ _ _ _ _ _ _ _ _ _ _ _ _ _ _ _ _ _ _ _ _ _ _ _ _ _ _ _ _ _ _ _ _ _ _ _ _ _ _ _ _ _ _ _ _ _ _ _ _ _ _ _ _ _ _ _ _ _ _ _ _ _ _ _ _ _ _ _ _ _ _ _ _ _ _ _ _ _ _ _ _ _ _ _ _ _ _ _ _ _ _ _ _ _ _ _ _ _ _ _ _ _ _ _ _ _ _ _ _ _ _ _ _ _ _ _ _ _ _ _ _ _ _ _ _ _ _ _ _ _ _ _ _ _ _ _ _ _ _ _ _ _ _ _ _ _ _ _ _ _ _ _ _ _ _ _ _ _ _ _ _ _ _ _ _ _ _ _ _ _ _ _ _ _ _ _ _ u := ⟨_, ha'⟩
          clear ha' HM HT HI HV Ha HLv
          subst hu
          simp only [frT]
          obtain ⟨F, a, st, vts, D, HM_, HT_, HI_, HV_, Ha_, HLv_⟩ := hok
          have HM := Lib.hid HM_
          have HT := Lib.hid HT_
          have HI := Lib.hid HI_
          have HV := Lib.hid HV_
          have Ha := Lib.hid Ha_
          have HLv := Lib.hid HLv_
          clear HM_ HT_ HI_ HV_ Ha_ HLv_
          go_wp2
          go_roundg (q13 - 1)
          case measure => have := HKb.out; omega
          case rel => exact ⟨b + 1, F, a, st, vts, D, by go_num, by omega, by have := HKb.out; simp only [Hid]; omega, HM, HT, HI, HV, Ha, HLv⟩
        · obtain rfl : n = b := by omega
          clear hltb
          go_wp2
          go_roundg (q12 - 1)
          case measure => have := HK.out; omega
          case rel => exact ⟨t + 1, F, a, st, vts, D, by go_num, by omega, by have := HK.out; simp only [Hid]; omega, HM, HT, HI.out.fin hltt HT.out.dl HAG.out.1 HAG.out.2.1 HAG.out.2.2, HV, Ha, HLv⟩
    · obtain rfl : n = t := by omega
      clear hltt
      go_wp2
      refine Hexit.out _ _ rfl ⟨F, a, st, vts, D, HM.out.mb, HT.out, by have := HO.out; omega, by have := Ha.out; omega, HLv.out⟩
end Go.Proofs.Ytkmgbejhbkbaoaa

/- The maker of functions: what a phi takes of one way. -/
namespace Go.Proofs.Ytkmgbejhbkbaoaa
set_option linter.unusedSimpArgs false
set_option linter.unusedVariables false
open Go.RowKit

noncomputable def stepCode : Code := (Try.f8.body.bind (findBlock 29)).getD .skip
set_option maxRecDepth 100000 in
def frS (c0 c1 c2 c3 c4 c5 c6 c7 c8 c9 c10 c11 c12 c13 c14 c15 c16 c17 c18 c19 c20 c21 c22 c23 c24 c25 c26 c27 c29 c31 c32 c33 c34 c35 c36 c37 c38 c39 c40 c41 c42 c43 c44 c45 c46 c47 c48 c49 c50 c51 c52 c53 c54 c55 c56 c57 c58 c59 c60 c61 c62 c63 c64 c65 c66 c67 c68 c69 c70 c71 c72 c73 c74 c75 c76 c77 c78 c79 c80 c81 c82 c83 c84 c85 c86 c87 c88 c89 c90 c91 c92 c93 c94 c95 c96 c97 c98 c99 c100 c101 c102 c103 c104 c105 c106 c107 c108 c109 c110 c111 c112 c113 c114 c115 c116 c117 c118 c119 c120 c121 c122 c123 c124 c125 c126 c127 c128 c129 c130 c131 c132 c133 c134 c135 c136 c137 c138 c139 c140 c141 c142 c143 c144 c145 c146 c147 c148 c149 c150 c151 c152 c153 c154 c155 c156 c157 c158 c159 c160 c161 c162 c163 c164 c165 c166 c167 c168 c169 c170 c171 c172 c173 c174 c175 c176 c177 c178 c179 c180 c181 c182 c183 c184 c185 c186 c187 c188 c189 c190 c191 c192 c193 c194 c195 c196 c197 c198 c199 c200 c201 c202 c203 c204 c205 c206 c207 c208 c209 c210 c211 c212 c213 c214 c215 c216 c217 c218 c219 c220 c221 c222 c223 c224 c225 c226 c227 c228 c229 c230 c231 c232 c233 c234 c235 c236 c237 c238 c239 c240 c241 c242 c243 c244 c245 c246 c247 c248 c249 c250 c251 c252 c253 c254 c255 c256 c257 c258 c259 c260 c261 c262 c263 c264 c265 c266 c267 c268 c269 c270 c271 c272 c273 c274 c275 c276 c277 c278 c279 c280 c281 c282 c283 c284 c285 c286 c287 c288 c289 c290 c291 c292 c293 c294 c295 c296 c297 c298 c299 c300 c301 c302 c303 c304 c305 c306 c307 c308 c309 c310 c311 c312 c313 c314 c315 c316 c317 c318 c319 c320 c321 c322 c323 c324 c325 c326 c327 c328 c329 c330 c331 c332 c333 c334 c335 c336 c337 c338 c339 c340 c341 c342 c343 c344 c345 c346 c347 c348 c349 c350 c351 c352 c353 c354 c355 c356 c357 c358 c359 c398 c399 c400 c401 c402 c403 c404 c405 c406 c407 c408 c409 c410 c411 c412 c413 c414 : Value) (u : Nat → Value) : Act := ⟨#[c0, c1, c2, c3, c4, c5, c6, c7, c8, c9, c10, c11, c12, c13, c14, c15, c16, c17, c18, c19, c20, c21, c22, c23, c24, c25, c26, c27, u 28, c29, u 30, c31, c32, c33, c34, c35, c36, c37, c38, c39, c40, c41, c42, c43, c44, c45, c46, c47, c48, c49, c50, c51, c52, c53, c54, c55, c56, c57, c58, c59, c60, c61, c62, c63, c64, c65, c66, c67, c68, c69, c70, c71, c72, c73, c74, c75, c76, c77, c78, c79, c80, c81, c82, c83, c84, c85, c86, c87, c88, c89, c90, c91, c92, c93, c94, c95, c96, c97, c98, c99, c100, c101, c102, c103, c104, c105, c106, c107, c108, c109, c110, c111, c112, c113, c114, c115, c116, c117, c118, c119, c120, c121, c122, c123, c124, c125, c126, c127, c128, c129, c130, c131, c132, c133, c134, c135, c136, c137, c138, c139, c140, c141, c142, c143, c144, c145, c146, c147, c148, c149, c150, c151, c152, c153, c154, c155, c156, c157, c158, c159, c160, c161, c162, c163, c164, c165, c166, c167, c168, c169, c170, c171, c172, c173, c174, c175, c176, c177, c178, c179, c180, c181, c182, c183, c184, c185, c186, c187, c188, c189, c190, c191, c192, c193, c194, c195, c196, c197, c198, c199, c200, c201, c202, c203, c204, c205, c206, c207, c208, c209, c210, c211, c212, c213, c214, c215, c216, c217, c218, c219, c220, c221, c222, c223, c224, c225, c226, c227, c228, c229, c230, c231, c232, c233, c234, c235, c236, c237, c238, c239, c240, c241, c242, c243, c244, c245, c246, c247, c248, c249, c250, c251, c252, c253, c254, c255, c256, c257, c258, c259, c260, c261, c262, c263, c264, c265, c266, c267, c268, c269, c270, c271, c272, c273, c274, c275, c276, c277, c278, c279, c280, c281, c282, c283, c284, c285, c286, c287, c288, c289, c290, c291, c292, c293, c294, c295, c296, c297, c298, c299, c300, c301, c302, c303, c304, c305, c306, c307, c308, c309, c310, c311, c312, c313, c314, c315, c316, c317, c318, c319, c320, c321, c322, c323, c324, c325, c326, c327, c328, c329, c330, c331, c332, c333, c334, c335, c336, c337, c338, c339, c340, c341, c342, c343, c344, c345, c346, c347, c348, c349, c350, c351, c352, c353, c354, c355, c356, c357, c358, c359, u 360, u 361, u 362, u 363, u 364, u 365, u 366, u 367, u 368, u 369, u 370, u 371, u 372, u 373, u 374, u 375, u 376, u 377, u 378, u 379, u 380, u 381, u 382, u 383, u 384, u 385, u 386, u 387, u 388, u 389, u 390, u 391, u 392, u 393, u 394, u 395, u 396, u 397, c398, c399, c400, c401, c402, c403, c404, c405, c406, c407, c408, c409, c410, c411, c412, c413, c414], []⟩

/-- what the step leaves -/
def StepOk (w w' wz wp : World) (q : Nat) (vs : Value) (P n : Nat) (R : List (List Int)) (vts : List Value) (g5 : Nat) (C5 : Array Value) (gp : Nat) (pr : List Nat) (b i m : Nat) (L : List Nat) (gr cp : Nat) (k c : Nat) (vI : Value) : Prop :=
  ∃ (F : List Nat) (a : Nat) (st : MSt) (c' : Nat) (Si : List Nat) (ins : List JIn), MB w w' q vs F a st vts g5 C5 gp pr ∧ FSt P n R pr b i c' st ∧ c' ≤ c + 1 ∧ a ≤ m + 2100 ∧ st.live.length ≤ m + 2100 ∧ Bes wp w' F kNat 3 [gr] (.slice (some ⟨gr, 0, none⟩) L.length cp) L ∧ Bes wz w' F kIn 49 Si vI ins ∧
    PartOk (P : Int) st.blocks L (k + 1) ins ∧ wz.heap.size ≤ w'.heap.size
set_option maxRecDepth 100000 in
set_option maxHeartbeats 12800000 in
theorem step_block0 {w wz wp wx : World} {q n P g5 gp b i k c a m gr cp np : Nat} {vs vI : Value} {R : List (List Int)} {C5 : Array Value} {pr : List Nat} {F Si : List Nat} {st : MSt} {vts : List Value} {L : List Nat} {ins : List JIn}
    (H0_ : RdS w [] vs) (hP : P ≤ 4) (h9 : n ≤ 9) (HR_ : TR n (3 * n) n R) (HL_ : predsR R (b : Int) = L) (hk : k < np) (HN_ : np = L.length) (HM_ : MB w wx q vs F a st vts g5 C5 gp pr) (HT_ : FSt P n R pr b i c st) (HB_ : Bes wp wx F kNat 3 [gr] (.slice (some ⟨gr, 0, none⟩) L.length cp) L) (HI_ : Bes wz wx F kIn 49 Si vI ins) (HPt_ : PartOk (P : Int) st.blocks L k ins)
    (hz_ : gr < wz.heap.size) (hz2_ : w.heap.size < wz.heap.size ∧ g5 < wz.heap.size ∧ gp < wz.heap.size) (hz3_ : wz.heap.size ≤ wx.heap.size) (Ha_ : a ≤ m) (hm : m ≤ 800000) (hLv_ : st.live.length ≤ m) (hc : c ≤ 300)
    (c0 c1 c2 c4 c5 c6 c7 c8 c9 c10 c11 c12 c13 c14 c15 c16 c17 c18 c19 c20 c21 c22 c23 c24 c25 c27 c30 c31 c32 c33 c34 c35 c36 c37 c38 c39 c40 c41 c42 c43 c44 c45 c46 c47 c48 c49 c50 c51 c52 c53 c54 c55 c56 c57 c58 c59 c60 c61 c62 c63 c64 c65 c66 c67 c68 c69 c70 c71 c72 c73 c74 c75 c76 c77 c78 c79 c80 c81 c82 c83 c84 c85 c86 c87 c88 c89 c90 c91 c92 c93 c94 c95 c96 c97 c98 c99 c100 c101 c102 c103 c104 c105 c106 c107 c108 c109 c110 c111 c112 c113 c114 c115 c116 c117 c118 c119 c120 c121 c122 c123 c124 c125 c126 c127 c128 c129 c130 c131 c132 c133 c134 c135 c136 c137 c138 c139 c140 c141 c142 c143 c144 c145 c146 c147 c148 c149 c150 c151 c152 c153 c154 c155 c156 c157 c158 c159 c160 c161 c162 c163 c164 c165 c166 c167 c168 c169 c170 c171 c172 c173 c174 c175 c176 c177 c178 c179 c180 c181 c182 c183 c184 c185 c186 c187 c188 c189 c190 c191 c192 c193 c194 c195 c196 c197 c198 c199 c200 c201 c202 c203 c204 c205 c206 c207 c208 c209 c210 c211 c212 c213 c214 c215 c216 c217 c218 c219 c220 c221 c222 c223 c224 c225 c226 c227 c228 c229 c230 c231 c232 c233 c234 c235 c236 c237 c238 c239 c240 c241 c242 c243 c244 c245 c246 c247 c248 c249 c250 c251 c252 c253 c254 c255 c256 c257 c258 c259 c260 c261 c262 c263 c264 c265 c266 c267 c268 c269 c270 c271 c272 c273 c274 c275 c276 c277 c278 c279 c280 c281 c282 c283 c284 c285 c286 c287 c288 c289 c290 c291 c292 c293 c294 c295 c296 c297 c298 c299 c300 c301 c302 c303 c304 c305 c306 c307 c308 c309 c310 c311 c312 c313 c314 c315 c316 c317 c318 c319 c320 c321 c322 c323 c324 c325 c326 c327 c328 c329 c330 c331 c332 c333 c334 c335 c336 c337 c338 c339 c340 c341 c342 c343 c344 c345 c346 c347 c348 c349 c350 c351 c352 c353 c354 c355 c356 c357 c358 c359 c360 c361 c362 c363 c364 c365 c366 c367 c368 c369 c370 c371 c372 c373 c374 c375 c376 c377 c378 c379 c380 c381 c382 c383 c384 c385 c386 c387 c388 c389 c390 c391 c392 c393 c394 c395 c396 c397 c398 c399 c400 c401 c402 c403 c404 c405 c406 c407 c408 c409 c410 c411 c412 c413 c414 : Value) {Q : Exit → Act → World → Prop} (hexit : ∀ (a' : Act) (w' : World) (vI : Value), a' = frS c0 c1 c2 (.pointer (some ⟨q, 0, none⟩)) c4 c5 c6 c7 c8 c9 c10 c11 c12 c13 c14 c15 c16 c17 c18 c19 c20 c21 c22 c23 c24 c25 (.slice (some ⟨gr, 0, none⟩) np cp) c27 (.int .i64 (k : Int)) c31 c32 c33 c34 c35 c36 c37 c38 c39 c40 c41 c42 c43 c44 c45 c46 c47 c48 c49 c50 c51 c52 c53 c54 c55 c56 c57 c58 c59 c60 c61 c62 c63 c64 c65 c66 c67 c68 c69 c70 c71 c72 c73 c74 c75 c76 c77 c78 c79 c80 c81 c82 c83 c84 c85 c86 c87 c88 c89 c90 c91 c92 c93 c94 c95 c96 c97 c98 c99 c100 c101 c102 c103 c104 c105 c106 c107 c108 c109 c110 c111 c112 c113 c114 c115 c116 c117 c118 c119 c120 c121 c122 c123 c124 c125 c126 c127 c128 c129 c130 c131 c132 c133 c134 c135 c136 c137 c138 c139 c140 c141 c142 c143 c144 c145 c146 c147 c148 c149 c150 c151 c152 c153 c154 c155 c156 c157 c158 c159 c160 c161 c162 c163 c164 c165 c166 c167 c168 c169 c170 c171 c172 c173 c174 c175 c176 c177 c178 c179 c180 c181 c182 c183 c184 c185 c186 c187 c188 c189 c190 c191 c192 c193 c194 c195 c196 c197 c198 c199 c200 c201 c202 c203 c204 c205 c206 c207 c208 c209 c210 c211 c212 c213 c214 c215 c216 c217 c218 c219 c220 c221 c222 c223 c224 c225 c226 c227 c228 c229 c230 c231 c232 c233 c234 c235 c236 c237 c238 c239 c240 c241 c242 c243 c244 c245 c246 c247 c248 c249 c250 c251 c252 c253 c254 c255 c256 c257 c258 c259 c260 c261 c262 c263 c264 c265 c266 c267 c268 c269 c270 c271 c272 c273 c274 c275 c276 c277 c278 c279 c280 c281 c282 c283 c284 c285 c286 c287 c288 c289 c290 c291 c292 c293 c294 c295 c296 c297 c298 c299 c300 c301 c302 c303 c304 c305 c306 c307 c308 c309 c310 c311 c312 c313 c314 c315 c316 c317 c318 c319 c320 c321 c322 c323 c324 c325 c326 c327 c328 c329 c330 c331 c332 c333 c334 c335 c336 c337 c338 c339 c340 c341 c342 c343 c344 c345 c346 c347 c348 c349 c350 c351 c352 c353 c354 c355 c356 c357 c358 c359 c398 c399 c400 c401 c402 c403 c404 c405 c406 c407 c408 c409 c410 c411 c412 c413 c414 (fun k => a'.tmps.toList.getD k undef) → a'.tmps.toList.getD 28 undef = vI → StepOk w w' wz wp q vs P n R vts g5 C5 gp pr b i m L gr cp k c vI → Q .normal a' w') :
    Code.wp Try.prog stepCode Q ⟨#[c0, c1, c2, .pointer (some ⟨q, 0, none⟩), c4, c5, c6, c7, c8, c9, c10, c11, c12, c13, c14, c15, c16, c17, c18, c19, c20, c21, c22, c23, c24, c25, .slice (some ⟨gr, 0, none⟩) np cp, c27, vI, .int .i64 (k : Int), c30, c31, c32, c33, c34, c35, c36, c37, c38, c39, c40, c41, c42, c43, c44, c45, c46, c47, c48, c49, c50, c51, c52, c53, c54, c55, c56, c57, c58, c59, c60, c61, c62, c63, c64, c65, c66, c67, c68, c69, c70, c71, c72, c73, c74, c75, c76, c77, c78, c79, c80, c81, c82, c83, c84, c85, c86, c87, c88, c89, c90, c91, c92, c93, c94, c95, c96, c97, c98, c99, c100, c101, c102, c103, c104, c105, c106, c107, c108, c109, c110, c111, c112, c113, c114, c115, c116, c117, c118, c119, c120, c121, c122, c123, c124, c125, c126, c127, c128, c129, c130, c131, c132, c133, c134, c135, c136, c137, c138, c139, c140, c141, c142, c143, c144, c145, c146, c147, c148, c149, c150, c151, c152, c153, c154, c155, c156, c157, c158, c159, c160, c161, c162, c163, c164, c165, c166, c167, c168, c169, c170, c171, c172, c173, c174, c175, c176, c177, c178, c179, c180, c181, c182, c183, c184, c185, c186, c187, c188, c189, c190, c191, c192, c193, c194, c195, c196, c197, c198, c199, c200, c201, c202, c203, c204, c205, c206, c207, c208, c209, c210, c211, c212, c213, c214, c215, c216, c217, c218, c219, c220, c221, c222, c223, c224, c225, c226, c227, c228, c229, c230, c231, c232, c233, c234, c235, c236, c237, c238, c239, c240, c241, c242, c243, c244, c245, c246, c247, c248, c249, c250, c251, c252, c253, c254, c255, c256, c257, c258, c259, c260, c261, c262, c263, c264, c265, c266, c267, c268, c269, c270, c271, c272, c273, c274, c275, c276, c277, c278, c279, c280, c281, c282, c283, c284, c285, c286, c287, c288, c289, c290, c291, c292, c293, c294, c295, c296, c297, c298, c299, c300, c301, c302, c303, c304, c305, c306, c307, c308, c309, c310, c311, c312, c313, c314, c315, c316, c317, c318, c319, c320, c321, c322, c323, c324, c325, c326, c327, c328, c329, c330, c331, c332, c333, c334, c335, c336, c337, c338, c339, c340, c341, c342, c343, c344, c345, c346, c347, c348, c349, c350, c351, c352, c353, c354, c355, c356, c357, c358, c359, c360, c361, c362, c363, c364, c365, c366, c367, c368, c369, c370, c371, c372, c373, c374, c375, c376, c377, c378, c379, c380, c381, c382, c383, c384, c385, c386, c387, c388, c389, c390, c391, c392, c393, c394, c395, c396, c397, c398, c399, c400, c401, c402, c403, c404, c405, c406, c407, c408, c409, c410, c411, c412, c413, c414], []⟩ wx := by
  have H0 := Lib.hid H0_
  have HR := Lib.hid HR_
  have HLL := Lib.hid HL_
  have HN := Lib.hid HN_
  have HM := Lib.hid HM_
  have HT := Lib.hid HT_
  have HB := Lib.hid HB_
  have HI := Lib.hid HI_
  have HPt := Lib.hid HPt_
  have Hz := Lib.hid hz_
  have Hz2 := Lib.hid hz2_
  have Hz3 := Lib.hid hz3_
  have Ha := Lib.hid Ha_
  have HLv := Lib.hid hLv_
  have Hexit := Lib.hid hexit
  clear hexit H0_ HR_ HL_ HN_ HM_ HT_ HB_ HI_ HPt_ hz_ hz2_ hz3_ Ha_ hLv_
  conv => arg 2; whnf
  have Hto := Lib.hid (to_bound HR.out HT.out.to)
  have Hlen : Hid (st.blocks.length = n) := HT.out.len
  have HPar : Hid (st.params = (P : Int)) := HT.out.par
  have hkL : k < L.length := by rw [← HN.out]; exact hk
  obtain ⟨g0, c0', hv0, hS0, kp, -⟩ := HB.out.row.cell k hkL
  have hg0 : g0 = gr := by
    have := congrArg (fun v => v.ownBlock) hv0
    simpa [Value.ownBlock] using this.symm
  rw [hg0] at kp
  obtain ⟨pk, hpk⟩ : ∃ x, x = L[k]'hkL := ⟨_, rfl⟩
  rw [← hpk] at kp
  have HPk := Lib.hid hpk
  have hpkn : pk < n := by
    have h1 : L[k]'hkL ∈ predsT st.blocks (b : Int) := by rw [preds_R HT.out.to, HLL.out]; exact List.getElem_mem _
    have := predsT_lt h1
    rw [HT.out.len] at this; omega
  obtain ⟨A3, cap3, S3, y2, y3, hfn, -, -, -⟩ := HM.out.mi.m.fn
  rw [HPar.out, Hlen.out] at hfn
  rw [HPar.out] at y2
  rw [Hlen.out] at y3
  have Hfn := Lib.hid hfn
  clear hpk hfn hv0 hS0 hg0 g0 c0'
  have HM0 := Lib.hid (HM.out.ext0 ((Ext.refl [] wx).drew))
  have HB0 := Lib.hid (HB.out.ext0 ((Ext.refl [] wx).drew))
  have HI0 := Lib.hid (HI.out.ext0 ((Ext.refl [] wx).drew))
  have hC0 : wx.drew.cell? ⟨q, 2, none⟩ = some (.int .i64 (P : Int)) ∧ wx.drew.cell? ⟨q, 3, none⟩ = some (.slice A3 n cap3) ∧ wx.drew.cell? ⟨gr, k, none⟩ = some (.int .i64 (pk : Int)) := ⟨y2, y3, kp⟩
  have hszx : Hid (∀ k ∈ Si, k < wx.heap.size) := HI.out.row.lt
  have Hzx := Lib.hid HM.out.lts
  obtain ⟨AI, cI, hvI, -⟩ := HI.out.row.shape
  subst hvI
  clear HM HB HI y2 y3 kp
  go_wp2
  refine wp_region_rt (fun W => W.cell? ⟨q, 2, none⟩ = some (.int .i64 (P : Int)) ∧ W.cell? ⟨q, 3, none⟩ = some (.slice A3 n cap3) ∧ W.cell? ⟨gr, k, none⟩ = some (.int .i64 (pk : Int)))
    (.q 0 (.q 1 (.q 2 (.q 3 (.q 4 (.q 5 (.q 6 (.q 7 (.e 8 (.fin 9)))))))))) (by kernel_rfl) (by kernel_rfl) hC0 ?_
  repeat (refine rt_quiet _ rfl rfl (fun W' hC => by conv => lhs; simp [go_sem, hC.1, hC.2.1, hC.2.2, hk]) ?_; simp only [put_lit, put_none, List.set_cons_succ, List.set_cons_zero])
  refine s_call (w' := wx.drew) rfl rfl (by simp [go_sem]) ((standing_calls (Hfn.out.ext ((Ext.refl [] wx).drew) (by simp)) (by show 0 < st.blocks.length; rw [Hlen.out]; omega) (by show st.blocks.length ≤ _; rw [Hlen.out]; omega)
    (fun x hx => by
      obtain ⟨y, hy, rfl⟩ := List.getElem_of_mem hx
      have h1 := HT.out.ph y hy
      have h2 := HT.out.ple y
      have h3 := HT.out.il y hy
      exact ⟨by show (st.blocks[y]'hy).phis.length ≤ _; omega, by show (st.blocks[y]'hy).ins.length ≤ _; omega⟩) (fun x hx y hy => by have := HT.out.sm x hx y hy; omega)
    (fun x hx => by have := (Hto.out x hx).1; omega) (fun x hx t ht => by have := (Hto.out x hx).2 t ht; show 0 ≤ t ∧ t < (st.blocks.length : Int); rw [Hlen.out]; omega) P rfl (by omega) pk (by show pk < st.blocks.length; rw [Hlen.out]; exact hpkn)).mono ?_)
  rintro e w1 ⟨v1, S1, l, rfl, hl1, hnew1, hll, hst⟩
  obtain ⟨A1, c1', rfl, -⟩ := hl1.shape
  have hx1 := hnew1.ext
  have hC1 : w1.cell? ⟨q, 2, none⟩ = some (.int .i64 (P : Int)) ∧ w1.cell? ⟨q, 3, none⟩ = some (.slice A3 n cap3) ∧ w1.cell? ⟨gr, k, none⟩ = some (.int .i64 (pk : Int)) := ⟨hx1.cell hC0.1 (by simp), hx1.cell hC0.2.1 (by simp), hx1.cell hC0.2.2 (by simp)⟩
  refine ⟨_, rfl, hC1, ?_⟩
  simp only [put_lit, put_none, List.set_cons_succ, List.set_cons_zero]
  refine fin_eff (w' := w1) (.slice A1 l.length c1') rfl rfl (by simp [go_sem]) ?_
  simp only [put_lit, put_none, List.set_cons_succ, List.set_cons_zero]
  have HM1 := Lib.hid (HM0.out.ext0 hx1)
  have HB1 := Lib.hid (HB0.out.ext0 hx1)
  have HI1 := Lib.hid (HI0.out.ext0 hx1)
  have hltF := HM0.out.mi.m.lt
  have HL1 : Hid (Bes wx w1 F kInt 3 S1 (.slice A1 l.length c1') l) := ⟨hl1, fun h hk hk2 => by have := hnew1.fresh h hk; have := hltF h hk2; omega, fun h hk => by have := hnew1.fresh h hk; simpa using this, hnew1.nodup⟩
  have hll2 : l.length ≤ 20000 := by
    have h3 := thT_len2 (bs := st.blocks) (B := 360) (fun x hx => by
      obtain ⟨y, hy, rfl⟩ := List.getElem_of_mem hx
      have h1 := HT.out.ph y hy
      have h2 := HT.out.ple y
      have h3 := HT.out.il y hy
      omega) st.blocks.length (Nat.le_refl _)
    have h5 : st.blocks.length * (360 + 1) ≤ 9 * 361 := Nat.mul_le_mul (by rw [Hlen.out]; exact h9) (Nat.le_refl _)
    simp only at hll
    omega
  have HLS : Hid (∀ y ∈ l, Stand (P : Int) st.blocks y pk (st.blocks[pk]'(by rw [Hlen.out]; exact hpkn)).ins.length) := fun y hy => standV_stand (by rw [Hlen.out]; exact hpkn) (hst y hy)
  have hsz1 : Hid (wx.heap.size ≤ w1.heap.size) := by have := hx1.size; simpa [Hid] using this
  clear hltF hx1 hnew1 hl1 hst hC0 HM0 HB0 HI0 hll
  have kp := hC1.2.2
  clear hC1
  go_upto_if 371 with (fail)
  go_cut [30] from 360 to 382 (fun v30 wc => ∃ (F : List Nat) (a : Nat) (st : MSt) (c' : Nat) (S1 : List Nat) (l : List Int), Hid (MB w wc q vs F a st vts g5 C5 gp pr) ∧ Hid (FSt P n R pr b i c' st) ∧ Hid (c' ≤ c + 1) ∧ Hid (a ≤ m + 2099) ∧ Hid (st.live.length ≤ m + 3) ∧ Hid (Bes wp wc F kNat 3 [gr] (.slice (some ⟨gr, 0, none⟩) L.length cp) L) ∧ Hid (Bes wz wc F kIn 49 Si (.slice AI ins.length cI) ins) ∧
    Hid (PartOk (P : Int) st.blocks L k ins) ∧ Hid (Bes wx wc F kInt 3 S1 v30 l) ∧ 0 < l.length ∧ l.length ≤ 20000 ∧ Hid (∀ y ∈ l, ∃ h : pk < st.blocks.length, Stand (P : Int) st.blocks y pk (st.blocks[pk]'h).ins.length) ∧ Hid (wx.heap.size ≤ wc.heap.size))
  case first =>
    by_cases hl0 : l.length = 0
    · skip
      -- [[none
      obtain rfl : l = [] := List.eq_nil_of_length_eq_zero hl0
      simp only [List.length_nil] at HL1 ⊢
      have HS1 : Hid (Sm (m + 2000) a st) := by
        have h1 := HT.out.nx
        have h2 := HLv.out
        have h3 := Ha.out
        refine ⟨by omega, by omega, by omega, fun x hx => ?_⟩
        obtain ⟨y, hy, rfl⟩ := List.getElem_of_mem hx
        have := HT.out.il y hy
        omega
      have HM2 := Lib.hid (HM1.out.ext0 ((Ext.refl [] w1).drew))
      have HB2 := Lib.hid (HB1.out.ext0 ((Ext.refl [] w1).drew))
      have HI2 := Lib.hid (HI1.out.ext0 ((Ext.refl [] w1).drew))
      have HL2 := Lib.hid (HL1.out.ext0 ((Ext.refl [] w1).drew))
      have kp2 : w1.drew.cell? ⟨gr, k, none⟩ = some (.int .i64 (pk : Int)) := kp
      have hgrF : Hid (gr ∉ F) := HB1.out.off gr (by simp)
      clear HM1 HB1 HI1 HL1 HLS hll2 hl0
      go_wp2
      refine wp_region_rt (fun W => W.cell? ⟨gr, k, none⟩ = some (.int .i64 (pk : Int))) (.q 0 (.q 1 (.q 2 (.q 3 (.q 4 (.q 5 (.q 6 (.e 7 (.e 8 (.e 9 (.e 10 (.fin 11)))))))))))) (by kernel_rfl) (by kernel_rfl) kp2 ?_
      repeat (refine rt_quiet _ rfl rfl (fun W' hC => by conv => lhs; simp [go_sem, hC, hk]) ?_; simp only [put_lit, put_none, List.set_cons_succ, List.set_cons_zero])
      refine s_call (w' := w1.drew) rfl rfl (by simp [go_sem]) ((wordG HM2.out.mi.m HS1.out (by omega) pk).mono ?_)
      rintro e w2 ⟨r, a2, rfl, g2⟩
      have kp3 : w2.cell? ⟨gr, k, none⟩ = some (.int .i64 (pk : Int)) := g2.fp.1.cell kp2 hgrF.out
      have HM3 := Lib.hid (HM2.out.stepE g2.mm g2.fp)
      have HB3 := Lib.hid (HB2.out.step g2.fp)
      have HI3 := Lib.hid (HI2.out.step g2.fp)
      have HL3 := Lib.hid (HL2.out.step g2.fp)
      have Hs3 := Lib.hid g2.sm
      have hz2' := g2.fp.1.size
      clear g2 HM2 HB2 HI2 HL2
      refine ⟨_, rfl, kp3, ?_⟩
      simp only [put_lit, put_none, List.set_cons_succ, List.set_cons_zero]
      have hpkb : pk < st.blocks.length := by rw [Hlen.out]; exact hpkn
      refine s_call (w' := w2) rfl rfl (by simp [go_sem]) ((constG HM3.out.mi.m Hs3.out (by omega) pk hpkb (by rw [Hlen.out]; omega) r).mono ?_)
      rintro e w3 ⟨a3, F3, rfl, g3⟩
      have kp4 : w3.cell? ⟨gr, k, none⟩ = some (.int .i64 (pk : Int)) := g3.fp.1.cell kp3 hgrF.out
      have HM4 := Lib.hid (HM3.out.stepE g3.mm g3.fp)
      have HB4 := Lib.hid (HB3.out.step g3.fp)
      have HI4 := Lib.hid (HI3.out.step g3.fp)
      have HL4 := Lib.hid (HL3.out.step g3.fp)
      have hz3' := g3.fp.1.size
      have ha3 : a3 ≤ m + 2000 + 2 + 2 := g3.sm.1
      have HT4 := HT.out.const pk hpkb r
      have HP4 := Lib.hid (HPt.out.const pk r)
      have HT4a := Lib.hid HT4.1
      have HT4b := Lib.hid HT4.2
      have hlv4 : (st.fresh.addI pk ⟨1, st.next, 0, [], r⟩).live.length = st.live.length + 1 := by simp [MSt.addI, MSt.fresh, makesF]
      obtain ⟨st4, hst4⟩ : ∃ x, x = st.fresh.addI pk ⟨1, st.next, 0, [], r⟩ := ⟨_, rfl⟩
      obtain ⟨nx, hnx⟩ : ∃ x, x = st.next := ⟨_, rfl⟩
      have hbl4 : st4.blocks.length = n := by rw [hst4]; simpa [MSt.addI, MSt.fresh] using Hlen.out
      have HS4 : Hid (∀ y ∈ [nx], ∃ h : pk < st4.blocks.length, Stand (P : Int) st4.blocks y pk (st4.blocks[pk]'h).ins.length) := by
        intro y hy
        simp at hy
        subst hy
        refine ⟨by rw [hbl4]; exact hpkn, ?_⟩
        subst hst4
        rw [hnx]
        exact HT4b.out
      rw [← hst4] at HM4 HT4a HP4 hlv4
      rw [← hnx]
      clear g3 HM3 HB3 HI3 HL3 HT4 HT4b hst4 hnx hbl4
      refine ⟨_, rfl, kp4, ?_⟩
      simp only [put_lit, put_none, List.set_cons_succ, List.set_cons_zero]
      obtain ⟨w4, hw4⟩ : ∃ z, z = w3.alloc (.cells #[.int .i64 nx] 3) := ⟨_, rfl⟩
      have hx4 : Ext [] w3 w4 := by rw [hw4]; exact (Ext.refl _ _).alloc _
      have hsrc : Src w4 (.slice (some ⟨w3.heap.size, 0, none⟩) 1 1) 1 [.int .i64 nx] := by rw [hw4]; exact Src.blk (cs := [.int .i64 nx]) 1
      have kp5 := hx4.cell kp4 (by simp)
      have HM5 := Lib.hid (HM4.out.ext0 hx4)
      have HL5 := Lib.hid (HL4.out.ext0 hx4)
      obtain ⟨v', w5, S', hrun, hs', hxx, hf', hn'⟩ := run_append_sl (ty := 22) (d := kInt) (ys := [nx]) ei_int HL5.out.row (.slice (some ⟨w3.heap.size, 0, none⟩) 1 1) [.int .i64 nx] [[]] elems_one rfl (one_one rfl) hsrc (by simp) (le_maxLen (by simp)) (le_bytes (n := ([] : List Int).length) (by simp) (by decide))
      have hltF := HM5.out.mi.m.lt
      have hnewL := HL5.out.new
      have hsz4 : wx.heap.size ≤ w4.heap.size := by
        have h2 := hsz1.out
        have h3 := hx4.size
        simp at hz2'
        omega
      obtain ⟨p1, p2⟩ := HM5.out.beside H0.out HL5.out Hzx.out hxx hs' (fun x hx => by
        rcases hf' x hx with h2 | h2 | h2
        · exact .inl h2
        · exact .inr ⟨fun h3 => by have := hltF x h3; omega, by omega⟩
        · simp at h2) (hn' HL5.out.nd (by simp))
      have HM6 := Lib.hid p1
      have HL6 := Lib.hid p2
      have hgS1 : gr ∉ S1 := fun h => by have := hnewL gr h; have := Hz.out; have := Hz3.out; omega
      have HB6 := Lib.hid ((HB4.out.ext0 hx4).ext hxx (by intro x hx; simp at hx; subst hx; exact hgS1))
      have HI6 := Lib.hid ((HI4.out.ext0 hx4).ext hxx (fun x hx h => by have := hnewL x h; have := hszx.out x hx; omega))
      have kp6 := hxx.cell kp5 hgS1
      have hsz5 : Hid (wx.heap.size ≤ w5.heap.size) := by have := hxx.size; simp only [Hid]; omega
      clear p1 p2 hs' hxx hf' hn' hsrc hx4 HM4 HB4 HI4 HL4 HM5 HL5 hltF hnewL hgS1 kp3 kp4 hsz4
      refine s_eff (.slice (some ⟨w3.heap.size, 0, none⟩) 1 1) (w' := w4) rfl rfl (by rw [hw4]; simp [go_sem]) ⟨kp5, ?_⟩
      simp only [put_lit, put_none, List.set_cons_succ, List.set_cons_zero]
      refine s_eff v' (w' := w5) rfl rfl (exec_append rfl rfl rfl hrun) ⟨kp6, ?_⟩
      simp only [put_lit, put_none, List.set_cons_succ, List.set_cons_zero]
      refine fin_eff (w' := w5) v' rfl rfl (by simp [go_sem]) ?_
      simp only [put_lit, put_none, List.set_cons_succ, List.set_cons_zero]
      clear hrun kp5 kp6 kp2 hw4
      go_wp2
      go_meet
      exact ⟨F3, a3, st4, c + 1, S', [nx], HM6, HT4a, by simp [Hid], by simp only [Hid]; omega, by have := HLv.out; rw [Hid, hlv4]; omega, HB6, HI6, HP4, HL6, by simp, by simp, HS4, hsz5⟩
      -- none]]
    · have e0 : ((l.length : Int) == 0) = false := by simp only [beq_eq_false_iff_ne, ne_eq]; omega
      go_wp2
      go_meet
      exact ⟨F, a, st, c, S1, l, HM1, HT, by simp [Hid], by have := Ha.out; simp only [Hid]; omega, by have := HLv.out; simp only [Hid]; omega, HB1, HI1, HPt, HL1, by omega, hll2, fun y hy => ⟨by rw [Hlen.out]; exact hpkn, HLS.out y hy⟩, hsz1⟩
  case rest =>
    obtain ⟨F, a, st, c', S1, l, HM, HT, Hc', Ha', HLv', HB, HI, HPt, HL, hl0, hl9, HS, Hsz⟩ := hcut
    clear HM1 HB1 HI1 HL1 hll2 HLS hsz1 kp
    obtain ⟨gl, cl, hv30, hSl, -, -⟩ := HL.out.row.cell 0 hl0
    subst hv30
    have hcl : ∀ x (hx : x < l.length), wc.drew.cell? ⟨gl, x, none⟩ = some (.int .i64 (l[x]'hx)) := fun x hx => by
      obtain ⟨g', cl', hv', -, hc', -⟩ := HL.out.row.cell x hx
      injection hv' with e1
      injection e1 with e1
      injection e1 with e1
      rw [e1]; exact hc'
    obtain ⟨g0, c0', hv0, -, kp, -⟩ := HB.out.row.cell k hkL
    have hg0 : g0 = gr := by
      have := congrArg (fun v => v.ownBlock) hv0
      simpa [Value.ownBlock] using this.symm
    rw [hg0, ← HPk.out] at kp
    have hgrF : Hid (gr ∉ F) := HB.out.off gr (by simp)
    have Hgl : Hid (wx.heap.size ≤ gl) := HL.out.new gl (by rw [hSl]; simp)
    have hglF : Hid (gl ∉ F) := HL.out.off gl (by rw [hSl]; simp)
    have hC0 : wc.drew.cell? ⟨gr, k, none⟩ = some (.int .i64 (pk : Int)) ∧ ∀ x (hx : x < l.length), wc.drew.cell? ⟨gl, x, none⟩ = some (.int .i64 (l[x]'hx)) := ⟨kp, hcl⟩
    have HM0 := Lib.hid (HM.out.ext0 ((Ext.refl [] wc).drew))
    have HB0 := Lib.hid (HB.out.ext0 ((Ext.refl [] wc).drew))
    have HI0 := Lib.hid (HI.out.ext0 ((Ext.refl [] wc).drew))
    have hil : Hid (ins.length ≤ 100) := by
      have := congrArg List.length HPt.out.1
      simp only [List.length_map, List.length_take] at this
      have h1 := preds_R HT.out.to (b : Int)
      have h2 := List.length_filter_le (fun p => (st.blocks.getD p default).term.to.contains (b : Int)) (List.range st.blocks.length)
      have h3 : (predsT st.blocks (b : Int)).length ≤ st.blocks.length := by simpa [predsT] using h2
      rw [h1, HLL.out, HT.out.len] at h3
      simp only [Hid]; omega
    clear HM HB HI HL hv0 hg0 g0 c0' kp hcl hSl
    go_wp2
    refine wp_region_rt (fun W => W.cell? ⟨gr, k, none⟩ = some (.int .i64 (pk : Int)) ∧ ∀ x (hx : x < l.length), W.cell? ⟨gl, x, none⟩ = some (.int .i64 (l[x]'hx))) (.q 0 (.q 1 (.q 2 (.q 3 (.q 4 (.q 5 (.q 6 (.q 7 (.q 8 (.e 9 (.q 10 (.q 11 (.q 12 (.e 13 (.e 14 (.fin 15)))))))))))))))) (by kernel_rfl) (by kernel_rfl) hC0 ?_
    repeat (refine rt_quiet _ rfl rfl (fun W' hC => by conv => lhs; simp [go_sem, hC.1, hk]) ?_; simp only [put_lit, put_none, List.set_cons_succ, List.set_cons_zero])
    refine s_call (w' := wc.drew) rfl rfl (by simp [go_sem]) ((take_calls HM0.out.mi.m (by have := Ha'.out; omega) (l.length : Int) (by omega) (by omega)).mono ?_)
    rintro e w2 ⟨r, hr, rfl, m2, hx2⟩
    have hr' : r < l.length := by omega
    have hC1 : w2.cell? ⟨gr, k, none⟩ = some (.int .i64 (pk : Int)) ∧ ∀ x (hx : x < l.length), w2.cell? ⟨gl, x, none⟩ = some (.int .i64 (l[x]'hx)) := ⟨hx2.cell hC0.1 hgrF.out, fun x hx => hx2.cell (hC0.2 x hx) hglF.out⟩
    have HM2 := Lib.hid (HM0.out.same m2 hx2)
    have HB2 := Lib.hid (HB0.out.step (F' := F) ⟨hx2, fun _ h => .inl h⟩)
    have HI2 := Lib.hid (HI0.out.step (F' := F) ⟨hx2, fun _ h => .inl h⟩)
    have hz2' := hx2.size
    clear m2 hx2 HM0 HB0 HI0 hC0
    obtain ⟨y, hy⟩ : ∃ y, y = l[r]'hr' := ⟨_, rfl⟩
    refine ⟨_, rfl, hC1, ?_⟩
    simp only [put_lit, put_none, List.set_cons_succ, List.set_cons_zero]
    refine rt_quiet (.pointer (some ⟨gl, r, none⟩)) rfl rfl (fun W' hC => by simp [go_sem, hr']) ?_
    simp only [put_lit, put_none, List.set_cons_succ, List.set_cons_zero]
    refine rt_quiet (.int .i64 y) rfl rfl (fun W' hC => by simp [go_sem, hC.2 r hr', hy]) ?_
    simp only [put_lit, put_none, List.set_cons_succ, List.set_cons_zero]
    repeat (refine rt_quiet _ rfl rfl (fun W' hC => by conv => lhs; simp [go_sem, hC.1, hk]) ?_; simp only [put_lit, put_none, List.set_cons_succ, List.set_cons_zero])
    obtain ⟨w3, hw3⟩ : ∃ z, z = w2.alloc (.cells #[.int .i64 (pk : Int), .int .i64 y] 49) := ⟨_, rfl⟩
    have hx3 : Ext [] w2 w3 := by rw [hw3]; exact (Ext.refl _ _).alloc _
    have hsrc : Src w3 (.slice (some ⟨w2.heap.size, 0, none⟩) 1 1) 1 [.int .i64 (pk : Int), .int .i64 y] := by rw [hw3]; exact Src.blk (cs := [.int .i64 (pk : Int), .int .i64 y]) 1
    have hC2 : w3.cell? ⟨gr, k, none⟩ = some (.int .i64 (pk : Int)) ∧ ∀ x (hx : x < l.length), w3.cell? ⟨gl, x, none⟩ = some (.int .i64 (l[x]'hx)) := ⟨hx3.cell hC1.1 (by simp), fun x hx => hx3.cell (hC1.2 x hx) (by simp)⟩
    have HM3 := Lib.hid (HM2.out.ext0 hx3)
    have HI3 := Lib.hid (HI2.out.ext0 hx3)
    have hrep : kIn.rep w3 [] ⟨(pk : Int), y⟩ [.int .i64 (pk : Int), .int .i64 y] := ⟨rfl, rfl⟩
    obtain ⟨v', w4, S', hrun, hs', hxx, hf', hn'⟩ := run_append_sl (ty := 44) (d := kIn) (ys := [⟨(pk : Int), y⟩]) ei_in HI3.out.row (.slice (some ⟨w2.heap.size, 0, none⟩) 1 1) [.int .i64 (pk : Int), .int .i64 y] [[]] (elems_single hrep) rfl (Kd.one kIn hrep) hsrc (by simp) (le_maxLen (by have := hil.out; omega)) (le_bytesB (n := ins.length) (by have := hil.out; omega) (by decide))
    have hltF := HM3.out.mi.m.lt
    have hsz3 : wx.heap.size ≤ w3.heap.size := by
      have h2 := Hsz.out
      have h3 := hx3.size
      simp at hz2'
      omega
    have hz9 := Hz3.out
    obtain ⟨p1, p2⟩ := HM3.out.beside H0.out HI3.out Hz2.out hxx hs' (fun x hx => by
      rcases hf' x hx with h2 | h2 | h2
      · exact .inl h2
      · exact .inr ⟨fun h3 => by have := hltF x h3; omega, by omega⟩
      · simp at h2) (hn' HI3.out.nd (by simp))
    have hgrI : gr ∉ Si := fun h => by have := HI3.out.new gr h; have := Hz.out; omega
    have hglI : gl ∉ Si := fun h => by have := hszx.out gl h; have := Hgl.out; omega
    have HB4 := Lib.hid ((HB2.out.ext0 hx3).ext hxx (by intro x hx; simp at hx; subst hx; exact hgrI))
    have hC3 : w4.cell? ⟨gr, k, none⟩ = some (.int .i64 (pk : Int)) ∧ ∀ x (hx : x < l.length), w4.cell? ⟨gl, x, none⟩ = some (.int .i64 (l[x]'hx)) := ⟨hxx.cell hC2.1 hgrI, fun x hx => hxx.cell (hC2.2 x hx) hglI⟩
    have HM4 := Lib.hid p1
    have HI4 := Lib.hid p2
    have hsz4 : wz.heap.size ≤ w4.heap.size := by have := hxx.size; omega
    obtain ⟨hpb, hstY⟩ := HS.out y (by rw [hy]; exact List.getElem_mem _)
    have HP4 : Hid (PartOk (P : Int) st.blocks L (k + 1) (ins ++ [⟨(pk : Int), y⟩])) := by
      have e := HPk.out
      subst e
      exact HPt.out.app hkL hpb hstY
    clear p1 p2 hs' hxx hf' hn' hsrc hx3 HM2 HB2 HI2 HM3 HI3 hltF hsz3 hz9 hgrI hglI hrep hC1
    refine s_eff (.slice (some ⟨w2.heap.size, 0, none⟩) 1 1) (w' := w3) rfl rfl (by rw [hw3]; simp [go_sem]) ⟨hC2, ?_⟩
    simp only [put_lit, put_none, List.set_cons_succ, List.set_cons_zero]
    refine s_eff v' (w' := w4) rfl rfl (exec_append rfl rfl rfl hrun) ⟨hC3, ?_⟩
    simp only [put_lit, put_none, List.set_cons_succ, List.set_cons_zero]
    refine fin_eff (w' := w4) v' rfl rfl (by simp [go_sem]) ?_
    simp only [put_lit, put_none, List.set_cons_succ, List.set_cons_zero]
    clear hrun hC2 hC3 hw3 hy hr
    go_wp2
    refine Hexit.out _ _ v' rfl rfl ⟨F, a + 1, st, c', S', ins ++ [⟨(pk : Int), y⟩], HM4.out, HT.out, Hc'.out, by have := Ha'.out; omega, by have := HLv'.out; omega, HB4.out, HI4.out, HP4.out, hsz4⟩
end Go.Proofs.Ytkmgbejhbkbaoaa

/- The maker of functions: what all phis take. -/
namespace Go.Proofs.Ytkmgbejhbkbaoaa
set_option linter.unusedSimpArgs false
set_option linter.unusedVariables false
open Go.RowKit

noncomputable def fillCode : Code := (Try.f8.body.bind (findBlock 24)).getD .skip
set_option maxRecDepth 100000 in
def frF (c0 c1 c2 c3 c4 c5 c6 c7 c8 c9 c10 c11 c12 c13 c14 c15 c16 c17 c18 c19 c20 c21 c22 c23 c24 c31 c32 c33 c34 c35 c36 c37 c38 c39 c40 c41 c42 c43 c44 c45 c46 c47 c48 c49 c50 c51 c52 c53 c54 c55 c56 c57 c58 c59 c60 c61 c62 c63 c64 c65 c66 c67 c68 c69 c70 c71 c72 c73 c74 c75 c76 c77 c78 c79 c80 c81 c82 c83 c84 c85 c86 c87 c88 c89 c90 c91 c92 c93 c94 c95 c96 c97 c98 c99 c100 c101 c102 c103 c104 c105 c106 c107 c108 c109 c110 c111 c112 c113 c114 c115 c116 c117 c118 c119 c120 c121 c122 c123 c124 c125 c126 c127 c128 c129 c130 c131 c132 c133 c134 c135 c136 c137 c138 c139 c140 c141 c142 c143 c144 c145 c146 c147 c148 c149 c150 c151 c152 c153 c154 c155 c156 c157 c158 c159 c160 c161 c162 c163 c164 c165 c166 c167 c168 c169 c170 c171 c172 c173 c174 c175 c176 c177 c178 c179 c180 c181 c182 c183 c184 c185 c186 c187 c188 c189 c190 c191 c192 c193 c194 c195 c196 c197 c198 c199 c200 c201 c202 c203 c204 c205 c206 c207 c208 c209 c210 c211 c212 c213 c214 c215 c216 c217 c218 c219 c220 c221 c222 c223 c224 c225 c226 c227 c228 c229 c230 c231 c232 c233 c234 c235 c236 c237 c238 c239 c240 c241 c242 c243 c244 c245 c246 c247 c248 c249 c250 c251 c252 c253 c254 c255 c256 c257 c258 c259 c260 c261 c262 c263 c264 c265 c266 c267 c268 c269 c270 c271 c272 c273 c274 c275 c276 c277 c278 c279 c280 c281 c282 c283 c284 c285 c286 c287 c288 c289 c290 c291 c292 c293 c294 c295 c296 c297 c298 c299 c300 c301 c302 c303 c304 c305 c306 c307 c308 c309 c310 c311 c312 c313 c314 c315 c316 c317 c318 c319 c320 c321 c322 c323 c324 c325 c326 c327 c328 c329 c330 c331 c332 c333 c411 c412 c413 c414 : Value) (u : Nat → Value) : Act := ⟨#[c0, c1, c2, c3, c4, c5, c6, c7, c8, c9, c10, c11, c12, c13, c14, c15, c16, c17, c18, c19, c20, c21, c22, c23, c24, u 25, u 26, u 27, u 28, u 29, u 30, c31, c32, c33, c34, c35, c36, c37, c38, c39, c40, c41, c42, c43, c44, c45, c46, c47, c48, c49, c50, c51, c52, c53, c54, c55, c56, c57, c58, c59, c60, c61, c62, c63, c64, c65, c66, c67, c68, c69, c70, c71, c72, c73, c74, c75, c76, c77, c78, c79, c80, c81, c82, c83, c84, c85, c86, c87, c88, c89, c90, c91, c92, c93, c94, c95, c96, c97, c98, c99, c100, c101, c102, c103, c104, c105, c106, c107, c108, c109, c110, c111, c112, c113, c114, c115, c116, c117, c118, c119, c120, c121, c122, c123, c124, c125, c126, c127, c128, c129, c130, c131, c132, c133, c134, c135, c136, c137, c138, c139, c140, c141, c142, c143, c144, c145, c146, c147, c148, c149, c150, c151, c152, c153, c154, c155, c156, c157, c158, c159, c160, c161, c162, c163, c164, c165, c166, c167, c168, c169, c170, c171, c172, c173, c174, c175, c176, c177, c178, c179, c180, c181, c182, c183, c184, c185, c186, c187, c188, c189, c190, c191, c192, c193, c194, c195, c196, c197, c198, c199, c200, c201, c202, c203, c204, c205, c206, c207, c208, c209, c210, c211, c212, c213, c214, c215, c216, c217, c218, c219, c220, c221, c222, c223, c224, c225, c226, c227, c228, c229, c230, c231, c232, c233, c234, c235, c236, c237, c238, c239, c240, c241, c242, c243, c244, c245, c246, c247, c248, c249, c250, c251, c252, c253, c254, c255, c256, c257, c258, c259, c260, c261, c262, c263, c264, c265, c266, c267, c268, c269, c270, c271, c272, c273, c274, c275, c276, c277, c278, c279, c280, c281, c282, c283, c284, c285, c286, c287, c288, c289, c290, c291, c292, c293, c294, c295, c296, c297, c298, c299, c300, c301, c302, c303, c304, c305, c306, c307, c308, c309, c310, c311, c312, c313, c314, c315, c316, c317, c318, c319, c320, c321, c322, c323, c324, c325, c326, c327, c328, c329, c330, c331, c332, c333, u 334, u 335, u 336, u 337, u 338, u 339, u 340, u 341, u 342, u 343, u 344, u 345, u 346, u 347, u 348, u 349, u 350, u 351, u 352, u 353, u 354, u 355, u 356, u 357, u 358, u 359, u 360, u 361, u 362, u 363, u 364, u 365, u 366, u 367, u 368, u 369, u 370, u 371, u 372, u 373, u 374, u 375, u 376, u 377, u 378, u 379, u 380, u 381, u 382, u 383, u 384, u 385, u 386, u 387, u 388, u 389, u 390, u 391, u 392, u 393, u 394, u 395, u 396, u 397, u 398, u 399, u 400, u 401, u 402, u 403, u 404, u 405, u 406, u 407, u 408, u 409, u 410, c411, c412, c413, c414], []⟩

def Bd (a c : Nat) (st : MSt) (e : Nat) : Prop := c ≤ e ∧ a ≤ 40000 + 2100 * e ∧ st.live.length ≤ 40000 + 2100 * e
/-- what stands at the end -/
def FillOk (w w' : World) (q : Nat) (vs : Value) (P n : Nat) (R : List (List Int)) (g5 : Nat) (C5 : Array Value) (gp : Nat) (pr : List Nat) : Prop :=
  ∃ (F : List Nat) (a : Nat) (st : MSt) (vts : List Value) (c : Nat), MB w w' q vs F a st vts g5 C5 gp pr ∧ FSt P n R pr n 0 c st ∧ c ≤ 300
theorem preds_ne {n m : Nat} {R : List (List Int)} (hR : TR n m n R) {b : Nat} (h1 : 1 ≤ b) (hb : b < n) : 0 < (predsR R (b : Int)).length := by
  obtain ⟨p, hp, _, hm⟩ := hR.2.2.2 b h1 hb
  have : p ∈ predsR R (b : Int) := by
    simp only [predsR, List.mem_filter, List.mem_range, List.contains_iff_mem]
    exact ⟨hp, by simpa [List.getD_eq_getElem?_getD, hp] using hm⟩
  exact List.length_pos_of_mem this
set_option maxRecDepth 100000 in
set_option maxHeartbeats 12800000 in
theorem fill_block0 {w wx : World} {q n P g5 gp a : Nat} {vs : Value} {R : List (List Int)} {C5 : Array Value} {pr : List Nat} {F : List Nat} {st : MSt} {vts : List Value}
    (H0_ : RdS w [] vs) (hP : P ≤ 4) (hn1 : 1 ≤ n) (h9 : n ≤ 9) (HR_ : TR n (3 * n) n R) (hpl : pr.length = n) (HM_ : MB w wx q vs F a st vts g5 C5 gp pr) (HT_ : FSt P n R pr 1 0 0 st) (Ha_ : a ≤ 40000) (hLv_ : st.live.length ≤ 40000)
    (c0 c1 c2 c5 c6 c8 c9 c10 c11 c12 c13 c14 c15 c16 c17 c18 c19 c20 c21 c22 c23 c24 c26 c27 c28 c29 c30 c31 c32 c33 c34 c35 c36 c37 c38 c39 c40 c41 c42 c43 c44 c45 c46 c47 c48 c49 c50 c51 c52 c53 c54 c55 c56 c57 c58 c59 c60 c61 c62 c63 c64 c65 c66 c67 c68 c69 c70 c71 c72 c73 c74 c75 c76 c77 c78 c79 c80 c81 c82 c83 c84 c85 c86 c87 c88 c89 c90 c91 c92 c93 c94 c95 c96 c97 c98 c99 c100 c101 c102 c103 c104 c105 c106 c107 c108 c109 c110 c111 c112 c113 c114 c115 c116 c117 c118 c119 c120 c121 c122 c123 c124 c125 c126 c127 c128 c129 c130 c131 c132 c133 c134 c135 c136 c137 c138 c139 c140 c141 c142 c143 c144 c145 c146 c147 c148 c149 c150 c151 c152 c153 c154 c155 c156 c157 c158 c159 c160 c161 c162 c163 c164 c165 c166 c167 c168 c169 c170 c171 c172 c173 c174 c175 c176 c177 c178 c179 c180 c181 c182 c183 c184 c185 c186 c187 c188 c189 c190 c191 c192 c193 c194 c195 c196 c197 c198 c199 c200 c201 c202 c203 c204 c205 c206 c207 c208 c209 c210 c211 c212 c213 c214 c215 c216 c217 c218 c219 c220 c221 c222 c223 c224 c225 c226 c227 c228 c229 c230 c231 c232 c233 c234 c235 c236 c237 c238 c239 c240 c241 c242 c243 c244 c245 c246 c247 c248 c249 c250 c251 c252 c253 c254 c255 c256 c257 c258 c259 c260 c261 c262 c263 c264 c265 c266 c267 c268 c269 c270 c271 c272 c273 c274 c275 c276 c277 c278 c279 c280 c281 c282 c283 c284 c285 c286 c287 c288 c289 c290 c291 c292 c293 c294 c295 c296 c297 c298 c299 c300 c301 c302 c303 c304 c305 c306 c307 c308 c309 c310 c311 c312 c313 c314 c315 c316 c317 c318 c319 c320 c321 c322 c323 c324 c325 c326 c327 c328 c329 c330 c331 c332 c333 c334 c335 c336 c337 c338 c339 c340 c341 c342 c343 c344 c345 c346 c347 c348 c349 c350 c351 c352 c353 c354 c355 c356 c357 c358 c359 c360 c361 c362 c363 c364 c365 c366 c367 c368 c369 c370 c371 c372 c373 c374 c375 c376 c377 c378 c379 c380 c381 c382 c383 c384 c385 c386 c387 c388 c389 c390 c391 c392 c393 c394 c395 c396 c397 c398 c399 c400 c401 c402 c403 c404 c405 c406 c407 c408 c409 c410 c411 c412 c413 c414 : Value) {Q : Exit → Act → World → Prop} (hexit : ∀ (a' : Act) (w' : World), a' = frF c0 c1 c2 (.pointer (some ⟨q, 0, none⟩)) (.int .i64 (n : Int)) c5 c6 (.slice (some ⟨gp, 0, none⟩) n n) c8 c9 c10 c11 c12 c13 c14 c15 c16 c17 c18 c19 c20 c21 c22 c23 c24 c31 c32 c33 c34 c35 c36 c37 c38 c39 c40 c41 c42 c43 c44 c45 c46 c47 c48 c49 c50 c51 c52 c53 c54 c55 c56 c57 c58 c59 c60 c61 c62 c63 c64 c65 c66 c67 c68 c69 c70 c71 c72 c73 c74 c75 c76 c77 c78 c79 c80 c81 c82 c83 c84 c85 c86 c87 c88 c89 c90 c91 c92 c93 c94 c95 c96 c97 c98 c99 c100 c101 c102 c103 c104 c105 c106 c107 c108 c109 c110 c111 c112 c113 c114 c115 c116 c117 c118 c119 c120 c121 c122 c123 c124 c125 c126 c127 c128 c129 c130 c131 c132 c133 c134 c135 c136 c137 c138 c139 c140 c141 c142 c143 c144 c145 c146 c147 c148 c149 c150 c151 c152 c153 c154 c155 c156 c157 c158 c159 c160 c161 c162 c163 c164 c165 c166 c167 c168 c169 c170 c171 c172 c173 c174 c175 c176 c177 c178 c179 c180 c181 c182 c183 c184 c185 c186 c187 c188 c189 c190 c191 c192 c193 c194 c195 c196 c197 c198 c199 c200 c201 c202 c203 c204 c205 c206 c207 c208 c209 c210 c211 c212 c213 c214 c215 c216 c217 c218 c219 c220 c221 c222 c223 c224 c225 c226 c227 c228 c229 c230 c231 c232 c233 c234 c235 c236 c237 c238 c239 c240 c241 c242 c243 c244 c245 c246 c247 c248 c249 c250 c251 c252 c253 c254 c255 c256 c257 c258 c259 c260 c261 c262 c263 c264 c265 c266 c267 c268 c269 c270 c271 c272 c273 c274 c275 c276 c277 c278 c279 c280 c281 c282 c283 c284 c285 c286 c287 c288 c289 c290 c291 c292 c293 c294 c295 c296 c297 c298 c299 c300 c301 c302 c303 c304 c305 c306 c307 c308 c309 c310 c311 c312 c313 c314 c315 c316 c317 c318 c319 c320 c321 c322 c323 c324 c325 c326 c327 c328 c329 c330 c331 c332 c333 c411 c412 c413 c414 (fun k => a'.tmps.toList.getD k undef) → FillOk w w' q vs P n R g5 C5 gp pr → Q .normal a' w') :
    Code.wp Try.prog fillCode Q ⟨#[c0, c1, c2, .pointer (some ⟨q, 0, none⟩), .int .i64 (n : Int), c5, c6, .slice (some ⟨gp, 0, none⟩) n n, c8, c9, c10, c11, c12, c13, c14, c15, c16, c17, c18, c19, c20, c21, c22, c23, c24, .int .i64 1, c26, c27, c28, c29, c30, c31, c32, c33, c34, c35, c36, c37, c38, c39, c40, c41, c42, c43, c44, c45, c46, c47, c48, c49, c50, c51, c52, c53, c54, c55, c56, c57, c58, c59, c60, c61, c62, c63, c64, c65, c66, c67, c68, c69, c70, c71, c72, c73, c74, c75, c76, c77, c78, c79, c80, c81, c82, c83, c84, c85, c86, c87, c88, c89, c90, c91, c92, c93, c94, c95, c96, c97, c98, c99, c100, c101, c102, c103, c104, c105, c106, c107, c108, c109, c110, c111, c112, c113, c114, c115, c116, c117, c118, c119, c120, c121, c122, c123, c124, c125, c126, c127, c128, c129, c130, c131, c132, c133, c134, c135, c136, c137, c138, c139, c140, c141, c142, c143, c144, c145, c146, c147, c148, c149, c150, c151, c152, c153, c154, c155, c156, c157, c158, c159, c160, c161, c162, c163, c164, c165, c166, c167, c168, c169, c170, c171, c172, c173, c174, c175, c176, c177, c178, c179, c180, c181, c182, c183, c184, c185, c186, c187, c188, c189, c190, c191, c192, c193, c194, c195, c196, c197, c198, c199, c200, c201, c202, c203, c204, c205, c206, c207, c208, c209, c210, c211, c212, c213, c214, c215, c216, c217, c218, c219, c220, c221, c222, c223, c224, c225, c226, c227, c228, c229, c230, c231, c232, c233, c234, c235, c236, c237, c238, c239, c240, c241, c242, c243, c244, c245, c246, c247, c248, c249, c250, c251, c252, c253, c254, c255, c256, c257, c258, c259, c260, c261, c262, c263, c264, c265, c266, c267, c268, c269, c270, c271, c272, c273, c274, c275, c276, c277, c278, c279, c280, c281, c282, c283, c284, c285, c286, c287, c288, c289, c290, c291, c292, c293, c294, c295, c296, c297, c298, c299, c300, c301, c302, c303, c304, c305, c306, c307, c308, c309, c310, c311, c312, c313, c314, c315, c316, c317, c318, c319, c320, c321, c322, c323, c324, c325, c326, c327, c328, c329, c330, c331, c332, c333, c334, c335, c336, c337, c338, c339, c340, c341, c342, c343, c344, c345, c346, c347, c348, c349, c350, c351, c352, c353, c354, c355, c356, c357, c358, c359, c360, c361, c362, c363, c364, c365, c366, c367, c368, c369, c370, c371, c372, c373, c374, c375, c376, c377, c378, c379, c380, c381, c382, c383, c384, c385, c386, c387, c388, c389, c390, c391, c392, c393, c394, c395, c396, c397, c398, c399, c400, c401, c402, c403, c404, c405, c406, c407, c408, c409, c410, c411, c412, c413, c414], []⟩ wx := by
  have H0 := Lib.hid H0_
  have HR := Lib.hid HR_
  have HM := Lib.hid HM_
  have HT := Lib.hid HT_
  have HB0 : Hid (Bd a 0 st 0) := ⟨by omega, by omega, by omega⟩
  have Hexit := Lib.hid hexit
  have Hpl := Lib.hid hpl
  clear hexit H0_ HR_ HM_ HT_ Ha_ hLv_ hpl
  conv => arg 2; whnf
  go_wp2
  go_loopg [25] n (fun r v25 wx => ∃ (b : Nat) (F : List Nat) (a : Nat) (st : MSt) (c e : Nat), v25 = .int .i64 (b : Int) ∧ 1 ≤ b ∧ b ≤ n ∧ Hid (b + r = n + 1) ∧ Hid (MB w wx q vs F a st vts g5 C5 gp pr) ∧ Hid (FSt P n R pr b 0 c st) ∧ Hid (Bd a c st e) ∧ Hid (e + 27 ≤ 27 * b))
  case atStart => exact ⟨1, F, a, st, 0, 0, rfl, by omega, by omega, by simp only [Hid]; omega, HM, HT, HB0, by simp [Hid]⟩
  case round =>
    clear HM HT HB0
    obtain ⟨b, F, a, st, c, e, rfl, hb1, hb, HK, HM, HT, HBd, HE⟩ := hrel
    obtain ⟨q25, hq25⟩ : ∃ x, x = gk := ⟨_, rfl⟩
    subst hq25
    by_cases hlt : b < n
    · have Hlen : Hid (st.blocks.length = n) := HT.out.len
      obtain ⟨A3, cap3, S3, y2, y3, hfn, -, -, -⟩ := HM.out.mi.m.fn
      rw [Hlen.out] at y3 hfn
      have Hfn := Lib.hid hfn
      have Hto := Lib.hid (to_bound HR.out HT.out.to)
      clear hfn
      go_wp2_with fail
      refine (mpreds_calls Hfn.out (by show st.blocks.length ≤ _; rw [Hlen.out]; omega) (fun x hx => by have := (Hto.out x hx).1; omega) (b : Int)).mono ?_
      rintro e1 w9 ⟨v9, S9, rfl, hp9, hnew9⟩
      obtain ⟨L, hL⟩ : ∃ L, L = predsR R (b : Int) := ⟨_, rfl⟩
      have hLp : predsT st.blocks (b : Int) = L := by rw [hL]; exact preds_R HT.out.to _
      simp only [hLp] at hp9
      have hL0 : 0 < L.length := by rw [hL]; exact preds_ne HR.out hb1 hlt
      obtain ⟨gr, cp, hv9, hS9, -, -⟩ := hp9.cell 0 hL0
      subst hv9 hS9
      have hltF := HM.out.mi.m.lt
      have HB : Hid (Bes wr w9 F kNat 3 [gr] (.slice (some ⟨gr, 0, none⟩) L.length cp) L) := ⟨hp9, fun x hx h2 => by have := hnew9.fresh x hx; have := hltF x h2; omega, hnew9.fresh, hnew9.nodup⟩
      have HM9 := Lib.hid (HM.out.ext0 hnew9.ext)
      have HLL : Hid (predsR R (b : Int) = L) := hL.symm
      obtain ⟨wp, hwp⟩ : ∃ x, x = wr := ⟨_, rfl⟩
      subst hwp
      obtain ⟨np, hnp⟩ : ∃ x, x = L.length := ⟨_, rfl⟩
      have HNp := Lib.hid hnp
      rw [← hnp] at hL0 ⊢
      have hnp9 : np ≤ 9 := by
        have h2 := List.length_filter_le (fun p => (R.getD p []).contains (b : Int)) (List.range R.length)
        have h3 : (predsR R (b : Int)).length ≤ R.length := by simpa [predsR] using h2
        rw [HR.out.1, ← hL] at h3
        omega
      obtain ⟨kk, hkk⟩ : ∃ kk, kk = pr.getD b 0 := ⟨_, rfl⟩
      have Hkk := Lib.hid hkk
      have hk3 : kk ≤ 3 := by rw [hkk]; exact HT.out.ple b
      clear hL hLp hp9 hnew9 hltF HM y2 y3 hnp hkk Hfn
      go_wp2
      go_loopg [27] kk (fun r v27 wx => ∃ (i : Nat) (F : List Nat) (a : Nat) (st : MSt) (c e : Nat), v27 = .int .i64 (i : Int) ∧ i ≤ kk ∧ Hid (i + r = kk) ∧ Hid (MB w wx q vs F a st vts g5 C5 gp pr) ∧ Hid (FSt P n R pr b i c st) ∧ Hid (Bd a c st e) ∧ Hid (e + 27 ≤ 27 * b + 9 * i) ∧ Hid (Bes wp wx F kNat 3 [gr] (.slice (some ⟨gr, 0, none⟩) L.length cp) L))
      case atStart => exact ⟨0, F, a, st, c, e, rfl, by omega, by simp [Hid], HM9, HT, HBd, HE, HB⟩
      case round =>
        clear HM9 HT HBd HE HB Hlen Hto
        obtain ⟨i, F, a, st, c, e, rfl, hi, HKi, HM, HT, HBd, HE, HB⟩ := hrel
        obtain ⟨q27, hq27⟩ : ∃ x, x = gk := ⟨_, rfl⟩
        subst hq27
        obtain ⟨k0, f0⟩ := HM.out.phis (b := b) (by rw [Hpl.out]; exact hlt)
        rw [← Hkk.out] at k0
        by_cases hltk : i < kk
        · have Hzz := Lib.hid HM.out.lts
          have hgrz : gr < wr.heap.size := HB.out.row.lt gr (by simp)
          have hxa : Ext [] wr (wr.alloc (.cells #[] 49)) := (Ext.refl _ _).alloc _
          have HM0 := Lib.hid (HM.out.ext0 hxa)
          have HB0 := Lib.hid (HB.out.ext0 hxa)
          have HI0 : Hid (Bes wr (wr.alloc (.cells #[] 49)) F kIn 49 [] (.slice (some ⟨wr.heap.size, 0, none⟩) 0 0) []) := ⟨.inl ⟨_, rfl, rfl, rfl⟩, by simp, by simp, by simp⟩
          have HP0 : Hid (PartOk (P : Int) st.blocks L 0 []) := PartOk.nil _ _ _
          have HE0 : Hid (e + 27 ≤ 27 * b + 9 * i + 0) := HE
          have Hgrz := Lib.hid hgrz
          obtain ⟨wz, hwz⟩ : ∃ x, x = wr := ⟨_, rfl⟩
          subst hwz
          clear hxa HM HB HE hgrz
          go_wp2
          go_loopg [28, 29] np (fun r v28 v29 wx => ∃ (k : Nat) (F : List Nat) (a : Nat) (st : MSt) (c e : Nat) (Si : List Nat) (ins : List JIn), v29 = .int .i64 (k : Int) ∧ k ≤ np ∧ Hid (k + r = np) ∧ Hid (MB w wx q vs F a st vts g5 C5 gp pr) ∧ Hid (FSt P n R pr b i c st) ∧ Hid (Bd a c st e) ∧ Hid (e + 27 ≤ 27 * b + 9 * i + k) ∧
            Hid (Bes wp wx F kNat 3 [gr] (.slice (some ⟨gr, 0, none⟩) L.length cp) L) ∧ Hid (Bes wz wx F kIn 49 Si v28 ins) ∧ Hid (PartOk (P : Int) st.blocks L k ins) ∧ Hid (wz.heap.size ≤ wx.heap.size))
          case atStart => exact ⟨0, F, a, st, c, e, [], [], rfl, by omega, by simp [Hid], HM0, HT, HBd, HE0, HB0, HI0, HP0, by simp [Hid]⟩
          case round =>
            clear HM0 HT HBd HE0 HB0 HI0 HP0 k0 f0
            obtain ⟨k, F, a, st, c, e, Si, ins, rfl, hk, HKk, HM, HT, HBd, HE, HB, HI, HP, Hsz⟩ := hrel
            by_cases hltp : k < np
            · skip
              -- [[step
              go_upto_block 29 with (fail)
              have hE := HE.out
              refine step_block0 H0.out hP h9 HR.out HLL.out hltp HNp.out HM.out HT.out HB.out HI.out HP.out Hgrz.out Hzz.out Hsz.out (m := 40000 + 2100 * e) HBd.out.2.1 (by omega) HBd.out.2.2 (by have := HBd.out.1; omega) _ _ _ _ _ _ _ _ _ _ _ _ _ _ _ _ _ _ _ _ _ _ _ _ _ _ _ _ _ _ _ _ _ _ _ _ _ _ _ _ _ _ _ _ _ _ _ _ _ _ _ _ _ _ _ _ _ _ _ _ _ _ _ _ _ _ _ _ _ _ _ _ _ _ _ _ _ _ _ _ _ _ _ _ _ _ _ _ _ _ _ _ _ _ _ _ _ _ _ _ _ _ _ _ _ _ _ _ _ _ _ _ _ _ _ _ _ _ _ _ _ _ _ _ _ _ _ _ _ _ _ _ _ _ _ _ _ _ _ _ _ _ _ _ _ _ _ _ _ _ _ _ _ _ _ _ _ _ _ _ _ _ _ _ _ _ _ _ _ _ _ _ _ _ _ _ _ _ _ _ _ _ _ _ _ _ _ _ _ _ _ _ _ _ _ _ _ _ _ _ _ _ _ _ _ _ _ _ _ _ _ _ _ _ _ _ _ _ _ _ _ _ _ _ _ _ _ _ _ _ _ _ _ _ _ _ _ _ _ _ _ _ _ _ _ _ _ _ _ _ _ _ _ _ _ _ _ _ _ _ _ _ _ _ _ _ _ _ _ _ _ _ _ _ _ _ _ _ _ _ _ _ _ _ _ _ _ _ _ _ _ _ _ _ _ _ _ _ _ _ _ _ _ _ _ _ _ _ _ _ _ _ _ _ _ _ _ _ _ _ _ _ _ _ _ _ _ _ _ _ _ _ _ _ _ _ _ _ _ _ _ _ _ _ _ _ _ _ _ _ _ _ _ _ _ _ _ _ _ _ _ _ _ _ _ _ _ _ _ _ _ _ _ _ _ _ _ _ _ _ _ _ _ _ _ _ _ _ _ _ _ _ _ _ _ _ _ _ _ _ _ _ _ _ _ _ _ _ _ _ _ ?_
              intro a' w' vI ha' hvI hok
              obtain ⟨u, hu, hv⟩ : ∃ u : Nat → Value, a' = frS _ _ _ _ _ _ _ _ _ _ _ _ _ _ _ _ _ _ _ _ _ _ _ _ _ _ _ _ _ _ _ _ _ _ _ _ _ _ _ _ _ _ _ _ _ _ _ _ _ _ _ _ _ _ _ _ _ _ _ _ _ _ _ _ _ _ _ _ _ _ _ _ _ _ _ _ _ _ _ _ _ _ _ _ _ _ _ _ _ _ _ _ _ _ _ _ _ _ _ _ _ _ _ _ _ _ _ _ _ _ _ _ _ _ _ _ _ _ _ _ _ _ _ _ _ _ _ _ _ _ _ _ _ _ _ _ _ _ _ _ _ _ _ _ _ _ _ _ _ _ _ _ _ _ _ _ _ _ _ _ _ _ _ _ _ _ _ _ _ _ _ _ _ _ _ _ _ _ _ _ _ _ _ _ _ _ _ _ _ _ _ _ _ _ _ _ _ _ _ _ _ _ _ _ _ _ _ _ _ _ _ _ _ _ _ _ _ _ _ _ _ _ _ _ _ _ _ _ _ _ _ _ _ _ _ _ _ _ _ _ _ _ _ _ _ _ _ _ _ _ _ _ _ _ _ _ _ _ _ _ _ _ _ _ _ _ _ _ _ _ _ _ _ _ _ _ _ _ _ _ _ _ _ _ _ _ _ _ _ _ _ _ _ _ _ _ _ _ _ _ _ _ _ _ _ _ _ _ _ _ _ _ _ _ _ _ _ _ _ _ _ _ _ _ _ _ _ _ _ _ _ _ _ _ _ _ _ _ _ _ _ _ _ _ _ _ _ _ _ _ _ _ _ _ _ _ _ _ _ _ _ _ _ _ _ _ _ _ _ _ _ _ _ _ _ u ∧ u 28 = vI := ⟨_, ha', hvI⟩
              have Hbd := Lib.hid HBd.out
              clear ha' HM HT HBd HB HI HP Hsz hvI
              subst hu hv
              simp only [frS]
              obtain ⟨F, a, st, c', Si, ins, HM_, HT_, Hc_, Ha_, HL_, HB_, HI_, HP_, Hz_⟩ := hok
              have HM := Lib.hid HM_
              have HT := Lib.hid HT_
              have HB := Lib.hid HB_
              have HI := Lib.hid HI_
              have HP := Lib.hid HP_
              have Hsz := Lib.hid Hz_
              have HBd : Hid (Bd a c' st (e + 1)) := ⟨by have := Hbd.out.1; omega, by omega, by omega⟩
              clear HM_ HT_ Hc_ Ha_ HL_ HB_ HI_ HP_ Hz_ Hbd
              go_wp2
              go_roundg (gk - 1)
              case measure => have := HKk.out; omega
              case rel => exact ⟨k + 1, F, a, st, c', e + 1, Si, ins, by go_num, by omega, by have := HKk.out; simp only [Hid]; omega, HM, HT, HBd, by simp only [Hid]; omega, HB, HI, HP, Hsz⟩
              -- step]]
            · obtain rfl : np = k := by omega
              clear hltp
              obtain ⟨AI, cI, hvI, -⟩ := HI.out.row.shape
              subst hvI
              have hbl : b < st.blocks.length := by rw [HT.out.len]; exact hlt
              have hphl : st.blocks[b].phis.length = kk := by rw [HT.out.ph b hbl, Hkk.out]
              obtain ⟨g, cap, gph, cph, u0, k3, kc, kd, kf, F', m', hF', hX'⟩ := phi_fill H0.out HM.out.mi b hbl i (by rw [hphl]; exact hltk) HI.out.row (fun x hx => ⟨HI.out.off x hx, by have := HI.out.new x hx; have := Hzz.out.1; omega⟩) HI.out.nd
              rw [HT.out.len] at k3
              simp only [hphl] at kc
              have hnewI := HI.out.new
              have Hz9 := Hzz.out
              have HM2 := Lib.hid (HM.out.take m' hX' hF' (fun x hx => by have := hnewI x hx; omega))
              have HB2 : Hid (Bes wp _ F' kNat 3 [gr] (.slice (some ⟨gr, 0, none⟩) L.length cp) L) := ⟨HB.out.row.ext hX' HB.out.off, fun x hx h2 => (hF' x h2).elim (HB.out.off x hx) fun h3 => by simp at hx; subst hx; have := hnewI _ h3; have := Hgrz.out; omega, HB.out.new, HB.out.nd⟩
              have hPhi : PhiOk (P : Int) st.blocks b ins := by
                refine ⟨?_, HP.out.2⟩
                rw [HP.out.1, preds_R HT.out.to, HLL.out, List.take_of_length_le (by rw [HNp.out]; exact Nat.le_refl _)]
              have HT2 := Lib.hid (HT.out.fill hbl (by rw [← Hkk.out]; exact hltk) hPhi)
              have HBd2 : Hid (Bd a c (st.fillPhi b i ins) e) := HBd
              clear m' hX' hF' hnewI hPhi HM HB HT HI HP hphl hbl Hz9
              go_wp2
              go_roundg (q27 - 1)
              case measure => have := HKi.out; omega
              case rel => exact ⟨i + 1, F', a, st.fillPhi b i ins, c, e, by go_num, by omega, by have := HKi.out; simp only [Hid]; omega, HM2, HT2, HBd2, by have := HE.out; simp only [Hid]; omega, HB2⟩
        · obtain rfl : kk = i := by omega
          clear hltk
          go_wp2
          go_roundg (q25 - 1)
          case measure => have := HK.out; omega
          case rel => exact ⟨b + 1, F, a, st, c, e, by go_num, by omega, by omega, by have := HK.out; simp only [Hid]; omega, HM, HT.out.next Hkk.out.symm, HBd, by have := HE.out; simp only [Hid]; omega⟩
    · obtain rfl : n = b := by omega
      clear hlt
      go_wp2
      refine Hexit.out _ _ rfl ⟨F, a, st, vts, c, HM.out, HT.out, by have := HBd.out.1; have := HE.out; omega⟩
end Go.Proofs.Ytkmgbejhbkbaoaa

/- The maker of functions: how many phis each block has. -/
namespace Go.Proofs.Ytkmgbejhbkbaoaa
set_option linter.unusedSimpArgs false
set_option linter.unusedVariables false
open Go.RowKit

noncomputable def phisCode : Code := (Try.f8.body.bind (findBlock 2)).getD .skip
set_option maxRecDepth 100000 in
def frP (c0 c1 c2 c3 c4 c5 c6 c7 c11 c12 c13 c14 c15 c16 c17 c18 c19 c20 c21 c22 c23 c24 c25 c26 c27 c28 c29 c30 c31 c32 c33 c34 c35 c36 c37 c38 c39 c40 c41 c42 c43 c44 c45 c46 c47 c48 c49 c50 c51 c52 c53 c54 c55 c56 c57 c58 c59 c60 c61 c62 c63 c64 c65 c66 c67 c68 c69 c70 c71 c72 c73 c74 c75 c76 c77 c78 c79 c135 c136 c137 c138 c139 c140 c141 c142 c143 c144 c145 c146 c147 c148 c149 c150 c151 c152 c153 c154 c155 c156 c157 c158 c159 c160 c161 c162 c163 c164 c165 c166 c167 c168 c169 c170 c171 c172 c173 c174 c175 c176 c177 c178 c179 c180 c181 c182 c183 c184 c185 c186 c187 c188 c189 c190 c191 c192 c193 c194 c195 c196 c197 c198 c199 c200 c201 c202 c203 c204 c205 c206 c207 c208 c209 c210 c211 c212 c213 c214 c215 c216 c217 c218 c219 c220 c221 c222 c223 c224 c225 c226 c227 c228 c229 c230 c231 c232 c233 c234 c235 c236 c237 c238 c239 c240 c241 c242 c243 c244 c245 c246 c247 c248 c249 c250 c251 c252 c253 c254 c255 c256 c257 c258 c259 c260 c261 c262 c263 c264 c265 c266 c267 c268 c269 c270 c271 c272 c273 c274 c275 c276 c277 c278 c279 c280 c281 c282 c283 c284 c285 c286 c287 c288 c289 c290 c291 c292 c293 c294 c295 c296 c297 c298 c299 c300 c301 c302 c303 c304 c305 c306 c307 c308 c309 c310 c311 c312 c313 c314 c315 c316 c317 c318 c319 c320 c321 c322 c323 c324 c325 c326 c327 c328 c329 c330 c331 c332 c333 c334 c335 c336 c337 c338 c339 c340 c341 c342 c343 c344 c345 c346 c347 c348 c349 c350 c351 c352 c353 c354 c355 c356 c357 c358 c359 c360 c361 c362 c363 c364 c365 c366 c367 c368 c369 c370 c371 c372 c373 c374 c375 c376 c377 c378 c379 c380 c381 c382 c383 c384 c385 c386 c387 c388 c389 c390 c391 c392 c393 c394 c395 c396 c397 c398 c399 c400 c401 c402 c403 c404 c405 c406 c407 c408 c409 c410 c411 c412 c413 c414 : Value) (u : Nat → Value) : Act := ⟨#[c0, c1, c2, c3, c4, c5, c6, c7, u 8, u 9, u 10, c11, c12, c13, c14, c15, c16, c17, c18, c19, c20, c21, c22, c23, c24, c25, c26, c27, c28, c29, c30, c31, c32, c33, c34, c35, c36, c37, c38, c39, c40, c41, c42, c43, c44, c45, c46, c47, c48, c49, c50, c51, c52, c53, c54, c55, c56, c57, c58, c59, c60, c61, c62, c63, c64, c65, c66, c67, c68, c69, c70, c71, c72, c73, c74, c75, c76, c77, c78, c79, u 80, u 81, u 82, u 83, u 84, u 85, u 86, u 87, u 88, u 89, u 90, u 91, u 92, u 93, u 94, u 95, u 96, u 97, u 98, u 99, u 100, u 101, u 102, u 103, u 104, u 105, u 106, u 107, u 108, u 109, u 110, u 111, u 112, u 113, u 114, u 115, u 116, u 117, u 118, u 119, u 120, u 121, u 122, u 123, u 124, u 125, u 126, u 127, u 128, u 129, u 130, u 131, u 132, u 133, u 134, c135, c136, c137, c138, c139, c140, c141, c142, c143, c144, c145, c146, c147, c148, c149, c150, c151, c152, c153, c154, c155, c156, c157, c158, c159, c160, c161, c162, c163, c164, c165, c166, c167, c168, c169, c170, c171, c172, c173, c174, c175, c176, c177, c178, c179, c180, c181, c182, c183, c184, c185, c186, c187, c188, c189, c190, c191, c192, c193, c194, c195, c196, c197, c198, c199, c200, c201, c202, c203, c204, c205, c206, c207, c208, c209, c210, c211, c212, c213, c214, c215, c216, c217, c218, c219, c220, c221, c222, c223, c224, c225, c226, c227, c228, c229, c230, c231, c232, c233, c234, c235, c236, c237, c238, c239, c240, c241, c242, c243, c244, c245, c246, c247, c248, c249, c250, c251, c252, c253, c254, c255, c256, c257, c258, c259, c260, c261, c262, c263, c264, c265, c266, c267, c268, c269, c270, c271, c272, c273, c274, c275, c276, c277, c278, c279, c280, c281, c282, c283, c284, c285, c286, c287, c288, c289, c290, c291, c292, c293, c294, c295, c296, c297, c298, c299, c300, c301, c302, c303, c304, c305, c306, c307, c308, c309, c310, c311, c312, c313, c314, c315, c316, c317, c318, c319, c320, c321, c322, c323, c324, c325, c326, c327, c328, c329, c330, c331, c332, c333, c334, c335, c336, c337, c338, c339, c340, c341, c342, c343, c344, c345, c346, c347, c348, c349, c350, c351, c352, c353, c354, c355, c356, c357, c358, c359, c360, c361, c362, c363, c364, c365, c366, c367, c368, c369, c370, c371, c372, c373, c374, c375, c376, c377, c378, c379, c380, c381, c382, c383, c384, c385, c386, c387, c388, c389, c390, c391, c392, c393, c394, c395, c396, c397, c398, c399, c400, c401, c402, c403, c404, c405, c406, c407, c408, c409, c410, c411, c412, c413, c414], []⟩

/-- what stands behind the phis -/
def PhisOk (w w' : World) (q : Nat) (vs : Value) (P n : Nat) (R : List (List Int)) (vts : List Value) (g5 : Nat) (C5 : Array Value) (gp : Nat) : Prop :=
  ∃ (F : List Nat) (a : Nat) (st : MSt) (pr : List Nat), MB w w' q vs F a st vts g5 C5 gp pr ∧ P1 P n R pr n 0 st ∧ a ≤ 200 + 2 * n ∧ st.live = []
set_option maxRecDepth 100000 in
set_option maxHeartbeats 12800000 in
theorem phis_block0 {w wx : World} {q n P g5 gp a : Nat} {vs : Value} {R : List (List Int)} {C5 : Array Value} {F : List Nat} {st : MSt} {vts : List Value}
    (H0_ : RdS w [] vs) (hP : P ≤ 4) (hn1 : 1 ≤ n) (h9 : n ≤ 9) (HR_ : TR n (3 * n) n R) (HM_ : MB w wx q vs F a st vts g5 C5 gp (List.replicate n 0)) (HP_ : P1 P n R (List.replicate n 0) 1 0 st) (Ha_ : a ≤ 200) (HLv_ : st.live = [])
    (c0 c1 c2 c5 c6 c9 c10 c11 c12 c13 c14 c15 c16 c17 c18 c19 c20 c21 c22 c23 c24 c25 c26 c27 c28 c29 c30 c31 c32 c33 c34 c35 c36 c37 c38 c39 c40 c41 c42 c43 c44 c45 c46 c47 c48 c49 c50 c51 c52 c53 c54 c55 c56 c57 c58 c59 c60 c61 c62 c63 c64 c65 c66 c67 c68 c69 c70 c71 c72 c73 c74 c75 c76 c77 c78 c79 c80 c81 c82 c83 c84 c85 c86 c87 c88 c89 c90 c91 c92 c93 c94 c95 c96 c97 c98 c99 c100 c101 c102 c103 c104 c105 c106 c107 c108 c109 c110 c111 c112 c113 c114 c115 c116 c117 c118 c119 c120 c121 c122 c123 c124 c125 c126 c127 c128 c129 c130 c131 c132 c133 c134 c135 c136 c137 c138 c139 c140 c141 c142 c143 c144 c145 c146 c147 c148 c149 c150 c151 c152 c153 c154 c155 c156 c157 c158 c159 c160 c161 c162 c163 c164 c165 c166 c167 c168 c169 c170 c171 c172 c173 c174 c175 c176 c177 c178 c179 c180 c181 c182 c183 c184 c185 c186 c187 c188 c189 c190 c191 c192 c193 c194 c195 c196 c197 c198 c199 c200 c201 c202 c203 c204 c205 c206 c207 c208 c209 c210 c211 c212 c213 c214 c215 c216 c217 c218 c219 c220 c221 c222 c223 c224 c225 c226 c227 c228 c229 c230 c231 c232 c233 c234 c235 c236 c237 c238 c239 c240 c241 c242 c243 c244 c245 c246 c247 c248 c249 c250 c251 c252 c253 c254 c255 c256 c257 c258 c259 c260 c261 c262 c263 c264 c265 c266 c267 c268 c269 c270 c271 c272 c273 c274 c275 c276 c277 c278 c279 c280 c281 c282 c283 c284 c285 c286 c287 c288 c289 c290 c291 c292 c293 c294 c295 c296 c297 c298 c299 c300 c301 c302 c303 c304 c305 c306 c307 c308 c309 c310 c311 c312 c313 c314 c315 c316 c317 c318 c319 c320 c321 c322 c323 c324 c325 c326 c327 c328 c329 c330 c331 c332 c333 c334 c335 c336 c337 c338 c339 c340 c341 c342 c343 c344 c345 c346 c347 c348 c349 c350 c351 c352 c353 c354 c355 c356 c357 c358 c359 c360 c361 c362 c363 c364 c365 c366 c367 c368 c369 c370 c371 c372 c373 c374 c375 c376 c377 c378 c379 c380 c381 c382 c383 c384 c385 c386 c387 c388 c389 c390 c391 c392 c393 c394 c395 c396 c397 c398 c399 c400 c401 c402 c403 c404 c405 c406 c407 c408 c409 c410 c411 c412 c413 c414 : Value) {Q : Exit → Act → World → Prop} (hexit : ∀ (a' : Act) (w' : World), a' = frP c0 c1 c2 (.pointer (some ⟨q, 0, none⟩)) (.int .i64 (n : Int)) c5 c6 (.slice (some ⟨gp, 0, none⟩) n n) c11 c12 c13 c14 c15 c16 c17 c18 c19 c20 c21 c22 c23 c24 c25 c26 c27 c28 c29 c30 c31 c32 c33 c34 c35 c36 c37 c38 c39 c40 c41 c42 c43 c44 c45 c46 c47 c48 c49 c50 c51 c52 c53 c54 c55 c56 c57 c58 c59 c60 c61 c62 c63 c64 c65 c66 c67 c68 c69 c70 c71 c72 c73 c74 c75 c76 c77 c78 c79 c135 c136 c137 c138 c139 c140 c141 c142 c143 c144 c145 c146 c147 c148 c149 c150 c151 c152 c153 c154 c155 c156 c157 c158 c159 c160 c161 c162 c163 c164 c165 c166 c167 c168 c169 c170 c171 c172 c173 c174 c175 c176 c177 c178 c179 c180 c181 c182 c183 c184 c185 c186 c187 c188 c189 c190 c191 c192 c193 c194 c195 c196 c197 c198 c199 c200 c201 c202 c203 c204 c205 c206 c207 c208 c209 c210 c211 c212 c213 c214 c215 c216 c217 c218 c219 c220 c221 c222 c223 c224 c225 c226 c227 c228 c229 c230 c231 c232 c233 c234 c235 c236 c237 c238 c239 c240 c241 c242 c243 c244 c245 c246 c247 c248 c249 c250 c251 c252 c253 c254 c255 c256 c257 c258 c259 c260 c261 c262 c263 c264 c265 c266 c267 c268 c269 c270 c271 c272 c273 c274 c275 c276 c277 c278 c279 c280 c281 c282 c283 c284 c285 c286 c287 c288 c289 c290 c291 c292 c293 c294 c295 c296 c297 c298 c299 c300 c301 c302 c303 c304 c305 c306 c307 c308 c309 c310 c311 c312 c313 c314 c315 c316 c317 c318 c319 c320 c321 c322 c323 c324 c325 c326 c327 c328 c329 c330 c331 c332 c333 c334 c335 c336 c337 c338 c339 c340 c341 c342 c343 c344 c345 c346 c347 c348 c349 c350 c351 c352 c353 c354 c355 c356 c357 c358 c359 c360 c361 c362 c363 c364 c365 c366 c367 c368 c369 c370 c371 c372 c373 c374 c375 c376 c377 c378 c379 c380 c381 c382 c383 c384 c385 c386 c387 c388 c389 c390 c391 c392 c393 c394 c395 c396 c397 c398 c399 c400 c401 c402 c403 c404 c405 c406 c407 c408 c409 c410 c411 c412 c413 c414 (fun k => a'.tmps.toList.getD k undef) → PhisOk w w' q vs P n R vts g5 C5 gp → Q .normal a' w') :
    Code.wp Try.prog phisCode Q ⟨#[c0, c1, c2, .pointer (some ⟨q, 0, none⟩), .int .i64 (n : Int), c5, c6, .slice (some ⟨gp, 0, none⟩) n n, .int .i64 1, c9, c10, c11, c12, c13, c14, c15, c16, c17, c18, c19, c20, c21, c22, c23, c24, c25, c26, c27, c28, c29, c30, c31, c32, c33, c34, c35, c36, c37, c38, c39, c40, c41, c42, c43, c44, c45, c46, c47, c48, c49, c50, c51, c52, c53, c54, c55, c56, c57, c58, c59, c60, c61, c62, c63, c64, c65, c66, c67, c68, c69, c70, c71, c72, c73, c74, c75, c76, c77, c78, c79, c80, c81, c82, c83, c84, c85, c86, c87, c88, c89, c90, c91, c92, c93, c94, c95, c96, c97, c98, c99, c100, c101, c102, c103, c104, c105, c106, c107, c108, c109, c110, c111, c112, c113, c114, c115, c116, c117, c118, c119, c120, c121, c122, c123, c124, c125, c126, c127, c128, c129, c130, c131, c132, c133, c134, c135, c136, c137, c138, c139, c140, c141, c142, c143, c144, c145, c146, c147, c148, c149, c150, c151, c152, c153, c154, c155, c156, c157, c158, c159, c160, c161, c162, c163, c164, c165, c166, c167, c168, c169, c170, c171, c172, c173, c174, c175, c176, c177, c178, c179, c180, c181, c182, c183, c184, c185, c186, c187, c188, c189, c190, c191, c192, c193, c194, c195, c196, c197, c198, c199, c200, c201, c202, c203, c204, c205, c206, c207, c208, c209, c210, c211, c212, c213, c214, c215, c216, c217, c218, c219, c220, c221, c222, c223, c224, c225, c226, c227, c228, c229, c230, c231, c232, c233, c234, c235, c236, c237, c238, c239, c240, c241, c242, c243, c244, c245, c246, c247, c248, c249, c250, c251, c252, c253, c254, c255, c256, c257, c258, c259, c260, c261, c262, c263, c264, c265, c266, c267, c268, c269, c270, c271, c272, c273, c274, c275, c276, c277, c278, c279, c280, c281, c282, c283, c284, c285, c286, c287, c288, c289, c290, c291, c292, c293, c294, c295, c296, c297, c298, c299, c300, c301, c302, c303, c304, c305, c306, c307, c308, c309, c310, c311, c312, c313, c314, c315, c316, c317, c318, c319, c320, c321, c322, c323, c324, c325, c326, c327, c328, c329, c330, c331, c332, c333, c334, c335, c336, c337, c338, c339, c340, c341, c342, c343, c344, c345, c346, c347, c348, c349, c350, c351, c352, c353, c354, c355, c356, c357, c358, c359, c360, c361, c362, c363, c364, c365, c366, c367, c368, c369, c370, c371, c372, c373, c374, c375, c376, c377, c378, c379, c380, c381, c382, c383, c384, c385, c386, c387, c388, c389, c390, c391, c392, c393, c394, c395, c396, c397, c398, c399, c400, c401, c402, c403, c404, c405, c406, c407, c408, c409, c410, c411, c412, c413, c414], []⟩ wx := by
  have H0 := Lib.hid H0_
  have HR := Lib.hid HR_
  have HM := Lib.hid HM_
  have HP := Lib.hid HP_
  have HLv := Lib.hid HLv_
  have Hexit := Lib.hid hexit
  clear hexit H0_ HR_ HM_ HP_ HLv_
  conv => arg 2; whnf
  go_wp2
  go_loopg [8] n (fun r v8 wx => ∃ (b : Nat) (F : List Nat) (a : Nat) (st : MSt) (pr : List Nat), v8 = .int .i64 (b : Int) ∧ 1 ≤ b ∧ b ≤ n ∧ Hid (b + r = n + 1) ∧ Hid (a ≤ 200 + 2 * b) ∧ Hid (MB w wx q vs F a st vts g5 C5 gp pr) ∧ Hid (P1 P n R pr b 0 st) ∧ Hid (st.live = []))
  case atStart => exact ⟨1, F, a, st, _, rfl, by omega, by omega, by simp only [Hid]; omega, by simp only [Hid]; omega, HM, HP, HLv⟩
  case round =>
    clear HM HP HLv Ha_
    obtain ⟨b, F, a, st, pr, rfl, hb1, hb, HK, Ha, HM, HP, HLv⟩ := hrel
    obtain ⟨q8, hq8⟩ : ∃ x, x = gk := ⟨_, rfl⟩
    subst hq8
    have hlen := HP.out.len
    have hplen := HP.out.plen
    by_cases hlt : b < n
    · skip
      obtain ⟨A3, cap3, S3, y2, y3, hfn, _, _, _⟩ := HM.out.mi.m.fn
      have Hto := Lib.hid (to_bound HR.out HP.out.to)
      have Hlen := Lib.hid hlen
      rw [hlen] at y3 hfn
      have Hfn := Lib.hid hfn
      clear hfn hlen
      go_wp2_with fail
      refine (mpreds_calls Hfn.out (by show st.blocks.length ≤ _; rw [Hlen.out]; omega) (fun x hx => by have := (Hto.out x hx).1; omega) (b : Int)).mono ?_
      rintro e w9 ⟨v9, S9, rfl, hp9, hnew9⟩
      obtain ⟨A9, c9, rfl, _⟩ := hp9.shape
      obtain ⟨lp, hlp⟩ : ∃ l, l = (predsT st.blocks (b : Int)).length := ⟨_, rfl⟩
      simp only [← hlp]
      have HM9 := Lib.hid (HM.out.ext0 hnew9.ext)
      have Hlp := Lib.hid hlp
      clear hp9 hnew9 HM Hfn y2 y3 hlp
      go_upto_if 93 with (fail)
      go_cut [] from 85 to 104 (fun wc => ∃ (a' : Nat) (pr' : List Nat), Hid (a' ≤ a + 1) ∧ Hid (MB w wc q vs F a' st vts g5 C5 gp pr') ∧ Hid (P1 P n R pr' b 0 st))
      case first =>
        by_cases hp : 1 < lp
        · go_wp2_with fail
          refine (take_calls HM9.out.mi.m (by have := Ha.out; omega) 4 (by omega) (by omega)).mono ?_
          rintro e w10 ⟨k, hk, rfl, m10, hx10⟩
          have HM10 := Lib.hid (HM9.out.same m10 hx10)
          obtain ⟨k0, f0⟩ := HM10.out.phis (b := b) (by omega)
          clear m10 hx10
          go_wp2
          go_meet
          exact ⟨a + 1, pr.set b k, by simp [Hid], HM10.out.setP H0.out b k, HP.out.put k (by omega) hb1⟩
        · go_wp2_with fail
          refine (take_calls HM9.out.mi.m (by have := Ha.out; omega) 6 (by omega) (by omega)).mono ?_
          rintro e w10 ⟨k, hk, rfl, m10, hx10⟩
          have HM10 := Lib.hid (HM9.out.same m10 hx10)
          obtain ⟨k0, f0⟩ := HM10.out.phis (b := b) (by omega)
          clear m10 hx10
          by_cases hk0 : k = 0
          · subst hk0
            go_wp2
            go_meet
            exact ⟨a + 1, pr.set b 1, by simp [Hid], HM10.out.setP H0.out b 1, HP.out.put 1 (by omega) hb1⟩
          · have e0 : ((k : Int) == 0) = false := by simp; omega
            go_wp2
            go_meet
            exact ⟨a + 1, pr, by simp [Hid], HM10.out, HP.out⟩
      case rest =>
        obtain ⟨a', pr', Ha', HM', HP'⟩ := hcut
        have hpl := HP'.out.plen
        obtain ⟨k0, f0⟩ := HM'.out.phis (b := b) (by omega)
        obtain ⟨kk, hkk⟩ : ∃ kk, kk = pr'.getD b 0 := ⟨_, rfl⟩
        have Hkk := Lib.hid hkk
        have HP'0 : Hid (kk ≤ 3) := by
          rw [hkk, List.getD_eq_getElem?_getD, List.getElem?_eq_getElem (by omega)]
          exact HP'.out.ple _ (List.getElem_mem _)
        clear k0 f0 hkk HM9 HP hplen
        have hkk3 := HP'0.out
        go_wp2
        go_loopg [10] kk (fun r v10 wy => ∃ (i : Nat) (F : List Nat) (st : MSt), v10 = .int .i64 (i : Int) ∧ i ≤ kk ∧ Hid (i + r = kk) ∧ Hid (MB w wy q vs F a' st vts g5 C5 gp pr') ∧ Hid (P1 P n R pr' b i st) ∧ Hid (st.live = []))
        case atStart => exact ⟨0, F, st, rfl, by omega, by simp [Hid], HM', HP', HLv⟩
        case round =>
          clear HM' HP' Hlen Hto Hlp HLv
          obtain ⟨i, F, st, rfl, hi, HK4, HM, HP, HLv⟩ := hrel
          obtain ⟨q10, hq10⟩ : ∃ x, x = gk := ⟨_, rfl⟩
          subst hq10
          obtain ⟨k0, f0⟩ := HM.out.phis (b := b) (by omega)
          rw [← Hkk.out] at k0
          by_cases hltk : i < kk
          · have hbl : b < st.blocks.length := by rw [HP.out.len]; exact hlt
            obtain ⟨g, cap, vp, vi, va, vt, Sp, Si, Sa, St, k3, hvt, O, cl1, cl2⟩ := HM.out.mi.opens H0.out b hbl
            clear cl1 cl2 hvt
            have kc := O.c0
            rw [HP.out.len] at k3
            have HO := Lib.hid O
            have Hbl := Lib.hid hbl
            have Hph : Hid (st.blocks[b].phis.length ≤ 1000) := by
              have := (HP.out.ph b hbl).1
              simp only [Nat.lt_irrefl, if_false, if_true] at this
              have := HP'0.out
              simp only [Hid]; omega
            have Hnx := Lib.hid HP.out.nx
            obtain ⟨nx, hnx⟩ : ∃ nx, nx = st.next := ⟨_, rfl⟩
            have HNx := Lib.hid hnx
            have HM0 := Lib.hid (HM.out.ext0 ((Ext.refl [] wr).drew))
            clear O hnx
            go_wp2
            have hC0 : wr.drew.cell? ⟨q, 3, none⟩ = some (.slice (some ⟨g, 0, none⟩) n cap) ∧ wr.drew.cell? ⟨g, b * 6, none⟩ = some vp := ⟨k3, kc⟩
            refine wp_region_rt (fun W => W.cell? ⟨q, 3, none⟩ = some (.slice (some ⟨g, 0, none⟩) n cap) ∧ W.cell? ⟨g, b * 6, none⟩ = some vp)
              (.q 0 (.q 1 (.q 2 (.q 3 (.q 4 (.q 5 (.q 6 (.q 7 (.q 8 (.q 9 (.q 10 (.q 11 (.q 12 (.q 13 (.q 14 (.q 15 (.e 16 (.q 17 (.e 18 (.e 19 (.q 20 (.q 21 (.fin 22))))))))))))))))))))))) (by kernel_rfl) (by kernel_rfl) hC0 ?_
            repeat (refine rt_quiet _ rfl rfl (fun W' hC => by conv => lhs; simp [go_sem, hC.1, hC.2, hlt]) ?_; simp only [put_lit, put_none, List.set_cons_succ, List.set_cons_zero])
            refine s_call (w' := wr.drew) rfl rfl (by simp [go_sem]) ((fresh2_calls HM0.out.mi.m (by have := Hnx.out; omega) (by have := Hnx.out; have := HP'0.out; omega)).mono ?_)
            rintro e w1 ⟨rfl, m1, hx1, hqF, hq3⟩
            rw [← HNx.out]
            have hgq := HO.out.gq
            have hC1 : w1.cell? ⟨q, 3, none⟩ = some (.slice (some ⟨g, 0, none⟩) n cap) ∧ w1.cell? ⟨g, b * 6, none⟩ = some vp := ⟨hq3.trans hC0.1, hx1.cell hC0.2 (by simpa using hgq)⟩
            have HM1 := Lib.hid (HM0.out.same m1 (hx1.mono fun k hk => .inl (by simp at hk; subst hk; exact hqF)))
            clear hq3 hgq m1
            refine ⟨_, rfl, hC1, ?_⟩
            simp only [put_lit, put_none, List.set_cons_succ, List.set_cons_zero]
            repeat (refine rt_quiet _ rfl rfl (fun W' hC => by conv => lhs; simp [go_sem, hC.1, hC.2, hlt]) ?_; simp only [put_lit, put_none, List.set_cons_succ, List.set_cons_zero])
            obtain ⟨w2, hw2⟩ : ∃ z, z = w1.alloc (.cells #[.int .i64 nx, .slice none 0 0] 46) := ⟨_, rfl⟩
            have hx2 : Ext [] w1 w2 := by rw [hw2]; exact (Ext.refl _ _).alloc _
            have hsrc : Src w2 (.slice (some ⟨w1.heap.size, 0, none⟩) 1 1) 1 [.int .i64 nx, .slice none 0 0] := by rw [hw2]; exact Src.blk 1
            have hC2 : w2.cell? ⟨q, 3, none⟩ = some (.slice (some ⟨g, 0, none⟩) n cap) ∧ w2.cell? ⟨g, b * 6, none⟩ = some vp := ⟨hx2.cell hC1.1 (by simp), hx2.cell hC1.2 (by simp)⟩
            obtain ⟨A', n', c', w3, hrun, d3, dc, df, F', m3, hF3⟩ := phi_app H0.out HM1.out.mi b Hbl.out hx2 nx hsrc Hph.out hC1.1 hC1.2
            refine s_eff (.slice (some ⟨w1.heap.size, 0, none⟩) 1 1) (w' := w2) rfl rfl (by rw [hw2]; simp [go_sem]) ⟨hC2, ?_⟩
            simp only [put_lit, put_none, List.set_cons_succ, List.set_cons_zero]
            refine s_eff (.slice A' n' c') (w' := w3) rfl rfl (exec_append rfl rfl rfl hrun) ⟨⟨d3, dc⟩, ?_⟩
            simp only [put_lit, put_none, List.set_cons_succ, List.set_cons_zero]
            repeat (refine rt_quiet _ rfl rfl (fun W' hC => by conv => lhs; simp [go_sem, hC.1, hC.2, hlt]) ?_; simp only [put_lit, put_none, List.set_cons_succ, List.set_cons_zero])
            refine fin_eff0 (w' := w3.setCell ⟨g, b * 6, none⟩ (.slice A' n' c')) rfl rfl (by simp [go_sem, dc, df]) ?_
            simp only [put_lit, put_none, List.set_cons_succ, List.set_cons_zero]
            have HM3 := Lib.hid (HM1.out.step m3 hF3)
            clear hC0 hC1 hC2 hrun d3 dc df m3 hF3 hsrc hw2 hx2 hx1 k3 kc HO
            go_wp2
            go_roundg (q10 - 1)
            case measure => have := HK4.out; omega
            case rel =>
              have hst : st.addPhi b = { st.fresh with blocks := st.fresh.blocks.modify b fun x => { x with phis := x.phis ++ [⟨nx, []⟩] } } := by rw [HNx.out]; rfl
              exact ⟨i + 1, F', st.addPhi b, by go_num, by omega, by have := HK4.out; simp only [Hid]; omega, by rw [Hid, hst]; exact HM3.out, HP.out.phi Hbl.out, HLv⟩
          · have hie : i = kk := by omega
            clear hltk
            go_wp2
            go_roundg (q8 - 1)
            case measure => have := HK.out; omega
            case rel =>
              exact ⟨b + 1, F, a', st, pr', by go_num, by omega, by omega, by have := HK.out; simp only [Hid]; omega, by have := Ha.out; have := Ha'.out; simp only [Hid]; omega, HM.out, HP.out.next (by rw [← Hkk.out]; exact hie.symm), HLv⟩
    · obtain rfl : n = b := by omega
      clear hlt
      go_wp2
      refine Hexit.out _ _ rfl ⟨F, a, st, pr, HM.out, HP.out, Ha.out, HLv.out⟩
end Go.Proofs.Ytkmgbejhbkbaoaa

/- The maker of functions, walked. -/
namespace Go.Proofs.Ytkmgbejhbkbaoaa
set_option linter.unusedSimpArgs false
set_option linter.unusedVariables false
open Go.RowKit

theorem Try.info43b : (Try.prog.info? 43).map (fun i => (i.zero, i.size, i.bytes)) = some (some (.agg #[.slice none 0 0, .slice none 0 0, .int .i64 0, .slice none 0 0, .slice none 0 0, .int .i32 0]), 6, 112) := by kernel_rfl
def MadeP (w : World) (e : Ending) (w' : World) : Prop := ∃ (v : Value) (S : List Nat) (f : JFunc), e = .returned v ∧ FnR w' S v f ∧ New w w' S ∧ RightF f ∧ f.blocks.length ≤ 9 ∧ thingsN f.blocks ≤ 3240
theorem FSt.things {P n : Nat} {R : List (List Int)} {pr : List Nat} {b i c : Nat} {st : MSt} (h : FSt P n R pr b i c st) (h9 : n ≤ 9) (hc : c ≤ 300) : thingsN st.blocks ≤ 3240 := by
  have hth : thingsN st.blocks ≤ st.blocks.length * 360 := sum_le st.blocks _ 360 fun x hx => by
    obtain ⟨k, hk, rfl⟩ := List.getElem_of_mem hx
    have h1 := h.ph k hk
    have h2 := h.ple k
    have h3 := h.il k hk
    omega
  have := h.len
  omega
/-- the blocks are made -/
theorem made_blocks {w5 : World} {q : Nat} {vs : Value} {F : List Nat} {a : Nat} {st : MSt} {vts : List Value} (h : MkE w5 q vs F a st vts) (n : Nat) (hn : n ≤ 100000) :
    ∃ F', MkE ((w5.setCell ⟨q, 3, none⟩ (.slice (some ⟨w5.heap.size, 0, none⟩) n n)).alloc (.cells (madeCells #[.slice none 0 0, .slice none 0 0, .int .i64 0, .slice none 0 0, .slice none 0 0, .int .i32 0] (n * 6)) 43)) q vs F' a { st with blocks := List.replicate n zeroB } (List.replicate n (.slice none 0 0)) ∧
      (∀ k ∈ F', k ∈ F ∨ w5.heap.size ≤ k) ∧ Ext [q] w5 ((w5.setCell ⟨q, 3, none⟩ (.slice (some ⟨w5.heap.size, 0, none⟩) n n)).alloc (.cells (madeCells #[.slice none 0 0, .slice none 0 0, .int .i64 0, .slice none 0 0, .slice none 0 0, .int .i32 0] (n * 6)) 43)) := by
  have hq : q < w5.heap.size := by
    obtain ⟨vb, vl, Sb, Sl, H⟩ := h
    exact H.blk.lt
  have hxa : Ext [] w5 (w5.alloc (.cells (madeCells #[.slice none 0 0, .slice none 0 0, .int .i64 0, .slice none 0 0, .slice none 0 0, .int .i32 0] (n * 6)) 43)) := (Ext.refl _ _).alloc _
  obtain ⟨Sn, h1, h2, h3⟩ := zero_rows (w := w5) n hn
  have hlt := h.lt
  obtain ⟨F', m, hF, hx⟩ := (h.ext0 hxa).rows h1 (by simp) (fun k hk h4 => by have := h2 k hk; have := hlt k h4; omega) h3 (h.rd.wider (hxa.mono (by simp)) fun k hk => by have := h2 k hk; omega)
  have e : (w5.alloc (.cells (madeCells #[.slice none 0 0, .slice none 0 0, .int .i64 0, .slice none 0 0, .slice none 0 0, .int .i32 0] (n * 6)) 43)).setCell ⟨q, 3, none⟩ (.slice (some ⟨w5.heap.size, 0, none⟩) n n) =
      (w5.setCell ⟨q, 3, none⟩ (.slice (some ⟨w5.heap.size, 0, none⟩) n n)).alloc (.cells (madeCells #[.slice none 0 0, .slice none 0 0, .int .i64 0, .slice none 0 0, .slice none 0 0, .int .i32 0] (n * 6)) 43) := by simp [go_sem, hq]
  rw [e] at m hx
  exact ⟨F', m, fun k hk => (hF k hk).imp id fun h4 => by have := h2 k h4; omega, (hxa.mono (by simp)).same hx⟩
set_option maxRecDepth 20000 in
set_option maxHeartbeats 12800000 in
theorem made_calls {w : World} {vs : Value} (hrd : RdS w [] vs) : Calls Try.prog 8 #[vs] w (MadeP w) := by
  have H0 := Lib.hid hrd
  obtain ⟨A, nv, cv, hvs, _, _⟩ := hrd
  subst hvs
  obtain ⟨q, hq⟩ : ∃ q, q = w.heap.size + 1 := ⟨_, rfl⟩
  obtain ⟨w0, hw0⟩ : ∃ z, z = ((w.alloc (.cells #[.int .i64 0, .slice none 0 0] 26)).alloc (.cells #[.slice A nv cv, .int .i64 0, .int .i64 0, .slice none 0 0, .int .i64 0, .slice none 0 0] 58)) := ⟨_, rfl⟩
  have m0 : MkE w0 q (.slice A nv cv) [q] 0 ⟨0, [], 0, []⟩ [] := by
    have h1 := MkE.start (W := w.alloc (.cells #[.int .i64 0, .slice none 0 0] 26)) (vs := .slice A nv cv) (H0.out.step ⟨(Ext.refl _ _).alloc _, fun k hk => .inl hk⟩)
    simp only [World.size_alloc] at h1
    rw [hw0, hq]; exact h1
  have hE0 : Hid (Ext [] w w0) := by rw [hw0]; exact ((Ext.refl _ _).alloc _).alloc _
  have hL0 : Hid (Lo w w0 [q] w.heap.size 26 #[.int .i64 0, .slice none 0 0]) := by rw [hw0, hq]; exact ⟨(Blk.new _ _ _).alloc _, by simp, Nat.le_refl _⟩
  go_enter Try.func8, Try.ntmps8
  go_wp2_with fail
  rw [← hw0, ← hq]
  have Hq := Lib.hid hq
  clear hq hw0
  refine (take_calls m0 (by omega) 5 (by omega) (by omega)).mono ?_
  rintro e w1 ⟨P, hP, rfl, m1, hx1⟩
  have hL1 := Lib.hid (hL0.out.step (F2 := [q]) ⟨hx1, fun k hk => .inl hk⟩)
  obtain ⟨y2, y4, yf, _, _⟩ := m1.cells
  have f2 := yf 2
  have f4 := yf 4
  have m2 := (m1.num (P : Int)).1
  have m3 := (m2.num (P : Int)).2.1
  obtain ⟨w3, hw3⟩ : ∃ z, z = (w1.setCell ⟨q, 2, none⟩ (.int .i64 (P : Int))).setCell ⟨q, 4, none⟩ (.int .i64 (P : Int)) := ⟨_, rfl⟩
  have hx13 : Ext [q] w1 w3 := by rw [hw3]; exact (((Ext.refl _ _).setCell (.inl (by simp)) _).setCell (.inl (by simp)) _)
  have hL3 := Lib.hid (hL1.out.step (F2 := [q]) ⟨hx13, fun k hk => .inl hk⟩)
  have hE3 := Lib.hid ((hx1.same hx13))
  rw [← hw3] at m3
  have M3 := Lib.hid m3
  clear m0 m1 m2 m3 hx1 hL0 hL1
  go_wp2_with fail
  rw [← hw3]
  clear y2 y4 yf f2 f4 hw3 hx13
  refine (take_calls M3.out (by omega) 9 (by omega) (by omega)).mono ?_
  rintro e w4 ⟨n0, hn0, rfl, m4, hx4⟩
  have hL4 := Lib.hid (hL3.out.step (F2 := [q]) ⟨hx4, fun k hk => .inl hk⟩)
  have hE4 := Lib.hid (hE3.out.same hx4)
  obtain ⟨n, hn⟩ : ∃ n, n = n0 + 1 := ⟨_, rfl⟩
  have hnn : 1 + (n0 : Int) = (n : Int) := by omega
  have hn1 : 1 ≤ n ∧ n ≤ 9 := by omega
  clear hL3 hE3 M3 hx4
  go_wp2_with fail
  rw [show (n0 : Int) + 1 = (n : Int) by omega]
  refine (targets_calls m4 (by omega) n (by omega) (by omega)).mono ?_
  rintro e w5 ⟨v5, S5, R, a5, rfl, ha5, hT5, hR⟩
  obtain ⟨g5, cap5, _, _, hv5, _⟩ := hT5.rows.at 0 (by rw [hR.1]; omega)
  subst hv5
  have hRl := hR.1
  rw [hRl] at hT5
  rw [hRl]
  obtain ⟨hg5, val, Sk, hrow⟩ := rows_open hT5.rows hT5.nd (by omega)
  obtain ⟨F6, m6, hF6, hx6⟩ := made_blocks hT5.mm n (by omega)
  have hL5 := Lib.hid (hL4.out.step (F2 := [q]) ⟨hT5.ext, fun k hk => .inl hk⟩)
  have hE5 := Lib.hid (hE4.out.same hT5.ext)
  obtain ⟨y2, y4, yf, ⟨gb, cb, y3⟩, _⟩ := hT5.mm.cells
  have f3 := yf 3
  have hmk := run_make_eq Try.underlying24 Try.info43b rfl n (n * 6) rfl (by omega) (by decide)
  have hqlt := hT5.mm.lt q (by simp)
  have HT5 := Lib.hid hT5
  have HR := Lib.hid hR
  have HRl := Lib.hid hRl
  have Hrow := Lib.hid hrow
  have hlt4 := hL4.out.blk.lt
  clear hL4 hE4 m4 hnn hn yf hT5 hR hRl hrow
  obtain ⟨W6, hW6⟩ : ∃ z, z = (w5.setCell ⟨q, 3, none⟩ (.slice (some ⟨w5.heap.size, 0, none⟩) n n)).alloc (.cells (madeCells #[.slice none 0 0, .slice none 0 0, .int .i64 0, .slice none 0 0, .slice none 0 0, .int .i32 0] (n * 6)) 43) := ⟨_, rfl⟩
  rw [← hW6] at m6 hx6
  have H63 : Hid (∃ cap, W6.cell? ⟨q, 3, none⟩ = some (.slice (some ⟨w5.heap.size, 0, none⟩) n cap)) := ⟨n, by rw [hW6]; simp [go_sem, hqlt, y3]⟩
  have M6 : Hid (MkE W6 q (.slice A nv cv) F6 a5 ⟨P, toB R n 0, P, []⟩ (toV val n 0)) := by rw [Hid, toB_zero, toV_zero]; exact m6
  have HF6 := Lib.hid hF6
  have HX6 := Lib.hid hx6
  clear m6 hF6 hx6
  go_wp2
  rw [← hW6]
  clear hW6 hmk y2 y4 y3 f3
  go_loopg [6] n (fun r vi wr => ∃ (i : Nat) (Fi : List Nat), vi = .int .i64 (i : Int) ∧ i ≤ n ∧ Hid (i + r = n) ∧ Hid (MkE wr q (.slice A nv cv) Fi a5 ⟨P, toB R n i, P, []⟩ (toV val n i)) ∧ Hid (∀ k ∈ Fi, k ∈ F6 ∨ ∃ j, j < i ∧ k ∈ Sk j) ∧ Hid (Ext [q, w5.heap.size] W6 wr) ∧ Hid (∃ cap, wr.cell? ⟨q, 3, none⟩ = some (.slice (some ⟨w5.heap.size, 0, none⟩) n cap)))
  case atStart => exact ⟨0, F6, rfl, by omega, by simp [Hid], M6, Lib.hid (fun k hk => .inl hk), Lib.hid (Ext.refl _ _), H63⟩
  case round =>
    clear M6 H63
    obtain ⟨i, Fi, rfl, hi, HK, hM, hF, hX, h3c⟩ := hrel
    by_cases hlt : i < n
    · have hiR : i < R.length := by rw [HRl.out]; exact hlt
      obtain ⟨hr1, hr2, hr3, hr4, hr5⟩ := Hrow.out i hiR
      have hF6s : ∀ k ∈ F6, k = q ∨ w5.heap.size ≤ k := fun k hk => by simpa using HF6.out k hk
      have hSl : ∀ k ∈ S5, k < w5.heap.size ∧ k ≠ q := fun k hk => ⟨HT5.out.rows.lt k hk, fun e => HT5.out.off k hk (by simp [e])⟩
      have hS6 : ∀ k ∈ S5, k ∉ F6 := fun k hk h2 => by have := hSl k hk; rcases hF6s k h2 with h3 | h3 <;> omega
      have hx5r : Ext [q] w5 wr := HX6.out.trans hX.out fun k hk => by simp at hk; rcases hk with h3 | h3; exact .inl (by simp [h3]); exact .inr (by omega)
      have hro : SlR kInt 3 wr (Sk i) (val i) R[i] := (hr1.ext HX6.out (fun k hk h2 => by simp at h2; exact (hSl k (hr3 k hk).1).2 h2)).ext hX.out fun k hk h2 => by have := hSl k (hr3 k hk).1; simp at h2; omega
      have hc5 := hx5r.cell hr2 (by simp; rintro rfl; exact (hSl _ hg5).2 rfl)
      have hoff : ∀ k ∈ Sk i, k ∉ Fi := fun k hk h2 => by
        rcases hF.out k h2 with h3 | ⟨j, hj, h3⟩
        · exact hS6 k (hr3 k hk).1 h3
        · exact hr5 j (by omega) (by omega) k hk h3
      have hFs : ∀ k ∈ Fi ++ Sk i, k ∈ [q] ++ S5 ∨ w5.heap.size ≤ k := fun k hk => by
        rcases List.mem_append.1 hk with h2 | h2
        · rcases hF.out k h2 with h3 | ⟨j, hj, h3⟩
          · rcases hF6s k h3 with h4 | h4
            · exact .inl (by simp [h4])
            · exact .inr h4
          · exact .inl (by simp [((Hrow.out j (by rw [HRl.out]; omega)).2.2.1 k h3).1])
        · exact .inl (by simp [(hr3 k h2).1])
      have hrd9 : RdS wr.drew (Fi ++ Sk i) (.slice A nv cv) := HT5.out.rd.step ⟨(hx5r.nil ((Ext.refl _ _).drew)).mono (fun k hk => .inl (by simp at hk; simp [hk])), hFs⟩
      obtain ⟨Av, cw, hval, _⟩ := hro.shape
      obtain ⟨lv, hlv⟩ : ∃ l, l = R[i].length := ⟨_, rfl⟩
      rw [← hlv] at hval
      have Hval := Lib.hid hval
      rw [hval] at hc5 hro
      obtain ⟨g, cap, c3, ⟨u0, k0⟩, hfz, hgq, hgF, F', m', hF', hx'⟩ := (hM.out.ext0 ((Ext.refl _ _).drew)).setTo i (by rw [toB_len]; exact hlt) (hro.ext0 ((Ext.refl _ _).drew)) hoff hr4 hrd9
      simp only [toB_len] at c3
      obtain ⟨cap0, h3c0⟩ := h3c.out
      have hge : g = w5.heap.size := by
        have h9 : wr.cell? ⟨q, 3, none⟩ = some (.slice (some ⟨g, 0, none⟩) n cap) := c3
        rw [h3c0] at h9; injection h9 with h9; injection h9 with h9; injection h9 with h9; injection h9 with h9; exact h9.symm
      have Hge := Lib.hid hge
      clear hge h3c0
      have k0' : wr.cell? ⟨g, i * 6 + 2 + 2, none⟩ = some u0 := k0
      have hf0 : wr.frozen? ⟨g, i * 6 + 2 + 2, none⟩ = false := hfz _
      have hC0 : wr.cell? ⟨q, 3, none⟩ = some (.slice (some ⟨g, 0, none⟩) n cap) ∧ wr.cell? ⟨g5, i, none⟩ = some (.slice Av lv cw) := ⟨c3, hc5⟩
      have Hm := Lib.hid m'
      have HF' := Lib.hid hF'
      have HX' := Lib.hid hx'
      clear m' hF' hx' k0 hfz c3 hc5 hval hlv
      go_wp2
      refine wp_region_rt (fun W => W.cell? ⟨q, 3, none⟩ = some (.slice (some ⟨g, 0, none⟩) n cap) ∧ W.cell? ⟨g5, i, none⟩ = some (.slice Av lv cw)) (.q 0 (.q 1 (.q 2 (.q 3 (.q 4 (.q 5 (.q 6 (.q 7 (.q 8 (.q 9 (.q 10 (.q 11 (.q 12 (.fin 13)))))))))))))) (by kernel_rfl) (by kernel_rfl) hC0 ?_
      refine rt_quiet (.pointer (some ⟨q, 0, none⟩)) rfl rfl (fun W' hC => by simp [go_sem]) ?_
      simp only [put_lit, put_none, List.set_cons_succ, List.set_cons_zero]
      refine rt_quiet (.pointer (some ⟨q, 0, none⟩)) rfl rfl (fun W' hC => by simp [go_sem]) ?_
      simp only [put_lit, put_none, List.set_cons_succ, List.set_cons_zero]
      refine rt_quiet (.pointer (some ⟨q, 2, none⟩)) rfl rfl (fun W' hC => by simp [go_sem]) ?_
      simp only [put_lit, put_none, List.set_cons_succ, List.set_cons_zero]
      refine rt_quiet (.pointer (some ⟨q, 3, none⟩)) rfl rfl (fun W' hC => by simp [go_sem]) ?_
      simp only [put_lit, put_none, List.set_cons_succ, List.set_cons_zero]
      refine rt_quiet (.slice (some ⟨g, 0, none⟩) n cap) rfl rfl (fun W' hC => by simp [go_sem, hC.1]) ?_
      simp only [put_lit, put_none, List.set_cons_succ, List.set_cons_zero]
      refine rt_quiet (.int .i64 (i : Int)) rfl rfl (fun W' hC => by simp [go_sem]) ?_
      simp only [put_lit, put_none, List.set_cons_succ, List.set_cons_zero]
      refine rt_quiet (.slice (some ⟨g5, 0, none⟩) n cap5) rfl rfl (fun W' hC => by simp [go_sem]) ?_
      simp only [put_lit, put_none, List.set_cons_succ, List.set_cons_zero]
      refine rt_quiet (.int .i64 (i : Int)) rfl rfl (fun W' hC => by simp [go_sem]) ?_
      simp only [put_lit, put_none, List.set_cons_succ, List.set_cons_zero]
      refine rt_quiet (.pointer (some ⟨g5, i, none⟩)) rfl rfl (fun W' hC => by simp [go_sem, hlt]) ?_
      simp only [put_lit, put_none, List.set_cons_succ, List.set_cons_zero]
      refine rt_quiet ((.slice Av lv cw)) rfl rfl (fun W' hC => by simp [go_sem, hC.2]) ?_
      simp only [put_lit, put_none, List.set_cons_succ, List.set_cons_zero]
      refine rt_quiet (.pointer (some ⟨g, i * 6, none⟩)) rfl rfl (fun W' hC => by simp [go_sem, hlt]) ?_
      simp only [put_lit, put_none, List.set_cons_succ, List.set_cons_zero]
      refine rt_quiet (.pointer (some ⟨g, i * 6 + 2, none⟩)) rfl rfl (fun W' hC => by simp [go_sem]) ?_
      simp only [put_lit, put_none, List.set_cons_succ, List.set_cons_zero]
      refine rt_quiet (.pointer (some ⟨g, i * 6 + 2 + 2, none⟩)) rfl rfl (fun W' hC => by simp [go_sem]) ?_
      simp only [put_lit, put_none, List.set_cons_succ, List.set_cons_zero]
      refine fin_eff0 (w' := wr.drew.setCell ⟨g, i * 6 + 2 + 2, none⟩ (.slice Av lv cw)) rfl rfl (by simp [go_sem, k0', hf0]) ?_
      simp only [put_lit, put_none, List.set_cons_succ, List.set_cons_zero]
      clear k0' hf0 hC0
      go_wp2
      go_roundg (gk - 1)
      case measure => have := HK.out; omega
      case rel =>
        refine ⟨i + 1, F', by go_num, by omega, by have := HK.out; simp only [Hid]; omega, ?_, fun k hk => ?_, ?_, ?_⟩
        · have hm := Hm.out
          rw [Hid, ← toB_succ R hlt, ← toV_succ val hlt, Hval.out, List.getD_eq_getElem?_getD, List.getElem?_eq_getElem hiR]
          exact hm
        · rcases HF'.out k hk with h2 | h2
          · rcases hF.out k h2 with h4 | ⟨j, hj, h4⟩
            · exact .inl h4
            · exact .inr ⟨j, by omega, h4⟩
          · exact .inr ⟨i, by omega, h2⟩
        · have hx9 := HX'.out
          rw [Hge.out] at hx9 ⊢
          exact hX.out.same ((((Ext.refl [] wr).drew).mono (M' := [q, w5.heap.size]) (by simp)).same (hx9.mono fun k hk => .inl (by simp at hk; simp [hk])))
        · obtain ⟨cap9, h9⟩ := h3c.out
          have hx9 := HX'.out
          rw [Hge.out] at hx9 ⊢
          exact ⟨cap9, hx9.cell (show wr.drew.cell? ⟨q, 3, none⟩ = _ from h9) (by simp; omega)⟩
    · obtain rfl : n = i := by omega
      have hF6s : ∀ k ∈ F6, k = q ∨ w5.heap.size ≤ k := fun k hk => by simpa using HF6.out k hk
      have hSl : ∀ k ∈ S5, k < w5.heap.size ∧ k ≠ q ∧ w4.heap.size ≤ k := fun k hk => ⟨HT5.out.rows.lt k hk, fun e => HT5.out.off k hk (by simp [e]), HT5.out.new k hk⟩
      have hx5r : Ext [q] w5 wr := HX6.out.trans hX.out fun k hk => by simp at hk; rcases hk with h3 | h3; exact .inl (by simp [h3]); exact .inr (by omega)
      have hqw : q = w.heap.size + 1 := Hq.out
      have hFi : ∀ k ∈ Fi, k = q ∨ w5.heap.size ≤ k ∨ (k ∈ S5 ∧ k ≠ g5) := fun k hk => by
        rcases hF.out k hk with h3 | ⟨j, hj, h3⟩
        · exact (hF6s k h3).imp id .inl
        · exact .inr (.inr ((Hrow.out j (by rw [HRl.out]; exact hj)).2.2.1 k h3))
      have hsz5 : w4.heap.size ≤ w5.heap.size := HT5.out.ext.size
      obtain ⟨C5, hb5, hC5⟩ := rows_blk HT5.out.rows (by rw [HRl.out]; omega)
      have hg5' := hSl g5 hg5
      have M7 : Hid (MI w wr q (.slice A nv cv) Fi a5 ⟨P, toB R n n, P, []⟩ (toV val n n)) := ⟨hM.out, hE0.out.trans (hE5.out.same hx5r) fun k hk => .inr (by simp at hk; omega), fun k hk => by
        rcases hFi k hk with h3 | h3 | ⟨h3, _⟩
        · omega
        · omega
        · have := hSl k h3; omega⟩
      have hL7 : Hid (Lo w wr Fi w.heap.size 26 #[.int .i64 0, .slice none 0 0]) := ⟨hL5.out.blk.ext hx5r (by simp; omega), fun hk => by
        rcases hFi _ hk with h3 | h3 | ⟨h3, _⟩
        · omega
        · omega
        · have := hSl _ h3; omega, Nat.le_refl _⟩
      have hL5' : Hid (Lo w wr Fi g5 22 C5) := ⟨hb5.ext hx5r (by simpa using hg5'.2.1), fun hk => by
        rcases hFi _ hk with h3 | h3 | ⟨_, h3⟩
        · exact hg5'.2.1 h3
        · omega
        · exact h3 rfl, by omega⟩
      have HC5 : Hid (∀ k, k < n → C5[k]? = some (val k)) := fun k hk => hC5 k _ (Hrow.out k (by rw [HRl.out]; exact hk)).2.1
      have hg5n : w.heap.size < g5 := by omega
      have hltr : g5 < wr.heap.size := hL5'.out.blk.lt
      have Hmi0 : Hid (P1 P n R (List.replicate n 0) 1 0 ⟨P, toB R n n, P, []⟩) := P1.start HRl.out (by omega)
      have HR' : Hid (TR n (3 * n) n R) := HR.out
      have Hvts : Hid (∀ k, k < n → (toV val n n)[k]? = some (val k)) := fun k hk => by simp [toV, hk]
      have hlv0 : wr.heap.size ∉ Fi := fun hk => by have := hM.out.lt _ hk; omega
      have hB8 : Hid (MB w (wr.alloc (.cells (madeCells #[.int .i64 0] n) 3)) q (.slice A nv cv) Fi a5 ⟨P, toB R n n, P, []⟩ (toV val n n) g5 C5 wr.heap.size (List.replicate n 0)) := by
        have hxa : Ext [] wr (wr.alloc (.cells (madeCells #[.int .i64 0] n) 3)) := (Ext.refl _ _).alloc _
        refine ⟨M7.out.ext0 hxa, hL7.out.ext0 hxa, hL5'.out.ext0 hxa, ⟨?_, hlv0, by omega⟩, by omega, by omega⟩
        rw [← ints_zero]; exact Blk.new _ _ _
      have hmk := run_make_eq Try.underlying22 Try.info3 rfl n n (by simp) (by omega) (by decide)
      have H0' : Hid (RdS w [] (.slice A nv cv)) := H0.out
      obtain ⟨gp, hgp⟩ : ∃ x, x = wr.heap.size := ⟨_, rfl⟩
      obtain ⟨w8, hw8⟩ : ∃ x, x = wr.alloc (.cells (madeCells #[.int .i64 0] n) 3) := ⟨_, rfl⟩
      rw [← hw8, ← hgp] at hB8
      clear hF6s hSl hx5r hFi hsz5 hb5 hC5 hg5' M7 hL7 hL5' hlv0 hM hF hX h3c HK hi hlt Hrow HR HT5 HF6 HX6 HRl H0 hE5 hL5 hg5 hlt4 hqlt hltr hE0
      have Ha5 : Hid (a5 ≤ 200) := by simp only [Hid]; omega
      clear ha5
      go_upto_block 2 with (fail)
      rw [← hw8, ← hgp]
      clear hw8 hgp
      refine phis_block0 H0'.out (by omega) hn1.1 hn1.2 HR'.out hB8.out Hmi0.out Ha5.out rfl _ _ _ _ _ _ _ _ _ _ _ _ _ _ _ _ _ _ _ _ _ _ _ _ _ _ _ _ _ _ _ _ _ _ _ _ _ _ _ _ _ _ _ _ _ _ _ _ _ _ _ _ _ _ _ _ _ _ _ _ _ _ _ _ _ _ _ _ _ _ _ _ _ _ _ _ _ _ _ _ _ _ _ _ _ _ _ _ _ _ _ _ _ _ _ _ _ _ _ _ _ _ _ _ _ _ _ _ _ _ _ _ _ _ _ _ _ _ _ _ _ _ _ _ _ _ _ _ _ _ _ _ _ _ _ _ _ _ _ _ _ _ _ _ _ _ _ _ _ _ _ _ _ _ _ _ _ _ _ _ _ _ _ _ _ _ _ _ _ _ _ _ _ _ _ _ _ _ _ _ _ _ _ _ _ _ _ _ _ _ _ _ _ _ _ _ _ _ _ _ _ _ _ _ _ _ _ _ _ _ _ _ _ _ _ _ _ _ _ _ _ _ _ _ _ _ _ _ _ _ _ _ _ _ _ _ _ _ _ _ _ _ _ _ _ _ _ _ _ _ _ _ _ _ _ _ _ _ _ _ _ _ _ _ _ _ _ _ _ _ _ _ _ _ _ _ _ _ _ _ _ _ _ _ _ _ _ _ _ _ _ _ _ _ _ _ _ _ _ _ _ _ _ _ _ _ _ _ _ _ _ _ _ _ _ _ _ _ _ _ _ _ _ _ _ _ _ _ _ _ _ _ _ _ _ _ _ _ _ _ _ _ _ _ _ _ _ _ _ _ _ _ _ _ _ _ _ _ _ _ _ _ _ _ _ _ _ _ _ _ _ _ _ _ _ _ _ _ _ _ _ _ _ _ _ _ _ _ _ _ _ _ _ _ _ _ _ _ _ _ _ _ _ _ _ _ _ _ _ _ _ ?_
      intro a' w' ha' hok
      obtain ⟨u, hu⟩ : ∃ u : Nat → Value, a' = frP _ _ _ _ _ _ _ _ _ _ _ _ _ _ _ _ _ _ _ _ _ _ _ _ _ _ _ _ _ _ _ _ _ _ _ _ _ _ _ _ _ _ _ _ _ _ _ _ _ _ _ _ _ _ _ _ _ _ _ _ _ _ _ _ _ _ _ _ _ _ _ _ _ _ _ _ _ _ _ _ _ _ _ _ _ _ _ _ _ _ _ _ _ _ _ _ _ _ _ _ _ _ _ _ _ _ _ _ _ _ _ _ _ _ _ _ _ _ _ _ _ _ _ _ _ _ _ _ _ _ _ _ _ _ _ _ _ _ _ _ _ _ _ _ _ _ _ _ _ _ _ _ _ _ _ _ _ _ _ _ _ _ _ _ _ _ _ _ _ _ _ _ _ _ _ _ _ _ _ _ _ _ _ _ _ _ _ _ _ _ _ _ _ _ _ _ _ _ _ _ _ _ _ _ _ _ _ _ _ _ _ _ _ _ _ _ _ _ _ _ _ _ _ _ _ _ _ _ _ _ _ _ _ _ _ _ _ _ _ _ _ _ _ _ _ _ _ _ _ _ _ _ _ _ _ _ _ _ _ _ _ _ _ _ _ _ _ _ _ _ _ _ _ _ _ _ _ _ _ _ _ _ _ _ _ _ _ _ _ _ _ _ _ _ _ _ _ _ _ _ _ _ _ _ _ _ _ _ _ _ _ _ _ _ _ _ _ _ _ _ _ _ _ _ _ _ _ _ _ _ _ _ _ _ _ _ _ _ _ _ _ _ _ _ _ _ _ _ _ _ _ _ _ _ _ _ _ u := ⟨_, ha'⟩
      clear ha' hB8 Hmi0 Ha5
      subst hu
      simp only [frP]
      obtain ⟨F, a, st, pr, HM_, HP_, Ha_, HLv_⟩ := hok
      have HM := Lib.hid HM_
      have HP := Lib.hid HP_
      have Ha := Lib.hid Ha_
      have HLv := Lib.hid HLv_
      clear HM_ HP_ Ha_ HLv_
      have HPl : Hid (pr.length = n) := HP.out.plen
      have HT0 := Lib.hid HP.out.turns
      have hmk := run_make_eq Try.underlying63 Try.info4 rfl n n (by simp) (by omega) (by decide)
      obtain ⟨z1, z2, z3⟩ := HM.out.lts
      have hgdF : w'.heap.size ∉ F := fun hk => by have := HM.out.mi.m.lt _ hk; omega
      obtain ⟨gd, hgd⟩ : ∃ x, x = w'.heap.size := ⟨_, rfl⟩
      obtain ⟨w12, hw12⟩ : ∃ x, x = w'.alloc (.cells (madeCells #[.bool false] n) 4) := ⟨_, rfl⟩
      have HD0 : Hid (MD w w12 q (.slice A nv cv) F a st (toV val n n) g5 C5 gp pr gd (List.replicate n false)) := by
        have hxa : Ext [] w' w12 := by rw [hw12]; exact (Ext.refl _ _).alloc _
        refine ⟨HM.out.ext0 hxa, ⟨?_, by rw [hgd]; exact hgdF, by omega⟩, by omega, by omega, by omega⟩
        rw [← bools_false, hgd, hw12]; exact Blk.new _ _ _
      obtain ⟨G, hG⟩ : ∃ G, G = gR R n := ⟨_, rfl⟩
      have HG := Lib.hid hG
      have hAG : Hid (AllR G ∧ Good G ∧ G.length = n) := by
        have e := ofF_R HP.out.to HP.out.len
        rw [Hid, hG, ← e]
        exact ⟨reach_of HR'.out (by omega) HP.out.to, ofF_good _, by simp [ofF, HP.out.len]⟩
      have Ha0 : Hid (a + 3000 * offN (List.replicate n false) ≤ 300 + 3000 * n) := by have := Ha.out; rw [Hid, offN_rep]; omega
      have Hv0 : Hid (∀ b, (List.replicate n false)[b]? = some false → (toV val n n)[b]? = some (val b)) := fun b hb => Hvts.out b (by have := (List.getElem?_eq_some_iff.1 hb).1; simpa using this)
      have Ht0 : Hid (offN (List.replicate n false) + 0 ≤ n) := by rw [Hid, offN_rep]; omega
      have Hlv0 : Hid (st.live.length ≤ 40000) := by rw [Hid, HLv.out]; simp
      clear HM HP hG z1 z2 z3 hgdF Ha
      go_upto_block 6 with (fail)
      rw [← hw12, ← hgd]
      clear hw12 hgd hmk
      refine turns_block0 H0'.out (by omega) hn1.2 HC5.out HR'.out HG.out hAG.out HD0.out HT0.out Ht0.out Hv0.out Ha0.out Hlv0.out _ _ _ _ _ _ _ _ _ _ _ _ _ _ _ _ _ _ _ _ _ _ _ _ _ _ _ _ _ _ _ _ _ _ _ _ _ _ _ _ _ _ _ _ _ _ _ _ _ _ _ _ _ _ _ _ _ _ _ _ _ _ _ _ _ _ _ _ _ _ _ _ _ _ _ _ _ _ _ _ _ _ _ _ _ _ _ _ _ _ _ _ _ _ _ _ _ _ _ _ _ _ _ _ _ _ _ _ _ _ _ _ _ _ _ _ _ _ _ _ _ _ _ _ _ _ _ _ _ _ _ _ _ _ _ _ _ _ _ _ _ _ _ _ _ _ _ _ _ _ _ _ _ _ _ _ _ _ _ _ _ _ _ _ _ _ _ _ _ _ _ _ _ _ _ _ _ _ _ _ _ _ _ _ _ _ _ _ _ _ _ _ _ _ _ _ _ _ _ _ _ _ _ _ _ _ _ _ _ _ _ _ _ _ _ _ _ _ _ _ _ _ _ _ _ _ _ _ _ _ _ _ _ _ _ _ _ _ _ _ _ _ _ _ _ _ _ _ _ _ _ _ _ _ _ _ _ _ _ _ _ _ _ _ _ _ _ _ _ _ _ _ _ _ _ _ _ _ _ _ _ _ _ _ _ _ _ _ _ _ _ _ _ _ _ _ _ _ _ _ _ _ _ _ _ _ _ _ _ _ _ _ _ _ _ _ _ _ _ _ _ _ _ _ _ _ _ _ _ _ _ _ _ _ _ _ _ _ _ _ _ _ _ _ _ _ _ _ _ _ _ _ _ _ _ _ _ _ _ _ _ _ _ _ _ _ _ _ _ _ _ _ _ _ _ _ _ _ _ _ _ _ _ _ _ _ _ _ _ _ _ _ _ _ _ _ _ _ _ _ _ _ _ _ _ _ _ _ _ ?_
      intro a' w' ha' hok
      obtain ⟨u', hu'⟩ : ∃ u : Nat → Value, a' = frTs _ _ _ _ _ _ _ _ _ _ _ _ _ _ _ _ _ _ _ _ _ _ _ _ _ _ _ _ _ _ _ _ _ _ _ _ _ _ _ _ _ _ _ _ _ _ _ _ _ _ _ _ _ _ _ _ _ _ _ _ _ _ _ _ _ _ _ _ _ _ _ _ _ _ _ _ _ _ _ _ _ _ _ _ _ _ _ _ _ _ _ _ _ _ _ _ _ _ _ _ _ _ _ _ _ _ _ _ _ _ _ _ _ _ _ _ _ _ _ _ _ _ _ _ _ _ _ _ _ _ _ _ _ _ _ _ _ _ _ _ _ _ _ _ _ _ _ _ _ _ _ _ _ _ _ _ _ _ _ _ _ _ _ _ _ _ _ _ _ _ _ _ _ _ _ _ _ _ _ _ _ _ _ _ _ _ _ _ _ _ _ _ _ _ _ _ _ _ _ _ _ _ _ _ _ u := ⟨_, ha'⟩
      clear ha' HD0 HT0 Ht0 Hv0 Ha0 Hlv0
      subst hu'
      simp only [frTs]
      obtain ⟨F, a, st, vts, D, HM_, HT_, HO_, Ha_, HLv_⟩ := hok
      have HM := Lib.hid HM_
      have HT := Lib.hid (HT_.phis HO_)
      have Ha : Hid (a ≤ 40000) := by simp only [Hid]; omega
      have HLv := Lib.hid HLv_
      clear HM_ HT_ Ha_ HLv_ HO_
      go_upto_block 24 with (fail)
      refine fill_block0 H0'.out (by omega) hn1.1 hn1.2 HR'.out HPl.out HM.out HT.out Ha.out HLv.out _ _ _ _ _ _ _ _ _ _ _ _ _ _ _ _ _ _ _ _ _ _ _ _ _ _ _ _ _ _ _ _ _ _ _ _ _ _ _ _ _ _ _ _ _ _ _ _ _ _ _ _ _ _ _ _ _ _ _ _ _ _ _ _ _ _ _ _ _ _ _ _ _ _ _ _ _ _ _ _ _ _ _ _ _ _ _ _ _ _ _ _ _ _ _ _ _ _ _ _ _ _ _ _ _ _ _ _ _ _ _ _ _ _ _ _ _ _ _ _ _ _ _ _ _ _ _ _ _ _ _ _ _ _ _ _ _ _ _ _ _ _ _ _ _ _ _ _ _ _ _ _ _ _ _ _ _ _ _ _ _ _ _ _ _ _ _ _ _ _ _ _ _ _ _ _ _ _ _ _ _ _ _ _ _ _ _ _ _ _ _ _ _ _ _ _ _ _ _ _ _ _ _ _ _ _ _ _ _ _ _ _ _ _ _ _ _ _ _ _ _ _ _ _ _ _ _ _ _ _ _ _ _ _ _ _ _ _ _ _ _ _ _ _ _ _ _ _ _ _ _ _ _ _ _ _ _ _ _ _ _ _ _ _ _ _ _ _ _ _ _ _ _ _ _ _ _ _ _ _ _ _ _ _ _ _ _ _ _ _ _ _ _ _ _ _ _ _ _ _ _ _ _ _ _ _ _ _ _ _ _ _ _ _ _ _ _ _ _ _ _ _ _ _ _ _ _ _ _ _ _ _ _ _ _ _ _ _ _ _ _ _ _ _ _ _ _ _ _ _ _ _ _ _ _ _ _ _ _ _ _ _ _ _ _ _ _ _ _ _ _ _ _ _ _ _ _ _ _ _ _ _ _ _ _ _ _ _ _ _ _ _ _ _ _ _ _ _ _ _ _ _ _ _ _ _ _ _ _ _ _ ?_
      intro a' w' ha' hok
      obtain ⟨u2, hu2⟩ : ∃ u : Nat → Value, a' = frF _ _ _ _ _ _ _ _ _ _ _ _ _ _ _ _ _ _ _ _ _ _ _ _ _ _ _ _ _ _ _ _ _ _ _ _ _ _ _ _ _ _ _ _ _ _ _ _ _ _ _ _ _ _ _ _ _ _ _ _ _ _ _ _ _ _ _ _ _ _ _ _ _ _ _ _ _ _ _ _ _ _ _ _ _ _ _ _ _ _ _ _ _ _ _ _ _ _ _ _ _ _ _ _ _ _ _ _ _ _ _ _ _ _ _ _ _ _ _ _ _ _ _ _ _ _ _ _ _ _ _ _ _ _ _ _ _ _ _ _ _ _ _ _ _ _ _ _ _ _ _ _ _ _ _ _ _ _ _ _ _ _ _ _ _ _ _ _ _ _ _ _ _ _ _ _ _ _ _ _ _ _ _ _ _ _ _ _ _ _ _ _ _ _ _ _ _ _ _ _ _ _ _ _ _ _ _ _ _ _ _ _ _ _ _ _ _ _ _ _ _ _ _ _ _ _ _ _ _ _ _ _ _ _ _ _ _ _ _ _ _ _ _ _ _ _ _ _ _ _ _ _ _ _ _ _ _ _ _ _ _ _ _ _ _ _ _ _ _ _ _ _ _ _ _ _ _ _ _ _ _ _ _ _ _ _ _ _ _ _ _ _ _ _ _ _ _ _ _ _ _ _ _ _ _ _ _ _ _ _ _ _ _ _ _ _ _ _ _ _ _ _ _ _ _ _ _ _ _ _ _ _ u := ⟨_, ha'⟩
      clear ha' HM HT Ha HLv
      subst hu2
      simp only [frF]
      obtain ⟨F, a, st, vts, c, HM_, HT_, Hc_⟩ := hok
      obtain ⟨A3, cap3, S3, y2, y3, hfn, hsub, hnd3, -⟩ := HM_.mi.m.fn
      have HRt := Lib.hid (HT_.right HR'.out (by omega) hn1.2 (by omega) Hc_)
      have Hthn := Lib.hid (HT_.things hn1.2 Hc_)
      have HSt : Hid (st.params = (P : Int) ∧ st.blocks.length = n) := ⟨HT_.par, HT_.len⟩
      rw [HSt.out.1] at y2 hfn
      rw [HSt.out.2] at y3 hfn
      have d0 : w'.cell? ⟨w.heap.size, 0, none⟩ = some (.int .i64 0) := HM_.l2.blk.cell (i := 0) rfl
      have d1 : w'.cell? ⟨w.heap.size, 1, none⟩ = some (.slice none 0 0) := HM_.l2.blk.cell (i := 1) rfl
      have f1 := HM_.l2.blk.frozen 1
      have f0 := HM_.l2.blk.frozen 0
      have HM := Lib.hid HM_
      have Hfn := Lib.hid hfn
      have Hsub := Lib.hid hsub
      have Hnd3 := Lib.hid hnd3
      clear HM_ HT_ Hc_ hfn hsub hnd3 hmk hqw hg5n
      go_wp2
      obtain ⟨W2, hW2⟩ : ∃ x, x = (w'.setCell ⟨w.heap.size, 0, none⟩ (.int .i64 (P : Int))).setCell ⟨w.heap.size, 1, none⟩ (.slice A3 n cap3) := ⟨_, rfl⟩
      have hxW : Ext [w.heap.size] w' W2 := by rw [hW2]; exact ((Ext.refl _ _).setCell (.inl (by simp)) _).setCell (.inl (by simp)) _
      have hlt2 := HM.out.l2.blk.lt
      have hB2 : Blk W2 w.heap.size 26 #[.int .i64 (P : Int), .slice A3 n cap3] := by rw [hW2]; simpa using ((HM.out.l2.blk.set 0 (.int .i64 (P : Int))).set 1 (.slice A3 n cap3))
      have r0 : W2.cell? ⟨w.heap.size, 0, none⟩ = some (.int .i64 (P : Int)) := hB2.cell (i := 0) rfl
      have r1 : W2.cell? ⟨w.heap.size, 1, none⟩ = some (.slice A3 n cap3) := hB2.cell (i := 1) rfl
      have hfin : MadeP w (.returned (.agg #[.int .i64 (P : Int), .slice A3 n cap3])) W2 := ⟨_, S3, _, rfl, Hfn.out.ext hxW (fun x hx h2 => by simp at h2; subst h2; exact HM.out.l2.off (Hsub.out _ hx)), ⟨HM.out.mi.x.trans hxW fun x hx => .inr (by simp at hx; omega), fun x hx => HM.out.mi.n x (Hsub.out x hx), Hnd3.out⟩, HRt.out, by show st.blocks.length ≤ 9; rw [HSt.out.2]; exact hn1.2, Hthn.out⟩
      rw [← hW2]
      clear hW2 d0 d1 f0 f1 y2 y3
      exact bodyPost_ret (v := .agg #[.int .i64 (P : Int), .slice A3 n cap3]) (by simp [results, Try.results8, go_sem, r0, r1]) rfl hfin
end Go.Proofs.Ytkmgbejhbkbaoaa

/- The laws' common start: numbers that came in, cut to 400. -/
namespace Go.Proofs.Ytkmgbejhbkbaoaa
set_option linter.unusedSimpArgs false
set_option linter.unusedVariables false
open Go.RowKit

/-- numbers that came in -/
def NumS (w : World) (v : Value) : Prop := ∃ A n c, v = .slice A n c ∧ n ≤ c ∧ c ≤ maxLen ∧ ∀ i, i < n → ∃ g o x, A = some ⟨g, o, none⟩ ∧ w.cell? ⟨g, o + i, none⟩ = some (.int .i64 x)
theorem NumS.ext0 {w w' : World} {v : Value} (h : NumS w v) (hx : Ext [] w w') : NumS w' v := by
  obtain ⟨A, n, c, rfl, h1, h2, h⟩ := h
  refine ⟨A, n, c, rfl, h1, h2, fun i hi => ?_⟩
  obtain ⟨g, o, x, rfl, hc⟩ := h i hi
  exact ⟨g, o, x, rfl, hx.cell hc (by simp)⟩
set_option maxRecDepth 20000 in
theorem seed_calls {w : World} {v : Value} (h : NumS w v) : Calls Try.prog 9 #[v] w fun e w' => ∃ v', e = .returned v' ∧ RdS w' [] v' ∧ Ext [] w w' := by
  obtain ⟨A, n, c, rfl, h1, h2, h⟩ := h
  have H := Lib.hid h
  clear h
  by_cases hn : 400 < n
  · obtain ⟨g, o, x, rfl, hc⟩ := H.out 0 (by omega)
    have hl : 400 ≤ c := by omega
    go_enter Try.func9, Try.ntmps9
    go_wp2
    go_ret
    refine ⟨_, rfl, ⟨some ⟨g, o, none⟩, 400, c, rfl, by omega, fun i hi => ?_⟩, Ext.refl _ _⟩
    obtain ⟨g', o', x', e, hc'⟩ := H.out i (by omega)
    injection e with e
    injection e with e1 e2
    exact ⟨g, o, x', rfl, by simp, by rw [e1, e2]; exact hc'⟩
  · go_enter Try.func9, Try.ntmps9
    go_wp2
    go_ret
    refine ⟨_, rfl, ⟨A, n, c, rfl, by omega, fun i hi => ?_⟩, Ext.refl _ _⟩
    obtain ⟨g', o', x', e, hc'⟩ := H.out i hi
    exact ⟨g', o', x', e, by simp, hc'⟩
/-- what the laws need of a function by numbers -/
theorem made_small {f : JFunc} (h : RightF f) (h9 : f.blocks.length ≤ 9) (ht : thingsN f.blocks ≤ 3240) : tooMany f = false ∧ (critF (ofF f.blocks)).length ≤ 81 ∧ (∀ x ∈ f.blocks, ∀ t ∈ x.term.to, 0 ≤ t ∧ t < (f.blocks.length : Int)) := by
  have hc := crit_le (ofF_good f.blocks)
  have hl : (ofF f.blocks).length = f.blocks.length := by simp [ofF]
  rw [hl] at hc
  have hc2 : (critF (ofF f.blocks)).length ≤ 81 := Nat.le_trans hc (Nat.le_trans (Nat.mul_le_mul h9 h9) (by decide))
  refine ⟨?_, hc2, fun x hx t ht => by have := h.to x hx t ht; omega⟩
  unfold tooMany
  simp only [Bool.or_eq_false_iff, decide_eq_false_iff_not]
  omega
end Go.Proofs.Ytkmgbejhbkbaoaa

/- Plain: the graph of a function that was split: who dominates whom among its own blocks is as it was. -/
namespace Go.Proofs.Ytkmgbejhbkbaoaa
set_option linter.unusedSimpArgs false
set_option linter.unusedVariables false

section
variable {bs : List JBlock}
theorem split_len (bs : List JBlock) : (splitBs bs).length = bs.length + (critF (ofF bs)).length := by simp [splitBs]
theorem split_lo {a : Nat} (ha : a < bs.length) : (splitBs bs)[a]'(by rw [split_len]; omega) = fixB bs.length (critF (ofF bs)) a bs[a] := by
  simp only [splitBs]
  rw [List.getElem_append_left (by simpa using ha), List.getElem_mapIdx]
theorem split_hi {i : Nat} (hi : i < (critF (ofF bs)).length) : (splitBs bs)[bs.length + i]'(by rw [split_len]; omega) = jumpB ((critF (ofF bs))[i].2) := by
  simp only [splitBs]
  rw [List.getElem_append_right (by simp)]
  simp
theorem crit_ed {e : Nat × Nat} (h : e ∈ critF (ofF bs)) : Ed (ofF bs) e.1 e.2 := mem_edgesF.1 (List.mem_filter.1 h).1
/-- where a block of its own leads now -/
theorem ed_lo (hto : ∀ x ∈ bs, ∀ t ∈ x.term.to, 0 ≤ t ∧ t < (bs.length : Int)) {a y : Nat} (ha : a < bs.length) :
    Ed (ofF (splitBs bs)) a y ↔ (y < bs.length ∧ Ed (ofF bs) a y ∧ (a, y) ∉ critF (ofF bs)) ∨ ∃ i, ∃ hi : i < (critF (ofF bs)).length, y = bs.length + i ∧ (critF (ofF bs))[i].1 = a := by
  rw [ed_ofF]
  have hnd := crit_nodup (ofF_good bs)
  have hal : a < (splitBs bs).length := by rw [split_len]; omega
  constructor
  · rintro ⟨_, hy, hm⟩
    rw [split_lo ha] at hm
    simp only [fixB, List.mem_map] at hm
    obtain ⟨t, ht, he⟩ := hm
    obtain ⟨h0, h1⟩ := hto bs[a] (List.getElem_mem ha) t ht
    obtain ⟨t', rfl⟩ : ∃ t' : Nat, t = (t' : Int) := ⟨t.toNat, by omega⟩
    have hed : Ed (ofF bs) a t' := ed_ofF.2 ⟨ha, by omega, ht⟩
    unfold fixT at he
    cases hl : lookC bs.length (critF (ofF bs)) a (t' : Int).toNat with
    | some k =>
      rw [hl] at he
      simp only at he
      obtain ⟨i, hi, hc, hk⟩ := lookC_mem hl
      exact .inr ⟨i, hi, by omega, by rw [hc]⟩
    | none =>
      rw [hl] at he
      simp only at he
      obtain rfl : t' = y := by omega
      refine .inl ⟨by omega, hed, fun hc => ?_⟩
      obtain ⟨i, hi, hci⟩ := List.getElem_of_mem hc
      have := lookC_some (n := bs.length) hnd hi
      rw [hci] at this
      simp only [Int.toNat_natCast] at hl
      rw [this] at hl
      cases hl
  · rintro (⟨hy, hed, hc⟩ | ⟨i, hi, rfl, hc⟩)
    · obtain ⟨_, _, ht⟩ := ed_ofF.1 hed
      refine ⟨hal, by rw [split_len]; omega, ?_⟩
      rw [split_lo ha]
      simp only [fixB, List.mem_map]
      refine ⟨(y : Int), ht, ?_⟩
      unfold fixT
      rw [show (y : Int).toNat = y by simp, lookC_none hc]
    · have hed := crit_ed (List.getElem_mem hi)
      rw [hc] at hed
      obtain ⟨_, _, ht⟩ := ed_ofF.1 hed
      refine ⟨hal, by rw [split_len]; omega, ?_⟩
      rw [split_lo ha]
      simp only [fixB, List.mem_map]
      refine ⟨((critF (ofF bs))[i].2 : Int), ht, ?_⟩
      unfold fixT
      have := lookC_some (n := bs.length) hnd hi
      rw [hc] at this
      rw [show (((critF (ofF bs))[i].2 : Nat) : Int).toNat = (critF (ofF bs))[i].2 by simp, this]
theorem ed_hi {i y : Nat} (hi : i < (critF (ofF bs)).length) : Ed (ofF (splitBs bs)) (bs.length + i) y ↔ y = (critF (ofF bs))[i].2 := by
  have h2 := (Ed.lt (ofF_good bs) (crit_ed (List.getElem_mem hi))).2
  have h3 : (critF (ofF bs))[i].2 < bs.length := by simpa [ofF] using h2
  rw [ed_ofF]
  constructor
  · rintro ⟨_, _, hm⟩
    rw [split_hi hi] at hm
    simp [jumpB] at hm
    omega
  · rintro rfl
    refine ⟨by rw [split_len]; omega, by rw [split_len]; omega, ?_⟩
    rw [split_hi hi]
    simp [jumpB]
theorem rwo_split_to (hto : ∀ x ∈ bs, ∀ t ∈ x.term.to, 0 ≤ t ∧ t < (bs.length : Int)) (h0 : 0 < bs.length) {y x : Nat} (h : Rwo (ofF (splitBs bs)) y x) :
    (x < bs.length → Rwo (ofF bs) y x) ∧ ∀ i, x = bs.length + i → ∀ hi : i < (critF (ofF bs)).length, Rwo (ofF bs) y (critF (ofF bs))[i].1 := by
  induction h with
  | zero hy => exact ⟨fun _ => .zero hy, fun i hi => by omega⟩
  | step hx e hne ih =>
    rename_i x z
    by_cases hxl : x < bs.length
    · rcases (ed_lo hto hxl).1 e with ⟨hz, hed, _⟩ | ⟨i, hi, hz, hc⟩
      · exact ⟨fun _ => (ih.1 hxl).step hed hne, fun i hi => by omega⟩
      · refine ⟨fun h => by omega, fun j hj hj2 => ?_⟩
        obtain rfl : i = j := by omega
        rw [hc]; exact ih.1 hxl
    · have hxl2 := (Ed.lt (ofF_good _) e).1
      have hxl3 : x < bs.length + (critF (ofF bs)).length := by rw [← split_len]; simpa [ofF] using hxl2
      obtain ⟨i, rfl⟩ : ∃ i, x = bs.length + i := ⟨x - bs.length, by omega⟩
      have hi : i < (critF (ofF bs)).length := by omega
      have hz := (ed_hi hi).1 e
      have hr := ih.2 i rfl hi
      have hed := crit_ed (List.getElem_mem hi)
      have hzl := (Ed.lt (ofF_good bs) hed).2
      have hzl2 : (critF (ofF bs))[i].2 < bs.length := by simpa [ofF] using hzl
      subst hz
      exact ⟨fun _ => hr.step hed hne, fun j hj => by omega⟩
theorem rwo_split_of (hto : ∀ x ∈ bs, ∀ t ∈ x.term.to, 0 ≤ t ∧ t < (bs.length : Int)) {y x : Nat} (hy : y < bs.length) (h : Rwo (ofF bs) y x) : Rwo (ofF (splitBs bs)) y x := by
  induction h with
  | zero hy => exact .zero hy
  | step hx e hne ih =>
    rename_i x z
    have hl := Ed.lt (ofF_good bs) e
    have hxl : x < bs.length := by simpa [ofF] using hl.1
    have hzl : z < bs.length := by simpa [ofF] using hl.2
    by_cases hc : (x, z) ∈ critF (ofF bs)
    · obtain ⟨i, hi, hci⟩ := List.getElem_of_mem hc
      have h1 : Ed (ofF (splitBs bs)) x (bs.length + i) := (ed_lo hto hxl).2 (.inr ⟨i, hi, rfl, by rw [hci]⟩)
      have h2 : Ed (ofF (splitBs bs)) (bs.length + i) z := (ed_hi hi).2 (by rw [hci])
      exact (ih.step h1 (by omega)).step h2 hne
    · exact ih.step ((ed_lo hto hxl).2 (.inl ⟨hzl, e, hc⟩)) hne
theorem rch_split (hto : ∀ x ∈ bs, ∀ t ∈ x.term.to, 0 ≤ t ∧ t < (bs.length : Int)) {x : Nat} (h : Rch (ofF bs) 0 x) : Rch (ofF (splitBs bs)) 0 x := by
  induction h with
  | refl => exact .refl
  | step hx e ih =>
    rename_i x z
    have hl := Ed.lt (ofF_good bs) e
    have hxl : x < bs.length := by simpa [ofF] using hl.1
    have hzl : z < bs.length := by simpa [ofF] using hl.2
    by_cases hc : (x, z) ∈ critF (ofF bs)
    · obtain ⟨i, hi, hci⟩ := List.getElem_of_mem hc
      have h1 : Ed (ofF (splitBs bs)) x (bs.length + i) := (ed_lo hto hxl).2 (.inr ⟨i, hi, rfl, by rw [hci]⟩)
      have h2 : Ed (ofF (splitBs bs)) (bs.length + i) z := (ed_hi hi).2 (by rw [hci])
      exact (ih.step h1).step h2
    · exact ih.step ((ed_lo hto hxl).2 (.inl ⟨hzl, e, hc⟩))
theorem split_reach (hto : ∀ x ∈ bs, ∀ t ∈ x.term.to, 0 ≤ t ∧ t < (bs.length : Int)) (ha : AllR (ofF bs)) : AllR (ofF (splitBs bs)) := by
  have h0 : 0 < bs.length := by simpa [ofF] using ha.1
  refine ⟨by simp [ofF, split_len]; omega, fun x hx => ?_⟩
  have hx2 : x < bs.length + (critF (ofF bs)).length := by rw [← split_len]; simpa [ofF] using hx
  by_cases hxl : x < bs.length
  · exact rch_split hto (ha.2 x (by simpa [ofF] using hxl))
  · obtain ⟨i, rfl⟩ : ∃ i, x = bs.length + i := ⟨x - bs.length, by omega⟩
    have hi : i < (critF (ofF bs)).length := by omega
    have hed := crit_ed (List.getElem_mem hi)
    have hl := (Ed.lt (ofF_good bs) hed).1
    have hl2 : (critF (ofF bs))[i].1 < bs.length := by simpa [ofF] using hl
    exact (rch_split hto (ha.2 _ hl)).step ((ed_lo hto hl2).2 (.inr ⟨i, hi, rfl, rfl⟩))
theorem split_dom (hto : ∀ x ∈ bs, ∀ t ∈ x.term.to, 0 ≤ t ∧ t < (bs.length : Int)) (h0 : 0 < bs.length) {i1 i2 : List Int} (h1 : IdomOk (ofF bs) i1) (h2 : IdomOk (ofF (splitBs bs)) i2) {a b : Nat} (ha : a < bs.length) (hb : b < bs.length) : domF i1 a b = domF i2 a b := by
  have e1 := h1.2 a b (by simpa [ofF] using ha) (by simpa [ofF] using hb)
  have e2 := h2.2 a b (by simp [ofF, split_len]; omega) (by simp [ofF, split_len]; omega)
  rw [Bool.eq_iff_iff, e1, e2]
  exact not_congr ⟨fun h => rwo_split_of hto ha h, fun h => (rwo_split_to hto h0 h).1 hb⟩
end
end Go.Proofs.Ytkmgbejhbkbaoaa

/- A law's last step: what a call leaves that has only made new blocks. -/
namespace Go.Proofs.Ytkmgbejhbkbaoaa
set_option linter.unusedSimpArgs false
set_option linter.unusedVariables false
open Go.ChangeShapes Go.WideShapes Go.ChangeAt Go.RowKit

theorem own : ownKnob Try.prog.godebug = none := by kernel_rfl
section
variable {H : Type} {enc : TypeId × Value → H} {P : Program}
/-- the world has new blocks; what was there is as it was -/
theorem post_ext {f : Func} {s : ChangeSpec} {apart fresh handsOn again : Bool} {W W' : World} {args : Array Value} {v : Value} {ds gs : List (DataW H)} {mem pa pv : List MemPlace} (hx : Ext [] W W')
    (hw : DataW.Whole enc P f.params.toList s.vars apart W args.toList ds gs mem) (hsplit : mem = pa ++ pv)
    (hr : ∀ (b : Nat) (sp : Nat → Bool) (hd : Bool), DataW.TrodAll enc P W' b sp hd f.resultTypes.toList (v.resultList f.resultTypes.size) (s.fn H (ds ++ gs)).results [])
    (ha : ∀ sp : Nat → Bool, (∀ p ∈ mem, sp p.block = true) → DataW.TrodAll enc P W' 0 sp true f.params.toList args.toList (s.fn H (ds ++ gs)).args pa)
    (hv : ∀ sp : Nat → Bool, (∀ p ∈ mem, sp p.block = true) → DataW.TrodVars enc P W' sp s.vars (s.fn H (ds ++ gs)).vars pv)
    (hok : ∀ (j : Nat) (t : TypeId) (r : Value), f.resultTypes[j]? = some t → (v.resultList f.resultTypes.size)[j]? = some r → Value.okWide P W' .any 0 t r) :
    s.post enc P f apart fresh handsOn again W args v W' := by
  subst hsplit
  have hin : ∀ q ∈ pa ++ pv, q.block < W.heap.size := fun q hq => hw.lt q hq
  refine ⟨ds, gs, pa ++ pv, [], pa, pv, hw, hr _ _ _, ha _ fun q hq => decide_eq_true (hin q hq), hv _ fun q hq => decide_eq_true (hin q hq), World.keptBut_mono ?_ (hx.below.frame (· ∈ pa ++ pv)), ?_⟩
  · intro q hq
    exact ⟨hq, .inr (by simpa using hq)⟩
  · intro _
    obtain ⟨_, _, _, _, _, hz, hn⟩ := hw
    have hall := trodAll_append (ha (fun _ => true) (fun _ _ => rfl)) (hr _ _ _)
    refine ⟨hok, _, _, ([] ++ pa) ++ pv, ⟨[] ++ pa, pv, hall, hv _ (fun _ _ => rfl), rfl, fun b off hb => ?_, fun hap => by simpa using hn hap⟩, fun q hq _ => by simpa using hq⟩
    have hq : MemPlace.cell b off ∈ pa ++ pv := by simpa using hb
    rw [hx.below.frozen (hin _ hq)]
    exact hz b off hq
end
end Go.Proofs.Ytkmgbejhbkbaoaa

/- A law's argument: a slice of numbers that is read alone. -/
namespace Go.Proofs.Ytkmgbejhbkbaoaa
set_option linter.unusedSimpArgs false
set_option linter.unusedVariables false
open Go.ChangeShapes Go.WideShapes Go.ChangeAt Go.RowKit

theorem cells_int : Try.prog.cellsOf 3 = 1 := by kernel_rfl
section
variable {H : Type} {enc : TypeId × Value → H} {W W' : World} {v : Value} {d : DataW H} {ps : List MemPlace}
theorem ints_in (hv : ∃ a l c, v = .slice a l c) (h : DataW.Trod enc Try.prog W 0 (fun _ => true) true 22 v d ps) : NumS W v := by
  obtain ⟨a0, l0, c0, rfl⟩ := hv
  obtain ⟨fuel, hf⟩ := h
  rcases open_ints Try.underlying22 Try.underlying3 cells_int hf with ⟨hcs, _⟩ | ⟨a, len, cap, zs, hcs, _, hl, hm, hz, _, hcell, _⟩
  · simp [Value.cells] at hcs
    obtain ⟨rfl, rfl, rfl⟩ := hcs
    exact ⟨none, 0, 0, rfl, Nat.le_refl _, Nat.zero_le _, fun i hi => by omega⟩
  · simp [Value.cells] at hcs
    obtain ⟨rfl, rfl, rfl⟩ := hcs
    simp only [if_true] at hz
    refine ⟨_, _, _, rfl, hl, hm, fun i hi => ?_⟩
    obtain ⟨g, o, rfl, hc⟩ := ints_at hcell (by omega)
    exact ⟨g, o, _, rfl, hc i (by omega)⟩
theorem ints_out (h : DataW.Trod enc Try.prog W 0 (fun _ => true) true 22 v d ps) (hx : Ext [] W W') (hlt : ∀ x ∈ ps, x.block < W.heap.size) (sp : Nat → Bool) (hsp : ∀ x ∈ ps, sp x.block = true) : DataW.Trod enc Try.prog W' 0 sp true 22 v d ps :=
  WideElems.Trod_stays Try.laidOut (by kernel_rfl) (of_decide_eq_true (by kernel_rfl)) h (fun x hx' => hx.below.same (hlt x hx')) hsp
end
end Go.Proofs.Ytkmgbejhbkbaoaa
