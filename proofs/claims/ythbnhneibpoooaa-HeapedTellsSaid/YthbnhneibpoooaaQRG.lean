/- The reference's Do: primitives integer->char. -/
import Derived.Test.YthbnhneibpoooaaQRD
set_option linter.unusedVariables false
set_option linter.unusedSimpArgs false
set_option linter.unnecessarySimpa false
namespace Go.Proofs.Ythbnhneibpoooaa
open Go.RowKit
set_option linter.unusedVariables false
set_option linter.unusedSimpArgs false
set_option maxHeartbeats 40000000 in
set_option maxRecDepth 1000000 in
theorem rdo_row32 (h : Nat) (O : Nat → Prop) (T : List Hp.Th) (ap : Option Addr) (ln cp g : Nat) (w wx : World) (A B C V : Nat) (a : Hp.V) (H : RSw h O T (.slice ap ln cp) [a] g w wx A B C V a Hp.none Hp.none) (c3 c4 c5 c7 c8 c9 c10 c11 c12 c13 c18 c19 c20 c21 c22 c23 c24 c25 c26 c27 c28 c29 c30 c31 c32 c33 c34 c35 c36 c37 c38 c39 c40 c41 c42 c43 c44 c45 c46 c47 c48 c49 c50 c51 c52 c53 c54 c55 c56 c57 c58 c59 c60 c61 c62 c63 c64 c65 c66 c67 c68 c69 c70 c71 c72 c73 c74 c75 c76 c77 c78 c79 c80 c81 c82 c83 c84 c85 c86 c87 c88 c89 c90 c91 c92 c93 c94 c95 c96 c97 c98 c99 c100 c101 c102 c103 c104 c105 c106 c107 c108 c109 c110 c111 c112 c113 c114 c115 c116 c117 c118 c119 c120 c121 c122 c123 c124 c125 c126 c127 c129 c130 c131 c132 c133 c134 c135 c136 c137 c138 c139 c140 c141 c142 c143 c144 c145 c146 c147 c148 c149 c150 c151 c152 c153 c154 c155 c156 c157 c158 c159 c160 c161 c162 c163 c164 c165 c166 c167 c168 c169 c170 c171 c172 c173 c174 c175 c176 c177 c178 c179 c180 c181 c182 c183 c184 c185 c186 c187 c188 c189 c190 c191 c192 c193 c194 c195 c196 c197 c198 c199 c200 c201 c202 c203 c204 c205 c206 c207 c208 c209 c210 c211 c212 c213 c214 c215 c216 c217 c218 c219 c220 c221 c222 c223 c224 c225 c226 c227 c228 c229 c230 c231 c232 c233 c234 c235 c236 c237 c238 c239 c240 c241 c242 c243 c244 c245 c246 c247 c248 c249 c250 c251 c252 c253 c254 c255 c256 c257 c258 c259 c260 c261 c262 c263 c264 c265 c266 c267 c268 c269 c270 c271 c272 c273 c274 c275 c276 c277 c278 c279 c280 c281 c282 c283 c284 c285 c286 c287 c288 c289 c290 c291 c292 c293 c294 c295 c296 c297 c298 c299 c300 c301 c302 c303 c304 c305 c306 c307 c308 c309 c310 c311 c312 c313 c314 c315 c316 c317 c318 c319 c320 c321 c322 c323 c324 c325 c326 c327 c328 c329 c330 c331 c332 c333 c334 c335 c336 c337 c338 c339 c340 c341 c342 c343 c344 c345 c346 c347 c348 c349 c350 c351 c352 c353 c354 c355 c356 c357 c358 c359 c360 : Value) (K1 : Act → World → Prop) :
    Code.wp Try.prog rdoRest (Exit.then K1 (bodyPost Try.prog Try.f17 (RQ h O T 32 a Hp.none Hp.none [a] w))) ⟨List.toArray (.pointer (some ⟨h, 0, none⟩) :: .string ⟨#[105, 110, 116, 101, 103, 101, 114, 45, 62, 99, 104, 97, 114]⟩ :: .slice ap ln cp :: c3 :: c4 :: c5 :: .pointer (some ⟨w.heap.size, 0, none⟩) :: c7 :: c8 :: c9 :: c10 :: c11 :: c12 :: c13 :: .pointer (some ⟨A, 0, none⟩) :: .pointer (some ⟨B, 0, none⟩) :: .pointer (some ⟨C, 0, none⟩) :: .pointer (some ⟨V, 0, none⟩) :: c18 :: c19 :: c20 :: c21 :: c22 :: c23 :: c24 :: c25 :: c26 :: c27 :: c28 :: c29 :: c30 :: c31 :: c32 :: c33 :: c34 :: c35 :: c36 :: c37 :: c38 :: c39 :: c40 :: c41 :: c42 :: c43 :: c44 :: c45 :: c46 :: c47 :: c48 :: c49 :: c50 :: c51 :: c52 :: c53 :: c54 :: c55 :: c56 :: c57 :: c58 :: c59 :: c60 :: c61 :: c62 :: c63 :: c64 :: c65 :: c66 :: c67 :: c68 :: c69 :: c70 :: c71 :: c72 :: c73 :: c74 :: c75 :: c76 :: c77 :: c78 :: c79 :: c80 :: c81 :: c82 :: c83 :: c84 :: c85 :: c86 :: c87 :: c88 :: c89 :: c90 :: c91 :: c92 :: c93 :: c94 :: c95 :: c96 :: c97 :: c98 :: c99 :: c100 :: c101 :: c102 :: c103 :: c104 :: c105 :: c106 :: c107 :: c108 :: c109 :: c110 :: c111 :: c112 :: c113 :: c114 :: c115 :: c116 :: c117 :: c118 :: c119 :: c120 :: c121 :: c122 :: c123 :: c124 :: c125 :: c126 :: c127 :: .string ⟨#[105, 110, 116, 101, 103, 101, 114, 45, 62, 99, 104, 97, 114]⟩ :: c129 :: c130 :: c131 :: c132 :: c133 :: c134 :: c135 :: c136 :: c137 :: c138 :: c139 :: c140 :: c141 :: c142 :: c143 :: c144 :: c145 :: c146 :: c147 :: c148 :: c149 :: c150 :: c151 :: c152 :: c153 :: c154 :: c155 :: c156 :: c157 :: c158 :: c159 :: c160 :: c161 :: c162 :: c163 :: c164 :: c165 :: c166 :: c167 :: c168 :: c169 :: c170 :: c171 :: c172 :: c173 :: c174 :: c175 :: c176 :: c177 :: c178 :: c179 :: c180 :: c181 :: c182 :: c183 :: c184 :: c185 :: c186 :: c187 :: c188 :: c189 :: c190 :: c191 :: c192 :: c193 :: c194 :: c195 :: c196 :: c197 :: c198 :: c199 :: c200 :: c201 :: c202 :: c203 :: c204 :: c205 :: c206 :: c207 :: c208 :: c209 :: c210 :: c211 :: c212 :: c213 :: c214 :: c215 :: c216 :: c217 :: c218 :: c219 :: c220 :: c221 :: c222 :: c223 :: c224 :: c225 :: c226 :: c227 :: c228 :: c229 :: c230 :: c231 :: c232 :: c233 :: c234 :: c235 :: c236 :: c237 :: c238 :: c239 :: c240 :: c241 :: c242 :: c243 :: c244 :: c245 :: c246 :: c247 :: c248 :: c249 :: c250 :: c251 :: c252 :: c253 :: c254 :: c255 :: c256 :: c257 :: c258 :: c259 :: c260 :: c261 :: c262 :: c263 :: c264 :: c265 :: c266 :: c267 :: c268 :: c269 :: c270 :: c271 :: c272 :: c273 :: c274 :: c275 :: c276 :: c277 :: c278 :: c279 :: c280 :: c281 :: c282 :: c283 :: c284 :: c285 :: c286 :: c287 :: c288 :: c289 :: c290 :: c291 :: c292 :: c293 :: c294 :: c295 :: c296 :: c297 :: c298 :: c299 :: c300 :: c301 :: c302 :: c303 :: c304 :: c305 :: c306 :: c307 :: c308 :: c309 :: c310 :: c311 :: c312 :: c313 :: c314 :: c315 :: c316 :: c317 :: c318 :: c319 :: c320 :: c321 :: c322 :: c323 :: c324 :: c325 :: c326 :: c327 :: c328 :: c329 :: c330 :: c331 :: c332 :: c333 :: c334 :: c335 :: c336 :: c337 :: c338 :: c339 :: c340 :: c341 :: c342 :: c343 :: c344 :: c345 :: c346 :: c347 :: c348 :: c349 :: c350 :: c351 :: c352 :: c353 :: c354 :: c355 :: c356 :: c357 :: c358 :: c359 :: c360 :: []), []⟩ wx := by
  obtain ⟨⟨a0, a1, a2⟩, ⟨b0, b1, b2⟩, ⟨c0, c1, c2⟩, ⟨v0, v1, v2⟩⟩ := H.cells
  obtain ⟨r0, r1, r2, f0, f1, f2, hw⟩ := H.rd.out
  have HS := Lib.hid H
  clear H
  unfold rdoRest
  conv => arg 2; whnf
  by_cases hr : a.int < 0 ∨ 255 < a.int
  · have HD : Hid (Hp.actF T 32 a Hp.none Hp.none [a] = (Hp.none, 83, T)) := if_pos hr
    have h4 : (decide (a.int < 0) = true) ∨ (decide (a.int < 0) = false ∧ decide (255 < a.int) = true) := by
      simp only [decide_eq_true_eq, decide_eq_false_iff_not]
      omega
    clear hr
    rcases h4 with q1 | ⟨q1, q2⟩
    all_goals
      go_wp2_with fail
      have E := HS.out.rd.say HS.out.lt Hp.none 83
      refine bodyPost_ret (res2 rfl _ _ w.heap.size 27 _ (0, 0) rfl E.1 valD valSize) rfl ?_
      unfold RQ
      rw [HD.out]
      exact E.2
  · have HD : Hid (Hp.actF T 32 a Hp.none Hp.none [a] = (⟨2, a.int, ⟨#[]⟩⟩, 0, T)) := if_neg hr
    have q1 : decide (a.int < 0) = false := decide_eq_false (by omega)
    have q2 : decide (255 < a.int) = false := decide_eq_false (by omega)
    clear hr
    go_wp2_with fail
    have E := HS.out.rd.say HS.out.lt ⟨2, a.int, ⟨#[]⟩⟩ 0
    refine bodyPost_ret (res2 rfl _ _ w.heap.size 27 _ (0, 0) rfl E.1 valD valSize) rfl ?_
    unfold RQ
    rw [HD.out]
    exact E.2
end Go.Proofs.Ythbnhneibpoooaa
/- The reference's Do: primitives vector-length, string-length. -/
namespace Go.Proofs.Ythbnhneibpoooaa
open Go.RowKit
set_option linter.unusedVariables false
set_option linter.unusedSimpArgs false
set_option maxHeartbeats 40000000 in
set_option maxRecDepth 1000000 in
theorem rdo_row25 (h : Nat) (O : Nat → Prop) (T : List Hp.Th) (ap : Option Addr) (ln cp g : Nat) (w wx : World) (A B C V : Nat) (a : Hp.V) (H : RSw h O T (.slice ap ln cp) [a] g w wx A B C V a Hp.none Hp.none) (hm : Hp.may T.length a = true) (h8 : a.kind = 8) (hl : (Hp.partsOf T a).length ≤ 1000000) (c3 c4 c5 c7 c8 c9 c10 c11 c12 c13 c18 c19 c20 c21 c22 c23 c24 c25 c26 c27 c28 c29 c30 c31 c32 c33 c34 c35 c36 c37 c38 c39 c40 c41 c42 c43 c44 c45 c46 c47 c48 c49 c50 c51 c52 c53 c54 c55 c56 c57 c58 c59 c60 c61 c62 c63 c64 c65 c66 c67 c68 c69 c70 c71 c72 c73 c74 c75 c76 c77 c78 c79 c80 c81 c82 c83 c84 c85 c86 c87 c88 c89 c90 c91 c92 c93 c94 c95 c96 c97 c98 c99 c100 c101 c102 c103 c104 c105 c106 c107 c108 c109 c110 c111 c112 c113 c114 c115 c116 c117 c118 c119 c120 c121 c122 c123 c124 c125 c126 c127 c129 c130 c131 c132 c133 c134 c135 c136 c137 c138 c139 c140 c141 c142 c143 c144 c145 c146 c147 c148 c149 c150 c151 c152 c153 c154 c155 c156 c157 c158 c159 c160 c161 c162 c163 c164 c165 c166 c167 c168 c169 c170 c171 c172 c173 c174 c175 c176 c177 c178 c179 c180 c181 c182 c183 c184 c185 c186 c187 c188 c189 c190 c191 c192 c193 c194 c195 c196 c197 c198 c199 c200 c201 c202 c203 c204 c205 c206 c207 c208 c209 c210 c211 c212 c213 c214 c215 c216 c217 c218 c219 c220 c221 c222 c223 c224 c225 c226 c227 c228 c229 c230 c231 c232 c233 c234 c235 c236 c237 c238 c239 c240 c241 c242 c243 c244 c245 c246 c247 c248 c249 c250 c251 c252 c253 c254 c255 c256 c257 c258 c259 c260 c261 c262 c263 c264 c265 c266 c267 c268 c269 c270 c271 c272 c273 c274 c275 c276 c277 c278 c279 c280 c281 c282 c283 c284 c285 c286 c287 c288 c289 c290 c291 c292 c293 c294 c295 c296 c297 c298 c299 c300 c301 c302 c303 c304 c305 c306 c307 c308 c309 c310 c311 c312 c313 c314 c315 c316 c317 c318 c319 c320 c321 c322 c323 c324 c325 c326 c327 c328 c329 c330 c331 c332 c333 c334 c335 c336 c337 c338 c339 c340 c341 c342 c343 c344 c345 c346 c347 c348 c349 c350 c351 c352 c353 c354 c355 c356 c357 c358 c359 c360 : Value) (K1 : Act → World → Prop) :
    Code.wp Try.prog rdoRest (Exit.then K1 (bodyPost Try.prog Try.f17 (RQ h O T 25 a Hp.none Hp.none [a] w))) ⟨List.toArray (.pointer (some ⟨h, 0, none⟩) :: .string ⟨#[118, 101, 99, 116, 111, 114, 45, 108, 101, 110, 103, 116, 104]⟩ :: .slice ap ln cp :: c3 :: c4 :: c5 :: .pointer (some ⟨w.heap.size, 0, none⟩) :: c7 :: c8 :: c9 :: c10 :: c11 :: c12 :: c13 :: .pointer (some ⟨A, 0, none⟩) :: .pointer (some ⟨B, 0, none⟩) :: .pointer (some ⟨C, 0, none⟩) :: .pointer (some ⟨V, 0, none⟩) :: c18 :: c19 :: c20 :: c21 :: c22 :: c23 :: c24 :: c25 :: c26 :: c27 :: c28 :: c29 :: c30 :: c31 :: c32 :: c33 :: c34 :: c35 :: c36 :: c37 :: c38 :: c39 :: c40 :: c41 :: c42 :: c43 :: c44 :: c45 :: c46 :: c47 :: c48 :: c49 :: c50 :: c51 :: c52 :: c53 :: c54 :: c55 :: c56 :: c57 :: c58 :: c59 :: c60 :: c61 :: c62 :: c63 :: c64 :: c65 :: c66 :: c67 :: c68 :: c69 :: c70 :: c71 :: c72 :: c73 :: c74 :: c75 :: c76 :: c77 :: c78 :: c79 :: c80 :: c81 :: c82 :: c83 :: c84 :: c85 :: c86 :: c87 :: c88 :: c89 :: c90 :: c91 :: c92 :: c93 :: c94 :: c95 :: c96 :: c97 :: c98 :: c99 :: c100 :: c101 :: c102 :: c103 :: c104 :: c105 :: c106 :: c107 :: c108 :: c109 :: c110 :: c111 :: c112 :: c113 :: c114 :: c115 :: c116 :: c117 :: c118 :: c119 :: c120 :: c121 :: c122 :: c123 :: c124 :: c125 :: c126 :: c127 :: .string ⟨#[118, 101, 99, 116, 111, 114, 45, 108, 101, 110, 103, 116, 104]⟩ :: c129 :: c130 :: c131 :: c132 :: c133 :: c134 :: c135 :: c136 :: c137 :: c138 :: c139 :: c140 :: c141 :: c142 :: c143 :: c144 :: c145 :: c146 :: c147 :: c148 :: c149 :: c150 :: c151 :: c152 :: c153 :: c154 :: c155 :: c156 :: c157 :: c158 :: c159 :: c160 :: c161 :: c162 :: c163 :: c164 :: c165 :: c166 :: c167 :: c168 :: c169 :: c170 :: c171 :: c172 :: c173 :: c174 :: c175 :: c176 :: c177 :: c178 :: c179 :: c180 :: c181 :: c182 :: c183 :: c184 :: c185 :: c186 :: c187 :: c188 :: c189 :: c190 :: c191 :: c192 :: c193 :: c194 :: c195 :: c196 :: c197 :: c198 :: c199 :: c200 :: c201 :: c202 :: c203 :: c204 :: c205 :: c206 :: c207 :: c208 :: c209 :: c210 :: c211 :: c212 :: c213 :: c214 :: c215 :: c216 :: c217 :: c218 :: c219 :: c220 :: c221 :: c222 :: c223 :: c224 :: c225 :: c226 :: c227 :: c228 :: c229 :: c230 :: c231 :: c232 :: c233 :: c234 :: c235 :: c236 :: c237 :: c238 :: c239 :: c240 :: c241 :: c242 :: c243 :: c244 :: c245 :: c246 :: c247 :: c248 :: c249 :: c250 :: c251 :: c252 :: c253 :: c254 :: c255 :: c256 :: c257 :: c258 :: c259 :: c260 :: c261 :: c262 :: c263 :: c264 :: c265 :: c266 :: c267 :: c268 :: c269 :: c270 :: c271 :: c272 :: c273 :: c274 :: c275 :: c276 :: c277 :: c278 :: c279 :: c280 :: c281 :: c282 :: c283 :: c284 :: c285 :: c286 :: c287 :: c288 :: c289 :: c290 :: c291 :: c292 :: c293 :: c294 :: c295 :: c296 :: c297 :: c298 :: c299 :: c300 :: c301 :: c302 :: c303 :: c304 :: c305 :: c306 :: c307 :: c308 :: c309 :: c310 :: c311 :: c312 :: c313 :: c314 :: c315 :: c316 :: c317 :: c318 :: c319 :: c320 :: c321 :: c322 :: c323 :: c324 :: c325 :: c326 :: c327 :: c328 :: c329 :: c330 :: c331 :: c332 :: c333 :: c334 :: c335 :: c336 :: c337 :: c338 :: c339 :: c340 :: c341 :: c342 :: c343 :: c344 :: c345 :: c346 :: c347 :: c348 :: c349 :: c350 :: c351 :: c352 :: c353 :: c354 :: c355 :: c356 :: c357 :: c358 :: c359 :: c360 :: []), []⟩ wx := by
  obtain ⟨⟨a0, a1, a2⟩, ⟨b0, b1, b2⟩, ⟨c0, c1, c2⟩, ⟨v0, v1, v2⟩⟩ := H.cells
  obtain ⟨r0, r1, r2, f0, f1, f2, hw⟩ := H.rd.out
  have HS := Lib.hid H
  clear H
  unfold rdoRest
  conv => arg 2; whnf
  obtain ⟨k, hk, rfl⟩ := Hp.may_thing' hm h8
  obtain ⟨t, ht⟩ : ∃ t, T[k]? = some t := ⟨_, List.getElem?_eq_getElem hk⟩
  have hpt : Hp.partsOf T ⟨8, k, ⟨#[]⟩⟩ = t.parts := by
    unfold Hp.partsOf
    simp [ht]
  rw [hpt] at hl
  obtain ⟨vt, M, HM, eM⟩ := HS.out.rd.st
  have ht2 := ht
  rw [← eM, List.getElem?_map] at ht2
  obtain ⟨m, hmm, rfl⟩ : ∃ m, M[k]? = some m ∧ m.1 = t := by simpa using ht2
  obtain ⟨gg, cc, rfl, hgg, hgh, d0, d1⟩ := HM.at hmm
  obtain ⟨pa, pc, hs⟩ := HM.partLen (List.mem_of_getElem? hmm)
  rw [hs] at d1
  have h0 := HM.c0
  have hh := HM.lth
  have hkl : k < M.length := (List.getElem?_eq_some_iff.1 hmm).1
  have hg1 : (0 : Int) ≤ k := by omega
  have hg2 : (k : Int) < M.length := by omega
  obtain ⟨pl, hpl⟩ : ∃ pl, m.1.parts.length = pl := ⟨_, rfl⟩
  rw [hpl] at d1 hl
  have HPT : Hid ((Hp.partsOf T ⟨8, k, ⟨#[]⟩⟩).length = pl) := by
    unfold Hid
    rw [hpt, hpl]
  have HN := Lib.hid (fun (n : Int) w => rnum_any n w)
  have HC : Hid (∀ w', Below wx.heap.size wx w' → w'.cell? ⟨h, 0, none⟩ = some (.slice (some ⟨gg, 0, none⟩) M.length cc) ∧ w'.cell? ⟨A, 1, none⟩ = some (.int .i64 k) ∧ w'.cell? ⟨gg, k * 2 + 1, none⟩ = some (.slice pa pl pc)) := by
    intro w' hb
    have hA := (Array.getElem?_eq_some_iff.1 HS.out.ba).1
    exact ⟨(hb.cell (p := ⟨h, 0, none⟩) hh).trans h0, (hb.cell (p := ⟨A, 1, none⟩) hA).trans a1, (hb.cell (p := ⟨gg, k * 2 + 1, none⟩) hgg).trans d1⟩
  have HC3 : Hid (∀ w', Below wx.heap.size wx w' → ∀ x y z, (((w'.setCell ⟨w.heap.size, 0, none⟩ x).setCell ⟨w.heap.size, 1, none⟩ y).setCell ⟨w.heap.size, 2, none⟩ z).cell? ⟨h, 0, none⟩ = some (.slice (some ⟨gg, 0, none⟩) M.length cc) ∧ (((w'.setCell ⟨w.heap.size, 0, none⟩ x).setCell ⟨w.heap.size, 1, none⟩ y).setCell ⟨w.heap.size, 2, none⟩ z).cell? ⟨A, 1, none⟩ = some (.int .i64 k) ∧ (((w'.setCell ⟨w.heap.size, 0, none⟩ x).setCell ⟨w.heap.size, 1, none⟩ y).setCell ⟨w.heap.size, 2, none⟩ z).cell? ⟨gg, k * 2 + 1, none⟩ = some (.slice pa pl pc)) := by
    intro w' hb x y z
    have hn : ∀ b, b ≠ w.heap.size → (((w'.setCell ⟨w.heap.size, 0, none⟩ x).setCell ⟨w.heap.size, 1, none⟩ y).setCell ⟨w.heap.size, 2, none⟩ z).heap[b]? = w'.heap[b]? := fun b hb => by
      rw [heap_setCell_other _ _ _ _ hb, heap_setCell_other _ _ _ _ hb, heap_setCell_other _ _ _ _ hb]
    have hgo := HS.out.lt _ (HM.own.2.1 gg rfl)
    have hho := HS.out.lt _ HM.own.1
    obtain ⟨e1, e2, e3⟩ := HC.out w' hb
    exact ⟨(World.cell?_of_block (a := ⟨h, 0, none⟩) (hn h (by omega))).trans e1, (World.cell?_of_block (a := ⟨A, 1, none⟩) (hn A HS.out.na)).trans e2, (World.cell?_of_block (a := ⟨gg, k * 2 + 1, none⟩) (hn gg (by omega))).trans e3⟩
  clear hm h8 hk ht ht2 hpt eM hmm hs hpl HM
  go_wp2_with fail
  go_region_held3 (fun w' => w'.cell? ⟨h, 0, none⟩ = some (.slice (some ⟨gg, 0, none⟩) M.length cc) ∧ w'.cell? ⟨A, 1, none⟩ = some (.int .i64 k) ∧ w'.cell? ⟨gg, k * 2 + 1, none⟩ = some (.slice pa pl pc))
    (first | with_reducible exact HC.out _ (Below.refl _ _).drew | with_reducible exact HC.out _ HB5.out | with_reducible exact HC3.out _ HB5.out _ _ _ | go_keep | fail)
    (first
      | (go_at_call 43; (with_reducible refine (HN.out _ _).mono ?_); rintro e w5 ⟨rfl, hb5⟩; have HB5 := Lib.hid ((Below.refl wx.heap.size wx).drew.trans (hb5.mono (Nat.le_refl _))); clear hb5; have HS5 := Lib.hid (HS.out.bel HB5.out); (obtain ⟨r0, r1, r2, f0, f1, f2, hw⟩ := HS5.out.rd.out))
      | fail)
  all_goals
    go_wp2_with fail
    have E := HS5.out.rd.say HS5.out.lt (Hp.num pl) 0
    refine bodyPost_ret (res2 rfl _ _ w.heap.size 27 _ (0, 0) rfl E.1 valD valSize) rfl ?_
    show DoPost 40 h O (Hp.num (((Hp.partsOf T ⟨8, k, ⟨#[]⟩⟩).length : Nat) : Int)) 0 T w _ _
    rw [HPT.out]
    exact E.2
set_option maxHeartbeats 40000000 in
set_option maxRecDepth 1000000 in
theorem rdo_row26 (h : Nat) (O : Nat → Prop) (T : List Hp.Th) (ap : Option Addr) (ln cp g : Nat) (w wx : World) (A B C V : Nat) (a : Hp.V) (H : RSw h O T (.slice ap ln cp) [a] g w wx A B C V a Hp.none Hp.none) (hm : Hp.may T.length a = true) (h8 : a.kind = 8) (hl : (Hp.partsOf T a).length ≤ 1000000) (c3 c4 c5 c7 c8 c9 c10 c11 c12 c13 c18 c19 c20 c21 c22 c23 c24 c25 c26 c27 c28 c29 c30 c31 c32 c33 c34 c35 c36 c37 c38 c39 c40 c41 c42 c43 c44 c45 c46 c47 c48 c49 c50 c51 c52 c53 c54 c55 c56 c57 c58 c59 c60 c61 c62 c63 c64 c65 c66 c67 c68 c69 c70 c71 c72 c73 c74 c75 c76 c77 c78 c79 c80 c81 c82 c83 c84 c85 c86 c87 c88 c89 c90 c91 c92 c93 c94 c95 c96 c97 c98 c99 c100 c101 c102 c103 c104 c105 c106 c107 c108 c109 c110 c111 c112 c113 c114 c115 c116 c117 c118 c119 c120 c121 c122 c123 c124 c125 c126 c127 c129 c130 c131 c132 c133 c134 c135 c136 c137 c138 c139 c140 c141 c142 c143 c144 c145 c146 c147 c148 c149 c150 c151 c152 c153 c154 c155 c156 c157 c158 c159 c160 c161 c162 c163 c164 c165 c166 c167 c168 c169 c170 c171 c172 c173 c174 c175 c176 c177 c178 c179 c180 c181 c182 c183 c184 c185 c186 c187 c188 c189 c190 c191 c192 c193 c194 c195 c196 c197 c198 c199 c200 c201 c202 c203 c204 c205 c206 c207 c208 c209 c210 c211 c212 c213 c214 c215 c216 c217 c218 c219 c220 c221 c222 c223 c224 c225 c226 c227 c228 c229 c230 c231 c232 c233 c234 c235 c236 c237 c238 c239 c240 c241 c242 c243 c244 c245 c246 c247 c248 c249 c250 c251 c252 c253 c254 c255 c256 c257 c258 c259 c260 c261 c262 c263 c264 c265 c266 c267 c268 c269 c270 c271 c272 c273 c274 c275 c276 c277 c278 c279 c280 c281 c282 c283 c284 c285 c286 c287 c288 c289 c290 c291 c292 c293 c294 c295 c296 c297 c298 c299 c300 c301 c302 c303 c304 c305 c306 c307 c308 c309 c310 c311 c312 c313 c314 c315 c316 c317 c318 c319 c320 c321 c322 c323 c324 c325 c326 c327 c328 c329 c330 c331 c332 c333 c334 c335 c336 c337 c338 c339 c340 c341 c342 c343 c344 c345 c346 c347 c348 c349 c350 c351 c352 c353 c354 c355 c356 c357 c358 c359 c360 : Value) (K1 : Act → World → Prop) :
    Code.wp Try.prog rdoRest (Exit.then K1 (bodyPost Try.prog Try.f17 (RQ h O T 26 a Hp.none Hp.none [a] w))) ⟨List.toArray (.pointer (some ⟨h, 0, none⟩) :: .string ⟨#[115, 116, 114, 105, 110, 103, 45, 108, 101, 110, 103, 116, 104]⟩ :: .slice ap ln cp :: c3 :: c4 :: c5 :: .pointer (some ⟨w.heap.size, 0, none⟩) :: c7 :: c8 :: c9 :: c10 :: c11 :: c12 :: c13 :: .pointer (some ⟨A, 0, none⟩) :: .pointer (some ⟨B, 0, none⟩) :: .pointer (some ⟨C, 0, none⟩) :: .pointer (some ⟨V, 0, none⟩) :: c18 :: c19 :: c20 :: c21 :: c22 :: c23 :: c24 :: c25 :: c26 :: c27 :: c28 :: c29 :: c30 :: c31 :: c32 :: c33 :: c34 :: c35 :: c36 :: c37 :: c38 :: c39 :: c40 :: c41 :: c42 :: c43 :: c44 :: c45 :: c46 :: c47 :: c48 :: c49 :: c50 :: c51 :: c52 :: c53 :: c54 :: c55 :: c56 :: c57 :: c58 :: c59 :: c60 :: c61 :: c62 :: c63 :: c64 :: c65 :: c66 :: c67 :: c68 :: c69 :: c70 :: c71 :: c72 :: c73 :: c74 :: c75 :: c76 :: c77 :: c78 :: c79 :: c80 :: c81 :: c82 :: c83 :: c84 :: c85 :: c86 :: c87 :: c88 :: c89 :: c90 :: c91 :: c92 :: c93 :: c94 :: c95 :: c96 :: c97 :: c98 :: c99 :: c100 :: c101 :: c102 :: c103 :: c104 :: c105 :: c106 :: c107 :: c108 :: c109 :: c110 :: c111 :: c112 :: c113 :: c114 :: c115 :: c116 :: c117 :: c118 :: c119 :: c120 :: c121 :: c122 :: c123 :: c124 :: c125 :: c126 :: c127 :: .string ⟨#[115, 116, 114, 105, 110, 103, 45, 108, 101, 110, 103, 116, 104]⟩ :: c129 :: c130 :: c131 :: c132 :: c133 :: c134 :: c135 :: c136 :: c137 :: c138 :: c139 :: c140 :: c141 :: c142 :: c143 :: c144 :: c145 :: c146 :: c147 :: c148 :: c149 :: c150 :: c151 :: c152 :: c153 :: c154 :: c155 :: c156 :: c157 :: c158 :: c159 :: c160 :: c161 :: c162 :: c163 :: c164 :: c165 :: c166 :: c167 :: c168 :: c169 :: c170 :: c171 :: c172 :: c173 :: c174 :: c175 :: c176 :: c177 :: c178 :: c179 :: c180 :: c181 :: c182 :: c183 :: c184 :: c185 :: c186 :: c187 :: c188 :: c189 :: c190 :: c191 :: c192 :: c193 :: c194 :: c195 :: c196 :: c197 :: c198 :: c199 :: c200 :: c201 :: c202 :: c203 :: c204 :: c205 :: c206 :: c207 :: c208 :: c209 :: c210 :: c211 :: c212 :: c213 :: c214 :: c215 :: c216 :: c217 :: c218 :: c219 :: c220 :: c221 :: c222 :: c223 :: c224 :: c225 :: c226 :: c227 :: c228 :: c229 :: c230 :: c231 :: c232 :: c233 :: c234 :: c235 :: c236 :: c237 :: c238 :: c239 :: c240 :: c241 :: c242 :: c243 :: c244 :: c245 :: c246 :: c247 :: c248 :: c249 :: c250 :: c251 :: c252 :: c253 :: c254 :: c255 :: c256 :: c257 :: c258 :: c259 :: c260 :: c261 :: c262 :: c263 :: c264 :: c265 :: c266 :: c267 :: c268 :: c269 :: c270 :: c271 :: c272 :: c273 :: c274 :: c275 :: c276 :: c277 :: c278 :: c279 :: c280 :: c281 :: c282 :: c283 :: c284 :: c285 :: c286 :: c287 :: c288 :: c289 :: c290 :: c291 :: c292 :: c293 :: c294 :: c295 :: c296 :: c297 :: c298 :: c299 :: c300 :: c301 :: c302 :: c303 :: c304 :: c305 :: c306 :: c307 :: c308 :: c309 :: c310 :: c311 :: c312 :: c313 :: c314 :: c315 :: c316 :: c317 :: c318 :: c319 :: c320 :: c321 :: c322 :: c323 :: c324 :: c325 :: c326 :: c327 :: c328 :: c329 :: c330 :: c331 :: c332 :: c333 :: c334 :: c335 :: c336 :: c337 :: c338 :: c339 :: c340 :: c341 :: c342 :: c343 :: c344 :: c345 :: c346 :: c347 :: c348 :: c349 :: c350 :: c351 :: c352 :: c353 :: c354 :: c355 :: c356 :: c357 :: c358 :: c359 :: c360 :: []), []⟩ wx := by
  obtain ⟨⟨a0, a1, a2⟩, ⟨b0, b1, b2⟩, ⟨c0, c1, c2⟩, ⟨v0, v1, v2⟩⟩ := H.cells
  obtain ⟨r0, r1, r2, f0, f1, f2, hw⟩ := H.rd.out
  have HS := Lib.hid H
  clear H
  unfold rdoRest
  conv => arg 2; whnf
  obtain ⟨k, hk, rfl⟩ := Hp.may_thing' hm h8
  obtain ⟨t, ht⟩ : ∃ t, T[k]? = some t := ⟨_, List.getElem?_eq_getElem hk⟩
  have hpt : Hp.partsOf T ⟨8, k, ⟨#[]⟩⟩ = t.parts := by
    unfold Hp.partsOf
    simp [ht]
  rw [hpt] at hl
  obtain ⟨vt, M, HM, eM⟩ := HS.out.rd.st
  have ht2 := ht
  rw [← eM, List.getElem?_map] at ht2
  obtain ⟨m, hmm, rfl⟩ : ∃ m, M[k]? = some m ∧ m.1 = t := by simpa using ht2
  obtain ⟨gg, cc, rfl, hgg, hgh, d0, d1⟩ := HM.at hmm
  obtain ⟨pa, pc, hs⟩ := HM.partLen (List.mem_of_getElem? hmm)
  rw [hs] at d1
  have h0 := HM.c0
  have hh := HM.lth
  have hkl : k < M.length := (List.getElem?_eq_some_iff.1 hmm).1
  have hg1 : (0 : Int) ≤ k := by omega
  have hg2 : (k : Int) < M.length := by omega
  obtain ⟨pl, hpl⟩ : ∃ pl, m.1.parts.length = pl := ⟨_, rfl⟩
  rw [hpl] at d1 hl
  have HPT : Hid ((Hp.partsOf T ⟨8, k, ⟨#[]⟩⟩).length = pl) := by
    unfold Hid
    rw [hpt, hpl]
  have HN := Lib.hid (fun (n : Int) w => rnum_any n w)
  have HC : Hid (∀ w', Below wx.heap.size wx w' → w'.cell? ⟨h, 0, none⟩ = some (.slice (some ⟨gg, 0, none⟩) M.length cc) ∧ w'.cell? ⟨A, 1, none⟩ = some (.int .i64 k) ∧ w'.cell? ⟨gg, k * 2 + 1, none⟩ = some (.slice pa pl pc)) := by
    intro w' hb
    have hA := (Array.getElem?_eq_some_iff.1 HS.out.ba).1
    exact ⟨(hb.cell (p := ⟨h, 0, none⟩) hh).trans h0, (hb.cell (p := ⟨A, 1, none⟩) hA).trans a1, (hb.cell (p := ⟨gg, k * 2 + 1, none⟩) hgg).trans d1⟩
  have HC3 : Hid (∀ w', Below wx.heap.size wx w' → ∀ x y z, (((w'.setCell ⟨w.heap.size, 0, none⟩ x).setCell ⟨w.heap.size, 1, none⟩ y).setCell ⟨w.heap.size, 2, none⟩ z).cell? ⟨h, 0, none⟩ = some (.slice (some ⟨gg, 0, none⟩) M.length cc) ∧ (((w'.setCell ⟨w.heap.size, 0, none⟩ x).setCell ⟨w.heap.size, 1, none⟩ y).setCell ⟨w.heap.size, 2, none⟩ z).cell? ⟨A, 1, none⟩ = some (.int .i64 k) ∧ (((w'.setCell ⟨w.heap.size, 0, none⟩ x).setCell ⟨w.heap.size, 1, none⟩ y).setCell ⟨w.heap.size, 2, none⟩ z).cell? ⟨gg, k * 2 + 1, none⟩ = some (.slice pa pl pc)) := by
    intro w' hb x y z
    have hn : ∀ b, b ≠ w.heap.size → (((w'.setCell ⟨w.heap.size, 0, none⟩ x).setCell ⟨w.heap.size, 1, none⟩ y).setCell ⟨w.heap.size, 2, none⟩ z).heap[b]? = w'.heap[b]? := fun b hb => by
      rw [heap_setCell_other _ _ _ _ hb, heap_setCell_other _ _ _ _ hb, heap_setCell_other _ _ _ _ hb]
    have hgo := HS.out.lt _ (HM.own.2.1 gg rfl)
    have hho := HS.out.lt _ HM.own.1
    obtain ⟨e1, e2, e3⟩ := HC.out w' hb
    exact ⟨(World.cell?_of_block (a := ⟨h, 0, none⟩) (hn h (by omega))).trans e1, (World.cell?_of_block (a := ⟨A, 1, none⟩) (hn A HS.out.na)).trans e2, (World.cell?_of_block (a := ⟨gg, k * 2 + 1, none⟩) (hn gg (by omega))).trans e3⟩
  clear hm h8 hk ht ht2 hpt eM hmm hs hpl HM
  go_wp2_with fail
  go_region_held3 (fun w' => w'.cell? ⟨h, 0, none⟩ = some (.slice (some ⟨gg, 0, none⟩) M.length cc) ∧ w'.cell? ⟨A, 1, none⟩ = some (.int .i64 k) ∧ w'.cell? ⟨gg, k * 2 + 1, none⟩ = some (.slice pa pl pc))
    (first | with_reducible exact HC.out _ (Below.refl _ _).drew | with_reducible exact HC.out _ HB5.out | with_reducible exact HC3.out _ HB5.out _ _ _ | go_keep | fail)
    (first
      | (go_at_call 43; (with_reducible refine (HN.out _ _).mono ?_); rintro e w5 ⟨rfl, hb5⟩; have HB5 := Lib.hid ((Below.refl wx.heap.size wx).drew.trans (hb5.mono (Nat.le_refl _))); clear hb5; have HS5 := Lib.hid (HS.out.bel HB5.out); (obtain ⟨r0, r1, r2, f0, f1, f2, hw⟩ := HS5.out.rd.out))
      | fail)
  all_goals
    go_wp2_with fail
    have E := HS5.out.rd.say HS5.out.lt (Hp.num pl) 0
    refine bodyPost_ret (res2 rfl _ _ w.heap.size 27 _ (0, 0) rfl E.1 valD valSize) rfl ?_
    show DoPost 40 h O (Hp.num (((Hp.partsOf T ⟨8, k, ⟨#[]⟩⟩).length : Nat) : Int)) 0 T w _ _
    rw [HPT.out]
    exact E.2
end Go.Proofs.Ythbnhneibpoooaa
/- The reference's Do: primitives =, eq?. -/
namespace Go.Proofs.Ythbnhneibpoooaa
open Go.RowKit
set_option linter.unusedVariables false
set_option linter.unusedSimpArgs false
set_option maxHeartbeats 40000000 in
set_option maxRecDepth 1000000 in
theorem rdo_row6 (h : Nat) (O : Nat → Prop) (T : List Hp.Th) (ap : Option Addr) (ln cp g : Nat) (w wx : World) (A B C V : Nat) (a b : Hp.V) (H : RSw h O T (.slice ap ln cp) [a, b] g w wx A B C V a b Hp.none) (c3 c4 c5 c7 c8 c9 c10 c11 c12 c13 c18 c19 c20 c21 c22 c23 c24 c25 c26 c27 c28 c29 c30 c31 c32 c33 c34 c35 c36 c37 c38 c39 c40 c41 c42 c43 c44 c45 c46 c47 c48 c49 c50 c51 c52 c53 c54 c55 c56 c57 c58 c59 c60 c61 c62 c63 c64 c65 c66 c67 c68 c69 c70 c71 c72 c73 c74 c75 c76 c77 c78 c79 c80 c81 c82 c83 c84 c85 c86 c87 c88 c89 c90 c91 c92 c93 c94 c95 c96 c97 c98 c99 c100 c101 c102 c103 c104 c105 c106 c107 c108 c109 c110 c111 c112 c113 c114 c115 c116 c117 c118 c119 c120 c121 c122 c123 c124 c125 c126 c127 c129 c130 c131 c132 c133 c134 c135 c136 c137 c138 c139 c140 c141 c142 c143 c144 c145 c146 c147 c148 c149 c150 c151 c152 c153 c154 c155 c156 c157 c158 c159 c160 c161 c162 c163 c164 c165 c166 c167 c168 c169 c170 c171 c172 c173 c174 c175 c176 c177 c178 c179 c180 c181 c182 c183 c184 c185 c186 c187 c188 c189 c190 c191 c192 c193 c194 c195 c196 c197 c198 c199 c200 c201 c202 c203 c204 c205 c206 c207 c208 c209 c210 c211 c212 c213 c214 c215 c216 c217 c218 c219 c220 c221 c222 c223 c224 c225 c226 c227 c228 c229 c230 c231 c232 c233 c234 c235 c236 c237 c238 c239 c240 c241 c242 c243 c244 c245 c246 c247 c248 c249 c250 c251 c252 c253 c254 c255 c256 c257 c258 c259 c260 c261 c262 c263 c264 c265 c266 c267 c268 c269 c270 c271 c272 c273 c274 c275 c276 c277 c278 c279 c280 c281 c282 c283 c284 c285 c286 c287 c288 c289 c290 c291 c292 c293 c294 c295 c296 c297 c298 c299 c300 c301 c302 c303 c304 c305 c306 c307 c308 c309 c310 c311 c312 c313 c314 c315 c316 c317 c318 c319 c320 c321 c322 c323 c324 c325 c326 c327 c328 c329 c330 c331 c332 c333 c334 c335 c336 c337 c338 c339 c340 c341 c342 c343 c344 c345 c346 c347 c348 c349 c350 c351 c352 c353 c354 c355 c356 c357 c358 c359 c360 : Value) (K1 : Act → World → Prop) :
    Code.wp Try.prog rdoRest (Exit.then K1 (bodyPost Try.prog Try.f17 (RQ h O T 6 a b Hp.none [a, b] w))) ⟨List.toArray (.pointer (some ⟨h, 0, none⟩) :: .string ⟨#[61]⟩ :: .slice ap ln cp :: c3 :: c4 :: c5 :: .pointer (some ⟨w.heap.size, 0, none⟩) :: c7 :: c8 :: c9 :: c10 :: c11 :: c12 :: c13 :: .pointer (some ⟨A, 0, none⟩) :: .pointer (some ⟨B, 0, none⟩) :: .pointer (some ⟨C, 0, none⟩) :: .pointer (some ⟨V, 0, none⟩) :: c18 :: c19 :: c20 :: c21 :: c22 :: c23 :: c24 :: c25 :: c26 :: c27 :: c28 :: c29 :: c30 :: c31 :: c32 :: c33 :: c34 :: c35 :: c36 :: c37 :: c38 :: c39 :: c40 :: c41 :: c42 :: c43 :: c44 :: c45 :: c46 :: c47 :: c48 :: c49 :: c50 :: c51 :: c52 :: c53 :: c54 :: c55 :: c56 :: c57 :: c58 :: c59 :: c60 :: c61 :: c62 :: c63 :: c64 :: c65 :: c66 :: c67 :: c68 :: c69 :: c70 :: c71 :: c72 :: c73 :: c74 :: c75 :: c76 :: c77 :: c78 :: c79 :: c80 :: c81 :: c82 :: c83 :: c84 :: c85 :: c86 :: c87 :: c88 :: c89 :: c90 :: c91 :: c92 :: c93 :: c94 :: c95 :: c96 :: c97 :: c98 :: c99 :: c100 :: c101 :: c102 :: c103 :: c104 :: c105 :: c106 :: c107 :: c108 :: c109 :: c110 :: c111 :: c112 :: c113 :: c114 :: c115 :: c116 :: c117 :: c118 :: c119 :: c120 :: c121 :: c122 :: c123 :: c124 :: c125 :: c126 :: c127 :: .string ⟨#[61]⟩ :: c129 :: c130 :: c131 :: c132 :: c133 :: c134 :: c135 :: c136 :: c137 :: c138 :: c139 :: c140 :: c141 :: c142 :: c143 :: c144 :: c145 :: c146 :: c147 :: c148 :: c149 :: c150 :: c151 :: c152 :: c153 :: c154 :: c155 :: c156 :: c157 :: c158 :: c159 :: c160 :: c161 :: c162 :: c163 :: c164 :: c165 :: c166 :: c167 :: c168 :: c169 :: c170 :: c171 :: c172 :: c173 :: c174 :: c175 :: c176 :: c177 :: c178 :: c179 :: c180 :: c181 :: c182 :: c183 :: c184 :: c185 :: c186 :: c187 :: c188 :: c189 :: c190 :: c191 :: c192 :: c193 :: c194 :: c195 :: c196 :: c197 :: c198 :: c199 :: c200 :: c201 :: c202 :: c203 :: c204 :: c205 :: c206 :: c207 :: c208 :: c209 :: c210 :: c211 :: c212 :: c213 :: c214 :: c215 :: c216 :: c217 :: c218 :: c219 :: c220 :: c221 :: c222 :: c223 :: c224 :: c225 :: c226 :: c227 :: c228 :: c229 :: c230 :: c231 :: c232 :: c233 :: c234 :: c235 :: c236 :: c237 :: c238 :: c239 :: c240 :: c241 :: c242 :: c243 :: c244 :: c245 :: c246 :: c247 :: c248 :: c249 :: c250 :: c251 :: c252 :: c253 :: c254 :: c255 :: c256 :: c257 :: c258 :: c259 :: c260 :: c261 :: c262 :: c263 :: c264 :: c265 :: c266 :: c267 :: c268 :: c269 :: c270 :: c271 :: c272 :: c273 :: c274 :: c275 :: c276 :: c277 :: c278 :: c279 :: c280 :: c281 :: c282 :: c283 :: c284 :: c285 :: c286 :: c287 :: c288 :: c289 :: c290 :: c291 :: c292 :: c293 :: c294 :: c295 :: c296 :: c297 :: c298 :: c299 :: c300 :: c301 :: c302 :: c303 :: c304 :: c305 :: c306 :: c307 :: c308 :: c309 :: c310 :: c311 :: c312 :: c313 :: c314 :: c315 :: c316 :: c317 :: c318 :: c319 :: c320 :: c321 :: c322 :: c323 :: c324 :: c325 :: c326 :: c327 :: c328 :: c329 :: c330 :: c331 :: c332 :: c333 :: c334 :: c335 :: c336 :: c337 :: c338 :: c339 :: c340 :: c341 :: c342 :: c343 :: c344 :: c345 :: c346 :: c347 :: c348 :: c349 :: c350 :: c351 :: c352 :: c353 :: c354 :: c355 :: c356 :: c357 :: c358 :: c359 :: c360 :: []), []⟩ wx := by
  obtain ⟨⟨a0, a1, a2⟩, ⟨b0, b1, b2⟩, ⟨c0, c1, c2⟩, ⟨v0, v1, v2⟩⟩ := H.cells
  obtain ⟨r0, r1, r2, f0, f1, f2, hw⟩ := H.rd.out
  have HS := Lib.hid H
  clear H
  unfold rdoRest
  conv => arg 2; whnf
  obtain ⟨xk, xi, xt⟩ := a
  obtain ⟨yk, yi, yt⟩ := b
  dsimp only at *
  have hcase : (xk = yk ∧ xi = yi ∧ xt = yt) ∨ (xk == yk) = false ∨ (xk = yk ∧ (xi == yi) = false) ∨ (xk = yk ∧ xi = yi ∧ (xt.toList == yt.toList) = false) := by
    by_cases h1 : xk = yk
    · by_cases h2 : xi = yi
      · by_cases h3 : xt = yt
        · exact .inl ⟨h1, h2, h3⟩
        · refine .inr (.inr (.inr ⟨h1, h2, ?_⟩))
          rw [beq_eq_false_iff_ne]
          intro e
          rw [ByteArray.toList_eq, ByteArray.toList_eq] at e
          exact h3 (by cases xt; cases yt; simp at e; rw [e])
      · exact .inr (.inr (.inl ⟨h1, beq_eq_false_iff_ne.2 h2⟩))
    · exact .inr (.inl (beq_eq_false_iff_ne.2 h1))
  have HT := Lib.hid (fun (b : Bool) w => rtruth_any b w)
  unfold Hp.V.val at HT
  obtain ⟨dd, hdd⟩ : ∃ dd, decide ((⟨xk, xi, xt⟩ : Hp.V) = ⟨yk, yi, yt⟩) = dd := ⟨_, rfl⟩
  have HDEC : Hid ((xk = yk ∧ xi = yi ∧ xt = yt) ↔ dd = true) := by
    show _ ↔ _
    rw [← hdd, decide_eq_true_eq]
    simp
  have HRQ : Hid (RQ h O T 6 ⟨xk, xi, xt⟩ ⟨yk, yi, yt⟩ Hp.none [⟨xk, xi, xt⟩, ⟨yk, yi, yt⟩] w = DoPost 40 h O (Hp.truth dd) 0 T w) := by
    show DoPost 40 h O (Hp.truth (decide ((⟨xk, xi, xt⟩ : Hp.V) = ⟨yk, yi, yt⟩))) 0 T w = _
    rw [hdd]
  rw [HRQ.out]
  clear hdd HRQ
  rcases hcase with ⟨rfl, rfl, rfl⟩ | v1 | ⟨rfl, v1⟩ | ⟨rfl, rfl, v1⟩
  · obtain rfl : dd = true := HDEC.out.1 ⟨rfl, rfl, rfl⟩
    go_wp2_with fail
    with_reducible refine (HT.out _ _).mono ?_
    rintro e w5 ⟨rfl, hb5⟩
    have HS5 := Lib.hid (HS.out.bel hb5)
    clear r0 r1 r2 f0 f1 f2 hw hb5
    obtain ⟨r0, r1, r2, f0, f1, f2, hw⟩ := HS5.out.rd.out
    go_wp2_with fail
    have E := HS5.out.rd.say HS5.out.lt (Hp.truth true) (0)
    refine bodyPost_ret (res2 rfl _ _ w.heap.size 27 _ (0, 0) rfl E.1 valD valSize) rfl ?_
    exact E.2
  · obtain rfl : dd = false := by
      rw [← Bool.not_eq_true, ← HDEC.out]
      rintro ⟨h1, h2, h3⟩
      first | (rw [h1] at v1; simp at v1; done) | (rw [h2] at v1; simp at v1; done) | (rw [h3] at v1; simp at v1; done)
    go_wp2_with fail
    with_reducible refine (HT.out _ _).mono ?_
    rintro e w5 ⟨rfl, hb5⟩
    have HS5 := Lib.hid (HS.out.bel hb5)
    clear r0 r1 r2 f0 f1 f2 hw hb5
    obtain ⟨r0, r1, r2, f0, f1, f2, hw⟩ := HS5.out.rd.out
    go_wp2_with fail
    have E := HS5.out.rd.say HS5.out.lt (Hp.truth false) (0)
    refine bodyPost_ret (res2 rfl _ _ w.heap.size 27 _ (0, 0) rfl E.1 valD valSize) rfl ?_
    exact E.2
  · obtain rfl : dd = false := by
      rw [← Bool.not_eq_true, ← HDEC.out]
      rintro ⟨h1, h2, h3⟩
      first | (rw [h1] at v1; simp at v1; done) | (rw [h2] at v1; simp at v1; done) | (rw [h3] at v1; simp at v1; done)
    go_wp2_with fail
    with_reducible refine (HT.out _ _).mono ?_
    rintro e w5 ⟨rfl, hb5⟩
    have HS5 := Lib.hid (HS.out.bel hb5)
    clear r0 r1 r2 f0 f1 f2 hw hb5
    obtain ⟨r0, r1, r2, f0, f1, f2, hw⟩ := HS5.out.rd.out
    go_wp2_with fail
    have E := HS5.out.rd.say HS5.out.lt (Hp.truth false) (0)
    refine bodyPost_ret (res2 rfl _ _ w.heap.size 27 _ (0, 0) rfl E.1 valD valSize) rfl ?_
    exact E.2
  · obtain rfl : dd = false := by
      rw [← Bool.not_eq_true, ← HDEC.out]
      rintro ⟨h1, h2, h3⟩
      first | (rw [h1] at v1; simp at v1; done) | (rw [h2] at v1; simp at v1; done) | (rw [h3] at v1; simp at v1; done)
    go_wp2_with fail
    with_reducible refine (HT.out _ _).mono ?_
    rintro e w5 ⟨rfl, hb5⟩
    have HS5 := Lib.hid (HS.out.bel hb5)
    clear r0 r1 r2 f0 f1 f2 hw hb5
    obtain ⟨r0, r1, r2, f0, f1, f2, hw⟩ := HS5.out.rd.out
    go_wp2_with fail
    have E := HS5.out.rd.say HS5.out.lt (Hp.truth false) (0)
    refine bodyPost_ret (res2 rfl _ _ w.heap.size 27 _ (0, 0) rfl E.1 valD valSize) rfl ?_
    exact E.2
set_option maxHeartbeats 40000000 in
set_option maxRecDepth 1000000 in
theorem rdo_row7 (h : Nat) (O : Nat → Prop) (T : List Hp.Th) (ap : Option Addr) (ln cp g : Nat) (w wx : World) (A B C V : Nat) (a b : Hp.V) (H : RSw h O T (.slice ap ln cp) [a, b] g w wx A B C V a b Hp.none) (c3 c4 c5 c7 c8 c9 c10 c11 c12 c13 c18 c19 c20 c21 c22 c23 c24 c25 c26 c27 c28 c29 c30 c31 c32 c33 c34 c35 c36 c37 c38 c39 c40 c41 c42 c43 c44 c45 c46 c47 c48 c49 c50 c51 c52 c53 c54 c55 c56 c57 c58 c59 c60 c61 c62 c63 c64 c65 c66 c67 c68 c69 c70 c71 c72 c73 c74 c75 c76 c77 c78 c79 c80 c81 c82 c83 c84 c85 c86 c87 c88 c89 c90 c91 c92 c93 c94 c95 c96 c97 c98 c99 c100 c101 c102 c103 c104 c105 c106 c107 c108 c109 c110 c111 c112 c113 c114 c115 c116 c117 c118 c119 c120 c121 c122 c123 c124 c125 c126 c127 c129 c130 c131 c132 c133 c134 c135 c136 c137 c138 c139 c140 c141 c142 c143 c144 c145 c146 c147 c148 c149 c150 c151 c152 c153 c154 c155 c156 c157 c158 c159 c160 c161 c162 c163 c164 c165 c166 c167 c168 c169 c170 c171 c172 c173 c174 c175 c176 c177 c178 c179 c180 c181 c182 c183 c184 c185 c186 c187 c188 c189 c190 c191 c192 c193 c194 c195 c196 c197 c198 c199 c200 c201 c202 c203 c204 c205 c206 c207 c208 c209 c210 c211 c212 c213 c214 c215 c216 c217 c218 c219 c220 c221 c222 c223 c224 c225 c226 c227 c228 c229 c230 c231 c232 c233 c234 c235 c236 c237 c238 c239 c240 c241 c242 c243 c244 c245 c246 c247 c248 c249 c250 c251 c252 c253 c254 c255 c256 c257 c258 c259 c260 c261 c262 c263 c264 c265 c266 c267 c268 c269 c270 c271 c272 c273 c274 c275 c276 c277 c278 c279 c280 c281 c282 c283 c284 c285 c286 c287 c288 c289 c290 c291 c292 c293 c294 c295 c296 c297 c298 c299 c300 c301 c302 c303 c304 c305 c306 c307 c308 c309 c310 c311 c312 c313 c314 c315 c316 c317 c318 c319 c320 c321 c322 c323 c324 c325 c326 c327 c328 c329 c330 c331 c332 c333 c334 c335 c336 c337 c338 c339 c340 c341 c342 c343 c344 c345 c346 c347 c348 c349 c350 c351 c352 c353 c354 c355 c356 c357 c358 c359 c360 : Value) (K1 : Act → World → Prop) :
    Code.wp Try.prog rdoRest (Exit.then K1 (bodyPost Try.prog Try.f17 (RQ h O T 7 a b Hp.none [a, b] w))) ⟨List.toArray (.pointer (some ⟨h, 0, none⟩) :: .string ⟨#[101, 113, 63]⟩ :: .slice ap ln cp :: c3 :: c4 :: c5 :: .pointer (some ⟨w.heap.size, 0, none⟩) :: c7 :: c8 :: c9 :: c10 :: c11 :: c12 :: c13 :: .pointer (some ⟨A, 0, none⟩) :: .pointer (some ⟨B, 0, none⟩) :: .pointer (some ⟨C, 0, none⟩) :: .pointer (some ⟨V, 0, none⟩) :: c18 :: c19 :: c20 :: c21 :: c22 :: c23 :: c24 :: c25 :: c26 :: c27 :: c28 :: c29 :: c30 :: c31 :: c32 :: c33 :: c34 :: c35 :: c36 :: c37 :: c38 :: c39 :: c40 :: c41 :: c42 :: c43 :: c44 :: c45 :: c46 :: c47 :: c48 :: c49 :: c50 :: c51 :: c52 :: c53 :: c54 :: c55 :: c56 :: c57 :: c58 :: c59 :: c60 :: c61 :: c62 :: c63 :: c64 :: c65 :: c66 :: c67 :: c68 :: c69 :: c70 :: c71 :: c72 :: c73 :: c74 :: c75 :: c76 :: c77 :: c78 :: c79 :: c80 :: c81 :: c82 :: c83 :: c84 :: c85 :: c86 :: c87 :: c88 :: c89 :: c90 :: c91 :: c92 :: c93 :: c94 :: c95 :: c96 :: c97 :: c98 :: c99 :: c100 :: c101 :: c102 :: c103 :: c104 :: c105 :: c106 :: c107 :: c108 :: c109 :: c110 :: c111 :: c112 :: c113 :: c114 :: c115 :: c116 :: c117 :: c118 :: c119 :: c120 :: c121 :: c122 :: c123 :: c124 :: c125 :: c126 :: c127 :: .string ⟨#[101, 113, 63]⟩ :: c129 :: c130 :: c131 :: c132 :: c133 :: c134 :: c135 :: c136 :: c137 :: c138 :: c139 :: c140 :: c141 :: c142 :: c143 :: c144 :: c145 :: c146 :: c147 :: c148 :: c149 :: c150 :: c151 :: c152 :: c153 :: c154 :: c155 :: c156 :: c157 :: c158 :: c159 :: c160 :: c161 :: c162 :: c163 :: c164 :: c165 :: c166 :: c167 :: c168 :: c169 :: c170 :: c171 :: c172 :: c173 :: c174 :: c175 :: c176 :: c177 :: c178 :: c179 :: c180 :: c181 :: c182 :: c183 :: c184 :: c185 :: c186 :: c187 :: c188 :: c189 :: c190 :: c191 :: c192 :: c193 :: c194 :: c195 :: c196 :: c197 :: c198 :: c199 :: c200 :: c201 :: c202 :: c203 :: c204 :: c205 :: c206 :: c207 :: c208 :: c209 :: c210 :: c211 :: c212 :: c213 :: c214 :: c215 :: c216 :: c217 :: c218 :: c219 :: c220 :: c221 :: c222 :: c223 :: c224 :: c225 :: c226 :: c227 :: c228 :: c229 :: c230 :: c231 :: c232 :: c233 :: c234 :: c235 :: c236 :: c237 :: c238 :: c239 :: c240 :: c241 :: c242 :: c243 :: c244 :: c245 :: c246 :: c247 :: c248 :: c249 :: c250 :: c251 :: c252 :: c253 :: c254 :: c255 :: c256 :: c257 :: c258 :: c259 :: c260 :: c261 :: c262 :: c263 :: c264 :: c265 :: c266 :: c267 :: c268 :: c269 :: c270 :: c271 :: c272 :: c273 :: c274 :: c275 :: c276 :: c277 :: c278 :: c279 :: c280 :: c281 :: c282 :: c283 :: c284 :: c285 :: c286 :: c287 :: c288 :: c289 :: c290 :: c291 :: c292 :: c293 :: c294 :: c295 :: c296 :: c297 :: c298 :: c299 :: c300 :: c301 :: c302 :: c303 :: c304 :: c305 :: c306 :: c307 :: c308 :: c309 :: c310 :: c311 :: c312 :: c313 :: c314 :: c315 :: c316 :: c317 :: c318 :: c319 :: c320 :: c321 :: c322 :: c323 :: c324 :: c325 :: c326 :: c327 :: c328 :: c329 :: c330 :: c331 :: c332 :: c333 :: c334 :: c335 :: c336 :: c337 :: c338 :: c339 :: c340 :: c341 :: c342 :: c343 :: c344 :: c345 :: c346 :: c347 :: c348 :: c349 :: c350 :: c351 :: c352 :: c353 :: c354 :: c355 :: c356 :: c357 :: c358 :: c359 :: c360 :: []), []⟩ wx := by
  obtain ⟨⟨a0, a1, a2⟩, ⟨b0, b1, b2⟩, ⟨c0, c1, c2⟩, ⟨v0, v1, v2⟩⟩ := H.cells
  obtain ⟨r0, r1, r2, f0, f1, f2, hw⟩ := H.rd.out
  have HS := Lib.hid H
  clear H
  unfold rdoRest
  conv => arg 2; whnf
  obtain ⟨xk, xi, xt⟩ := a
  obtain ⟨yk, yi, yt⟩ := b
  dsimp only at *
  have hcase : (xk = yk ∧ xi = yi ∧ xt = yt) ∨ (xk == yk) = false ∨ (xk = yk ∧ (xi == yi) = false) ∨ (xk = yk ∧ xi = yi ∧ (xt.toList == yt.toList) = false) := by
    by_cases h1 : xk = yk
    · by_cases h2 : xi = yi
      · by_cases h3 : xt = yt
        · exact .inl ⟨h1, h2, h3⟩
        · refine .inr (.inr (.inr ⟨h1, h2, ?_⟩))
          rw [beq_eq_false_iff_ne]
          intro e
          rw [ByteArray.toList_eq, ByteArray.toList_eq] at e
          exact h3 (by cases xt; cases yt; simp at e; rw [e])
      · exact .inr (.inr (.inl ⟨h1, beq_eq_false_iff_ne.2 h2⟩))
    · exact .inr (.inl (beq_eq_false_iff_ne.2 h1))
  have HT := Lib.hid (fun (b : Bool) w => rtruth_any b w)
  unfold Hp.V.val at HT
  obtain ⟨dd, hdd⟩ : ∃ dd, decide ((⟨xk, xi, xt⟩ : Hp.V) = ⟨yk, yi, yt⟩) = dd := ⟨_, rfl⟩
  have HDEC : Hid ((xk = yk ∧ xi = yi ∧ xt = yt) ↔ dd = true) := by
    show _ ↔ _
    rw [← hdd, decide_eq_true_eq]
    simp
  have HRQ : Hid (RQ h O T 7 ⟨xk, xi, xt⟩ ⟨yk, yi, yt⟩ Hp.none [⟨xk, xi, xt⟩, ⟨yk, yi, yt⟩] w = DoPost 40 h O (Hp.truth dd) 0 T w) := by
    show DoPost 40 h O (Hp.truth (decide ((⟨xk, xi, xt⟩ : Hp.V) = ⟨yk, yi, yt⟩))) 0 T w = _
    rw [hdd]
  rw [HRQ.out]
  clear hdd HRQ
  rcases hcase with ⟨rfl, rfl, rfl⟩ | v1 | ⟨rfl, v1⟩ | ⟨rfl, rfl, v1⟩
  · obtain rfl : dd = true := HDEC.out.1 ⟨rfl, rfl, rfl⟩
    go_wp2_with fail
    with_reducible refine (HT.out _ _).mono ?_
    rintro e w5 ⟨rfl, hb5⟩
    have HS5 := Lib.hid (HS.out.bel hb5)
    clear r0 r1 r2 f0 f1 f2 hw hb5
    obtain ⟨r0, r1, r2, f0, f1, f2, hw⟩ := HS5.out.rd.out
    go_wp2_with fail
    have E := HS5.out.rd.say HS5.out.lt (Hp.truth true) (0)
    refine bodyPost_ret (res2 rfl _ _ w.heap.size 27 _ (0, 0) rfl E.1 valD valSize) rfl ?_
    exact E.2
  · obtain rfl : dd = false := by
      rw [← Bool.not_eq_true, ← HDEC.out]
      rintro ⟨h1, h2, h3⟩
      first | (rw [h1] at v1; simp at v1; done) | (rw [h2] at v1; simp at v1; done) | (rw [h3] at v1; simp at v1; done)
    go_wp2_with fail
    with_reducible refine (HT.out _ _).mono ?_
    rintro e w5 ⟨rfl, hb5⟩
    have HS5 := Lib.hid (HS.out.bel hb5)
    clear r0 r1 r2 f0 f1 f2 hw hb5
    obtain ⟨r0, r1, r2, f0, f1, f2, hw⟩ := HS5.out.rd.out
    go_wp2_with fail
    have E := HS5.out.rd.say HS5.out.lt (Hp.truth false) (0)
    refine bodyPost_ret (res2 rfl _ _ w.heap.size 27 _ (0, 0) rfl E.1 valD valSize) rfl ?_
    exact E.2
  · obtain rfl : dd = false := by
      rw [← Bool.not_eq_true, ← HDEC.out]
      rintro ⟨h1, h2, h3⟩
      first | (rw [h1] at v1; simp at v1; done) | (rw [h2] at v1; simp at v1; done) | (rw [h3] at v1; simp at v1; done)
    go_wp2_with fail
    with_reducible refine (HT.out _ _).mono ?_
    rintro e w5 ⟨rfl, hb5⟩
    have HS5 := Lib.hid (HS.out.bel hb5)
    clear r0 r1 r2 f0 f1 f2 hw hb5
    obtain ⟨r0, r1, r2, f0, f1, f2, hw⟩ := HS5.out.rd.out
    go_wp2_with fail
    have E := HS5.out.rd.say HS5.out.lt (Hp.truth false) (0)
    refine bodyPost_ret (res2 rfl _ _ w.heap.size 27 _ (0, 0) rfl E.1 valD valSize) rfl ?_
    exact E.2
  · obtain rfl : dd = false := by
      rw [← Bool.not_eq_true, ← HDEC.out]
      rintro ⟨h1, h2, h3⟩
      first | (rw [h1] at v1; simp at v1; done) | (rw [h2] at v1; simp at v1; done) | (rw [h3] at v1; simp at v1; done)
    go_wp2_with fail
    with_reducible refine (HT.out _ _).mono ?_
    rintro e w5 ⟨rfl, hb5⟩
    have HS5 := Lib.hid (HS.out.bel hb5)
    clear r0 r1 r2 f0 f1 f2 hw hb5
    obtain ⟨r0, r1, r2, f0, f1, f2, hw⟩ := HS5.out.rd.out
    go_wp2_with fail
    have E := HS5.out.rd.say HS5.out.lt (Hp.truth false) (0)
    refine bodyPost_ret (res2 rfl _ _ w.heap.size 27 _ (0, 0) rfl E.1 valD valSize) rfl ?_
    exact E.2
end Go.Proofs.Ythbnhneibpoooaa
/- The reference's Do: primitives void. -/
namespace Go.Proofs.Ythbnhneibpoooaa
open Go.RowKit
set_option linter.unusedVariables false
set_option linter.unusedSimpArgs false
set_option maxHeartbeats 40000000 in
set_option maxRecDepth 1000000 in
theorem rdo_row36 (h : Nat) (O : Nat → Prop) (T : List Hp.Th) (ap : Option Addr) (ln cp g : Nat) (w wx : World) (A B C V : Nat) (H : RSw h O T (.slice ap ln cp) [] g w wx A B C V Hp.none Hp.none Hp.none) (c3 c4 c5 c7 c8 c9 c10 c11 c12 c13 c18 c19 c20 c21 c22 c23 c24 c25 c26 c27 c28 c29 c30 c31 c32 c33 c34 c35 c36 c37 c38 c39 c40 c41 c42 c43 c44 c45 c46 c47 c48 c49 c50 c51 c52 c53 c54 c55 c56 c57 c58 c59 c60 c61 c62 c63 c64 c65 c66 c67 c68 c69 c70 c71 c72 c73 c74 c75 c76 c77 c78 c79 c80 c81 c82 c83 c84 c85 c86 c87 c88 c89 c90 c91 c92 c93 c94 c95 c96 c97 c98 c99 c100 c101 c102 c103 c104 c105 c106 c107 c108 c109 c110 c111 c112 c113 c114 c115 c116 c117 c118 c119 c120 c121 c122 c123 c124 c125 c126 c127 c129 c130 c131 c132 c133 c134 c135 c136 c137 c138 c139 c140 c141 c142 c143 c144 c145 c146 c147 c148 c149 c150 c151 c152 c153 c154 c155 c156 c157 c158 c159 c160 c161 c162 c163 c164 c165 c166 c167 c168 c169 c170 c171 c172 c173 c174 c175 c176 c177 c178 c179 c180 c181 c182 c183 c184 c185 c186 c187 c188 c189 c190 c191 c192 c193 c194 c195 c196 c197 c198 c199 c200 c201 c202 c203 c204 c205 c206 c207 c208 c209 c210 c211 c212 c213 c214 c215 c216 c217 c218 c219 c220 c221 c222 c223 c224 c225 c226 c227 c228 c229 c230 c231 c232 c233 c234 c235 c236 c237 c238 c239 c240 c241 c242 c243 c244 c245 c246 c247 c248 c249 c250 c251 c252 c253 c254 c255 c256 c257 c258 c259 c260 c261 c262 c263 c264 c265 c266 c267 c268 c269 c270 c271 c272 c273 c274 c275 c276 c277 c278 c279 c280 c281 c282 c283 c284 c285 c286 c287 c288 c289 c290 c291 c292 c293 c294 c295 c296 c297 c298 c299 c300 c301 c302 c303 c304 c305 c306 c307 c308 c309 c310 c311 c312 c313 c314 c315 c316 c317 c318 c319 c320 c321 c322 c323 c324 c325 c326 c327 c328 c329 c330 c331 c332 c333 c334 c335 c336 c337 c338 c339 c340 c341 c342 c343 c344 c345 c346 c347 c348 c349 c350 c351 c352 c353 c354 c355 c356 c357 c358 c359 c360 : Value) (K1 : Act → World → Prop) (hK1 : ∀ (a' : Act) (w' : World), Code.wp Try.prog rdoFin (bodyPost Try.prog Try.f17 (RQ h O T 36 Hp.none Hp.none Hp.none [] w)) a' w' → K1 a' w') :
    Code.wp Try.prog rdoRest (Exit.then K1 (bodyPost Try.prog Try.f17 (RQ h O T 36 Hp.none Hp.none Hp.none [] w))) ⟨List.toArray (.pointer (some ⟨h, 0, none⟩) :: .string ⟨#[118, 111, 105, 100]⟩ :: .slice ap ln cp :: c3 :: c4 :: c5 :: .pointer (some ⟨w.heap.size, 0, none⟩) :: c7 :: c8 :: c9 :: c10 :: c11 :: c12 :: c13 :: .pointer (some ⟨A, 0, none⟩) :: .pointer (some ⟨B, 0, none⟩) :: .pointer (some ⟨C, 0, none⟩) :: .pointer (some ⟨V, 0, none⟩) :: c18 :: c19 :: c20 :: c21 :: c22 :: c23 :: c24 :: c25 :: c26 :: c27 :: c28 :: c29 :: c30 :: c31 :: c32 :: c33 :: c34 :: c35 :: c36 :: c37 :: c38 :: c39 :: c40 :: c41 :: c42 :: c43 :: c44 :: c45 :: c46 :: c47 :: c48 :: c49 :: c50 :: c51 :: c52 :: c53 :: c54 :: c55 :: c56 :: c57 :: c58 :: c59 :: c60 :: c61 :: c62 :: c63 :: c64 :: c65 :: c66 :: c67 :: c68 :: c69 :: c70 :: c71 :: c72 :: c73 :: c74 :: c75 :: c76 :: c77 :: c78 :: c79 :: c80 :: c81 :: c82 :: c83 :: c84 :: c85 :: c86 :: c87 :: c88 :: c89 :: c90 :: c91 :: c92 :: c93 :: c94 :: c95 :: c96 :: c97 :: c98 :: c99 :: c100 :: c101 :: c102 :: c103 :: c104 :: c105 :: c106 :: c107 :: c108 :: c109 :: c110 :: c111 :: c112 :: c113 :: c114 :: c115 :: c116 :: c117 :: c118 :: c119 :: c120 :: c121 :: c122 :: c123 :: c124 :: c125 :: c126 :: c127 :: .string ⟨#[118, 111, 105, 100]⟩ :: c129 :: c130 :: c131 :: c132 :: c133 :: c134 :: c135 :: c136 :: c137 :: c138 :: c139 :: c140 :: c141 :: c142 :: c143 :: c144 :: c145 :: c146 :: c147 :: c148 :: c149 :: c150 :: c151 :: c152 :: c153 :: c154 :: c155 :: c156 :: c157 :: c158 :: c159 :: c160 :: c161 :: c162 :: c163 :: c164 :: c165 :: c166 :: c167 :: c168 :: c169 :: c170 :: c171 :: c172 :: c173 :: c174 :: c175 :: c176 :: c177 :: c178 :: c179 :: c180 :: c181 :: c182 :: c183 :: c184 :: c185 :: c186 :: c187 :: c188 :: c189 :: c190 :: c191 :: c192 :: c193 :: c194 :: c195 :: c196 :: c197 :: c198 :: c199 :: c200 :: c201 :: c202 :: c203 :: c204 :: c205 :: c206 :: c207 :: c208 :: c209 :: c210 :: c211 :: c212 :: c213 :: c214 :: c215 :: c216 :: c217 :: c218 :: c219 :: c220 :: c221 :: c222 :: c223 :: c224 :: c225 :: c226 :: c227 :: c228 :: c229 :: c230 :: c231 :: c232 :: c233 :: c234 :: c235 :: c236 :: c237 :: c238 :: c239 :: c240 :: c241 :: c242 :: c243 :: c244 :: c245 :: c246 :: c247 :: c248 :: c249 :: c250 :: c251 :: c252 :: c253 :: c254 :: c255 :: c256 :: c257 :: c258 :: c259 :: c260 :: c261 :: c262 :: c263 :: c264 :: c265 :: c266 :: c267 :: c268 :: c269 :: c270 :: c271 :: c272 :: c273 :: c274 :: c275 :: c276 :: c277 :: c278 :: c279 :: c280 :: c281 :: c282 :: c283 :: c284 :: c285 :: c286 :: c287 :: c288 :: c289 :: c290 :: c291 :: c292 :: c293 :: c294 :: c295 :: c296 :: c297 :: c298 :: c299 :: c300 :: c301 :: c302 :: c303 :: c304 :: c305 :: c306 :: c307 :: c308 :: c309 :: c310 :: c311 :: c312 :: c313 :: c314 :: c315 :: c316 :: c317 :: c318 :: c319 :: c320 :: c321 :: c322 :: c323 :: c324 :: c325 :: c326 :: c327 :: c328 :: c329 :: c330 :: c331 :: c332 :: c333 :: c334 :: c335 :: c336 :: c337 :: c338 :: c339 :: c340 :: c341 :: c342 :: c343 :: c344 :: c345 :: c346 :: c347 :: c348 :: c349 :: c350 :: c351 :: c352 :: c353 :: c354 :: c355 :: c356 :: c357 :: c358 :: c359 :: c360 :: []), []⟩ wx := by
  obtain ⟨⟨a0, a1, a2⟩, ⟨b0, b1, b2⟩, ⟨c0, c1, c2⟩, ⟨v0, v1, v2⟩⟩ := H.cells
  obtain ⟨r0, r1, r2, f0, f1, f2, hw⟩ := H.rd.out
  have HS := Lib.hid H
  clear H
  unfold rdoRest
  conv => arg 2; whnf
  have HK1 := Lib.hid hK1
  clear hK1
  go_wp2_with fail
  refine HK1.out _ _ ?_
  unfold rdoFin
  conv => arg 2; whnf
  go_wp2_with fail
  have E := HS.out.rd.say HS.out.lt (Hp.void) (0)
  refine bodyPost_ret (res2 rfl _ _ w.heap.size 27 _ (0, 0) rfl E.1 valD valSize) rfl ?_
  exact E.2
end Go.Proofs.Ythbnhneibpoooaa
