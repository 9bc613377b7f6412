/- The reference's Do, all of it. -/
import Derived.Test.YthbnhneibpoooaaQHpRh
import Derived.Test.YthbnhneibpoooaaQRA
import Derived.Deep.DeepCutAuto
set_option linter.unusedVariables false
set_option linter.unusedSimpArgs false
set_option linter.unnecessarySimpa false
namespace Go.Proofs.Ythbnhneibpoooaa
open Go.RowKit
set_option linter.unusedVariables false
set_option linter.unusedSimpArgs false
def regionAt (n : Nat) : Code → Option Code
  | .region i a b => if i = n then some (.region i a b) else none
  | .seq a b => match regionAt n a with
    | some c => some c
    | none => regionAt n b
  | .block _ c => regionAt n c
  | .scope c => regionAt n c
  | .cond _ a b => match regionAt n a with
    | some c => some c
    | none => regionAt n b
  | .loop c => regionAt n c
  | _ => none
noncomputable def rdoR31 : Code := ((Try.f17.body.bind (regionAt 31)).getD .skip)
set_option maxHeartbeats 40000000 in
set_option maxRecDepth 1000000 in
theorem rdo_end (h : Nat) (O : Nat → Prop) (T : List Hp.Th) (ap : Option Addr) (ln cp g : Nat) (w wx : World) (A B C V : Nat) (i : Nat) (x : Hp.Row) (p : ByteArray) (hpn : x.name = p) (hx : Hp.tab[i]? = some x) (l : List Hp.V) (hlen : x.letters.length = l.length) (hm : ∀ v ∈ l, Hp.may T.length v = true) (ho : Hp.allOk T l x.letters = true) (hT : T.length ≤ 1000000) (hP : Hp.FewP T)
    (H : RSw h O T (.slice ap ln cp) l g w wx A B C V (l.getD 0 Hp.none) (l.getD 1 Hp.none) (l.getD 2 Hp.none)) (P : Ending → World → Prop) (hPQ : P = RQ h O T i (l.getD 0 Hp.none) (l.getD 1 Hp.none) (l.getD 2 Hp.none) l w) (c3 c4 c5 c7 c8 c9 c10 c11 c12 c13 c18 c19 c20 c21 c22 c23 c24 c25 c26 c27 c28 c29 c30 c31 c32 c33 c34 c35 c36 c37 c38 c39 c40 c41 c42 c43 c44 c45 c46 c47 c48 c49 c50 c51 c52 c53 c54 c55 c56 c57 c58 c59 c60 c61 c62 c63 c64 c65 c66 c67 c68 c69 c70 c71 c72 c73 c74 c75 c76 c77 c78 c79 c80 c81 c82 c83 c84 c85 c86 c87 c88 c89 c90 c91 c92 c93 c94 c95 c96 c97 c98 c99 c100 c101 c102 c103 c104 c105 c106 c107 c108 c109 c110 c111 c112 c113 c114 c115 c116 c117 c118 c119 c120 c121 c122 c123 c124 c125 c126 c127 c128 c129 c130 c131 c132 c133 c134 c135 c136 c137 c138 c139 c140 c141 c142 c143 c144 c145 c146 c147 c148 c149 c150 c151 c152 c153 c154 c155 c156 c157 c158 c159 c160 c161 c162 c163 c164 c165 c166 c167 c168 c169 c170 c171 c172 c173 c174 c175 c176 c177 c178 c179 c180 c181 c182 c183 c184 c185 c186 c187 c188 c189 c190 c191 c192 c193 c194 c195 c196 c197 c198 c199 c200 c201 c202 c203 c204 c205 c206 c207 c208 c209 c210 c211 c212 c213 c214 c215 c216 c217 c218 c219 c220 c221 c222 c223 c224 c225 c226 c227 c228 c229 c230 c231 c232 c233 c234 c235 c236 c237 c238 c239 c240 c241 c242 c243 c244 c245 c246 c247 c248 c249 c250 c251 c252 c253 c254 c255 c256 c257 c258 c259 c260 c261 c262 c263 c264 c265 c266 c267 c268 c269 c270 c271 c272 c273 c274 c275 c276 c277 c278 c279 c280 c281 c282 c283 c284 c285 c286 c287 c288 c289 c290 c291 c292 c293 c294 c295 c296 c297 c298 c299 c300 c301 c302 c303 c304 c305 c306 c307 c308 c309 c310 c311 c312 c313 c314 c315 c316 c317 c318 c319 c320 c321 c322 c323 c324 c325 c326 c327 c328 c329 c330 c331 c332 c333 c334 c335 c336 c337 c338 c339 c340 c341 c342 c343 c344 c345 c346 c347 c348 c349 c350 c351 c352 c353 c354 c355 c356 c357 c358 c359 c360 : Value) (K K1 : Act → World → Prop) (hK : ∀ (a' : Act) (w' : World), Code.wp Try.prog rdoRest (Exit.then K1 (bodyPost Try.prog Try.f17 P)) a' w' → K a' w') (hK1 : ∀ (a' : Act) (w' : World), Code.wp Try.prog rdoFin (bodyPost Try.prog Try.f17 P) a' w' → K1 a' w') :
    Code.wp Try.prog rdoR31 (Exit.then K (Exit.then K1 (bodyPost Try.prog Try.f17 P))) ⟨List.toArray (.pointer (some ⟨h, 0, none⟩) :: .string p :: .slice ap ln cp :: c3 :: c4 :: c5 :: .pointer (some ⟨w.heap.size, 0, none⟩) :: c7 :: c8 :: c9 :: c10 :: c11 :: c12 :: c13 :: .pointer (some ⟨A, 0, none⟩) :: .pointer (some ⟨B, 0, none⟩) :: .pointer (some ⟨C, 0, none⟩) :: .pointer (some ⟨V, 0, none⟩) :: c18 :: c19 :: c20 :: c21 :: c22 :: c23 :: c24 :: c25 :: c26 :: c27 :: c28 :: c29 :: c30 :: c31 :: c32 :: c33 :: c34 :: c35 :: c36 :: c37 :: c38 :: c39 :: c40 :: c41 :: c42 :: c43 :: c44 :: c45 :: c46 :: c47 :: c48 :: c49 :: c50 :: c51 :: c52 :: c53 :: c54 :: c55 :: c56 :: c57 :: c58 :: c59 :: c60 :: c61 :: c62 :: c63 :: c64 :: c65 :: c66 :: c67 :: c68 :: c69 :: c70 :: c71 :: c72 :: c73 :: c74 :: c75 :: c76 :: c77 :: c78 :: c79 :: c80 :: c81 :: c82 :: c83 :: c84 :: c85 :: c86 :: c87 :: c88 :: c89 :: c90 :: c91 :: c92 :: c93 :: c94 :: c95 :: c96 :: c97 :: c98 :: c99 :: c100 :: c101 :: c102 :: c103 :: c104 :: c105 :: c106 :: c107 :: c108 :: c109 :: c110 :: c111 :: c112 :: c113 :: c114 :: c115 :: c116 :: c117 :: c118 :: c119 :: c120 :: c121 :: c122 :: c123 :: c124 :: c125 :: c126 :: c127 :: c128 :: c129 :: c130 :: c131 :: c132 :: c133 :: c134 :: c135 :: c136 :: c137 :: c138 :: c139 :: c140 :: c141 :: c142 :: c143 :: c144 :: c145 :: c146 :: c147 :: c148 :: c149 :: c150 :: c151 :: c152 :: c153 :: c154 :: c155 :: c156 :: c157 :: c158 :: c159 :: c160 :: c161 :: c162 :: c163 :: c164 :: c165 :: c166 :: c167 :: c168 :: c169 :: c170 :: c171 :: c172 :: c173 :: c174 :: c175 :: c176 :: c177 :: c178 :: c179 :: c180 :: c181 :: c182 :: c183 :: c184 :: c185 :: c186 :: c187 :: c188 :: c189 :: c190 :: c191 :: c192 :: c193 :: c194 :: c195 :: c196 :: c197 :: c198 :: c199 :: c200 :: c201 :: c202 :: c203 :: c204 :: c205 :: c206 :: c207 :: c208 :: c209 :: c210 :: c211 :: c212 :: c213 :: c214 :: c215 :: c216 :: c217 :: c218 :: c219 :: c220 :: c221 :: c222 :: c223 :: c224 :: c225 :: c226 :: c227 :: c228 :: c229 :: c230 :: c231 :: c232 :: c233 :: c234 :: c235 :: c236 :: c237 :: c238 :: c239 :: c240 :: c241 :: c242 :: c243 :: c244 :: c245 :: c246 :: c247 :: c248 :: c249 :: c250 :: c251 :: c252 :: c253 :: c254 :: c255 :: c256 :: c257 :: c258 :: c259 :: c260 :: c261 :: c262 :: c263 :: c264 :: c265 :: c266 :: c267 :: c268 :: c269 :: c270 :: c271 :: c272 :: c273 :: c274 :: c275 :: c276 :: c277 :: c278 :: c279 :: c280 :: c281 :: c282 :: c283 :: c284 :: c285 :: c286 :: c287 :: c288 :: c289 :: c290 :: c291 :: c292 :: c293 :: c294 :: c295 :: c296 :: c297 :: c298 :: c299 :: c300 :: c301 :: c302 :: c303 :: c304 :: c305 :: c306 :: c307 :: c308 :: c309 :: c310 :: c311 :: c312 :: c313 :: c314 :: c315 :: c316 :: c317 :: c318 :: c319 :: c320 :: c321 :: c322 :: c323 :: c324 :: c325 :: c326 :: c327 :: c328 :: c329 :: c330 :: c331 :: c332 :: c333 :: c334 :: c335 :: c336 :: c337 :: c338 :: c339 :: c340 :: c341 :: c342 :: c343 :: c344 :: c345 :: c346 :: c347 :: c348 :: c349 :: c350 :: c351 :: c352 :: c353 :: c354 :: c355 :: c356 :: c357 :: c358 :: c359 :: c360 :: []), []⟩ wx := by
  subst hPQ hpn
  have HS := Lib.hid (hK _ _ (rdo_switch h O T ap ln cp g w wx A B C V i x hx l hlen hm ho hT hP H c3 c4 c5 c7 c8 c9 c10 c11 c12 c13 c18 c19 c20 c21 c22 c23 c24 c25 c26 c27 c28 c29 c30 c31 c32 c33 c34 c35 c36 c37 c38 c39 c40 c41 c42 c43 c44 c45 c46 c47 c48 c49 c50 c51 c52 c53 c54 c55 c56 c57 c58 c59 c60 c61 c62 c63 c64 c65 c66 c67 c68 c69 c70 c71 c72 c73 c74 c75 c76 c77 c78 c79 c80 c81 c82 c83 c84 c85 c86 c87 c88 c89 c90 c91 c92 c93 c94 c95 c96 c97 c98 c99 c100 c101 c102 c103 c104 c105 c106 c107 c108 c109 c110 c111 c112 c113 c114 c115 c116 c117 c118 c119 c120 c121 c122 c123 c124 c125 c126 c127 c129 c130 c131 c132 c133 c134 c135 c136 c137 c138 c139 c140 c141 c142 c143 c144 c145 c146 c147 c148 c149 c150 c151 c152 c153 c154 c155 c156 c157 c158 c159 c160 c161 c162 c163 c164 c165 c166 c167 c168 c169 c170 c171 c172 c173 c174 c175 c176 c177 c178 c179 c180 c181 c182 c183 c184 c185 c186 c187 c188 c189 c190 c191 c192 c193 c194 c195 c196 c197 c198 c199 c200 c201 c202 c203 c204 c205 c206 c207 c208 c209 c210 c211 c212 c213 c214 c215 c216 c217 c218 c219 c220 c221 c222 c223 c224 c225 c226 c227 c228 c229 c230 c231 c232 c233 c234 c235 c236 c237 c238 c239 c240 c241 c242 c243 c244 c245 c246 c247 c248 c249 c250 c251 c252 c253 c254 c255 c256 c257 c258 c259 c260 c261 c262 c263 c264 c265 c266 c267 c268 c269 c270 c271 c272 c273 c274 c275 c276 c277 c278 c279 c280 c281 c282 c283 c284 c285 c286 c287 c288 c289 c290 c291 c292 c293 c294 c295 c296 c297 c298 c299 c300 c301 c302 c303 c304 c305 c306 c307 c308 c309 c310 c311 c312 c313 c314 c315 c316 c317 c318 c319 c320 c321 c322 c323 c324 c325 c326 c327 c328 c329 c330 c331 c332 c333 c334 c335 c336 c337 c338 c339 c340 c341 c342 c343 c344 c345 c346 c347 c348 c349 c350 c351 c352 c353 c354 c355 c356 c357 c358 c359 c360 K1 hK1))
  clear hK hK1
  unfold rdoR31
  conv => arg 2; whnf
  go_wp2_with fail
  exact HS.out
set_option maxHeartbeats 40000000 in
set_option maxRecDepth 100000 in
theorem rdo_any (h : Nat) (O : Nat → Prop) (T : List Hp.Th) (p : ByteArray) (av : Value) (l : List Hp.V) (w : World) (H : HSt w 40 h O T) (hv : VSl w av l) (hl : l.length ≤ 1000000) (ht : ∀ v ∈ l, v.text.size ≤ maxLen) (hT : T.length ≤ 1000000) (hP : Hp.FewP T) :
    Calls Try.prog 17 #[.pointer (some ⟨h, 0, none⟩), .string p, av] w (DoPost 40 h O (Hp.doF T p l).1 (Hp.doF T p l).2.1 (Hp.doF T p l).2.2 w) := by
  have HH := Lib.hid H
  have HV := Lib.hid hv
  have HH0 := Lib.hid H.lt
  clear H hv
  go_enter Try.func17, Try.ntmps17
  go_wp2_with fail
  with_reducible refine (rows_any _).mono ?_
  rintro e w1 ⟨g, rfl, hR, hb⟩
  have HB : Hid (RDo h O T av l g w w1) := by
    have hb0 : Below w.heap.size w w1 := ((Below.refl _ _).alloc (Nat.le_refl _) _).trans (hb.mono (by simp))
    exact ⟨HH.out.below hb0 (Nat.le_refl _), hb0, HV.out.below hb0 (Nat.le_refl _), hR, (hb.block _ (by simp)).trans (heap_alloc_new w _)⟩
  clear hR hb
  obtain ⟨ap, cp, rfl⟩ := HV.out.len
  go_wp2_with fail
  go_loopg [9, 10] 38 (fun gk s9 s10 wx => ∃ k : Nat, k ≤ 38 ∧ gk = 38 - k ∧ s9 = .int .i64 (Hp.rat p k) ∧ s10 = .int .i64 k ∧ wx = w1)
  case atStart => exact ⟨0, by omega, rfl, rfl, rfl, rfl⟩
  case round =>
    obtain ⟨k, hk, rfl, rfl, rfl, rfl⟩ := hrel
    by_cases hlt : k < 38
    · obtain ⟨x, hx⟩ : ∃ x, Hp.tab[k]? = some x := ⟨_, List.getElem?_eq_getElem (by rw [Hp.tab_len]; exact hlt)⟩
      obtain ⟨d0, ax, cx, d1, _⟩ := HB.out.tab.2 k x hx
      have hgR := HB.out.tab.1
      have hst := Hp.rat_step (p := p) hx
      have hi1 : (0 : Int) ≤ k := by omega
      have hi2 : (k : Int) < 38 := by omega
      by_cases he : x.name = p
      · rw [if_pos he] at hst
        have HST := Lib.hid hst
        subst he
        clear hst
        have he2 : (x.name.toList == x.name.toList) = true := beq_self_eq_true _
        go_wp2_with fail
        go_roundg (38 - (k + 1))
        case measure => omega
        case rel => exact ⟨k + 1, by omega, rfl, by rw [HST.out], by go_num, rfl⟩
      · rw [if_neg he] at hst
        have HST := Lib.hid hst
        clear hst
        have he2 : (x.name.toList == p.toList) = false := by
          rw [beq_eq_false_iff_ne]
          exact fun e => he (by rw [Lib.toList_data, Lib.toList_data] at e; exact ByteArray.ext (Array.toList_inj.1 e))
        go_wp2_with fail
        go_roundg (38 - (k + 1))
        case measure => omega
        case rel => exact ⟨k + 1, by omega, rfl, by rw [HST.out], by go_num, rfl⟩
    · obtain rfl : k = 38 := by omega
      by_cases hneg : Hp.rat p 38 < 0
      · have HD := Lib.hid (Hp.doF_none (T := T) (l := l) hneg)
        have q1 : decide (Hp.rat p 38 < 0) = true := decide_eq_true hneg
        obtain ⟨r0, r1, r2, f0, f1, f2, hw⟩ := HB.out.out
        clear hneg HV HH
        go_wp2_with fail
        have E := HB.out.say HH0.out Hp.none 1
        refine bodyPost_ret (res2 rfl _ _ w.heap.size 27 _ (0, 0) rfl E.1 valD valSize) rfl ?_
        rw [HD.out]
        exact E.2
      · obtain ⟨x, hx, hxn⟩ := Hp.rat_some p 38 (by omega)
        obtain ⟨i, hi⟩ : ∃ i : Nat, Hp.rat p 38 = i := ⟨(Hp.rat p 38).toNat, by omega⟩
        have hi38 := (Hp.rat_bound p 38).2
        rw [hi, Int.toNat_natCast] at hx
        rw [hi] at hi38
        obtain ⟨d0, ax, cx, d1, hcode⟩ := HB.out.tab.2 i x hx
        have hgR := HB.out.tab.1
        have hi1 : (0 : Int) ≤ i := by omega
        have hi2 : (i : Int) < 38 := by omega
        have q1 : decide ((i : Int) < 0) = false := decide_eq_false (by omega)
        have HI := Lib.hid hi
        have HX := Lib.hid hx
        have HCO := Lib.hid hcode
        obtain ⟨r0, r1, r2, f0, f1, f2, hw⟩ := HB.out.out
        simp only [hi]
        clear hneg hi hx hcode hi38
        by_cases hln : x.letters.length = l.length
        · have HLN := Lib.hid hln
          rw [hln] at d1
          have q2 : (l.length != l.length) = false := by simp
          have q3 : ((l.length : Int) != (l.length : Int)) = false := by simp
          clear hln
          go_wp2_with fail
          go_loopg [11] l.length (fun gk s11 wx => ∃ k : Nat, k ≤ l.length ∧ gk = l.length - k ∧ s11 = .int .i64 k ∧ Hid (∀ (j : Nat) (v : Hp.V), j < k → l[j]? = some v → Hp.may T.length v = true) ∧ Hid (RDo h O T (.slice ap l.length cp) l g w wx))
          case atStart => exact ⟨0, by omega, rfl, rfl, fun j v hj => by omega, HB⟩
          case round =>
            obtain ⟨k, hk, rfl, rfl, HA, HB2⟩ := hrel
            clear HB
            by_cases hlt : k < l.length
            · obtain ⟨v, hv⟩ : ∃ v, l[k]? = some v := ⟨_, List.getElem?_eq_getElem hlt⟩
              obtain ⟨b, off, c2, e2, hb, a0, a1, a2⟩ := HB2.out.arg hv
              cases e2
              have hk1 : (0 : Int) ≤ k := by omega
              have hk2 : (k : Int) < l.length := by omega
              have hgk : IntKind.i64.wrap ((k : Int) + 1) = k + 1 := by rw [IntKind.wrap_i64]; omega
              have HM : Hid (Calls Try.prog 36 #[.pointer (some ⟨h, 0, none⟩), .agg #[.int .i64 v.kind, .int .i64 v.int, .string v.text]] wr fun e w' => e = .returned (.bool (Hp.may T.length v)) ∧ Below wr.heap.size wr w') := by
                obtain ⟨vt, M, HA0, e⟩ := HB2.out.st
                have hc := HA0.c0
                obtain ⟨a, c, rfl⟩ := HA0.shape
                have := rmay_any h M.length c a v (ht v (List.mem_of_getElem? hv)) wr hc HA0.lth
                rw [← e, List.length_map]
                exact this
              have HVK := Lib.hid hv
              clear hv
              cases hmv : Hp.may T.length v with
              | true =>
                rw [hmv] at HM
                have HMV := Lib.hid hmv
                clear hmv
                go_wp2_with fail
                with_reducible refine HM.out.mono ?_
                rintro e w2 ⟨rfl, hb2⟩
                have HB3 := Lib.hid (HB2.out.bel hb2)
                clear hb2
                go_wp2_with fail
                go_roundg (l.length - (k + 1))
                case measure => omega
                case rel => exact ⟨k + 1, by omega, rfl, by go_num, fun j u hj hu => by
                  rcases (by omega : j < k ∨ j = k) with h1 | rfl
                  · exact HA.out j u h1 hu
                  · rw [HVK.out] at hu; cases hu; exact HMV.out, HB3⟩
              | false =>
                rw [hmv] at HM
                have HD := Lib.hid (Hp.doF_may (T := T) HI.out HX.out HLN.out (List.all_eq_false.2 ⟨v, List.mem_of_getElem? HVK.out, by rw [hmv]; decide⟩))
                clear hmv
                go_wp2_with fail
                with_reducible refine HM.out.mono ?_
                rintro e w2 ⟨rfl, hb2⟩
                have HB3 := Lib.hid (HB2.out.bel hb2)
                obtain ⟨r0, r1, r2, f0, f1, f2, hw⟩ := HB3.out.out
                clear hb2
                go_wp2_with fail
                have E := HB3.out.say HH0.out Hp.none 1
                refine bodyPost_ret (res2 rfl _ _ w.heap.size 27 _ (0, 0) rfl E.1 valD valSize) rfl ?_
                rw [HD.out]
                exact E.2
            · obtain rfl : l.length = k := by omega
              have HAL : Hid (l.all (Hp.may T.length) = true) := by
                refine List.all_eq_true.2 fun v hv => ?_
                obtain ⟨j, hj, e⟩ := List.getElem_of_mem hv
                exact HA.out j v hj (by rw [List.getElem?_eq_getElem hj, e])
              have HMY : Hid (∀ v ∈ l, Hp.may T.length v = true) := fun v hv => List.all_eq_true.1 HAL.out v hv
              clear HA d0 d1 r0 r1 r2 f0 f1 f2 hw
              go_wp2_with fail
              go_loopg [12] l.length (fun gk s12 wx => ∃ k : Nat, k ≤ l.length ∧ gk = l.length - k ∧ s12 = .int .i64 k ∧ Hid (∀ (j : Nat) (v : Hp.V) (c : Int), j < k → l[j]? = some v → x.letters[j]? = some c → Hp.okAt T (v, c) = true) ∧ Hid (RDo h O T (.slice ap l.length cp) l g w wx))
              case atStart => exact ⟨0, by omega, rfl, rfl, fun j v c hj => by omega, HB2⟩
              case round =>
                obtain ⟨k, hk, rfl, rfl, HA, HB3⟩ := hrel
                clear HB2
                by_cases hlt : k < l.length
                · obtain ⟨v, hv⟩ : ∃ v, l[k]? = some v := ⟨_, List.getElem?_eq_getElem hlt⟩
                  obtain ⟨c, hc⟩ : ∃ c, x.letters[k]? = some c := ⟨_, List.getElem?_eq_getElem (by rw [HLN.out]; exact hlt)⟩
                  obtain ⟨b, off, c2, e2, hb, a0, a1, a2⟩ := HB3.out.arg hv
                  cases e2
                  obtain ⟨d0, ax2, cx2, d1, hcode⟩ := HB3.out.tab.2 i x HX.out
                  obtain ⟨cb, rfl, hcb, d2⟩ := hcode k c hc
                  rw [HLN.out] at d1
                  have hk1 : (0 : Int) ≤ k := by omega
                  have hk2 : (k : Int) < l.length := by omega
                  have hgk : IntKind.i64.wrap ((k : Int) + 1) = k + 1 := by rw [IntKind.wrap_i64]; omega
                  have HK := Lib.hid (rkind_any HB3.out.st v (HMY.out v (List.mem_of_getElem? hv)))
                  unfold Hp.V.val at HK
                  have hlo := Hp.tab_ok x (List.mem_of_getElem? HX.out) c (List.mem_of_getElem? hc)
                  have HVK := Lib.hid hv
                  have HCK := Lib.hid hc
                  clear hv hc hcode
                  obtain ⟨kd, hkd⟩ : ∃ kd, Hp.kindOf T v = kd := ⟨_, rfl⟩
                  obtain ⟨ob, hob⟩ : ∃ ob, Hp.isL kd v.kind c = ob := ⟨_, rfl⟩
                  have HOB : Hid (Hp.okAt T (v, c) = ob) := by
                    unfold Hid Hp.okAt
                    rw [hkd]
                    exact hob
                  have HBO := Lib.hid hob
                  rw [hkd] at HK
                  clear hkd hob
                  go_upto_region 19 with fail
                  go_cut [104] (fun s104 wx => s104 = .bool (!ob) ∧ Hid (RDo h O T (.slice (some ⟨b, off, none⟩) l.length cp) l g w wx))
                  case first =>
                    rcases hlo with rfl | rfl | rfl | rfl | rfl | rfl | rfl | rfl
                    · have HIS : Hid (Hp.isL kd v.kind 46 = true) := rfl
                      rw [show Hp.codeOf 46 = -1 from rfl]
                      obtain rfl : ob = true := HBO.out.symm.trans HIS.out
                      go_wp2_with fail
                      go_meet
                      case rel => exact ⟨rfl, HB3⟩
                    · rw [show Hp.codeOf 105 = 1 from rfl]
                      by_cases hvk : v.kind = 1
                      · have HIS : Hid (Hp.isL kd v.kind 105 = true) := by rw [hvk]; rfl
                        have q5 : (v.kind != 1) = false := by rw [hvk]; rfl
                        obtain rfl : ob = true := HBO.out.symm.trans HIS.out
                        clear hvk
                        go_wp2_with fail
                        go_meet
                        case rel => exact ⟨rfl, HB3⟩
                      · have HIS : Hid (Hp.isL kd v.kind 105 = false) := by unfold Hid Hp.isL; simp [hvk]
                        have q5 : (v.kind != 1) = true := by rw [bne_iff_ne]; exact hvk
                        obtain rfl : ob = false := HBO.out.symm.trans HIS.out
                        clear hvk
                        go_wp2_with fail
                        go_meet
                        case rel => exact ⟨rfl, HB3⟩
                    · rw [show Hp.codeOf 99 = 2 from rfl]
                      by_cases hvk : v.kind = 2
                      · have HIS : Hid (Hp.isL kd v.kind 99 = true) := by rw [hvk]; rfl
                        have q5 : (v.kind != 2) = false := by rw [hvk]; rfl
                        obtain rfl : ob = true := HBO.out.symm.trans HIS.out
                        clear hvk
                        go_wp2_with fail
                        go_meet
                        case rel => exact ⟨rfl, HB3⟩
                      · have HIS : Hid (Hp.isL kd v.kind 99 = false) := by unfold Hid Hp.isL; simp [hvk]
                        have q5 : (v.kind != 2) = true := by rw [bne_iff_ne]; exact hvk
                        obtain rfl : ob = false := HBO.out.symm.trans HIS.out
                        clear hvk
                        go_wp2_with fail
                        go_meet
                        case rel => exact ⟨rfl, HB3⟩
                    · rw [show Hp.codeOf 112 = 10 from rfl]
                      by_cases hkd : kd = 0
                      · have HIS : Hid (Hp.isL kd v.kind 112 = true) := by rw [hkd]; rfl
                        have q5 : (kd != 0) = false := by rw [hkd]; rfl
                        obtain rfl : ob = true := HBO.out.symm.trans HIS.out
                        clear hkd
                        go_wp2_with fail
                        with_reducible refine HK.out.mono ?_
                        rintro e w5 ⟨rfl, hb5⟩
                        have HB5 := Lib.hid (HB3.out.bel hb5)
                        clear hb5
                        go_wp2_with fail
                        go_meet
                        case rel => exact ⟨rfl, HB5⟩
                      · have HIS : Hid (Hp.isL kd v.kind 112 = false) := by unfold Hid Hp.isL; simp [hkd]
                        have q5 : (kd != 0) = true := by rw [bne_iff_ne]; exact hkd
                        obtain rfl : ob = false := HBO.out.symm.trans HIS.out
                        clear hkd
                        go_wp2_with fail
                        with_reducible refine HK.out.mono ?_
                        rintro e w5 ⟨rfl, hb5⟩
                        have HB5 := Lib.hid (HB3.out.bel hb5)
                        clear hb5
                        go_wp2_with fail
                        go_meet
                        case rel => exact ⟨rfl, HB5⟩
                    · rw [show Hp.codeOf 118 = 11 from rfl]
                      by_cases hkd : kd = 1
                      · have HIS : Hid (Hp.isL kd v.kind 118 = true) := by rw [hkd]; rfl
                        have q5 : (kd != 1) = false := by rw [hkd]; rfl
                        obtain rfl : ob = true := HBO.out.symm.trans HIS.out
                        clear hkd
                        go_wp2_with fail
                        with_reducible refine HK.out.mono ?_
                        rintro e w5 ⟨rfl, hb5⟩
                        have HB5 := Lib.hid (HB3.out.bel hb5)
                        clear hb5
                        go_wp2_with fail
                        go_meet
                        case rel => exact ⟨rfl, HB5⟩
                      · have HIS : Hid (Hp.isL kd v.kind 118 = false) := by unfold Hid Hp.isL; simp [hkd]
                        have q5 : (kd != 1) = true := by rw [bne_iff_ne]; exact hkd
                        obtain rfl : ob = false := HBO.out.symm.trans HIS.out
                        clear hkd
                        go_wp2_with fail
                        with_reducible refine HK.out.mono ?_
                        rintro e w5 ⟨rfl, hb5⟩
                        have HB5 := Lib.hid (HB3.out.bel hb5)
                        clear hb5
                        go_wp2_with fail
                        go_meet
                        case rel => exact ⟨rfl, HB5⟩
                    · rw [show Hp.codeOf 115 = 12 from rfl]
                      by_cases hkd : kd = 2
                      · have HIS : Hid (Hp.isL kd v.kind 115 = true) := by rw [hkd]; rfl
                        have q5 : (kd != 2) = false := by rw [hkd]; rfl
                        obtain rfl : ob = true := HBO.out.symm.trans HIS.out
                        clear hkd
                        go_wp2_with fail
                        with_reducible refine HK.out.mono ?_
                        rintro e w5 ⟨rfl, hb5⟩
                        have HB5 := Lib.hid (HB3.out.bel hb5)
                        clear hb5
                        go_wp2_with fail
                        go_meet
                        case rel => exact ⟨rfl, HB5⟩
                      · have HIS : Hid (Hp.isL kd v.kind 115 = false) := by unfold Hid Hp.isL; simp [hkd]
                        have q5 : (kd != 2) = true := by rw [bne_iff_ne]; exact hkd
                        obtain rfl : ob = false := HBO.out.symm.trans HIS.out
                        clear hkd
                        go_wp2_with fail
                        with_reducible refine HK.out.mono ?_
                        rintro e w5 ⟨rfl, hb5⟩
                        have HB5 := Lib.hid (HB3.out.bel hb5)
                        clear hb5
                        go_wp2_with fail
                        go_meet
                        case rel => exact ⟨rfl, HB5⟩
                    · rw [show Hp.codeOf 98 = 13 from rfl]
                      by_cases hkd : kd = 3
                      · have HIS : Hid (Hp.isL kd v.kind 98 = true) := by rw [hkd]; rfl
                        have q5 : (kd != 3) = false := by rw [hkd]; rfl
                        obtain rfl : ob = true := HBO.out.symm.trans HIS.out
                        clear hkd
                        go_wp2_with fail
                        with_reducible refine HK.out.mono ?_
                        rintro e w5 ⟨rfl, hb5⟩
                        have HB5 := Lib.hid (HB3.out.bel hb5)
                        clear hb5
                        go_wp2_with fail
                        go_meet
                        case rel => exact ⟨rfl, HB5⟩
                      · have HIS : Hid (Hp.isL kd v.kind 98 = false) := by unfold Hid Hp.isL; simp [hkd]
                        have q5 : (kd != 3) = true := by rw [bne_iff_ne]; exact hkd
                        obtain rfl : ob = false := HBO.out.symm.trans HIS.out
                        clear hkd
                        go_wp2_with fail
                        with_reducible refine HK.out.mono ?_
                        rintro e w5 ⟨rfl, hb5⟩
                        have HB5 := Lib.hid (HB3.out.bel hb5)
                        clear hb5
                        go_wp2_with fail
                        go_meet
                        case rel => exact ⟨rfl, HB5⟩
                    · rw [show Hp.codeOf 114 = 14 from rfl]
                      by_cases hkd : kd = 4
                      · have HIS : Hid (Hp.isL kd v.kind 114 = true) := by rw [hkd]; rfl
                        have q5 : (kd != 4) = false := by rw [hkd]; rfl
                        obtain rfl : ob = true := HBO.out.symm.trans HIS.out
                        clear hkd
                        go_wp2_with fail
                        with_reducible refine HK.out.mono ?_
                        rintro e w5 ⟨rfl, hb5⟩
                        have HB5 := Lib.hid (HB3.out.bel hb5)
                        clear hb5
                        go_wp2_with fail
                        go_meet
                        case rel => exact ⟨rfl, HB5⟩
                      · have HIS : Hid (Hp.isL kd v.kind 114 = false) := by unfold Hid Hp.isL; simp [hkd]
                        have q5 : (kd != 4) = true := by rw [bne_iff_ne]; exact hkd
                        obtain rfl : ob = false := HBO.out.symm.trans HIS.out
                        clear hkd
                        go_wp2_with fail
                        with_reducible refine HK.out.mono ?_
                        rintro e w5 ⟨rfl, hb5⟩
                        have HB5 := Lib.hid (HB3.out.bel hb5)
                        clear hb5
                        go_wp2_with fail
                        go_meet
                        case rel => exact ⟨rfl, HB5⟩
                  case rest =>
                    obtain ⟨rfl, HB4⟩ := hcut
                    cases ob with
                    | true =>
                      have HOK := HOB
                      go_wp2_with fail
                      go_roundg (l.length - (k + 1))
                      case measure => omega
                      case rel => exact ⟨k + 1, by omega, rfl, by go_num, fun j u c' hj hu hc' => by
                        rcases (by omega : j < k ∨ j = k) with h1 | rfl
                        · exact HA.out j u c' h1 hu hc'
                        · rw [HVK.out] at hu; rw [HCK.out] at hc'; cases hu; cases hc'; exact HOK.out, HB4⟩
                    | false =>
                      have hmem : (v, c) ∈ l.zip x.letters := List.mem_of_getElem? (i := k) (by rw [List.getElem?_zip_eq_some]; exact ⟨HVK.out, HCK.out⟩)
                      have HD := Lib.hid (Hp.doF_type (T := T) HI.out HX.out HLN.out HAL.out (List.all_eq_false.2 ⟨(v, c), hmem, by rw [HOB.out]; decide⟩))
                      obtain ⟨r0, r1, r2, f0, f1, f2, hw⟩ := HB4.out.out
                      clear hmem
                      go_wp2_with fail
                      have E := HB4.out.say HH0.out Hp.none 80
                      refine bodyPost_ret (res2 rfl _ _ w.heap.size 27 _ (0, 0) rfl E.1 valD valSize) rfl ?_
                      rw [HD.out]
                      exact E.2
                · obtain rfl : l.length = k := by omega
                  have HAO : Hid (Hp.allOk T l x.letters = true) := by
                    refine List.all_eq_true.2 fun q hq => ?_
                    obtain ⟨j, hj, e⟩ := List.getElem_of_mem hq
                    have e2 : (l.zip x.letters)[j]? = some q := by rw [List.getElem?_eq_getElem hj, e]
                    rw [List.getElem?_zip_eq_some] at e2
                    exact HA.out j q.1 q.2 (by have := (List.getElem?_eq_some_iff.1 e2.1).1; omega) e2.1 e2.2
                  clear HA
                  have hl3 : l.length ≤ 3 := by rw [← HLN.out]; exact Hp.tab_three x (List.mem_of_getElem? HX.out)
                  have HDF := Lib.hid (Hp.doF_act (T := T) HI.out HX.out HLN.out HAL.out HAO.out)
                  have HPQ : Hid (DoPost 40 h O (Hp.doF T p l).1 (Hp.doF T p l).2.1 (Hp.doF T p l).2.2 w = RQ h O T i (l.getD 0 Hp.none) (l.getD 1 Hp.none) (l.getD 2 Hp.none) l w) := by unfold Hid RQ; rw [HDF.out]
                  rcases l with _ | ⟨va, _ | ⟨vb, _ | ⟨vc, _ | ⟨vd, l⟩⟩⟩⟩
                  · have HSW := RSw.of HB3.out HH0.out Hp.none Hp.none Hp.none
                    go_upto_region 31 with fail
                    exact rdo_end h O T _ _ _ g w _ _ _ _ _ i x p hxn HX.out _ HLN.out HMY.out HAO.out hT hP HSW _ HPQ.out _ _ _ _ _ _ _ _ _ _ _ _ _ _ _ _ _ _ _ _ _ _ _ _ _ _ _ _ _ _ _ _ _ _ _ _ _ _ _ _ _ _ _ _ _ _ _ _ _ _ _ _ _ _ _ _ _ _ _ _ _ _ _ _ _ _ _ _ _ _ _ _ _ _ _ _ _ _ _ _ _ _ _ _ _ _ _ _ _ _ _ _ _ _ _ _ _ _ _ _ _ _ _ _ _ _ _ _ _ _ _ _ _ _ _ _ _ _ _ _ _ _ _ _ _ _ _ _ _ _ _ _ _ _ _ _ _ _ _ _ _ _ _ _ _ _ _ _ _ _ _ _ _ _ _ _ _ _ _ _ _ _ _ _ _ _ _ _ _ _ _ _ _ _ _ _ _ _ _ _ _ _ _ _ _ _ _ _ _ _ _ _ _ _ _ _ _ _ _ _ _ _ _ _ _ _ _ _ _ _ _ _ _ _ _ _ _ _ _ _ _ _ _ _ _ _ _ _ _ _ _ _ _ _ _ _ _ _ _ _ _ _ _ _ _ _ _ _ _ _ _ _ _ _ _ _ _ _ _ _ _ _ _ _ _ _ _ _ _ _ _ _ _ _ _ _ _ _ _ _ _ _ _ _ _ _ _ _ _ _ _ _ _ _ _ _ _ _ _ _ _ _ _ _ _ _ _ _ _ _ _ _ _ _ _ _ _ _ _ _ _ _ _ _ _ _ _ _ _ _ _ _ _ _ _ _ _ _ _ _ _ _ _ _ _ _ _ _ _ _ _ _ _ _ _ (by assumption) (by assumption)
                  · obtain ⟨b, off, c9, e2, hb, a0, a1, a2⟩ := HB3.out.arg (k := 0) rfl
                    cases e2
                    simp only [Nat.zero_mul, Nat.one_mul, Nat.add_zero, Nat.reduceMul] at a0 a1 a2
                    have hb1 : b < wr.heap.size + 1 := by omega
                    have hb2 : b < wr.heap.size + 1 + 1 := by omega
                    have HSW := RSw.of HB3.out HH0.out va Hp.none Hp.none
                    go_upto_region 31 with fail
                    exact rdo_end h O T _ _ _ g w _ _ _ _ _ i x p hxn HX.out _ HLN.out HMY.out HAO.out hT hP HSW _ HPQ.out _ _ _ _ _ _ _ _ _ _ _ _ _ _ _ _ _ _ _ _ _ _ _ _ _ _ _ _ _ _ _ _ _ _ _ _ _ _ _ _ _ _ _ _ _ _ _ _ _ _ _ _ _ _ _ _ _ _ _ _ _ _ _ _ _ _ _ _ _ _ _ _ _ _ _ _ _ _ _ _ _ _ _ _ _ _ _ _ _ _ _ _ _ _ _ _ _ _ _ _ _ _ _ _ _ _ _ _ _ _ _ _ _ _ _ _ _ _ _ _ _ _ _ _ _ _ _ _ _ _ _ _ _ _ _ _ _ _ _ _ _ _ _ _ _ _ _ _ _ _ _ _ _ _ _ _ _ _ _ _ _ _ _ _ _ _ _ _ _ _ _ _ _ _ _ _ _ _ _ _ _ _ _ _ _ _ _ _ _ _ _ _ _ _ _ _ _ _ _ _ _ _ _ _ _ _ _ _ _ _ _ _ _ _ _ _ _ _ _ _ _ _ _ _ _ _ _ _ _ _ _ _ _ _ _ _ _ _ _ _ _ _ _ _ _ _ _ _ _ _ _ _ _ _ _ _ _ _ _ _ _ _ _ _ _ _ _ _ _ _ _ _ _ _ _ _ _ _ _ _ _ _ _ _ _ _ _ _ _ _ _ _ _ _ _ _ _ _ _ _ _ _ _ _ _ _ _ _ _ _ _ _ _ _ _ _ _ _ _ _ _ _ _ _ _ _ _ _ _ _ _ _ _ _ _ _ _ _ _ _ _ _ _ _ _ _ _ _ _ _ _ _ _ _ _ (by assumption) (by assumption)
                  · obtain ⟨b, off, c9, e2, hb, a0, a1, a2⟩ := HB3.out.arg (k := 0) rfl
                    cases e2
                    obtain ⟨b, off, c9, e2, hb, b0, b1, b2⟩ := HB3.out.arg (k := 1) rfl
                    cases e2
                    simp only [Nat.zero_mul, Nat.one_mul, Nat.add_zero, Nat.reduceMul] at a0 a1 a2 b0 b1 b2
                    have hb1 : b < wr.heap.size + 1 := by omega
                    have hb2 : b < wr.heap.size + 1 + 1 := by omega
                    have HSW := RSw.of HB3.out HH0.out va vb Hp.none
                    go_upto_region 31 with fail
                    exact rdo_end h O T _ _ _ g w _ _ _ _ _ i x p hxn HX.out _ HLN.out HMY.out HAO.out hT hP HSW _ HPQ.out _ _ _ _ _ _ _ _ _ _ _ _ _ _ _ _ _ _ _ _ _ _ _ _ _ _ _ _ _ _ _ _ _ _ _ _ _ _ _ _ _ _ _ _ _ _ _ _ _ _ _ _ _ _ _ _ _ _ _ _ _ _ _ _ _ _ _ _ _ _ _ _ _ _ _ _ _ _ _ _ _ _ _ _ _ _ _ _ _ _ _ _ _ _ _ _ _ _ _ _ _ _ _ _ _ _ _ _ _ _ _ _ _ _ _ _ _ _ _ _ _ _ _ _ _ _ _ _ _ _ _ _ _ _ _ _ _ _ _ _ _ _ _ _ _ _ _ _ _ _ _ _ _ _ _ _ _ _ _ _ _ _ _ _ _ _ _ _ _ _ _ _ _ _ _ _ _ _ _ _ _ _ _ _ _ _ _ _ _ _ _ _ _ _ _ _ _ _ _ _ _ _ _ _ _ _ _ _ _ _ _ _ _ _ _ _ _ _ _ _ _ _ _ _ _ _ _ _ _ _ _ _ _ _ _ _ _ _ _ _ _ _ _ _ _ _ _ _ _ _ _ _ _ _ _ _ _ _ _ _ _ _ _ _ _ _ _ _ _ _ _ _ _ _ _ _ _ _ _ _ _ _ _ _ _ _ _ _ _ _ _ _ _ _ _ _ _ _ _ _ _ _ _ _ _ _ _ _ _ _ _ _ _ _ _ _ _ _ _ _ _ _ _ _ _ _ _ _ _ _ _ _ _ _ _ _ _ _ _ _ _ _ _ _ _ _ _ _ _ _ _ _ _ _ _ (by assumption) (by assumption)
                  · obtain ⟨b, off, c9, e2, hb, a0, a1, a2⟩ := HB3.out.arg (k := 0) rfl
                    cases e2
                    obtain ⟨b, off, c9, e2, hb, b0, b1, b2⟩ := HB3.out.arg (k := 1) rfl
                    cases e2
                    obtain ⟨b, off, c9, e2, hb, c0, c1, c2⟩ := HB3.out.arg (k := 2) rfl
                    cases e2
                    simp only [Nat.zero_mul, Nat.one_mul, Nat.add_zero, Nat.reduceMul] at a0 a1 a2 b0 b1 b2 c0 c1 c2
                    have hb1 : b < wr.heap.size + 1 := by omega
                    have hb2 : b < wr.heap.size + 1 + 1 := by omega
                    have HSW := RSw.of HB3.out HH0.out va vb vc
                    go_upto_region 31 with fail
                    exact rdo_end h O T _ _ _ g w _ _ _ _ _ i x p hxn HX.out _ HLN.out HMY.out HAO.out hT hP HSW _ HPQ.out _ _ _ _ _ _ _ _ _ _ _ _ _ _ _ _ _ _ _ _ _ _ _ _ _ _ _ _ _ _ _ _ _ _ _ _ _ _ _ _ _ _ _ _ _ _ _ _ _ _ _ _ _ _ _ _ _ _ _ _ _ _ _ _ _ _ _ _ _ _ _ _ _ _ _ _ _ _ _ _ _ _ _ _ _ _ _ _ _ _ _ _ _ _ _ _ _ _ _ _ _ _ _ _ _ _ _ _ _ _ _ _ _ _ _ _ _ _ _ _ _ _ _ _ _ _ _ _ _ _ _ _ _ _ _ _ _ _ _ _ _ _ _ _ _ _ _ _ _ _ _ _ _ _ _ _ _ _ _ _ _ _ _ _ _ _ _ _ _ _ _ _ _ _ _ _ _ _ _ _ _ _ _ _ _ _ _ _ _ _ _ _ _ _ _ _ _ _ _ _ _ _ _ _ _ _ _ _ _ _ _ _ _ _ _ _ _ _ _ _ _ _ _ _ _ _ _ _ _ _ _ _ _ _ _ _ _ _ _ _ _ _ _ _ _ _ _ _ _ _ _ _ _ _ _ _ _ _ _ _ _ _ _ _ _ _ _ _ _ _ _ _ _ _ _ _ _ _ _ _ _ _ _ _ _ _ _ _ _ _ _ _ _ _ _ _ _ _ _ _ _ _ _ _ _ _ _ _ _ _ _ _ _ _ _ _ _ _ _ _ _ _ _ _ _ _ _ _ _ _ _ _ _ _ _ _ _ _ _ _ _ _ _ _ _ _ _ _ _ _ _ _ _ _ _ (by assumption) (by assumption)
                  · simp at hl3
        · have HD := Lib.hid (Hp.doF_len (T := T) HI.out HX.out hln)
          have q2 : (((x.letters.length : Nat) : Int) != (l.length : Int)) = true := by rw [bne_iff_ne]; omega
          have q3 : (x.letters.length != l.length) = true := by rw [bne_iff_ne]; omega
          clear hln
          go_wp2_with fail
          have E := HB.out.say HH0.out Hp.none 1
          refine bodyPost_ret (res2 rfl _ _ w.heap.size 27 _ (0, 0) rfl E.1 valD valSize) rfl ?_
          rw [HD.out]
          exact E.2
end Go.Proofs.Ythbnhneibpoooaa
