/- Made's loop over the things. -/
import Derived.Deep.DeepCutAuto
import Derived.Deep.LoopGhost
import Derived.Deep.RegionHeld3
import Derived.Test.YtaldcgfhlflcpaaAJbn
import Derived.Test.YtaldcgfhlflcpaaAJar
set_option linter.unusedVariables false
set_option linter.unusedSimpArgs false
set_option linter.unnecessarySimpa false
namespace Go.Proofs.Ytaldcgfhlflcpaa
open Go.RowKit
set_option linter.unusedVariables false
set_option linter.unusedSimpArgs false
set_option maxRecDepth 1000000
namespace Gc
open Rs
def loopsOf : Code → List Code
  | .loop c => .loop c :: loopsOf c
  | .seq a b => loopsOf a ++ loopsOf b
  | .block _ c => loopsOf c
  | .scope c => loopsOf c
  | .cond _ a b => loopsOf a ++ loopsOf b
  | _ => []
noncomputable def madeL3 : Code := ((Try.f5.body.map loopsOf).getD []).getD 2 .skip
abbrev BitsOk (x : Wd) (ap : Option Addr) (cp : Nat) (w0 : World) : Prop := ∀ (t n : Int) (W : World), Below w0.heap.size w0 W → Calls Try.prog 12 #[.agg #[.int .i64 t, .int .i64 n], .slice ap x.K cp] W fun e w' => e = .returned (.int .i64 (enc x.env.pl (conv x.K t n))) ∧ Below W.heap.size W w'
theorem Mst.bits {x : Wd} {w wx : World} {C : List Value} {bm : Nat} {ap : Option Addr} {cp : Nat} {R : Nat → Int} {m : List Int} (h : Mst x w C bm ap cp R m wx) (hK : x.K ≤ 1000) (hP : ∀ j, j < x.K → x.env.pl j ≤ 1048576) : BitsOk x ap cp wx :=
  fun t n W hb => bits_any t n x.K ap cp x.env.pl W (h.pls.below hb (Nat.le_refl _)) hK hP
set_option maxHeartbeats 40000000 in
theorem made_loop3 (x : Wd) (w wc : World) (C : List Value) (bm ln zn lo ot cp ct : Nat) (ap at_ : Option Addr) (R : Nat → Int) (m0 : List Int)
    (hK60 : x.things.length ≤ 60) (HP : Hid (∀ j, j < x.K → x.env.pl j ≤ 1048576)) (hln : ln ≤ 2000) (hm0 : Fit m0 ln) (HFIT : Hid (∀ i, i < x.K → x.env.pl i + (1 + (x.th i).2.length) ≤ ln)) (HC1 : Hid (C[1]? = some (.slice at_ x.things.length ct)))
    (HTH : Hid (x.things = [] ∨ ∃ b off, at_ = some ⟨b, off, none⟩ ∧ b < w.heap.size ∧ ∀ j t, x.things[j]? = some t → w.cell? ⟨b, off + j * 2, none⟩ = some (.int .i64 t.1) ∧ ∃ v', w.cell? ⟨b, off + j * 2 + 1, none⟩ = some v' ∧ WoAt w v' t.2))
    (HM0 : Hid (Mst x w C bm ap cp R m0 wc)) (c0 c2 c4 c10 c12 c13 c15 c16 c17 c18 c19 c20 c21 c22 c23 c24 c25 c26 c27 c28 c29 c30 c31 c32 c33 c34 c35 c36 c37 c38 c39 c40 c41 c42 c43 c44 c45 c46 c47 c48 c49 c50 c51 c52 c53 c54 c55 c56 c57 c58 c59 c60 c61 c62 c63 c64 c65 c66 c67 c68 c69 c70 c71 c72 c73 c74 c75 c76 c77 c78 c79 c80 c81 c82 c83 c84 c85 c86 c87 c88 c89 c90 c91 c92 c93 c94 c95 c96 c97 c98 c99 c100 c101 c102 c103 c104 c105 c106 c107 c108 c109 c110 c111 c112 c113 c114 c115 c116 c117 c118 c119 c120 c121 c122 c123 c124 c125 c126 c127 c128 c129 c130 c131 c132 c133 c134 c135 c136 c137 c138 c139 c140 c141 c142 c143 c144 c145 c146 c147 c148 c149 c150 c151 c152 c153 c154 c155 c156 c157 c158 c159 c160 c161 c162 c163 c164 c165 c166 c167 c168 c169 c170 c171 c172 c173 c174 c175 c176 c177 c178 c179 c180 c181 c182 c183 c184 c185 c186 c187 c188 c189 c190 c191 c192 c193 c194 c195 c196 c197 c198 c199 c200 c201 c202 c203 c204 c205 c206 c207 c208 c209 c210 c211 c212 c213 c214 c215 c216 c217 c218 c219 c220 c221 c222 c223 c224 c225 c226 c227 c228 c229 c230 c231 c232 c233 c234 c235 c236 c237 c238 : Value) (K : Act → World → Prop) (Q : Exit → Act → World → Prop)
    (hK : ∀ (u14 u15 u16 u115 u116 u117 u118 u119 u120 u121 u122 u123 u124 u125 u126 u127 u128 u129 u130 u131 u132 u133 u134 u135 u136 u137 u138 u139 u140 u141 u142 u143 u144 u145 u146 u147 u148 u149 u150 u151 u152 u153 u154 u155 u156 u157 u158 u159 u160 u161 u162 u163 u164 u165 : Value) (wx : World) (m : List Int), Fit m ln → Hid (Laid x x.K m) → Hid (Mst x w C bm ap cp R m wx) → K ⟨List.toArray (c0 :: .pointer (some ⟨w.heap.size, 0, none⟩) :: c2 :: .pointer (some ⟨w.heap.size + 1, 0, none⟩) :: c4 :: .pointer (some ⟨w.heap.size + 2, 0, none⟩) :: .int .i64 (zn : Nat) :: .int .i64 (lo : Nat) :: .int .i64 (ot : Nat) :: .slice (some ⟨bm, 0, none⟩) ln ln :: c10 :: .slice ap x.K cp :: c12 :: c13 :: u14 :: u15 :: u16 :: c17 :: c18 :: c19 :: c20 :: c21 :: c22 :: c23 :: c24 :: c25 :: c26 :: c27 :: c28 :: c29 :: c30 :: c31 :: c32 :: c33 :: c34 :: c35 :: c36 :: c37 :: c38 :: c39 :: c40 :: c41 :: c42 :: c43 :: c44 :: c45 :: c46 :: c47 :: c48 :: c49 :: c50 :: c51 :: c52 :: c53 :: c54 :: c55 :: c56 :: c57 :: c58 :: c59 :: c60 :: c61 :: c62 :: c63 :: c64 :: c65 :: c66 :: c67 :: c68 :: c69 :: c70 :: c71 :: c72 :: c73 :: c74 :: c75 :: c76 :: c77 :: c78 :: c79 :: c80 :: c81 :: c82 :: c83 :: c84 :: c85 :: c86 :: c87 :: c88 :: c89 :: c90 :: c91 :: c92 :: c93 :: c94 :: c95 :: c96 :: c97 :: c98 :: c99 :: c100 :: c101 :: c102 :: c103 :: c104 :: c105 :: c106 :: c107 :: c108 :: c109 :: c110 :: c111 :: c112 :: c113 :: c114 :: u115 :: u116 :: u117 :: u118 :: u119 :: u120 :: u121 :: u122 :: u123 :: u124 :: u125 :: u126 :: u127 :: u128 :: u129 :: u130 :: u131 :: u132 :: u133 :: u134 :: u135 :: u136 :: u137 :: u138 :: u139 :: u140 :: u141 :: u142 :: u143 :: u144 :: u145 :: u146 :: u147 :: u148 :: u149 :: u150 :: u151 :: u152 :: u153 :: u154 :: u155 :: u156 :: u157 :: u158 :: u159 :: u160 :: u161 :: u162 :: u163 :: u164 :: u165 :: c166 :: c167 :: c168 :: c169 :: c170 :: c171 :: c172 :: c173 :: c174 :: c175 :: c176 :: c177 :: c178 :: c179 :: c180 :: c181 :: c182 :: c183 :: c184 :: c185 :: c186 :: c187 :: c188 :: c189 :: c190 :: c191 :: c192 :: c193 :: c194 :: c195 :: c196 :: c197 :: c198 :: c199 :: c200 :: c201 :: c202 :: c203 :: c204 :: c205 :: c206 :: c207 :: c208 :: c209 :: c210 :: c211 :: c212 :: c213 :: c214 :: c215 :: c216 :: c217 :: c218 :: c219 :: c220 :: c221 :: c222 :: c223 :: c224 :: c225 :: c226 :: c227 :: c228 :: c229 :: c230 :: c231 :: c232 :: c233 :: c234 :: c235 :: c236 :: c237 :: c238 :: []), []⟩ wx) :
    Code.wp Try.prog madeL3 (Exit.inBlock 4 (Exit.then K Q)) ⟨List.toArray (c0 :: .pointer (some ⟨w.heap.size, 0, none⟩) :: c2 :: .pointer (some ⟨w.heap.size + 1, 0, none⟩) :: c4 :: .pointer (some ⟨w.heap.size + 2, 0, none⟩) :: .int .i64 (zn : Nat) :: .int .i64 (lo : Nat) :: .int .i64 (ot : Nat) :: .slice (some ⟨bm, 0, none⟩) ln ln :: c10 :: .slice ap x.K cp :: c12 :: c13 :: .int .i64 0 :: c15 :: c16 :: c17 :: c18 :: c19 :: c20 :: c21 :: c22 :: c23 :: c24 :: c25 :: c26 :: c27 :: c28 :: c29 :: c30 :: c31 :: c32 :: c33 :: c34 :: c35 :: c36 :: c37 :: c38 :: c39 :: c40 :: c41 :: c42 :: c43 :: c44 :: c45 :: c46 :: c47 :: c48 :: c49 :: c50 :: c51 :: c52 :: c53 :: c54 :: c55 :: c56 :: c57 :: c58 :: c59 :: c60 :: c61 :: c62 :: c63 :: c64 :: c65 :: c66 :: c67 :: c68 :: c69 :: c70 :: c71 :: c72 :: c73 :: c74 :: c75 :: c76 :: c77 :: c78 :: c79 :: c80 :: c81 :: c82 :: c83 :: c84 :: c85 :: c86 :: c87 :: c88 :: c89 :: c90 :: c91 :: c92 :: c93 :: c94 :: c95 :: c96 :: c97 :: c98 :: c99 :: c100 :: c101 :: c102 :: c103 :: c104 :: c105 :: c106 :: c107 :: c108 :: c109 :: c110 :: c111 :: c112 :: c113 :: c114 :: c115 :: c116 :: c117 :: c118 :: c119 :: c120 :: c121 :: c122 :: c123 :: c124 :: c125 :: c126 :: c127 :: c128 :: c129 :: c130 :: c131 :: c132 :: c133 :: c134 :: c135 :: c136 :: c137 :: c138 :: c139 :: c140 :: c141 :: c142 :: c143 :: c144 :: c145 :: c146 :: c147 :: c148 :: c149 :: c150 :: c151 :: c152 :: c153 :: c154 :: c155 :: c156 :: c157 :: c158 :: c159 :: c160 :: c161 :: c162 :: c163 :: c164 :: c165 :: c166 :: c167 :: c168 :: c169 :: c170 :: c171 :: c172 :: c173 :: c174 :: c175 :: c176 :: c177 :: c178 :: c179 :: c180 :: c181 :: c182 :: c183 :: c184 :: c185 :: c186 :: c187 :: c188 :: c189 :: c190 :: c191 :: c192 :: c193 :: c194 :: c195 :: c196 :: c197 :: c198 :: c199 :: c200 :: c201 :: c202 :: c203 :: c204 :: c205 :: c206 :: c207 :: c208 :: c209 :: c210 :: c211 :: c212 :: c213 :: c214 :: c215 :: c216 :: c217 :: c218 :: c219 :: c220 :: c221 :: c222 :: c223 :: c224 :: c225 :: c226 :: c227 :: c228 :: c229 :: c230 :: c231 :: c232 :: c233 :: c234 :: c235 :: c236 :: c237 :: c238 :: []), []⟩ wc := by
  have HK := Lib.hid hK
  clear hK
  unfold madeL3
  conv => arg 2; whnf
  go_loopg [14] x.K (fun g s14 wx => ∃ (i : Nat) (m : List Int), i ≤ x.K ∧ g = x.K - i ∧ s14 = .int .i64 (i : Nat) ∧ Fit m ln ∧ Hid (Laid x i m) ∧ Hid (Mst x w C bm ap cp R m wx))
  case atStart => exact ⟨0, m0, Nat.zero_le _, rfl, rfl, hm0, fun j hj => absurd hj (Nat.not_lt_zero _), HM0⟩
  case round =>
    obtain ⟨i, m, hi, rfl, rfl, hml, HL, HM⟩ := hrel
    have e1 := HM.out.cellC HC1.out
    by_cases hlt : i < x.K
    · obtain ⟨t, ht⟩ : ∃ t, x.things[i]? = some t := ⟨_, List.getElem?_eq_getElem hlt⟩
      rcases HTH.out with h0 | ⟨b, off, rfl, hb, hc⟩
      · rw [h0] at ht; simp at ht
      obtain ⟨cA, v', cB, a', cap', rfl, hnl, hwo⟩ := hc i t ht
      have hth : x.th i = t := by unfold Wd.th; rw [List.getD_eq_getElem?_getD, ht]; rfl
      have cA' : wr.cell? ⟨b, off + i * 2, none⟩ = some (.int .i64 t.1) := (HM.out.old.cell (p := ⟨b, off + i * 2, none⟩) hb).trans cA
      have cB' : wr.cell? ⟨b, off + i * 2 + 1, none⟩ = some (.slice a' t.2.length cap') := (HM.out.old.cell (p := ⟨b, off + i * 2 + 1, none⟩) hb).trans cB
      have hfit := HFIT.out i hlt
      have hhd : x.env.hd i = 8 * (8 * (t.2.length : Int) + t.1 % 8) + 7 := by rw [← hth]; rfl
      obtain ⟨bp, op, hap, hbp, hbp2, cP⟩ := HM.out.place hlt
      obtain ⟨pl, hpl⟩ : ∃ p, x.env.pl i = p := ⟨_, rfl⟩
      rw [hth, hpl] at hfit
      rw [hpl] at cP
      have hmod := Int.emod_nonneg t.1 (show (8 : Int) ≠ 0 by decide)
      have hmod2 := Int.emod_lt_of_pos t.1 (show (0 : Int) < 8 by decide)
      obtain ⟨kd, hkd⟩ : ∃ z, t.1 % 8 = z := ⟨_, rfl⟩
      have HPK : Hid (∀ W, Calls Try.prog 11 #[.int .i64 t.1, .int .i64 8] W fun e w' => e = .returned (.int .i64 kd) ∧ W = w') := fun W => by rw [← hkd]; exact pick_any t.1 8 (by decide) (by decide) W
      rw [hkd] at hmod hmod2 hhd
      obtain ⟨n, hn⟩ : ∃ n, t.2.length = n := ⟨_, rfl⟩
      obtain ⟨k0, hk0⟩ : ∃ z, t.1 = z := ⟨_, rfl⟩
      rw [hn] at hfit hnl hhd cB'
      rw [hk0] at cA' HPK
      have HWO := Lib.hid hwo
      have HTHI := Lib.hid hth
      have HN := Lib.hid hn
      have HHD := Lib.hid hhd
      have HPL := Lib.hid hpl
      have HB := Lib.hid hb
      clear hc cA cB hwo hth ht hkd hn hk0 hhd hpl hb
      have g1 : (i : Int) < (x.things.length : Nat) := by show (i : Int) < (x.K : Nat); omega
      have g0 : (0 : Int) ≤ (i : Int) := by omega
      have g1b : (i : Int) < (x.K : Nat) := by omega
      have g2 : IntKind.i64.wrap (8 * (n : Int)) = 8 * (n : Int) := by rw [IntKind.wrap_i64]; omega
      have g3 : IntKind.i64.wrap (8 * (n : Int) + kd) = 8 * (n : Int) + kd := by rw [IntKind.wrap_i64]; omega
      have g4 : IntKind.i64.wrap (8 * (8 * (n : Int) + kd)) = 8 * (8 * (n : Int) + kd) := by rw [IntKind.wrap_i64]; omega
      have g5 : IntKind.i64.wrap (8 * (8 * (n : Int) + kd) + 7) = 8 * (8 * (n : Int) + kd) + 7 := by rw [IntKind.wrap_i64]; omega
      have g6 : IntKind.i64.wrap ((i : Int) + 1) = (i : Int) + 1 := by rw [IntKind.wrap_i64]; omega
      have g7 : (pl : Int) < (ln : Int) := by omega
      have g8 : (0 : Int) ≤ (pl : Int) := by omega
      subst hap
      go_upto_region 27 with fail
      have HM2 := Lib.hid (HM.out.below ((Below.refl wr.heap.size wr).alloc (Nat.le_refl _) (.cells #[.int .i64 k0, .slice a' n cap'] 46)))
      have HT2 := Lib.hid (heap_alloc_new wr (.cells #[.int .i64 k0, .slice a' n cap'] 46))
      have hbt : bm < wr.heap.size := HM.out.sizes
      generalize wr.alloc (.cells #[.int .i64 k0, .slice a' n cap'] 46) = wb at HM2 HT2 ⊢
      generalize wr.heap.size = bt at HT2 hbt ⊢
      clear cA' cB' cP e1 HM
      have hplm : pl < m.length := by rw [hml.len]; omega
      obtain ⟨cu, fu⟩ := HM2.out.memCell (p := pl) hplm
      have cu' : wb.drew.cell? ⟨bm, pl, none⟩ = some (.int .i64 (m.getD pl 0)) := cu
      have fu' : wb.drew.frozen? ⟨bm, pl, none⟩ = false := fu
      have HMd := Lib.hid (HM2.out.below (Below.refl wb.heap.size wb).drew)
      have HTd : Hid (wb.drew.heap[bt]? = some (.cells #[.int .i64 k0, .slice a' n cap'] 46 (0, 0))) := HT2.out
      have HM3 := Lib.hid ((HM2.out.setMem (p := pl) hplm (8 * (8 * (n : Int) + kd) + 7)).below (Below.refl (wb.setCell ⟨bm, pl, none⟩ (.int .i64 (8 * (8 * (n : Int) + kd) + 7))).heap.size (wb.setCell ⟨bm, pl, none⟩ (.int .i64 (8 * (8 * (n : Int) + kd) + 7)))).drew)
      have HT3 : Hid ((wb.setCell ⟨bm, pl, none⟩ (.int .i64 (8 * (8 * (n : Int) + kd) + 7))).drew.heap[bt]? = some (.cells #[.int .i64 k0, .slice a' n cap'] 46 (0, 0))) := (heap_setCell_other wb ⟨bm, pl, none⟩ bt (.int .i64 (8 * (8 * (n : Int) + kd) + 7)) (by show bt ≠ bm; omega)).trans HT2.out
      have HS0 := Lib.hid (HMd.out.rd HTd.out hlt HPL.out)
      have HS1 := Lib.hid (HM3.out.rd HT3.out hlt HPL.out)
      go_region_held3 (fun w' => w'.cell? ⟨bp, op + i, none⟩ = some (.int .i64 (pl : Nat)) ∧ w'.cell? ⟨bt, 0, none⟩ = some (.int .i64 k0) ∧ w'.cell? ⟨bt, 1, none⟩ = some (.slice a' n cap'))
        (first | with_reducible exact HS0.out | with_reducible exact HS1.out | exact HS0.out)
        (first | (go_at_call 11; (with_reducible refine (HPK.out _).mono ?_); rintro e w2 ⟨rfl, rfl⟩))
      clear cu fu cu' fu' HS0 HS1 HMd HTd HM2 HT2 HPK
      generalize (wb.setCell ⟨bm, pl, none⟩ (.int .i64 (8 * (8 * (n : Int) + kd) + 7))).drew = w3 at HM3 HT3 ⊢
      have HLT : Hid (LaidTo x i 0 (m.set pl (8 * (8 * (n : Int) + kd) + 7))) := by
        have h := HL.out.head hlt (by rw [HPL.out]; exact hplm)
        rw [HPL.out, HHD.out] at h
        exact h
      have hml3 : Fit (m.set pl (8 * (8 * (n : Int) + kd) + 7)) ln := hml.set pl (inr_small (by omega) (by omega))
      have HML := Lib.hid hml3
      generalize m.set pl (8 * (8 * (n : Int) + kd) + 7) = m3 at HM3 HLT HML
      clear hml3 hml hplm HL g2 g3 g4 g5 HHD
      go_wp2_with fail
      go_loopg [16] n (fun g s16 wx => ∃ (k : Nat) (m' : List Int), k ≤ n ∧ g = n - k ∧ s16 = .int .i64 (k : Nat) ∧ Fit m' ln ∧ Hid (LaidTo x i k m') ∧ Hid (wx.heap[bt]? = some (.cells #[.int .i64 k0, .slice a' n cap'] 46 (0, 0))) ∧ Hid (Mst x w C bm (some ⟨bp, op, none⟩) cp R m' wx))
      case atStart => exact ⟨0, m3, Nat.zero_le _, rfl, rfl, HML.out, HLT, HT3, HM3⟩
      case round =>
        obtain ⟨k, m', hk, rfl, rfl, hml', HLk, HTk, HMk⟩ := hrel
        by_cases hkn : k < n
        · rcases HWO.out with h0 | ⟨bw, ow, haw, hbw, hcw⟩
          · have h9 := HN.out; rw [h0, List.length_nil] at h9; omega
          subst haw
          obtain ⟨p, hp⟩ : ∃ p, t.2[k]? = some p := ⟨_, List.getElem?_eq_getElem (by have := HN.out; omega)⟩
          obtain ⟨d1, d2⟩ := hcw k p hp
          have HRT : Hid ((x.env.ws i)[k]? = some (x.cv p)) := word_at (by rw [HTHI.out]; exact hp)
          have HIN := Lib.hid (enc_inr HP.out p)
          have HB := Lib.hid (HMk.out.bits (by show x.things.length ≤ 1000; omega) HP.out p.1 p.2)
          obtain ⟨ev, hev⟩ : ∃ z, enc x.env.pl (x.cv p) = z := ⟨_, rfl⟩
          have hev2 : enc x.env.pl (conv x.K p.1 p.2) = ev := hev
          rw [hev2] at HB
          rw [hev] at HIN
          have HEV := Lib.hid hev
          obtain ⟨p1, hp1⟩ : ∃ z, p.1 = z := ⟨_, rfl⟩
          obtain ⟨p2, hp2⟩ : ∃ z, p.2 = z := ⟨_, rfl⟩
          rw [hp1] at d1 HB
          rw [hp2] at d2 HB
          clear hev hev2 hp1 hp2 hp hcw
          obtain ⟨q, hq⟩ : ∃ q : Nat, q = pl + 1 + k := ⟨_, rfl⟩
          have z1 : (k : Int) < (n : Int) := by omega
          have z0 : (0 : Int) ≤ (k : Int) := by omega
          have z3 : (q : Int) < (ln : Int) := by omega
          have z4 : (0 : Int) ≤ (q : Int) := by omega
          have z5 : IntKind.i64.wrap ((pl : Int) + 1) = (pl : Int) + 1 := by rw [IntKind.wrap_i64]; omega
          have z6 : IntKind.i64.wrap ((pl : Int) + 1 + (k : Int)) = (q : Int) := by rw [IntKind.wrap_i64]; omega
          have z7 : IntKind.i64.wrap ((k : Int) + 1) = (k : Int) + 1 := by rw [IntKind.wrap_i64]; omega
          have hqm : q < m'.length := by rw [hml'.len]; omega
          have HQ := Lib.hid hq
          have HBW := Lib.hid hbw
          have HD1 := Lib.hid d1
          have HD2 := Lib.hid d2
          clear hq hbw d1 d2
          have HMd := Lib.hid (HMk.out.below (Below.refl wr.heap.size wr).drew)
          have d1t : wr.cell? ⟨bt, 1, none⟩ = some (.slice (some ⟨bw, ow, none⟩) n cap') := by rw [cell_of_row _ _ _ _ _ _ HTk.out]; rfl
          have HS0 := Lib.hid (HMd.out.rd2 (bt := bt) HTk.out hlt HPL.out HBW.out HD1.out HD2.out)
          have hbt2 : Hid (bt < wr.heap.size) := (Array.getElem?_eq_some_iff.1 HTk.out).1
          go_upto_region 31 with fail
          go_region_held3 (fun w' => w'.cell? ⟨bp, op + i, none⟩ = some (.int .i64 (pl : Nat)) ∧ w'.cell? ⟨bt, 1, none⟩ = some (.slice (some ⟨bw, ow, none⟩) n cap') ∧ w'.cell? ⟨bw, ow + k * 2, none⟩ = some (.int .i64 p1) ∧ w'.cell? ⟨bw, ow + k * 2 + 1, none⟩ = some (.int .i64 p2))
            (first | with_reducible exact HS0.out | with_reducible exact HS5.out | with_reducible exact HS6.out | exact HS0.out)
            (first | (go_at_call 12; (with_reducible refine (HB.out _ (Below.refl _ _).drew).mono ?_); rintro e w5 ⟨rfl, hb5⟩; have HM5 := Lib.hid (HMd.out.below hb5); have HT5 := Lib.hid ((hb5.block bt hbt2.out).trans HTk.out); obtain ⟨cu, fu⟩ := HM5.out.memCell (p := q) hqm; have HM6 := Lib.hid (HM5.out.setMem (p := q) hqm ev); have HT6 : Hid ((w5.setCell ⟨bm, q, none⟩ (.int .i64 ev)).heap[bt]? = some (.cells #[.int .i64 k0, .slice (some ⟨bw, ow, none⟩) n cap'] 46 (0, 0))) := (heap_setCell_other _ _ _ _ (by show bt ≠ bm; omega)).trans HT5.out; have HS5 := Lib.hid (HM5.out.rd2 HT5.out hlt HPL.out HBW.out HD1.out HD2.out); have HS6 := Lib.hid (HM6.out.rd2 HT6.out hlt HPL.out HBW.out HD1.out HD2.out); clear hb5))
          clear cu fu HS0 HS5 HS6 HM5 HT5 HMd
          generalize w5.setCell ⟨bm, q, none⟩ (.int .i64 ev) = w6 at HM6 HT6 ⊢
          go_wp2_with fail
          go_roundg (n - (k + 1))
          case measure => omega
          case rel =>
            refine ⟨k + 1, m'.set q ev, by omega, rfl, by go_num, hml'.set q HIN.out, ?_, HT6, HM6⟩
            have h := HLk.out.word hlt HRT.out (by rw [HPL.out, ← HQ.out]; exact hqm)
            rw [HEV.out, HPL.out, ← HQ.out] at h
            exact h
        · have hke : k = n := by omega
          have z1 : ¬ (k : Int) < (n : Int) := by omega
          have HL2 : Hid (Laid x (i + 1) m') := by
            refine LaidTo.done ?_
            rw [HTHI.out, HN.out, ← hke]
            exact HLk.out
          have d1 : wr.cell? ⟨bt, 1, none⟩ = some (.slice a' n cap') := by rw [cell_of_row _ _ _ _ _ _ HTk.out]; rfl
          clear hke
          go_wp2_with fail
          go_roundg (x.K - (i + 1))
          case measure => omega
          case rel => exact ⟨i + 1, m', by omega, rfl, by go_num, hml', HL2, HMk⟩
    · obtain rfl : i = x.K := by omega
      have g1 : ¬ ((x.K : Nat) : Int) < (x.things.length : Nat) := by show ¬ (x.K : Int) < (x.K : Nat); omega
      go_wp2_with fail
      exact HK.out _ _ _ _ _ _ _ _ _ _ _ _ _ _ _ _ _ _ _ _ _ _ _ _ _ _ _ _ _ _ _ _ _ _ _ _ _ _ _ _ _ _ _ _ _ _ _ _ _ _ _ _ _ _ _ m hml HL HM
end Gc
end Go.Proofs.Ytaldcgfhlflcpaa
namespace Go.Proofs.Ytaldcgfhlflcpaa
open Go.RowKit
set_option linter.unusedVariables false
set_option linter.unusedSimpArgs false
set_option maxRecDepth 1000000
namespace Gc
open Rs
theorem setCells_other {b k : Nat} (hk : k ≠ b) : ∀ (vs : List Value) (o : Nat) (w : World), (w.setCells b o vs).heap[k]? = w.heap[k]?
  | [], o, w => rfl
  | v :: vs, o, w => (setCells_other hk vs (o + 1) (w.setCell ⟨b, o, none⟩ v)).trans (heap_setCell_other _ _ _ _ hk)
def restOf : Nat → Code → Code
  | 0, c => c
  | k + 1, .seq _ c => restOf k c
  | _, c => c
def lefts : Code → Code
  | .seq a _ => a
  | c => c
def rights : Code → Code
  | .seq _ b => b
  | c => c
noncomputable def madeRest : Code := (Try.f5.body.map (restOf 12)).getD .skip
noncomputable def madeR23 : Code := lefts (lefts madeRest)
noncomputable def madeB4 : Code := rights (lefts madeRest)
noncomputable def madeR5 : Code := rights madeRest
theorem regs_one (R : Nat → Int) : ∀ v ∈ regsV R, v.oneCell' = true := by intro u hu; obtain ⟨i, -, rfl⟩ := List.mem_map.1 hu; rfl
set_option maxHeartbeats 40000000 in
theorem made_rest (x : Wd) (w wc : World) (C : List Value) (bm ln zn sn lo ot cp ct cs : Nat) (ap at_ as_ : Option Addr) (m0 : List Int)
    (hmay : Hid x.May) (HLO : Hid (lo = x.env.lo)) (HOT : Hid (ot = x.env.oth)) (HZN : Hid (x.sz = zn)) (HSN : Hid (x.stack.length = sn)) (hzn : zn ≤ 500) (hsn : sn ≤ 60) (hlo : lo ≤ 700) (hlo2 : 35 + sn ≤ lo) (hot : ot ≤ 700) (HLNE : Hid (ln = 42 + sn + 2 * zn)) (hm0 : Fit m0 ln)
    (HC : Hid (C[1]? = some (.slice at_ x.things.length ct) ∧ C[56]? = some (.slice as_ sn cs) ∧ C[57]? = some (.int .i64 x.wanted) ∧ ∀ j p, x.roots[j]? = some p → C[2 + 2 * j]? = some (.int .i64 p.1) ∧ C[2 + 2 * j + 1]? = some (.int .i64 p.2)))
    (HTH : Hid (x.things = [] ∨ ∃ b off, at_ = some ⟨b, off, none⟩ ∧ b < w.heap.size ∧ ∀ j t, x.things[j]? = some t → w.cell? ⟨b, off + j * 2, none⟩ = some (.int .i64 t.1) ∧ ∃ v', w.cell? ⟨b, off + j * 2 + 1, none⟩ = some v' ∧ WoAt w v' t.2))
    (HSO : Hid (x.stack = [] ∨ ∃ b off, as_ = some ⟨b, off, none⟩ ∧ b < w.heap.size ∧ ∀ j p, x.stack[j]? = some p → w.cell? ⟨b, off + j * 2, none⟩ = some (.int .i64 p.1) ∧ w.cell? ⟨b, off + j * 2 + 1, none⟩ = some (.int .i64 p.2)))
    (HM0 : Hid (Mst x w C bm ap cp (fun _ => 0) m0 wc)) (c0 c2 c4 c10 c13 c14 c15 c16 c17 c18 c19 c20 c21 c22 c23 c24 c25 c26 c27 c28 c29 c30 c31 c32 c33 c34 c35 c36 c37 c38 c39 c40 c41 c42 c43 c44 c45 c46 c47 c48 c49 c50 c51 c52 c53 c54 c55 c56 c57 c58 c59 c60 c61 c62 c63 c64 c65 c66 c67 c68 c69 c70 c71 c72 c73 c74 c75 c76 c77 c78 c79 c80 c81 c82 c83 c84 c85 c86 c87 c88 c89 c90 c91 c92 c93 c94 c95 c96 c97 c98 c99 c100 c101 c102 c103 c104 c105 c106 c107 c108 c109 c110 c111 c112 c113 c114 c115 c116 c117 c118 c119 c120 c121 c122 c123 c124 c125 c126 c127 c128 c129 c130 c131 c132 c133 c134 c135 c136 c137 c138 c139 c140 c141 c142 c143 c144 c145 c146 c147 c148 c149 c150 c151 c152 c153 c154 c155 c156 c157 c158 c159 c160 c161 c162 c163 c164 c165 c166 c167 c168 c169 c170 c171 c172 c173 c174 c175 c176 c177 c178 c179 c180 c181 c182 c183 c184 c185 c186 c187 c188 c189 c190 c191 c192 c193 c194 c195 c196 c197 c198 c199 c200 c201 c202 c203 c204 c205 c206 c207 c208 c209 c210 c211 c212 c213 c214 c215 c216 c217 c218 c219 c220 c221 c222 c223 c224 c225 c226 c227 c228 c229 c230 c231 c232 c233 c234 c235 c236 c237 c238 : Value) (K0 K1 : Act → World → Prop)
    (h0 : ∀ (a : Act) (w' : World), Code.wp Try.prog madeB4 (Exit.then K1 (bodyPost Try.prog Try.f5 (MadePost x w))) a w' → K0 a w') (h1 : ∀ (a : Act) (w' : World), Code.wp Try.prog madeR5 (bodyPost Try.prog Try.f5 (MadePost x w)) a w' → K1 a w') :
    Code.wp Try.prog madeR23 (Exit.then K0 (Exit.then K1 (bodyPost Try.prog Try.f5 (MadePost x w)))) ⟨List.toArray (c0 :: .pointer (some ⟨w.heap.size, 0, none⟩) :: c2 :: .pointer (some ⟨w.heap.size + 1, 0, none⟩) :: c4 :: .pointer (some ⟨w.heap.size + 2, 0, none⟩) :: .int .i64 (zn : Nat) :: .int .i64 (lo : Nat) :: .int .i64 (ot : Nat) :: .slice (some ⟨bm, 0, none⟩) ln ln :: c10 :: .slice ap x.K cp :: .int .i64 ((lo + x.upto x.K : Nat) : Int) :: c13 :: c14 :: c15 :: c16 :: c17 :: c18 :: c19 :: c20 :: c21 :: c22 :: c23 :: c24 :: c25 :: c26 :: c27 :: c28 :: c29 :: c30 :: c31 :: c32 :: c33 :: c34 :: c35 :: c36 :: c37 :: c38 :: c39 :: c40 :: c41 :: c42 :: c43 :: c44 :: c45 :: c46 :: c47 :: c48 :: c49 :: c50 :: c51 :: c52 :: c53 :: c54 :: c55 :: c56 :: c57 :: c58 :: c59 :: c60 :: c61 :: c62 :: c63 :: c64 :: c65 :: c66 :: c67 :: c68 :: c69 :: c70 :: c71 :: c72 :: c73 :: c74 :: c75 :: c76 :: c77 :: c78 :: c79 :: c80 :: c81 :: c82 :: c83 :: c84 :: c85 :: c86 :: c87 :: c88 :: c89 :: c90 :: c91 :: c92 :: c93 :: c94 :: c95 :: c96 :: c97 :: c98 :: c99 :: c100 :: c101 :: c102 :: c103 :: c104 :: c105 :: c106 :: c107 :: c108 :: c109 :: c110 :: c111 :: c112 :: c113 :: c114 :: c115 :: c116 :: c117 :: c118 :: c119 :: c120 :: c121 :: c122 :: c123 :: c124 :: c125 :: c126 :: c127 :: c128 :: c129 :: c130 :: c131 :: c132 :: c133 :: c134 :: c135 :: c136 :: c137 :: c138 :: c139 :: c140 :: c141 :: c142 :: c143 :: c144 :: c145 :: c146 :: c147 :: c148 :: c149 :: c150 :: c151 :: c152 :: c153 :: c154 :: c155 :: c156 :: c157 :: c158 :: c159 :: c160 :: c161 :: c162 :: c163 :: c164 :: c165 :: c166 :: c167 :: c168 :: c169 :: c170 :: c171 :: c172 :: c173 :: c174 :: c175 :: c176 :: c177 :: c178 :: c179 :: c180 :: c181 :: c182 :: c183 :: c184 :: c185 :: c186 :: c187 :: c188 :: c189 :: c190 :: c191 :: c192 :: c193 :: c194 :: c195 :: c196 :: c197 :: c198 :: c199 :: c200 :: c201 :: c202 :: c203 :: c204 :: c205 :: c206 :: c207 :: c208 :: c209 :: c210 :: c211 :: c212 :: c213 :: c214 :: c215 :: c216 :: c217 :: c218 :: c219 :: c220 :: c221 :: c222 :: c223 :: c224 :: c225 :: c226 :: c227 :: c228 :: c229 :: c230 :: c231 :: c232 :: c233 :: c234 :: c235 :: c236 :: c237 :: c238 :: []), []⟩ wc := by
  conv at h0 => ext a w'; arg 1; arg 2; whnf
  conv at h1 => ext a w'; arg 1; arg 2; whnf
  have hln1 : 42 + sn + zn ≤ ln := by have := HLNE.out; omega
  have hln2 : ln ≤ 2000 := by have := HLNE.out; omega
  have hup := hmay.out.fits
  have hKs := hmay.out.things
  have hK60 : x.K ≤ 60 := hKs
  have hP : ∀ j, j < x.K → x.env.pl j + (1 + (x.th j).2.length) ≤ lo + zn := by
    intro j hj
    have e := pl_eq x j
    have u1 := Wd.upto_succ (x := x) (j := j) hj
    have u2 := Wd.upto_mono (x := x) (i := j + 1) (j := x.K) (by omega) (Nat.le_refl _)
    have := HLO.out
    have := HZN.out
    omega
  have hloln : lo + zn ≤ ln := by
    have h1 := (Wd.env_ok hmay.out).top
    have h2 : x.env.len = 42 + x.s + 2 * x.sz := rfl
    have h3 : x.s = sn := HSN.out
    have h4 : x.env.hi = x.env.lo + x.sz := rfl
    have h5 := HLO.out
    have h6 := HZN.out
    have h7 := h1.1
    have h8 := HLNE.out
    omega
  have HP : Hid (∀ j, j < x.K → x.env.pl j ≤ 1048576) := fun j hj => by have := hP j hj; omega
  have HFIT : Hid (∀ i, i < x.K → x.env.pl i + (1 + (x.th i).2.length) ≤ ln) := fun j hj => by have := hP j hj; omega
  have hup2 : x.upto x.K ≤ 500 := by have := HZN.out; omega
  obtain ⟨at9, hat9⟩ : ∃ n : Nat, n = lo + x.upto x.K := ⟨_, rfl⟩
  rw [← hat9]
  have hat9b : at9 ≤ 1200 := by omega
  clear hP hup hat9 hup2
  conv => arg 2; whnf
  go_wp2_with fail
  refine made_loop3 x w wc C bm ln zn lo ot cp ct ap at_ (fun _ => 0) m0 hKs HP (by omega) hm0 HFIT HC.out.1 HTH HM0 c0 c2 c4 c10 (.int .i64 (at9 : Nat)) c13 c15 c16 c17 c18 c19 c20 c21 c22 c23 c24 c25 c26 c27 c28 c29 c30 c31 c32 c33 c34 c35 c36 c37 c38 c39 c40 c41 c42 c43 c44 c45 c46 c47 c48 c49 c50 c51 c52 c53 c54 c55 c56 c57 c58 c59 c60 c61 c62 c63 c64 c65 c66 c67 c68 c69 c70 c71 c72 c73 c74 c75 c76 c77 c78 c79 c80 c81 c82 c83 c84 c85 c86 c87 c88 c89 c90 c91 c92 c93 c94 c95 c96 c97 c98 c99 c100 c101 c102 c103 c104 c105 c106 c107 c108 c109 c110 c111 c112 c113 c114 c115 c116 c117 c118 c119 c120 c121 c122 c123 c124 c125 c126 c127 c128 c129 c130 c131 c132 c133 c134 c135 c136 c137 c138 c139 c140 c141 c142 c143 c144 c145 c146 c147 c148 c149 c150 c151 c152 c153 c154 c155 c156 c157 c158 c159 c160 c161 c162 c163 c164 c165 c166 c167 c168 c169 c170 c171 c172 c173 c174 c175 c176 c177 c178 c179 c180 c181 c182 c183 c184 c185 c186 c187 c188 c189 c190 c191 c192 c193 c194 c195 c196 c197 c198 c199 c200 c201 c202 c203 c204 c205 c206 c207 c208 c209 c210 c211 c212 c213 c214 c215 c216 c217 c218 c219 c220 c221 c222 c223 c224 c225 c226 c227 c228 c229 c230 c231 c232 c233 c234 c235 c236 c237 c238 _ _ ?_
  intro u14 u15 u16 u115 u116 u117 u118 u119 u120 u121 u122 u123 u124 u125 u126 u127 u128 u129 u130 u131 u132 u133 u134 u135 u136 u137 u138 u139 u140 u141 u142 u143 u144 u145 u146 u147 u148 u149 u150 u151 u152 u153 u154 u155 u156 u157 u158 u159 u160 u161 u162 u163 u164 u165 w3 m3 hm3 HL3 HM3
  go_wp2_with fail
  have HBI0 : Hid (∀ (R : Nat → Int) (m : List Int) (wy : World), Mst x w C bm ap cp R m wy → BitsOk x ap cp wy) := fun R m wy h => h.bits (by omega) HP.out
  have H27 : Hid (x.roots.length = 27) := hmay.out.roots
  clear HM0 HFIT HTH
  go_loopg [17] 25 (fun g s17 wx => ∃ (i : Nat) (R : Nat → Int), i ≤ 25 ∧ g = 25 - i ∧ s17 = .int .i64 (i : Nat) ∧ Hid (RegTo x i R) ∧ Hid (Mst x w C bm ap cp R m3 wx))
  case atStart => exact ⟨0, fun _ => 0, by omega, rfl, rfl, ⟨fun c w hc => absurd hc (Nat.not_lt_zero _), rfl, fun _ => inr_small (by decide) (by decide)⟩, HM3⟩
  case round =>
    obtain ⟨i, R, hi, rfl, rfl, HR, HM⟩ := hrel
    by_cases hlt : i < 25
    · obtain ⟨p, hp⟩ : ∃ p, x.roots[i]? = some p := ⟨_, List.getElem?_eq_getElem (by have := H27.out; omega)⟩
      obtain ⟨k1, k2⟩ := HC.out.2.2.2 i p hp
      have c1 : wr.cell? ⟨w.heap.size, 2 + i * 2, none⟩ = some (.int .i64 p.1) := HM.out.cellC (by rw [show 2 + i * 2 = 2 + 2 * i by omega]; exact k1)
      have c2 : wr.cell? ⟨w.heap.size, 2 + i * 2 + 1, none⟩ = some (.int .i64 p.2) := HM.out.cellC (by rw [show 2 + i * 2 + 1 = 2 + 2 * i + 1 by omega]; exact k2)
      have HRT := Lib.hid (root_at H27.out hp)
      have HIN := Lib.hid (enc_inr HP.out p)
      have HB := Lib.hid (HBI0.out _ _ _ HM.out p.1 p.2)
      obtain ⟨ev, hev⟩ : ∃ z, enc x.env.pl (x.cv p) = z := ⟨_, rfl⟩
      have hev2 : enc x.env.pl (conv x.K p.1 p.2) = ev := hev
      rw [hev2] at HB
      rw [hev] at HIN
      have HEV := Lib.hid hev
      obtain ⟨p1, hp1⟩ : ∃ z, p.1 = z := ⟨_, rfl⟩
      obtain ⟨p2, hp2⟩ : ∃ z, p.2 = z := ⟨_, rfl⟩
      rw [hp1] at c1 HB
      rw [hp2] at c2 HB
      clear hev hev2 hp1 hp2 k1 k2 hp
      obtain ⟨j, hj⟩ : ∃ j : Nat, j = i + 1 := ⟨_, rfl⟩
      have g1 : (i : Int) < 25 := by omega
      have g2 : (i : Int) < 27 := by omega
      have g0 : (0 : Int) ≤ (i : Int) := by omega
      have g3 : (j : Int) < 32 := by omega
      have g4 : (0 : Int) ≤ (j : Int) := by omega
      have g5 : IntKind.i64.wrap ((i : Int) + 1) = (j : Int) := by rw [IntKind.wrap_i64]; omega
      have HJ := Lib.hid hj
      clear hj
      go_wp2_with (first
        | (go_at_call 12; (with_reducible refine (HB.out _ (Below.refl _ _)).mono ?_); rintro e w5 ⟨rfl, hb5⟩; have HM5 := Lib.hid (HM.out.below hb5); obtain ⟨cu, fu⟩ := HM5.out.regCell (c := j) (by omega); have HM6 := Lib.hid (HM5.out.setReg (c := j) (by omega) ev); clear hb5)
        | fail)
      go_roundg (25 - j)
      case measure => have := HJ.out; omega
      case rel =>
        refine ⟨j, upd R j ev, by have := HJ.out; omega, rfl, by go_num, ?_, HM6⟩
        have h := HR.out.next HRT.out (by rw [HEV.out]; exact HIN.out)
        rw [HEV.out] at h
        rw [HJ.out]
        exact h
    · obtain rfl : i = 25 := by omega
      obtain ⟨p, hp⟩ : ∃ p, x.roots[25]? = some p := ⟨_, List.getElem?_eq_getElem (by have := H27.out; omega)⟩
      obtain ⟨q, hq⟩ : ∃ q, x.roots[26]? = some q := ⟨_, List.getElem?_eq_getElem (by have := H27.out; omega)⟩
      obtain ⟨k1, k2⟩ := HC.out.2.2.2 25 p hp
      obtain ⟨k3, k4⟩ := HC.out.2.2.2 26 q hq
      have HRP := Lib.hid (root_at H27.out hp)
      have HRQ := Lib.hid (root_at H27.out hq)
      have HIP := Lib.hid (enc_inr HP.out p)
      have HIQ := Lib.hid (enc_inr HP.out q)
      obtain ⟨evp, hevp⟩ : ∃ z, enc x.env.pl (x.cv p) = z := ⟨_, rfl⟩
      obtain ⟨evq, hevq⟩ : ∃ z, enc x.env.pl (x.cv q) = z := ⟨_, rfl⟩
      have HBP : Hid (∀ (m : List Int) (wy : World), Mst x w C bm ap cp R m wy → Calls Try.prog 12 #[.agg #[.int .i64 p.1, .int .i64 p.2], .slice ap x.K cp] wy fun e w' => e = .returned (.int .i64 evp) ∧ Below wy.heap.size wy w') := fun m wy h => by rw [← hevp]; exact HBI0.out R m wy h p.1 p.2 wy (Below.refl _ _)
      have HBQ : Hid (∀ (m : List Int) (wy : World), Mst x w C bm ap cp R m wy → Calls Try.prog 12 #[.agg #[.int .i64 q.1, .int .i64 q.2], .slice ap x.K cp] wy fun e w' => e = .returned (.int .i64 evq) ∧ Below wy.heap.size wy w') := fun m wy h => by rw [← hevq]; exact HBI0.out R m wy h q.1 q.2 wy (Below.refl _ _)
      rw [hevp] at HIP
      rw [hevq] at HIQ
      have HEP := Lib.hid hevp
      have HEQ := Lib.hid hevq
      have k1h := Lib.hid k1
      have k2h := Lib.hid k2
      have k3h := Lib.hid k3
      have k4h := Lib.hid k4
      obtain ⟨p1, hp1⟩ : ∃ z, p.1 = z := ⟨_, rfl⟩
      obtain ⟨p2, hp2⟩ : ∃ z, p.2 = z := ⟨_, rfl⟩
      obtain ⟨q1, hq1⟩ : ∃ z, q.1 = z := ⟨_, rfl⟩
      obtain ⟨q2, hq2⟩ : ∃ z, q.2 = z := ⟨_, rfl⟩
      rw [hp1] at k1h HBP
      rw [hp2] at k2h HBP
      rw [hq1] at k3h HBQ
      rw [hq2] at k4h HBQ
      clear hp1 hp2 hq1 hq2 hp hq hevp hevq k1 k2 k3 k4
      have c1 : wr.cell? ⟨w.heap.size, 52, none⟩ = some (.int .i64 p1) := HM.out.cellC k1h.out
      have c2 : wr.cell? ⟨w.heap.size, 53, none⟩ = some (.int .i64 p2) := HM.out.cellC k2h.out
      have g25 : (25 : Int) < (ln : Int) := by omega
      have g26 : (26 : Int) < (ln : Int) := by omega
      have hl3 := hm3.len
      go_upto_region 37 with (first
        | (go_at_call 12; (with_reducible refine (HBP.out _ _ HM.out).mono ?_); rintro e w5 ⟨rfl, hb5⟩; have HM5 := Lib.hid (HM.out.below hb5); obtain ⟨cu, fu⟩ := HM5.out.memCell (p := 25) (by omega); have HM6 := Lib.hid (HM5.out.setMem (p := 25) (by omega) evp); clear hb5)
        | fail)
      clear cu fu c1 c2
      generalize w5.setCell ⟨bm, 25, none⟩ (.int .i64 evp) = w6 at HM6 ⊢
      have c3 : w6.cell? ⟨w.heap.size, 54, none⟩ = some (.int .i64 q1) := HM6.out.cellC k3h.out
      have c4 : w6.cell? ⟨w.heap.size, 55, none⟩ = some (.int .i64 q2) := HM6.out.cellC k4h.out
      have hl4 : (m3.set 25 evp).length = ln := by rw [List.length_set]; exact hl3
      go_upto_region 38 with (first
        | (go_at_call 12; (with_reducible refine (HBQ.out _ _ HM6.out).mono ?_); rintro e w7 ⟨rfl, hb7⟩; have HM7 := Lib.hid (HM6.out.below hb7); obtain ⟨cu, fu⟩ := HM7.out.memCell (p := 26) (by omega); have HM8 := Lib.hid (HM7.out.setMem (p := 26) (by omega) evq); clear hb7)
        | fail)
      clear cu fu c3 c4
      generalize w7.setCell ⟨bm, 26, none⟩ (.int .i64 evq) = w8 at HM8 ⊢
      have HS0 : Hid (StkTo x 0 ((m3.set 25 evp).set 26 evq)) := by
        have h := StkTo.first HL3.out (by omega) HRP.out HRQ.out
        rw [HEP.out, HEQ.out] at h
        exact h
      have hf8 : Fit ((m3.set 25 evp).set 26 evq) ln := (hm3.set 25 HIP.out).set 26 HIQ.out
      have HF8 := Lib.hid hf8
      generalize (m3.set 25 evp).set 26 evq = m8 at HM8 HS0 HF8
      clear hf8 hl4 hl3 hm3 HL3 HRP HRQ HIP HIQ HEP HEQ HM5 HM6 HM7 HBP HBQ k1h k2h k3h k4h
      go_wp2_with fail
      go_loopg [18] sn (fun g s18 wx => ∃ (k : Nat) (m : List Int), k ≤ sn ∧ g = sn - k ∧ s18 = .int .i64 (k : Nat) ∧ Fit m ln ∧ Hid (StkTo x k m) ∧ Hid (Mst x w C bm ap cp R m wx))
      case atStart => exact ⟨0, m8, by omega, rfl, rfl, HF8.out, HS0, HM8⟩
      case round =>
        obtain ⟨k, m, hk, rfl, rfl, hml, HS, HN⟩ := hrel
        have e56 := HN.out.cellC HC.out.2.1
        by_cases hlt : k < sn
        · obtain ⟨p, hp⟩ : ∃ p, x.stack[k]? = some p := ⟨_, List.getElem?_eq_getElem (by have := HSN.out; omega)⟩
          rcases HSO.out with h0 | ⟨b, off, rfl, hb, hc⟩
          · rw [h0] at hp; simp at hp
          obtain ⟨d1, d2⟩ := hc k p hp
          have c1 : wr.cell? ⟨b, off + k * 2, none⟩ = some (.int .i64 p.1) := (HN.out.old.cell (p := ⟨b, off + k * 2, none⟩) hb).trans d1
          have c2 : wr.cell? ⟨b, off + k * 2 + 1, none⟩ = some (.int .i64 p.2) := (HN.out.old.cell (p := ⟨b, off + k * 2 + 1, none⟩) hb).trans d2
          have HRT := Lib.hid (stk_at H27.out hp)
          have HIN := Lib.hid (enc_inr HP.out p)
          have HB := Lib.hid (HBI0.out _ _ _ HN.out p.1 p.2)
          obtain ⟨ev, hev⟩ : ∃ z, enc x.env.pl (x.cv p) = z := ⟨_, rfl⟩
          have hev2 : enc x.env.pl (conv x.K p.1 p.2) = ev := hev
          rw [hev2] at HB
          rw [hev] at HIN
          have HEV := Lib.hid hev
          obtain ⟨p1, hp1⟩ : ∃ z, p.1 = z := ⟨_, rfl⟩
          obtain ⟨p2, hp2⟩ : ∃ z, p.2 = z := ⟨_, rfl⟩
          rw [hp1] at c1 HB
          rw [hp2] at c2 HB
          clear hev hev2 hp1 hp2 d1 d2 hp hc hb
          obtain ⟨j, hj⟩ : ∃ j : Nat, j = 32 + k := ⟨_, rfl⟩
          have g1 : (k : Int) < (sn : Int) := by omega
          have g0 : (0 : Int) ≤ (k : Int) := by omega
          have g3 : (j : Int) < (ln : Int) := by omega
          have g4 : (0 : Int) ≤ (j : Int) := by omega
          have g5 : IntKind.i64.wrap (32 + (k : Int)) = (j : Int) := by rw [IntKind.wrap_i64]; omega
          have g6 : IntKind.i64.wrap ((k : Int) + 1) = (k : Int) + 1 := by rw [IntKind.wrap_i64]; omega
          have hjm : j < m.length := by rw [hml.len]; omega
          have HJ := Lib.hid hj
          clear hj
          go_wp2_with (first
            | (go_at_call 12; (with_reducible refine (HB.out _ (Below.refl _ _)).mono ?_); rintro e w9 ⟨rfl, hb9⟩; have HM9 := Lib.hid (HN.out.below hb9); obtain ⟨cu, fu⟩ := HM9.out.memCell (p := j) hjm; have HM10 := Lib.hid (HM9.out.setMem (p := j) hjm ev); clear hb9)
            | fail)
          go_roundg (sn - (k + 1))
          case measure => omega
          case rel =>
            refine ⟨k + 1, m.set j ev, by omega, rfl, by go_num, hml.set j HIN.out, ?_, HM10⟩
            have h := HS.out.next (by have : x.s = sn := HSN.out; omega) (by rw [← HJ.out]; exact hjm) HRT.out
            rw [HEV.out, ← HJ.out] at h
            exact h
        · have hke : k = sn := by omega
          have g1 : ¬ ((k : Nat) : Int) < (sn : Nat) := by omega
          have hml2 := hml.len
          have HML := Lib.hid hml
          have HKE := Lib.hid hke
          clear hke hml hk
          obtain ⟨lz, hlz⟩ : ∃ n : Nat, n = lo + zn := ⟨_, rfl⟩
          obtain ⟨oz, hoz⟩ : ∃ n : Nat, n = ot + zn := ⟨_, rfl⟩
          obtain ⟨s32, hs32⟩ : ∃ n : Nat, n = 32 + sn := ⟨_, rfl⟩
          have y1 : IntKind.i64.wrap ((lo : Int) + (zn : Int)) = (lz : Int) := by rw [IntKind.wrap_i64]; omega
          have y2 : IntKind.i64.wrap ((ot : Int) + (zn : Int)) = (oz : Int) := by rw [IntKind.wrap_i64]; omega
          have y3 : IntKind.i64.wrap (32 + (sn : Int)) = (s32 : Int) := by rw [IntKind.wrap_i64]; omega
          have HLZ := Lib.hid hlz
          have HOZ := Lib.hid hoz
          have HS32 := Lib.hid hs32
          have hlzb : lz ≤ 2000 := by omega
          have hozb : oz ≤ 2000 := by omega
          have hsb : s32 ≤ 100 := by omega
          clear hlz hoz hs32
          have y28 : (28 : Int) < (ln : Int) := by omega
          have y29 : (29 : Int) < (ln : Int) := by omega
          have y30 : (30 : Int) < (ln : Int) := by omega
          have y31 : (31 : Int) < (ln : Int) := by omega
          go_upto_region 42 with fail
          clear e56
          obtain ⟨cu, fu⟩ := HN.out.memCell (p := 28) (by first | omega | (simp only [List.length_set]; omega))
          have HT42 := Lib.hid (HN.out.setMem (p := 28) (by first | omega | (simp only [List.length_set]; omega)) ((lo : Int)))
          go_upto_region 43 with fail
          clear cu fu HN
          generalize wr.setCell ⟨bm, 28, none⟩ (.int .i64 (lo : Int)) = w42 at HT42 ⊢
          obtain ⟨cu, fu⟩ := HT42.out.memCell (p := 29) (by first | omega | (simp only [List.length_set]; omega))
          have HT43 := Lib.hid (HT42.out.setMem (p := 29) (by first | omega | (simp only [List.length_set]; omega)) ((lz : Int)))
          go_upto_region 44 with fail
          clear cu fu HT42
          generalize w42.setCell ⟨bm, 29, none⟩ (.int .i64 (lz : Int)) = w43 at HT43 ⊢
          obtain ⟨cu, fu⟩ := HT43.out.memCell (p := 30) (by first | omega | (simp only [List.length_set]; omega))
          have HT44 := Lib.hid (HT43.out.setMem (p := 30) (by first | omega | (simp only [List.length_set]; omega)) ((ot : Int)))
          go_upto_region 45 with fail
          clear cu fu HT43
          generalize w43.setCell ⟨bm, 30, none⟩ (.int .i64 (ot : Int)) = w44 at HT44 ⊢
          obtain ⟨cu, fu⟩ := HT44.out.memCell (p := 31) (by first | omega | (simp only [List.length_set]; omega))
          have HT45 := Lib.hid (HT44.out.setMem (p := 31) (by first | omega | (simp only [List.length_set]; omega)) ((oz : Int)))
          go_upto_region 46 with fail
          clear cu fu HT44
          generalize w44.setCell ⟨bm, 31, none⟩ (.int .i64 (oz : Int)) = w45 at HT45 ⊢
          have e57 := HT45.out.cellC HC.out.2.2.1
          obtain ⟨cu, fu⟩ := HT45.out.regCell (c := 26) (by omega)
          have HT46 := Lib.hid (HT45.out.setReg (c := 26) (by omega) (x.wanted))
          go_upto_region 47 with fail
          clear cu fu HT45 e57
          generalize w45.setCell ⟨w.heap.size + 2, 26, none⟩ (.int .i64 x.wanted) = w46 at HT46 ⊢
          obtain ⟨cu, fu⟩ := HT46.out.regCell (c := 29) (by omega)
          have HT47 := Lib.hid (HT46.out.setReg (c := 29) (by omega) ((at9 : Int)))
          go_upto_region 48 with fail
          clear cu fu HT46
          generalize w46.setCell ⟨w.heap.size + 2, 29, none⟩ (.int .i64 (at9 : Int)) = w47 at HT47 ⊢
          have e56 := HT47.out.cellC HC.out.2.1
          obtain ⟨cu, fu⟩ := HT47.out.regCell (c := 30) (by omega)
          have HT48 := Lib.hid (HT47.out.setReg (c := 30) (by omega) ((s32 : Int)))
          go_upto_region 49 with fail
          clear cu fu HT47 e56
          generalize w47.setCell ⟨w.heap.size + 2, 30, none⟩ (.int .i64 (s32 : Int)) = w48 at HT48 ⊢
          go_wp2_with fail
          have HBEF : Hid (x.env.Bef (upd (upd (upd R 26 x.wanted) 29 (at9 : Int)) 30 (s32 : Int)) ((((m.set 28 (lo : Int)).set 29 (lz : Int)).set 30 (ot : Int)).set 31 (oz : Int))) := by
            have hs : x.s = sn := HSN.out
            have hS : StkTo x x.s m := by rw [hs, ← HKE.out]; exact HS.out
            have hw := hmay.out.wanted
            have hR : RegTo x 25 (upd (upd (upd R 26 x.wanted) 29 (at9 : Int)) 30 (s32 : Int)) := ((HR.out.other (a := 26) (by omega) (inr_small (by omega) (by omega))).other (a := 29) (by omega) (inr_small (by omega) (by omega))).other (a := 30) (by omega) (inr_small (by omega) (by omega))
            have h := bef_of H27.out (m := m) (R := (upd (upd (upd R 26 x.wanted) 29 (at9 : Int)) 30 (s32 : Int))) (by show m.length = 42 + x.s + 2 * x.sz; rw [hs, HZN.out, HML.out.len]; exact HLNE.out) hS hR (by rw [upd_same, hs, HS32.out])
            rw [← HLO.out, ← HOT.out, HZN.out, ← HLZ.out, ← HOZ.out] at h
            exact h
          have HINR : Hid (∀ i, InR ((upd (upd (upd R 26 x.wanted) 29 (at9 : Int)) 30 (s32 : Int)) i)) := by
            have hw := hmay.out.wanted
            exact (((HR.out.other (a := 26) (by omega) (inr_small (by omega) (by omega))).other (a := 29) (by omega) (inr_small (by omega) (by omega))).other (a := 30) (by omega) (inr_small (by omega) (by omega))).inr
          have HW26 : Hid ((upd (upd (upd R 26 x.wanted) 29 (at9 : Int)) 30 (s32 : Int)) 26 = x.wanted) := by
            unfold Hid; rw [upd_ne _ _ _ (by decide), upd_ne _ _ _ (by decide), upd_same]
          have HFF : Hid (Fit ((((m.set 28 (lo : Int)).set 29 (lz : Int)).set 30 (ot : Int)).set 31 (oz : Int)) ln) := (((HML.out.set 28 (inr_small (by omega) (by omega))).set 29 (inr_small (by omega) (by omega))).set 30 (inr_small (by omega) (by omega))).set 31 (inr_small (by omega) (by omega))
          generalize (upd (upd (upd R 26 x.wanted) 29 (at9 : Int)) 30 (s32 : Int)) = Rf at HT48 HBEF HINR HW26
          generalize ((((m.set 28 (lo : Int)).set 29 (lz : Int)).set 30 (ot : Int)).set 31 (oz : Int)) = mf at HT48 HBEF HFF
          clear HS HR y1 y2 y3 y28 y29 y30 y31 g1
          have hu30 := Try.underlying30
          have hi30 : (Try.prog.info? 30).map (·.size) = some (regsV Rf).length := regsV_size _
          have h130 := regs_one Rf
          have hS0 : w48.rangeAt (w.heap.size + 2) 0 (regsV Rf) := regs_rangeAt HT48.out.reg
          have hS1 : w48.there (w.heap.size + 1) 0 (regsV Rf).length := fun j hj => ⟨by rw [cell_of_row _ _ _ _ _ _ HT48.out.res]; simp [zeroR, regsV] at hj ⊢; omega, frozen_of_row _ _ _ _ _ HT48.out.res⟩
          have hne : w.heap.size + 2 ≠ w.heap.size + 1 := by omega
          have hD0 : w48.drew.rangeAt (w.heap.size + 2) 0 (regsV Rf) := hS0
          have hD1 : w48.drew.there (w.heap.size + 1) 0 (regsV Rf).length := (World.there_drew _ _ _ _).2 hS1
          have hE0 : (w48.drew.setCells (w.heap.size + 1) 0 (regsV Rf)).rangeAt (w.heap.size + 2) 0 (regsV Rf) := World.rangeAt_setCells_apart hD0 _ _ _ (.inl hne)
          have hE1 : (w48.drew.setCells (w.heap.size + 1) 0 (regsV Rf)).there (w.heap.size + 1) 0 (regsV Rf).length := World.there_setCells hD1 _ _ _
          have HSL : Hid (Sl (w48.drew.setCells (w.heap.size + 1) 0 (regsV Rf)) (.slice (some ⟨bm, 0, none⟩) mf.length mf.length) (i64s mf)) := by
            have h := Sg.sl_row HT48.out.mem
            obtain ⟨a, cap, hv, h1 | ⟨ad, h1, h2⟩⟩ := h
            · exact ⟨a, cap, hv, .inl h1⟩
            · refine ⟨a, cap, hv, .inr ⟨ad, h1, fun j u hu => ?_⟩⟩
              have h4 := h2 j u hu
              have hblk : (w48.drew.setCells (w.heap.size + 1) 0 (regsV Rf)).heap[bm]? = w48.heap[bm]? := setCells_other (by have := HT48.out.bml; omega) _ _ _
              have had : (Addr.add ad j).block = bm := by
                have : ad = ⟨bm, 0, none⟩ := by
                  have := (Value.slice.inj hv).1
                  rw [h1] at this
                  exact (Option.some.inj this).symm
                rw [this]; unfold Addr.add; split <;> rfl
              rw [World.cell?_of_block (w := w48) (by rw [had]; exact hblk)]
              exact h4
          have HOLD := Lib.hid HT48.out.old
          clear HT48 HC HSO HBI0
          revert hi30 h130 hS0 hS1 hD0 hD1 hE0 hE1 HSL
          generalize hZ0 : regsV Rf = Z0
          have HZ0 := Lib.hid hZ0
          clear hZ0
          intro hi30 h130 hS0 hS1 hD0 hD1 hE0 hE1 HSL
          generalize hbg : w.heap.size + 2 = bg at *
          generalize hbr : w.heap.size + 1 = br at *
          go_region_held3 (fun w' => w'.rangeAt bg 0 Z0 ∧ w'.there br 0 Z0.length) (first | exact ⟨hS0, hS1⟩ | exact ⟨hD0, hD1⟩ | exact ⟨hE0, hE1⟩ | fail) (fail)
          all_goals
            have hEW : Below w.heap.size w (w48.drew.setCells br 0 Z0) := below_setCells _ _ _ HOLD.out.drew (by omega)
            have hER : (w48.drew.setCells br 0 Z0).rangeAt br 0 Z0 := World.rangeAt_setCells_same _ _ _ _ hD1
            go_wp2_with fail
            refine bodyPost_ret (res3 rfl _ _ br Z0 _ rfl hER hu30 rfl hi30) rfl ?_
            refine ⟨hEW, .inl ⟨hmay.out, some ⟨bm, 0, none⟩, ln, Rf, mf, ?_, ?_, HBEF.out, HW26.out, HINR.out, HFF.out.inr⟩⟩
            · rw [HZ0.out, HFF.out.len]; rfl
            · have h := HSL.out
              rw [HFF.out.len] at h ⊢
              exact h
end Gc
end Go.Proofs.Ytaldcgfhlflcpaa
namespace Go.Proofs.Ytaldcgfhlflcpaa
open Go.RowKit
set_option linter.unusedVariables false
set_option linter.unusedSimpArgs false
set_option maxRecDepth 100000
namespace Gc
open As Sg
def RanPost (x : Wd) (t : Nat) (w : World) (e : Ending) (w' : World) : Prop :=
  ∃ R mem m s a c, x.env.Bef R mem ∧ R 26 = x.wanted ∧ (∀ i, Rs.InR (R i)) ∧ Rs.runI (As.code (allL R t)) mem (mem.length : Int) [] 200000 = (m, s) ∧ e = .returned (.tuple #[.agg (Rs.halt s m (.slice a m.mem.length c)).toArray, .bool true]) ∧ Sl w' (.slice a m.mem.length c) (i64s m.mem) ∧ m.regs.length = 32 ∧ Below w.heap.size w w' ∧ ∀ b o s, a = some ⟨b, o, s⟩ → w.heap.size ≤ b
theorem worldSize (cs : List Value) (h : cs.length = 59) : (Try.prog.info? 28).map (·.size) = some cs.length := by rw [h]; kernel_rfl
theorem row_rangeAt {w : World} {k : Nat} {cs : List Value} {t : TypeId} (h : w.heap[k]? = some (.cells cs.toArray t (0, 0))) : w.rangeAt k 0 cs := by
  intro j v hj
  rw [cell_of_row _ _ _ _ _ _ h]
  simpa using hj
set_option maxHeartbeats 16000000 in
theorem ran_any (x : Wd) (C : List Value) (hC : C.length = 59) (hmay : x.May) (t : Nat) (h1 : 1 ≤ t) (h3 : t ≤ 3) (v2 : Value) (w : World) (HMD : Hid (∀ W, Below w.heap.size w W → Calls Try.prog 5 #[.agg C.toArray] W (MadePost x W))) (hg : Sg.ISrc w v2 Sg.gcL) :
    Calls Try.prog 8 #[.agg C.toArray, .int .i64 (t : Nat), v2] w (RanPost x t w) := by
  obtain ⟨i0, hi, hz0, hz1, hz2⟩ := info_parts infoItem
  have HI := Lib.hid hi
  have HZ0 := Lib.hid hz0
  have HZ1 := Lib.hid hz1
  have HZ2 := Lib.hid hz2
  have HG := Lib.hid hg
  have HMAY := Lib.hid hmay
  have HCS := Lib.hid (worldSize C hC)
  clear hi hz0 hz1 hz2 hg hmay hC
  go_enter Try.func8, Try.ntmps8
  go_upto_region 1 with fail
  have HB0 := Lib.hid (((Below.refl w.heap.size w).alloc (Nat.le_refl _) (.cells C.toArray 28)).alloc (by simp) (.cells halt0 36))
  have HBX := Lib.hid ((heap_alloc_old (w.alloc (.cells C.toArray 28)) (.cells halt0 36) (by simp)).trans (heap_alloc_new w (.cells C.toArray 28)))
  have HA := Lib.hid (heap_alloc_new (w.alloc (.cells C.toArray 28)) (.cells halt0 36))
  have HS : Hid (((w.alloc (.cells C.toArray 28)).alloc (.cells halt0 36)).heap.size = w.heap.size + 2) := by unfold Hid; simp
  rw [show (w.alloc (.cells C.toArray 28)).heap.size = w.heap.size + 1 by simp] at HA
  have hz0 : Hid (halt0.size = 38) := rfl
  unfold halt0 at HA HB0 HS HBX hz0
  revert HA HB0 HS HBX hz0
  generalize hHH : (#[.int .i64 0, .int .i64 0, .string ⟨#[]⟩, .int .i64 0, .int .i64 0, .int .i64 0, .int .i64 0, .int .i64 0, .int .i64 0, .int .i64 0, .int .i64 0, .int .i64 0, .int .i64 0, .int .i64 0, .int .i64 0, .int .i64 0, .int .i64 0, .int .i64 0, .int .i64 0, .int .i64 0, .int .i64 0, .int .i64 0, .int .i64 0, .int .i64 0, .int .i64 0, .int .i64 0, .int .i64 0, .int .i64 0, .int .i64 0, .int .i64 0, .int .i64 0, .int .i64 0, .int .i64 0, .int .i64 0, .int .i64 0, .int .i64 0, .int .i64 0, .slice none 0 0] : Array Value) = H0
  intro HB0 HBX HA HS hz0
  clear hHH
  generalize (w.alloc (.cells C.toArray 28)).alloc (.cells H0 36) = W at HB0 HA HS HBX ⊢
  have RX := Lib.hid (row_rangeAt HBX.out)
  have hCS := HCS.out
  go_upto_region 2 with (first
    | (refine wpList_load_r 28 (.tmp 3) rfl rfl w.heap.size 0 rfl C _ RX.out Try.underlying28 rfl hCS ?_)
    | (go_at_call 5; (with_reducible refine (HMD.out _ HB0.out).mono ?_); rintro e w1 ⟨hb1, ⟨-, am, cm, R, mem, rfl, hsl, hbef, h26, hinr, hmr⟩ | ⟨hno, -⟩⟩; rotate_left; (exact absurd HMAY.out hno); have HB1 := Lib.hid hb1; have HSL := Lib.hid hsl; have HBEF := Lib.hid hbef; have HW26 := Lib.hid h26; have HINR := Lib.hid hinr; have HMR := Lib.hid hmr; clear hb1 hsl hbef h26 hinr hmr)
    | (refine wpList_store_r rfl 30 (.tmp 9) (.tmp 19) rfl w1.heap.size 30 #[.int .i64 0, .int .i64 0, .int .i64 0, .int .i64 0, .int .i64 0, .int .i64 0, .int .i64 0, .int .i64 0, .int .i64 0, .int .i64 0, .int .i64 0, .int .i64 0, .int .i64 0, .int .i64 0, .int .i64 0, .int .i64 0, .int .i64 0, .int .i64 0, .int .i64 0, .int .i64 0, .int .i64 0, .int .i64 0, .int .i64 0, .int .i64 0, .int .i64 0, .int .i64 0, .int .i64 0, .int .i64 0, .int .i64 0, .int .i64 0, .int .i64 0, .int .i64 0] (regsV R) rfl rfl (heap_alloc_new w1 _) (by simp [regsV]) (regsV_size _) (regs_one R) ?_; intro w2 hw2; have HW2 := Lib.hid hw2; clear hw2)
    | fail)
  have hrs : w1.heap.size < w2.heap.size := by rw [HW2.out]; simp [World.setRow]
  have HB2 : Hid (Below w1.heap.size w1 w2) := by unfold Hid; rw [HW2.out]; exact below_setRow ((Below.refl w1.heap.size w1).alloc (Nat.le_refl _) _) (Nat.le_refl _) _
  have HG2 : Hid (w2.heap[w1.heap.size]? = some (.cells (regsV R).toArray 30 (0, 0))) := by unfold Hid; rw [HW2.out]; exact setRow_heap _ _ _ _ _ _ (heap_alloc_new w1 _)
  have HS2 := Lib.hid (HSL.out.below HB2.out (Nat.le_refl _))
  have XW2 := Lib.hid ((HB0.out.trans (HB1.out.mono HB0.out.size)).trans (HB2.out.mono (by have h1 := HB0.out.size; have h2 := HB1.out.size; omega)))
  have HA2 := Lib.hid ((HB2.out.block (w.heap.size + 1) (by have h1 := HS.out; have h2 := HB1.out.size; omega)).trans ((HB1.out.block (w.heap.size + 1) (by have := HS.out; omega)).trans HA.out))
  have HV2 := Lib.hid (HG.out.below XW2.out (Nat.le_refl _))
  have hw1b : Hid (w.heap.size + 1 < w1.heap.size) := by have h1 := HS.out; have h2 := HB1.out.size; unfold Hid; omega
  clear HW2 HA HB0 HBX RX HSL HB1 hCS HMD
  generalize hbg : w1.heap.size = bg at *
  have HO := Lib.hid (lit_own w2 w2.heap.size [] (Nat.le_refl _) (by decide))
  have XC := Lib.hid ((Below.refl w2.heap.size w2).alloc (Nat.le_refl _) (.cells (flat []).toArray 53))
  go_upto_region 5 with fail
  have e0 : (w2.alloc (.cells (flat []).toArray 53)) = w2.alloc (.cells #[] 53) := rfl
  rw [e0] at HO XC
  clear e0
  generalize w2.alloc (.cells #[] 53) = y at HO XC ⊢
  go_wp2_with fail
  go_loopg [11, 12] t (fun g s11 s12 wx => ∃ (k : Nat), k ≤ t ∧ g = t - k ∧ s12 = .int .i64 (k : Nat) ∧ Hid (wx.ownsRow w2.heap.size 53 8 s11 k (flat (List.replicate k (Sg.jmp 31 1)))) ∧ Hid (Below w2.heap.size w2 wx))
  case atStart => exact ⟨0, by omega, rfl, rfl, HO, XC⟩
  case round =>
    obtain ⟨k, hk, rfl, rfl, HOk, HBk⟩ := hrel
    by_cases hlt : k < t
    · have g1 : (k : Int) < (t : Int) := by omega
      have g4 : IntKind.i64.wrap ((k : Int) + 1) = (k : Int) + 1 := by rw [IntKind.wrap_i64]; omega
      go_wp2_with (first
        | (at_builtin; (refine Sg.wpList_append_g rfl (.tmp 30) (.tmp 33) 39 rfl w2.heap.size 53 i0 (.agg #[.int .i64 0, .int .i64 0, .int .i64 0, .int .i64 0, .int .i64 0, .int .i64 0, .int .i64 0, .int .i64 0]) 8 64 Try.underlying39 HI.out HZ0.out HZ1.out HZ2.out rfl (by decide) _ k (flat (List.replicate k (Sg.jmp 31 1))) rfl (HOk.out.alloc _) (some ⟨wr.heap.size, 0, none⟩) 1 1 (flat [Sg.jmp 31 1]) rfl (flat_length _) (.inr ⟨_, rfl, lit_at wr [Sg.jmp 31 1]⟩) (Sg.flat_one _) (by simp only [maxLen]; omega) (by omega) (by have := HBk.out.size; simp; omega) ?_); intro v5 w5 ho5 hg5; have HO5 := Lib.hid ho5; have HB5 := Lib.hid ((HBk.out.alloc HBk.out.size _).grown hg5 (by have := HBk.out.size; simp; omega) (fun q hq => (HOk.out.lt q hq).1)); clear ho5 hg5)
        | fail)
      go_roundg (t - (k + 1))
      case measure => omega
      case rel =>
        refine ⟨k + 1, by omega, rfl, by go_num, ?_, HB5⟩
        have h := HO5.out
        rw [← flat_append, ← List.replicate_succ'] at h
        exact h
    · have hkt : k = t := by omega
      have g1 : ¬ (k : Int) < (t : Int) := by omega
      have hD : Sg.ISrc wr u11 (List.replicate t (Sg.jmp 31 1)) := by
        refine Sg.ISrc.own (B := w2.heap.size) ?_
        have h := HOk.out
        rw [hkt] at h
        rw [List.length_replicate]
        exact h
      have HD := Lib.hid hD
      have HVr := Lib.hid (HV2.out.below HBk.out (Nat.le_refl _))
      have XWr := Lib.hid (XW2.out.trans (HBk.out.mono XW2.out.size))
      have HSr := Lib.hid (HS2.out.below HBk.out (Nat.le_refl _))
      have hb1 : bg < w2.heap.size := (Array.getElem?_eq_some_iff.1 HG2.out).1
      have HGr := Lib.hid (regs_rangeAt ((HBk.out.block bg hb1).trans HG2.out))
      have HAr := Lib.hid ((HBk.out.block (w.heap.size + 1) (by have := hw1b.out; omega)).trans HA2.out)
      have hwr : Hid (w.heap.size + 1 < wr.heap.size) := (Array.getElem?_eq_some_iff.1 HAr.out).1
      have hq32 := regsV_size R
      clear hD hkt HOk HBk HO XC HV2 XW2 HS2 HG2 HA2 hb1
      go_upto_region 12 with (first
        | (refine wpList_load_r 30 (.tmp 9) rfl rfl bg 0 rfl (regsV R) _ HGr.out Try.underlying30 rfl hq32 ?_)
        | (go_at_call 14; (with_reducible refine (code_any R t h1 h3 _ _ _ HD.out HVr.out).mono ?_); rintro e w7 ⟨vc, rfl, hc7, hb7⟩; obtain ⟨ac, cc, hvc⟩ := hc7.len; subst hvc; have HC7 := Lib.hid hc7; have XW7 := Lib.hid (XWr.out.trans (hb7.mono XWr.out.size)); have HS7 := Lib.hid (HSr.out.below hb7 (Nat.le_refl _)); have HA7 := Lib.hid ((hb7.block _ hwr.out).trans HAr.out); have hw7 : Hid (w.heap.size + 1 < w7.heap.size) := (Array.getElem?_eq_some_iff.1 HA7.out).1; clear hc7 hb7)
        | fail)
      go_wp2_with (first
        | (go_at_call 15; (with_reducible refine (rrun_any _ _ (As.code (allL R t)) mem (mem.length : Int) [] 200000 _ HC7.out HS7.out (code_range _) HMR.out (by decide)).mono ?_))
        | fail)
      rintro e w8 ⟨mv, rfl, hown, hb⟩
      obtain ⟨⟨m, s⟩, hr⟩ : ∃ r, Rs.runI (As.code (allL R t)) mem (mem.length : Int) [] 200000 = r := ⟨_, rfl⟩
      have HRL : Hid (m.regs.length = 32) := by have := Rs.runI_len (As.code (allL R t)) mem (mem.length : Int) [] 200000; rw [hr] at this; exact this
      have HR := Lib.hid hr
      rw [hr] at hown ⊢
      clear hr
      have HB8 := Lib.hid (XW7.out.trans (hb.mono XW7.out.size))
      have HA8 := Lib.hid ((hb.block (w.heap.size + 1) hw7.out).trans HA7.out)
      have hmem : Hid (Sl w8 mv (m.mem.map (Value.int .i64))) := Sl.own hown
      have hlo := own_ne hown (w.heap.size + 1) hw7.out
      obtain ⟨am2, cm2, hmv⟩ := hmem.out.len
      rw [List.length_map] at hmv
      subst hmv
      have hln := halt_len' (st := s) (mv := (.slice am2 m.mem.length cm2)) HRL.out
      have hst := store_all (P := Try.prog) w8 (w.heap.size + 1) 36 H0 (Rs.halt s m (.slice am2 m.mem.length cm2)) HA8.out (by rw [hln]; exact hz0.out) (halt_one' rfl)
      have HLO := Lib.hid hlo
      have HOWN := Lib.hid hown
      clear hlo hown hb
      go_wp2_with fail
      have hlr : ((Rs.halt s m (.slice am2 m.mem.length cm2)).toArray).size = 38 := by rw [List.size_toArray]; exact hln
      refine bodyPost_ret (Sg.res2 rfl _ _ (w.heap.size + 1) 36 _ (0, 0) rfl (setRow_heap _ _ _ _ _ _ HA8.out) haltDS (by rw [hlr]; exact haltSize)) rfl ?_
      exact ⟨R, mem, m, s, am2, cm2, HBEF.out, HW26.out, HINR.out, HR.out, rfl, Sl.own (own_same HOWN.out fun b e => setRow_other _ _ _ _ fun eb => HLO.out (by rw [e, eb])), HRL.out, below_setRow HB8.out (by omega) _, fun b o s e => by
        rcases own_shape HOWN.out with ⟨e2, -⟩ | ⟨g, cap, e2, hB, -⟩
        · have h := (Value.slice.inj e2).1
          rw [e] at h; cases h
        · have h := (Value.slice.inj e2).1
          rw [e] at h; cases h
          exact Nat.le_trans XW7.out.size hB⟩
end Gc
end Go.Proofs.Ytaldcgfhlflcpaa
namespace Go.Proofs.Ytaldcgfhlflcpaa
open Go.RowKit
set_option linter.unusedVariables false
set_option linter.unusedSimpArgs false
namespace Gc
theorem alive_ex {e : E} (h : e.Ok) : ∃ N, Alive e N ∧ N ≤ e.size := by
  refine ⟨tot e.sz (kO e (27 + e.s + e.size)), fun l hn hl => ?_, kO_tot h _⟩
  refine tot_same e.sz hn (ord_nodup _) fun j => (hl j).trans ⟨fun hj => ?_, kO_reach⟩
  exact ord_all (ws := e.ws) (roots := e.roots) (k := 27 + e.s + e.size) (by show (kQ e (27 + e.s + e.size)).length ≤ _; exact kQ_len h _) hj
def wd0 : Wd := ⟨10, [], List.replicate 27 (0, 0), [], 0, false⟩
theorem wd0_may : wd0.May := by
  refine ⟨by decide, by decide, by decide, by decide, by decide, ?_⟩
  show (List.map Wd.szT (List.take 0 [])).sum ≤ _
  simp
theorem wd0_alive : Alive wd0.env 0 := by
  intro l hn hl
  cases l with
  | nil => rfl
  | cons j l =>
    have := Wd.reach_lt ((hl j).1 (by simp))
    exact absurd this (by unfold Wd.K wd0; simp)
end Gc
end Go.Proofs.Ytaldcgfhlflcpaa
namespace Go.Proofs.Ytaldcgfhlflcpaa
open Go.RowKit
set_option linter.unusedVariables false
set_option linter.unusedSimpArgs false
set_option maxRecDepth 100000
namespace Gc
open As
def okG (x : It) : Bool := !decide (x.kind = 1) || decide (x.label = 1) || (decide (1000 ≤ x.label) && decide (x.label ≤ 1999))
theorem gc_ok : ∀ x ∈ Sg.gcL, okG x = true := by
  have h : Sg.gcL.all okG = true := by kernel_rfl
  exact List.all_eq_true.1 h
theorem gc_find : As.findI 1 Sg.gcL = 0 := by kernel_rfl
theorem gc_last : Sg.gcL[Sg.gcL.length - 1]? = some (Sg.wth 29 0 5 0) := by kernel_rfl
theorem gc_pos : 0 < Sg.gcL.length := by
  have h : decide (0 < Sg.gcL.length) = true := by kernel_rfl
  exact of_decide_eq_true h
set_option maxHeartbeats 8000000 in
theorem own22_any (l : List It) (hok : ∀ x ∈ l, okG x = true) (hf : As.findI 1 l = 0) (hla : l[l.length - 1]? = some (Sg.wth 29 0 5 0)) (hpos : 0 < l.length) (hn : l.length ≤ 1000) (v : Value) (w : World) (h : Sg.ISrc w v l) :
    Calls Try.prog 13 #[v] w fun e w' => e = .returned (.bool true) ∧ Below w.heap.size w w' := by
  obtain ⟨a, c, rfl, hl, -⟩ := h
  have hne : l ≠ [] := fun e => by rw [e] at hpos; simp at hpos
  obtain ⟨b, off, rfl, hlt, hat⟩ := hl.at hne
  have HFI : Hid (∀ W, Below w.heap.size w W → Calls Try.prog 31 #[.slice (some ⟨b, off, none⟩) l.length c, .int .i64 1] W fun e w' => e = .returned (.int .i64 0) ∧ W = w') := fun W hW => by
    have := find_any l 1 (some ⟨b, off, none⟩) c W (hl.below hW (Nat.le_refl _)) (by omega)
    rw [hf] at this
    exact this
  have HAT := Lib.hid hat
  have HOK := Lib.hid hok
  have HLT := Lib.hid hlt
  have HLA := Lib.hid (hat _ _ hla)
  obtain ⟨n, hn0⟩ : ∃ n, l.length = n := ⟨_, rfl⟩
  rw [hn0] at HFI HLA hn hpos ⊢
  have HN := Lib.hid hn0
  have hq : ((n : Int) == 0) = false := by rw [beq_eq_false_iff_ne]; omega
  have hq2 : ¬ (n : Int) = 0 := by omega
  clear hl hat hok hlt hn0 hla hne hf
  go_enter Try.func13, Try.ntmps13
  have X0 := Lib.hid (Below.refl w.heap.size w)
  go_wp2_with fail
  go_loopg [3] n (fun g s wx => ∃ (k : Nat), k ≤ n ∧ g = n - k ∧ s = .int .i64 (k : Nat) ∧ wx = w)
  case atStart => exact ⟨0, by omega, rfl, rfl, rfl⟩
  case round =>
    obtain ⟨k, hk, rfl, rfl, rfl⟩ := hrel
    by_cases hlt : k < n
    · have g1 : (k : Int) < (n : Int) := by omega
      have g0 : (0 : Int) ≤ (k : Int) := by omega
      have g4 : IntKind.i64.wrap ((k : Int) + 1) = (k : Int) + 1 := by rw [IntKind.wrap_i64]; omega
      obtain ⟨x, hx⟩ : ∃ x, l[k]? = some x := ⟨_, List.getElem?_eq_getElem (by have := HN.out; omega)⟩
      have hokx := HOK.out x (List.mem_of_getElem? hx)
      obtain ⟨e0, e1, e2, e3, e4, e5, e6, e7⟩ := HAT.out k x hx
      obtain ⟨kd, op, a0, b0, c0, nn, la, nu⟩ := x
      dsimp only at e0 e1 e2 e3 e4 e5 e6 e7
      have hx1 : kd = 1 → la = 1 ∨ (1000 ≤ la ∧ la ≤ 1999) := by
        intro e
        simp [okG, e] at hokx
        exact hokx
      clear hokx hx
      by_cases p9 : kd = 1
      · have hx2 := hx1 p9
        clear hx1
        subst p9
        by_cases p8 : la = 1
        · subst p8
          go_wp2_with fail
          go_roundg (n - (k + 1))
          case measure => omega
          case rel => exact ⟨k + 1, by omega, rfl, by go_num, rfl⟩
        · have p7 : 1000 ≤ la ∧ la ≤ 1999 := hx2.resolve_left p8
          have p1 : 1000 ≤ la := p7.1
          have p2 : la ≤ 1999 := p7.2
          clear p7 hx2
          go_wp2_with fail
          go_roundg (n - (k + 1))
          case measure => omega
          case rel => exact ⟨k + 1, by omega, rfl, by go_num, rfl⟩
      · clear hx1
        go_wp2_with fail
        go_roundg (n - (k + 1))
        case measure => omega
        case rel => exact ⟨k + 1, by omega, rfl, by go_num, rfl⟩
    · obtain rfl : k = n := by omega
      obtain ⟨e0, e1, e2, e3, e4, e5, e6, e7⟩ := HLA.out
      simp only [Sg.wth] at e0 e1 e2 e3 e4 e5 e6 e7
      obtain ⟨j, hj⟩ : ∃ j : Nat, k - 1 = j := ⟨_, rfl⟩
      rw [hj] at e0 e1 e2 e3 e4 e5 e6 e7
      have j1 : IntKind.i64.wrap ((k : Int) - 1) = (j : Int) := by rw [IntKind.wrap_i64]; omega
      have j2 : (j : Int) < (k : Int) := by omega
      have j3 : (0 : Int) ≤ (j : Int) := by omega
      have XA := Lib.hid ((Below.refl wr.heap.size wr).alloc (Nat.le_refl _) (.cells #[.int .i64 0, .int .i64 29, .int .i64 0, .int .i64 5, .int .i64 0, .int .i64 0, .int .i64 0, .int .i64 0] 53))
      go_wp2_with (first | (go_at_call 31; (with_reducible refine (HFI.out _ (by first | exact XA.out | exact below_drewN XA.out _)).mono ?_); rintro e w2 ⟨rfl, rfl⟩) | fail)
      go_ret
      exact ⟨rfl, XA.out⟩
theorem own_gc (v : Value) (w : World) (h : Sg.ISrc w v Sg.gcL) : Calls Try.prog 13 #[v] w fun e w' => e = .returned (.bool true) ∧ Below w.heap.size w w' := own22_any Sg.gcL gc_ok gc_find gc_last gc_pos Sg.gc_len v w h
end Gc
end Go.Proofs.Ytaldcgfhlflcpaa
namespace Go.Proofs.Ytaldcgfhlflcpaa
open Go.RowKit
set_option linter.unusedVariables false
set_option linter.unusedSimpArgs false
set_option maxRecDepth 100000
namespace Gc
theorem own_places {w : World} {B K : Nat} {v : Value} {P : Nat → Nat} (h : w.ownsRow B 3 1 v (ints P K).length (i64s (ints P K))) : ∃ ap cp, v = .slice ap K cp ∧ Sl w (.slice ap K cp) (i64s (ints P K)) ∧ ∀ b off s, ap = some ⟨b, off, s⟩ → B ≤ b := by
  have hs := Sl.own h
  rcases own_shape h with ⟨rfl, e2, -⟩ | ⟨g, cap, rfl, hB, -⟩
  · rw [ints_length] at e2
    subst e2
    exact ⟨none, 0, rfl, hs, fun b off s e => by cases e⟩
  · rw [ints_length] at hs ⊢
    exact ⟨_, cap, rfl, hs, fun b off s e => by cases e; exact hB⟩
set_option maxHeartbeats 16000000 in
theorem made_any (x : Wd) (tv sv : Value) (w : World) (hr : x.roots.length = 27) (ht : ThAt w tv x.things) (hst : WoAt w sv x.stack) : Calls Try.prog 5 #[.agg (x.cells tv sv).toArray] w (MadePost x w) := by
  obtain ⟨at_, ct, rfl, hth⟩ := ht
  obtain ⟨as_, cs, rfl, -, hso⟩ := hst
  have HTH := Lib.hid hth
  have HSO := Lib.hid hso
  clear hth hso
  obtain ⟨k0, k1, k56, k57, k58, kr⟩ := cells_at x (.slice at_ x.things.length ct) (.slice as_ x.stack.length cs) hr
  have HK := Lib.hid (And.intro k0 (And.intro k1 (And.intro k56 (And.intro k57 (And.intro k58 kr)))))
  clear k0 k1 k56 k57 k58 kr
  generalize hC : x.cells (.slice at_ x.things.length ct) (.slice as_ x.stack.length cs) = C at HK ⊢
  clear hC
  go_enter Try.func5, Try.ntmps5
  go_upto_region 1 with fail
  have XA := Lib.hid (((Below.refl w.heap.size w).alloc (Nat.le_refl _) (.cells C.toArray 28)).alloc (by simp) (.cells #[.int .i64 0, .int .i64 0, .int .i64 0, .int .i64 0, .int .i64 0, .int .i64 0, .int .i64 0, .int .i64 0, .int .i64 0, .int .i64 0, .int .i64 0, .int .i64 0, .int .i64 0, .int .i64 0, .int .i64 0, .int .i64 0, .int .i64 0, .int .i64 0, .int .i64 0, .int .i64 0, .int .i64 0, .int .i64 0, .int .i64 0, .int .i64 0, .int .i64 0, .int .i64 0, .int .i64 0, .int .i64 0, .int .i64 0, .int .i64 0, .int .i64 0, .int .i64 0] 30))
  have HBX := Lib.hid ((heap_alloc_old (w.alloc (.cells C.toArray 28)) (.cells #[.int .i64 0, .int .i64 0, .int .i64 0, .int .i64 0, .int .i64 0, .int .i64 0, .int .i64 0, .int .i64 0, .int .i64 0, .int .i64 0, .int .i64 0, .int .i64 0, .int .i64 0, .int .i64 0, .int .i64 0, .int .i64 0, .int .i64 0, .int .i64 0, .int .i64 0, .int .i64 0, .int .i64 0, .int .i64 0, .int .i64 0, .int .i64 0, .int .i64 0, .int .i64 0, .int .i64 0, .int .i64 0, .int .i64 0, .int .i64 0, .int .i64 0, .int .i64 0] 30) (by simp)).trans (heap_alloc_new w (.cells C.toArray 28)))
  have HBR := Lib.hid (heap_alloc_new (w.alloc (.cells C.toArray 28)) (.cells #[.int .i64 0, .int .i64 0, .int .i64 0, .int .i64 0, .int .i64 0, .int .i64 0, .int .i64 0, .int .i64 0, .int .i64 0, .int .i64 0, .int .i64 0, .int .i64 0, .int .i64 0, .int .i64 0, .int .i64 0, .int .i64 0, .int .i64 0, .int .i64 0, .int .i64 0, .int .i64 0, .int .i64 0, .int .i64 0, .int .i64 0, .int .i64 0, .int .i64 0, .int .i64 0, .int .i64 0, .int .i64 0, .int .i64 0, .int .i64 0, .int .i64 0, .int .i64 0] 30))
  have HZ : Hid (((w.alloc (.cells C.toArray 28)).alloc (.cells #[.int .i64 0, .int .i64 0, .int .i64 0, .int .i64 0, .int .i64 0, .int .i64 0, .int .i64 0, .int .i64 0, .int .i64 0, .int .i64 0, .int .i64 0, .int .i64 0, .int .i64 0, .int .i64 0, .int .i64 0, .int .i64 0, .int .i64 0, .int .i64 0, .int .i64 0, .int .i64 0, .int .i64 0, .int .i64 0, .int .i64 0, .int .i64 0, .int .i64 0, .int .i64 0, .int .i64 0, .int .i64 0, .int .i64 0, .int .i64 0, .int .i64 0, .int .i64 0] 30)).heap.size = w.heap.size + 2) := by unfold Hid; simp
  rw [show (w.alloc (.cells C.toArray 28)).heap.size = w.heap.size + 1 by simp] at HBR
  generalize (w.alloc (.cells C.toArray 28)).alloc (.cells #[.int .i64 0, .int .i64 0, .int .i64 0, .int .i64 0, .int .i64 0, .int .i64 0, .int .i64 0, .int .i64 0, .int .i64 0, .int .i64 0, .int .i64 0, .int .i64 0, .int .i64 0, .int .i64 0, .int .i64 0, .int .i64 0, .int .i64 0, .int .i64 0, .int .i64 0, .int .i64 0, .int .i64 0, .int .i64 0, .int .i64 0, .int .i64 0, .int .i64 0, .int .i64 0, .int .i64 0, .int .i64 0, .int .i64 0, .int .i64 0, .int .i64 0, .int .i64 0] 30) = x1 at XA HBX HBR HZ ⊢
  go_upto_region 2 with (first
    | (refine wpList_store_r rfl 30 (.tmp 5) (.tmp 19) rfl x1.heap.size 30 #[.int .i64 0, .int .i64 0, .int .i64 0, .int .i64 0, .int .i64 0, .int .i64 0, .int .i64 0, .int .i64 0, .int .i64 0, .int .i64 0, .int .i64 0, .int .i64 0, .int .i64 0, .int .i64 0, .int .i64 0, .int .i64 0, .int .i64 0, .int .i64 0, .int .i64 0, .int .i64 0, .int .i64 0, .int .i64 0, .int .i64 0, .int .i64 0, .int .i64 0, .int .i64 0, .int .i64 0, .int .i64 0, .int .i64 0, .int .i64 0, .int .i64 0, .int .i64 0] zeroR rfl rfl (heap_alloc_new x1 _) rfl (regsV_size _) zeroR_one ?_; intro w2 hw2; have HW2 := Lib.hid hw2; clear hw2)
    | fail)
  have XB : Hid (Below x1.heap.size x1 w2) := by unfold Hid; rw [HW2.out]; exact below_setRow ((Below.refl x1.heap.size x1).alloc (Nat.le_refl _) _) (Nat.le_refl _) _
  have HBG : Hid (w2.heap[x1.heap.size]? = some (.cells zeroR.toArray 30 (0, 0))) := by unfold Hid; rw [HW2.out]; exact setRow_heap _ _ _ _ _ _ (heap_alloc_new x1 _)
  have XW := Lib.hid (XA.out.trans (XB.out.mono XA.out.size))
  have HBX2 := Lib.hid ((XB.out.block w.heap.size (by have := HZ.out; omega)).trans HBX.out)
  have HBR2 := Lib.hid ((XB.out.block (w.heap.size + 1) (by have := HZ.out; omega)).trans HBR.out)
  clear HW2 HBX HBR
  have e0 : w2.cell? ⟨w.heap.size, 0, none⟩ = some (.int .i64 x.size) := by rw [cell_of_row _ _ _ _ _ _ HBX2.out]; simpa using HK.out.1
  have e1 : w2.cell? ⟨w.heap.size, 1, none⟩ = some (.slice at_ x.things.length ct) := by rw [cell_of_row _ _ _ _ _ _ HBX2.out]; simpa using HK.out.2.1
  have e56 : w2.cell? ⟨w.heap.size, 56, none⟩ = some (.slice as_ x.stack.length cs) := by rw [cell_of_row _ _ _ _ _ _ HBX2.out]; simpa using HK.out.2.2.1
  have e57 : w2.cell? ⟨w.heap.size, 57, none⟩ = some (.int .i64 x.wanted) := by rw [cell_of_row _ _ _ _ _ _ HBX2.out]; simpa using HK.out.2.2.2.1
  have e58 : w2.cell? ⟨w.heap.size, 58, none⟩ = some (.bool x.turned) := by rw [cell_of_row _ _ _ _ _ _ HBX2.out]; simpa using HK.out.2.2.2.2.1
  have RG := Lib.hid (regs_rangeAt (R := fun _ => 0) HBG.out)
  by_cases q1 : x.size < 0
  · go_wp2_with fail
    have hu30 := Try.underlying30
    have hi30 : (Try.prog.info? 30).map (·.size) = some zeroR.length := regsV_size _
    have h130 := zeroR_one
    have hS0 : w2.rangeAt x1.heap.size 0 zeroR := RG.out
    have hS1 : w2.there (w.heap.size + 1) 0 zeroR.length := fun j hj => ⟨by rw [cell_of_row _ _ _ _ _ _ HBR2.out]; simp [zeroR, regsV] at hj ⊢; omega, frozen_of_row _ _ _ _ _ HBR2.out⟩
    have hne : x1.heap.size ≠ w.heap.size + 1 := by have := HZ.out; omega
    have hD0 : w2.drew.rangeAt x1.heap.size 0 zeroR := hS0
    have hD1 : w2.drew.there (w.heap.size + 1) 0 zeroR.length := (World.there_drew _ _ _ _).2 hS1
    have hE0 : (w2.drew.setCells (w.heap.size + 1) 0 zeroR).rangeAt x1.heap.size 0 zeroR := World.rangeAt_setCells_apart hD0 _ _ _ (.inl hne)
    have hE1 : (w2.drew.setCells (w.heap.size + 1) 0 zeroR).there (w.heap.size + 1) 0 zeroR.length := World.there_setCells hD1 _ _ _
    clear RG HBG HK HTH HSO e0 e1 e56 e57 e58
    revert hi30 h130 hS0 hS1 hD0 hD1 hE0 hE1
    generalize hZ0 : zeroR = Z0
    have HZ0 := Lib.hid hZ0
    clear hZ0
    intro hi30 h130 hS0 hS1 hD0 hD1 hE0 hE1
    generalize hbg : x1.heap.size = bg at *
    generalize hbr : w.heap.size + 1 = br at *
    go_region_held3 (fun w' => w'.rangeAt bg 0 Z0 ∧ w'.there br 0 Z0.length) (first | exact ⟨hS0, hS1⟩ | exact ⟨hD0, hD1⟩ | exact ⟨hE0, hE1⟩ | fail) (fail)
    all_goals
      have hEW : Below w.heap.size w (w2.drew.setCells br 0 Z0) := below_setCells _ _ _ XW.out.drew (by omega)
      have hER : (w2.drew.setCells br 0 Z0).rangeAt br 0 Z0 := World.rangeAt_setCells_same _ _ _ _ hD1
      go_wp2_with fail
      refine bodyPost_ret (res3 rfl _ _ br Z0 _ rfl hER hu30 rfl hi30) rfl ?_
      refine ⟨hEW, .inr ⟨fun hm => ?_, ?_⟩⟩
      · have := hm.size; omega
      · rw [HZ0.out]; rfl
  by_cases q2 : 500 < x.size
  · go_wp2_with fail
    have hu30 := Try.underlying30
    have hi30 : (Try.prog.info? 30).map (·.size) = some zeroR.length := regsV_size _
    have h130 := zeroR_one
    have hS0 : w2.rangeAt x1.heap.size 0 zeroR := RG.out
    have hS1 : w2.there (w.heap.size + 1) 0 zeroR.length := fun j hj => ⟨by rw [cell_of_row _ _ _ _ _ _ HBR2.out]; simp [zeroR, regsV] at hj ⊢; omega, frozen_of_row _ _ _ _ _ HBR2.out⟩
    have hne : x1.heap.size ≠ w.heap.size + 1 := by have := HZ.out; omega
    have hD0 : w2.drew.rangeAt x1.heap.size 0 zeroR := hS0
    have hD1 : w2.drew.there (w.heap.size + 1) 0 zeroR.length := (World.there_drew _ _ _ _).2 hS1
    have hE0 : (w2.drew.setCells (w.heap.size + 1) 0 zeroR).rangeAt x1.heap.size 0 zeroR := World.rangeAt_setCells_apart hD0 _ _ _ (.inl hne)
    have hE1 : (w2.drew.setCells (w.heap.size + 1) 0 zeroR).there (w.heap.size + 1) 0 zeroR.length := World.there_setCells hD1 _ _ _
    clear RG HBG HK HTH HSO e0 e1 e56 e57 e58
    revert hi30 h130 hS0 hS1 hD0 hD1 hE0 hE1
    generalize hZ0 : zeroR = Z0
    have HZ0 := Lib.hid hZ0
    clear hZ0
    intro hi30 h130 hS0 hS1 hD0 hD1 hE0 hE1
    generalize hbg : x1.heap.size = bg at *
    generalize hbr : w.heap.size + 1 = br at *
    go_region_held3 (fun w' => w'.rangeAt bg 0 Z0 ∧ w'.there br 0 Z0.length) (first | exact ⟨hS0, hS1⟩ | exact ⟨hD0, hD1⟩ | exact ⟨hE0, hE1⟩ | fail) (fail)
    all_goals
      have hEW : Below w.heap.size w (w2.drew.setCells br 0 Z0) := below_setCells _ _ _ XW.out.drew (by omega)
      have hER : (w2.drew.setCells br 0 Z0).rangeAt br 0 Z0 := World.rangeAt_setCells_same _ _ _ _ hD1
      go_wp2_with fail
      refine bodyPost_ret (res3 rfl _ _ br Z0 _ rfl hER hu30 rfl hi30) rfl ?_
      refine ⟨hEW, .inr ⟨fun hm => ?_, ?_⟩⟩
      · have := hm.size; omega
      · rw [HZ0.out]; rfl
  by_cases q3 : (60 : Int) < (x.stack.length : Nat)
  · go_wp2_with fail
    have hu30 := Try.underlying30
    have hi30 : (Try.prog.info? 30).map (·.size) = some zeroR.length := regsV_size _
    have h130 := zeroR_one
    have hS0 : w2.rangeAt x1.heap.size 0 zeroR := RG.out
    have hS1 : w2.there (w.heap.size + 1) 0 zeroR.length := fun j hj => ⟨by rw [cell_of_row _ _ _ _ _ _ HBR2.out]; simp [zeroR, regsV] at hj ⊢; omega, frozen_of_row _ _ _ _ _ HBR2.out⟩
    have hne : x1.heap.size ≠ w.heap.size + 1 := by have := HZ.out; omega
    have hD0 : w2.drew.rangeAt x1.heap.size 0 zeroR := hS0
    have hD1 : w2.drew.there (w.heap.size + 1) 0 zeroR.length := (World.there_drew _ _ _ _).2 hS1
    have hE0 : (w2.drew.setCells (w.heap.size + 1) 0 zeroR).rangeAt x1.heap.size 0 zeroR := World.rangeAt_setCells_apart hD0 _ _ _ (.inl hne)
    have hE1 : (w2.drew.setCells (w.heap.size + 1) 0 zeroR).there (w.heap.size + 1) 0 zeroR.length := World.there_setCells hD1 _ _ _
    clear RG HBG HK HTH HSO e0 e1 e56 e57 e58
    revert hi30 h130 hS0 hS1 hD0 hD1 hE0 hE1
    generalize hZ0 : zeroR = Z0
    have HZ0 := Lib.hid hZ0
    clear hZ0
    intro hi30 h130 hS0 hS1 hD0 hD1 hE0 hE1
    generalize hbg : x1.heap.size = bg at *
    generalize hbr : w.heap.size + 1 = br at *
    go_region_held3 (fun w' => w'.rangeAt bg 0 Z0 ∧ w'.there br 0 Z0.length) (first | exact ⟨hS0, hS1⟩ | exact ⟨hD0, hD1⟩ | exact ⟨hE0, hE1⟩ | fail) (fail)
    all_goals
      have hEW : Below w.heap.size w (w2.drew.setCells br 0 Z0) := below_setCells _ _ _ XW.out.drew (by omega)
      have hER : (w2.drew.setCells br 0 Z0).rangeAt br 0 Z0 := World.rangeAt_setCells_same _ _ _ _ hD1
      go_wp2_with fail
      refine bodyPost_ret (res3 rfl _ _ br Z0 _ rfl hER hu30 rfl hi30) rfl ?_
      refine ⟨hEW, .inr ⟨fun hm => ?_, ?_⟩⟩
      · have := hm.stack; omega
      · rw [HZ0.out]; rfl
  by_cases q4 : (60 : Int) < (x.things.length : Nat)
  · go_wp2_with fail
    have hu30 := Try.underlying30
    have hi30 : (Try.prog.info? 30).map (·.size) = some zeroR.length := regsV_size _
    have h130 := zeroR_one
    have hS0 : w2.rangeAt x1.heap.size 0 zeroR := RG.out
    have hS1 : w2.there (w.heap.size + 1) 0 zeroR.length := fun j hj => ⟨by rw [cell_of_row _ _ _ _ _ _ HBR2.out]; simp [zeroR, regsV] at hj ⊢; omega, frozen_of_row _ _ _ _ _ HBR2.out⟩
    have hne : x1.heap.size ≠ w.heap.size + 1 := by have := HZ.out; omega
    have hD0 : w2.drew.rangeAt x1.heap.size 0 zeroR := hS0
    have hD1 : w2.drew.there (w.heap.size + 1) 0 zeroR.length := (World.there_drew _ _ _ _).2 hS1
    have hE0 : (w2.drew.setCells (w.heap.size + 1) 0 zeroR).rangeAt x1.heap.size 0 zeroR := World.rangeAt_setCells_apart hD0 _ _ _ (.inl hne)
    have hE1 : (w2.drew.setCells (w.heap.size + 1) 0 zeroR).there (w.heap.size + 1) 0 zeroR.length := World.there_setCells hD1 _ _ _
    clear RG HBG HK HTH HSO e0 e1 e56 e57 e58
    revert hi30 h130 hS0 hS1 hD0 hD1 hE0 hE1
    generalize hZ0 : zeroR = Z0
    have HZ0 := Lib.hid hZ0
    clear hZ0
    intro hi30 h130 hS0 hS1 hD0 hD1 hE0 hE1
    generalize hbg : x1.heap.size = bg at *
    generalize hbr : w.heap.size + 1 = br at *
    go_region_held3 (fun w' => w'.rangeAt bg 0 Z0 ∧ w'.there br 0 Z0.length) (first | exact ⟨hS0, hS1⟩ | exact ⟨hD0, hD1⟩ | exact ⟨hE0, hE1⟩ | fail) (fail)
    all_goals
      have hEW : Below w.heap.size w (w2.drew.setCells br 0 Z0) := below_setCells _ _ _ XW.out.drew (by omega)
      have hER : (w2.drew.setCells br 0 Z0).rangeAt br 0 Z0 := World.rangeAt_setCells_same _ _ _ _ hD1
      go_wp2_with fail
      refine bodyPost_ret (res3 rfl _ _ br Z0 _ rfl hER hu30 rfl hi30) rfl ?_
      refine ⟨hEW, .inr ⟨fun hm => ?_, ?_⟩⟩
      · have := hm.things; omega
      · rw [HZ0.out]; rfl
  by_cases q5 : x.wanted < 0
  · go_wp2_with fail
    have hu30 := Try.underlying30
    have hi30 : (Try.prog.info? 30).map (·.size) = some zeroR.length := regsV_size _
    have h130 := zeroR_one
    have hS0 : w2.rangeAt x1.heap.size 0 zeroR := RG.out
    have hS1 : w2.there (w.heap.size + 1) 0 zeroR.length := fun j hj => ⟨by rw [cell_of_row _ _ _ _ _ _ HBR2.out]; simp [zeroR, regsV] at hj ⊢; omega, frozen_of_row _ _ _ _ _ HBR2.out⟩
    have hne : x1.heap.size ≠ w.heap.size + 1 := by have := HZ.out; omega
    have hD0 : w2.drew.rangeAt x1.heap.size 0 zeroR := hS0
    have hD1 : w2.drew.there (w.heap.size + 1) 0 zeroR.length := (World.there_drew _ _ _ _).2 hS1
    have hE0 : (w2.drew.setCells (w.heap.size + 1) 0 zeroR).rangeAt x1.heap.size 0 zeroR := World.rangeAt_setCells_apart hD0 _ _ _ (.inl hne)
    have hE1 : (w2.drew.setCells (w.heap.size + 1) 0 zeroR).there (w.heap.size + 1) 0 zeroR.length := World.there_setCells hD1 _ _ _
    clear RG HBG HK HTH HSO e0 e1 e56 e57 e58
    revert hi30 h130 hS0 hS1 hD0 hD1 hE0 hE1
    generalize hZ0 : zeroR = Z0
    have HZ0 := Lib.hid hZ0
    clear hZ0
    intro hi30 h130 hS0 hS1 hD0 hD1 hE0 hE1
    generalize hbg : x1.heap.size = bg at *
    generalize hbr : w.heap.size + 1 = br at *
    go_region_held3 (fun w' => w'.rangeAt bg 0 Z0 ∧ w'.there br 0 Z0.length) (first | exact ⟨hS0, hS1⟩ | exact ⟨hD0, hD1⟩ | exact ⟨hE0, hE1⟩ | fail) (fail)
    all_goals
      have hEW : Below w.heap.size w (w2.drew.setCells br 0 Z0) := below_setCells _ _ _ XW.out.drew (by omega)
      have hER : (w2.drew.setCells br 0 Z0).rangeAt br 0 Z0 := World.rangeAt_setCells_same _ _ _ _ hD1
      go_wp2_with fail
      refine bodyPost_ret (res3 rfl _ _ br Z0 _ rfl hER hu30 rfl hi30) rfl ?_
      refine ⟨hEW, .inr ⟨fun hm => ?_, ?_⟩⟩
      · have := hm.wanted; omega
      · rw [HZ0.out]; rfl
  by_cases q6 : 1000 < x.wanted
  · go_wp2_with fail
    have hu30 := Try.underlying30
    have hi30 : (Try.prog.info? 30).map (·.size) = some zeroR.length := regsV_size _
    have h130 := zeroR_one
    have hS0 : w2.rangeAt x1.heap.size 0 zeroR := RG.out
    have hS1 : w2.there (w.heap.size + 1) 0 zeroR.length := fun j hj => ⟨by rw [cell_of_row _ _ _ _ _ _ HBR2.out]; simp [zeroR, regsV] at hj ⊢; omega, frozen_of_row _ _ _ _ _ HBR2.out⟩
    have hne : x1.heap.size ≠ w.heap.size + 1 := by have := HZ.out; omega
    have hD0 : w2.drew.rangeAt x1.heap.size 0 zeroR := hS0
    have hD1 : w2.drew.there (w.heap.size + 1) 0 zeroR.length := (World.there_drew _ _ _ _).2 hS1
    have hE0 : (w2.drew.setCells (w.heap.size + 1) 0 zeroR).rangeAt x1.heap.size 0 zeroR := World.rangeAt_setCells_apart hD0 _ _ _ (.inl hne)
    have hE1 : (w2.drew.setCells (w.heap.size + 1) 0 zeroR).there (w.heap.size + 1) 0 zeroR.length := World.there_setCells hD1 _ _ _
    clear RG HBG HK HTH HSO e0 e1 e56 e57 e58
    revert hi30 h130 hS0 hS1 hD0 hD1 hE0 hE1
    generalize hZ0 : zeroR = Z0
    have HZ0 := Lib.hid hZ0
    clear hZ0
    intro hi30 h130 hS0 hS1 hD0 hD1 hE0 hE1
    generalize hbg : x1.heap.size = bg at *
    generalize hbr : w.heap.size + 1 = br at *
    go_region_held3 (fun w' => w'.rangeAt bg 0 Z0 ∧ w'.there br 0 Z0.length) (first | exact ⟨hS0, hS1⟩ | exact ⟨hD0, hD1⟩ | exact ⟨hE0, hE1⟩ | fail) (fail)
    all_goals
      have hEW : Below w.heap.size w (w2.drew.setCells br 0 Z0) := below_setCells _ _ _ XW.out.drew (by omega)
      have hER : (w2.drew.setCells br 0 Z0).rangeAt br 0 Z0 := World.rangeAt_setCells_same _ _ _ _ hD1
      go_wp2_with fail
      refine bodyPost_ret (res3 rfl _ _ br Z0 _ rfl hER hu30 rfl hi30) rfl ?_
      refine ⟨hEW, .inr ⟨fun hm => ?_, ?_⟩⟩
      · have := hm.wanted; omega
      · rw [HZ0.out]; rfl
  obtain ⟨zn, hzn⟩ : ∃ zn : Nat, x.size = zn := ⟨x.size.toNat, by omega⟩
  obtain ⟨sn, hsn⟩ : ∃ sn : Nat, x.stack.length = sn := ⟨_, rfl⟩
  have HZN := Lib.hid hzn
  have HSN := Lib.hid hsn
  rw [hzn] at e0 q1 q2
  rw [hsn] at e56 q3
  have w1 : IntKind.i64.wrap (32 + (sn : Int)) = 32 + (sn : Int) := by rw [IntKind.wrap_i64]; omega
  have w3 : IntKind.i64.wrap (32 + (sn : Int) + 3) = 32 + (sn : Int) + 3 := by rw [IntKind.wrap_i64]; omega
  have w4 : IntKind.i64.wrap (32 + (sn : Int) + 3 + (zn : Int)) = 32 + (sn : Int) + 3 + (zn : Int) := by rw [IntKind.wrap_i64]; omega
  have w5 : IntKind.i64.wrap (32 + (sn : Int) + 3 + (zn : Int) + 2) = 32 + (sn : Int) + 3 + (zn : Int) + 2 := by rw [IntKind.wrap_i64]; omega
  have w6 : IntKind.i64.wrap (2 * (zn : Int)) = 2 * (zn : Int) := by rw [IntKind.wrap_i64]; omega
  have w7 : IntKind.i64.wrap (32 + (sn : Int) + 3 + 2 * (zn : Int)) = 32 + (sn : Int) + 3 + 2 * (zn : Int) := by rw [IntKind.wrap_i64]; omega
  have w8 : IntKind.i64.wrap (32 + (sn : Int) + 3 + 2 * (zn : Int) + 7) = 32 + (sn : Int) + 3 + 2 * (zn : Int) + 7 := by rw [IntKind.wrap_i64]; omega
  clear hzn hsn
  obtain ⟨lo, hlo⟩ : ∃ lo : Nat, lo = x.env.lo := ⟨_, rfl⟩
  obtain ⟨ot, hot⟩ : ∃ ot : Nat, ot = x.env.oth := ⟨_, rfl⟩
  have HLO := Lib.hid hlo
  have HOT := Lib.hid hot
  have hlt : (lo : Int) = if x.turned = true then 32 + (sn : Int) + 3 + (zn : Int) + 2 else 32 + (sn : Int) + 3 := by
    rw [hlo]
    show (((if x.turned = true then x.oth else x.low : Nat)) : Int) = _
    have h1 : x.sz = zn := by unfold Wd.sz; rw [HZN.out]; rfl
    have h2 : x.s = sn := HSN.out
    split
    · unfold Wd.oth Wd.low; rw [h1, h2]; omega
    · unfold Wd.low; rw [h2]; omega
  have hot2 : (ot : Int) = if x.turned = true then 32 + (sn : Int) + 3 else 32 + (sn : Int) + 3 + (zn : Int) + 2 := by
    rw [hot]
    show (((if x.turned = true then x.low else x.oth : Nat)) : Int) = _
    have h1 : x.sz = zn := by unfold Wd.sz; rw [HZN.out]; rfl
    have h2 : x.s = sn := HSN.out
    split
    · unfold Wd.low; rw [h2]; omega
    · unfold Wd.oth Wd.low; rw [h1, h2]; omega
  clear hlo hot
  cases ht : x.turned
  all_goals
    rw [ht] at e58 hlt hot2
    simp only [if_true, if_false, Bool.false_eq_true] at hlt hot2
    have HLT := Lib.hid hlt
    have HOT2 := Lib.hid hot2
    clear hlt hot2
    go_upto_region 9 with fail
    first
      | rw [← HOT2.out, ← HLT.out]
      | rw [← HLT.out, ← HOT2.out]
    obtain ⟨ln, hln⟩ : ∃ ln : Nat, ln = 42 + sn + 2 * zn := ⟨_, rfl⟩
    have hmk := make_ints21 ln (by omega)
    rw [show ((ln : Nat) : Int) = 32 + (sn : Int) + 3 + 2 * (zn : Int) + 7 by omega] at hmk
    have HLN := Lib.hid hln
    clear hln
    go_upto_region 10 with fail
    have HM := Lib.hid (heap_alloc_new w2 (.cells (madeCells #[.int .i64 0] ln) 3))
    have HB9 := Lib.hid ((Below.refl w2.heap.size w2).alloc (Nat.le_refl _) (.cells (madeCells #[.int .i64 0] ln) 3))
    generalize w2.alloc (.cells (madeCells #[.int .i64 0] ln) 3) = w9 at HM HB9 ⊢
    rw [made_one21, show List.replicate ln (Value.int .i64 0) = i64s (List.replicate ln 0) by simp [i64s]] at HM
    clear hmk e0 e1 e56 e57 e58 w1 w3 w4 w5 w6 w7 w8
    have hln : ln ≤ 2000 := by have := HLN.out; omega
    go_wp2_with fail
    go_loopg [10] ln (fun g s wx => ∃ (k : Nat) (m : List Int), k ≤ ln ∧ g = ln - k ∧ s = .int .i64 (k : Nat) ∧ Fit m ln ∧ Hid (wx.heap[w2.heap.size]? = some (.cells (i64s m).toArray 3 (0, 0))) ∧ Hid (Below w2.heap.size w2 wx))
    case atStart => exact ⟨0, List.replicate ln 0, by omega, rfl, rfl, ⟨by simp, fun v hv => by rw [List.eq_of_mem_replicate hv]; exact inr_small (by decide) (by decide)⟩, HM, HB9⟩
    case round =>
      obtain ⟨k, m, hk, rfl, rfl, hml, HMk, HBk⟩ := hrel
      by_cases hlt : k < ln
      · have g1 : (k : Int) < (ln : Int) := by omega
        have g0 : (0 : Int) ≤ (k : Int) := by omega
        have g2 : IntKind.i64.wrap (8 * (k : Int)) = 8 * (k : Int) := by rw [IntKind.wrap_i64]; omega
        have g3 : IntKind.i64.wrap (8 * (k : Int) + 5) = 8 * (k : Int) + 5 := by rw [IntKind.wrap_i64]; omega
        have g4 : IntKind.i64.wrap ((k : Int) + 1) = (k : Int) + 1 := by rw [IntKind.wrap_i64]; omega
        obtain ⟨⟨u, cu⟩, fu, bu, hm'⟩ := Sg.st_row (i := k) HMk.out (by have := hml.len; omega) (8 * (k : Int) + 5)
        have HM' := Lib.hid hm'
        have HB' := Lib.hid (HBk.out.setCell (p := ⟨w2.heap.size, k, none⟩) (Nat.le_refl _) (.int .i64 (8 * (k : Int) + 5)))
        clear hm'
        go_wp2_with fail
        go_roundg (ln - (k + 1))
        case measure => omega
        case rel => exact ⟨k + 1, m.set k (8 * (k : Int) + 5), by omega, rfl, by go_num, hml.set k (inr_small (by omega) (by omega)), HM', HB'⟩
      · obtain rfl : k = ln := by omega
        have HO0 := Lib.hid (World.ownsRow_lit (base := wr.heap.size) (e := 3) (size := 1) wr #[] 0 (Nat.le_refl _) (Nat.zero_le _) rfl)
        have HBo := Lib.hid ((Below.refl wr.heap.size wr).alloc (Nat.le_refl _) (.cells #[] 3))
        have XWr := Lib.hid (XW.out.trans (HBk.out.mono XW.out.size))
        have HBXa := Lib.hid ((HBk.out.block w.heap.size (by have := XB.out.size; have := HZ.out; omega)).trans HBX2.out)
        have hxs : Hid (w.heap.size < wr.heap.size) := (Array.getElem?_eq_some_iff.1 HBXa.out).1
        have HG0 : Hid (wr.heap[x1.heap.size]? = some (.cells zeroR.toArray 30 (0, 0))) := (HBk.out.block x1.heap.size (Array.getElem?_eq_some_iff.1 HBG.out).1).trans HBG.out
        have HR0 : Hid (wr.heap[w.heap.size + 1]? = some (.cells zeroR.toArray 30 (0, 0))) := (HBk.out.block (w.heap.size + 1) (Array.getElem?_eq_some_iff.1 HBR2.out).1).trans HBR2.out
        have HZ1 : Hid (x1.heap.size < wr.heap.size) := (Array.getElem?_eq_some_iff.1 HG0.out).1
        have HR1 : Hid (w.heap.size + 1 < wr.heap.size) := (Array.getElem?_eq_some_iff.1 HR0.out).1
        have HMk1 : Hid (w2.heap.size < wr.heap.size) := (Array.getElem?_eq_some_iff.1 HMk.out).1
        have HZ2 : Hid (x1.heap.size < w2.heap.size) := (Array.getElem?_eq_some_iff.1 HBG.out).1
        go_upto_region 15 with fail
        generalize wr.alloc (.cells #[] 3) = wb at HO0 HBo ⊢
        go_wp2_with fail
        go_loopg [11, 12, 13] x.K (fun g s11 s12 s13 wx => ∃ (i : Nat), i ≤ x.K ∧ g = x.K - i ∧ s12 = .int .i64 ((lo + x.upto i : Nat) : Int) ∧ s13 = .int .i64 (i : Nat) ∧ x.upto i ≤ x.sz ∧ Hid (wx.ownsRow wr.heap.size 3 1 s11 (ints x.env.pl i).length (i64s (ints x.env.pl i))) ∧ Hid (Below wr.heap.size wr wx))
        case atStart => exact ⟨0, Nat.zero_le _, rfl, by rw [Wd.upto_zero]; rfl, rfl, by rw [Wd.upto_zero]; omega, HO0, HBo⟩
        case round =>
          obtain ⟨i, hi, rfl, rfl, rfl, hup, HOi, HBi⟩ := hrel
          have XWi := Lib.hid (XWr.out.trans (HBi.out.mono XWr.out.size))
          have HBXi := Lib.hid ((HBi.out.block w.heap.size hxs.out).trans HBXa.out)
          have e1 : wr.cell? ⟨w.heap.size, 1, none⟩ = some (.slice at_ x.things.length ct) := by rw [cell_of_row _ _ _ _ _ _ HBXi.out]; simpa using HK.out.2.1
          by_cases hlt : i < x.K
          · obtain ⟨t, ht⟩ : ∃ t, x.things[i]? = some t := ⟨_, List.getElem?_eq_getElem hlt⟩
            rcases HTH.out with h0 | ⟨b, off, rfl, hb, hc⟩
            · rw [h0] at ht; simp at ht
            obtain ⟨cA, v', cB, a', cap', rfl, hnl, -⟩ := hc i t ht
            have HCX : Hid (∀ wx, Below w.heap.size w wx → wx.cell? ⟨b, off + i * 2 + 1, none⟩ = some (.slice a' t.2.length cap')) := fun wx hbx => (hbx.cell (p := ⟨b, off + i * 2 + 1, none⟩) hb).trans cB
            have hth : x.th i = t := by unfold Wd.th; rw [List.getD_eq_getElem?_getD, ht]; rfl
            have hus := Wd.upto_succ hlt
            rw [hth] at hus
            obtain ⟨n, hn⟩ : ∃ n, t.2.length = n := ⟨_, rfl⟩
            rw [hn] at hus hnl HCX
            obtain ⟨up, hupe⟩ : ∃ up, x.upto i = up := ⟨_, rfl⟩
            rw [hupe] at hus hup ⊢
            have hszz : x.sz = zn := by unfold Wd.sz; rw [HZN.out]; rfl
            have hlob : lo ≤ 700 := by have := HLT.out; omega
            have g1 : (i : Int) < (x.things.length : Nat) := by show (i : Int) < (x.K : Nat); omega
            have g0 : (0 : Int) ≤ (i : Int) := by omega
            have g2 : IntKind.i64.wrap (1 + (n : Int)) = 1 + (n : Int) := by rw [IntKind.wrap_i64]; omega
            have g3 : IntKind.i64.wrap (((lo + up : Nat) : Int) + (1 + (n : Int))) = ((lo + (up + (1 + n)) : Nat) : Int) := by rw [IntKind.wrap_i64]; omega
            have g4 : IntKind.i64.wrap ((i : Int) + 1) = (i : Int) + 1 := by rw [IntKind.wrap_i64]; omega
            have g5 : IntKind.i64.wrap ((lo : Int) + (zn : Int)) = (lo : Int) + (zn : Int) := by rw [IntKind.wrap_i64]; omega
            have hil := ints_length x.env.pl i
            have HUS := Lib.hid hus
            have HUPE := Lib.hid hupe
            clear hus hupe hth ht hc cA cB hn
            by_cases hfit : up + (1 + n) ≤ zn
            · have g6 : ¬ (lo : Int) + (zn : Int) < ((lo + (up + (1 + n)) : Nat) : Int) := by omega
              go_wp2_with (first
                | (at_builtin; go_loud (refine wpList_push rfl (.tmp 95) (.tmp 97) rfl _ _ (ints x.env.pl i) ((lo + up : Nat) : Int) (by omega) rfl rfl HOi.out rfl HBi.out.size ?_); intro av cv w5 ho5 hg5 hl5; have HO5 := Lib.hid ho5; have HB5 := Lib.hid ((HBi.out.alloc HBi.out.size _).grown hg5 (by have := HBi.out.size; simp; omega) (fun q hq => (HOi.out.lt q hq).1)); have c5D := HCX.out w5 (XWr.out.trans (HB5.out.mono XWr.out.size)); have c5E : w5.cell? ⟨w.heap.size, 1, none⟩ = some (.slice (some ⟨b, off, none⟩) x.things.length ct) := (by rw [cell_of_row _ _ _ _ _ _ ((HB5.out.block w.heap.size hxs.out).trans HBXa.out)]; simpa using HK.out.2.1); clear ho5 hg5 hl5)
                | fail)
              go_roundg (x.K - (i + 1))
              case measure => omega
              case rel =>
                refine ⟨i + 1, by omega, rfl, by rw [HUS.out]; congr 1; omega, by go_num, by rw [HUS.out, hszz]; exact hfit, ?_, HB5⟩
                have hh := HO5.out
                have hpl : x.env.pl i = lo + up := by rw [HLO.out, ← HUPE.out]; rfl
                have hnx : ints x.env.pl i ++ [((lo + up : Nat) : Int)] = ints x.env.pl (i + 1) := by unfold ints; rw [List.range_succ, List.map_append, ← hpl]; rfl
                have hll : (ints x.env.pl i ++ [((lo + up : Nat) : Int)]).length = i + 1 := by rw [List.length_append, hil]; rfl
                rw [hll, hnx] at hh
                rw [ints_length]
                exact hh
            · have g6 : (lo : Int) + (zn : Int) < ((lo + (up + (1 + n)) : Nat) : Int) := by omega
              have HNM : Hid (¬ x.May) := fun hm => by
                have h1 := Wd.upto_mono (x := x) (i := i + 1) (j := x.K) (by omega) (Nat.le_refl _)
                have h2 := hm.fits
                have h3 := HUS.out
                omega
              go_wp2_with (first
                | (at_builtin; go_loud (refine wpList_push rfl (.tmp 95) (.tmp 97) rfl _ _ (ints x.env.pl i) ((lo + up : Nat) : Int) (by omega) rfl rfl HOi.out rfl HBi.out.size ?_); intro av cv w5 ho5 hg5 hl5; have HO5 := Lib.hid ho5; have HB5 := Lib.hid ((HBi.out.alloc HBi.out.size _).grown hg5 (by have := HBi.out.size; simp; omega) (fun q hq => (HOi.out.lt q hq).1)); have c5D := HCX.out w5 (XWr.out.trans (HB5.out.mono XWr.out.size)); have c5E : w5.cell? ⟨w.heap.size, 1, none⟩ = some (.slice (some ⟨b, off, none⟩) x.things.length ct) := (by rw [cell_of_row _ _ _ _ _ _ ((HB5.out.block w.heap.size hxs.out).trans HBXa.out)]; simpa using HK.out.2.1); clear ho5 hg5 hl5)
                | fail)
              have hu30 := Try.underlying30
              have hi30 : (Try.prog.info? 30).map (·.size) = some zeroR.length := regsV_size _
              have h130 := zeroR_one
              have HG5 := Lib.hid ((HB5.out.block x1.heap.size HZ1.out).trans HG0.out)
              have HR5 := Lib.hid ((HB5.out.block (w.heap.size + 1) HR1.out).trans HR0.out)
              have XW5 := Lib.hid (XWr.out.trans (HB5.out.mono XWr.out.size))
              have hG5r := regs_rangeAt (R := fun _ => 0) HG5.out
              have hS0 : w5.rangeAt x1.heap.size 0 zeroR := hG5r
              have hS1 : w5.there (w.heap.size + 1) 0 zeroR.length := fun j hj => ⟨by rw [cell_of_row _ _ _ _ _ _ HR5.out]; simp [zeroR, regsV] at hj ⊢; omega, frozen_of_row _ _ _ _ _ HR5.out⟩
              have hne : x1.heap.size ≠ w.heap.size + 1 := by have := HZ.out; omega
              have hD0 : w5.drew.rangeAt x1.heap.size 0 zeroR := hS0
              have hD1 : w5.drew.there (w.heap.size + 1) 0 zeroR.length := (World.there_drew _ _ _ _).2 hS1
              have hE0 : (w5.drew.setCells (w.heap.size + 1) 0 zeroR).rangeAt x1.heap.size 0 zeroR := World.rangeAt_setCells_apart hD0 _ _ _ (.inl hne)
              have hE1 : (w5.drew.setCells (w.heap.size + 1) 0 zeroR).there (w.heap.size + 1) 0 zeroR.length := World.there_setCells hD1 _ _ _
              clear HG5 hG5r HR5 HK HTH HSO HBG HG0 HR0 e1 c5D c5E HO5 HB5
              revert hi30 h130 hS0 hS1 hD0 hD1 hE0 hE1
              generalize hZ0 : zeroR = Z0
              have HZ0 := Lib.hid hZ0
              clear hZ0
              intro hi30 h130 hS0 hS1 hD0 hD1 hE0 hE1
              generalize hbg : x1.heap.size = bg at *
              generalize hbr : w.heap.size + 1 = br at *
              go_region_held3 (fun w' => w'.rangeAt bg 0 Z0 ∧ w'.there br 0 Z0.length) (first | exact ⟨hS0, hS1⟩ | exact ⟨hD0, hD1⟩ | exact ⟨hE0, hE1⟩ | fail) (fail)
              all_goals
                have hEW : Below w.heap.size w (w5.drew.setCells br 0 Z0) := below_setCells _ _ _ XW5.out.drew (by omega)
                have hER : (w5.drew.setCells br 0 Z0).rangeAt br 0 Z0 := World.rangeAt_setCells_same _ _ _ _ hD1
                go_wp2_with fail
                refine bodyPost_ret (res3 rfl _ _ br Z0 _ rfl hER hu30 rfl hi30) rfl ?_
                refine ⟨hEW, .inr ⟨fun hm => ?_, ?_⟩⟩
                · exact HNM.out hm
                · rw [HZ0.out]; rfl
          · obtain rfl : i = x.K := by omega
            have g1 : ¬ ((x.K : Nat) : Int) < (x.things.length : Nat) := by show ¬ ((x.K : Nat) : Int) < (x.K : Nat); omega
            go_upto_region 23 with fail
            rename_i K1 hK1 K0 hK0
            have HMAY : Hid x.May := by
              have e1 := HZN.out
              have e2 := HSN.out
              exact ⟨⟨by omega, by omega⟩, by omega, by omega, ⟨by omega, by omega⟩, hr, hup⟩
            have hz := HZ.out
            obtain ⟨ap, cp, rfl, hsl, hpb⟩ := own_places HOi.out
            have HM0 : Hid (Mst x w C w2.heap.size ap cp (fun _ => 0) m wr) := by
              refine ⟨XWi.out, HBXi.out, (HBi.out.block (w.heap.size + 1) HR1.out).trans HR0.out, ?_, (HBi.out.block w2.heap.size HMk1.out).trans HMk.out, ?_, hsl, ?_⟩
              · rw [← hz]; exact (HBi.out.block x1.heap.size HZ1.out).trans HG0.out
              · have := HZ2.out; omega
              · intro b off s h
                have h1 := hpb b off s h
                have h2 := HMk1.out
                omega
            rw [hz]
            refine made_rest x w wr C w2.heap.size k zn sn lo ot cp ct cs ap at_ as_ m HMAY HLO HOT (by have := HZN.out; show x.size.toNat = zn; omega) HSN (by have := HMAY.out.size; have := HZN.out; omega) (by have := HMAY.out.stack; have := HSN.out; omega) (by have := HLT.out; omega) (by have := HLT.out; omega) (by have := HOT2.out; omega) HLN hml ⟨HK.out.2.1, by have h := HK.out.2.2.1; rw [HSN.out] at h; exact h, HK.out.2.2.2.1, HK.out.2.2.2.2.2⟩ HTH HSO HM0 _ _ _ _ _ _ _ _ _ _ _ _ _ _ _ _ _ _ _ _ _ _ _ _ _ _ _ _ _ _ _ _ _ _ _ _ _ _ _ _ _ _ _ _ _ _ _ _ _ _ _ _ _ _ _ _ _ _ _ _ _ _ _ _ _ _ _ _ _ _ _ _ _ _ _ _ _ _ _ _ _ _ _ _ _ _ _ _ _ _ _ _ _ _ _ _ _ _ _ _ _ _ _ _ _ _ _ _ _ _ _ _ _ _ _ _ _ _ _ _ _ _ _ _ _ _ _ _ _ _ _ _ _ _ _ _ _ _ _ _ _ _ _ _ _ _ _ _ _ _ _ _ _ _ _ _ _ _ _ _ _ _ _ _ _ _ _ _ _ _ _ _ _ _ _ _ _ _ _ _ _ _ _ _ _ _ _ _ _ _ _ _ _ _ _ _ _ _ _ _ _ _ _ _ _ _ _ _ _ _ _ _ _ _ _ _ _ _ _ _ _ _ _ _ _ _ _ _ _ _ K0 K1 hK0 hK1
end Gc
end Go.Proofs.Ytaldcgfhlflcpaa
namespace Go.Proofs.Ytaldcgfhlflcpaa
open Go.RowKit
set_option linter.unusedVariables false
set_option linter.unusedSimpArgs false
set_option maxRecDepth 100000
namespace Gc
theorem cells_len (x : Wd) (tv sv : Value) (h : x.roots.length = 27) : (x.cells tv sv).length = 59 := by
  simp [Wd.cells, wordsC_length, h]
theorem ran_wd (x : Wd) (tv sv : Value) (w : World) (hm : x.May) (ht : ThAt w tv x.things) (hs : WoAt w sv x.stack) (t : Nat) (h1 : 1 ≤ t) (h3 : t ≤ 3) (v2 : Value) (hg : Sg.ISrc w v2 Sg.gcL) :
    Calls Try.prog 8 #[.agg (x.cells tv sv).toArray, .int .i64 (t : Nat), v2] w (RanPost x t w) :=
  ran_any x (x.cells tv sv) (cells_len x tv sv hm.roots) hm t h1 h3 v2 w (fun W hb => made_any x tv sv W hm.roots (ht.below hb) (hs.below hb)) hg
theorem wd0_things (w : World) : ThAt w (.slice none 0 0) wd0.things := ⟨none, 0, rfl, .inl rfl⟩
theorem wd0_stack (w : World) : WoAt w (.slice none 0 0) wd0.stack := ⟨none, 0, rfl, by decide, .inl rfl⟩
theorem ran_wd0 (v2 : Value) (w : World) (hg : Sg.ISrc w v2 Sg.gcL) :
    Calls Try.prog 8 #[.agg (List.toArray (.int .i64 10 :: .slice none 0 0 :: .int .i64 0 :: .int .i64 0 :: .int .i64 0 :: .int .i64 0 :: .int .i64 0 :: .int .i64 0 :: .int .i64 0 :: .int .i64 0 :: .int .i64 0 :: .int .i64 0 :: .int .i64 0 :: .int .i64 0 :: .int .i64 0 :: .int .i64 0 :: .int .i64 0 :: .int .i64 0 :: .int .i64 0 :: .int .i64 0 :: .int .i64 0 :: .int .i64 0 :: .int .i64 0 :: .int .i64 0 :: .int .i64 0 :: .int .i64 0 :: .int .i64 0 :: .int .i64 0 :: .int .i64 0 :: .int .i64 0 :: .int .i64 0 :: .int .i64 0 :: .int .i64 0 :: .int .i64 0 :: .int .i64 0 :: .int .i64 0 :: .int .i64 0 :: .int .i64 0 :: .int .i64 0 :: .int .i64 0 :: .int .i64 0 :: .int .i64 0 :: .int .i64 0 :: .int .i64 0 :: .int .i64 0 :: .int .i64 0 :: .int .i64 0 :: .int .i64 0 :: .int .i64 0 :: .int .i64 0 :: .int .i64 0 :: .int .i64 0 :: .int .i64 0 :: .int .i64 0 :: .int .i64 0 :: .int .i64 0 :: .slice none 0 0 :: .int .i64 0 :: .bool false :: [])), .int .i64 1, v2] w (RanPost wd0 1 w) :=
  ran_wd wd0 (.slice none 0 0) (.slice none 0 0) w wd0_may (wd0_things w) (wd0_stack w) 1 (by decide) (by decide) v2 hg
theorem ran_facts (x : Wd) (hm : x.May) (t : Nat) (h1 : 1 ≤ t) (h3 : t ≤ 3) (N : Nat) (hN : Alive x.env N) (hNs : N ≤ x.sz) (hfit : t = 1 ∨ (N : Int) + x.wanted ≤ x.size) {w w' : World} {e : Ending} (h : RanPost x t w e w') :
    ∃ m a c, e = .returned (.tuple #[.agg (Rs.halt 0 m (.slice a m.mem.length c)).toArray, .bool true]) ∧ Sl w' (.slice a m.mem.length c) (i64s m.mem) ∧ m.regs.length = 32 ∧ Below w.heap.size w w' ∧ (∀ b o s, a = some ⟨b, o, s⟩ → w.heap.size ≤ b) ∧
      ((N : Int) + x.wanted ≤ x.size → m.value = 0 ∧ ∃ e' R', Like x.env e' ∧ e'.Ok ∧ e'.Bef R' m.mem ∧ m.regs = (List.range 32).map R' ∧ R' 29 = ((e'.lo + N : Nat) : Int) ∧ (if t % 2 = 0 then e'.lo = x.env.lo else e'.lo = x.env.oth) ∧ ∀ j, x.env.R j → e'.pl j + e'.sz j ≤ e'.lo + N) ∧
      (t = 1 → m.steps ≤ 2200 + 30 * ((N : Int) + (x.stack.length : Nat))) := by
  obtain ⟨R, mem, m, s, a, c, hB, h26, hR, hrun, rfl, hsl, hrl, hb, hab⟩ := h
  obtain ⟨wn, hwn⟩ : ∃ n : Nat, x.wanted = n := ⟨x.wanted.toNat, by have := hm.wanted; omega⟩
  have hsz : (x.sz : Int) = x.size := by have := hm.size; unfold Wd.sz; omega
  have hwb := hm.wanted
  have hsb := hm.size
  have hst := hm.stack
  have hs60 : x.env.s ≤ 60 := hst
  have hz5 : x.env.size ≤ 500 := by show x.sz ≤ 500; omega
  have hss : x.env.s = x.stack.length := rfl
  by_cases hf : (N : Int) + x.wanted ≤ x.size
  · obtain ⟨m2, e', R', hr2, hv, L, ok, -, B2, hregs, h29, hpar, hsteps, hpl⟩ := ran_ok2 R hR mem h1 h3 x.env (Wd.env_ok hm) Wd.env_hi hB hs60 hz5 N wn (by omega) (by rw [h26, hwn]) hN (by show N + wn ≤ x.sz; omega)
    rw [hr2] at hrun
    obtain ⟨rfl, rfl⟩ := Prod.mk.inj hrun
    refine ⟨m2, a, c, rfl, hsl, hrl, hb, hab, fun _ => ⟨hv, e', R', L, ok, B2, hregs, h29, hpar, hpl⟩, fun ht => ?_⟩
    subst ht
    have h4 : (125 + 1 * (27 * N + 32 * x.env.s + 1001) : Nat) ≤ 2200 + 30 * (N + x.env.s) := by omega
    rw [hss] at h4
    omega
  · obtain rfl : t = 1 := hfit.resolve_right hf
    obtain ⟨m2, hr2, hv, hsteps⟩ := ran_full R hR mem x.env (Wd.env_ok hm) Wd.env_hi hB hs60 hz5 N wn (by omega) (by rw [h26, hwn]) hN hNs (by show x.sz < N + wn; omega)
    rw [hr2] at hrun
    obtain ⟨rfl, rfl⟩ := Prod.mk.inj hrun
    refine ⟨m2, a, c, rfl, hsl, hrl, hb, hab, fun h => absurd h hf, fun _ => ?_⟩
    have h4 : (1125 + 27 * N + 32 * x.env.s : Nat) ≤ 2200 + 30 * (N + x.env.s) := by omega
    rw [hss] at h4
    omega
end Gc
end Go.Proofs.Ytaldcgfhlflcpaa
namespace Go.Proofs.Ytaldcgfhlflcpaa
open Go.RowKit
set_option linter.unusedVariables false
set_option linter.unusedSimpArgs false
set_option maxRecDepth 100000
namespace Gc
theorem regs_getD {m : Rs.M} {R : Nat → Int} (h : m.regs = (List.range 32).map R) {i : Nat} (hi : i < 32) : m.regs.getD i 0 = R i := by
  rw [h, List.getD_eq_getElem?_getD, List.getElem?_map, List.getElem?_range hi]
  rfl
set_option maxHeartbeats 16000000 in
theorem fixed_22 (w : World) : Calls Try.prog 6 #[] w fun e w' => e = .returned (.bool true) ∧ Below w.heap.size w w' := by
  obtain ⟨c1, c2⟩ : True ∧ True := ⟨trivial, trivial⟩
  go_enter Try.func6, Try.ntmps6
  clear c1 c2
  go_wp2_with fail
  with_reducible refine (Sg.gc_Code _).mono ?_
  rintro e w1 ⟨v, rfl, ho, hb⟩
  have HV := Lib.hid (Sg.ISrc.own ho)
  have HB1 := Lib.hid hb
  clear ho hb
  go_wp2_with fail
  with_reducible refine (ran_wd0 _ _ HV.out).mono ?_
  intro e w2 hp
  obtain ⟨m, a, c, rfl, hsl, hrl, hb, -, hk, -⟩ := ran_facts wd0 wd0_may 1 (by decide) (by decide) 0 wd0_alive (Nat.zero_le _) (.inl rfl) hp
  obtain ⟨hv, e', R', L, -, B2, hregs, h29, -, -⟩ := hk (by decide)
  clear hp hk
  have HV2 := Lib.hid (HV.out.below hb (Nat.le_refl _))
  have HB2 := Lib.hid (HB1.out.trans (hb.mono HB1.out.size))
  have hst := halt_store w2 0 m (.slice a m.mem.length c) hrl rfl
  have hln := halt_len' (st := 0) (mv := (.slice a m.mem.length c)) hrl
  have A1 : Hid (HaltAt (w2.alloc (.cells (Rs.halt 0 m (.slice a m.mem.length c)).toArray 36)) w2.heap.size 0 m (.slice a m.mem.length c)) := HaltAt.new w2 hrl
  have HM := Lib.hid (hsl.below ((Below.refl w2.heap.size w2).alloc (Nat.le_refl _) (.cells (Rs.halt 0 m (.slice a m.mem.length c)).toArray 36)) (Nat.le_refl _))
  have HV3 := Lib.hid (HV2.out.below ((Below.refl w2.heap.size w2).alloc (Nat.le_refl _) (.cells (Rs.halt 0 m (.slice a m.mem.length c)).toArray 36)) (Nat.le_refl _))
  have HB3 := Lib.hid (HB2.out.alloc HB2.out.size (.cells (Rs.halt 0 m (.slice a m.mem.length c)).toArray 36))
  have HB2b := Lib.hid hregs
  have H29 := Lib.hid h29
  have H28 := Lib.hid B2.m28
  have HLEN : Hid (m.mem.length = 62) := B2.len.trans L.len
  have HVAL := Lib.hid hv
  clear hsl hrl hb hv L B2 hregs h29 HV HV2 HB1 HB2
  go_upto_region 3 with fail
  clear hst hln
  generalize w2.alloc (.cells (Rs.halt 0 m (.slice a m.mem.length c)).toArray 36) = x at A1 HM HV3 HB3 ⊢
  have c0 := A1.out.c0
  have c1 := A1.out.c1
  rw [HVAL.out] at c1
  obtain ⟨lo, hlo⟩ : ∃ lo : Nat, lo = e'.lo := ⟨_, rfl⟩
  have c34 : x.cell? ⟨_, 34, none⟩ = some (.int .i64 (lo : Nat)) := (A1.out.cR (i := 29) (by omega)).trans (by rw [regs_getD HB2b.out (by omega), H29.out, hlo]; rfl)
  have c37 := A1.out.c37
  obtain ⟨bm, om, rfl, hbm, hcell⟩ := int_at HM.out rfl (by rw [HLEN.out]; decide)
  have c28 := hcell 28 (by rw [HLEN.out]; decide)
  rw [H28.out, ← hlo] at c28
  have hml : (28 : Int) < (m.mem.length : Nat) := by rw [HLEN.out]; decide
  have HBM := Lib.hid hbm
  have hkb := (Array.getElem?_eq_some_iff.1 A1.out.blk).1
  have HKB := Lib.hid hkb
  generalize w2.heap.size = kb at A1 c0 c1 c34 c37 HKB ⊢
  generalize m.mem.length = ml at c37 hml ⊢
  clear hlo hcell HM A1 HB2b H29 H28 HVAL hbm hkb HLEN
  have HS0 : Hid (x.cell? ⟨kb, 0, none⟩ = some (.int .i64 0) ∧ x.cell? ⟨kb, 1, none⟩ = some (.int .i64 0) ∧ x.cell? ⟨kb, 34, none⟩ = some (.int .i64 (lo : Nat)) ∧ x.cell? ⟨kb, 37, none⟩ = some (.slice (some ⟨bm, om, none⟩) ml c) ∧ x.cell? ⟨bm, om + 28, none⟩ = some (.int .i64 (lo : Nat))) := ⟨c0, c1, c34, c37, c28⟩
  have HSB : Hid (∀ y, Below x.heap.size x y → y.cell? ⟨kb, 0, none⟩ = some (.int .i64 0) ∧ y.cell? ⟨kb, 1, none⟩ = some (.int .i64 0) ∧ y.cell? ⟨kb, 34, none⟩ = some (.int .i64 (lo : Nat)) ∧ y.cell? ⟨kb, 37, none⟩ = some (.slice (some ⟨bm, om, none⟩) ml c) ∧ y.cell? ⟨bm, om + 28, none⟩ = some (.int .i64 (lo : Nat))) := fun y hy => ⟨(hy.cell (p := ⟨kb, 0, none⟩) HKB.out).trans c0, (hy.cell (p := ⟨kb, 1, none⟩) HKB.out).trans c1, (hy.cell (p := ⟨kb, 34, none⟩) HKB.out).trans c34, (hy.cell (p := ⟨kb, 37, none⟩) HKB.out).trans c37, (hy.cell (p := ⟨bm, om + 28, none⟩) HBM.out).trans c28⟩
  have HVd : Hid (Sg.ISrc x.drew v Sg.gcL) := HV3.out.below (Below.refl x.heap.size x).drew (Nat.le_refl _)
  go_region_held3 (fun w' => w'.cell? ⟨kb, 0, none⟩ = some (.int .i64 0) ∧ w'.cell? ⟨kb, 1, none⟩ = some (.int .i64 0) ∧ w'.cell? ⟨kb, 34, none⟩ = some (.int .i64 (lo : Nat)) ∧ w'.cell? ⟨kb, 37, none⟩ = some (.slice (some ⟨bm, om, none⟩) ml c) ∧ w'.cell? ⟨bm, om + 28, none⟩ = some (.int .i64 (lo : Nat)))
    (first | with_reducible exact HS0.out | with_reducible exact HSB.out _ HB4.out | exact HS0.out)
    (first | (go_at_call 13; (with_reducible refine (own_gc _ _ HVd.out).mono ?_); rintro e w4 ⟨rfl, hb4⟩; have HB4 := Lib.hid ((Below.refl x.heap.size x).drew.trans hb4); clear hb4))
  go_wp2_with fail
  go_ret
  exact ⟨rfl, HB3.out.trans (HB4.out.mono HB3.out.size)⟩
end Gc
end Go.Proofs.Ytaldcgfhlflcpaa
