/- HeapedKeeps: the round of its outer loop. -/
import Derived.Test.YthbnhneibpoooaaQHpKx
set_option linter.unusedVariables false
set_option linter.unusedSimpArgs false
set_option linter.unnecessarySimpa false
namespace Go.Proofs.Ythbnhneibpoooaa
open Go.RowKit
set_option linter.unusedVariables false
set_option linter.unusedSimpArgs false
set_option linter.unnecessarySimpa false
/-- The body of a loop. -/
def bodyOf : Code → Code
  | .loop c => c
  | c => c
noncomputable def keepsB3 : Code := bodyOf (((Try.f3.body.map loopsOf).getD []).getD 2 .skip)
set_option maxHeartbeats 400000000 in
set_option maxRecDepth 1000000 in
theorem keeps_round (w wr : World) (n k ob tb bb ab nb i3 cp : Nat) (ap : Option Addr) (l : List (Int × Int × Int)) (l1 l2 : List Hp.V) (hn : n ≤ 40) (hk : k ≤ 40) (hlen : l.length ≤ 9223372036854775807) (HPS : Hid (l = [] ∨ ∃ b off, ap = some ⟨b, off, none⟩ ∧ b < w.heap.size ∧ ∀ (i : Nat) (x : Int × Int × Int), l[i]? = some x → w.cell? ⟨b, off + i * 3, none⟩ = some (.int .i64 x.1) ∧ w.cell? ⟨b, off + i * 3 + 1, none⟩ = some (.int .i64 x.2.1) ∧ w.cell? ⟨b, off + i * 3 + 2, none⟩ = some (.int .i64 x.2.2))) (hlt3 : i3 < l.length ∧ i3 < 60) (HL1 : Hid (l1.length = n)) (HL2 : Hid (l2.length = k)) (HS : Hid (KSt w wr ob tb bb ab nb l1 l2)) (c3 c4 c5 c6 c10 c12 c15 c16 c18 c19 c20 c21 c22 c23 c24 c25 c26 c27 c28 c29 c30 c31 c32 c33 c34 c35 c36 c37 c38 c39 c40 c41 c42 c43 c44 c45 c46 c47 c48 c49 c50 c51 c52 c53 c54 c55 c56 c57 c58 c59 c60 c61 c62 c63 c64 c65 c66 c67 c68 c69 c70 c71 c72 c73 c74 c75 c76 c77 c78 c79 c80 c81 c82 c83 c84 c85 c86 c87 c88 c89 c90 c91 c92 c93 c94 c95 c96 c97 c98 c99 c100 c101 c102 c103 c104 c105 c106 c107 c108 c109 c110 c111 c112 c113 c114 c115 c116 c117 c118 c119 c120 c121 c122 c123 c124 c125 c126 c127 c128 c129 c130 c131 c132 c133 c134 c135 c136 c137 c138 c139 c140 c141 c142 c143 c144 c145 c146 c147 c148 c149 c150 c151 c152 c153 c154 c155 c156 c157 c158 c159 c160 c161 c162 c163 c164 c165 c166 c167 c168 c169 c170 c171 c172 c173 c174 c175 c176 c177 c178 c179 c180 c181 c182 c183 c184 c185 c186 c187 c188 c189 c190 c191 c192 c193 c194 c195 c196 c197 c198 c199 c200 c201 c202 c203 c204 c205 c206 c207 c208 c209 c210 c211 c212 c213 c214 c215 c216 c217 c218 c219 c220 c221 c222 c223 c224 c225 c226 c227 : Value) (K : Act → World → Prop) (Q : Exit → Act → World → Prop)
    (hK : ∀ (u6 u18 u19 u20 u21 u22 u23 u24 u25 u26 u27 u28 u29 u103 u104 u105 u106 u107 u108 u109 u110 u111 u112 u113 u114 u115 u116 u117 u118 u119 u120 u121 u122 u123 u124 u125 u126 u127 u128 u129 u130 u131 u132 u133 u134 u135 u136 u137 u138 u139 u140 u141 u142 u143 u144 u145 u146 u147 u148 u149 u150 u151 u152 u153 u154 u155 u156 u157 u158 u159 u160 u161 u162 u163 u164 u165 u166 u167 u168 u169 u170 u171 u172 u173 u174 u175 u176 u177 u178 u179 u180 u181 u182 u183 u184 u185 u186 u187 u188 u189 u190 u191 u192 u193 u194 u195 u196 u197 u198 u199 u200 u201 u202 u203 u204 u205 u206 u207 u208 u209 u210 u211 u212 u213 u214 u215 u216 u217 u218 u219 u220 u221 u222 u223 u224 : Value) (wx : World) (l1' l2' : List Hp.V), l1'.length = n → l2'.length = k → Hid (KSt w wx ob tb bb ab nb l1' l2') → K ⟨List.toArray (.int .i64 n :: .int .i64 k :: .slice ap l.length cp :: c3 :: c4 :: c5 :: u6 :: .pointer (some ⟨w.heap.size, 0, none⟩) :: .pointer (some ⟨nb, 0, none⟩) :: .pointer (some ⟨ab, 0, none⟩) :: c10 :: .pointer (some ⟨bb, 0, none⟩) :: c12 :: .slice (some ⟨ob, 0, none⟩) n n :: .slice (some ⟨tb, 0, none⟩) k k :: c15 :: c16 :: .int .i64 (i3 + 1) :: u18 :: u19 :: u20 :: u21 :: u22 :: u23 :: u24 :: u25 :: u26 :: u27 :: u28 :: u29 :: c30 :: c31 :: c32 :: c33 :: c34 :: c35 :: c36 :: c37 :: c38 :: c39 :: c40 :: c41 :: c42 :: c43 :: c44 :: c45 :: c46 :: c47 :: c48 :: c49 :: c50 :: c51 :: c52 :: c53 :: c54 :: c55 :: c56 :: c57 :: c58 :: c59 :: c60 :: c61 :: c62 :: c63 :: c64 :: c65 :: c66 :: c67 :: c68 :: c69 :: c70 :: c71 :: c72 :: c73 :: c74 :: c75 :: c76 :: c77 :: c78 :: c79 :: c80 :: c81 :: c82 :: c83 :: c84 :: c85 :: c86 :: c87 :: c88 :: c89 :: c90 :: c91 :: c92 :: c93 :: c94 :: c95 :: c96 :: c97 :: c98 :: c99 :: c100 :: c101 :: c102 :: u103 :: u104 :: u105 :: u106 :: u107 :: u108 :: u109 :: u110 :: u111 :: u112 :: u113 :: u114 :: u115 :: u116 :: u117 :: u118 :: u119 :: u120 :: u121 :: u122 :: u123 :: u124 :: u125 :: u126 :: u127 :: u128 :: u129 :: u130 :: u131 :: u132 :: u133 :: u134 :: u135 :: u136 :: u137 :: u138 :: u139 :: u140 :: u141 :: u142 :: u143 :: u144 :: u145 :: u146 :: u147 :: u148 :: u149 :: u150 :: u151 :: u152 :: u153 :: u154 :: u155 :: u156 :: u157 :: u158 :: u159 :: u160 :: u161 :: u162 :: u163 :: u164 :: u165 :: u166 :: u167 :: u168 :: u169 :: u170 :: u171 :: u172 :: u173 :: u174 :: u175 :: u176 :: u177 :: u178 :: u179 :: u180 :: u181 :: u182 :: u183 :: u184 :: u185 :: u186 :: u187 :: u188 :: u189 :: u190 :: u191 :: u192 :: u193 :: u194 :: u195 :: u196 :: u197 :: u198 :: u199 :: u200 :: u201 :: u202 :: u203 :: u204 :: u205 :: u206 :: u207 :: u208 :: u209 :: u210 :: u211 :: u212 :: u213 :: u214 :: u215 :: u216 :: u217 :: u218 :: u219 :: u220 :: u221 :: u222 :: u223 :: u224 :: c225 :: c226 :: c227 :: []), []⟩ wx) :
    Code.wp Try.prog keepsB3 (Exit.then K Q) ⟨List.toArray (.int .i64 n :: .int .i64 k :: .slice ap l.length cp :: c3 :: c4 :: c5 :: c6 :: .pointer (some ⟨w.heap.size, 0, none⟩) :: .pointer (some ⟨nb, 0, none⟩) :: .pointer (some ⟨ab, 0, none⟩) :: c10 :: .pointer (some ⟨bb, 0, none⟩) :: c12 :: .slice (some ⟨ob, 0, none⟩) n n :: .slice (some ⟨tb, 0, none⟩) k k :: c15 :: c16 :: .int .i64 i3 :: c18 :: c19 :: c20 :: c21 :: c22 :: c23 :: c24 :: c25 :: c26 :: c27 :: c28 :: c29 :: c30 :: c31 :: c32 :: c33 :: c34 :: c35 :: c36 :: c37 :: c38 :: c39 :: c40 :: c41 :: c42 :: c43 :: c44 :: c45 :: c46 :: c47 :: c48 :: c49 :: c50 :: c51 :: c52 :: c53 :: c54 :: c55 :: c56 :: c57 :: c58 :: c59 :: c60 :: c61 :: c62 :: c63 :: c64 :: c65 :: c66 :: c67 :: c68 :: c69 :: c70 :: c71 :: c72 :: c73 :: c74 :: c75 :: c76 :: c77 :: c78 :: c79 :: c80 :: c81 :: c82 :: c83 :: c84 :: c85 :: c86 :: c87 :: c88 :: c89 :: c90 :: c91 :: c92 :: c93 :: c94 :: c95 :: c96 :: c97 :: c98 :: c99 :: c100 :: c101 :: c102 :: c103 :: c104 :: c105 :: c106 :: c107 :: c108 :: c109 :: c110 :: c111 :: c112 :: c113 :: c114 :: c115 :: c116 :: c117 :: c118 :: c119 :: c120 :: c121 :: c122 :: c123 :: c124 :: c125 :: c126 :: c127 :: c128 :: c129 :: c130 :: c131 :: c132 :: c133 :: c134 :: c135 :: c136 :: c137 :: c138 :: c139 :: c140 :: c141 :: c142 :: c143 :: c144 :: c145 :: c146 :: c147 :: c148 :: c149 :: c150 :: c151 :: c152 :: c153 :: c154 :: c155 :: c156 :: c157 :: c158 :: c159 :: c160 :: c161 :: c162 :: c163 :: c164 :: c165 :: c166 :: c167 :: c168 :: c169 :: c170 :: c171 :: c172 :: c173 :: c174 :: c175 :: c176 :: c177 :: c178 :: c179 :: c180 :: c181 :: c182 :: c183 :: c184 :: c185 :: c186 :: c187 :: c188 :: c189 :: c190 :: c191 :: c192 :: c193 :: c194 :: c195 :: c196 :: c197 :: c198 :: c199 :: c200 :: c201 :: c202 :: c203 :: c204 :: c205 :: c206 :: c207 :: c208 :: c209 :: c210 :: c211 :: c212 :: c213 :: c214 :: c215 :: c216 :: c217 :: c218 :: c219 :: c220 :: c221 :: c222 :: c223 :: c224 :: c225 :: c226 :: c227 :: []), []⟩ wr := by
  have HK := Lib.hid hK
  clear hK
  unfold keepsB3
  conv => arg 2; whnf
  obtain ⟨hlt3, hlt4⟩ := hlt3
  obtain ⟨p, hpi⟩ : ∃ p, l[i3]? = some p := ⟨_, List.getElem?_eq_getElem hlt3⟩
  rcases HPS.out with e | ⟨b0, o0, rfl, hb0, hat⟩
  · rw [e] at hpi; simp at hpi
  obtain ⟨d0, d1, d2⟩ := hat i3 p hpi
  have hbw := HS.out.below
  have d0 := (hbw.cell (p := ⟨b0, o0 + i3 * 3, none⟩) hb0).trans d0
  have hb0r : b0 < wr.heap.size := Nat.lt_of_lt_of_le hb0 hbw.size
  have HDD : Hid (∀ w', Below w.heap.size w w' → w'.cell? ⟨b0, o0 + i3 * 3 + 1, none⟩ = some (.int .i64 p.2.1) ∧ w'.cell? ⟨b0, o0 + i3 * 3 + 2, none⟩ = some (.int .i64 p.2.2)) := fun w' hb => ⟨(hb.cell (p := ⟨b0, o0 + i3 * 3 + 1, none⟩) hb0).trans d1, (hb.cell (p := ⟨b0, o0 + i3 * 3 + 2, none⟩) hb0).trans d2⟩
  have q0 := HS.out.cells (b := ab) (cs := #[.int .i64 8, .int .i64 0, .string ⟨#[]⟩]) (t := 27) (by simp) 0
  have q1 := HS.out.cells (b := ab) (cs := #[.int .i64 8, .int .i64 0, .string ⟨#[]⟩]) (t := 27) (by simp) 1
  have q2 := HS.out.cells (b := ab) (cs := #[.int .i64 8, .int .i64 0, .string ⟨#[]⟩]) (t := 27) (by simp) 2
  have r0 := HS.out.cells (b := bb) (cs := #[.int .i64 8, .int .i64 1, .string ⟨#[]⟩]) (t := 27) (by simp) 0
  have r1 := HS.out.cells (b := bb) (cs := #[.int .i64 8, .int .i64 1, .string ⟨#[]⟩]) (t := 27) (by simp) 1
  have r2 := HS.out.cells (b := bb) (cs := #[.int .i64 8, .int .i64 1, .string ⟨#[]⟩]) (t := 27) (by simp) 2
  simp only [List.getElem?_toArray, List.getElem?_cons_zero, List.getElem?_cons_succ] at q0 q1 q2 r0 r1 r2
  have hbbr : bb < wr.heap.size := (HS.out.find (b := bb) (o := .cells #[.int .i64 8, .int .i64 1, .string ⟨#[]⟩] 27 (0, 0)) (by simp)).2.1
  have hg1 : (0 : Int) ≤ i3 := by omega
  have hg2 : (i3 : Int) < l.length := by omega
  have hg3 : decide ((i3 : Int) < 60) = true := decide_eq_true (by omega)
  have hg4 : (i3 : Int) < 60 := by omega
  have hgi : IntKind.i64.wrap ((i3 : Int) + 1) = i3 + 1 := by rw [IntKind.wrap_i64]; omega
  have HPI := Lib.hid hpi
  clear hat d1 d2 hbw hpi
  go_upto_if 121 with fail
  go_cut [19] from 103 to 224 (fun s19 wx => ∃ (q : Nat), (q = 0 ∨ q = 1) ∧ s19 = .slice (some ⟨selQ q ob tb, 0, none⟩) (selQ q n k) (selQ q n k) ∧ Hid (Lw w wx w.heap.size [⟨1, l1⟩, ⟨1, l2⟩] [(wr.heap.size, .cells #[.int .i64 8, .int .i64 q, .string ⟨#[]⟩] 27 (0, 0)), (tb, .cells (Hp.flatV l2).toArray 27 (0, 0)), (ob, .cells (Hp.flatV l1).toArray 27 (0, 0)), (bb, .cells #[.int .i64 8, .int .i64 1, .string ⟨#[]⟩] 27 (0, 0)), (ab, .cells #[.int .i64 8, .int .i64 0, .string ⟨#[]⟩] 27 (0, 0)), (nb, .cells #[.int .i64 4, .int .i64 0, .string ⟨#[]⟩] 27 (0, 0))]))
  case first =>
    cases hodd : (p.1.tmod 2 != 0)
    all_goals go_wp2_with fail
    · go_meet
      case rel => exact ⟨0, .inl rfl, rfl, Lib.hid (HS.out.new _ rfl)⟩
    · go_meet
      case rel => exact ⟨1, .inr rfl, rfl, Lib.hid (HS.out.new _ rfl)⟩
  case rest =>
    obtain ⟨q, hq, rfl, HQ⟩ := hcut
    clear q0 q1 q2 r0 r1 r2 d0
    obtain ⟨pa, pat, pm⟩ := p
    dsimp only at *
    have hm1 : -1000 < pm.tmod 1000 := by have := Int.tmod_lt_of_pos pm (show (0 : Int) < 1000 by decide); have := Int.lt_tmod_of_pos pm (show (0 : Int) < 1000 by decide); omega
    have hm2 : pm.tmod 1000 < 1000 := Int.tmod_lt_of_pos pm (by decide)
    have HMM : Hid (Hp.may ([⟨1, l1⟩, ⟨1, l2⟩] : List Hp.Th).length ⟨1, pm.tmod 1000, ⟨#[]⟩⟩ = true) := may_1 (isN_iff.2 (by omega))
    go_wp2_with fail
    go_cut [20, 21] from 103 to 224 (fun s20 s21 wx => ∃ xb, s20 = .int .i64 pat ∧ s21 = .pointer (some ⟨xb, 0, none⟩) ∧ Hid (Lw w wx w.heap.size [⟨1, l1⟩, ⟨1, l2⟩] [(xb, .cells #[.int .i64 1, .int .i64 (pm.tmod 1000), .string ⟨#[]⟩] 27 (0, 0)), (wr.heap.size, .cells #[.int .i64 8, .int .i64 q, .string ⟨#[]⟩] 27 (0, 0)), (tb, .cells (Hp.flatV l2).toArray 27 (0, 0)), (ob, .cells (Hp.flatV l1).toArray 27 (0, 0)), (bb, .cells #[.int .i64 8, .int .i64 1, .string ⟨#[]⟩] 27 (0, 0)), (ab, .cells #[.int .i64 8, .int .i64 0, .string ⟨#[]⟩] 27 (0, 0)), (nb, .cells #[.int .i64 4, .int .i64 0, .string ⟨#[]⟩] 27 (0, 0))]))
    case first =>
      have HD0 := Lib.hid (HQ.out.bel (Below.refl _ _).drew)
      have HDZ := Lib.hid ((HQ.out.new (.cells #[.int .i64 0, .int .i64 0, .string ⟨#[]⟩] 27) rfl).bel (Below.refl _ _).drew)
      go_region_held3 (fun w' => w'.cell? ⟨b0, o0 + i3 * 3 + 1, none⟩ = some (.int .i64 pat) ∧ w'.cell? ⟨b0, o0 + i3 * 3 + 2, none⟩ = some (.int .i64 pm))
        (first | with_reducible exact HDD.out _ HD0.out.below | with_reducible exact HDD.out _ HDZ.out.below | with_reducible exact HDD.out _ HL1.out.below | with_reducible exact HDD.out _ (HL1.out.new _ rfl).below | with_reducible exact HDD.out _ (HL1.out.set3 _ _ _).below | fail)
        (first
          | (go_at_call 12; (with_reducible refine (num_any _ _).mono ?_); rintro e x1 ⟨rfl, hb⟩; (first | (with_reducible have HL1 := Lib.hid (HD0.out.bel hb)) | (with_reducible have HL1 := Lib.hid (HDZ.out.bel hb))); clear hb; (first | (with_reducible obtain ⟨z0, z1, z2, y0, y1, y2⟩ := zer_cells HL1.out (List.mem_cons_self ..)) | skip))
          | fail)
      all_goals go_wp2_with fail
      all_goals
        go_meet
        case rel => exact ⟨_, rfl, rfl, (by first | with_reducible exact Lib.hid (HL1.out.new _ rfl) | with_reducible exact Lib.hid (HL1.out.set3 _ _ _) | fail)⟩
    case rest =>
      obtain ⟨xb, rfl, rfl, HX⟩ := hcut
      clear HQ
      by_cases hr : -1000 ≤ pat ∧ pat ≤ 1000
      · obtain ⟨hr1, hr2⟩ := hr
        have k1 : decide (pat < -1000) = false := decide_eq_false (by omega)
        have k2 : decide (1000 < pat) = false := decide_eq_false (by omega)
        go_wp2_with fail
        go_cut [22, 23] from 103 to 224 (fun s22 s23 wx => ∃ (rb : Nat) (o : Obj) (er : Int) (l1' l2' : List Hp.V), s22 = .pointer (some ⟨rb, 0, none⟩) ∧ s23 = .int .i64 er ∧ Hid (KCase q n k pat ⟨1, pm.tmod 1000, ⟨#[]⟩⟩ er l1 l2 l1' l2') ∧ Hid (Lw w wx w.heap.size [⟨1, l1'⟩, ⟨1, l2'⟩] [(rb, o), (xb, .cells #[.int .i64 1, .int .i64 (pm.tmod 1000), .string ⟨#[]⟩] 27 (0, 0)), (wr.heap.size, .cells #[.int .i64 8, .int .i64 q, .string ⟨#[]⟩] 27 (0, 0)), (tb, .cells (Hp.flatV l2).toArray 27 (0, 0)), (ob, .cells (Hp.flatV l1).toArray 27 (0, 0)), (bb, .cells #[.int .i64 8, .int .i64 1, .string ⟨#[]⟩] 27 (0, 0)), (ab, .cells #[.int .i64 8, .int .i64 0, .string ⟨#[]⟩] 27 (0, 0)), (nb, .cells #[.int .i64 4, .int .i64 0, .string ⟨#[]⟩] 27 (0, 0))]))
        case first =>
          have HD0 := Lib.hid (HX.out.bel (Below.refl _ _).drew)
          have HDZ := Lib.hid ((HX.out.new (.cells #[.int .i64 0, .int .i64 0, .string ⟨#[]⟩] 27) rfl).bel (Below.refl _ _).drew)
          have HTH := Lib.hid (selQ_th hq l1 l2)
          by_cases hin : 0 ≤ pat ∧ pat < (selQ q n k : Nat)
          · obtain ⟨hin1, hin2⟩ := hin
            have HC : Hid (KCase q n k pat ⟨1, pm.tmod 1000, ⟨#[]⟩⟩ 0 l1 l2 (selQ q (l1.set pat.toNat ⟨1, pm.tmod 1000, ⟨#[]⟩⟩) l1) (selQ q l2 (l2.set pat.toNat ⟨1, pm.tmod 1000, ⟨#[]⟩⟩))) := .inl ⟨rfl, hin1, hin2, rfl, rfl⟩
            obtain ⟨j, rfl⟩ : ∃ j : Nat, pat = j := ⟨pat.toNat, by omega⟩
            rw [Int.toNat_natCast] at HC
            have hjl : j < (selQ q l1 l2).length := by rw [selQ_len HL1.out HL2.out]; omega
            have hjm : (selQ q l1 l2).length ≤ 1000000 := by rw [selQ_len HL1.out HL2.out]; unfold selQ; split <;> omega
            go_region_held3 (fun w' => w'.cell? ⟨wr.heap.size, 0, none⟩ = some (.int .i64 8) ∧ w'.cell? ⟨wr.heap.size, 1, none⟩ = some (.int .i64 q) ∧ w'.cell? ⟨wr.heap.size, 2, none⟩ = some (.string ⟨#[]⟩) ∧ w'.cell? ⟨xb, 0, none⟩ = some (.int .i64 1) ∧ w'.cell? ⟨xb, 1, none⟩ = some (.int .i64 (pm.tmod 1000)) ∧ w'.cell? ⟨xb, 2, none⟩ = some (.string ⟨#[]⟩))
              (first | with_reducible exact two_cells HD0.out (b := wr.heap.size) (c := xb) (by simp) (by simp) | with_reducible exact two_cells HL1.out (b := wr.heap.size) (c := xb) (by simp) (by simp) | with_reducible exact two_cells HLD.out (b := wr.heap.size) (c := xb) (by simp) (by simp) | with_reducible exact two_cells HDZ.out (b := wr.heap.size) (c := xb) (by simp) (by simp) | with_reducible exact two_cells (HL1.out.new _ rfl) (b := wr.heap.size) (c := xb) (by simp) (by simp) | with_reducible exact two_cells ((HL1.out.new _ rfl).new _ (s := x1.heap.size + 1) (by simp)) (b := wr.heap.size) (c := xb) (by simp) (by simp) | with_reducible exact two_cells (HLD.out.new _ rfl) (b := wr.heap.size) (c := xb) (by simp) (by simp) | with_reducible exact two_cells (HLD.out.tail.set3 _ _ _) (b := wr.heap.size) (c := xb) (by simp) (by simp) | with_reducible exact two_cells (HLD.out.drop2.set3 _ _ _) (b := wr.heap.size) (c := xb) (by simp) (by simp) | fail)
              (first
                | (go_at_call 12; (with_reducible refine (num_any _ _).mono ?_); rintro e x1 ⟨rfl, hb⟩; (first | (with_reducible have HL1 := Lib.hid (HD0.out.bel hb)) | (with_reducible have HL1 := Lib.hid (HDZ.out.bel hb))); clear hb)
                | (go_at_call 11; (first
                    | (with_reducible refine (lw_set (HL1.out.new _ rfl) q q rfl HTH.out rfl hjm j ⟨1, pm.tmod 1000, ⟨#[]⟩⟩ hjl HMM.out (selQ_set hq l1 l2 j _) (by simp)).mono ?_)
                    | (with_reducible refine (lw_set ((HL1.out.new _ rfl).new _ (s := x1.heap.size + 1) (by simp)) q q rfl HTH.out rfl hjm j ⟨1, pm.tmod 1000, ⟨#[]⟩⟩ hjl HMM.out (selQ_set hq l1 l2 j _) (by simp)).mono ?_)); rintro e x2 ⟨rfl, hL, hz⟩; have HLD := Lib.hid hL; clear hL hz; (first | (with_reducible obtain ⟨z0, z1, z2, y0, y1, y2⟩ := zer_cells HLD.out (List.mem_cons_self ..)) | (with_reducible obtain ⟨z0, z1, z2, y0, y1, y2⟩ := zer_cells HLD.out (List.mem_cons_of_mem _ (List.mem_cons_self ..))) | skip))
                | fail)
            all_goals go_wp2_with fail
            all_goals
              go_meet
              case rel => exact ⟨_, _, _, _, _, rfl, rfl, HC, (by first | with_reducible exact Lib.hid (HLD.out.tail.new _ rfl) | with_reducible exact Lib.hid (HLD.out.tail.set3 _ _ _) | with_reducible exact Lib.hid (HLD.out.drop2.set3 _ _ _) | fail)⟩
          · have hout : pat < 0 ∨ ((selQ q n k : Nat) : Int) ≤ pat := by omega
            have HC : Hid (KCase q n k pat ⟨1, pm.tmod 1000, ⟨#[]⟩⟩ 83 l1 l2 l1 l2) := .inr ⟨rfl, hout, rfl, rfl⟩
            have hjl : pat < 0 ∨ (((selQ q l1 l2).length : Nat) : Int) ≤ pat := by rw [selQ_len HL1.out HL2.out]; exact hout
            have hjm : (selQ q l1 l2).length ≤ 1000000 := by rw [selQ_len HL1.out HL2.out]; unfold selQ; split <;> omega
            have HJL := Lib.hid hjl
            have HNN : Hid (isN pat = true) := isN_iff.2 (by omega)
            clear hin hout hjl
            go_region_held3 (fun w' => w'.cell? ⟨wr.heap.size, 0, none⟩ = some (.int .i64 8) ∧ w'.cell? ⟨wr.heap.size, 1, none⟩ = some (.int .i64 q) ∧ w'.cell? ⟨wr.heap.size, 2, none⟩ = some (.string ⟨#[]⟩) ∧ w'.cell? ⟨xb, 0, none⟩ = some (.int .i64 1) ∧ w'.cell? ⟨xb, 1, none⟩ = some (.int .i64 (pm.tmod 1000)) ∧ w'.cell? ⟨xb, 2, none⟩ = some (.string ⟨#[]⟩))
              (first | with_reducible exact two_cells HD0.out (b := wr.heap.size) (c := xb) (by simp) (by simp) | with_reducible exact two_cells HL1.out (b := wr.heap.size) (c := xb) (by simp) (by simp) | with_reducible exact two_cells HLD.out (b := wr.heap.size) (c := xb) (by simp) (by simp) | with_reducible exact two_cells HDZ.out (b := wr.heap.size) (c := xb) (by simp) (by simp) | with_reducible exact two_cells (HL1.out.new _ rfl) (b := wr.heap.size) (c := xb) (by simp) (by simp) | with_reducible exact two_cells ((HL1.out.new _ rfl).new _ (s := x1.heap.size + 1) (by simp)) (b := wr.heap.size) (c := xb) (by simp) (by simp) | with_reducible exact two_cells (HLD.out.new _ rfl) (b := wr.heap.size) (c := xb) (by simp) (by simp) | with_reducible exact two_cells (HLD.out.tail.set3 _ _ _) (b := wr.heap.size) (c := xb) (by simp) (by simp) | with_reducible exact two_cells (HLD.out.drop2.set3 _ _ _) (b := wr.heap.size) (c := xb) (by simp) (by simp) | fail)
              (first
                | (go_at_call 12; (with_reducible refine (num_any _ _).mono ?_); rintro e x1 ⟨rfl, hb⟩; (first | (with_reducible have HL1 := Lib.hid (HD0.out.bel hb)) | (with_reducible have HL1 := Lib.hid (HDZ.out.bel hb))); clear hb)
                | (go_at_call 11; (first
                    | (with_reducible refine (lw_set_out (HL1.out.new _ rfl) q q rfl HTH.out rfl hjm pat ⟨1, pm.tmod 1000, ⟨#[]⟩⟩ HJL.out HNN.out HMM.out (by simp)).mono ?_)
                    | (with_reducible refine (lw_set_out ((HL1.out.new _ rfl).new _ (s := x1.heap.size + 1) (by simp)) q q rfl HTH.out rfl hjm pat ⟨1, pm.tmod 1000, ⟨#[]⟩⟩ HJL.out HNN.out HMM.out (by simp)).mono ?_)); rintro e x2 ⟨rfl, hL, hz⟩; have HLD := Lib.hid hL; clear hL hz; (first | (with_reducible obtain ⟨z0, z1, z2, y0, y1, y2⟩ := zer_cells HLD.out (List.mem_cons_self ..)) | (with_reducible obtain ⟨z0, z1, z2, y0, y1, y2⟩ := zer_cells HLD.out (List.mem_cons_of_mem _ (List.mem_cons_self ..))) | skip))
                | fail)
            all_goals go_wp2_with fail
            all_goals
              go_meet
              case rel => exact ⟨_, _, _, _, _, rfl, rfl, HC, (by first | with_reducible exact Lib.hid (HLD.out.tail.new _ rfl) | with_reducible exact Lib.hid (HLD.out.tail.set3 _ _ _) | with_reducible exact Lib.hid (HLD.out.drop2.set3 _ _ _) | fail)⟩
        case rest =>
          obtain ⟨rb, o, er, l1', l2', rfl, rfl, HC, HZ⟩ := hcut
          have HQL := Lib.hid (selQ_len (q := q) HL1.out HL2.out)
          go_upto_region 29 with fail
          go_cut [170] from 103 to 224 (fun s170 wx => s170 = .bool false ∧ wx = wc)
          case first =>
            rcases HC.out with ⟨rfl, e1, e2, _, _⟩ | ⟨rfl, e1, _, _⟩
            · have v1 : decide (0 ≤ pat) = true := decide_eq_true e1
              have v2 : decide (pat < ((selQ q n k : Nat) : Int)) = true := decide_eq_true e2
              go_wp2_with fail
              go_meet
              case rel => exact ⟨rfl, rfl⟩
            · have hor : decide (0 ≤ pat) = false ∨ (decide (0 ≤ pat) = true ∧ decide (pat < ((selQ q n k : Nat) : Int)) = false) := by
                simp only [decide_eq_true_eq, decide_eq_false_iff_not]
                omega
              clear e1
              rcases hor with v1 | ⟨v1, v2⟩
              all_goals
                go_wp2_with fail
                go_meet
                case rel => exact ⟨rfl, rfl⟩
          case rest =>
            obtain ⟨rfl, rfl⟩ := hcut
            go_upto_if 172 with fail
            go_cut [] from 103 to 224 (fun wx => KSt w wx ob tb bb ab nb l1' l2' ∧ l1'.length = n ∧ l2'.length = k)
            case first =>
              rcases HC.out with ⟨rfl, e1, e2, rfl, rfl⟩ | ⟨rfl, e1, rfl, rfl⟩
              · obtain ⟨j, rfl⟩ : ∃ j : Nat, pat = j := ⟨pat.toNat, by omega⟩
                rw [Int.toNat_natCast] at HZ
                have hjl : j < (selQ q l1 l2).length := by rw [HQL.out]; omega
                obtain ⟨u, hu⟩ : ∃ u, (selQ q l1 l2)[j]? = some u := ⟨_, List.getElem?_eq_getElem hjl⟩
                obtain ⟨x0, x1, x2, xf, xbl⟩ := HZ.out.part (selQ_mem q hq) hu
                have xf0 := xf (j * 3)
                have xf1 := xf (j * 3 + 1)
                have xf2 := xf (j * 3 + 2)
                have c0 := HZ.out.cells (b := xb) (cs := #[.int .i64 1, .int .i64 (pm.tmod 1000), .string ⟨#[]⟩]) (t := 27) (by simp) 0
                have c1 := HZ.out.cells (b := xb) (cs := #[.int .i64 1, .int .i64 (pm.tmod 1000), .string ⟨#[]⟩]) (t := 27) (by simp) 1
                have c2 := HZ.out.cells (b := xb) (cs := #[.int .i64 1, .int .i64 (pm.tmod 1000), .string ⟨#[]⟩]) (t := 27) (by simp) 2
                simp only [List.getElem?_toArray, List.getElem?_cons_zero, List.getElem?_cons_succ] at c0 c1 c2
                have hj1 : (0 : Int) ≤ j := by omega
                have hj2 : (j : Int) < ((selQ q n k : Nat) : Int) := e2
                have HST := Lib.hid (kp_store HZ.out q hq j ⟨1, pm.tmod 1000, ⟨#[]⟩⟩ hjl)
                clear xf hu e1 e2
                go_wp2_with fail
                go_meet
                case rel => exact ⟨HST.out.tail.tail.tail, by unfold selQ; split <;> simp [HL1.out], by unfold selQ; split <;> simp [HL2.out]⟩
              · go_wp2_with fail
                go_meet
                case rel => exact ⟨HZ.out.tail.tail.tail, HL1.out, HL2.out⟩
            case rest =>
              obtain ⟨hF, hl1, hl2⟩ := hcut
              have HF := Lib.hid hF
              have HM1 := Lib.hid hl1
              have HM2 := Lib.hid hl2
              clear hF hl1 hl2 HZ HX HC HQL HS
              go_wp2_with fail
              refine keeps_loop4 w _ n k ob tb bb ab nb l1' l2' hn hk HM1 HM2 HF _ _ _ _ _ _ _ _ _ _ _ _ _ _ _ _ _ _ _ _ _ _ _ _ _ _ _ _ _ _ _ _ _ _ _ _ _ _ _ _ _ _ _ _ _ _ _ _ _ _ _ _ _ _ _ _ _ _ _ _ _ _ _ _ _ _ _ _ _ _ _ _ _ _ _ _ _ _ _ _ _ _ _ _ _ _ _ _ _ _ _ _ _ _ _ _ _ _ _ _ _ _ _ _ _ _ _ _ _ _ _ _ _ _ _ _ _ _ _ _ _ _ _ _ _ _ _ _ _ _ _ _ _ _ _ _ _ _ _ _ _ _ _ _ _ _ _ _ _ _ _ _ _ _ _ _ _ _ _ _ _ _ _ _ _ _ _ _ _ _ _ _ _ _ _ _ _ _ _ _ _ _ _ _ _ _ _ _ _ _ _ _ _ _ _ _ _ _ _ _ _ _ _ _ _ _ _ _ _ _ _ _ _ _ _ _ _ _ _ _ _ _ ?_
              intro p6 p25 p26 p177 p178 p179 p180 p181 p182 p183 p184 p185 p186 p187 p188 p189 p190 p191 p192 p193 p194 p195 p196 p197 p198 p199 p200 wx4 HF4
              clear HF
              go_wp2_with fail
              refine keeps_loop5 w _ n k ob tb bb ab nb l1' l2' hn hk HM1 HM2 HF4 _ _ _ _ _ _ _ _ _ _ _ _ _ _ _ _ _ _ _ _ _ _ _ _ _ _ _ _ _ _ _ _ _ _ _ _ _ _ _ _ _ _ _ _ _ _ _ _ _ _ _ _ _ _ _ _ _ _ _ _ _ _ _ _ _ _ _ _ _ _ _ _ _ _ _ _ _ _ _ _ _ _ _ _ _ _ _ _ _ _ _ _ _ _ _ _ _ _ _ _ _ _ _ _ _ _ _ _ _ _ _ _ _ _ _ _ _ _ _ _ _ _ _ _ _ _ _ _ _ _ _ _ _ _ _ _ _ _ _ _ _ _ _ _ _ _ _ _ _ _ _ _ _ _ _ _ _ _ _ _ _ _ _ _ _ _ _ _ _ _ _ _ _ _ _ _ _ _ _ _ _ _ _ _ _ _ _ _ _ _ _ _ _ _ _ _ _ _ _ _ _ _ _ _ _ _ _ _ _ _ _ _ _ _ _ _ _ _ _ _ _ ?_
              intro q6 q28 q29 q201 q202 q203 q204 q205 q206 q207 q208 q209 q210 q211 q212 q213 q214 q215 q216 q217 q218 q219 q220 q221 q222 q223 q224 wx5 HF5
              clear HF4
              go_wp2_with fail
              exact HK.out _ _ _ _ _ _ _ _ _ _ _ _ _ _ _ _ _ _ _ _ _ _ _ _ _ _ _ _ _ _ _ _ _ _ _ _ _ _ _ _ _ _ _ _ _ _ _ _ _ _ _ _ _ _ _ _ _ _ _ _ _ _ _ _ _ _ _ _ _ _ _ _ _ _ _ _ _ _ _ _ _ _ _ _ _ _ _ _ _ _ _ _ _ _ _ _ _ _ _ _ _ _ _ _ _ _ _ _ _ _ _ _ _ _ _ _ _ _ _ _ _ _ _ _ _ _ _ _ _ _ _ _ _ _ _ _ l1' l2' HM1.out HM2.out (HF5)
      · have hor : decide (pat < -1000) = true ∨ (decide (pat < -1000) = false ∧ decide (1000 < pat) = true) := by
          simp only [decide_eq_true_eq, decide_eq_false_iff_not]
          omega
        clear hr
        rcases hor with h1 | ⟨h1, h2⟩
        all_goals
          go_wp2_with fail
          exact HK.out _ _ _ _ _ _ _ _ _ _ _ _ _ _ _ _ _ _ _ _ _ _ _ _ _ _ _ _ _ _ _ _ _ _ _ _ _ _ _ _ _ _ _ _ _ _ _ _ _ _ _ _ _ _ _ _ _ _ _ _ _ _ _ _ _ _ _ _ _ _ _ _ _ _ _ _ _ _ _ _ _ _ _ _ _ _ _ _ _ _ _ _ _ _ _ _ _ _ _ _ _ _ _ _ _ _ _ _ _ _ _ _ _ _ _ _ _ _ _ _ _ _ _ _ _ _ _ _ _ _ _ _ _ _ _ _ l1 l2 HL1.out HL2.out (Lib.hid HX.out.tail.tail)
end Go.Proofs.Ythbnhneibpoooaa
