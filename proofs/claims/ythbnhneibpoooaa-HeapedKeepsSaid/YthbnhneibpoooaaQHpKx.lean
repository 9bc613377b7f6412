/- HeapedKeeps: its two inner loops. -/
import Derived.Test.YthbnhneibpoooaaQML
import Derived.Deep.DeepCutAuto
set_option linter.unusedVariables false
set_option linter.unusedSimpArgs false
set_option linter.unnecessarySimpa false
namespace Go.Proofs.Ythbnhneibpoooaa
open Go.RowKit
set_option linter.unusedVariables false
set_option linter.unusedSimpArgs false
set_option linter.unnecessarySimpa false
/-- A slice of rows of three numbers. -/
def PSl (w : World) (v : Value) (l : List (Int × Int × Int)) : Prop :=
  ∃ a cap, v = .slice a l.length cap ∧ (l = [] ∨ ∃ b off, a = some ⟨b, off, none⟩ ∧ b < w.heap.size ∧ ∀ (i : Nat) (x : Int × Int × Int), l[i]? = some x → w.cell? ⟨b, off + i * 3, none⟩ = some (.int .i64 x.1) ∧ w.cell? ⟨b, off + i * 3 + 1, none⟩ = some (.int .i64 x.2.1) ∧ w.cell? ⟨b, off + i * 3 + 2, none⟩ = some (.int .i64 x.2.2))
def nulV : Hp.V := ⟨4, 0, ⟨#[]⟩⟩
/-- The law's state: the vectors' things, and the law's own rows with the same values. -/
abbrev KSt (w wx : World) (ob tb bb ab nb : Nat) (l1 l2 : List Hp.V) : Prop := Lw w wx w.heap.size [⟨1, l1⟩, ⟨1, l2⟩] [(tb, .cells (Hp.flatV l2).toArray 27 (0, 0)), (ob, .cells (Hp.flatV l1).toArray 27 (0, 0)), (bb, .cells #[.int .i64 8, .int .i64 1, .string ⟨#[]⟩] 27 (0, 0)), (ab, .cells #[.int .i64 8, .int .i64 0, .string ⟨#[]⟩] 27 (0, 0)), (nb, .cells #[.int .i64 4, .int .i64 0, .string ⟨#[]⟩] 27 (0, 0))]
def selQ {α : Type} (q : Nat) (x y : α) : α := if q = 0 then x else y
/-- A row that is filled so far. -/
def fillV (n i : Nat) : List Hp.V := List.replicate i nulV ++ List.replicate (n - i) Hp.none
theorem fillV_zero (n : Nat) : fillV n 0 = List.replicate n Hp.none := by simp [fillV]
theorem fillV_end (n : Nat) : fillV n n = List.replicate n nulV := by simp [fillV]
theorem fillV_len {n i : Nat} (h : i ≤ n) : (fillV n i).length = n := by simp [fillV]; omega
theorem fillV_at {n i : Nat} (h : i < n) : (fillV n i)[i]? = some Hp.none := by
  unfold fillV
  rw [List.getElem?_append_right (by simp), List.getElem?_replicate]
  simp
  omega
theorem fillV_set {n i : Nat} (h : i < n) : (fillV n i).set i ⟨4, 0, ⟨#[]⟩⟩ = fillV n (i + 1) := by
  unfold fillV
  rw [List.set_append_right _ _ (by simp)]
  obtain ⟨m, hm⟩ : ∃ m, n - i = m + 1 := ⟨n - i - 1, by omega⟩
  have hm2 : n - (i + 1) = m := by omega
  rw [hm, hm2, List.replicate_succ, List.replicate_succ']
  simp [nulV]
theorem selQ_len {q n k : Nat} {l1 l2 : List Hp.V} (h1 : l1.length = n) (h2 : l2.length = k) : (selQ q l1 l2).length = selQ q n k := by
  unfold selQ
  split
  · exact h1
  · exact h2
theorem selQ_th {q : Nat} (hq : q = 0 ∨ q = 1) (l1 l2 : List Hp.V) : ([⟨1, l1⟩, ⟨1, l2⟩] : List Hp.Th)[q]? = some ⟨1, selQ q l1 l2⟩ := by
  rcases hq with rfl | rfl <;> rfl
theorem selQ_set {q : Nat} (hq : q = 0 ∨ q = 1) (l1 l2 : List Hp.V) (j : Nat) (v : Hp.V) : ([⟨1, l1⟩, ⟨1, l2⟩] : List Hp.Th).set q ⟨1, (selQ q l1 l2).set j v⟩ = [⟨1, selQ q (l1.set j v) l1⟩, ⟨1, selQ q l2 (l2.set j v)⟩] := by
  rcases hq with rfl | rfl <;> rfl
/-- What vector-set! did to the two vectors. -/
def KCase (q n k : Nat) (pat : Int) (v : Hp.V) (er : Int) (l1 l2 l1' l2' : List Hp.V) : Prop :=
  (er = 0 ∧ 0 ≤ pat ∧ pat < (selQ q n k : Nat) ∧ l1' = selQ q (l1.set pat.toNat v) l1 ∧ l2' = selQ q l2 (l2.set pat.toNat v)) ∨ (er = 83 ∧ (pat < 0 ∨ ((selQ q n k : Nat) : Int) ≤ pat) ∧ l1' = l1 ∧ l2' = l2)
theorem kp_store {w0 w : World} {h : Nat} {T : List Hp.Th} {L : List (Nat × Obj)} {r x v : Nat × Obj} {tb ob : Nat} {l1 l2 : List Hp.V} {t : TypeId} (H : Lw w0 w h T (r :: x :: v :: (tb, .cells (Hp.flatV l2).toArray t (0, 0)) :: (ob, .cells (Hp.flatV l1).toArray t (0, 0)) :: L)) (q : Nat) (hq : q = 0 ∨ q = 1) (j : Nat) (u : Hp.V) (hj : j < (selQ q l1 l2).length) :
    Lw w0 (((w.setCell ⟨selQ q ob tb, j * 3, none⟩ (.int .i64 u.kind)).setCell ⟨selQ q ob tb, j * 3 + 1, none⟩ (.int .i64 u.int)).setCell ⟨selQ q ob tb, j * 3 + 2, none⟩ (.string u.text)) h T (r :: x :: v :: (tb, .cells (Hp.flatV (selQ q l2 (l2.set j u))).toArray t (0, 0)) :: (ob, .cells (Hp.flatV (selQ q (l1.set j u) l1)).toArray t (0, 0)) :: L) := by
  rcases hq with rfl | rfl
  · have h1 := H.perm (L' := (ob, .cells (Hp.flatV l1).toArray t (0, 0)) :: ([r, x, v, (tb, .cells (Hp.flatV l2).toArray t (0, 0))] ++ L)) (List.perm_middle (l₁ := [r, x, v, (tb, .cells (Hp.flatV l2).toArray t (0, 0))]))
    exact (h1.store j u hj).perm (List.perm_middle (l₁ := [r, x, v, (tb, .cells (Hp.flatV l2).toArray t (0, 0))])).symm
  · have h1 := H.perm (L' := (tb, .cells (Hp.flatV l2).toArray t (0, 0)) :: ([r, x, v] ++ ((ob, .cells (Hp.flatV l1).toArray t (0, 0)) :: L))) (List.perm_middle (l₁ := [r, x, v]))
    exact (h1.store j u hj).perm (List.perm_middle (l₁ := [r, x, v])).symm
theorem selQ_mem {L : List (Nat × Obj)} {r x v : Nat × Obj} {tb ob : Nat} {l1 l2 : List Hp.V} {t : TypeId} (q : Nat) (hq : q = 0 ∨ q = 1) : (selQ q ob tb, Obj.cells (Hp.flatV (selQ q l1 l2)).toArray t (0, 0)) ∈ (r :: x :: v :: (tb, .cells (Hp.flatV l2).toArray t (0, 0)) :: (ob, .cells (Hp.flatV l1).toArray t (0, 0)) :: L) := by
  rcases hq with rfl | rfl <;> simp [selQ]
theorem may_nul (n : Nat) : Hp.may n ⟨4, 0, ⟨#[]⟩⟩ = true := by simp [Hp.may]
theorem one_cells {w0 w : World} {h : Nat} {T : List Hp.Th} {L : List (Nat × Obj)} (H : Lw w0 w h T L) {b : Nat} {x y z : Value} (hx : (b, Obj.cells #[x, y, z] 27 (0, 0)) ∈ L) : w.cell? ⟨b, 0, none⟩ = some x ∧ w.cell? ⟨b, 1, none⟩ = some y ∧ w.cell? ⟨b, 2, none⟩ = some z := ⟨H.cells hx 0, H.cells hx 1, H.cells hx 2⟩
theorem two_cells {w0 w : World} {h : Nat} {T : List Hp.Th} {L : List (Nat × Obj)} (H : Lw w0 w h T L) {b c : Nat} {x y z x' y' z' : Value} (hx : (b, Obj.cells #[x, y, z] 27 (0, 0)) ∈ L) (hy : (c, Obj.cells #[x', y', z'] 27 (0, 0)) ∈ L) : w.cell? ⟨b, 0, none⟩ = some x ∧ w.cell? ⟨b, 1, none⟩ = some y ∧ w.cell? ⟨b, 2, none⟩ = some z ∧ w.cell? ⟨c, 0, none⟩ = some x' ∧ w.cell? ⟨c, 1, none⟩ = some y' ∧ w.cell? ⟨c, 2, none⟩ = some z' := ⟨H.cells hx 0, H.cells hx 1, H.cells hx 2, H.cells hy 0, H.cells hy 1, H.cells hy 2⟩
theorem nul_cells {w0 w : World} {h : Nat} {T : List Hp.Th} {L : List (Nat × Obj)} (H : Lw w0 w h T L) {b : Nat} (hx : (b, Obj.cells #[.int .i64 4, .int .i64 0, .string ⟨#[]⟩] 27 (0, 0)) ∈ L) : w.cell? ⟨b, 0, none⟩ = some (.int .i64 4) ∧ w.cell? ⟨b, 1, none⟩ = some (.int .i64 0) ∧ w.cell? ⟨b, 2, none⟩ = some (.string ⟨#[]⟩) := ⟨H.cells hx 0, H.cells hx 1, H.cells hx 2⟩
theorem zer_cells {w0 w : World} {h : Nat} {T : List Hp.Th} {L : List (Nat × Obj)} (H : Lw w0 w h T L) {b : Nat} (hx : (b, Obj.cells #[.int .i64 0, .int .i64 0, .string ⟨#[]⟩] 27 (0, 0)) ∈ L) : w.cell? ⟨b, 0, none⟩ = some (.int .i64 0) ∧ w.cell? ⟨b, 1, none⟩ = some (.int .i64 0) ∧ w.cell? ⟨b, 2, none⟩ = some (.string ⟨#[]⟩) ∧ w.frozen? ⟨b, 0, none⟩ = false ∧ w.frozen? ⟨b, 1, none⟩ = false ∧ w.frozen? ⟨b, 2, none⟩ = false :=
  ⟨H.cells hx 0, H.cells hx 1, H.cells hx 2, frozen_of_row w _ 0 _ _ (H.find hx).1, frozen_of_row w _ 1 _ _ (H.find hx).1, frozen_of_row w _ 2 _ _ (H.find hx).1⟩
/-- The loops in a code, each ahead of those in it. -/
def loopsOf : Code → List Code
  | .loop c => .loop c :: loopsOf c
  | .seq a b => loopsOf a ++ loopsOf b
  | .block _ c => loopsOf c
  | .scope c => loopsOf c
  | .cond _ a b => loopsOf a ++ loopsOf b
  | _ => []
noncomputable def keepsL4 : Code := ((Try.f3.body.map loopsOf).getD []).getD 3 .skip
noncomputable def keepsL5 : Code := ((Try.f3.body.map loopsOf).getD []).getD 4 .skip
set_option maxHeartbeats 40000000 in
set_option maxRecDepth 1000000 in
theorem keeps_loop4 (w wc : World) (n k ob tb bb ab nb : Nat) (l1' l2' : List Hp.V) (hn : n ≤ 40) (hk : k ≤ 40) (HM1 : Hid (l1'.length = n)) (HM2 : Hid (l2'.length = k)) (HF : Hid (KSt w wc ob tb bb ab nb l1' l2')) (c2 c3 c4 c5 c6 c8 c10 c12 c15 c16 c17 c18 c19 c20 c21 c22 c23 c25 c26 c27 c28 c29 c30 c31 c32 c33 c34 c35 c36 c37 c38 c39 c40 c41 c42 c43 c44 c45 c46 c47 c48 c49 c50 c51 c52 c53 c54 c55 c56 c57 c58 c59 c60 c61 c62 c63 c64 c65 c66 c67 c68 c69 c70 c71 c72 c73 c74 c75 c76 c77 c78 c79 c80 c81 c82 c83 c84 c85 c86 c87 c88 c89 c90 c91 c92 c93 c94 c95 c96 c97 c98 c99 c100 c101 c102 c103 c104 c105 c106 c107 c108 c109 c110 c111 c112 c113 c114 c115 c116 c117 c118 c119 c120 c121 c122 c123 c124 c125 c126 c127 c128 c129 c130 c131 c132 c133 c134 c135 c136 c137 c138 c139 c140 c141 c142 c143 c144 c145 c146 c147 c148 c149 c150 c151 c152 c153 c154 c155 c156 c157 c158 c159 c160 c161 c162 c163 c164 c165 c166 c167 c168 c169 c170 c171 c172 c173 c174 c175 c176 c177 c178 c179 c180 c181 c182 c183 c184 c185 c186 c187 c188 c189 c190 c191 c192 c193 c194 c195 c196 c197 c198 c199 c200 c201 c202 c203 c204 c205 c206 c207 c208 c209 c210 c211 c212 c213 c214 c215 c216 c217 c218 c219 c220 c221 c222 c223 c224 c225 c226 c227 : Value) (K : Act → World → Prop) (Q : Exit → Act → World → Prop)
    (hK : ∀ (u6 u25 u26 u177 u178 u179 u180 u181 u182 u183 u184 u185 u186 u187 u188 u189 u190 u191 u192 u193 u194 u195 u196 u197 u198 u199 u200 : Value) (wx : World), Hid (KSt w wx ob tb bb ab nb l1' l2') → K ⟨List.toArray (.int .i64 n :: .int .i64 k :: c2 :: c3 :: c4 :: c5 :: u6 :: .pointer (some ⟨w.heap.size, 0, none⟩) :: c8 :: .pointer (some ⟨ab, 0, none⟩) :: c10 :: .pointer (some ⟨bb, 0, none⟩) :: c12 :: .slice (some ⟨ob, 0, none⟩) n n :: .slice (some ⟨tb, 0, none⟩) k k :: c15 :: c16 :: c17 :: c18 :: c19 :: c20 :: c21 :: c22 :: c23 :: .int .i64 n :: u25 :: u26 :: c27 :: c28 :: c29 :: c30 :: c31 :: c32 :: c33 :: c34 :: c35 :: c36 :: c37 :: c38 :: c39 :: c40 :: c41 :: c42 :: c43 :: c44 :: c45 :: c46 :: c47 :: c48 :: c49 :: c50 :: c51 :: c52 :: c53 :: c54 :: c55 :: c56 :: c57 :: c58 :: c59 :: c60 :: c61 :: c62 :: c63 :: c64 :: c65 :: c66 :: c67 :: c68 :: c69 :: c70 :: c71 :: c72 :: c73 :: c74 :: c75 :: c76 :: c77 :: c78 :: c79 :: c80 :: c81 :: c82 :: c83 :: c84 :: c85 :: c86 :: c87 :: c88 :: c89 :: c90 :: c91 :: c92 :: c93 :: c94 :: c95 :: c96 :: c97 :: c98 :: c99 :: c100 :: c101 :: c102 :: c103 :: c104 :: c105 :: c106 :: c107 :: c108 :: c109 :: c110 :: c111 :: c112 :: c113 :: c114 :: c115 :: c116 :: c117 :: c118 :: c119 :: c120 :: c121 :: c122 :: c123 :: c124 :: c125 :: c126 :: c127 :: c128 :: c129 :: c130 :: c131 :: c132 :: c133 :: c134 :: c135 :: c136 :: c137 :: c138 :: c139 :: c140 :: c141 :: c142 :: c143 :: c144 :: c145 :: c146 :: c147 :: c148 :: c149 :: c150 :: c151 :: c152 :: c153 :: c154 :: c155 :: c156 :: c157 :: c158 :: c159 :: c160 :: c161 :: c162 :: c163 :: c164 :: c165 :: c166 :: c167 :: c168 :: c169 :: c170 :: c171 :: c172 :: c173 :: c174 :: c175 :: c176 :: u177 :: u178 :: u179 :: u180 :: u181 :: u182 :: u183 :: u184 :: u185 :: u186 :: u187 :: u188 :: u189 :: u190 :: u191 :: u192 :: u193 :: u194 :: u195 :: u196 :: u197 :: u198 :: u199 :: u200 :: c201 :: c202 :: c203 :: c204 :: c205 :: c206 :: c207 :: c208 :: c209 :: c210 :: c211 :: c212 :: c213 :: c214 :: c215 :: c216 :: c217 :: c218 :: c219 :: c220 :: c221 :: c222 :: c223 :: c224 :: c225 :: c226 :: c227 :: []), []⟩ wx) :
    Code.wp Try.prog keepsL4 (Exit.inBlock 6 (Exit.then K Q)) ⟨List.toArray (.int .i64 n :: .int .i64 k :: c2 :: c3 :: c4 :: c5 :: c6 :: .pointer (some ⟨w.heap.size, 0, none⟩) :: c8 :: .pointer (some ⟨ab, 0, none⟩) :: c10 :: .pointer (some ⟨bb, 0, none⟩) :: c12 :: .slice (some ⟨ob, 0, none⟩) n n :: .slice (some ⟨tb, 0, none⟩) k k :: c15 :: c16 :: c17 :: c18 :: c19 :: c20 :: c21 :: c22 :: c23 :: .int .i64 0 :: c25 :: c26 :: c27 :: c28 :: c29 :: c30 :: c31 :: c32 :: c33 :: c34 :: c35 :: c36 :: c37 :: c38 :: c39 :: c40 :: c41 :: c42 :: c43 :: c44 :: c45 :: c46 :: c47 :: c48 :: c49 :: c50 :: c51 :: c52 :: c53 :: c54 :: c55 :: c56 :: c57 :: c58 :: c59 :: c60 :: c61 :: c62 :: c63 :: c64 :: c65 :: c66 :: c67 :: c68 :: c69 :: c70 :: c71 :: c72 :: c73 :: c74 :: c75 :: c76 :: c77 :: c78 :: c79 :: c80 :: c81 :: c82 :: c83 :: c84 :: c85 :: c86 :: c87 :: c88 :: c89 :: c90 :: c91 :: c92 :: c93 :: c94 :: c95 :: c96 :: c97 :: c98 :: c99 :: c100 :: c101 :: c102 :: c103 :: c104 :: c105 :: c106 :: c107 :: c108 :: c109 :: c110 :: c111 :: c112 :: c113 :: c114 :: c115 :: c116 :: c117 :: c118 :: c119 :: c120 :: c121 :: c122 :: c123 :: c124 :: c125 :: c126 :: c127 :: c128 :: c129 :: c130 :: c131 :: c132 :: c133 :: c134 :: c135 :: c136 :: c137 :: c138 :: c139 :: c140 :: c141 :: c142 :: c143 :: c144 :: c145 :: c146 :: c147 :: c148 :: c149 :: c150 :: c151 :: c152 :: c153 :: c154 :: c155 :: c156 :: c157 :: c158 :: c159 :: c160 :: c161 :: c162 :: c163 :: c164 :: c165 :: c166 :: c167 :: c168 :: c169 :: c170 :: c171 :: c172 :: c173 :: c174 :: c175 :: c176 :: c177 :: c178 :: c179 :: c180 :: c181 :: c182 :: c183 :: c184 :: c185 :: c186 :: c187 :: c188 :: c189 :: c190 :: c191 :: c192 :: c193 :: c194 :: c195 :: c196 :: c197 :: c198 :: c199 :: c200 :: c201 :: c202 :: c203 :: c204 :: c205 :: c206 :: c207 :: c208 :: c209 :: c210 :: c211 :: c212 :: c213 :: c214 :: c215 :: c216 :: c217 :: c218 :: c219 :: c220 :: c221 :: c222 :: c223 :: c224 :: c225 :: c226 :: c227 :: []), []⟩ wc := by
  have HK := Lib.hid hK
  clear hK
  unfold keepsL4
  conv => arg 2; whnf
  go_loopg [24] n (fun gk sj wx => ∃ (j : Nat), j ≤ n ∧ gk = n - j ∧ sj = .int .i64 j ∧ Hid (KSt w wx ob tb bb ab nb l1' l2'))
  case atStart => exact ⟨0, Nat.zero_le _, rfl, rfl, HF.out⟩
  case round =>
    obtain ⟨j, hj, rfl, rfl, HJ⟩ := hrel
    by_cases hjn : j < n
    · obtain ⟨u, hu⟩ : ∃ u, l1'[j]? = some u := ⟨_, List.getElem?_eq_getElem (by rw [HM1.out]; exact hjn)⟩
      have hj1 : (0 : Int) ≤ j := by omega
      have hj2 : (j : Int) < n := by omega
      have hgj : IntKind.i64.wrap ((j : Int) + 1) = j + 1 := by rw [IntKind.wrap_i64]; omega
      have HU := Lib.hid hu
      clear hu
      go_wp2_with fail
      go_cut [25, 26] from 177 to 200 (fun s25 s26 wx => ∃ yb, s25 = .pointer (some ⟨yb, 0, none⟩) ∧ s26 = .int .i64 0 ∧ Hid (Lw w wx w.heap.size [⟨1, l1'⟩, ⟨1, l2'⟩] [(yb, .cells #[.int .i64 u.kind, .int .i64 u.int, .string u.text] 27 (0, 0)), (tb, .cells (Hp.flatV l2').toArray 27 (0, 0)), (ob, .cells (Hp.flatV l1').toArray 27 (0, 0)), (bb, .cells #[.int .i64 8, .int .i64 1, .string ⟨#[]⟩] 27 (0, 0)), (ab, .cells #[.int .i64 8, .int .i64 0, .string ⟨#[]⟩] 27 (0, 0)), (nb, .cells #[.int .i64 4, .int .i64 0, .string ⟨#[]⟩] 27 (0, 0))]))
      case first =>
        have HD0 := Lib.hid (HJ.out.bel (Below.refl _ _).drew)
        have HDZ := Lib.hid ((HJ.out.new (.cells #[.int .i64 0, .int .i64 0, .string ⟨#[]⟩] 27) rfl).bel (Below.refl _ _).drew)
        have hlm : l1'.length ≤ 1000000 := by rw [HM1.out]; omega
        go_region_held3 (fun w' => w'.cell? ⟨ab, 0, none⟩ = some (.int .i64 8) ∧ w'.cell? ⟨ab, 1, none⟩ = some (.int .i64 0) ∧ w'.cell? ⟨ab, 2, none⟩ = some (.string ⟨#[]⟩))
          (first | with_reducible exact one_cells HD0.out (b := ab) (by simp) | with_reducible exact one_cells HLN.out (b := ab) (by simp) | with_reducible exact one_cells HLD.out (b := ab) (by simp) | with_reducible exact one_cells HDZ.out (b := ab) (by simp) | with_reducible exact one_cells (HLN.out.new _ rfl) (b := ab) (by simp) | with_reducible exact one_cells ((HLN.out.new _ rfl).new _ (s := x1.heap.size + 1) (by simp)) (b := ab) (by simp) | with_reducible exact one_cells (HLD.out.new _ rfl) (b := ab) (by simp) | with_reducible exact one_cells (HLD.out.tail.set3 _ _ _) (b := ab) (by simp) | with_reducible exact one_cells (HLD.out.drop2.set3 _ _ _) (b := ab) (by simp) | fail)
          (first
            | (go_at_call 12; (with_reducible refine (num_any _ _).mono ?_); rintro e x1 ⟨rfl, hb⟩; (first | (with_reducible have HLN := Lib.hid (HD0.out.bel hb)) | (with_reducible have HLN := Lib.hid (HDZ.out.bel hb))); clear hb)
            | (go_at_call 11; (first
                | (with_reducible refine (lw_ref (HLN.out.new _ rfl) 0 0 rfl (t := ⟨1, l1'⟩) rfl rfl hlm j u HU.out (by omega) (by simp)).mono ?_)
                | (with_reducible refine (lw_ref ((HLN.out.new _ rfl).new _ (s := x1.heap.size + 1) (by simp)) 0 0 rfl (t := ⟨1, l1'⟩) rfl rfl hlm j u HU.out (by omega) (by simp)).mono ?_)); rintro e x2 ⟨rfl, hL, hz⟩; have HLD := Lib.hid hL; clear hL hz; (first | (with_reducible obtain ⟨z0, z1, z2, y0, y1, y2⟩ := zer_cells HLD.out (List.mem_cons_self ..)) | (with_reducible obtain ⟨z0, z1, z2, y0, y1, y2⟩ := zer_cells HLD.out (List.mem_cons_of_mem _ (List.mem_cons_self ..))) | skip))
            | fail)
        all_goals go_wp2_with fail
        all_goals
          go_meet
          case rel => exact ⟨_, rfl, rfl, (by first | with_reducible exact Lib.hid (HLD.out.tail.new _ rfl) | with_reducible exact Lib.hid (HLD.out.tail.set3 _ _ _) | with_reducible exact Lib.hid (HLD.out.drop2.set3 _ _ _) | fail)⟩
      case rest =>
        obtain ⟨yb, rfl, rfl, HY⟩ := hcut
        obtain ⟨x0, x1, x2, _, _⟩ := HY.out.part (b := ob) (l := l1') (t := 27) (by simp) HU.out
        have c0 := HY.out.cells (List.mem_cons_self ..) 0
        have c1 := HY.out.cells (List.mem_cons_self ..) 1
        have c2 := HY.out.cells (List.mem_cons_self ..) 2
        simp only [List.getElem?_toArray, List.getElem?_cons_zero, List.getElem?_cons_succ] at c0 c1 c2
        have HYT := Lib.hid HY.out.tail
        go_wp2_with fail
        go_quiet (fail)
        go_wp2_with fail
        go_roundg (n - (j + 1))
        case measure => omega
        case rel => exact ⟨j + 1, by omega, rfl, by go_num, Lib.hid (HYT.out.bel (below_drewN (Below.refl _ _) _))⟩
    · obtain rfl : n = j := by omega
      go_wp2_with fail
      exact HK.out _ _ _ _ _ _ _ _ _ _ _ _ _ _ _ _ _ _ _ _ _ _ _ _ _ _ _ _ HJ
set_option maxHeartbeats 40000000 in
set_option maxRecDepth 1000000 in
theorem keeps_loop5 (w wc : World) (n k ob tb bb ab nb : Nat) (l1' l2' : List Hp.V) (hn : n ≤ 40) (hk : k ≤ 40) (HM1 : Hid (l1'.length = n)) (HM2 : Hid (l2'.length = k)) (HF : Hid (KSt w wc ob tb bb ab nb l1' l2')) (c2 c3 c4 c5 c6 c8 c10 c12 c15 c16 c17 c18 c19 c20 c21 c22 c23 c24 c25 c26 c28 c29 c30 c31 c32 c33 c34 c35 c36 c37 c38 c39 c40 c41 c42 c43 c44 c45 c46 c47 c48 c49 c50 c51 c52 c53 c54 c55 c56 c57 c58 c59 c60 c61 c62 c63 c64 c65 c66 c67 c68 c69 c70 c71 c72 c73 c74 c75 c76 c77 c78 c79 c80 c81 c82 c83 c84 c85 c86 c87 c88 c89 c90 c91 c92 c93 c94 c95 c96 c97 c98 c99 c100 c101 c102 c103 c104 c105 c106 c107 c108 c109 c110 c111 c112 c113 c114 c115 c116 c117 c118 c119 c120 c121 c122 c123 c124 c125 c126 c127 c128 c129 c130 c131 c132 c133 c134 c135 c136 c137 c138 c139 c140 c141 c142 c143 c144 c145 c146 c147 c148 c149 c150 c151 c152 c153 c154 c155 c156 c157 c158 c159 c160 c161 c162 c163 c164 c165 c166 c167 c168 c169 c170 c171 c172 c173 c174 c175 c176 c177 c178 c179 c180 c181 c182 c183 c184 c185 c186 c187 c188 c189 c190 c191 c192 c193 c194 c195 c196 c197 c198 c199 c200 c201 c202 c203 c204 c205 c206 c207 c208 c209 c210 c211 c212 c213 c214 c215 c216 c217 c218 c219 c220 c221 c222 c223 c224 c225 c226 c227 : Value) (Q : Exit → Act → World → Prop)
    (hK : ∀ (u6 u28 u29 u201 u202 u203 u204 u205 u206 u207 u208 u209 u210 u211 u212 u213 u214 u215 u216 u217 u218 u219 u220 u221 u222 u223 u224 : Value) (wx : World), Hid (KSt w wx ob tb bb ab nb l1' l2') → Q .normal ⟨List.toArray (.int .i64 n :: .int .i64 k :: c2 :: c3 :: c4 :: c5 :: u6 :: .pointer (some ⟨w.heap.size, 0, none⟩) :: c8 :: .pointer (some ⟨ab, 0, none⟩) :: c10 :: .pointer (some ⟨bb, 0, none⟩) :: c12 :: .slice (some ⟨ob, 0, none⟩) n n :: .slice (some ⟨tb, 0, none⟩) k k :: c15 :: c16 :: c17 :: c18 :: c19 :: c20 :: c21 :: c22 :: c23 :: c24 :: c25 :: c26 :: .int .i64 k :: u28 :: u29 :: c30 :: c31 :: c32 :: c33 :: c34 :: c35 :: c36 :: c37 :: c38 :: c39 :: c40 :: c41 :: c42 :: c43 :: c44 :: c45 :: c46 :: c47 :: c48 :: c49 :: c50 :: c51 :: c52 :: c53 :: c54 :: c55 :: c56 :: c57 :: c58 :: c59 :: c60 :: c61 :: c62 :: c63 :: c64 :: c65 :: c66 :: c67 :: c68 :: c69 :: c70 :: c71 :: c72 :: c73 :: c74 :: c75 :: c76 :: c77 :: c78 :: c79 :: c80 :: c81 :: c82 :: c83 :: c84 :: c85 :: c86 :: c87 :: c88 :: c89 :: c90 :: c91 :: c92 :: c93 :: c94 :: c95 :: c96 :: c97 :: c98 :: c99 :: c100 :: c101 :: c102 :: c103 :: c104 :: c105 :: c106 :: c107 :: c108 :: c109 :: c110 :: c111 :: c112 :: c113 :: c114 :: c115 :: c116 :: c117 :: c118 :: c119 :: c120 :: c121 :: c122 :: c123 :: c124 :: c125 :: c126 :: c127 :: c128 :: c129 :: c130 :: c131 :: c132 :: c133 :: c134 :: c135 :: c136 :: c137 :: c138 :: c139 :: c140 :: c141 :: c142 :: c143 :: c144 :: c145 :: c146 :: c147 :: c148 :: c149 :: c150 :: c151 :: c152 :: c153 :: c154 :: c155 :: c156 :: c157 :: c158 :: c159 :: c160 :: c161 :: c162 :: c163 :: c164 :: c165 :: c166 :: c167 :: c168 :: c169 :: c170 :: c171 :: c172 :: c173 :: c174 :: c175 :: c176 :: c177 :: c178 :: c179 :: c180 :: c181 :: c182 :: c183 :: c184 :: c185 :: c186 :: c187 :: c188 :: c189 :: c190 :: c191 :: c192 :: c193 :: c194 :: c195 :: c196 :: c197 :: c198 :: c199 :: c200 :: u201 :: u202 :: u203 :: u204 :: u205 :: u206 :: u207 :: u208 :: u209 :: u210 :: u211 :: u212 :: u213 :: u214 :: u215 :: u216 :: u217 :: u218 :: u219 :: u220 :: u221 :: u222 :: u223 :: u224 :: c225 :: c226 :: c227 :: []), []⟩ wx) :
    Code.wp Try.prog keepsL5 (Exit.inBlock 8 Q) ⟨List.toArray (.int .i64 n :: .int .i64 k :: c2 :: c3 :: c4 :: c5 :: c6 :: .pointer (some ⟨w.heap.size, 0, none⟩) :: c8 :: .pointer (some ⟨ab, 0, none⟩) :: c10 :: .pointer (some ⟨bb, 0, none⟩) :: c12 :: .slice (some ⟨ob, 0, none⟩) n n :: .slice (some ⟨tb, 0, none⟩) k k :: c15 :: c16 :: c17 :: c18 :: c19 :: c20 :: c21 :: c22 :: c23 :: c24 :: c25 :: c26 :: .int .i64 0 :: c28 :: c29 :: c30 :: c31 :: c32 :: c33 :: c34 :: c35 :: c36 :: c37 :: c38 :: c39 :: c40 :: c41 :: c42 :: c43 :: c44 :: c45 :: c46 :: c47 :: c48 :: c49 :: c50 :: c51 :: c52 :: c53 :: c54 :: c55 :: c56 :: c57 :: c58 :: c59 :: c60 :: c61 :: c62 :: c63 :: c64 :: c65 :: c66 :: c67 :: c68 :: c69 :: c70 :: c71 :: c72 :: c73 :: c74 :: c75 :: c76 :: c77 :: c78 :: c79 :: c80 :: c81 :: c82 :: c83 :: c84 :: c85 :: c86 :: c87 :: c88 :: c89 :: c90 :: c91 :: c92 :: c93 :: c94 :: c95 :: c96 :: c97 :: c98 :: c99 :: c100 :: c101 :: c102 :: c103 :: c104 :: c105 :: c106 :: c107 :: c108 :: c109 :: c110 :: c111 :: c112 :: c113 :: c114 :: c115 :: c116 :: c117 :: c118 :: c119 :: c120 :: c121 :: c122 :: c123 :: c124 :: c125 :: c126 :: c127 :: c128 :: c129 :: c130 :: c131 :: c132 :: c133 :: c134 :: c135 :: c136 :: c137 :: c138 :: c139 :: c140 :: c141 :: c142 :: c143 :: c144 :: c145 :: c146 :: c147 :: c148 :: c149 :: c150 :: c151 :: c152 :: c153 :: c154 :: c155 :: c156 :: c157 :: c158 :: c159 :: c160 :: c161 :: c162 :: c163 :: c164 :: c165 :: c166 :: c167 :: c168 :: c169 :: c170 :: c171 :: c172 :: c173 :: c174 :: c175 :: c176 :: c177 :: c178 :: c179 :: c180 :: c181 :: c182 :: c183 :: c184 :: c185 :: c186 :: c187 :: c188 :: c189 :: c190 :: c191 :: c192 :: c193 :: c194 :: c195 :: c196 :: c197 :: c198 :: c199 :: c200 :: c201 :: c202 :: c203 :: c204 :: c205 :: c206 :: c207 :: c208 :: c209 :: c210 :: c211 :: c212 :: c213 :: c214 :: c215 :: c216 :: c217 :: c218 :: c219 :: c220 :: c221 :: c222 :: c223 :: c224 :: c225 :: c226 :: c227 :: []), []⟩ wc := by
  have HK := Lib.hid hK
  clear hK
  unfold keepsL5
  conv => arg 2; whnf
  go_loopg [27] k (fun gk sj wx => ∃ (j : Nat), j ≤ k ∧ gk = k - j ∧ sj = .int .i64 j ∧ Hid (KSt w wx ob tb bb ab nb l1' l2'))
  case atStart => exact ⟨0, Nat.zero_le _, rfl, rfl, HF.out⟩
  case round =>
    obtain ⟨j, hj, rfl, rfl, HJ⟩ := hrel
    by_cases hjn : j < k
    · obtain ⟨u, hu⟩ : ∃ u, l2'[j]? = some u := ⟨_, List.getElem?_eq_getElem (by rw [HM2.out]; exact hjn)⟩
      have hj1 : (0 : Int) ≤ j := by omega
      have hj2 : (j : Int) < k := by omega
      have hgj : IntKind.i64.wrap ((j : Int) + 1) = j + 1 := by rw [IntKind.wrap_i64]; omega
      have HU := Lib.hid hu
      clear hu
      go_wp2_with fail
      go_cut [28, 29] from 201 to 224 (fun s25 s26 wx => ∃ yb, s25 = .pointer (some ⟨yb, 0, none⟩) ∧ s26 = .int .i64 0 ∧ Hid (Lw w wx w.heap.size [⟨1, l1'⟩, ⟨1, l2'⟩] [(yb, .cells #[.int .i64 u.kind, .int .i64 u.int, .string u.text] 27 (0, 0)), (tb, .cells (Hp.flatV l2').toArray 27 (0, 0)), (ob, .cells (Hp.flatV l1').toArray 27 (0, 0)), (bb, .cells #[.int .i64 8, .int .i64 1, .string ⟨#[]⟩] 27 (0, 0)), (ab, .cells #[.int .i64 8, .int .i64 0, .string ⟨#[]⟩] 27 (0, 0)), (nb, .cells #[.int .i64 4, .int .i64 0, .string ⟨#[]⟩] 27 (0, 0))]))
      case first =>
        have HD0 := Lib.hid (HJ.out.bel (Below.refl _ _).drew)
        have HDZ := Lib.hid ((HJ.out.new (.cells #[.int .i64 0, .int .i64 0, .string ⟨#[]⟩] 27) rfl).bel (Below.refl _ _).drew)
        have hlm : l2'.length ≤ 1000000 := by rw [HM2.out]; omega
        go_region_held3 (fun w' => w'.cell? ⟨bb, 0, none⟩ = some (.int .i64 8) ∧ w'.cell? ⟨bb, 1, none⟩ = some (.int .i64 1) ∧ w'.cell? ⟨bb, 2, none⟩ = some (.string ⟨#[]⟩))
          (first | with_reducible exact one_cells HD0.out (b := bb) (by simp) | with_reducible exact one_cells HLN.out (b := bb) (by simp) | with_reducible exact one_cells HLD.out (b := bb) (by simp) | with_reducible exact one_cells HDZ.out (b := bb) (by simp) | with_reducible exact one_cells (HLN.out.new _ rfl) (b := bb) (by simp) | with_reducible exact one_cells ((HLN.out.new _ rfl).new _ (s := x1.heap.size + 1) (by simp)) (b := bb) (by simp) | with_reducible exact one_cells (HLD.out.new _ rfl) (b := bb) (by simp) | with_reducible exact one_cells (HLD.out.tail.set3 _ _ _) (b := bb) (by simp) | with_reducible exact one_cells (HLD.out.drop2.set3 _ _ _) (b := bb) (by simp) | fail)
          (first
            | (go_at_call 12; (with_reducible refine (num_any _ _).mono ?_); rintro e x1 ⟨rfl, hb⟩; (first | (with_reducible have HLN := Lib.hid (HD0.out.bel hb)) | (with_reducible have HLN := Lib.hid (HDZ.out.bel hb))); clear hb)
            | (go_at_call 11; (first
                | (with_reducible refine (lw_ref (HLN.out.new _ rfl) 1 1 rfl (t := ⟨1, l2'⟩) rfl rfl hlm j u HU.out (by omega) (by simp)).mono ?_)
                | (with_reducible refine (lw_ref ((HLN.out.new _ rfl).new _ (s := x1.heap.size + 1) (by simp)) 1 1 rfl (t := ⟨1, l2'⟩) rfl rfl hlm j u HU.out (by omega) (by simp)).mono ?_)); rintro e x2 ⟨rfl, hL, hz⟩; have HLD := Lib.hid hL; clear hL hz; (first | (with_reducible obtain ⟨z0, z1, z2, y0, y1, y2⟩ := zer_cells HLD.out (List.mem_cons_self ..)) | (with_reducible obtain ⟨z0, z1, z2, y0, y1, y2⟩ := zer_cells HLD.out (List.mem_cons_of_mem _ (List.mem_cons_self ..))) | skip))
            | fail)
        all_goals go_wp2_with fail
        all_goals
          go_meet
          case rel => exact ⟨_, rfl, rfl, (by first | with_reducible exact Lib.hid (HLD.out.tail.new _ rfl) | with_reducible exact Lib.hid (HLD.out.tail.set3 _ _ _) | with_reducible exact Lib.hid (HLD.out.drop2.set3 _ _ _) | fail)⟩
      case rest =>
        obtain ⟨yb, rfl, rfl, HY⟩ := hcut
        obtain ⟨x0, x1, x2, _, _⟩ := HY.out.part (b := tb) (l := l2') (t := 27) (by simp) HU.out
        have c0 := HY.out.cells (List.mem_cons_self ..) 0
        have c1 := HY.out.cells (List.mem_cons_self ..) 1
        have c2 := HY.out.cells (List.mem_cons_self ..) 2
        simp only [List.getElem?_toArray, List.getElem?_cons_zero, List.getElem?_cons_succ] at c0 c1 c2
        have HYT := Lib.hid HY.out.tail
        go_wp2_with fail
        go_quiet (fail)
        go_wp2_with fail
        go_roundg (k - (j + 1))
        case measure => omega
        case rel => exact ⟨j + 1, by omega, rfl, by go_num, Lib.hid (HYT.out.bel (below_drewN (Below.refl _ _) _))⟩
    · obtain rfl : k = j := by omega
      go_wp2_with fail
      exact HK.out _ _ _ _ _ _ _ _ _ _ _ _ _ _ _ _ _ _ _ _ _ _ _ _ _ _ _ _ HJ
end Go.Proofs.Ythbnhneibpoooaa
