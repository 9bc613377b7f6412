/- data.all, data.copied, data.Make. -/
import Derived.Deep.AppendLies
import Derived.Outline
import Derived.Test.YtkplkgdfphbldaaGreatGJam
set_option linter.unusedVariables false
set_option linter.unusedSimpArgs false
set_option linter.unnecessarySimpa false
namespace Go.Proofs.YtkplkgdfphbldaaGreat
open Go.RowKit
set_option maxRecDepth 100000
set_option linter.unusedVariables false
set_option linter.unusedSimpArgs false
theorem datumD : ∃ fs, Tryz.prog.underlying 25 = some (.struct fs) := ⟨_, Tryz.underlying25⟩
theorem datumSize : (Tryz.prog.info? 25).map (·.size) = some 4 := by kernel_rfl
def flatD (M : List (Dt × Value)) : List Value := M.flatMap fun m => [.int .i64 m.1.kind, .int .i64 m.1.int, .string m.1.text, m.2]
theorem flatD_append (M N : List (Dt × Value)) : flatD (M ++ N) = flatD M ++ flatD N := by simp [flatD]
theorem flatD_length : ∀ M : List (Dt × Value), (flatD M).length = M.length * 4
  | [] => rfl
  | m :: M => by
    have e : flatD (m :: M) = [.int .i64 m.1.kind, .int .i64 m.1.int, .string m.1.text, m.2] ++ flatD M := rfl
    rw [e, List.length_append, flatD_length M]
    simp; omega
theorem flatD_at : ∀ (M : List (Dt × Value)) (i : Nat) (m : Dt × Value), M[i]? = some m → (flatD M)[i * 4]? = some (.int .i64 m.1.kind) ∧ (flatD M)[i * 4 + 1]? = some (.int .i64 m.1.int) ∧ (flatD M)[i * 4 + 2]? = some (.string m.1.text) ∧ (flatD M)[i * 4 + 3]? = some m.2
  | [], i, m, h => by simp at h
  | x :: M, 0, m, h => by
    simp at h
    subst h
    exact ⟨rfl, rfl, rfl, rfl⟩
  | x :: M, i + 1, m, h => by
    have e : flatD (x :: M) = .int .i64 x.1.kind :: .int .i64 x.1.int :: .string x.1.text :: x.2 :: flatD M := rfl
    have h2 : M[i]? = some m := by simpa using h
    have := flatD_at M i m h2
    rw [e, show (i + 1) * 4 = i * 4 + 1 + 1 + 1 + 1 by omega]
    simpa using this
def Dt.valOf (d : Dt) (lv : Value) : Value := .agg #[.int .i64 d.kind, .int .i64 d.int, .string d.text, lv]
structure OwnD (w : World) (B : Nat) (v : Value) (M : List (Dt × Value)) : Prop where
  row : w.ownsRow B 25 4 v M.length (flatD M)
  kids : ∀ m ∈ M, DtAt w (fun b => B ≤ b ∧ v.ownBlock ≠ some b) (m.1.valOf m.2) m.1
theorem OwnD.nil (w : World) (B : Nat) : OwnD w B (.slice none 0 0) [] := ⟨World.ownsRow_nil _ _ _ _, by simp⟩
theorem OwnD.bel {w w' : World} {B N : Nat} {v : Value} {M : List (Dt × Value)} (h : OwnD w B v M) (hb : Below N w w') (hN : w.heap.size ≤ N) : OwnD w' B v M :=
  ⟨own_same h.row fun b e => hb.block b (Nat.lt_of_lt_of_le (h.row.lt b e).2 hN), fun m hm => (h.kids m hm).bel hb hN⟩
theorem OwnD.data {w : World} {B : Nat} {v : Value} {M : List (Dt × Value)} (h : OwnD w B v M) (k i : Int) (t : ByteArray) : DtAt w (fun b => B ≤ b) (.agg #[.int .i64 k, .int .i64 i, .string t, v]) (.mk k i t (M.map (·.1))) := by
  rcases own_shape h.row with ⟨rfl, _, e⟩ | ⟨g, cap, rfl, h0, h1, h2, h3⟩
  · have hl := flatD_length M
    rw [e] at hl
    have : M = [] := List.eq_nil_of_length_eq_zero (by simp at hl; omega)
    subst this
    exact .nil k i t
  · have hrow := h.row
    have e : M.length = (M.map (·.1)).length := by simp
    rw [e]
    refine .row k i t g 0 cap _ (fun j => (M[j]?.map (·.2)).getD (.slice none 0 0)) h0 h1 (fun j x hx => ?_) (fun j x hx => ?_)
    · rw [List.getElem?_map] at hx
      obtain ⟨m, hm, rfl⟩ : ∃ m, M[j]? = some m ∧ m.1 = x := by simpa using hx
      have hj : j < M.length := (List.getElem?_eq_some_iff.1 hm).1
      obtain ⟨f0, f1, f2, f3⟩ := flatD_at M j m hm
      rw [Nat.zero_add]
      refine ⟨?_, ?_, ?_, ?_⟩
      · rw [hrow.cellAt (j * 4) (by omega)]; exact f0
      · rw [hrow.cellAt (j * 4 + 1) (by omega)]; exact f1
      · rw [hrow.cellAt (j * 4 + 2) (by omega)]; exact f2
      · rw [hrow.cellAt (j * 4 + 3) (by omega), f3, hm]; rfl
    · rw [List.getElem?_map] at hx
      obtain ⟨m, hm, rfl⟩ : ∃ m, M[j]? = some m ∧ m.1 = x := by simpa using hx
      rw [hm]
      exact (h.kids m (List.mem_of_getElem? hm)).mono fun b hb _ => hb.1
theorem DtAt.slice {w : World} {S : Nat → Prop} {k i : Int} {t : ByteArray} {lv : Value} {d : Dt} (h : DtAt w S (.agg #[.int .i64 k, .int .i64 i, .string t, lv]) d) : ∃ a c, lv = .slice a d.list.length c := by
  obtain ⟨a, c, e, _⟩ := h.inv
  exact ⟨a, c, by simp at e; exact e.2.2.2⟩
theorem new4 (w : World) (a b c d : Value) (t : TypeId) : (w.alloc (.cells #[a, b, c, d] t)).cell? ⟨w.heap.size, 0, none⟩ = some a ∧ (w.alloc (.cells #[a, b, c, d] t)).cell? ⟨w.heap.size, 1, none⟩ = some b ∧ (w.alloc (.cells #[a, b, c, d] t)).cell? ⟨w.heap.size, 2, none⟩ = some c ∧ (w.alloc (.cells #[a, b, c, d] t)).cell? ⟨w.heap.size, 3, none⟩ = some d := by
  refine ⟨?_, ?_, ?_, ?_⟩ <;> rw [World.cell?_alloc_at _ _ _ _ rfl] <;> rfl
end Go.Proofs.YtkplkgdfphbldaaGreat
namespace Go.Proofs.YtkplkgdfphbldaaGreat
open Go.RowKit
set_option maxRecDepth 100000
set_option linter.unusedVariables false
set_option linter.unusedSimpArgs false
theorem OwnD.shape {w : World} {B : Nat} {v : Value} {M : List (Dt × Value)} (h : OwnD w B v M) : ∃ a c, v = .slice a M.length c := own_slice h.row
structure Blk4 (w : World) (g : Nat) (a b c d : Value) : Prop where
  c0 : w.cell? ⟨g, 0, none⟩ = some a
  c1 : w.cell? ⟨g, 1, none⟩ = some b
  c2 : w.cell? ⟨g, 2, none⟩ = some c
  c3 : w.cell? ⟨g, 3, none⟩ = some d
  f0 : w.frozen? ⟨g, 0, none⟩ = false
  f1 : w.frozen? ⟨g, 1, none⟩ = false
  f2 : w.frozen? ⟨g, 2, none⟩ = false
  f3 : w.frozen? ⟨g, 3, none⟩ = false
theorem Blk4.of {w : World} {g : Nat} {a b c d : Value} {t : TypeId} (h : w.heap[g]? = some (.cells #[a, b, c, d] t (0, 0))) : Blk4 w g a b c d := by
  have q0 := cell_of_row w _ 0 _ _ _ h
  have q1 := cell_of_row w _ 1 _ _ _ h
  have q2 := cell_of_row w _ 2 _ _ _ h
  have q3 := cell_of_row w _ 3 _ _ _ h
  simp only [List.getElem?_toArray, List.getElem?_cons_zero, List.getElem?_cons_succ] at q0 q1 q2 q3
  exact ⟨q0, q1, q2, q3, frozen_of_row w _ 0 _ _ h, frozen_of_row w _ 1 _ _ h, frozen_of_row w _ 2 _ _ h, frozen_of_row w _ 3 _ _ h⟩
theorem four_set (w : World) (g : Nat) (t : TypeId) (a b c d x y z u : Value) (h : w.heap[g]? = some (.cells #[a, b, c, d] t (0, 0))) :
    ((((w.setCell ⟨g, 0, none⟩ x).setCell ⟨g, 1, none⟩ y).setCell ⟨g, 2, none⟩ z).setCell ⟨g, 3, none⟩ u).heap[g]? = some (.cells #[x, y, z, u] t (0, 0)) := by
  have e1 := heap_setCell_same _ g 0 _ _ x h
  have e2 := heap_setCell_same _ g 1 _ _ y e1
  have e3 := heap_setCell_same _ g 2 _ _ z e2
  exact heap_setCell_same _ g 3 _ _ u e3
theorem below_four {B : Nat} {w w1 : World} {g : Nat} (h : Below B w w1) (hg : B ≤ g) (x y z u : Value) : Below B w ((((w1.setCell ⟨g, 0, none⟩ x).setCell ⟨g, 1, none⟩ y).setCell ⟨g, 2, none⟩ z).setCell ⟨g, 3, none⟩ u) :=
  (((h.setCell (p := ⟨g, 0, none⟩) hg _).setCell (p := ⟨g, 1, none⟩) hg _).setCell (p := ⟨g, 2, none⟩) hg _).setCell (p := ⟨g, 3, none⟩) hg _
theorem four_other (w1 : World) (g : Nat) (x y z u : Value) (b : Nat) (hb : b ≠ g) : ((((w1.setCell ⟨g, 0, none⟩ x).setCell ⟨g, 1, none⟩ y).setCell ⟨g, 2, none⟩ z).setCell ⟨g, 3, none⟩ u).heap[b]? = w1.heap[b]? := by
  rw [heap_setCell_other _ _ _ _ hb, heap_setCell_other _ _ _ _ hb, heap_setCell_other _ _ _ _ hb, heap_setCell_other _ _ _ _ hb]
theorem DtAt.four {w1 : World} {S : Nat → Prop} {v : Value} {d : Dt} (h : DtAt w1 S v d) {g : Nat} (hg : ∀ b, S b → b ≠ g) (x y z u : Value) : DtAt ((((w1.setCell ⟨g, 0, none⟩ x).setCell ⟨g, 1, none⟩ y).setCell ⟨g, 2, none⟩ z).setCell ⟨g, 3, none⟩ u) S v d :=
  h.same (fun _ h _ => h) (by simp [World.setCell]) fun b hb _ => four_other _ _ _ _ _ _ _ (hg b hb)
end Go.Proofs.YtkplkgdfphbldaaGreat
