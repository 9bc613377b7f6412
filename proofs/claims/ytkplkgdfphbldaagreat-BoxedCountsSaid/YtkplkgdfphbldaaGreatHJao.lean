/- data.all, data.copied, data.Make. -/
import Derived.Deep.AppendLies
import Derived.Outline
import Derived.Test.YtkplkgdfphbldaaGreatHJan
namespace Go.Proofs.YtkplkgdfphbldaaGreat
open Go.RowKit
set_option linter.unusedVariables false
set_option linter.unusedSimpArgs false
set_option linter.unnecessarySimpa false
set_option maxRecDepth 100000
theorem datumD : ∃ fs, Tryz.prog.underlying 25 = some (.struct fs) := ⟨_, Tryz.underlying25⟩
theorem datumSize : (Tryz.prog.info? 25).map (·.size) = some 4 := by kernel_rfl
theorem DtAt.slice {w : World} {S : Nat → Prop} {k i : Int} {t : ByteArray} {lv : Value} {d : Dt} (h : DtAt w S (.agg #[.int .i64 k, .int .i64 i, .string t, lv]) d) : ∃ a c, lv = .slice a d.list.length c := by
 obtain ⟨a, c, e, _⟩ := h.inv
 exact ⟨a, c, by simp at e; exact e.2.2.2⟩
theorem new4 (w : World) (a b c d : Value) (t : TypeId) : (w.alloc (.cells #[a, b, c, d] t)).cell? ⟨w.heap.size, 0, none⟩ = some a ∧ (w.alloc (.cells #[a, b, c, d] t)).cell? ⟨w.heap.size, 1, none⟩ = some b ∧ (w.alloc (.cells #[a, b, c, d] t)).cell? ⟨w.heap.size, 2, none⟩ = some c ∧ (w.alloc (.cells #[a, b, c, d] t)).cell? ⟨w.heap.size, 3, none⟩ = some d := by
 refine ⟨?_, ?_, ?_, ?_⟩ <;> rw [World.cell?_alloc_at _ _ _ _ rfl] <;> rfl
structure Blk4 (w : World) (g : Nat) (a b c d : Value) : Prop where
 c0 : w.cell? ⟨g, 0, none⟩ = some a
 c1 : w.cell? ⟨g, 1, none⟩ = some b
 c2 : w.cell? ⟨g, 2, none⟩ = some c
 c3 : w.cell? ⟨g, 3, none⟩ = some d
 f0 : w.frozen? ⟨g, 0, none⟩ = false
 f1 : w.frozen? ⟨g, 1, none⟩ = false
 f2 : w.frozen? ⟨g, 2, none⟩ = false
 f3 : w.frozen? ⟨g, 3, none⟩ = false
theorem Blk4.of {w : World} {g : Nat} {a b c d : Value} {t : TypeId} (h : w.heap[g]? = some (.cells #[a, b, c, d] t (0, 0))) : Blk4 w g a b c d := by
 have q0 := cell_of_row w _ 0 _ _ _ h
 have q1 := cell_of_row w _ 1 _ _ _ h
 have q2 := cell_of_row w _ 2 _ _ _ h
 have q3 := cell_of_row w _ 3 _ _ _ h
 simp only [List.getElem?_toArray, List.getElem?_cons_zero, List.getElem?_cons_succ] at q0 q1 q2 q3
 exact ⟨q0, q1, q2, q3, frozen_of_row w _ 0 _ _ h, frozen_of_row w _ 1 _ _ h, frozen_of_row w _ 2 _ _ h, frozen_of_row w _ 3 _ _ h⟩
theorem four_set (w : World) (g : Nat) (t : TypeId) (a b c d x y z u : Value) (h : w.heap[g]? = some (.cells #[a, b, c, d] t (0, 0))) :
  ((((w.setCell ⟨g, 0, none⟩ x).setCell ⟨g, 1, none⟩ y).setCell ⟨g, 2, none⟩ z).setCell ⟨g, 3, none⟩ u).heap[g]? = some (.cells #[x, y, z, u] t (0, 0)) := by
 have e1 := heap_setCell_same _ g 0 _ _ x h
 have e2 := heap_setCell_same _ g 1 _ _ y e1
 have e3 := heap_setCell_same _ g 2 _ _ z e2
 exact heap_setCell_same _ g 3 _ _ u e3
theorem below_four {B : Nat} {w w1 : World} {g : Nat} (h : Below B w w1) (hg : B ≤ g) (x y z u : Value) : Below B w ((((w1.setCell ⟨g, 0, none⟩ x).setCell ⟨g, 1, none⟩ y).setCell ⟨g, 2, none⟩ z).setCell ⟨g, 3, none⟩ u) :=
 (((h.setCell (p := ⟨g, 0, none⟩) hg _).setCell (p := ⟨g, 1, none⟩) hg _).setCell (p := ⟨g, 2, none⟩) hg _).setCell (p := ⟨g, 3, none⟩) hg _
theorem four_other (w1 : World) (g : Nat) (x y z u : Value) (b : Nat) (hb : b ≠ g) : ((((w1.setCell ⟨g, 0, none⟩ x).setCell ⟨g, 1, none⟩ y).setCell ⟨g, 2, none⟩ z).setCell ⟨g, 3, none⟩ u).heap[b]? = w1.heap[b]? := by
 rw [heap_setCell_other _ _ _ _ hb, heap_setCell_other _ _ _ _ hb, heap_setCell_other _ _ _ _ hb, heap_setCell_other _ _ _ _ hb]
theorem DtAt.four {w1 : World} {S : Nat → Prop} {v : Value} {d : Dt} (h : DtAt w1 S v d) {g : Nat} (hg : ∀ b, S b → b ≠ g) (x y z u : Value) : DtAt ((((w1.setCell ⟨g, 0, none⟩ x).setCell ⟨g, 1, none⟩ y).setCell ⟨g, 2, none⟩ z).setCell ⟨g, 3, none⟩ u) S v d :=
 h.same (fun _ h _ => h) (by simp [World.setCell]) fun b hb _ => four_other _ _ _ _ _ _ _ (hg b hb)
end Go.Proofs.YtkplkgdfphbldaaGreat
