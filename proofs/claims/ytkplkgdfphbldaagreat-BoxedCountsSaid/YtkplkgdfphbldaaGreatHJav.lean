/- What a call of the heap leaves; filled. -/
import Derived.Test.YtkplkgdfphbldaaGreatHJar
import Derived.Test.YtkplkgdfphbldaaGreatHJau
namespace Go.Proofs.YtkplkgdfphbldaaGreat
open Go.RowKit
set_option linter.unusedVariables false
set_option linter.unusedSimpArgs false
set_option linter.unnecessarySimpa false
set_option maxRecDepth 100000
def DoPost (ty h : Nat) (O : Nat → Prop) (r : Hp.V) (err : Int) (T : List Hp.Th) (w : World) (e : Ending) (w' : World) : Prop :=
 ∃ O', e = .returned (.tuple #[r.val, .int .i64 err]) ∧ HSt w' ty h O' T ∧ Grow O O' w w'
theorem DoPost.read {ty h : Nat} {O : Nat → Prop} {r : Hp.V} {err : Int} {T : List Hp.Th} {w w' : World} {e : Ending} (H : HSt w ty h O T) (he : e = .returned (.tuple #[r.val, .int .i64 err])) (hb : Below w.heap.size w w') : DoPost ty h O r err T w e w' :=
 ⟨O, he, H.below hb (Nat.le_refl _), Grow.of hb⟩
theorem ret_end {w w2 : World} {ty h g : Nat} {O O' : Nat → Prop} {T : List Hp.Th} (H : HSt w2 ty h O' T) (G : Grow O O' w w2) (hn : ¬ O' g) (hg : w.heap.size ≤ g) (x y z : Value) :
  HSt (((w2.setCell ⟨g, 0, none⟩ x).setCell ⟨g, 1, none⟩ y).setCell ⟨g, 2, none⟩ z) ty h O' T ∧ Grow O O' w (((w2.setCell ⟨g, 0, none⟩ x).setCell ⟨g, 1, none⟩ y).setCell ⟨g, 2, none⟩ z) := by
 have hk : ∀ b, b ≠ g → (((w2.setCell ⟨g, 0, none⟩ x).setCell ⟨g, 1, none⟩ y).setCell ⟨g, 2, none⟩ z).heap[b]? = w2.heap[b]? := fun b hb => by
  rw [heap_setCell_other _ _ _ _ hb, heap_setCell_other _ _ _ _ hb, heap_setCell_other _ _ _ _ hb]
 have hs : (((w2.setCell ⟨g, 0, none⟩ x).setCell ⟨g, 1, none⟩ y).setCell ⟨g, 2, none⟩ z).heap.size = w2.heap.size := by simp [World.setCell]
 exact ⟨H.keep (by rw [hs]; exact Nat.le_refl _) fun b hb => hk b (fun e => hn (e ▸ hb)), ⟨G.os, G.tape, G.output, by rw [hs]; exact G.size, fun b hb ho => (hk b (by omega)).trans (G.block b hb ho), G.own⟩⟩
end Go.Proofs.YtkplkgdfphbldaaGreat
