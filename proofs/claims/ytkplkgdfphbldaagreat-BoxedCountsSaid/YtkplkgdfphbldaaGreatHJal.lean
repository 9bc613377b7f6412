/- Slices of values; slices.ContainsFunc; the heap's all. -/
import Derived.Shelf.SlicesQ.IndexFunc
import Derived.Test.YtkplkgdfphbldaaGreatHJaf
import Derived.Test.YtkplkgdfphbldaaGreatHJaj
import Derived.Test.YtkplkgdfphbldaaGreatHJak
namespace Go.Proofs.YtkplkgdfphbldaaGreat
open Go.RowKit
set_option linter.unusedVariables false
set_option linter.unusedSimpArgs false
set_option linter.unnecessarySimpa false
set_option maxRecDepth 100000
def VSl (w : World) (v : Value) (l : List Hp.V) : Prop :=
 ∃ a cap, v = .slice a l.length cap ∧ ((a = none ∧ cap = 0 ∧ l = []) ∨ ∃ ad, a = some ad ∧ ∀ j u, (Hp.flatV l)[j]? = some u → w.cell? (ad.add j) = some u)
theorem VSl.at {w : World} {a : Option Addr} {n cap : Nat} {l : List Hp.V} (h : VSl w (.slice a n cap) l) (hne : l ≠ []) :
  ∃ b off, a = some ⟨b, off, none⟩ ∧ b < w.heap.size ∧ ∀ (j : Nat) (x : Hp.V), l[j]? = some x → w.cell? ⟨b, off + j * 3, none⟩ = some (.int .i64 x.kind) ∧ w.cell? ⟨b, off + j * 3 + 1, none⟩ = some (.int .i64 x.int) ∧ w.cell? ⟨b, off + j * 3 + 2, none⟩ = some (.string x.text) := by
 obtain ⟨a', cap', hv, h | ⟨ad, h1, h2⟩⟩ := h
 ·exact absurd h.2.2 hne
 ·cases hv
  subst h1
  obtain ⟨x0, l', rfl⟩ := List.exists_cons_of_ne_nil hne
  have h0 := h2 0 (.int .i64 x0.kind) rfl
  obtain ⟨b, off, spot⟩ := ad
  have hspot : spot = none := by simpa [Addr.add] using World.cell?_spot h0
  subst hspot
  refine ⟨b, off, rfl, ?_, fun j x hx => ?_⟩
  ·have := World.block_lt_of_cell? w _ h0
   simpa [Addr.add] using this
  ·obtain ⟨f1, f2, f3⟩ := Hp.flatV_at _ j x hx
   have g1 := h2 _ _ f1
   have g2 := h2 _ _ f2
   have g3 := h2 _ _ f3
   rw [Go.WideShapes.add_plain] at g1 g2 g3
   exact ⟨g1, by rw [Nat.add_assoc]; exact g2, by rw [Nat.add_assoc]; exact g3⟩
theorem VSl.len {w : World} {v : Value} {l : List Hp.V} (h : VSl w v l) : ∃ a cap, v = .slice a l.length cap := by
 obtain ⟨a, cap, h, _⟩ := h
 exact ⟨a, cap, h⟩
theorem VSl.of {w w' : World} {v : Value} {l : List Hp.V} (h : VSl w v l) (hc : ∀ p, p.block < w.heap.size → w'.cell? p = w.cell? p) : VSl w' v l := by
 obtain ⟨a, cap, hv, h | ⟨ad, h1, h2⟩⟩ := h
 ·exact ⟨a, cap, hv, .inl h⟩
 ·exact ⟨a, cap, hv, .inr ⟨ad, h1, fun j u hu => (hc _ (World.block_lt_of_cell? w _ (h2 j u hu))).trans (h2 j u hu)⟩⟩
theorem VSl.below {w w' : World} {v : Value} {l : List Hp.V} {N : Nat} (h : VSl w v l) (hb : Below N w w') (hN : w.heap.size ≤ N) : VSl w' v l := h.of fun p hp => hb.cell (p := p) (by omega)
theorem infoVal : (Tryz.prog.info? 78).map (fun i => (i.zero, i.size, i.bytes)) = some (some (.agg #[.int .i64 0, .int .i64 0, .string ⟨#[]⟩]), 3, 32) := by kernel_rfl
end Go.Proofs.YtkplkgdfphbldaaGreat
