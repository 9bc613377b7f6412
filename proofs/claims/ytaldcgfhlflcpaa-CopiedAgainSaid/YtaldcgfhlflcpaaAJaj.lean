/- Slices that came in, as lists of cells. -/
import Derived.WalkSpells
import Derived.Outline
import Derived.Test.YtaldcgfhlflcpaaAJad
import Derived.Test.YtaldcgfhlflcpaaAJaa
set_option linter.unusedVariables false
set_option linter.unusedSimpArgs false
set_option linter.unnecessarySimpa false
namespace Go.Proofs.Ytaldcgfhlflcpaa
open Go.RowKit
set_option maxRecDepth 100000
set_option linter.unusedVariables false
set_option linter.unusedSimpArgs false
def Sl (w : World) (v : Value) (xs : List Value) : Prop :=
  ∃ a cap, v = .slice a xs.length cap ∧ ((a = none ∧ cap = 0 ∧ xs = []) ∨ ∃ ad, a = some ad ∧ ∀ j u, xs[j]? = some u → w.cell? (ad.add j) = some u)
theorem Sl.at {w : World} {a : Option Addr} {n cap : Nat} {xs : List Value} (h : Sl w (.slice a n cap) xs) (hne : xs ≠ []) :
    ∃ b off, a = some ⟨b, off, none⟩ ∧ b < w.heap.size ∧ ∀ j, j < xs.length → w.cell? ⟨b, off + j, none⟩ = some (xs.getD j undef) := by
  obtain ⟨a', cap', hv, h | ⟨ad, h1, h2⟩⟩ := h
  · exact absurd h.2.2 hne
  · cases hv
    subst h1
    have hpos : 0 < xs.length := List.length_pos_iff.2 hne
    have h0 := h2 0 _ (getElem?_getD xs 0 undef hpos)
    obtain ⟨b, off, spot⟩ := ad
    have hspot : spot = none := by simpa [Addr.add] using World.cell?_spot h0
    subst hspot
    refine ⟨b, off, rfl, ?_, fun j hj => ?_⟩
    · have := World.block_lt_of_cell? w _ h0
      simpa [Addr.add] using this
    · have := h2 j _ (getElem?_getD xs j undef hj)
      rwa [Go.WideShapes.add_plain] at this
theorem Sl.len {w : World} {v : Value} {xs : List Value} (h : Sl w v xs) : ∃ a cap, v = .slice a xs.length cap := by
  obtain ⟨a, cap, h, _⟩ := h
  exact ⟨a, cap, h⟩
theorem Sl.of {w w' : World} {v : Value} {xs : List Value} (h : Sl w v xs) (hc : ∀ p, p.block < w.heap.size → w'.cell? p = w.cell? p) : Sl w' v xs := by
  obtain ⟨a, cap, hv, h | ⟨ad, h1, h2⟩⟩ := h
  · exact ⟨a, cap, hv, .inl h⟩
  · exact ⟨a, cap, hv, .inr ⟨ad, h1, fun j u hu => (hc _ (World.block_lt_of_cell? w _ (h2 j u hu))).trans (h2 j u hu)⟩⟩
theorem Sl.below {w w' : World} {v : Value} {xs : List Value} {N : Nat} (h : Sl w v xs) (hb : Below N w w') (hN : w.heap.size ≤ N) : Sl w' v xs := h.of fun p hp => hb.cell (p := p) (by omega)
theorem Sl.drewN {w : World} {v : Value} {xs : List Value} (h : Sl w v xs) (n : Nat) : Sl (w.drewN n) v xs := h
theorem Sl.own {w : World} {B e n : Nat} {v : Value} {xs : List Value} (h : w.ownsRow B e 1 v n xs) : Sl w v xs := by
  rcases own_shape h with ⟨rfl, _, rfl⟩ | ⟨g, cap, rfl, _⟩
  · exact ⟨none, 0, rfl, .inl ⟨rfl, rfl, rfl⟩⟩
  · have hl := h.1
    rw [Nat.mul_one] at hl
    exact ⟨_, cap, by rw [hl], .inr ⟨_, rfl, h.cells rfl⟩⟩
end Go.Proofs.Ytaldcgfhlflcpaa
