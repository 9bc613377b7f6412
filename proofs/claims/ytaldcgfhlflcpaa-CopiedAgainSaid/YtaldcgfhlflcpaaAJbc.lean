/- asm.may: may an item be? -/
import Derived.WalkLawsBesides
import Derived.Test.YtaldcgfhlflcpaaAJaf
import Derived.Test.YtaldcgfhlflcpaaAJaa
import Derived.Deep.LoopGhost
import Derived.Lib.Hide
set_option linter.unusedVariables false
set_option linter.unusedSimpArgs false
set_option linter.unnecessarySimpa false
namespace Go.Proofs.Ytaldcgfhlflcpaa
open Go.RowKit
set_option maxRecDepth 100000
set_option linter.unusedVariables false
set_option linter.unusedSimpArgs false
theorem eight_kept {w w3 : World} {c0 c1 c2 c3 c4 c5 c6 c7 : Value} {d0 d1 d2 d3 d4 : Value} {t t2 : TypeId} (hb : Below ((w.alloc (.cells #[c0, c1, c2, c3, c4, c5, c6, c7] t)).alloc (.cells #[d0, d1, d2, d3, d4] t2)).heap.size ((w.alloc (.cells #[c0, c1, c2, c3, c4, c5, c6, c7] t)).alloc (.cells #[d0, d1, d2, d3, d4] t2)) w3) :
    w3.heap[w.heap.size]? = some (.cells #[c0, c1, c2, c3, c4, c5, c6, c7] t (0, 0)) ∧ w3.heap[w.heap.size + 1]? = some (.cells #[d0, d1, d2, d3, d4] t2 (0, 0)) ∧ Below w.heap.size w w3 := by
  refine ⟨?_, ?_, (((Below.refl _ _).alloc (Nat.le_refl _) _).alloc (by simp) _).trans (hb.mono (by simp; omega))⟩
  · rw [hb.block _ (by simp; omega)]; exact heap_alloc2_old _ _ _
  · rw [hb.block _ (by simp)]; exact heap_alloc2_new _ _ _
theorem may2_cases (E op n : Int) : ((E == 0) = false ∧ ((E == 0) && decide (24 ≤ op) && decide (op ≤ 27) && (n == 0)) = false) ∨ ((E == 0) = true ∧ op < 24 ∧ ((E == 0) && decide (24 ≤ op) && decide (op ≤ 27) && (n == 0)) = false) ∨ ((E == 0) = true ∧ 24 ≤ op ∧ 27 < op ∧ ((E == 0) && decide (24 ≤ op) && decide (op ≤ 27) && (n == 0)) = false) ∨
    ((E == 0) = true ∧ 24 ≤ op ∧ op ≤ 27 ∧ (n == 0) = false ∧ ((E == 0) && decide (24 ≤ op) && decide (op ≤ 27) && (n == 0)) = false) ∨ ((E == 0) = true ∧ 24 ≤ op ∧ op ≤ 27 ∧ (n == 0) = true ∧ ((E == 0) && decide (24 ≤ op) && decide (op ≤ 27) && (n == 0)) = true) := by
  cases h : (E == 0)
  · exact .inl ⟨rfl, by simp⟩
  · by_cases h24 : 24 ≤ op
    · by_cases h27 : op ≤ 27
      · cases h0 : (n == 0)
        · exact .inr (.inr (.inr (.inl ⟨rfl, h24, h27, rfl, by simp⟩)))
        · exact .inr (.inr (.inr (.inr ⟨rfl, h24, h27, rfl, by simp [h24, h27]⟩)))
      · exact .inr (.inr (.inl ⟨rfl, h24, by omega, by simp [h27]⟩))
    · exact .inr (.inl ⟨rfl, by omega, by simp [h24]⟩)
end Go.Proofs.Ytaldcgfhlflcpaa
