/- Steps of the machine: memory, input, output, and the simple ones. -/
import Derived.Deep.RegionHeld3
import Derived.Test.YtaldcgfhlflcpaaAJao
set_option linter.unusedVariables false
set_option linter.unusedSimpArgs false
set_option linter.unnecessarySimpa false
namespace Go.Proofs.Ytaldcgfhlflcpaa
open Go.RowKit
set_option maxRecDepth 100000
set_option linter.unusedVariables false
set_option linter.unusedSimpArgs false
theorem MSt.mvForm {B : Bd} {g T : Nat} {w : World} {st : Int} {m : Rs.M} {mv ov : Value} (h : MSt B w g T st m mv ov) : ∃ am capm, mv = .slice am m.mem.length capm ∧ (0 < m.mem.length → ∃ bm, am = some ⟨bm, 0, none⟩ ∧ bm < w.heap.size) := by
  rcases own_shape h.mem with ⟨h1, h2, _⟩ | ⟨g1, cap, h1, _, h3, _⟩
  · exact ⟨none, 0, by rw [h1, h2], fun h3 => by omega⟩
  · exact ⟨_, cap, h1, fun _ => ⟨g1, rfl, h3⟩⟩

end Go.Proofs.Ytaldcgfhlflcpaa
