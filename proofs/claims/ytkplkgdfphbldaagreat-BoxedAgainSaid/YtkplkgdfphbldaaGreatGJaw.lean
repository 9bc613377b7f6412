/- What may be a number: the reference's Is. -/
import Derived.Test.YtkplkgdfphbldaaGreatRows
import Derived.Test.YtkplkgdfphbldaaGreatGJad
import Derived.Lib.Hide
import Derived.WalkKit
import Derived.Laws.Bits64b
set_option linter.unusedVariables false
set_option linter.unusedSimpArgs false
set_option linter.unnecessarySimpa false
namespace Go.Proofs.YtkplkgdfphbldaaGreat
open Go.RowKit
set_option maxRecDepth 100000
set_option linter.unusedVariables false
set_option linter.unusedSimpArgs false
theorem wis_any (n : Int) (w : World) :
    Calls Tryz.prog 97 #[.int .i64 n] w fun e w' => e = .returned (.bool (isN n)) ∧ w' = w := by
  by_cases h1 : -1152921504606846976 ≤ n
  · by_cases h2 : n ≤ 1152921504606846975
    · rw [isN_true ⟨h1, h2⟩]
      go_enter Tryz.func97, Tryz.ntmps97
      go_wp2
      go_ret
      exact ⟨by simp [h2], rfl⟩
    · rw [isN_false (by omega)]
      go_enter Tryz.func97, Tryz.ntmps97
      go_wp2
      go_ret
      exact ⟨by simp [h2], rfl⟩
  · rw [isN_false (by omega)]
    go_enter Tryz.func97, Tryz.ntmps97
    go_wp2
    go_ret
    exact ⟨rfl, rfl⟩

end Go.Proofs.YtkplkgdfphbldaaGreat
