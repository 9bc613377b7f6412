/- slices.Repeat of one value. -/
import Derived.Deep.RegionLaw
import Derived.Outline
import Derived.Test.YtkplkgdfphbldaaGreatHJal
import Derived.Test.YtkplkgdfphbldaaGreatRows
import Derived.Test.YtkplkgdfphbldaaGreatHJai
import Derived.WalkKit
import Derived.Laws.CopyOwn
import Derived.Laws.MakeOwn
namespace Go.Proofs.YtkplkgdfphbldaaGreat
open Go.RowKit
set_option linter.unusedVariables false
set_option linter.unusedSimpArgs false
set_option linter.unnecessarySimpa false
set_option maxRecDepth 100000
theorem flatV_take (l : List Hp.V) (k : Nat) : (Hp.flatV l).take (k * 3) = Hp.flatV (l.take k) := by
 induction l generalizing k with
 | nil => simp [Hp.flatV]
 | cons x l ih =>
  cases k with
  | zero => simp [Hp.flatV]
  | succ k =>
   have e : ∀ (y : Hp.V) (l : List Hp.V), Hp.flatV (y :: l) = .int .i64 y.kind :: .int .i64 y.int :: .string y.text :: Hp.flatV l := fun _ _ => rfl
   rw [List.take_succ_cons, e, e, ← ih k, show (k + 1) * 3 = k * 3 + 1 + 1 + 1 by omega]
   simp only [List.take_succ_cons]
end Go.Proofs.YtkplkgdfphbldaaGreat
