/- Contracts of the functions of package word and of its reference. -/
import Derived.WalkKit
import Derived.Laws.Bits64b
import Derived.Test.YtkplkgdfphbldaaGreatRows
import Derived.Test.YtkplkgdfphbldaaGreatHJad
namespace Go.Proofs.YtkplkgdfphbldaaGreat
open Go.RowKit
set_option linter.unusedVariables false
set_option linter.unusedSimpArgs false
set_option linter.unnecessarySimpa false
set_option maxRecDepth 100000
def intA (n : Int) : Int × Int := if isN n then (8 * n, 0) else (0, 10)
/-! ### bits.Mul64 and times -/
end Go.Proofs.YtkplkgdfphbldaaGreat
