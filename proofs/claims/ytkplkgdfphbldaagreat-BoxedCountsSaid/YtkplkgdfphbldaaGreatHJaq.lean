/- The heap's add. -/
import Derived.Deep.AppendLies
import Derived.Outline
import Derived.Test.YtkplkgdfphbldaaGreatHJap
import Derived.Test.YtkplkgdfphbldaaGreatHJal
import Derived.Test.YtkplkgdfphbldaaGreatHJam
namespace Go.Proofs.YtkplkgdfphbldaaGreat
open Go.RowKit
set_option linter.unusedVariables false
set_option linter.unusedSimpArgs false
set_option linter.unnecessarySimpa false
set_option maxRecDepth 100000
theorem infoThing : (Tryz.prog.info? 128).map (fun i => (i.zero, i.size, i.bytes)) = some (some (.agg #[.int .i64 0, .slice none 0 0]), 2, 32) := by kernel_rfl
end Go.Proofs.YtkplkgdfphbldaaGreat
