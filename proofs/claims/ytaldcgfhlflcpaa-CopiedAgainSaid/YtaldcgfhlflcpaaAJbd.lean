/- The assembler's put. -/
import Derived.Deep.AppendLies
import Derived.Test.YtaldcgfhlflcpaaAJba
import Derived.Test.YtaldcgfhlflcpaaAJbc
set_option linter.unusedVariables false
set_option linter.unusedSimpArgs false
set_option linter.unnecessarySimpa false
namespace Go.Proofs.Ytaldcgfhlflcpaa
open Go.RowKit
set_option maxRecDepth 100000
set_option linter.unusedVariables false
set_option linter.unusedSimpArgs false
theorem infoU : (Try.prog.info? 84).map (fun i => (i.zero, i.size, i.bytes)) = some (some (.int .u32 0), 1, 4) := by kernel_rfl
section
variable {B : Nat} {w : World} {g lb pb mb : Nat} {L : List (Int × Value)} {vc : Value} {al : Option Addr} {cl : Nat} {l : List As.It} {bs : List Bool} {ps : List Nat} {code : List Int}
end
end Go.Proofs.Ytaldcgfhlflcpaa
