/- The assembler's write. -/
import Derived.Test.YtaldcgfhlflcpaaAJba
import Derived.Test.YtaldcgfhlflcpaaAJbd
import Derived.Test.YtaldcgfhlflcpaaAJac
import Derived.Test.YtaldcgfhlflcpaaAJaf
set_option linter.unusedVariables false
set_option linter.unusedSimpArgs false
set_option linter.unnecessarySimpa false
namespace Go.Proofs.Ytaldcgfhlflcpaa
open Go.RowKit
set_option maxRecDepth 100000
set_option linter.unusedVariables false
set_option linter.unusedSimpArgs false
theorem still_of21 {P : Program} {f : FuncId} {args : Array Value} {w : World} {v : Value} (h : Calls P f args w fun e w' => e = .returned v ∧ w = w') : Calls P f args w fun e w' => e = .returned v ∧ w' = w :=
  h.mono fun _ _ ⟨he, hm⟩ => ⟨he, hm.symm⟩
section
variable {B g lb pb mb : Nat} {L : List (Int × Value)} {al : Option Addr} {cl : Nat} {vc : Value} {l : List As.It} {bs : List Bool} {ps : List Nat} {code : List Int}
end
end Go.Proofs.Ytaldcgfhlflcpaa
