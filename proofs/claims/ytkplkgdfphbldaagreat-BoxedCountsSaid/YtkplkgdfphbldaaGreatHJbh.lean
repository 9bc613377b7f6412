/- The laws' arguments, opened: expressions. -/
import Derived.Test.YtkplkgdfphbldaaGreatHJal
import Derived.Test.YtkplkgdfphbldaaGreatHJax
import Derived.Test.YtkplkgdfphbldaaGreatHJay
import Derived.Deep.Slices
import Derived.Deep.Fields
import Derived.ChangeSame
import Derived.OpenShut
namespace Go.Proofs.YtkplkgdfphbldaaGreat
open Go.RowKit
set_option linter.unusedVariables false
set_option linter.unusedSimpArgs false
set_option linter.unnecessarySimpa false
set_option maxRecDepth 100000
open Go.ChangeShapes Go.WideShapes Go.Deep Go.RowKit
inductive Ex.Fit : Ex → Prop
 | mk (k : Int) (n : ByteArray) (l : List ByteArray) (c : Dt) (ks : List Ex) (hn : n.size ≤ maxLen) (hl : ∀ s ∈ l, s.size ≤ maxLen) (hll : l.length ≤ maxLen) (hc : Dt.Fit c) (hkl : ks.length ≤ maxLen) (hk : ∀ x ∈ ks, Ex.Fit x) : Ex.Fit (.mk k n l c ks)
section
variable {H : Type} {enc : TypeId × Value → H} {w : World} {base : Nat} {spare : Nat → Bool} {held : Bool}
end
end Go.Proofs.YtkplkgdfphbldaaGreat
