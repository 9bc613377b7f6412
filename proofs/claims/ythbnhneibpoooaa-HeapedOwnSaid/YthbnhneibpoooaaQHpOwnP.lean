/- HeapedOwn's walk, for its proof. -/
import Derived.Test.YthbnhneibpoooaaQHpOwnW
import Derived.Test.YthbnhneibpoooaaQMM
set_option linter.unusedVariables false
set_option linter.unusedSimpArgs false
set_option linter.unnecessarySimpa false
namespace Go.Proofs.Ythbnhneibpoooaa
open Go.RowKit
set_option linter.unusedVariables false
set_option linter.unusedSimpArgs false
theorem own_walk (a : Option Addr) (c : Nat) (l : List Hp.V) (w : World) (hv : VSl w (.slice a l.length c) l) (ht : ∀ x ∈ l, x.text.size ≤ maxLen) :
    Calls Try.prog 6 #[.slice a l.length c] w fun e w' => e = .returned (.bool true) ∧ Below w.heap.size w w' := by
  by_cases h : l.length ≤ 40
  · exact own_few _ l w hv h ht
  · exact own_many _ l w hv (by omega)
end Go.Proofs.Ythbnhneibpoooaa
