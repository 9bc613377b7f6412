/- TiedForms, TiedAgain: the argument opened. -/
import Derived.Test.YtkplkgdfphbldaaGreatFJbi
import Derived.Test.YtkplkgdfphbldaaGreatFJbd
set_option linter.unusedVariables false
set_option linter.unusedSimpArgs false
set_option linter.unnecessarySimpa false
namespace Go.Proofs.YtkplkgdfphbldaaGreat
open Go.RowKit
set_option linter.unusedVariables false
namespace Ew
open Rn
theorem tiedForms_open (e : Ex) (nv dl kv : Value) {W : World} (h : ExAt W (exV e.kind e.name nv e.const dl kv) e) (hf : Ex.Fit e) : Calls Tryz.prog 3 #[exV e.kind e.name nv e.const dl kv] W fun en W' => en = .returned (.bool true) ∧ Below W.heap.size W W' := by
  obtain ⟨na, nc, da, dn, dc, ka, kc, rfl, rfl, rfl, ho⟩ := Op.of h
  exact tiedForms_any e hf ho
theorem tiedAgain_open (e : Ex) (nv dl kv : Value) {W : World} (h : ExAt W (exV e.kind e.name nv e.const dl kv) e) (hf : Ex.Fit e) : Calls Tryz.prog 4 #[exV e.kind e.name nv e.const dl kv] W fun en W' => en = .returned (.bool true) ∧ Below W.heap.size W W' := by
  obtain ⟨na, nc, da, dn, dc, ka, kc, rfl, rfl, rfl, ho⟩ := Op.of h
  exact tiedAgain_any e hf ho
end Ew
end Go.Proofs.YtkplkgdfphbldaaGreat
