/- RiscSteps: what the proof imports. -/
import Derived.Test.YtembhjfejhnpfaaRiscP
import Derived.Test.YtembhjfejhnpfaaRiscStepsW
namespace Go.Proofs.Ytembhjfejhnpfaa
open Go.RowKit
set_option linter.unusedVariables false
set_option linter.unusedSimpArgs false
theorem steps_str (vc vm : Value) (code mem : List Int) (words : Int) (s : ByteArray) (more : Int) (w : World) (hc : Sl w vc (u32s code)) (hm : Sl w vm (i64s mem)) (hcr : ∀ x ∈ code, 0 ≤ x ∧ x < 4294967296) (hmr : ∀ x ∈ mem, Rs.InR x) (hmo : Rs.InR more) :
    Calls Try.prog 6 #[.agg #[vc, vm, .int .i64 words], .string s, .int .i64 more] w fun e w' => e = .returned (.bool true) ∧ Below w.heap.size w w' := by
  have h := steps_walk vc vm code mem words s.data.toList more w hc hm hcr hmr hmo
  rw [Array.toArray_toList] at h
  exact h
end Go.Proofs.Ytembhjfejhnpfaa
