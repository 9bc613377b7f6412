/- RiscRuns: what the proof imports. -/
import Derived.Test.YtembhjfejhnpfaaRiscP
import Derived.Test.YtembhjfejhnpfaaRiscRunsW
namespace Go.Proofs.Ytembhjfejhnpfaa
open Go.RowKit
theorem runs_str (vc vm : Value) (code mem : List Int) (words : Int) (s : ByteArray) (steps : Int) (w : World) (hc : Sl w vc (u32s code)) (hm : Sl w vm (i64s mem)) (hcr : ∀ x ∈ code, 0 ≤ x ∧ x < 4294967296) (hmr : ∀ x ∈ mem, Rs.InR x) :
    Calls Try.prog 5 #[.agg #[vc, vm, .int .i64 words], .string s, .int .i64 steps] w fun e w' => e = .returned (.bool true) ∧ Below w.heap.size w w' := by
  have h := runs_walk vc vm code mem words s.data.toList steps w hc hm hcr hmr
  rw [Array.toArray_toList] at h
  exact h
end Go.Proofs.Ytembhjfejhnpfaa
