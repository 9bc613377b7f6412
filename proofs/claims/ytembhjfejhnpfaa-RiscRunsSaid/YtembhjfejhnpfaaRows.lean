/-
  No cell of these rows narrows 'for every input' (looked for: loops, veiled, ifaces, maps, wideKeys, modest, calm, conditions, laid).
  DERIVED. THE GIVEN ROWS OF THIS SEAT. 5 by the template 'for every input the law returns true; each argument reads behind the call as it read before'; 0 by the template 'total and deterministic' (their statements: YtembhjfejhnpfaaTotals.lean).
  GIVEN WITH THE SEED: the statements are not yours to turn. If you find one false, say at which input.
  Laid BY PROGRAM, IN A SANDBOX (cutbox-rows.mjs): the forced cells as the released guide's own fill.sh prints them over the translation 5f9eceaeb688cb55… (all of the seat's roots in one cut). By AI agents, Wed Nov 11 2026. No macro, syntax, notation, axiom, sorry.
-/
import Derived.Test.YtembhjfejhnpfaaChecked
import GoSem.Claim
import GoSem.ClaimJoined
import GoSem.ClaimMapViews
import Derived.JoinedTies
import Derived.KernelRfl
namespace Go.Proofs.Ytembhjfejhnpfaa
/- THE CELL 'sum', in the pinned program and in every row, IS THE sha256 OF THE DUMP (.gsa) THAT YtembhjfejhnpfaaProg.lean LOADS. Nothing in Lean hashes anything: it is a label: what it is worth is what the hold of that sum in a sandbox is worth. -/
noncomputable def Try.pinned : Pinned := { name := "ytembhjfejhnpfaa", sum := "5f9eceaeb688cb55e4bb63b1e10e10a45bbd47e3d9e9e2b1350e6d8e44d29865", checked := Try.checked }
namespace Rows
def none {H : Type} : Left H := { results := [], args := [] }

/-- 'scrimshawlaw20.RiscWords': WHATEVER THE INPUT: true; the input reads as it did. -/
def riscWordsSpec : ChangeSpec := { name := "riscWords", fn := fun _ => fun
  | [d1, d2] => { results := [.lit (.bool true)], args := [d1, d2] }
  | _ => none }
def riscWordsRow : OpenClaim := { program := "ytembhjfejhnpfaa", sum := "5f9eceaeb688cb55e4bb63b1e10e10a45bbd47e3d9e9e2b1350e6d8e44d29865", func := "scrimshaw/scrimshawlaw20.RiscWords", spec := "riscWords", apart := false }
def RiscWordsSaid : Prop := riscWordsRow.holds Try.pinned (OpenSpec.ofChange riscWordsSpec)

/-- ITS FALSE NEIGHBOUR: 'it returns false'. Refute it at one input. -/
def riscWordsWrong : ChangeSpec := { name := "riscWords", fn := fun _ => fun
  | [d1, d2] => { results := [.lit (.bool false)], args := [d1, d2] }
  | _ => none }
def RiscWordsWrongFalsely : Prop := riscWordsRow.holds Try.pinned (OpenSpec.ofChange riscWordsWrong)

/-- 'scrimshawlaw20.RiscBack': WHATEVER THE INPUT: true; the input reads as it did. -/
def riscBackSpec : ChangeSpec := { name := "riscBack", fn := fun _ => fun
  | [d1, d2] => { results := [.lit (.bool true)], args := [d1, d2] }
  | _ => none }
def riscBackRow : OpenClaim := { program := "ytembhjfejhnpfaa", sum := "5f9eceaeb688cb55e4bb63b1e10e10a45bbd47e3d9e9e2b1350e6d8e44d29865", func := "scrimshaw/scrimshawlaw20.RiscBack", spec := "riscBack", apart := false }
def RiscBackSaid : Prop := riscBackRow.holds Try.pinned (OpenSpec.ofChange riscBackSpec)

/-- ITS FALSE NEIGHBOUR: 'it returns false'. Refute it at one input. -/
def riscBackWrong : ChangeSpec := { name := "riscBack", fn := fun _ => fun
  | [d1, d2] => { results := [.lit (.bool false)], args := [d1, d2] }
  | _ => none }
def RiscBackWrongFalsely : Prop := riscBackRow.holds Try.pinned (OpenSpec.ofChange riscBackWrong)

/-- 'scrimshawlaw20.RiscRuns': WHATEVER THE INPUT: true; the input reads as it did. -/
def riscRunsSpec : ChangeSpec := { name := "riscRuns", fn := fun _ => fun
  | [d1, d2, d3] => { results := [.lit (.bool true)], args := [d1, d2, d3] }
  | _ => none }
def riscRunsRow : OpenClaim := { program := "ytembhjfejhnpfaa", sum := "5f9eceaeb688cb55e4bb63b1e10e10a45bbd47e3d9e9e2b1350e6d8e44d29865", func := "scrimshaw/scrimshawlaw20.RiscRuns", spec := "riscRuns", apart := false }
def RiscRunsSaid : Prop := riscRunsRow.holds Try.pinned (OpenSpec.ofChange riscRunsSpec)

/-- ITS FALSE NEIGHBOUR: 'it returns false'. Refute it at one input. -/
def riscRunsWrong : ChangeSpec := { name := "riscRuns", fn := fun _ => fun
  | [d1, d2, d3] => { results := [.lit (.bool false)], args := [d1, d2, d3] }
  | _ => none }
def RiscRunsWrongFalsely : Prop := riscRunsRow.holds Try.pinned (OpenSpec.ofChange riscRunsWrong)

/-- 'scrimshawlaw20.RiscSteps': WHATEVER THE INPUT: true; the input reads as it did. -/
def riscStepsSpec : ChangeSpec := { name := "riscSteps", fn := fun _ => fun
  | [d1, d2, d3] => { results := [.lit (.bool true)], args := [d1, d2, d3] }
  | _ => none }
def riscStepsRow : OpenClaim := { program := "ytembhjfejhnpfaa", sum := "5f9eceaeb688cb55e4bb63b1e10e10a45bbd47e3d9e9e2b1350e6d8e44d29865", func := "scrimshaw/scrimshawlaw20.RiscSteps", spec := "riscSteps", apart := false }
def RiscStepsSaid : Prop := riscStepsRow.holds Try.pinned (OpenSpec.ofChange riscStepsSpec)

/-- ITS FALSE NEIGHBOUR: 'it returns false'. Refute it at one input. -/
def riscStepsWrong : ChangeSpec := { name := "riscSteps", fn := fun _ => fun
  | [d1, d2, d3] => { results := [.lit (.bool false)], args := [d1, d2, d3] }
  | _ => none }
def RiscStepsWrongFalsely : Prop := riscStepsRow.holds Try.pinned (OpenSpec.ofChange riscStepsWrong)

/-- 'scrimshawlaw20.RiscNumbers': WHATEVER THE INPUT: true; the input reads as it did. -/
def riscNumbersSpec : ChangeSpec := { name := "riscNumbers", fn := fun _ => fun
  | [d1, d2] => { results := [.lit (.bool true)], args := [d1, d2] }
  | _ => none }
def riscNumbersRow : OpenClaim := { program := "ytembhjfejhnpfaa", sum := "5f9eceaeb688cb55e4bb63b1e10e10a45bbd47e3d9e9e2b1350e6d8e44d29865", func := "scrimshaw/scrimshawlaw20.RiscNumbers", spec := "riscNumbers", apart := false }
def RiscNumbersSaid : Prop := riscNumbersRow.holds Try.pinned (OpenSpec.ofChange riscNumbersSpec)

/-- ITS FALSE NEIGHBOUR: 'it returns false'. Refute it at one input. -/
def riscNumbersWrong : ChangeSpec := { name := "riscNumbers", fn := fun _ => fun
  | [d1, d2] => { results := [.lit (.bool false)], args := [d1, d2] }
  | _ => none }
def RiscNumbersWrongFalsely : Prop := riscNumbersRow.holds Try.pinned (OpenSpec.ofChange riscNumbersWrong)

/- THE SECOND FORM. 'bulk': how many values and letters a reading holds, each counted each time it is reached (what is shared counts as often as it is met; a slice's spare places count too). A statement '..UptoSaid' is the law's where the arguments, and the package variables that the reading takes, are together of bulk at most 1048576: NARROWER than '..Said'. Prove '..Said' where nothing that the law and all that it calls make is longer than what came in: it says more and counts as full. Else prove '..UptoSaid'. A law counts once. -/
mutual
def uptoBulk {H : Type} : DataW H → Nat
  | .lit (.string bytes) => bytes.length + 1
  | .lit _ => 1
  | .nil => 1
  | .ptr d => uptoBulk d + 1
  | .slice elems spare => uptoBulkAll elems + uptoBulkAll spare + 1
  | .agg parts => uptoBulkAll parts + 1
  | .iface _ d => uptoBulk d + 1
  | .map entries => uptoBulkEntries entries + 1
  | .held _ => 1
def uptoBulkAll {H : Type} : List (DataW H) → Nat
  | [] => 0
  | d :: r => uptoBulk d + uptoBulkAll r
def uptoBulkEntries {H : Type} : List (Lit × DataW H) → Nat
  | [] => 0
  | x :: r => uptoBulkEntry x + uptoBulkEntries r
def uptoBulkEntry {H : Type} : Lit × DataW H → Nat
  | (.string bytes, d) => bytes.length + uptoBulk d + 1
  | (_, d) => uptoBulk d + 1
 end
def uptoSmall : (H : Type) → List (DataW H) → Bool := fun _ ds => decide (uptoBulkAll ds ≤ 1048576)
def OpenSpec.upto (s : _root_.Go.ChangeSpec) : _root_.Go.OpenSpec := { _root_.Go.OpenSpec.ofChange s with cond := some uptoSmall }

/-- 'scrimshawlaw20.RiscWords', WHERE WHAT IT READS IS OF BULK AT MOST 1048576: true; the input reads as it did. -/
def riscWordsUptoRow : OpenClaim := { program := "ytembhjfejhnpfaa", sum := "5f9eceaeb688cb55e4bb63b1e10e10a45bbd47e3d9e9e2b1350e6d8e44d29865", func := "scrimshaw/scrimshawlaw20.RiscWords", spec := "riscWords", apart := false, narrowed := true }
def RiscWordsUptoSaid : Prop := riscWordsUptoRow.holds Try.pinned (OpenSpec.upto riscWordsSpec)

/-- 'scrimshawlaw20.RiscBack', WHERE WHAT IT READS IS OF BULK AT MOST 1048576: true; the input reads as it did. -/
def riscBackUptoRow : OpenClaim := { program := "ytembhjfejhnpfaa", sum := "5f9eceaeb688cb55e4bb63b1e10e10a45bbd47e3d9e9e2b1350e6d8e44d29865", func := "scrimshaw/scrimshawlaw20.RiscBack", spec := "riscBack", apart := false, narrowed := true }
def RiscBackUptoSaid : Prop := riscBackUptoRow.holds Try.pinned (OpenSpec.upto riscBackSpec)

/-- 'scrimshawlaw20.RiscRuns', WHERE WHAT IT READS IS OF BULK AT MOST 1048576: true; the input reads as it did. -/
def riscRunsUptoRow : OpenClaim := { program := "ytembhjfejhnpfaa", sum := "5f9eceaeb688cb55e4bb63b1e10e10a45bbd47e3d9e9e2b1350e6d8e44d29865", func := "scrimshaw/scrimshawlaw20.RiscRuns", spec := "riscRuns", apart := false, narrowed := true }
def RiscRunsUptoSaid : Prop := riscRunsUptoRow.holds Try.pinned (OpenSpec.upto riscRunsSpec)

/-- 'scrimshawlaw20.RiscSteps', WHERE WHAT IT READS IS OF BULK AT MOST 1048576: true; the input reads as it did. -/
def riscStepsUptoRow : OpenClaim := { program := "ytembhjfejhnpfaa", sum := "5f9eceaeb688cb55e4bb63b1e10e10a45bbd47e3d9e9e2b1350e6d8e44d29865", func := "scrimshaw/scrimshawlaw20.RiscSteps", spec := "riscSteps", apart := false, narrowed := true }
def RiscStepsUptoSaid : Prop := riscStepsUptoRow.holds Try.pinned (OpenSpec.upto riscStepsSpec)

/-- 'scrimshawlaw20.RiscNumbers', WHERE WHAT IT READS IS OF BULK AT MOST 1048576: true; the input reads as it did. -/
def riscNumbersUptoRow : OpenClaim := { program := "ytembhjfejhnpfaa", sum := "5f9eceaeb688cb55e4bb63b1e10e10a45bbd47e3d9e9e2b1350e6d8e44d29865", func := "scrimshaw/scrimshawlaw20.RiscNumbers", spec := "riscNumbers", apart := false, narrowed := true }
def RiscNumbersUptoSaid : Prop := riscNumbersUptoRow.holds Try.pinned (OpenSpec.upto riscNumbersSpec)

end Rows
end Go.Proofs.Ytembhjfejhnpfaa
