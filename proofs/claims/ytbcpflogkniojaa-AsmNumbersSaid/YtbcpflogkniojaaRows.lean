/-
  No cell of these rows narrows 'for every input' (looked for: loops, veiled, ifaces, maps, wideKeys, modest, calm, conditions, laid).
  DERIVED. THE GIVEN ROWS OF THIS SEAT. 4 by the template 'for every input the law returns true; each argument reads behind the call as it read before'; 0 by the template 'total and deterministic' (their statements: YtbcpflogkniojaaTotals.lean).
  GIVEN WITH THE SEED: the statements are not yours to turn. If you find one false, say at which input.
  Laid BY PROGRAM, IN A SANDBOX (cutbox-rows.mjs): the forced cells as the released guide's own fill.sh prints them over the translation f19345b5702d5d98… (all of the seat's roots in one cut). By AI agents, Wed Nov 11 2026. No macro, syntax, notation, axiom, sorry.
-/
import Derived.Test.YtbcpflogkniojaaChecked
import GoSem.Claim
import GoSem.ClaimJoined
import GoSem.ClaimMapViews
import Derived.JoinedTies
import Derived.KernelRfl
namespace Go.Proofs.Ytbcpflogkniojaa
/- THE CELL 'sum', in the pinned program and in every row, IS THE sha256 OF THE DUMP (.gsa) THAT YtbcpflogkniojaaProg.lean LOADS. Nothing in Lean hashes anything: it is a label: what it is worth is what the hold of that sum in a sandbox is worth. -/
noncomputable def Try.pinned : Pinned := { name := "ytbcpflogkniojaa", sum := "f19345b5702d5d986384781ae4519d43b5de3de8989097a69461e47da9cb7ad2", checked := Try.checked }
namespace Rows
def none {H : Type} : Left H := { results := [], args := [] }

/-- 'scrimshawlaw21.AsmTells': WHATEVER THE INPUT: true; the input reads as it did. -/
def asmTellsSpec : ChangeSpec := { name := "asmTells", fn := fun _ => fun
  | [d] => { results := [.lit (.bool true)], args := [d] }
  | _ => none }
def asmTellsRow : OpenClaim := { program := "ytbcpflogkniojaa", sum := "f19345b5702d5d986384781ae4519d43b5de3de8989097a69461e47da9cb7ad2", func := "scrimshaw/scrimshawlaw21.AsmTells", spec := "asmTells", apart := false }
def AsmTellsSaid : Prop := asmTellsRow.holds Try.pinned (OpenSpec.ofChange asmTellsSpec)

/-- ITS FALSE NEIGHBOUR: 'it returns false'. Refute it at one input. -/
def asmTellsWrong : ChangeSpec := { name := "asmTells", fn := fun _ => fun
  | [d] => { results := [.lit (.bool false)], args := [d] }
  | _ => none }
def AsmTellsWrongFalsely : Prop := asmTellsRow.holds Try.pinned (OpenSpec.ofChange asmTellsWrong)

/-- 'scrimshawlaw21.AsmReaches': WHATEVER THE INPUT: true; the input reads as it did. -/
def asmReachesSpec : ChangeSpec := { name := "asmReaches", fn := fun _ => fun
  | [d] => { results := [.lit (.bool true)], args := [d] }
  | _ => none }
def asmReachesRow : OpenClaim := { program := "ytbcpflogkniojaa", sum := "f19345b5702d5d986384781ae4519d43b5de3de8989097a69461e47da9cb7ad2", func := "scrimshaw/scrimshawlaw21.AsmReaches", spec := "asmReaches", apart := false }
def AsmReachesSaid : Prop := asmReachesRow.holds Try.pinned (OpenSpec.ofChange asmReachesSpec)

/-- ITS FALSE NEIGHBOUR: 'it returns false'. Refute it at one input. -/
def asmReachesWrong : ChangeSpec := { name := "asmReaches", fn := fun _ => fun
  | [d] => { results := [.lit (.bool false)], args := [d] }
  | _ => none }
def AsmReachesWrongFalsely : Prop := asmReachesRow.holds Try.pinned (OpenSpec.ofChange asmReachesWrong)

/-- 'scrimshawlaw21.AsmNumbers': WHATEVER THE INPUT: true; the input reads as it did. -/
def asmNumbersSpec : ChangeSpec := { name := "asmNumbers", fn := fun _ => fun
  | [d1, d2] => { results := [.lit (.bool true)], args := [d1, d2] }
  | _ => none }
def asmNumbersRow : OpenClaim := { program := "ytbcpflogkniojaa", sum := "f19345b5702d5d986384781ae4519d43b5de3de8989097a69461e47da9cb7ad2", func := "scrimshaw/scrimshawlaw21.AsmNumbers", spec := "asmNumbers", apart := false }
def AsmNumbersSaid : Prop := asmNumbersRow.holds Try.pinned (OpenSpec.ofChange asmNumbersSpec)

/-- ITS FALSE NEIGHBOUR: 'it returns false'. Refute it at one input. -/
def asmNumbersWrong : ChangeSpec := { name := "asmNumbers", fn := fun _ => fun
  | [d1, d2] => { results := [.lit (.bool false)], args := [d1, d2] }
  | _ => none }
def AsmNumbersWrongFalsely : Prop := asmNumbersRow.holds Try.pinned (OpenSpec.ofChange asmNumbersWrong)

/-- 'scrimshawlaw21.AsmParts': WHATEVER THE INPUT: true; the input reads as it did. -/
def asmPartsSpec : ChangeSpec := { name := "asmParts", fn := fun _ => fun
  | [d1, d2] => { results := [.lit (.bool true)], args := [d1, d2] }
  | _ => none }
def asmPartsRow : OpenClaim := { program := "ytbcpflogkniojaa", sum := "f19345b5702d5d986384781ae4519d43b5de3de8989097a69461e47da9cb7ad2", func := "scrimshaw/scrimshawlaw21.AsmParts", spec := "asmParts", apart := false }
def AsmPartsSaid : Prop := asmPartsRow.holds Try.pinned (OpenSpec.ofChange asmPartsSpec)

/-- ITS FALSE NEIGHBOUR: 'it returns false'. Refute it at one input. -/
def asmPartsWrong : ChangeSpec := { name := "asmParts", fn := fun _ => fun
  | [d1, d2] => { results := [.lit (.bool false)], args := [d1, d2] }
  | _ => none }
def AsmPartsWrongFalsely : Prop := asmPartsRow.holds Try.pinned (OpenSpec.ofChange asmPartsWrong)

/- THE SECOND FORM. 'bulk': how many values and letters a reading holds, each counted each time it is reached (what is shared counts as often as it is met; a slice's spare places count too). A statement '..UptoSaid' is the law's where the arguments, and the package variables that the reading takes, are together of bulk at most 1048576: NARROWER than '..Said'. Prove '..Said' where nothing that the law and all that it calls make is longer than what came in: it says more and counts as full. Else prove '..UptoSaid'. A law counts once. -/
mutual
def uptoBulk {H : Type} : DataW H → Nat
  | .lit (.string bytes) => bytes.length + 1
  | .lit _ => 1
  | .nil => 1
  | .ptr d => uptoBulk d + 1
  | .slice elems spare => uptoBulkAll elems + uptoBulkAll spare + 1
  | .agg parts => uptoBulkAll parts + 1
  | .iface _ d => uptoBulk d + 1
  | .map entries => uptoBulkEntries entries + 1
  | .held _ => 1
def uptoBulkAll {H : Type} : List (DataW H) → Nat
  | [] => 0
  | d :: r => uptoBulk d + uptoBulkAll r
def uptoBulkEntries {H : Type} : List (Lit × DataW H) → Nat
  | [] => 0
  | x :: r => uptoBulkEntry x + uptoBulkEntries r
def uptoBulkEntry {H : Type} : Lit × DataW H → Nat
  | (.string bytes, d) => bytes.length + uptoBulk d + 1
  | (_, d) => uptoBulk d + 1
 end
def uptoSmall : (H : Type) → List (DataW H) → Bool := fun _ ds => decide (uptoBulkAll ds ≤ 1048576)
def OpenSpec.upto (s : _root_.Go.ChangeSpec) : _root_.Go.OpenSpec := { _root_.Go.OpenSpec.ofChange s with cond := some uptoSmall }

/-- 'scrimshawlaw21.AsmTells', WHERE WHAT IT READS IS OF BULK AT MOST 1048576: true; the input reads as it did. -/
def asmTellsUptoRow : OpenClaim := { program := "ytbcpflogkniojaa", sum := "f19345b5702d5d986384781ae4519d43b5de3de8989097a69461e47da9cb7ad2", func := "scrimshaw/scrimshawlaw21.AsmTells", spec := "asmTells", apart := false, narrowed := true }
def AsmTellsUptoSaid : Prop := asmTellsUptoRow.holds Try.pinned (OpenSpec.upto asmTellsSpec)

/-- 'scrimshawlaw21.AsmReaches', WHERE WHAT IT READS IS OF BULK AT MOST 1048576: true; the input reads as it did. -/
def asmReachesUptoRow : OpenClaim := { program := "ytbcpflogkniojaa", sum := "f19345b5702d5d986384781ae4519d43b5de3de8989097a69461e47da9cb7ad2", func := "scrimshaw/scrimshawlaw21.AsmReaches", spec := "asmReaches", apart := false, narrowed := true }
def AsmReachesUptoSaid : Prop := asmReachesUptoRow.holds Try.pinned (OpenSpec.upto asmReachesSpec)

/-- 'scrimshawlaw21.AsmNumbers', WHERE WHAT IT READS IS OF BULK AT MOST 1048576: true; the input reads as it did. -/
def asmNumbersUptoRow : OpenClaim := { program := "ytbcpflogkniojaa", sum := "f19345b5702d5d986384781ae4519d43b5de3de8989097a69461e47da9cb7ad2", func := "scrimshaw/scrimshawlaw21.AsmNumbers", spec := "asmNumbers", apart := false, narrowed := true }
def AsmNumbersUptoSaid : Prop := asmNumbersUptoRow.holds Try.pinned (OpenSpec.upto asmNumbersSpec)

/-- 'scrimshawlaw21.AsmParts', WHERE WHAT IT READS IS OF BULK AT MOST 1048576: true; the input reads as it did. -/
def asmPartsUptoRow : OpenClaim := { program := "ytbcpflogkniojaa", sum := "f19345b5702d5d986384781ae4519d43b5de3de8989097a69461e47da9cb7ad2", func := "scrimshaw/scrimshawlaw21.AsmParts", spec := "asmParts", apart := false, narrowed := true }
def AsmPartsUptoSaid : Prop := asmPartsUptoRow.holds Try.pinned (OpenSpec.upto asmPartsSpec)

end Rows
end Go.Proofs.Ytbcpflogkniojaa
