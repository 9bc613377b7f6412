/-
  NARROWER THAN 'FOR EVERY INPUT', by the rows' own cells (each row's printed sentence says how): VregChecks: loops · VregSteps: loops · VregNames: loops · VregMore: loops.
  DERIVED. THE GIVEN ROWS OF THIS SEAT. 5 by the template 'for every input the law returns true; each argument reads behind the call as it read before'; 0 by the template 'total and deterministic' (their statements: YtalfnaielhbocaaTotals.lean).
  GIVEN WITH THE SEED: the statements are not yours to turn. If you find one false, say at which input.
  Laid BY PROGRAM, IN A SANDBOX (cutbox-rows.mjs): the forced cells as the released guide's own fill.sh prints them over the translation 7524ac5c2466a6db… (all of the seat's roots in one cut). By AI agents, Wed Nov 11 2026. No macro, syntax, notation, axiom, sorry.
-/
import Derived.Test.YtalfnaielhbocaaChecked
import GoSem.Claim
import GoSem.ClaimJoined
import GoSem.ClaimMapViews
import Derived.JoinedTies
import Derived.KernelRfl
namespace Go.Proofs.Ytalfnaielhbocaa
/- THE CELL 'sum', in the pinned program and in every row, IS THE sha256 OF THE DUMP (.gsa) THAT YtalfnaielhbocaaProg.lean LOADS. Nothing in Lean hashes anything: it is a label: what it is worth is what the hold of that sum in a sandbox is worth. -/
noncomputable def Try.pinned : Pinned := { name := "ytalfnaielhbocaa", sum := "7524ac5c2466a6dbdae01f1dffcf3d38918cc39fb545863d86d7e7eccceac19d", checked := Try.checked }
namespace Rows
def none {H : Type} : Left H := { results := [], args := [] }

/-- 'scrimshawlaw15.VregChecks': WHATEVER THE INPUT: true; the input reads as it did. -/
def vregChecksSpec : ChangeSpec := { name := "vregChecks", fn := fun _ => fun
  | [d] => { results := [.lit (.bool true)], args := [d] }
  | _ => none }
def vregChecksRow : OpenClaim := { program := "ytalfnaielhbocaa", sum := "7524ac5c2466a6dbdae01f1dffcf3d38918cc39fb545863d86d7e7eccceac19d", func := "scrimshaw/scrimshawlaw15.VregChecks", spec := "vregChecks", inPlace := ["internal/bytealg.IndexByteString"], unfollowed := true, recurses := true, loops := true, apart := false }
def VregChecksSaid : Prop := vregChecksRow.holds Try.pinned (OpenSpec.ofChange vregChecksSpec)

/-- ITS FALSE NEIGHBOUR: 'it returns false'. Refute it at one input. -/
def vregChecksWrong : ChangeSpec := { name := "vregChecks", fn := fun _ => fun
  | [d] => { results := [.lit (.bool false)], args := [d] }
  | _ => none }
def VregChecksWrongFalsely : Prop := vregChecksRow.holds Try.pinned (OpenSpec.ofChange vregChecksWrong)

/-- 'scrimshawlaw15.VregSteps': WHATEVER THE INPUT: true; the input reads as it did. -/
def vregStepsSpec : ChangeSpec := { name := "vregSteps", fn := fun _ => fun
  | [d1, d2, d3] => { results := [.lit (.bool true)], args := [d1, d2, d3] }
  | _ => none }
def vregStepsRow : OpenClaim := { program := "ytalfnaielhbocaa", sum := "7524ac5c2466a6dbdae01f1dffcf3d38918cc39fb545863d86d7e7eccceac19d", func := "scrimshaw/scrimshawlaw15.VregSteps", spec := "vregSteps", inPlace := ["internal/bytealg.IndexByteString"], unfollowed := true, recurses := true, loops := true, apart := false }
def VregStepsSaid : Prop := vregStepsRow.holds Try.pinned (OpenSpec.ofChange vregStepsSpec)

/-- ITS FALSE NEIGHBOUR: 'it returns false'. Refute it at one input. -/
def vregStepsWrong : ChangeSpec := { name := "vregSteps", fn := fun _ => fun
  | [d1, d2, d3] => { results := [.lit (.bool false)], args := [d1, d2, d3] }
  | _ => none }
def VregStepsWrongFalsely : Prop := vregStepsRow.holds Try.pinned (OpenSpec.ofChange vregStepsWrong)

/-- 'scrimshawlaw15.VregNames': WHATEVER THE INPUT: true; the input reads as it did. -/
def vregNamesSpec : ChangeSpec := { name := "vregNames", fn := fun _ => fun
  | [d1, d2, d3] => { results := [.lit (.bool true)], args := [d1, d2, d3] }
  | _ => none }
def vregNamesRow : OpenClaim := { program := "ytalfnaielhbocaa", sum := "7524ac5c2466a6dbdae01f1dffcf3d38918cc39fb545863d86d7e7eccceac19d", func := "scrimshaw/scrimshawlaw15.VregNames", spec := "vregNames", inPlace := ["internal/bytealg.IndexByteString"], unfollowed := true, recurses := true, loops := true, apart := false }
def VregNamesSaid : Prop := vregNamesRow.holds Try.pinned (OpenSpec.ofChange vregNamesSpec)

/-- ITS FALSE NEIGHBOUR: 'it returns false'. Refute it at one input. -/
def vregNamesWrong : ChangeSpec := { name := "vregNames", fn := fun _ => fun
  | [d1, d2, d3] => { results := [.lit (.bool false)], args := [d1, d2, d3] }
  | _ => none }
def VregNamesWrongFalsely : Prop := vregNamesRow.holds Try.pinned (OpenSpec.ofChange vregNamesWrong)

/-- 'scrimshawlaw15.VregMore': WHATEVER THE INPUT: true; the input reads as it did. -/
def vregMoreSpec : ChangeSpec := { name := "vregMore", fn := fun _ => fun
  | [d1, d2, d3] => { results := [.lit (.bool true)], args := [d1, d2, d3] }
  | _ => none }
def vregMoreRow : OpenClaim := { program := "ytalfnaielhbocaa", sum := "7524ac5c2466a6dbdae01f1dffcf3d38918cc39fb545863d86d7e7eccceac19d", func := "scrimshaw/scrimshawlaw15.VregMore", spec := "vregMore", inPlace := ["internal/bytealg.IndexByteString"], unfollowed := true, recurses := true, loops := true, apart := false }
def VregMoreSaid : Prop := vregMoreRow.holds Try.pinned (OpenSpec.ofChange vregMoreSpec)

/-- ITS FALSE NEIGHBOUR: 'it returns false'. Refute it at one input. -/
def vregMoreWrong : ChangeSpec := { name := "vregMore", fn := fun _ => fun
  | [d1, d2, d3] => { results := [.lit (.bool false)], args := [d1, d2, d3] }
  | _ => none }
def VregMoreWrongFalsely : Prop := vregMoreRow.holds Try.pinned (OpenSpec.ofChange vregMoreWrong)

/-- 'scrimshawlaw15.VregCounts': WHATEVER THE INPUT: true; the input reads as it did. -/
def vregCountsSpec : ChangeSpec := { name := "vregCounts", fn := fun _ => fun
  | [d1, d2] => { results := [.lit (.bool true)], args := [d1, d2] }
  | _ => none }
def vregCountsRow : OpenClaim := { program := "ytalfnaielhbocaa", sum := "7524ac5c2466a6dbdae01f1dffcf3d38918cc39fb545863d86d7e7eccceac19d", func := "scrimshaw/scrimshawlaw15.VregCounts", spec := "vregCounts", inPlace := ["internal/bytealg.IndexByteString"], unfollowed := true, recurses := true, apart := false }
def VregCountsSaid : Prop := vregCountsRow.holds Try.pinned (OpenSpec.ofChange vregCountsSpec)

/-- ITS FALSE NEIGHBOUR: 'it returns false'. Refute it at one input. -/
def vregCountsWrong : ChangeSpec := { name := "vregCounts", fn := fun _ => fun
  | [d1, d2] => { results := [.lit (.bool false)], args := [d1, d2] }
  | _ => none }
def VregCountsWrongFalsely : Prop := vregCountsRow.holds Try.pinned (OpenSpec.ofChange vregCountsWrong)

/- THE SECOND FORM. 'bulk': how many values and letters a reading holds, each counted each time it is reached (what is shared counts as often as it is met; a slice's spare places count too). A statement '..UptoSaid' is the law's where the arguments, and the package variables that the reading takes, are together of bulk at most 1048576: NARROWER than '..Said'. Prove '..Said' where nothing that the law and all that it calls make is longer than what came in: it says more and counts as full. Else prove '..UptoSaid'. A law counts once. -/
mutual
def uptoBulk {H : Type} : DataW H → Nat
  | .lit (.string bytes) => bytes.length + 1
  | .lit _ => 1
  | .nil => 1
  | .ptr d => uptoBulk d + 1
  | .slice elems spare => uptoBulkAll elems + uptoBulkAll spare + 1
  | .agg parts => uptoBulkAll parts + 1
  | .iface _ d => uptoBulk d + 1
  | .map entries => uptoBulkEntries entries + 1
  | .held _ => 1
def uptoBulkAll {H : Type} : List (DataW H) → Nat
  | [] => 0
  | d :: r => uptoBulk d + uptoBulkAll r
def uptoBulkEntries {H : Type} : List (Lit × DataW H) → Nat
  | [] => 0
  | x :: r => uptoBulkEntry x + uptoBulkEntries r
def uptoBulkEntry {H : Type} : Lit × DataW H → Nat
  | (.string bytes, d) => bytes.length + uptoBulk d + 1
  | (_, d) => uptoBulk d + 1
 end
def uptoSmall : (H : Type) → List (DataW H) → Bool := fun _ ds => decide (uptoBulkAll ds ≤ 1048576)
def OpenSpec.upto (s : _root_.Go.ChangeSpec) : _root_.Go.OpenSpec := { _root_.Go.OpenSpec.ofChange s with cond := some uptoSmall }

/-- 'scrimshawlaw15.VregChecks', WHERE WHAT IT READS IS OF BULK AT MOST 1048576: true; the input reads as it did. -/
def vregChecksUptoRow : OpenClaim := { program := "ytalfnaielhbocaa", sum := "7524ac5c2466a6dbdae01f1dffcf3d38918cc39fb545863d86d7e7eccceac19d", func := "scrimshaw/scrimshawlaw15.VregChecks", spec := "vregChecks", inPlace := ["internal/bytealg.IndexByteString"], unfollowed := true, recurses := true, loops := true, apart := false, narrowed := true }
def VregChecksUptoSaid : Prop := vregChecksUptoRow.holds Try.pinned (OpenSpec.upto vregChecksSpec)

/-- 'scrimshawlaw15.VregSteps', WHERE WHAT IT READS IS OF BULK AT MOST 1048576: true; the input reads as it did. -/
def vregStepsUptoRow : OpenClaim := { program := "ytalfnaielhbocaa", sum := "7524ac5c2466a6dbdae01f1dffcf3d38918cc39fb545863d86d7e7eccceac19d", func := "scrimshaw/scrimshawlaw15.VregSteps", spec := "vregSteps", inPlace := ["internal/bytealg.IndexByteString"], unfollowed := true, recurses := true, loops := true, apart := false, narrowed := true }
def VregStepsUptoSaid : Prop := vregStepsUptoRow.holds Try.pinned (OpenSpec.upto vregStepsSpec)

/-- 'scrimshawlaw15.VregNames', WHERE WHAT IT READS IS OF BULK AT MOST 1048576: true; the input reads as it did. -/
def vregNamesUptoRow : OpenClaim := { program := "ytalfnaielhbocaa", sum := "7524ac5c2466a6dbdae01f1dffcf3d38918cc39fb545863d86d7e7eccceac19d", func := "scrimshaw/scrimshawlaw15.VregNames", spec := "vregNames", inPlace := ["internal/bytealg.IndexByteString"], unfollowed := true, recurses := true, loops := true, apart := false, narrowed := true }
def VregNamesUptoSaid : Prop := vregNamesUptoRow.holds Try.pinned (OpenSpec.upto vregNamesSpec)

/-- 'scrimshawlaw15.VregMore', WHERE WHAT IT READS IS OF BULK AT MOST 1048576: true; the input reads as it did. -/
def vregMoreUptoRow : OpenClaim := { program := "ytalfnaielhbocaa", sum := "7524ac5c2466a6dbdae01f1dffcf3d38918cc39fb545863d86d7e7eccceac19d", func := "scrimshaw/scrimshawlaw15.VregMore", spec := "vregMore", inPlace := ["internal/bytealg.IndexByteString"], unfollowed := true, recurses := true, loops := true, apart := false, narrowed := true }
def VregMoreUptoSaid : Prop := vregMoreUptoRow.holds Try.pinned (OpenSpec.upto vregMoreSpec)

/-- 'scrimshawlaw15.VregCounts', WHERE WHAT IT READS IS OF BULK AT MOST 1048576: true; the input reads as it did. -/
def vregCountsUptoRow : OpenClaim := { program := "ytalfnaielhbocaa", sum := "7524ac5c2466a6dbdae01f1dffcf3d38918cc39fb545863d86d7e7eccceac19d", func := "scrimshaw/scrimshawlaw15.VregCounts", spec := "vregCounts", inPlace := ["internal/bytealg.IndexByteString"], unfollowed := true, recurses := true, apart := false, narrowed := true }
def VregCountsUptoSaid : Prop := vregCountsUptoRow.holds Try.pinned (OpenSpec.upto vregCountsSpec)

end Rows
end Go.Proofs.Ytalfnaielhbocaa
