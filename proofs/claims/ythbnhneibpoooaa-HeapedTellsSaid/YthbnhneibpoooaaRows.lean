/-
  NARROWER THAN 'FOR EVERY INPUT', by the rows' own cells (each row's printed sentence says how): HeapedConsts: loops · HeapedPairs: loops.
  DERIVED. THE GIVEN ROWS OF THIS SEAT. 6 by the template 'for every input the law returns true; each argument reads behind the call as it read before'; 0 by the template 'total and deterministic' (their statements: YthbnhneibpoooaaTotals.lean).
  GIVEN WITH THE SEED: the statements are not yours to turn. If you find one false, say at which input.
  Laid BY PROGRAM, IN A SANDBOX (cutbox-rows.mjs): the forced cells as the released guide's own fill.sh prints them over the translation d8a26255c4ec48e3… (all of the seat's roots in one cut). By AI agents, Wed Nov 11 2026. No macro, syntax, notation, axiom, sorry.
-/
import Derived.Test.YthbnhneibpoooaaChecked
import GoSem.Claim
import GoSem.ClaimJoined
import GoSem.ClaimMapViews
import Derived.JoinedTies
import Derived.KernelRfl
namespace Go.Proofs.Ythbnhneibpoooaa
/- THE CELL 'sum', in the pinned program and in every row, IS THE sha256 OF THE DUMP (.gsa) THAT YthbnhneibpoooaaProg.lean LOADS. Nothing in Lean hashes anything: it is a label: what it is worth is what the hold of that sum in a sandbox is worth. -/
noncomputable def Try.pinned : Pinned := { name := "ythbnhneibpoooaa", sum := "d8a26255c4ec48e385acdce056740c7df5db6bd767bdcdcb20b74c93418d5ce9", checked := Try.checked }
namespace Rows
def none {H : Type} : Left H := { results := [], args := [] }

/-- 'scrimshawlaw08.HeapedKeeps': WHATEVER THE INPUT: true; the input reads as it did. -/
def heapedKeepsSpec : ChangeSpec := { name := "heapedKeeps", fn := fun _ => fun
  | [d1, d2, d3] => { results := [.lit (.bool true)], args := [d1, d2, d3] }
  | _ => none }
def heapedKeepsRow : OpenClaim := { program := "ythbnhneibpoooaa", sum := "d8a26255c4ec48e385acdce056740c7df5db6bd767bdcdcb20b74c93418d5ce9", func := "scrimshaw/scrimshawlaw08.HeapedKeeps", spec := "heapedKeeps", inPlace := ["internal/bytealg.IndexByteString"], unfollowed := true, recurses := true, apart := false }
def HeapedKeepsSaid : Prop := heapedKeepsRow.holds Try.pinned (OpenSpec.ofChange heapedKeepsSpec)

/-- ITS FALSE NEIGHBOUR: 'it returns false'. Refute it at one input. -/
def heapedKeepsWrong : ChangeSpec := { name := "heapedKeeps", fn := fun _ => fun
  | [d1, d2, d3] => { results := [.lit (.bool false)], args := [d1, d2, d3] }
  | _ => none }
def HeapedKeepsWrongFalsely : Prop := heapedKeepsRow.holds Try.pinned (OpenSpec.ofChange heapedKeepsWrong)

/-- 'scrimshawlaw08.HeapedTells': WHATEVER THE INPUT: true; the input reads as it did. -/
def heapedTellsSpec : ChangeSpec := { name := "heapedTells", fn := fun _ => fun
  | [d1, d2] => { results := [.lit (.bool true)], args := [d1, d2] }
  | _ => none }
def heapedTellsRow : OpenClaim := { program := "ythbnhneibpoooaa", sum := "d8a26255c4ec48e385acdce056740c7df5db6bd767bdcdcb20b74c93418d5ce9", func := "scrimshaw/scrimshawlaw08.HeapedTells", spec := "heapedTells", inPlace := ["internal/bytealg.IndexByteString"], unfollowed := true, recurses := true, apart := false }
def HeapedTellsSaid : Prop := heapedTellsRow.holds Try.pinned (OpenSpec.ofChange heapedTellsSpec)

/-- ITS FALSE NEIGHBOUR: 'it returns false'. Refute it at one input. -/
def heapedTellsWrong : ChangeSpec := { name := "heapedTells", fn := fun _ => fun
  | [d1, d2] => { results := [.lit (.bool false)], args := [d1, d2] }
  | _ => none }
def HeapedTellsWrongFalsely : Prop := heapedTellsRow.holds Try.pinned (OpenSpec.ofChange heapedTellsWrong)

/-- 'scrimshawlaw08.HeapedDoes': WHATEVER THE INPUT: true; the input reads as it did. -/
def heapedDoesSpec : ChangeSpec := { name := "heapedDoes", fn := fun _ => fun
  | [d] => { results := [.lit (.bool true)], args := [d] }
  | _ => none }
def heapedDoesRow : OpenClaim := { program := "ythbnhneibpoooaa", sum := "d8a26255c4ec48e385acdce056740c7df5db6bd767bdcdcb20b74c93418d5ce9", func := "scrimshaw/scrimshawlaw08.HeapedDoes", spec := "heapedDoes", inPlace := ["internal/bytealg.IndexByteString"], unfollowed := true, recurses := true, apart := false }
def HeapedDoesSaid : Prop := heapedDoesRow.holds Try.pinned (OpenSpec.ofChange heapedDoesSpec)

/-- ITS FALSE NEIGHBOUR: 'it returns false'. Refute it at one input. -/
def heapedDoesWrong : ChangeSpec := { name := "heapedDoes", fn := fun _ => fun
  | [d] => { results := [.lit (.bool false)], args := [d] }
  | _ => none }
def HeapedDoesWrongFalsely : Prop := heapedDoesRow.holds Try.pinned (OpenSpec.ofChange heapedDoesWrong)

/-- 'scrimshawlaw08.HeapedOwn': WHATEVER THE INPUT: true; the input reads as it did. -/
def heapedOwnSpec : ChangeSpec := { name := "heapedOwn", fn := fun _ => fun
  | [d] => { results := [.lit (.bool true)], args := [d] }
  | _ => none }
def heapedOwnRow : OpenClaim := { program := "ythbnhneibpoooaa", sum := "d8a26255c4ec48e385acdce056740c7df5db6bd767bdcdcb20b74c93418d5ce9", func := "scrimshaw/scrimshawlaw08.HeapedOwn", spec := "heapedOwn", inPlace := ["internal/bytealg.IndexByteString"], unfollowed := true, recurses := true, apart := false }
def HeapedOwnSaid : Prop := heapedOwnRow.holds Try.pinned (OpenSpec.ofChange heapedOwnSpec)

/-- ITS FALSE NEIGHBOUR: 'it returns false'. Refute it at one input. -/
def heapedOwnWrong : ChangeSpec := { name := "heapedOwn", fn := fun _ => fun
  | [d] => { results := [.lit (.bool false)], args := [d] }
  | _ => none }
def HeapedOwnWrongFalsely : Prop := heapedOwnRow.holds Try.pinned (OpenSpec.ofChange heapedOwnWrong)

/-- 'scrimshawlaw08.HeapedConsts': WHATEVER THE INPUT: true; the input reads as it did. -/
def heapedConstsSpec : ChangeSpec := { name := "heapedConsts", fn := fun _ => fun
  | [d] => { results := [.lit (.bool true)], args := [d] }
  | _ => none }
def heapedConstsRow : OpenClaim := { program := "ythbnhneibpoooaa", sum := "d8a26255c4ec48e385acdce056740c7df5db6bd767bdcdcb20b74c93418d5ce9", func := "scrimshaw/scrimshawlaw08.HeapedConsts", spec := "heapedConsts", inPlace := ["internal/bytealg.IndexByteString"], unfollowed := true, recurses := true, loops := true, apart := false }
def HeapedConstsSaid : Prop := heapedConstsRow.holds Try.pinned (OpenSpec.ofChange heapedConstsSpec)

/-- ITS FALSE NEIGHBOUR: 'it returns false'. Refute it at one input. -/
def heapedConstsWrong : ChangeSpec := { name := "heapedConsts", fn := fun _ => fun
  | [d] => { results := [.lit (.bool false)], args := [d] }
  | _ => none }
def HeapedConstsWrongFalsely : Prop := heapedConstsRow.holds Try.pinned (OpenSpec.ofChange heapedConstsWrong)

/-- 'scrimshawlaw08.HeapedPairs': WHATEVER THE INPUT: true; the input reads as it did. -/
def heapedPairsSpec : ChangeSpec := { name := "heapedPairs", fn := fun _ => fun
  | [d] => { results := [.lit (.bool true)], args := [d] }
  | _ => none }
def heapedPairsRow : OpenClaim := { program := "ythbnhneibpoooaa", sum := "d8a26255c4ec48e385acdce056740c7df5db6bd767bdcdcb20b74c93418d5ce9", func := "scrimshaw/scrimshawlaw08.HeapedPairs", spec := "heapedPairs", inPlace := ["internal/bytealg.IndexByteString"], unfollowed := true, recurses := true, loops := true, apart := false }
def HeapedPairsSaid : Prop := heapedPairsRow.holds Try.pinned (OpenSpec.ofChange heapedPairsSpec)

/-- ITS FALSE NEIGHBOUR: 'it returns false'. Refute it at one input. -/
def heapedPairsWrong : ChangeSpec := { name := "heapedPairs", fn := fun _ => fun
  | [d] => { results := [.lit (.bool false)], args := [d] }
  | _ => none }
def HeapedPairsWrongFalsely : Prop := heapedPairsRow.holds Try.pinned (OpenSpec.ofChange heapedPairsWrong)

/- THE SECOND FORM. 'bulk': how many values and letters a reading holds, each counted each time it is reached (what is shared counts as often as it is met; a slice's spare places count too). A statement '..UptoSaid' is the law's where the arguments, and the package variables that the reading takes, are together of bulk at most 1048576: NARROWER than '..Said'. Prove '..Said' where nothing that the law and all that it calls make is longer than what came in: it says more and counts as full. Else prove '..UptoSaid'. A law counts once. -/
mutual
def uptoBulk {H : Type} : DataW H → Nat
  | .lit (.string bytes) => bytes.length + 1
  | .lit _ => 1
  | .nil => 1
  | .ptr d => uptoBulk d + 1
  | .slice elems spare => uptoBulkAll elems + uptoBulkAll spare + 1
  | .agg parts => uptoBulkAll parts + 1
  | .iface _ d => uptoBulk d + 1
  | .map entries => uptoBulkEntries entries + 1
  | .held _ => 1
def uptoBulkAll {H : Type} : List (DataW H) → Nat
  | [] => 0
  | d :: r => uptoBulk d + uptoBulkAll r
def uptoBulkEntries {H : Type} : List (Lit × DataW H) → Nat
  | [] => 0
  | x :: r => uptoBulkEntry x + uptoBulkEntries r
def uptoBulkEntry {H : Type} : Lit × DataW H → Nat
  | (.string bytes, d) => bytes.length + uptoBulk d + 1
  | (_, d) => uptoBulk d + 1
 end
def uptoSmall : (H : Type) → List (DataW H) → Bool := fun _ ds => decide (uptoBulkAll ds ≤ 1048576)
def OpenSpec.upto (s : _root_.Go.ChangeSpec) : _root_.Go.OpenSpec := { _root_.Go.OpenSpec.ofChange s with cond := some uptoSmall }

/-- 'scrimshawlaw08.HeapedKeeps', WHERE WHAT IT READS IS OF BULK AT MOST 1048576: true; the input reads as it did. -/
def heapedKeepsUptoRow : OpenClaim := { program := "ythbnhneibpoooaa", sum := "d8a26255c4ec48e385acdce056740c7df5db6bd767bdcdcb20b74c93418d5ce9", func := "scrimshaw/scrimshawlaw08.HeapedKeeps", spec := "heapedKeeps", inPlace := ["internal/bytealg.IndexByteString"], unfollowed := true, recurses := true, apart := false, narrowed := true }
def HeapedKeepsUptoSaid : Prop := heapedKeepsUptoRow.holds Try.pinned (OpenSpec.upto heapedKeepsSpec)

/-- 'scrimshawlaw08.HeapedTells', WHERE WHAT IT READS IS OF BULK AT MOST 1048576: true; the input reads as it did. -/
def heapedTellsUptoRow : OpenClaim := { program := "ythbnhneibpoooaa", sum := "d8a26255c4ec48e385acdce056740c7df5db6bd767bdcdcb20b74c93418d5ce9", func := "scrimshaw/scrimshawlaw08.HeapedTells", spec := "heapedTells", inPlace := ["internal/bytealg.IndexByteString"], unfollowed := true, recurses := true, apart := false, narrowed := true }
def HeapedTellsUptoSaid : Prop := heapedTellsUptoRow.holds Try.pinned (OpenSpec.upto heapedTellsSpec)

/-- 'scrimshawlaw08.HeapedDoes', WHERE WHAT IT READS IS OF BULK AT MOST 1048576: true; the input reads as it did. -/
def heapedDoesUptoRow : OpenClaim := { program := "ythbnhneibpoooaa", sum := "d8a26255c4ec48e385acdce056740c7df5db6bd767bdcdcb20b74c93418d5ce9", func := "scrimshaw/scrimshawlaw08.HeapedDoes", spec := "heapedDoes", inPlace := ["internal/bytealg.IndexByteString"], unfollowed := true, recurses := true, apart := false, narrowed := true }
def HeapedDoesUptoSaid : Prop := heapedDoesUptoRow.holds Try.pinned (OpenSpec.upto heapedDoesSpec)

/-- 'scrimshawlaw08.HeapedOwn', WHERE WHAT IT READS IS OF BULK AT MOST 1048576: true; the input reads as it did. -/
def heapedOwnUptoRow : OpenClaim := { program := "ythbnhneibpoooaa", sum := "d8a26255c4ec48e385acdce056740c7df5db6bd767bdcdcb20b74c93418d5ce9", func := "scrimshaw/scrimshawlaw08.HeapedOwn", spec := "heapedOwn", inPlace := ["internal/bytealg.IndexByteString"], unfollowed := true, recurses := true, apart := false, narrowed := true }
def HeapedOwnUptoSaid : Prop := heapedOwnUptoRow.holds Try.pinned (OpenSpec.upto heapedOwnSpec)

/-- 'scrimshawlaw08.HeapedConsts', WHERE WHAT IT READS IS OF BULK AT MOST 1048576: true; the input reads as it did. -/
def heapedConstsUptoRow : OpenClaim := { program := "ythbnhneibpoooaa", sum := "d8a26255c4ec48e385acdce056740c7df5db6bd767bdcdcb20b74c93418d5ce9", func := "scrimshaw/scrimshawlaw08.HeapedConsts", spec := "heapedConsts", inPlace := ["internal/bytealg.IndexByteString"], unfollowed := true, recurses := true, loops := true, apart := false, narrowed := true }
def HeapedConstsUptoSaid : Prop := heapedConstsUptoRow.holds Try.pinned (OpenSpec.upto heapedConstsSpec)

/-- 'scrimshawlaw08.HeapedPairs', WHERE WHAT IT READS IS OF BULK AT MOST 1048576: true; the input reads as it did. -/
def heapedPairsUptoRow : OpenClaim := { program := "ythbnhneibpoooaa", sum := "d8a26255c4ec48e385acdce056740c7df5db6bd767bdcdcb20b74c93418d5ce9", func := "scrimshaw/scrimshawlaw08.HeapedPairs", spec := "heapedPairs", inPlace := ["internal/bytealg.IndexByteString"], unfollowed := true, recurses := true, loops := true, apart := false, narrowed := true }
def HeapedPairsUptoSaid : Prop := heapedPairsUptoRow.holds Try.pinned (OpenSpec.upto heapedPairsSpec)

end Rows
end Go.Proofs.Ythbnhneibpoooaa
