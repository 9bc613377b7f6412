/-
  No cell of these rows narrows 'for every input' (looked for: loops, veiled, ifaces, maps, wideKeys, modest, calm, conditions, laid).
  DERIVED. THE GIVEN ROWS OF THIS SEAT. 4 by the template 'for every input the law returns true; each argument reads behind the call as it read before'; 0 by the template 'total and deterministic' (their statements: YtdehgidklcflbaaTotals.lean).
  GIVEN WITH THE SEED: the statements are not yours to turn. If you find one false, say at which input.
  Laid BY PROGRAM, IN A SANDBOX (cutbox-rows.mjs): the forced cells as the released guide's own fill.sh prints them over the translation a540e10762cea842… (all of the seat's roots in one cut). By AI agents, Wed Nov 11 2026. No macro, syntax, notation, axiom, sorry.
-/
import Derived.Test.YtdehgidklcflbaaChecked
import GoSem.Claim
import GoSem.ClaimJoined
import GoSem.ClaimMapViews
import Derived.JoinedTies
import Derived.KernelRfl
namespace Go.Proofs.Ytdehgidklcflbaa
/- THE CELL 'sum', in the pinned program and in every row, IS THE sha256 OF THE DUMP (.gsa) THAT YtdehgidklcflbaaProg.lean LOADS. Nothing in Lean hashes anything: it is a label: what it is worth is what the hold of that sum in a sandbox is worth. -/
noncomputable def Try.pinned : Pinned := { name := "ytdehgidklcflbaa", sum := "a540e10762cea8420d4ae9e71b25005d2b330e337eae7ddb8df8a483f4c506ac", checked := Try.checked }
namespace Rows
def none {H : Type} : Left H := { results := [], args := [] }

/-- 'scrimshawlaw19.MovedRight': WHATEVER THE INPUT: true; the input reads as it did. -/
def movedRightSpec : ChangeSpec := { name := "movedRight", fn := fun _ => fun
  | [d1, d2] => { results := [.lit (.bool true)], args := [d1, d2] }
  | _ => none }
def movedRightRow : OpenClaim := { program := "ytdehgidklcflbaa", sum := "a540e10762cea8420d4ae9e71b25005d2b330e337eae7ddb8df8a483f4c506ac", func := "scrimshaw/scrimshawlaw19.MovedRight", spec := "movedRight", apart := false }
def MovedRightSaid : Prop := movedRightRow.holds Try.pinned (OpenSpec.ofChange movedRightSpec)

/-- ITS FALSE NEIGHBOUR: 'it returns false'. Refute it at one input. -/
def movedRightWrong : ChangeSpec := { name := "movedRight", fn := fun _ => fun
  | [d1, d2] => { results := [.lit (.bool false)], args := [d1, d2] }
  | _ => none }
def MovedRightWrongFalsely : Prop := movedRightRow.holds Try.pinned (OpenSpec.ofChange movedRightWrong)

/-- 'scrimshawlaw19.MovedFew': WHATEVER THE INPUT: true; the input reads as it did. -/
def movedFewSpec : ChangeSpec := { name := "movedFew", fn := fun _ => fun
  | [d1, d2] => { results := [.lit (.bool true)], args := [d1, d2] }
  | _ => none }
def movedFewRow : OpenClaim := { program := "ytdehgidklcflbaa", sum := "a540e10762cea8420d4ae9e71b25005d2b330e337eae7ddb8df8a483f4c506ac", func := "scrimshaw/scrimshawlaw19.MovedFew", spec := "movedFew", apart := false }
def MovedFewSaid : Prop := movedFewRow.holds Try.pinned (OpenSpec.ofChange movedFewSpec)

/-- ITS FALSE NEIGHBOUR: 'it returns false'. Refute it at one input. -/
def movedFewWrong : ChangeSpec := { name := "movedFew", fn := fun _ => fun
  | [d1, d2] => { results := [.lit (.bool false)], args := [d1, d2] }
  | _ => none }
def MovedFewWrongFalsely : Prop := movedFewRow.holds Try.pinned (OpenSpec.ofChange movedFewWrong)

/-- 'scrimshawlaw19.MovedAnyhow': WHATEVER THE INPUT: true; the input reads as it did. -/
def movedAnyhowSpec : ChangeSpec := { name := "movedAnyhow", fn := fun _ => fun
  | [d1, d2, d3] => { results := [.lit (.bool true)], args := [d1, d2, d3] }
  | _ => none }
def movedAnyhowRow : OpenClaim := { program := "ytdehgidklcflbaa", sum := "a540e10762cea8420d4ae9e71b25005d2b330e337eae7ddb8df8a483f4c506ac", func := "scrimshaw/scrimshawlaw19.MovedAnyhow", spec := "movedAnyhow", apart := false }
def MovedAnyhowSaid : Prop := movedAnyhowRow.holds Try.pinned (OpenSpec.ofChange movedAnyhowSpec)

/-- ITS FALSE NEIGHBOUR: 'it returns false'. Refute it at one input. -/
def movedAnyhowWrong : ChangeSpec := { name := "movedAnyhow", fn := fun _ => fun
  | [d1, d2, d3] => { results := [.lit (.bool false)], args := [d1, d2, d3] }
  | _ => none }
def MovedAnyhowWrongFalsely : Prop := movedAnyhowRow.holds Try.pinned (OpenSpec.ofChange movedAnyhowWrong)

/-- 'scrimshawlaw19.MovedRounds': WHATEVER THE INPUT: true; the input reads as it did. -/
def movedRoundsSpec : ChangeSpec := { name := "movedRounds", fn := fun _ => fun
  | [d1, d2] => { results := [.lit (.bool true)], args := [d1, d2] }
  | _ => none }
def movedRoundsRow : OpenClaim := { program := "ytdehgidklcflbaa", sum := "a540e10762cea8420d4ae9e71b25005d2b330e337eae7ddb8df8a483f4c506ac", func := "scrimshaw/scrimshawlaw19.MovedRounds", spec := "movedRounds", apart := false }
def MovedRoundsSaid : Prop := movedRoundsRow.holds Try.pinned (OpenSpec.ofChange movedRoundsSpec)

/-- ITS FALSE NEIGHBOUR: 'it returns false'. Refute it at one input. -/
def movedRoundsWrong : ChangeSpec := { name := "movedRounds", fn := fun _ => fun
  | [d1, d2] => { results := [.lit (.bool false)], args := [d1, d2] }
  | _ => none }
def MovedRoundsWrongFalsely : Prop := movedRoundsRow.holds Try.pinned (OpenSpec.ofChange movedRoundsWrong)

/- THE SECOND FORM. 'bulk': how many values and letters a reading holds, each counted each time it is reached (what is shared counts as often as it is met; a slice's spare places count too). A statement '..UptoSaid' is the law's where the arguments, and the package variables that the reading takes, are together of bulk at most 1048576: NARROWER than '..Said'. Prove '..Said' where nothing that the law and all that it calls make is longer than what came in: it says more and counts as full. Else prove '..UptoSaid'. A law counts once. -/
mutual
def uptoBulk {H : Type} : DataW H → Nat
  | .lit (.string bytes) => bytes.length + 1
  | .lit _ => 1
  | .nil => 1
  | .ptr d => uptoBulk d + 1
  | .slice elems spare => uptoBulkAll elems + uptoBulkAll spare + 1
  | .agg parts => uptoBulkAll parts + 1
  | .iface _ d => uptoBulk d + 1
  | .map entries => uptoBulkEntries entries + 1
  | .held _ => 1
def uptoBulkAll {H : Type} : List (DataW H) → Nat
  | [] => 0
  | d :: r => uptoBulk d + uptoBulkAll r
def uptoBulkEntries {H : Type} : List (Lit × DataW H) → Nat
  | [] => 0
  | x :: r => uptoBulkEntry x + uptoBulkEntries r
def uptoBulkEntry {H : Type} : Lit × DataW H → Nat
  | (.string bytes, d) => bytes.length + uptoBulk d + 1
  | (_, d) => uptoBulk d + 1
 end
def uptoSmall : (H : Type) → List (DataW H) → Bool := fun _ ds => decide (uptoBulkAll ds ≤ 1048576)
def OpenSpec.upto (s : _root_.Go.ChangeSpec) : _root_.Go.OpenSpec := { _root_.Go.OpenSpec.ofChange s with cond := some uptoSmall }

/-- 'scrimshawlaw19.MovedRight', WHERE WHAT IT READS IS OF BULK AT MOST 1048576: true; the input reads as it did. -/
def movedRightUptoRow : OpenClaim := { program := "ytdehgidklcflbaa", sum := "a540e10762cea8420d4ae9e71b25005d2b330e337eae7ddb8df8a483f4c506ac", func := "scrimshaw/scrimshawlaw19.MovedRight", spec := "movedRight", apart := false, narrowed := true }
def MovedRightUptoSaid : Prop := movedRightUptoRow.holds Try.pinned (OpenSpec.upto movedRightSpec)

/-- 'scrimshawlaw19.MovedFew', WHERE WHAT IT READS IS OF BULK AT MOST 1048576: true; the input reads as it did. -/
def movedFewUptoRow : OpenClaim := { program := "ytdehgidklcflbaa", sum := "a540e10762cea8420d4ae9e71b25005d2b330e337eae7ddb8df8a483f4c506ac", func := "scrimshaw/scrimshawlaw19.MovedFew", spec := "movedFew", apart := false, narrowed := true }
def MovedFewUptoSaid : Prop := movedFewUptoRow.holds Try.pinned (OpenSpec.upto movedFewSpec)

/-- 'scrimshawlaw19.MovedAnyhow', WHERE WHAT IT READS IS OF BULK AT MOST 1048576: true; the input reads as it did. -/
def movedAnyhowUptoRow : OpenClaim := { program := "ytdehgidklcflbaa", sum := "a540e10762cea8420d4ae9e71b25005d2b330e337eae7ddb8df8a483f4c506ac", func := "scrimshaw/scrimshawlaw19.MovedAnyhow", spec := "movedAnyhow", apart := false, narrowed := true }
def MovedAnyhowUptoSaid : Prop := movedAnyhowUptoRow.holds Try.pinned (OpenSpec.upto movedAnyhowSpec)

/-- 'scrimshawlaw19.MovedRounds', WHERE WHAT IT READS IS OF BULK AT MOST 1048576: true; the input reads as it did. -/
def movedRoundsUptoRow : OpenClaim := { program := "ytdehgidklcflbaa", sum := "a540e10762cea8420d4ae9e71b25005d2b330e337eae7ddb8df8a483f4c506ac", func := "scrimshaw/scrimshawlaw19.MovedRounds", spec := "movedRounds", apart := false, narrowed := true }
def MovedRoundsUptoSaid : Prop := movedRoundsUptoRow.holds Try.pinned (OpenSpec.upto movedRoundsSpec)

end Rows
end Go.Proofs.Ytdehgidklcflbaa
