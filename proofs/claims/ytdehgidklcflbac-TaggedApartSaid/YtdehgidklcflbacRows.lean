/-
  No cell of these rows narrows 'for every input' (looked for: loops, veiled, ifaces, maps, wideKeys, modest, calm, conditions, laid).
  DERIVED. THE GIVEN ROWS OF THIS SEAT. 3 by the template 'for every input the law returns true; each argument reads behind the call as it read before'; 0 by the template 'total and deterministic' (their statements: YtdehgidklcflbacTotals.lean).
  GIVEN WITH THE SEED: the statements are not yours to turn. If you find one false, say at which input.
  Laid BY PROGRAM, IN A SANDBOX (cutbox-rows.mjs): the forced cells as the released guide's own fill.sh prints them over the translation 5bd84c35b9f6bccb… (all of the seat's roots in one cut). By AI agents, Wed Nov 11 2026. No macro, syntax, notation, axiom, sorry.
-/
import Derived.Test.YtdehgidklcflbacChecked
import GoSem.Claim
import GoSem.ClaimJoined
import GoSem.ClaimMapViews
import Derived.JoinedTies
import Derived.KernelRfl
namespace Go.Proofs.Ytdehgidklcflbac
/- THE CELL 'sum', in the pinned program and in every row, IS THE sha256 OF THE DUMP (.gsa) THAT YtdehgidklcflbacProg.lean LOADS. Nothing in Lean hashes anything: it is a label: what it is worth is what the hold of that sum in a sandbox is worth. -/
noncomputable def Try.pinned : Pinned := { name := "ytdehgidklcflbac", sum := "5bd84c35b9f6bccbce1c2e8f806938f136976f9e8744fa3ed5359bd3b68919c3", checked := Try.checked }
namespace Rows
def none {H : Type} : Left H := { results := [], args := [] }

/-- 'scrimshawlaw01.TaggedApart': WHATEVER THE INPUT: true; the input reads as it did. -/
def taggedApartSpec : ChangeSpec := { name := "taggedApart", fn := fun _ => fun
  | [d1, d2] => { results := [.lit (.bool true)], args := [d1, d2] }
  | _ => none }
def taggedApartRow : OpenClaim := { program := "ytdehgidklcflbac", sum := "5bd84c35b9f6bccbce1c2e8f806938f136976f9e8744fa3ed5359bd3b68919c3", func := "scrimshaw/scrimshawlaw01.TaggedApart", spec := "taggedApart", apart := false }
def TaggedApartSaid : Prop := taggedApartRow.holds Try.pinned (OpenSpec.ofChange taggedApartSpec)

/-- ITS FALSE NEIGHBOUR: 'it returns false'. Refute it at one input. -/
def taggedApartWrong : ChangeSpec := { name := "taggedApart", fn := fun _ => fun
  | [d1, d2] => { results := [.lit (.bool false)], args := [d1, d2] }
  | _ => none }
def TaggedApartWrongFalsely : Prop := taggedApartRow.holds Try.pinned (OpenSpec.ofChange taggedApartWrong)

/-- 'scrimshawlaw01.TaggedHeads': WHATEVER THE INPUT: true; the input reads as it did. -/
def taggedHeadsSpec : ChangeSpec := { name := "taggedHeads", fn := fun _ => fun
  | [d1, d2, d3] => { results := [.lit (.bool true)], args := [d1, d2, d3] }
  | _ => none }
def taggedHeadsRow : OpenClaim := { program := "ytdehgidklcflbac", sum := "5bd84c35b9f6bccbce1c2e8f806938f136976f9e8744fa3ed5359bd3b68919c3", func := "scrimshaw/scrimshawlaw01.TaggedHeads", spec := "taggedHeads", apart := false }
def TaggedHeadsSaid : Prop := taggedHeadsRow.holds Try.pinned (OpenSpec.ofChange taggedHeadsSpec)

/-- ITS FALSE NEIGHBOUR: 'it returns false'. Refute it at one input. -/
def taggedHeadsWrong : ChangeSpec := { name := "taggedHeads", fn := fun _ => fun
  | [d1, d2, d3] => { results := [.lit (.bool false)], args := [d1, d2, d3] }
  | _ => none }
def TaggedHeadsWrongFalsely : Prop := taggedHeadsRow.holds Try.pinned (OpenSpec.ofChange taggedHeadsWrong)

/-- 'scrimshawlaw01.TaggedReckons': WHATEVER THE INPUT: true; the input reads as it did. -/
def taggedReckonsSpec : ChangeSpec := { name := "taggedReckons", fn := fun _ => fun
  | [d1, d2, d3] => { results := [.lit (.bool true)], args := [d1, d2, d3] }
  | _ => none }
def taggedReckonsRow : OpenClaim := { program := "ytdehgidklcflbac", sum := "5bd84c35b9f6bccbce1c2e8f806938f136976f9e8744fa3ed5359bd3b68919c3", func := "scrimshaw/scrimshawlaw01.TaggedReckons", spec := "taggedReckons", apart := false }
def TaggedReckonsSaid : Prop := taggedReckonsRow.holds Try.pinned (OpenSpec.ofChange taggedReckonsSpec)

/-- ITS FALSE NEIGHBOUR: 'it returns false'. Refute it at one input. -/
def taggedReckonsWrong : ChangeSpec := { name := "taggedReckons", fn := fun _ => fun
  | [d1, d2, d3] => { results := [.lit (.bool false)], args := [d1, d2, d3] }
  | _ => none }
def TaggedReckonsWrongFalsely : Prop := taggedReckonsRow.holds Try.pinned (OpenSpec.ofChange taggedReckonsWrong)

/- THE SECOND FORM. 'bulk': how many values and letters a reading holds, each counted each time it is reached (what is shared counts as often as it is met; a slice's spare places count too). A statement '..UptoSaid' is the law's where the arguments, and the package variables that the reading takes, are together of bulk at most 1048576: NARROWER than '..Said'. Prove '..Said' where nothing that the law and all that it calls make is longer than what came in: it says more and counts as full. Else prove '..UptoSaid'. A law counts once. -/
mutual
def uptoBulk {H : Type} : DataW H → Nat
  | .lit (.string bytes) => bytes.length + 1
  | .lit _ => 1
  | .nil => 1
  | .ptr d => uptoBulk d + 1
  | .slice elems spare => uptoBulkAll elems + uptoBulkAll spare + 1
  | .agg parts => uptoBulkAll parts + 1
  | .iface _ d => uptoBulk d + 1
  | .map entries => uptoBulkEntries entries + 1
  | .held _ => 1
def uptoBulkAll {H : Type} : List (DataW H) → Nat
  | [] => 0
  | d :: r => uptoBulk d + uptoBulkAll r
def uptoBulkEntries {H : Type} : List (Lit × DataW H) → Nat
  | [] => 0
  | x :: r => uptoBulkEntry x + uptoBulkEntries r
def uptoBulkEntry {H : Type} : Lit × DataW H → Nat
  | (.string bytes, d) => bytes.length + uptoBulk d + 1
  | (_, d) => uptoBulk d + 1
 end
def uptoSmall : (H : Type) → List (DataW H) → Bool := fun _ ds => decide (uptoBulkAll ds ≤ 1048576)
def OpenSpec.upto (s : _root_.Go.ChangeSpec) : _root_.Go.OpenSpec := { _root_.Go.OpenSpec.ofChange s with cond := some uptoSmall }

/-- 'scrimshawlaw01.TaggedApart', WHERE WHAT IT READS IS OF BULK AT MOST 1048576: true; the input reads as it did. -/
def taggedApartUptoRow : OpenClaim := { program := "ytdehgidklcflbac", sum := "5bd84c35b9f6bccbce1c2e8f806938f136976f9e8744fa3ed5359bd3b68919c3", func := "scrimshaw/scrimshawlaw01.TaggedApart", spec := "taggedApart", apart := false, narrowed := true }
def TaggedApartUptoSaid : Prop := taggedApartUptoRow.holds Try.pinned (OpenSpec.upto taggedApartSpec)

/-- 'scrimshawlaw01.TaggedHeads', WHERE WHAT IT READS IS OF BULK AT MOST 1048576: true; the input reads as it did. -/
def taggedHeadsUptoRow : OpenClaim := { program := "ytdehgidklcflbac", sum := "5bd84c35b9f6bccbce1c2e8f806938f136976f9e8744fa3ed5359bd3b68919c3", func := "scrimshaw/scrimshawlaw01.TaggedHeads", spec := "taggedHeads", apart := false, narrowed := true }
def TaggedHeadsUptoSaid : Prop := taggedHeadsUptoRow.holds Try.pinned (OpenSpec.upto taggedHeadsSpec)

/-- 'scrimshawlaw01.TaggedReckons', WHERE WHAT IT READS IS OF BULK AT MOST 1048576: true; the input reads as it did. -/
def taggedReckonsUptoRow : OpenClaim := { program := "ytdehgidklcflbac", sum := "5bd84c35b9f6bccbce1c2e8f806938f136976f9e8744fa3ed5359bd3b68919c3", func := "scrimshaw/scrimshawlaw01.TaggedReckons", spec := "taggedReckons", apart := false, narrowed := true }
def TaggedReckonsUptoSaid : Prop := taggedReckonsUptoRow.holds Try.pinned (OpenSpec.upto taggedReckonsSpec)

end Rows
end Go.Proofs.Ytdehgidklcflbac
