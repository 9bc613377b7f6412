/-
  No cell of these rows narrows 'for every input' (looked for: loops, veiled, ifaces, maps, wideKeys, modest, calm, conditions, laid).
  DERIVED. THE GIVEN ROWS OF THIS SEAT. 4 by the template 'for every input the law returns true; each argument reads behind the call as it read before'; 0 by the template 'total and deterministic' (their statements: YtdehgidklcflbabTotals.lean).
  GIVEN WITH THE SEED: the statements are not yours to turn. If you find one false, say at which input.
  Laid BY PROGRAM, IN A SANDBOX (cutbox-rows.mjs): the forced cells as the released guide's own fill.sh prints them over the translation bd29716e43302356… (all of the seat's roots in one cut). By AI agents, Wed Nov 11 2026. No macro, syntax, notation, axiom, sorry.
-/
import Derived.Test.YtdehgidklcflbabChecked
import GoSem.Claim
import GoSem.ClaimJoined
import GoSem.ClaimMapViews
import Derived.JoinedTies
import Derived.KernelRfl
namespace Go.Proofs.Ytdehgidklcflbab
/- THE CELL 'sum', in the pinned program and in every row, IS THE sha256 OF THE DUMP (.gsa) THAT YtdehgidklcflbabProg.lean LOADS. Nothing in Lean hashes anything: it is a label: what it is worth is what the hold of that sum in a sandbox is worth. -/
noncomputable def Try.pinned : Pinned := { name := "ytdehgidklcflbab", sum := "bd29716e433023563020fa14934cf8ed0949a606ab333884fa5fa7b8f0750e7d", checked := Try.checked }
namespace Rows
def none {H : Type} : Left H := { results := [], args := [] }

/-- 'scrimshawlaw01.TaggedSums': WHATEVER THE INPUT: true; the input reads as it did. -/
def taggedSumsSpec : ChangeSpec := { name := "taggedSums", fn := fun _ => fun
  | [d1, d2] => { results := [.lit (.bool true)], args := [d1, d2] }
  | _ => none }
def taggedSumsRow : OpenClaim := { program := "ytdehgidklcflbab", sum := "bd29716e433023563020fa14934cf8ed0949a606ab333884fa5fa7b8f0750e7d", func := "scrimshaw/scrimshawlaw01.TaggedSums", spec := "taggedSums", apart := false }
def TaggedSumsSaid : Prop := taggedSumsRow.holds Try.pinned (OpenSpec.ofChange taggedSumsSpec)

/-- ITS FALSE NEIGHBOUR: 'it returns false'. Refute it at one input. -/
def taggedSumsWrong : ChangeSpec := { name := "taggedSums", fn := fun _ => fun
  | [d1, d2] => { results := [.lit (.bool false)], args := [d1, d2] }
  | _ => none }
def TaggedSumsWrongFalsely : Prop := taggedSumsRow.holds Try.pinned (OpenSpec.ofChange taggedSumsWrong)

/-- 'scrimshawlaw01.TaggedShares': WHATEVER THE INPUT: true; the input reads as it did. -/
def taggedSharesSpec : ChangeSpec := { name := "taggedShares", fn := fun _ => fun
  | [d1, d2] => { results := [.lit (.bool true)], args := [d1, d2] }
  | _ => none }
def taggedSharesRow : OpenClaim := { program := "ytdehgidklcflbab", sum := "bd29716e433023563020fa14934cf8ed0949a606ab333884fa5fa7b8f0750e7d", func := "scrimshaw/scrimshawlaw01.TaggedShares", spec := "taggedShares", apart := false }
def TaggedSharesSaid : Prop := taggedSharesRow.holds Try.pinned (OpenSpec.ofChange taggedSharesSpec)

/-- ITS FALSE NEIGHBOUR: 'it returns false'. Refute it at one input. -/
def taggedSharesWrong : ChangeSpec := { name := "taggedShares", fn := fun _ => fun
  | [d1, d2] => { results := [.lit (.bool false)], args := [d1, d2] }
  | _ => none }
def TaggedSharesWrongFalsely : Prop := taggedSharesRow.holds Try.pinned (OpenSpec.ofChange taggedSharesWrong)

/-- 'scrimshawlaw01.TaggedTimes': WHATEVER THE INPUT: true; the input reads as it did. -/
def taggedTimesSpec : ChangeSpec := { name := "taggedTimes", fn := fun _ => fun
  | [d1, d2] => { results := [.lit (.bool true)], args := [d1, d2] }
  | _ => none }
def taggedTimesRow : OpenClaim := { program := "ytdehgidklcflbab", sum := "bd29716e433023563020fa14934cf8ed0949a606ab333884fa5fa7b8f0750e7d", func := "scrimshaw/scrimshawlaw01.TaggedTimes", spec := "taggedTimes", apart := false }
def TaggedTimesSaid : Prop := taggedTimesRow.holds Try.pinned (OpenSpec.ofChange taggedTimesSpec)

/-- ITS FALSE NEIGHBOUR: 'it returns false'. Refute it at one input. -/
def taggedTimesWrong : ChangeSpec := { name := "taggedTimes", fn := fun _ => fun
  | [d1, d2] => { results := [.lit (.bool false)], args := [d1, d2] }
  | _ => none }
def TaggedTimesWrongFalsely : Prop := taggedTimesRow.holds Try.pinned (OpenSpec.ofChange taggedTimesWrong)

/-- 'scrimshawlaw01.TaggedMakes': WHATEVER THE INPUT: true; the input reads as it did. -/
def taggedMakesSpec : ChangeSpec := { name := "taggedMakes", fn := fun _ => fun
  | [d1, d2] => { results := [.lit (.bool true)], args := [d1, d2] }
  | _ => none }
def taggedMakesRow : OpenClaim := { program := "ytdehgidklcflbab", sum := "bd29716e433023563020fa14934cf8ed0949a606ab333884fa5fa7b8f0750e7d", func := "scrimshaw/scrimshawlaw01.TaggedMakes", spec := "taggedMakes", apart := false }
def TaggedMakesSaid : Prop := taggedMakesRow.holds Try.pinned (OpenSpec.ofChange taggedMakesSpec)

/-- ITS FALSE NEIGHBOUR: 'it returns false'. Refute it at one input. -/
def taggedMakesWrong : ChangeSpec := { name := "taggedMakes", fn := fun _ => fun
  | [d1, d2] => { results := [.lit (.bool false)], args := [d1, d2] }
  | _ => none }
def TaggedMakesWrongFalsely : Prop := taggedMakesRow.holds Try.pinned (OpenSpec.ofChange taggedMakesWrong)

/- THE SECOND FORM. 'bulk': how many values and letters a reading holds, each counted each time it is reached (what is shared counts as often as it is met; a slice's spare places count too). A statement '..UptoSaid' is the law's where the arguments, and the package variables that the reading takes, are together of bulk at most 1048576: NARROWER than '..Said'. Prove '..Said' where nothing that the law and all that it calls make is longer than what came in: it says more and counts as full. Else prove '..UptoSaid'. A law counts once. -/
mutual
def uptoBulk {H : Type} : DataW H → Nat
  | .lit (.string bytes) => bytes.length + 1
  | .lit _ => 1
  | .nil => 1
  | .ptr d => uptoBulk d + 1
  | .slice elems spare => uptoBulkAll elems + uptoBulkAll spare + 1
  | .agg parts => uptoBulkAll parts + 1
  | .iface _ d => uptoBulk d + 1
  | .map entries => uptoBulkEntries entries + 1
  | .held _ => 1
def uptoBulkAll {H : Type} : List (DataW H) → Nat
  | [] => 0
  | d :: r => uptoBulk d + uptoBulkAll r
def uptoBulkEntries {H : Type} : List (Lit × DataW H) → Nat
  | [] => 0
  | x :: r => uptoBulkEntry x + uptoBulkEntries r
def uptoBulkEntry {H : Type} : Lit × DataW H → Nat
  | (.string bytes, d) => bytes.length + uptoBulk d + 1
  | (_, d) => uptoBulk d + 1
 end
def uptoSmall : (H : Type) → List (DataW H) → Bool := fun _ ds => decide (uptoBulkAll ds ≤ 1048576)
def OpenSpec.upto (s : _root_.Go.ChangeSpec) : _root_.Go.OpenSpec := { _root_.Go.OpenSpec.ofChange s with cond := some uptoSmall }

/-- 'scrimshawlaw01.TaggedSums', WHERE WHAT IT READS IS OF BULK AT MOST 1048576: true; the input reads as it did. -/
def taggedSumsUptoRow : OpenClaim := { program := "ytdehgidklcflbab", sum := "bd29716e433023563020fa14934cf8ed0949a606ab333884fa5fa7b8f0750e7d", func := "scrimshaw/scrimshawlaw01.TaggedSums", spec := "taggedSums", apart := false, narrowed := true }
def TaggedSumsUptoSaid : Prop := taggedSumsUptoRow.holds Try.pinned (OpenSpec.upto taggedSumsSpec)

/-- 'scrimshawlaw01.TaggedShares', WHERE WHAT IT READS IS OF BULK AT MOST 1048576: true; the input reads as it did. -/
def taggedSharesUptoRow : OpenClaim := { program := "ytdehgidklcflbab", sum := "bd29716e433023563020fa14934cf8ed0949a606ab333884fa5fa7b8f0750e7d", func := "scrimshaw/scrimshawlaw01.TaggedShares", spec := "taggedShares", apart := false, narrowed := true }
def TaggedSharesUptoSaid : Prop := taggedSharesUptoRow.holds Try.pinned (OpenSpec.upto taggedSharesSpec)

/-- 'scrimshawlaw01.TaggedTimes', WHERE WHAT IT READS IS OF BULK AT MOST 1048576: true; the input reads as it did. -/
def taggedTimesUptoRow : OpenClaim := { program := "ytdehgidklcflbab", sum := "bd29716e433023563020fa14934cf8ed0949a606ab333884fa5fa7b8f0750e7d", func := "scrimshaw/scrimshawlaw01.TaggedTimes", spec := "taggedTimes", apart := false, narrowed := true }
def TaggedTimesUptoSaid : Prop := taggedTimesUptoRow.holds Try.pinned (OpenSpec.upto taggedTimesSpec)

/-- 'scrimshawlaw01.TaggedMakes', WHERE WHAT IT READS IS OF BULK AT MOST 1048576: true; the input reads as it did. -/
def taggedMakesUptoRow : OpenClaim := { program := "ytdehgidklcflbab", sum := "bd29716e433023563020fa14934cf8ed0949a606ab333884fa5fa7b8f0750e7d", func := "scrimshaw/scrimshawlaw01.TaggedMakes", spec := "taggedMakes", apart := false, narrowed := true }
def TaggedMakesUptoSaid : Prop := taggedMakesUptoRow.holds Try.pinned (OpenSpec.upto taggedMakesSpec)

end Rows
end Go.Proofs.Ytdehgidklcflbab
