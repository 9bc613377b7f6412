/-
  NARROWER THAN 'FOR EVERY INPUT', by the rows' own cells (each row's printed sentence says how): TiedForms: loops · TiedAgain: loops · BoxedForms: loops · BoxedAgain: loops.
  DERIVED. THE GIVEN ROWS OF THIS SEAT. 6 by the template 'for every input the law returns true; each argument reads behind the call as it read before'; 0 by the template 'total and deterministic' (their statements: YtkplkgdfphbldaaGreatTotals.lean).
  GIVEN WITH THE SEED: the statements are not yours to turn. If you find one false, say at which input.
  Laid BY PROGRAM, IN A SANDBOX (cutbox-rows.mjs): the forced cells as the released guide's own fill.sh prints them over the translation db7c394a751eafc6… (all of the seat's roots in one cut). By AI agents, Wed Nov 11 2026. No macro, syntax, notation, axiom, sorry.
-/
import Derived.Test.YtkplkgdfphbldaaGreatChecked
import GoSem.Claim
import GoSem.ClaimJoined
import GoSem.ClaimMapViews
import Derived.JoinedTies
import Derived.KernelRfl
namespace Go.Proofs.YtkplkgdfphbldaaGreat
/- THE CELL 'sum', in the pinned program and in every row, IS THE sha256 OF THE DUMP (.gsa) THAT YtkplkgdfphbldaaGreatProg.lean LOADS. Nothing in Lean hashes anything: it is a label: what it is worth is what the hold of that sum in a sandbox is worth. -/
noncomputable def Tryz.pinned : Pinned := { name := "ytkplkgdfphbldaagreat", sum := "db7c394a751eafc661c9f092f7484d0cf6cdb4deda2c34cf6649632b38e45ba6", checked := Tryz.checked }
namespace Rows
def none {H : Type} : Left H := { results := [], args := [] }

/-- 'scrimshawlaw10.TiedForms': WHATEVER THE INPUT: true; the input reads as it did. -/
def tiedFormsSpec : ChangeSpec := { name := "tiedForms", fn := fun _ => fun
  | [d] => { results := [.lit (.bool true)], args := [d] }
  | _ => none }
def tiedFormsRow : OpenClaim := { program := "ytkplkgdfphbldaagreat", sum := "db7c394a751eafc661c9f092f7484d0cf6cdb4deda2c34cf6649632b38e45ba6", func := "scrimshaw/scrimshawlaw10.TiedForms", spec := "tiedForms", inPlace := ["internal/bytealg.IndexByteString"], unfollowed := true, recurses := true, loops := true, apart := false }
def TiedFormsSaid : Prop := tiedFormsRow.holds Tryz.pinned (OpenSpec.ofChange tiedFormsSpec)

/-- ITS FALSE NEIGHBOUR: 'it returns false'. Refute it at one input. -/
def tiedFormsWrong : ChangeSpec := { name := "tiedForms", fn := fun _ => fun
  | [d] => { results := [.lit (.bool false)], args := [d] }
  | _ => none }
def TiedFormsWrongFalsely : Prop := tiedFormsRow.holds Tryz.pinned (OpenSpec.ofChange tiedFormsWrong)

/-- 'scrimshawlaw10.TiedAgain': WHATEVER THE INPUT: true; the input reads as it did. -/
def tiedAgainSpec : ChangeSpec := { name := "tiedAgain", fn := fun _ => fun
  | [d] => { results := [.lit (.bool true)], args := [d] }
  | _ => none }
def tiedAgainRow : OpenClaim := { program := "ytkplkgdfphbldaagreat", sum := "db7c394a751eafc661c9f092f7484d0cf6cdb4deda2c34cf6649632b38e45ba6", func := "scrimshaw/scrimshawlaw10.TiedAgain", spec := "tiedAgain", inPlace := ["internal/bytealg.IndexByteString"], unfollowed := true, recurses := true, loops := true, apart := false }
def TiedAgainSaid : Prop := tiedAgainRow.holds Tryz.pinned (OpenSpec.ofChange tiedAgainSpec)

/-- ITS FALSE NEIGHBOUR: 'it returns false'. Refute it at one input. -/
def tiedAgainWrong : ChangeSpec := { name := "tiedAgain", fn := fun _ => fun
  | [d] => { results := [.lit (.bool false)], args := [d] }
  | _ => none }
def TiedAgainWrongFalsely : Prop := tiedAgainRow.holds Tryz.pinned (OpenSpec.ofChange tiedAgainWrong)

/-- 'scrimshawlaw10.TiedFuns': WHATEVER THE INPUT: true; the input reads as it did. -/
def tiedFunsSpec : ChangeSpec := { name := "tiedFuns", fn := fun _ => fun
  | [d1, d2] => { results := [.lit (.bool true)], args := [d1, d2] }
  | _ => none }
def tiedFunsRow : OpenClaim := { program := "ytkplkgdfphbldaagreat", sum := "db7c394a751eafc661c9f092f7484d0cf6cdb4deda2c34cf6649632b38e45ba6", func := "scrimshaw/scrimshawlaw10.TiedFuns", spec := "tiedFuns", inPlace := ["internal/bytealg.IndexByteString"], unfollowed := true, recurses := true, apart := false }
def TiedFunsSaid : Prop := tiedFunsRow.holds Tryz.pinned (OpenSpec.ofChange tiedFunsSpec)

/-- ITS FALSE NEIGHBOUR: 'it returns false'. Refute it at one input. -/
def tiedFunsWrong : ChangeSpec := { name := "tiedFuns", fn := fun _ => fun
  | [d1, d2] => { results := [.lit (.bool false)], args := [d1, d2] }
  | _ => none }
def TiedFunsWrongFalsely : Prop := tiedFunsRow.holds Tryz.pinned (OpenSpec.ofChange tiedFunsWrong)

/-- 'scrimshawlaw11.BoxedForms': WHATEVER THE INPUT: true; the input reads as it did. -/
def boxedFormsSpec : ChangeSpec := { name := "boxedForms", fn := fun _ => fun
  | [d] => { results := [.lit (.bool true)], args := [d] }
  | _ => none }
def boxedFormsRow : OpenClaim := { program := "ytkplkgdfphbldaagreat", sum := "db7c394a751eafc661c9f092f7484d0cf6cdb4deda2c34cf6649632b38e45ba6", func := "scrimshaw/scrimshawlaw11.BoxedForms", spec := "boxedForms", inPlace := ["internal/bytealg.IndexByteString", "maps.clone"], unfollowed := true, recurses := true, loops := true, apart := false }
def BoxedFormsSaid : Prop := boxedFormsRow.holds Tryz.pinned (OpenSpec.ofChange boxedFormsSpec)

/-- ITS FALSE NEIGHBOUR: 'it returns false'. Refute it at one input. -/
def boxedFormsWrong : ChangeSpec := { name := "boxedForms", fn := fun _ => fun
  | [d] => { results := [.lit (.bool false)], args := [d] }
  | _ => none }
def BoxedFormsWrongFalsely : Prop := boxedFormsRow.holds Tryz.pinned (OpenSpec.ofChange boxedFormsWrong)

/-- 'scrimshawlaw11.BoxedAgain': WHATEVER THE INPUT: true; the input reads as it did. -/
def boxedAgainSpec : ChangeSpec := { name := "boxedAgain", fn := fun _ => fun
  | [d] => { results := [.lit (.bool true)], args := [d] }
  | _ => none }
def boxedAgainRow : OpenClaim := { program := "ytkplkgdfphbldaagreat", sum := "db7c394a751eafc661c9f092f7484d0cf6cdb4deda2c34cf6649632b38e45ba6", func := "scrimshaw/scrimshawlaw11.BoxedAgain", spec := "boxedAgain", inPlace := ["internal/bytealg.IndexByteString", "maps.clone"], unfollowed := true, recurses := true, loops := true, apart := false }
def BoxedAgainSaid : Prop := boxedAgainRow.holds Tryz.pinned (OpenSpec.ofChange boxedAgainSpec)

/-- ITS FALSE NEIGHBOUR: 'it returns false'. Refute it at one input. -/
def boxedAgainWrong : ChangeSpec := { name := "boxedAgain", fn := fun _ => fun
  | [d] => { results := [.lit (.bool false)], args := [d] }
  | _ => none }
def BoxedAgainWrongFalsely : Prop := boxedAgainRow.holds Tryz.pinned (OpenSpec.ofChange boxedAgainWrong)

/-- 'scrimshawlaw11.BoxedCounts': WHATEVER THE INPUT: true; the input reads as it did. -/
def boxedCountsSpec : ChangeSpec := { name := "boxedCounts", fn := fun _ => fun
  | [d1, d2] => { results := [.lit (.bool true)], args := [d1, d2] }
  | _ => none }
def boxedCountsRow : OpenClaim := { program := "ytkplkgdfphbldaagreat", sum := "db7c394a751eafc661c9f092f7484d0cf6cdb4deda2c34cf6649632b38e45ba6", func := "scrimshaw/scrimshawlaw11.BoxedCounts", spec := "boxedCounts", inPlace := ["internal/bytealg.IndexByteString", "maps.clone"], unfollowed := true, recurses := true, apart := false }
def BoxedCountsSaid : Prop := boxedCountsRow.holds Tryz.pinned (OpenSpec.ofChange boxedCountsSpec)

/-- ITS FALSE NEIGHBOUR: 'it returns false'. Refute it at one input. -/
def boxedCountsWrong : ChangeSpec := { name := "boxedCounts", fn := fun _ => fun
  | [d1, d2] => { results := [.lit (.bool false)], args := [d1, d2] }
  | _ => none }
def BoxedCountsWrongFalsely : Prop := boxedCountsRow.holds Tryz.pinned (OpenSpec.ofChange boxedCountsWrong)

/- THE SECOND FORM. 'bulk': how many values and letters a reading holds, each counted each time it is reached (what is shared counts as often as it is met; a slice's spare places count too). A statement '..UptoSaid' is the law's where the arguments, and the package variables that the reading takes, are together of bulk at most 1048576: NARROWER than '..Said'. Prove '..Said' where nothing that the law and all that it calls make is longer than what came in: it says more and counts as full. Else prove '..UptoSaid'. A law counts once. -/
mutual
def uptoBulk {H : Type} : DataW H → Nat
  | .lit (.string bytes) => bytes.length + 1
  | .lit _ => 1
  | .nil => 1
  | .ptr d => uptoBulk d + 1
  | .slice elems spare => uptoBulkAll elems + uptoBulkAll spare + 1
  | .agg parts => uptoBulkAll parts + 1
  | .iface _ d => uptoBulk d + 1
  | .map entries => uptoBulkEntries entries + 1
  | .held _ => 1
def uptoBulkAll {H : Type} : List (DataW H) → Nat
  | [] => 0
  | d :: r => uptoBulk d + uptoBulkAll r
def uptoBulkEntries {H : Type} : List (Lit × DataW H) → Nat
  | [] => 0
  | x :: r => uptoBulkEntry x + uptoBulkEntries r
def uptoBulkEntry {H : Type} : Lit × DataW H → Nat
  | (.string bytes, d) => bytes.length + uptoBulk d + 1
  | (_, d) => uptoBulk d + 1
 end
def uptoSmall : (H : Type) → List (DataW H) → Bool := fun _ ds => decide (uptoBulkAll ds ≤ 1048576)
def OpenSpec.upto (s : _root_.Go.ChangeSpec) : _root_.Go.OpenSpec := { _root_.Go.OpenSpec.ofChange s with cond := some uptoSmall }

/-- 'scrimshawlaw10.TiedForms', WHERE WHAT IT READS IS OF BULK AT MOST 1048576: true; the input reads as it did. -/
def tiedFormsUptoRow : OpenClaim := { program := "ytkplkgdfphbldaagreat", sum := "db7c394a751eafc661c9f092f7484d0cf6cdb4deda2c34cf6649632b38e45ba6", func := "scrimshaw/scrimshawlaw10.TiedForms", spec := "tiedForms", inPlace := ["internal/bytealg.IndexByteString"], unfollowed := true, recurses := true, loops := true, apart := false, narrowed := true }
def TiedFormsUptoSaid : Prop := tiedFormsUptoRow.holds Tryz.pinned (OpenSpec.upto tiedFormsSpec)

/-- 'scrimshawlaw10.TiedAgain', WHERE WHAT IT READS IS OF BULK AT MOST 1048576: true; the input reads as it did. -/
def tiedAgainUptoRow : OpenClaim := { program := "ytkplkgdfphbldaagreat", sum := "db7c394a751eafc661c9f092f7484d0cf6cdb4deda2c34cf6649632b38e45ba6", func := "scrimshaw/scrimshawlaw10.TiedAgain", spec := "tiedAgain", inPlace := ["internal/bytealg.IndexByteString"], unfollowed := true, recurses := true, loops := true, apart := false, narrowed := true }
def TiedAgainUptoSaid : Prop := tiedAgainUptoRow.holds Tryz.pinned (OpenSpec.upto tiedAgainSpec)

/-- 'scrimshawlaw10.TiedFuns', WHERE WHAT IT READS IS OF BULK AT MOST 1048576: true; the input reads as it did. -/
def tiedFunsUptoRow : OpenClaim := { program := "ytkplkgdfphbldaagreat", sum := "db7c394a751eafc661c9f092f7484d0cf6cdb4deda2c34cf6649632b38e45ba6", func := "scrimshaw/scrimshawlaw10.TiedFuns", spec := "tiedFuns", inPlace := ["internal/bytealg.IndexByteString"], unfollowed := true, recurses := true, apart := false, narrowed := true }
def TiedFunsUptoSaid : Prop := tiedFunsUptoRow.holds Tryz.pinned (OpenSpec.upto tiedFunsSpec)

/-- 'scrimshawlaw11.BoxedForms', WHERE WHAT IT READS IS OF BULK AT MOST 1048576: true; the input reads as it did. -/
def boxedFormsUptoRow : OpenClaim := { program := "ytkplkgdfphbldaagreat", sum := "db7c394a751eafc661c9f092f7484d0cf6cdb4deda2c34cf6649632b38e45ba6", func := "scrimshaw/scrimshawlaw11.BoxedForms", spec := "boxedForms", inPlace := ["internal/bytealg.IndexByteString", "maps.clone"], unfollowed := true, recurses := true, loops := true, apart := false, narrowed := true }
def BoxedFormsUptoSaid : Prop := boxedFormsUptoRow.holds Tryz.pinned (OpenSpec.upto boxedFormsSpec)

/-- 'scrimshawlaw11.BoxedAgain', WHERE WHAT IT READS IS OF BULK AT MOST 1048576: true; the input reads as it did. -/
def boxedAgainUptoRow : OpenClaim := { program := "ytkplkgdfphbldaagreat", sum := "db7c394a751eafc661c9f092f7484d0cf6cdb4deda2c34cf6649632b38e45ba6", func := "scrimshaw/scrimshawlaw11.BoxedAgain", spec := "boxedAgain", inPlace := ["internal/bytealg.IndexByteString", "maps.clone"], unfollowed := true, recurses := true, loops := true, apart := false, narrowed := true }
def BoxedAgainUptoSaid : Prop := boxedAgainUptoRow.holds Tryz.pinned (OpenSpec.upto boxedAgainSpec)

/-- 'scrimshawlaw11.BoxedCounts', WHERE WHAT IT READS IS OF BULK AT MOST 1048576: true; the input reads as it did. -/
def boxedCountsUptoRow : OpenClaim := { program := "ytkplkgdfphbldaagreat", sum := "db7c394a751eafc661c9f092f7484d0cf6cdb4deda2c34cf6649632b38e45ba6", func := "scrimshaw/scrimshawlaw11.BoxedCounts", spec := "boxedCounts", inPlace := ["internal/bytealg.IndexByteString", "maps.clone"], unfollowed := true, recurses := true, apart := false, narrowed := true }
def BoxedCountsUptoSaid : Prop := boxedCountsUptoRow.holds Tryz.pinned (OpenSpec.upto boxedCountsSpec)

end Rows
end Go.Proofs.YtkplkgdfphbldaaGreat
