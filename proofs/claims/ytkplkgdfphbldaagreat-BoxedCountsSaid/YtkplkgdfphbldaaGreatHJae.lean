/- The heap, plainly. -/
import Derived.Test.YtkplkgdfphbldaaGreatHJaa
import Derived.Test.YtkplkgdfphbldaaGreatHJad
namespace Go.Proofs.YtkplkgdfphbldaaGreat
open Go.RowKit
set_option linter.unusedVariables false
set_option linter.unusedSimpArgs false
set_option linter.unnecessarySimpa false
set_option maxRecDepth 100000
namespace Hp
structure V where
 kind : Int
 int : Int
 text : ByteArray
deriving DecidableEq
def V.cells (v : V) : List Value := [.int .i64 v.kind, .int .i64 v.int, .string v.text]
def V.val (v : V) : Value := .agg #[.int .i64 v.kind, .int .i64 v.int, .string v.text]
def flatV (l : List V) : List Value := l.flatMap V.cells
def none : V := ⟨0, 0, ⟨#[]⟩⟩
def num (n : Int) : V := ⟨1, n, ⟨#[]⟩⟩
def truth (b : Bool) : V := ⟨0, if b then 1 else 0, ⟨#[]⟩⟩
def void : V := ⟨5, 0, ⟨#[]⟩⟩
def may (n : Nat) (v : V) : Bool :=
 if v.kind = 3 then decide (v.int = 0) && Nm.nameB v.text
 else decide (v.text = ⟨#[]⟩) && (if v.kind = 0 then decide (v.int = 0) || decide (v.int = 1) else if v.kind = 1 then isN v.int else if v.kind = 2 then decide (0 ≤ v.int) && decide (v.int ≤ 255)
  else if v.kind = 4 ∨ v.kind = 5 ∨ v.kind = 6 ∨ v.kind = 7 then decide (v.int = 0) else if v.kind = 8 then decide (0 ≤ v.int) && decide (v.int < n) else false)
structure Th where
 kind : Int
 parts : List V
deriving DecidableEq
def kindOf (T : List Th) (v : V) : Int := if v.kind = 8 then (match T[v.int.toNat]? with | some t => t.kind | Option.none => -1) else -1
theorem flatV_append (l m : List V) : flatV (l ++ m) = flatV l ++ flatV m := by simp [flatV]
theorem flatV_length : ∀ l : List V, (flatV l).length = l.length * 3
 | [] => rfl
 | v :: l => by
  have e : flatV (v :: l) = v.cells ++ flatV l := rfl
  rw [e, List.length_append, flatV_length l]
  simp [V.cells]
  omega
end Hp
end Go.Proofs.YtkplkgdfphbldaaGreat
