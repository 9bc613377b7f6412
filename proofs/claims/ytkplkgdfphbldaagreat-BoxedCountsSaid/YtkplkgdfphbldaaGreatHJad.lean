/- Plain arithmetic of tagged words (layer 1): what the Go functions of package word compute. -/
import Derived.WalkKit
import Derived.Lib.Mul64
namespace Go.Proofs.YtkplkgdfphbldaaGreat
open Go.RowKit
set_option linter.unusedVariables false
set_option linter.unusedSimpArgs false
set_option linter.unnecessarySimpa false
set_option maxRecDepth 100000
def isN (n : Int) : Bool := decide (-1152921504606846976 ≤ n ∧ n ≤ 1152921504606846975)
theorem isN_true {n : Int} (h : -1152921504606846976 ≤ n ∧ n ≤ 1152921504606846975) : isN n = true := by unfold isN; simpa using h
theorem isN_false {n : Int} (h : n < -1152921504606846976 ∨ 1152921504606846975 < n) : isN n = false := by
 unfold isN; rw [decide_eq_false_iff_not]; omega
theorem isN_iff {n : Int} : isN n = true ↔ (-1152921504606846976 ≤ n ∧ n ≤ 1152921504606846975) := by unfold isN; simp
def rk (op a b : Int) : Int × Int :=
 if op < 0 ∨ 4 < op then (0, 1)
 else if a % 8 ≠ 0 ∨ b % 8 ≠ 0 then (0, 12)
 else if op = 0 then (if isN (a / 8 + b / 8) then (8 * (a / 8 + b / 8), 0) else (0, 10))
 else if op = 1 then (if isN (a / 8 - b / 8) then (8 * (a / 8 - b / 8), 0) else (0, 10))
 else if op = 2 then (if isN (a / 8 * (b / 8)) then (8 * (a / 8 * (b / 8)), 0) else (0, 10))
 else if b / 8 = 0 then (0, 11)
 else if op = 3 then (if isN ((a / 8).tdiv (b / 8)) then (8 * ((a / 8).tdiv (b / 8)), 0) else (0, 10))
 else (8 * ((a / 8).tmod (b / 8)), 0)
end Go.Proofs.YtkplkgdfphbldaaGreat
