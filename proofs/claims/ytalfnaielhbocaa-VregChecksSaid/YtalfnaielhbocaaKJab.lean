/- Plain arithmetic of tagged words (layer 1): what the Go functions of package word compute. -/
import Derived.WalkKit
import Derived.Lib.Mul64
set_option linter.unusedVariables false
set_option linter.unusedSimpArgs false
set_option linter.unnecessarySimpa false
namespace Go.Proofs.Ytalfnaielhbocaa

def isN (n : Int) : Bool := decide (-1152921504606846976 ≤ n ∧ n ≤ 1152921504606846975)

theorem isN_true {n : Int} (h : -1152921504606846976 ≤ n ∧ n ≤ 1152921504606846975) : isN n = true := by unfold isN; simpa using h
theorem isN_false {n : Int} (h : n < -1152921504606846976 ∨ 1152921504606846975 < n) : isN n = false := by
  unfold isN; rw [decide_eq_false_iff_not]; omega
theorem isN_iff {n : Int} : isN n = true ↔ (-1152921504606846976 ≤ n ∧ n ≤ 1152921504606846975) := by unfold isN; simp

theorem i64_and7 (n : Int) : bits .and .i64 n 7 = n % 8 := by
  have h7 : (BitVec.ofInt 64 7).toNat = 2 ^ 3 - 1 := by decide
  have key : (BitVec.ofInt 64 n &&& BitVec.ofInt 64 7).toNat = (n % ((2 ^ 64 : Nat) : Int)).toNat % 2 ^ 3 := by
    rw [BitVec.toNat_and, BitVec.toNat_ofInt, h7, Nat.and_two_pow_sub_one_eq_mod]
  show IntKind.i64.wrap ((BitVec.ofInt 64 n &&& BitVec.ofInt 64 7).toNat : Nat) = n % 8
  rw [key, IntKind.wrap_i64]
  omega

theorem i64_or8 (x t : Int) (h1 : -9223372036854775808 ≤ x * 8) (h2 : x * 8 ≤ 9223372036854775807) (h3 : 0 ≤ t) (h4 : t < 8) :
    bits .or .i64 (x * 8) t = 8 * x + t := by
  have ht : (BitVec.ofInt 64 t).toNat = t.toNat := by rw [BitVec.toNat_ofInt]; omega
  have hx : (BitVec.ofInt 64 (x * 8)).toNat = 2 ^ 3 * ((x * 8) % ((2 ^ 64 : Nat) : Int) / 8).toNat := by rw [BitVec.toNat_ofInt]; omega
  show IntKind.i64.wrap ((BitVec.ofInt 64 (x * 8) ||| BitVec.ofInt 64 t).toNat : Nat) = 8 * x + t
  rw [BitVec.toNat_or, ht, hx, ← Nat.two_pow_add_eq_or_of_lt (by omega), IntKind.wrap_i64]
  omega

def rk (op a b : Int) : Int × Int :=
  if op < 0 ∨ 4 < op then (0, 1)
  else if a % 8 ≠ 0 ∨ b % 8 ≠ 0 then (0, 12)
  else if op = 0 then (if isN (a / 8 + b / 8) then (8 * (a / 8 + b / 8), 0) else (0, 10))
  else if op = 1 then (if isN (a / 8 - b / 8) then (8 * (a / 8 - b / 8), 0) else (0, 10))
  else if op = 2 then (if isN (a / 8 * (b / 8)) then (8 * (a / 8 * (b / 8)), 0) else (0, 10))
  else if b / 8 = 0 then (0, 11)
  else if op = 3 then (if isN ((a / 8).tdiv (b / 8)) then (8 * ((a / 8).tdiv (b / 8)), 0) else (0, 10))
  else (8 * ((a / 8).tmod (b / 8)), 0)

end Go.Proofs.Ytalfnaielhbocaa
