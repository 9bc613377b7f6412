/- The small functions of package risc. -/
import Derived.Test.YtbcpflogkniojaaRows
import Derived.WalkKit
import Derived.Lib.Hide
import Derived.BigQuiet
namespace Go.Proofs.Ytbcpflogkniojaa
open Go.RowKit
set_option linter.unusedSimpArgs false
set_option linter.unusedVariables false
namespace Rs
def form (op : Int) : Int :=
  if op = 0 ∨ op = 30 ∨ op = 31 then 0 else if 1 ≤ op ∧ op ≤ 14 then 1 else if (15 ≤ op ∧ op ≤ 19) ∨ op = 22 ∨ op = 23 then 2
  else if op = 20 ∨ op = 21 then 3 else if 24 ≤ op ∧ op ≤ 27 then 4 else if op = 28 then 5 else if op = 29 then 6 else 7
def least (op : Int) : Int :=
  if op = 16 ∨ op = 17 ∨ op = 21 ∨ op = 18 ∨ op = 19 then 0 else if form op = 2 ∨ form op = 3 then -32768 else if form op = 4 then -512 else if form op = 5 then -1048576 else 0
def most (op : Int) : Int :=
  if op = 16 ∨ op = 17 ∨ op = 21 then 65535 else if op = 18 ∨ op = 19 then 63 else if form op = 2 ∨ form op = 3 then 32767 else if form op = 4 then 511 else if form op = 5 then 1048575 else 0
theorem op_cases (op : Int) : (op < 0 ∨ 31 < op) ∨ ∃ k : Nat, k < 32 ∧ op = (k : Int) := by
  by_cases h : op < 0 ∨ 31 < op
  · exact .inl h
  · exact .inr ⟨op.toNat, by omega, by omega⟩
end Rs

set_option maxHeartbeats 1000000 in
theorem form_any (op : Int) (w : World) : Calls Try.prog 41 #[.int .i64 op] w fun e w' => e = .returned (.int .i64 (Rs.form op)) ∧ w = w' := by
  go_enter Try.func41, Try.ntmps41
  go_wp2
  all_goals (go_ret; refine ⟨?_, rfl⟩; congr 1; simp [Rs.form] at *; try omega)

set_option maxHeartbeats 1000000 in
theorem ends_any (op : Int) (w : World) : Calls Try.prog 42 #[.int .i64 op] w fun e w' => e = .returned (.tuple #[.int .i64 (Rs.least op), .int .i64 (Rs.most op)]) ∧ w = w' := by
  go_enter Try.func42, Try.ntmps42
  go_wp2_with (go_at_call 41; refine (form_any _ _).mono ?_; rintro e w' ⟨rfl, hw⟩; obtain rfl := hw)
  all_goals (go_ret2; refine ⟨?_, rfl⟩; simp at *; unfold Rs.least Rs.most; constructor <;> (repeat' split) <;> omega)

def Rs.isReg (n : Int) : Bool := decide (0 ≤ n ∧ n ≤ 31)
theorem isReg_any (n : Int) (w : World) : Calls Try.prog 43 #[.int .i64 n] w fun e w' => e = .returned (.bool (Rs.isReg n)) ∧ w = w' := by
  rcases (by omega : n < 0 ∨ (0 ≤ n ∧ n < 32) ∨ (0 ≤ n ∧ 32 ≤ n)) with h | ⟨h, h2⟩ | ⟨h, h2⟩
  · have hr : Hid (Rs.isReg n = false) := decide_eq_false (by omega)
    go_enter Try.func43, Try.ntmps43
    go_wp2
    go_ret
    rw [hr.out]; exact ⟨rfl, rfl⟩
  · have hr : Hid (Rs.isReg n = true) := decide_eq_true (by omega)
    go_enter Try.func43, Try.ntmps43
    go_wp2
    go_ret
    rw [hr.out]; exact ⟨by simp [h2], rfl⟩
  · have hr : Hid (Rs.isReg n = false) := decide_eq_false (by omega)
    go_enter Try.func43, Try.ntmps43
    go_wp2
    go_ret
    rw [hr.out]; exact ⟨by simp; omega, rfl⟩

def Rs.signed (x : Int) (b : Nat) : Int := if 2 ^ (b - 1) ≤ x % 2 ^ b then x % 2 ^ b - 2 ^ b else x % 2 ^ b
end Go.Proofs.Ytbcpflogkniojaa
