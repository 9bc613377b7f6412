/- Encode. -/
import Derived.Test.YtbcpflogkniojaaRiscBits
namespace Go.Proofs.Ytbcpflogkniojaa
open Go.RowKit
set_option linter.unusedSimpArgs false
set_option linter.unusedVariables false
namespace Rs
def Bad (op a b c n : Int) : Prop :=
  form op = 7 ∨ isReg a = false ∨ isReg b = false ∨ isReg c = false ∨ ((form op = 0 ∨ form op = 3 ∨ form op = 5) ∧ b ≠ 0) ∨ (form op ≠ 1 ∧ c ≠ 0) ∨ n < least op ∨ most op < n
instance (op a b c n : Int) : Decidable (Bad op a b c n) := by unfold Bad; exact inferInstance
def nmod (op : Int) : Int := if form op = 2 ∨ form op = 3 then 65536 else if form op = 4 then 1024 else if form op = 5 then 2097152 else 1
def enc (op a b c n : Int) : Int := op * 67108864 + a * 2097152 + b * 65536 + c * 2048 + n % nmod op
def encW (op a b c n : Int) : Int := if Bad op a b c n then 0 else enc op a b c n
def encE (op a b c n : Int) : Int := if Bad op a b c n then 200 else 0

theorem form_range (op : Int) (h : form op ≠ 7) : 0 ≤ op ∧ op ≤ 31 := by
  unfold form at h
  repeat' split at h
  all_goals first | omega | exact absurd rfl h
theorem form_8 (op : Int) : form op = 0 ∨ form op = 1 ∨ form op = 2 ∨ form op = 3 ∨ form op = 4 ∨ form op = 5 ∨ form op = 6 ∨ form op = 7 := by
  unfold form
  repeat' split
  all_goals simp
theorem isReg_range {n : Int} (h : isReg n = true) : 0 ≤ n ∧ n ≤ 31 := of_decide_eq_true h

theorem or_a {op a : Int} (h1 : 0 ≤ op ∧ op ≤ 31) (h2 : 0 ≤ a ∧ a ≤ 31) : bits .or .u32 (op * 67108864) (a * 2097152) = op * 67108864 + a * 2097152 := or32 _ _ 26 (by omega) (by omega) (by omega) (by omega) (by omega)
theorem or_b {op a b : Int} (h1 : 0 ≤ op ∧ op ≤ 31) (h2 : 0 ≤ a ∧ a ≤ 31) (h3 : 0 ≤ b ∧ b ≤ 31) : bits .or .u32 (op * 67108864 + a * 2097152) (b * 65536) = op * 67108864 + a * 2097152 + b * 65536 := or32 _ _ 21 (by omega) (by omega) (by omega) (by omega) (by omega)
theorem or_c {op a b c : Int} (h1 : 0 ≤ op ∧ op ≤ 31) (h2 : 0 ≤ a ∧ a ≤ 31) (h3 : 0 ≤ b ∧ b ≤ 31) (h4 : 0 ≤ c ∧ c ≤ 31) : bits .or .u32 (op * 67108864 + a * 2097152 + b * 65536) (c * 2048) = op * 67108864 + a * 2097152 + b * 65536 + c * 2048 := or32 _ _ 16 (by omega) (by omega) (by omega) (by omega) (by omega)
theorem or_n16 {op a b n : Int} (h1 : 0 ≤ op ∧ op ≤ 31) (h2 : 0 ≤ a ∧ a ≤ 31) (h3 : 0 ≤ b ∧ b ≤ 31) : bits .or .u32 (op * 67108864 + a * 2097152 + b * 65536) (n % 65536) = op * 67108864 + a * 2097152 + b * 65536 + n % 65536 := or32 _ _ 16 (by omega) (by omega) (by omega) (by omega) (by omega)
theorem or_n16z {op a n : Int} (h1 : 0 ≤ op ∧ op ≤ 31) (h2 : 0 ≤ a ∧ a ≤ 31) : bits .or .u32 (op * 67108864 + a * 2097152) (n % 65536) = op * 67108864 + a * 2097152 + n % 65536 := or32 _ _ 16 (by omega) (by omega) (by omega) (by omega) (by omega)
theorem or_n10 {op a b n : Int} (h1 : 0 ≤ op ∧ op ≤ 31) (h2 : 0 ≤ a ∧ a ≤ 31) (h3 : 0 ≤ b ∧ b ≤ 31) : bits .or .u32 (op * 67108864 + a * 2097152 + b * 65536) (n % 1024) = op * 67108864 + a * 2097152 + b * 65536 + n % 1024 := or32 _ _ 16 (by omega) (by omega) (by omega) (by omega) (by omega)
theorem or_n21 {op a n : Int} (h1 : 0 ≤ op ∧ op ≤ 31) (h2 : 0 ≤ a ∧ a ≤ 31) : bits .or .u32 (op * 67108864 + a * 2097152) (n % 2097152) = op * 67108864 + a * 2097152 + n % 2097152 := or32 _ _ 21 (by omega) (by omega) (by omega) (by omega) (by omega)
theorem and10 (n : Int) : bits .and .u32 (n % 4294967296) 1023 = n % 1024 := by
  have := and32 (n % 4294967296) 10 (by omega) (by omega) (by omega)
  rw [show ((2 : Int) ^ 10 - 1) = 1023 from rfl, show ((2 : Int) ^ 10) = 1024 from rfl] at this
  rw [this]; omega
theorem and21 (n : Int) : bits .and .u32 (n % 4294967296) 2097151 = n % 2097152 := by
  have := and32 (n % 4294967296) 21 (by omega) (by omega) (by omega)
  rw [show ((2 : Int) ^ 21 - 1) = 2097151 from rfl, show ((2 : Int) ^ 21) = 2097152 from rfl] at this
  rw [this]; omega
theorem wrap16 (n : Int) : IntKind.u16.wrap n % 4294967296 = n % 65536 := by
  rw [show IntKind.u16.wrap n = n % 65536 from rfl]; omega
theorem nmod_0 {op : Int} (h : form op = 0) (n : Int) : n % nmod op = 0 := by unfold nmod; rw [h]; simp
theorem nmod_1 {op : Int} (h : form op = 1) (n : Int) : n % nmod op = 0 := by unfold nmod; rw [h]; simp
theorem nmod_2 {op : Int} (h : form op = 2) (n : Int) : n % nmod op = n % 65536 := by unfold nmod; rw [h]; simp
theorem nmod_3 {op : Int} (h : form op = 3) (n : Int) : n % nmod op = n % 65536 := by unfold nmod; rw [h]; simp
theorem nmod_4 {op : Int} (h : form op = 4) (n : Int) : n % nmod op = n % 1024 := by unfold nmod; rw [h]; simp
theorem nmod_5 {op : Int} (h : form op = 5) (n : Int) : n % nmod op = n % 2097152 := by unfold nmod; rw [h]; simp
theorem nmod_6 {op : Int} (h : form op = 6) (n : Int) : n % nmod op = 0 := by unfold nmod; rw [h]; simp
theorem n_zero_0 {op n : Int} (h : form op = 0) (h1 : least op ≤ n) (h2 : n ≤ most op) : n = 0 := by
  unfold form at h
  unfold least form at h1
  unfold most form at h2
  repeat' split at h
  all_goals first | omega | (repeat' split at h1) <;> (repeat' split at h2) <;> omega
theorem n_zero_1 {op n : Int} (h : form op = 1) (h1 : least op ≤ n) (h2 : n ≤ most op) : n = 0 := by
  unfold form at h
  unfold least form at h1
  unfold most form at h2
  repeat' split at h
  all_goals first | omega | (repeat' split at h1) <;> (repeat' split at h2) <;> omega
theorem n_zero_6 {op n : Int} (h : form op = 6) (h1 : least op ≤ n) (h2 : n ≤ most op) : n = 0 := by
  unfold form at h
  unfold least form at h1
  unfold most form at h2
  repeat' split at h
  all_goals first | omega | (repeat' split at h1) <;> (repeat' split at h2) <;> omega
theorem ret2_u32 {a b : Int} {v : Value} (h : a = b) : Ending.returned (.tuple #[.int .u32 a, v]) = .returned (.tuple #[.int .u32 b, v]) := by rw [h]
end Rs
end Go.Proofs.Ytbcpflogkniojaa
