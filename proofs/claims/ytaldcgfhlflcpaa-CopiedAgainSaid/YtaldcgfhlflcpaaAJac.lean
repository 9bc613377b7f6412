/- The reckoning instructions. -/
import Derived.Laws.BitsAllLaws
import Derived.Test.YtaldcgfhlflcpaaAJab
import Derived.Test.YtaldcgfhlflcpaaRows
import Derived.WalkKit
import Derived.Lib.Hide
import Derived.Laws.Bits64b
import Derived.Lib.Mul64
set_option linter.unusedVariables false
set_option linter.unusedSimpArgs false
set_option linter.unnecessarySimpa false
namespace Go.Proofs.Ytaldcgfhlflcpaa
open Go.RowKit
set_option maxRecDepth 100000
set_option linter.unusedSimpArgs false
set_option linter.unusedVariables false
theorem ret_i64 {a b : Int} (h : a = b) : Ending.returned (.int .i64 a) = .returned (.int .i64 b) := by rw [h]
namespace Rs
theorem i64_mask (k : Nat) (hk : k ≤ 62) (n : Int) : bits .and .i64 n (2 ^ k - 1 : Nat) = n % (2 ^ k : Nat) := by
  have hp : 2 ^ k ≤ 2 ^ 62 := Nat.pow_le_pow_right (by omega) hk
  have hp0 : 0 < 2 ^ k := Nat.two_pow_pos k
  have h127 : (BitVec.ofInt 64 ((2 ^ k - 1 : Nat) : Int)).toNat = 2 ^ k - 1 := by
    rw [BitVec.toNat_ofInt]
    have : ((2 ^ k - 1 : Nat) : Int) % ((2 ^ 64 : Nat) : Int) = ((2 ^ k - 1 : Nat) : Int) := Int.emod_eq_of_lt (by omega) (by omega)
    rw [this]; rfl
  have key : (BitVec.ofInt 64 n &&& BitVec.ofInt 64 ((2 ^ k - 1 : Nat) : Int)).toNat = (n % ((2 ^ 64 : Nat) : Int)).toNat % 2 ^ k := by
    rw [BitVec.toNat_and, BitVec.toNat_ofInt, h127, Nat.and_two_pow_sub_one_eq_mod]
  show IntKind.i64.wrap ((BitVec.ofInt 64 n &&& BitVec.ofInt 64 ((2 ^ k - 1 : Nat) : Int)).toNat : Nat) = n % (2 ^ k : Nat)
  rw [key, IntKind.wrap_i64]
  have h2 : (((n % ((2 ^ 64 : Nat) : Int)).toNat % 2 ^ k : Nat) : Int) = n % (2 ^ k : Nat) := by
    rw [Int.natCast_emod, Int.toNat_of_nonneg (Int.emod_nonneg _ (by decide))]
    refine Int.emod_emod_of_dvd n ?_
    exact Int.natCast_dvd_natCast.2 (Nat.pow_dvd_pow 2 (by omega))
  rw [h2]
  have h3 : 0 ≤ n % ((2 ^ k : Nat) : Int) := Int.emod_nonneg _ (by omega)
  have h4 : n % ((2 ^ k : Nat) : Int) < ((2 ^ k : Nat) : Int) := Int.emod_lt_of_pos _ (by omega)
  omega
theorem i64_63 (n : Int) : bits .and .i64 n 63 = n % 64 := i64_mask 6 (by omega) n
theorem i64_32 (n : Int) : bits .and .i64 n 4294967295 = n % 4294967296 := i64_mask 32 (by omega) n
theorem i64_16 (n : Int) : bits .and .i64 n 65535 = n % 65536 := i64_mask 16 (by omega) n
end Rs
namespace Rs
def alu (op b c : Int) : Int :=
  if op = 1 then wrap64 (b + c) else if op = 2 then wrap64 (b - c) else if op = 3 then wrap64 (b * c) else if op = 4 then b * c / 18446744073709551616
  else if op = 5 then wrap64 (b.tdiv c) else if op = 6 then b.tmod c else if op = 7 then bits .and .i64 b c else if op = 8 then bits .or .i64 b c else if op = 9 then bits .xor .i64 b c
  else if op = 10 then wrap64 (b * 2 ^ (c % 64).toNat) else if op = 11 then b / 2 ^ (c % 64).toNat else if op = 12 then wrap64 (IntKind.u64.wrap b / 2 ^ (c % 64).toNat)
  else if op = 13 then (if b < c then 1 else 0) else (if IntKind.u64.wrap b < IntKind.u64.wrap c then 1 else 0)
theorem mul_range (b c : Int) (m n : Nat) (hb : b.natAbs ≤ m) (hc : c.natAbs ≤ n) : -((m * n : Nat) : Int) ≤ b * c ∧ b * c ≤ ((m * n : Nat) : Int) := by
  have h := Nat.mul_le_mul hb hc
  rw [← Int.natAbs_mul] at h
  omega
theorem w64 {z : Int} (h1 : -9223372036854775808 ≤ z) (h2 : z ≤ 9223372036854775807) : wrap64 z = z := by simp only [wrap64]; omega
theorem High_pure (x u y v : Int) (x1 : -2147483648 ≤ x) (x2 : x ≤ 2147483647) (u1 : 0 ≤ u) (u2 : u ≤ 4294967295) (y1 : -2147483648 ≤ y) (y2 : y ≤ 2147483647) (v1 : 0 ≤ v) (v2 : v ≤ 4294967295) :
    wrap64 (wrap64 (wrap64 (x * y) + wrap64 (wrap64 (x * v) + wrap64 (IntKind.u64.wrap (u * v) / 4294967296)) / 4294967296) +
      wrap64 (wrap64 (u * y) + wrap64 (wrap64 (x * v) + wrap64 (IntKind.u64.wrap (u * v) / 4294967296)) % 4294967296) / 4294967296) = (x * 4294967296 + u) * (y * 4294967296 + v) / 18446744073709551616 := by
  obtain ⟨p1, p2⟩ := mul_range x y 2147483648 2147483648 (by omega) (by omega)
  obtain ⟨q1, q2⟩ := mul_range x v 2147483648 4294967295 (by omega) (by omega)
  obtain ⟨r1, r2⟩ := mul_range u y 4294967295 2147483648 (by omega) (by omega)
  obtain ⟨s1, s2⟩ := mul_range u v 4294967295 4294967295 (by omega) (by omega)
  have s0 : 0 ≤ u * v := Int.mul_nonneg (by omega) (by omega)
  have q3 : x * v ≤ 2147483647 * 4294967295 := by
    rcases Int.le_total 0 x with h | h
    · exact Int.mul_le_mul x2 v2 v1 (by omega)
    · have := Int.mul_nonpos_of_nonpos_of_nonneg h v1; omega
  have r3 : u * y ≤ 4294967295 * 2147483647 := by
    rcases Int.le_total 0 y with h | h
    · exact Int.mul_le_mul u2 y2 h (by omega)
    · have := Int.mul_nonpos_of_nonneg_of_nonpos u1 h; omega
  have e : (x * 4294967296 + u) * (y * 4294967296 + v) = x * y * 18446744073709551616 + (x * v + u * y) * 4294967296 + u * v := by
    rw [Int.add_mul, Int.mul_add, Int.mul_add]
    have e1 : x * 4294967296 * (y * 4294967296) = x * y * 18446744073709551616 := by rw [Int.mul_assoc, ← Int.mul_assoc 4294967296, Int.mul_comm 4294967296 y, Int.mul_assoc y, ← Int.mul_assoc]; rfl
    have e2 : x * 4294967296 * v = x * v * 4294967296 := by rw [Int.mul_assoc, Int.mul_comm 4294967296, Int.mul_assoc]
    have e3 : u * (y * 4294967296) = u * y * 4294967296 := by rw [Int.mul_assoc]
    rw [e1, e2, e3, Int.add_mul]
    omega
  rw [e]
  generalize x * y = P at *
  generalize x * v = Q at *
  generalize u * y = R at *
  generalize u * v = S at *
  rw [IntKind.wrap_u64]
  have t1 : wrap64 P = P := w64 (by omega) (by omega)
  have t2 : wrap64 Q = Q := w64 (by omega) (by omega)
  have t3 : wrap64 R = R := w64 (by omega) (by omega)
  have t4 : S % 18446744073709551616 = S := by omega
  rw [t1, t2, t3, t4]
  have t5 : wrap64 (S / 4294967296) = S / 4294967296 := w64 (by omega) (by omega)
  rw [t5]
  have t6 : wrap64 (Q + S / 4294967296) = Q + S / 4294967296 := w64 (by omega) (by omega)
  rw [t6]
  have t7 : wrap64 (R + (Q + S / 4294967296) % 4294967296) = R + (Q + S / 4294967296) % 4294967296 := w64 (by omega) (by omega)
  rw [t7]
  have t8 : wrap64 (P + (Q + S / 4294967296) / 4294967296) = P + (Q + S / 4294967296) / 4294967296 := w64 (by omega) (by omega)
  rw [t8]
  have t9 : wrap64 (P + (Q + S / 4294967296) / 4294967296 + (R + (Q + S / 4294967296) % 4294967296) / 4294967296) = P + (Q + S / 4294967296) / 4294967296 + (R + (Q + S / 4294967296) % 4294967296) / 4294967296 := w64 (by omega) (by omega)
  rw [t9]
  omega
theorem High_eq (b c : Int) (hb1 : -9223372036854775808 ≤ b) (hb2 : b ≤ 9223372036854775807) (hc1 : -9223372036854775808 ≤ c) (hc2 : c ≤ 9223372036854775807) :
    wrap64 (wrap64 (wrap64 (b / 4294967296 * (c / 4294967296)) + wrap64 (wrap64 (b / 4294967296 * (c % 4294967296)) + wrap64 (IntKind.u64.wrap (b % 4294967296 * (c % 4294967296)) / 4294967296)) / 4294967296) +
      wrap64 (wrap64 (b % 4294967296 * (c / 4294967296)) + wrap64 (wrap64 (b / 4294967296 * (c % 4294967296)) + wrap64 (IntKind.u64.wrap (b % 4294967296 * (c % 4294967296)) / 4294967296)) % 4294967296) / 4294967296) = b * c / 18446744073709551616 := by
  rw [High_pure _ _ _ _ (by omega) (by omega) (by omega) (by omega) (by omega) (by omega) (by omega) (by omega)]
  rw [show b / 4294967296 * 4294967296 + b % 4294967296 = b by omega, show c / 4294967296 * 4294967296 + c % 4294967296 = c by omega]
theorem rem_eq (b c : Int) (hb1 : -9223372036854775808 ≤ b) (hb2 : b ≤ 9223372036854775807) (hc0 : c ≠ 0) : wrap64 (b - wrap64 (wrap64 (b.tdiv c) * c)) = b.tmod c := by
  by_cases hm : b = -9223372036854775808 ∧ c = -1
  · obtain ⟨rfl, rfl⟩ := hm
    decide +kernel
  have e := Int.mul_tdiv_add_tmod b c
  have h1 := Int.natAbs_tdiv b c
  have h2 : (b.tdiv c).natAbs ≤ b.natAbs := by rw [h1]; exact Nat.div_le_self _ _
  have hlt : (b.tmod c).natAbs ≤ b.natAbs := by rw [Int.natAbs_tmod]; exact Nat.mod_le _ _
  have hq : b.tdiv c ≤ 9223372036854775807 := by
    by_cases hc1 : c = 1
    · rw [hc1, Int.tdiv_one]; omega
    by_cases hc2 : c = -1
    · rw [hc2, Int.tdiv_neg, Int.tdiv_one]; omega
    · have : 2 ≤ c.natAbs := by omega
      have h4 : (b.tdiv c).natAbs ≤ b.natAbs / 2 := h1 ▸ Nat.div_le_div_left this (by omega)
      clear h1
      omega
  have hs : (c * b.tdiv c).natAbs ≤ b.natAbs := by
    rw [Int.natAbs_mul, h1]
    exact Nat.mul_div_le _ _
  have hp : -9223372036854775808 ≤ c * b.tdiv c ∧ c * b.tdiv c ≤ 9223372036854775807 ∨ b = -9223372036854775808 ∧ c * b.tdiv c = 9223372036854775808 := by omega
  have h3 : ¬ (b = -9223372036854775808 ∧ c * b.tdiv c = 9223372036854775808) := by
    rintro ⟨hb, hx⟩
    have := Int.tmod_lt_of_pos b (b := (c.natAbs : Int)) (by omega)
    have h5 : b.tmod c = b - 9223372036854775808 := by omega
    omega
  rw [w64 (z := b.tdiv c) (by omega) hq, Int.mul_comm (b.tdiv c) c]
  rw [w64 (z := c * b.tdiv c) (by omega) (by omega)]
  rw [w64 (by omega) (by omega)]
  omega
end Rs
theorem High_any (b c : Int) (w : World) (hb1 : -9223372036854775808 ≤ b) (hb2 : b ≤ 9223372036854775807) (hc1 : -9223372036854775808 ≤ c) (hc2 : c ≤ 9223372036854775807) : Calls Try.prog 48 #[.int .i64 b, .int .i64 c] w fun e w' => e = .returned (.int .i64 (b * c / 18446744073709551616)) ∧ w = w' := by
  have b0 := Rs.i64_32 b
  have c0 := Rs.i64_32 c
  have hm : ∀ z : Int, bits .and .i64 z 4294967295 = z % 4294967296 := Rs.i64_32
  have hH := Lib.hid (Rs.High_eq b c hb1 hb2 hc1 hc2)
  go_enter Try.func48, Try.ntmps48
  go_wp2
  all_goals go_ret
  all_goals refine ⟨ret_i64 ?_, rfl⟩
  exact hH.out
def Rs.opOk (op c : Int) : Prop := 1 ≤ op ∧ op ≤ 14 ∧ ((op = 5 ∨ op = 6) → c ≠ 0)
set_option maxHeartbeats 2000000 in
theorem three_any (op b c : Int) (w : World) (h : Rs.opOk op c) (hb1 : -9223372036854775808 ≤ b) (hb2 : b ≤ 9223372036854775807) (hc1 : -9223372036854775808 ≤ c) (hc2 : c ≤ 9223372036854775807) : Calls Try.prog 43 #[.int .i64 op, .int .i64 b, .int .i64 c] w fun e w' => e = .returned (.int .i64 (Rs.alu op b c)) ∧ w = w' := by
  have hs := Rs.i64_63 c
  obtain ⟨s, hss⟩ : ∃ s : Nat, c % 64 = s := ⟨(c % 64).toNat, by omega⟩
  have hst : Hid ((c % 64).toNat = s) := by unfold Hid; omega
  rw [hss] at hs
  have hs2 : s < 64 := by omega
  obtain ⟨h1, h2, h3⟩ := h
  have : op = 1 ∨ op = 2 ∨ op = 3 ∨ op = 4 ∨ op = 5 ∨ op = 6 ∨ op = 7 ∨ op = 8 ∨ op = 9 ∨ op = 10 ∨ op = 11 ∨ op = 12 ∨ op = 13 ∨ op = 14 := by omega
  clear hss h1 h2
  have H3 := Lib.hid h3
  clear h3
  rcases this with rfl | rfl | rfl | rfl | rfl | rfl | rfl | rfl | rfl | rfl | rfl | rfl | rfl | rfl
  all_goals
    try have hc0 : c ≠ 0 := H3.out (by decide)
    go_enter Try.func43, Try.ntmps43
    go_wp2_with (first | (go_at_call 48; (with_reducible refine (High_any _ _ _ hb1 hb2 hc1 hc2).mono ?_); rintro e w' ⟨rfl, hw⟩; obtain rfl := hw))
    all_goals go_ret
    all_goals refine ⟨ret_i64 ?_, rfl⟩
    all_goals unfold Rs.alu
    all_goals (try rw [hst.out])
    all_goals first | exact Rs.rem_eq b c hb1 hb2 (by assumption) | simp [*]
end Go.Proofs.Ytaldcgfhlflcpaa
