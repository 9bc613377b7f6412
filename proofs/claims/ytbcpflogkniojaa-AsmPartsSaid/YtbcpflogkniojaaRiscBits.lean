/- Words of 32 bits, put together and taken apart. -/
import Derived.Test.YtbcpflogkniojaaRiscA
import Derived.Laws.BitsAllLaws
namespace Go.Proofs.Ytbcpflogkniojaa
open Go.RowKit
set_option linter.unusedSimpArgs false
set_option linter.unusedVariables false
namespace Rs
theorem or32 (x y : Int) (k : Nat) (hx : 0 ≤ x) (hk : x % 2 ^ k = 0) (hy : 0 ≤ y) (hyk : y < 2 ^ k) (h32 : x + y < 4294967296) : bits .or .u32 x y = x + y := by
  rw [u32_or x y hx (by omega) hy (by omega)]
  obtain ⟨a, rfl⟩ : ∃ a : Nat, x = (a : Int) := ⟨x.toNat, by omega⟩
  obtain ⟨b, rfl⟩ : ∃ b : Nat, y = (b : Int) := ⟨y.toNat, by omega⟩
  simp only [Int.toNat_natCast]
  have hb : b < 2 ^ k := by exact_mod_cast hyk
  have ha : a % 2 ^ k = 0 := by exact_mod_cast hk
  obtain ⟨q, hq⟩ : ∃ q, a = 2 ^ k * q := ⟨a / 2 ^ k, by have := Nat.div_add_mod a (2 ^ k); omega⟩
  rw [hq, ← Nat.two_pow_add_eq_or_of_lt hb]
  push_cast
  rfl
theorem or32_0 (x : Int) (hx : 0 ≤ x) (h : x < 4294967296) : bits .or .u32 x 0 = x := by
  rw [u32_or x 0 hx h (by omega) (by omega)]
  simp
  omega
theorem and32 (x : Int) (k : Nat) (hk : k ≤ 31) (hx : 0 ≤ x) (h : x < 4294967296) : bits .and .u32 x (2 ^ k - 1) = x % 2 ^ k := by
  have h2 : (2 : Nat) ^ k ≤ 2 ^ 31 := Nat.pow_le_pow_right (by omega) hk
  have h3 : ((2 : Int) ^ k - 1) = ((2 ^ k - 1 : Nat) : Int) := by
    rw [Int.natCast_sub Nat.one_le_two_pow]; push_cast; rfl
  obtain ⟨a, rfl⟩ : ∃ a : Nat, x = (a : Int) := ⟨x.toNat, by omega⟩
  rw [h3, u32_and_nat a _ (by omega) (by omega), Nat.and_two_pow_sub_one_eq_mod]
  push_cast
  rfl
end Rs
end Go.Proofs.Ytbcpflogkniojaa
