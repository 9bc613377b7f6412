/- Contracts of the functions of package word and of its reference. -/
import Derived.Test.YtdehgidklcflbacRows
import Derived.Test.YtdehgidklcflbacWordPlain
import Derived.WalkKit
import Derived.Laws.Bits64b
namespace Go.Proofs.Ytdehgidklcflbac
open Go.RowKit
set_option linter.unusedVariables false

theorem isNumber_any (n : Int) (w : World) :
    Calls Try.prog 23 #[.int .i64 n] w fun e w' => e = .returned (.bool (isN n)) ∧ w' = w := by
  by_cases h1 : -1152921504606846976 ≤ n
  · by_cases h2 : n ≤ 1152921504606846975
    · rw [isN_true ⟨h1, h2⟩]
      go_enter Try.func23, Try.ntmps23
      go_wp2
      go_ret
      exact ⟨by simp [h2], rfl⟩
    · rw [isN_false (by omega)]
      go_enter Try.func23, Try.ntmps23
      go_wp2
      go_ret
      exact ⟨by simp [h2], rfl⟩
  · rw [isN_false (by omega)]
    go_enter Try.func23, Try.ntmps23
    go_wp2
    go_ret
    exact ⟨rfl, rfl⟩

theorem lay_any (t n : Int) (w : World) (h1 : -1152921504606846976 ≤ n) (h2 : n ≤ 1152921504606846975) (h3 : 0 ≤ t) (h4 : t < 8) :
    Calls Try.prog 20 #[.int .i64 t, .int .i64 n] w fun e w' => e = .returned (.int .i64 (8 * n + t)) ∧ w' = w := by
  have hb := i64_or8 n t (by omega) (by omega) h3 h4
  go_enter Try.func20, Try.ntmps20
  go_wp2
  go_ret
  exact ⟨rfl, rfl⟩

theorem tag_any (n : Int) (w : World) :
    Calls Try.prog 8 #[.int .i64 n] w fun e w' => e = .returned (.int .i64 (n % 8)) ∧ w' = w := by
  have hb := i64_and7 n
  go_enter Try.func8, Try.ntmps8
  go_wp2
  go_ret
  exact ⟨rfl, rfl⟩

theorem value_any (n : Int) (w : World) :
    Calls Try.prog 9 #[.int .i64 n] w fun e w' => e = .returned (.int .i64 (n / 8)) ∧ w' = w := by
  go_enter Try.func9, Try.ntmps9
  go_wp2
  go_ret
  exact ⟨rfl, rfl⟩

theorem int_ok (n : Int) (w : World) (h1 : -1152921504606846976 ≤ n) (h2 : n ≤ 1152921504606846975) :
    Calls Try.prog 16 #[.int .i64 n] w fun e w' => e = .returned (.tuple #[.int .i64 (8 * n), .int .i64 0]) ∧ w' = w := by
  have hi := isN_true ⟨h1, h2⟩
  go_enter Try.func16, Try.ntmps16
  go_wp2_with (first | (go_at_call 23; refine (isNumber_any _ _).mono ?_; rintro e w' ⟨rfl, rfl⟩) | (go_at_call 20; refine (lay_any _ _ _ h1 h2 (by omega) (by omega)).mono ?_; rintro e w' ⟨rfl, rfl⟩))
  go_ret2
  exact ⟨by simp, rfl⟩

theorem int_no (n : Int) (w : World) (h1 : n < -1152921504606846976 ∨ 1152921504606846975 < n) :
    Calls Try.prog 16 #[.int .i64 n] w fun e w' => e = .returned (.tuple #[.int .i64 0, .int .i64 10]) ∧ w' = w := by
  have hi := isN_false h1
  clear h1
  go_enter Try.func16, Try.ntmps16
  go_wp2_with (first | (go_at_call 23; refine (isNumber_any _ _).mono ?_; rintro e w' ⟨rfl, rfl⟩))
  go_ret2
  exact ⟨rfl, rfl⟩

/-- Int's answer by cases. -/
def intA (n : Int) : Int × Int := if isN n then (8 * n, 0) else (0, 10)

theorem int_any (n : Int) (w : World) :
    Calls Try.prog 16 #[.int .i64 n] w fun e w' => e = .returned (.tuple #[.int .i64 (intA n).1, .int .i64 (intA n).2]) ∧ w' = w := by
  by_cases h : -1152921504606846976 ≤ n ∧ n ≤ 1152921504606846975
  · have := int_ok n w h.1 h.2
    unfold intA; rw [if_pos (isN_true h)]; exact this
  · have := int_no n w (by omega)
    unfold intA; rw [isN_false (by omega)]; exact this

theorem tagged_ok (t n : Int) (w : World) (h1 : 0 ≤ n) (h2 : n ≤ 1152921504606846975) (h3 : 0 ≤ t) (h4 : t < 8) :
    Calls Try.prog 24 #[.int .i64 t, .int .i64 n] w fun e w' => e = .returned (.tuple #[.int .i64 (8 * n + t), .int .i64 0]) ∧ w' = w := by
  go_enter Try.func24, Try.ntmps24
  go_wp2_with (first | (go_at_call 20; refine (lay_any _ _ _ (by omega) h2 h3 h4).mono ?_; rintro e w' ⟨rfl, rfl⟩))
  go_ret2
  exact ⟨rfl, rfl⟩

theorem tagged_no (t n : Int) (w : World) (h1 : n < 0 ∨ 1152921504606846975 < n) :
    Calls Try.prog 24 #[.int .i64 t, .int .i64 n] w fun e w' => e = .returned (.tuple #[.int .i64 0, .int .i64 1]) ∧ w' = w := by
  rcases h1 with h | h
  all_goals
    go_enter Try.func24, Try.ntmps24
    go_wp2
    all_goals go_ret2
    all_goals exact ⟨rfl, rfl⟩

/-- tagged's answer by cases. -/
def tagA (t n : Int) : Int × Int := if 0 ≤ n ∧ n ≤ 1152921504606846975 then (8 * n + t, 0) else (0, 1)

theorem tagged_any (t n : Int) (w : World) (h3 : 0 ≤ t) (h4 : t < 8) :
    Calls Try.prog 24 #[.int .i64 t, .int .i64 n] w fun e w' => e = .returned (.tuple #[.int .i64 (tagA t n).1, .int .i64 (tagA t n).2]) ∧ w' = w := by
  unfold tagA
  by_cases h : 0 ≤ n ∧ n ≤ 1152921504606846975
  · rw [if_pos h]; exact tagged_ok t n w h.1 h.2 h3 h4
  · rw [if_neg h]; exact tagged_no t n w (by omega)

theorem place_any (n : Int) (w : World) :
    Calls Try.prog 17 #[.int .i64 n] w fun e w' => e = .returned (.tuple #[.int .i64 (tagA 1 n).1, .int .i64 (tagA 1 n).2]) ∧ w' = w := by
  go_enter Try.func17, Try.ntmps17
  go_wp2_with (first | (go_at_call 24; refine (tagged_any _ _ _ (by omega) (by omega)).mono ?_; rintro e w' ⟨rfl, rfl⟩))
  go_ret2
  exact ⟨rfl, rfl⟩
theorem const_any (n : Int) (w : World) :
    Calls Try.prog 18 #[.int .i64 n] w fun e w' => e = .returned (.tuple #[.int .i64 (tagA 2 n).1, .int .i64 (tagA 2 n).2]) ∧ w' = w := by
  go_enter Try.func18, Try.ntmps18
  go_wp2_with (first | (go_at_call 24; refine (tagged_any _ _ _ (by omega) (by omega)).mono ?_; rintro e w' ⟨rfl, rfl⟩))
  go_ret2
  exact ⟨rfl, rfl⟩
theorem symbol_any (n : Int) (w : World) :
    Calls Try.prog 19 #[.int .i64 n] w fun e w' => e = .returned (.tuple #[.int .i64 (tagA 3 n).1, .int .i64 (tagA 3 n).2]) ∧ w' = w := by
  go_enter Try.func19, Try.ntmps19
  go_wp2_with (first | (go_at_call 24; refine (tagged_any _ _ _ (by omega) (by omega)).mono ?_; rintro e w' ⟨rfl, rfl⟩))
  go_ret2
  exact ⟨rfl, rfl⟩

/-- Head's answer by cases. -/
def headA (k s : Int) : Int × Int := if 0 ≤ k ∧ k ≤ 7 ∧ 0 ≤ s ∧ s ≤ 1099511627776 then (8 * (8 * s + k) + 7, 0) else (0, 1)

theorem head_any (k s : Int) (w : World) :
    Calls Try.prog 10 #[.int .i64 k, .int .i64 s] w fun e w' => e = .returned (.tuple #[.int .i64 (headA k s).1, .int .i64 (headA k s).2]) ∧ w' = w := by
  unfold headA
  by_cases h1 : k < 0
  · rw [if_neg (by omega)]
    go_enter Try.func10, Try.ntmps10
    go_wp2
    go_ret2
    exact ⟨rfl, rfl⟩
  by_cases h2 : 7 < k
  · rw [if_neg (by omega)]
    go_enter Try.func10, Try.ntmps10
    go_wp2
    go_ret2
    exact ⟨rfl, rfl⟩
  by_cases h3 : s < 0
  · rw [if_neg (by omega)]
    go_enter Try.func10, Try.ntmps10
    go_wp2
    go_ret2
    exact ⟨rfl, rfl⟩
  by_cases h4 : 1099511627776 < s
  · rw [if_neg (by omega)]
    go_enter Try.func10, Try.ntmps10
    go_wp2
    go_ret2
    exact ⟨rfl, rfl⟩
  rw [if_pos (by omega)]
  go_enter Try.func10, Try.ntmps10
  go_wp2_with (first | (go_at_call 20; refine (lay_any _ _ _ (by omega) (by omega) (by omega) (by omega)).mono ?_; rintro e w' ⟨rfl, rfl⟩))
  go_ret2
  exact ⟨rfl, rfl⟩

/-! ### bits.Mul64 and times -/
theorem maskN (a : Nat) (ha : a < 18446744073709551616) : bits .and .u64 (a : Int) 4294967295 = ((a % 4294967296 : Nat) : Int) := by
  have h := bits_and_u64_nat a 4294967295 ha (by omega)
  have e : a &&& 4294967295 = a % 4294967296 := Nat.and_two_pow_sub_one_eq_mod a 32
  rw [e] at h
  exact h
theorem divN (a : Nat) : (a : Int) / 4294967296 = ((a / 4294967296 : Nat) : Int) := by omega
theorem mulN (a b : Nat) : (a : Int) * (b : Int) = ((a * b : Nat) : Int) := (Int.natCast_mul a b).symm
theorem addN (a b : Nat) : (a : Int) + (b : Int) = ((a + b : Nat) : Int) := (Int.natCast_add a b).symm
theorem wrapN (a : Nat) (ha : a < 18446744073709551616) : IntKind.u64.wrap (a : Int) = (a : Int) := by rw [IntKind.wrap_u64]; omega
theorem wrapM (a : Nat) : IntKind.u64.wrap (a : Int) = ((a % 18446744073709551616 : Nat) : Int) := by rw [IntKind.wrap_u64]; omega

set_option maxHeartbeats 1000000 in
theorem mul64_any (x y : Nat) (hx : x < 18446744073709551616) (hy : y < 18446744073709551616) (w : World) :
    Calls Try.prog 25 #[.int .u64 x, .int .u64 y] w fun e w' => e = .returned (.tuple #[.int .u64 ((x * y / 18446744073709551616 : Nat) : Int), .int .u64 ((x * y % 18446744073709551616 : Nat) : Int)]) ∧ w' = w := by
  obtain ⟨bd, bt, bw, hhi⟩ := Lib.mul64_hi x y hx hy
  have ba := Lib.half_mul_le (a := x / 4294967296) (b := y / 4294967296) (by omega) (by omega)
  have bb := Lib.half_mul_le (a := x / 4294967296) (b := y % 4294967296) (by omega) (by omega)
  have bc := Lib.half_mul_le (a := x % 4294967296) (b := y / 4294967296) (by omega) (by omega)
  have ba' : x / 4294967296 * (y / 4294967296) < 18446744073709551616 := by omega
  have bb' : x / 4294967296 * (y % 4294967296) < 18446744073709551616 := by omega
  have bc' : x % 4294967296 * (y / 4294967296) < 18446744073709551616 := by omega
  have bh1 : x / 4294967296 * (y / 4294967296) + (x / 4294967296 * (y % 4294967296) + x % 4294967296 * (y % 4294967296) / 4294967296) / 4294967296 < 18446744073709551616 := by omega
  have bh : x / 4294967296 * (y / 4294967296) + (x / 4294967296 * (y % 4294967296) + x % 4294967296 * (y % 4294967296) / 4294967296) / 4294967296 + ((x / 4294967296 * (y % 4294967296) + x % 4294967296 * (y % 4294967296) / 4294967296) % 4294967296 + x % 4294967296 * (y / 4294967296)) / 4294967296 < 18446744073709551616 := by omega
  go_enter Try.func25, Try.ntmps25
  go_wp2
  simp only [maskN x hx, maskN y hy, divN, mulN, addN, wrapN _ bd, wrapN _ bb', wrapN _ bt, maskN _ bt, wrapN _ bc', wrapN _ bw, wrapN _ ba', wrapN _ bh1, wrapN _ bh, wrapM (x * y)]
  rw [hhi]
  go_ret2
  exact ⟨rfl, rfl⟩
end Go.Proofs.Ytdehgidklcflbac
