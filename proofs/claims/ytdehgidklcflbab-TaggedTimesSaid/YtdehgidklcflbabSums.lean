/- The walk of TaggedSums. -/
import Derived.Test.YtdehgidklcflbabFixed
namespace Go.Proofs.Ytdehgidklcflbab
open Go.RowKit
set_option linter.unusedVariables false

theorem is_any (n : Int) (w : World) :
    Calls Try.prog 10 #[.int .i64 n] w fun e w' => e = .returned (.bool (isN n)) ∧ w' = w := by
  by_cases h1 : -1152921504606846976 ≤ n
  · by_cases h2 : n ≤ 1152921504606846975
    · rw [isN_true ⟨h1, h2⟩]
      go_enter Try.func10, Try.ntmps10
      go_wp2
      go_ret
      exact ⟨by simp [h2], rfl⟩
    · rw [isN_false (by omega)]
      go_enter Try.func10, Try.ntmps10
      go_wp2
      go_ret
      exact ⟨by simp [h2], rfl⟩
  · rw [isN_false (by omega)]
    go_enter Try.func10, Try.ntmps10
    go_wp2
    go_ret
    exact ⟨rfl, rfl⟩

theorem rk_lin (op n m v : Int) (ho : (op = 0 ∧ v = n + m) ∨ (op = 1 ∧ v = n - m)) : rk op (8 * n) (8 * m) = intA v := by
  unfold rk intA
  have e1 : (8 * n) / 8 = n := by omega
  have e2 : (8 * m) / 8 = m := by omega
  rw [if_neg (by omega), if_neg (by omega), e1, e2]
  rcases ho with ⟨rfl, rfl⟩ | ⟨rfl, rfl⟩
  · rw [if_pos rfl]
  · rw [if_neg (by decide), if_pos rfl]

set_option maxHeartbeats 1000000 in
theorem sums_walk (n m : Int) (w : World) (n1 : -9223372036854775808 ≤ n) (n2 : n ≤ 9223372036854775807) (m1 : -9223372036854775808 ≤ m) (m2 : m ≤ 9223372036854775807) :
    Calls Try.prog 3 #[.int .i64 n, .int .i64 m] w fun e w' => e = .returned (.bool true) ∧ w' = w := by
  by_cases hn : -1152921504606846976 ≤ n ∧ n ≤ 1152921504606846975
  · obtain ⟨n3, n4⟩ := hn
    have i1 : intA n = (8 * n, 0) := by unfold intA; rw [isN_true ⟨n3, n4⟩]; rfl
    by_cases hm : -1152921504606846976 ≤ m ∧ m ≤ 1152921504606846975
    · obtain ⟨m3, m4⟩ := hm
      have i2 : intA m = (8 * m, 0) := by unfold intA; rw [isN_true ⟨m3, m4⟩]; rfl
      have r1 := rk_lin 0 n m (n + m) (by omega)
      have r2 := rk_lin 0 m n (n + m) (by omega)
      by_cases hs : -1152921504606846976 ≤ n + m ∧ n + m ≤ 1152921504606846975
      · have t := isN_true hs
        have i3 : intA (n + m) = (8 * (n + m), 0) := by unfold intA; rw [t]; rfl
        have r3 : rk 1 (8 * (n + m)) (8 * m) = (8 * n, 0) := by rw [rk_lin 1 (n + m) m n (by omega), i1]
        have q : (8 * (n + m)) / 8 = n + m := by omega
        obtain ⟨s3, s4⟩ := hs
        go_enter Try.func3, Try.ntmps3
        go_wp2_with (first | (go_at_call 7; refine (int_any _ _).mono ?_; rintro e w' ⟨rfl, rfl⟩) | (go_at_call 8; refine (fixed_any _).mono ?_; rintro e w' ⟨rfl, rfl⟩) | (go_at_call 9; refine (reckon_any _ _ _ _ (by omega) (by omega) (by omega) (by omega)).mono ?_; rintro e w' ⟨rfl, rfl⟩) | (go_at_call 11; refine (value_any _ _).mono ?_; rintro e w' ⟨rfl, rfl⟩) | (go_at_call 10; refine (is_any _ _).mono ?_; rintro e w' ⟨rfl, rfl⟩))
        go_ret
        exact ⟨rfl, rfl⟩
      · have t := isN_false (show n + m < -1152921504606846976 ∨ 1152921504606846975 < n + m by omega)
        have i3 : intA (n + m) = (0, 10) := by unfold intA; rw [t]; rfl
        clear hs
        go_enter Try.func3, Try.ntmps3
        go_wp2_with (first | (go_at_call 7; refine (int_any _ _).mono ?_; rintro e w' ⟨rfl, rfl⟩) | (go_at_call 8; refine (fixed_any _).mono ?_; rintro e w' ⟨rfl, rfl⟩) | (go_at_call 9; refine (reckon_any _ _ _ _ (by omega) (by omega) (by omega) (by omega)).mono ?_; rintro e w' ⟨rfl, rfl⟩) | (go_at_call 11; refine (value_any _ _).mono ?_; rintro e w' ⟨rfl, rfl⟩) | (go_at_call 10; refine (is_any _ _).mono ?_; rintro e w' ⟨rfl, rfl⟩))
        go_ret
        exact ⟨rfl, rfl⟩
    · have i2 : intA m = (0, 10) := by unfold intA; rw [isN_false (by omega)]; rfl
      clear hm
      go_enter Try.func3, Try.ntmps3
      go_wp2_with (first | (go_at_call 7; refine (int_any _ _).mono ?_; rintro e w' ⟨rfl, rfl⟩) | (go_at_call 8; refine (fixed_any _).mono ?_; rintro e w' ⟨rfl, rfl⟩))
      go_ret
      exact ⟨rfl, rfl⟩
  · have i1 : intA n = (0, 10) := by unfold intA; rw [isN_false (by omega)]; rfl
    clear hn
    go_enter Try.func3, Try.ntmps3
    go_wp2_with (first | (go_at_call 7; refine (int_any _ _).mono ?_; rintro e w' ⟨rfl, rfl⟩) | (go_at_call 8; refine (fixed_any _).mono ?_; rintro e w' ⟨rfl, rfl⟩))
    go_ret
    exact ⟨rfl, rfl⟩
end Go.Proofs.Ytdehgidklcflbab
