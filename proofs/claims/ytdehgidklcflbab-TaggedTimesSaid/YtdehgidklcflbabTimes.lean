/- The walk of TaggedTimes. -/
import Derived.Test.YtdehgidklcflbabShares
namespace Go.Proofs.Ytdehgidklcflbab
open Go.RowKit
set_option linter.unusedVariables false

theorem rk_mul (n m : Int) : rk 2 (8 * n) (8 * m) = intA (n * m) := by
  unfold rk intA
  have e1 : (8 * n) / 8 = n := by omega
  have e2 : (8 * m) / 8 = m := by omega
  rw [if_neg (by omega), if_neg (by omega), e1, e2, if_neg (by decide), if_neg (by decide), if_pos rfl]

/-- The walk where both are numbers and neither is 0 and the product p is one. -/
theorem times_core2 (n m p : Int) (w : World) (n3 : -1152921504606846976 ≤ n) (n4 : n ≤ 1152921504606846975) (m3 : -1152921504606846976 ≤ m) (m4 : m ≤ 1152921504606846975)
    (p3 : -1152921504606846976 ≤ p) (p4 : p ≤ 1152921504606846975)
    (i1 : intA n = (8 * n, 0)) (i2 : intA m = (8 * m, 0)) (r1 : rk 2 (8 * n) (8 * m) = (8 * p, 0)) (r2 : rk 2 (8 * m) (8 * n) = (8 * p, 0))
    (r3 : rk 3 (8 * p) (8 * m) = (8 * n, 0)) (r4 : rk 4 (8 * p) (8 * m) = (0, 0))
    (zn : (n == 0) = false) (zm : (m == 0) = false) (sn sm : Bool) (hn : decide (n < 0) = sn) (hm : decide (m < 0) = sm) (hp : decide (p < 0) = (sn != sm)) :
    Calls Try.prog 5 #[.int .i64 n, .int .i64 m] w fun e w' => e = .returned (.bool true) ∧ w' = w := by
  have q1 : (8 * p) / 8 = p := by omega
  cases sn <;> cases sm
  all_goals
    simp only [bne_self_eq_false, Bool.true_bne, Bool.false_bne, Bool.not_false] at hp
    go_enter Try.func5, Try.ntmps5
    go_wp2_with (first | (go_at_call 7; refine (int_any _ _).mono ?_; rintro e w' ⟨rfl, rfl⟩) | (go_at_call 8; refine (fixed_any _).mono ?_; rintro e w' ⟨rfl, rfl⟩) | (go_at_call 9; refine (reckon_any _ _ _ _ (by omega) (by omega) (by omega) (by omega)).mono ?_; rintro e w' ⟨rfl, rfl⟩) | (go_at_call 11; refine (value_any _ _).mono ?_; rintro e w' ⟨rfl, rfl⟩))
    all_goals go_ret
    all_goals simp [hp, hn, hm]

theorem times_walk (n m : Int) (w : World) (n1 : -9223372036854775808 ≤ n) (n2 : n ≤ 9223372036854775807) (m1 : -9223372036854775808 ≤ m) (m2 : m ≤ 9223372036854775807) :
    Calls Try.prog 5 #[.int .i64 n, .int .i64 m] w fun e w' => e = .returned (.bool true) ∧ w' = w := by
  by_cases hn : -1152921504606846976 ≤ n ∧ n ≤ 1152921504606846975
  · have i1 := intA_in hn
    obtain ⟨n3, n4⟩ := hn
    by_cases hm : -1152921504606846976 ≤ m ∧ m ≤ 1152921504606846975
    · have i2 := intA_in hm
      obtain ⟨m3, m4⟩ := hm
      have r1 := rk_mul n m
      have r2 := rk_mul m n
      rw [Int.mul_comm m n] at r2
      have i0 : intA 0 = (0, 0) := by decide
      by_cases zm : m = 0
      · subst zm
        rw [show n * 0 = 0 from Int.mul_zero n, i0] at r1 r2
        rw [show (8 : Int) * 0 = 0 from rfl] at r1 r2
        clear n1 n2 m1 m2
        go_enter Try.func5, Try.ntmps5
        go_wp2_with (first | (go_at_call 7; refine (int_any _ _).mono ?_; rintro e w' ⟨rfl, rfl⟩) | (go_at_call 8; refine (fixed_any _).mono ?_; rintro e w' ⟨rfl, rfl⟩) | (go_at_call 9; refine (reckon_any _ _ _ _ (by omega) (by omega) (by omega) (by omega)).mono ?_; rintro e w' ⟨rfl, rfl⟩) | (go_at_call 11; refine (value_any _ _).mono ?_; rintro e w' ⟨rfl, rfl⟩))
        all_goals go_ret
        all_goals exact ⟨rfl, rfl⟩
      · by_cases zn : n = 0
        · subst zn
          rw [show 0 * m = 0 from Int.zero_mul m, i0] at r1 r2
          rw [show (8 : Int) * 0 = 0 from rfl] at r1 r2
          have zb : (m == 0) = false := by rw [beq_eq_false_iff_ne]; exact zm
          clear n1 n2 m1 m2
          go_enter Try.func5, Try.ntmps5
          go_wp2_with (first | (go_at_call 7; refine (int_any _ _).mono ?_; rintro e w' ⟨rfl, rfl⟩) | (go_at_call 8; refine (fixed_any _).mono ?_; rintro e w' ⟨rfl, rfl⟩) | (go_at_call 9; refine (reckon_any _ _ _ _ (by omega) (by omega) (by omega) (by omega)).mono ?_; rintro e w' ⟨rfl, rfl⟩) | (go_at_call 11; refine (value_any _ _).mono ?_; rintro e w' ⟨rfl, rfl⟩))
          all_goals go_ret
          all_goals exact ⟨rfl, rfl⟩
        · have zb : (m == 0) = false := by rw [beq_eq_false_iff_ne]; exact zm
          have zc : (n == 0) = false := by rw [beq_eq_false_iff_ne]; exact zn
          have zd : (m != 0) = true := by rw [bne_iff_ne]; exact zm
          have ze : (n != 0) = true := by rw [bne_iff_ne]; exact zn
          by_cases hp : -1152921504606846976 ≤ n * m ∧ n * m ≤ 1152921504606846975
          · have i3 := intA_in hp
            rw [i3] at r1 r2
            have r3 := rk_quo (n * m) m zm
            have r4 := rk_rem (n * m) m zm
            rw [Int.mul_tdiv_cancel n zm, i1] at r3
            rw [Int.mul_tmod_left] at r4
            refine times_core2 n m (n * m) w n3 n4 m3 m4 hp.1 hp.2 i1 i2 r1 r2 r3 r4 zc zb (decide (n < 0)) (decide (m < 0)) rfl rfl ?_
            rcases Int.lt_or_lt_of_ne zn with a | a <;> rcases Int.lt_or_lt_of_ne zm with b | b
            · have := Int.mul_pos_of_neg_of_neg a b
              rw [decide_eq_true a, decide_eq_true b, decide_eq_false (show ¬ n * m < 0 by omega)]; rfl
            · have := Int.mul_neg_of_neg_of_pos a b
              rw [decide_eq_true a, decide_eq_true this, decide_eq_false (by omega)]; rfl
            · have := Int.mul_neg_of_pos_of_neg a b
              rw [decide_eq_true b, decide_eq_true this, decide_eq_false (by omega)]; rfl
            · have := Int.mul_pos a b
              rw [decide_eq_false (show ¬ n * m < 0 by omega), decide_eq_false (show ¬ n < 0 by omega), decide_eq_false (show ¬ m < 0 by omega)]; rfl
          · have i3 := intA_out (n := n * m) (by omega)
            rw [i3] at r1 r2
            clear hp zm zn i3
            go_enter Try.func5, Try.ntmps5
            go_wp2_with (first | (go_at_call 7; refine (int_any _ _).mono ?_; rintro e w' ⟨rfl, rfl⟩) | (go_at_call 8; refine (fixed_any _).mono ?_; rintro e w' ⟨rfl, rfl⟩) | (go_at_call 9; refine (reckon_any _ _ _ _ (by omega) (by omega) (by omega) (by omega)).mono ?_; rintro e w' ⟨rfl, rfl⟩) | (go_at_call 11; refine (value_any _ _).mono ?_; rintro e w' ⟨rfl, rfl⟩))
            all_goals go_ret
            all_goals exact ⟨rfl, rfl⟩
    · have i2 := intA_out (n := m) (by omega)
      clear hm
      go_enter Try.func5, Try.ntmps5
      go_wp2_with (first | (go_at_call 7; refine (int_any _ _).mono ?_; rintro e w' ⟨rfl, rfl⟩) | (go_at_call 8; refine (fixed_any _).mono ?_; rintro e w' ⟨rfl, rfl⟩) | (go_at_call 9; refine (reckon_any _ _ _ _ (by omega) (by omega) (by omega) (by omega)).mono ?_; rintro e w' ⟨rfl, rfl⟩) | (go_at_call 11; refine (value_any _ _).mono ?_; rintro e w' ⟨rfl, rfl⟩))
      go_ret
      exact ⟨rfl, rfl⟩
  · have i1 := intA_out (n := n) (by omega)
    clear hn
    go_enter Try.func5, Try.ntmps5
    go_wp2_with (first | (go_at_call 7; refine (int_any _ _).mono ?_; rintro e w' ⟨rfl, rfl⟩) | (go_at_call 8; refine (fixed_any _).mono ?_; rintro e w' ⟨rfl, rfl⟩) | (go_at_call 9; refine (reckon_any _ _ _ _ (by omega) (by omega) (by omega) (by omega)).mono ?_; rintro e w' ⟨rfl, rfl⟩) | (go_at_call 11; refine (value_any _ _).mono ?_; rintro e w' ⟨rfl, rfl⟩))
    go_ret
    exact ⟨rfl, rfl⟩
end Go.Proofs.Ytdehgidklcflbab
