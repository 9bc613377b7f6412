/- The walk of TaggedShares. -/
import Derived.Test.YtdehgidklcflbabSums
namespace Go.Proofs.Ytdehgidklcflbab
open Go.RowKit
set_option linter.unusedVariables false

theorem rk_quo (n m : Int) (hm : m ≠ 0) : rk 3 (8 * n) (8 * m) = intA (n.tdiv m) := by
  unfold rk intA
  have e1 : (8 * n) / 8 = n := by omega
  have e2 : (8 * m) / 8 = m := by omega
  rw [if_neg (by omega), if_neg (by omega), e1, e2, if_neg (by decide), if_neg (by decide), if_neg (by decide), if_neg hm, if_pos rfl]
theorem rk_rem (n m : Int) (hm : m ≠ 0) : rk 4 (8 * n) (8 * m) = (8 * n.tmod m, 0) := by
  unfold rk
  have e1 : (8 * n) / 8 = n := by omega
  have e2 : (8 * m) / 8 = m := by omega
  rw [if_neg (by omega), if_neg (by omega), e1, e2, if_neg (by decide), if_neg (by decide), if_neg (by decide), if_neg hm, if_neg (by decide)]
theorem rk_zero (op n : Int) (h : op = 3 ∨ op = 4) : rk op (8 * n) 0 = (0, 11) := by
  unfold rk
  rcases h with rfl | rfl
  · rw [if_neg (by omega), if_neg (by omega), if_neg (by decide), if_neg (by decide), if_neg (by decide), if_pos (by decide)]
  · rw [if_neg (by omega), if_neg (by omega), if_neg (by decide), if_neg (by decide), if_neg (by decide), if_pos (by decide)]
theorem intA_in {n : Int} (h : -1152921504606846976 ≤ n ∧ n ≤ 1152921504606846975) : intA n = (8 * n, 0) := by
  unfold intA; rw [isN_true h]; rfl
theorem intA_out {n : Int} (h : n < -1152921504606846976 ∨ 1152921504606846975 < n) : intA n = (0, 10) := by
  unfold intA; rw [isN_false h]; rfl

/-- One walk behind the quotient x and what is left, y. -/
theorem shares_core (n m x y : Int) (w : World) (n3 : -1152921504606846976 ≤ n) (n4 : n ≤ 1152921504606846975) (m3 : -1152921504606846976 ≤ m) (m4 : m ≤ 1152921504606846975)
    (x3 : -1152921504606846976 ≤ x) (x4 : x ≤ 1152921504606846975) (y3 : -1152921504606846976 ≤ y) (y4 : y ≤ 1152921504606846975)
    (i1 : intA n = (8 * n, 0)) (i2 : intA m = (8 * m, 0)) (r1 : rk 3 (8 * n) (8 * m) = (8 * x, 0)) (r2 : rk 4 (8 * n) (8 * m) = (8 * y, 0))
    (hp : x * m = n - y) (hs : y = 0 ∨ (0 < y ∧ 0 < n) ∨ (y < 0 ∧ n < 0)) (hm : (0 < m ∧ y < m ∧ -y < m) ∨ (m < 0 ∧ y < -m ∧ -y < -m)) :
    Calls Try.prog 4 #[.int .i64 n, .int .i64 m] w fun e w' => e = .returned (.bool true) ∧ w' = w := by
  have q1 : (8 * x) / 8 = x := by omega
  have q2 : (8 * y) / 8 = y := by omega
  have hn : -x * -m = n - y := by rw [Int.neg_mul_neg]; exact hp
  have hz : n - (n - y) = y := by omega
  have hmz : (m == 0) = false := by rw [beq_eq_false_iff_ne]; omega
  rcases hm with ⟨ma, mb, mc⟩ | ⟨ma, mb, mc⟩
  · have d1 : decide (m < 0) = false := by rw [decide_eq_false_iff_not]; omega
    have d2 : decide (y < m) = true := by rw [decide_eq_true_eq]; omega
    have d3 : decide (-y < m) = true := by rw [decide_eq_true_eq]; omega
    rcases hs with rfl | ⟨ya, na⟩ | ⟨ya, na⟩
    · have hp0 : x * m = n := by omega
      clear hp hn hz
      go_enter Try.func4, Try.ntmps4
      go_wp2_with (first | (go_at_call 7; refine (int_any _ _).mono ?_; rintro e w' ⟨rfl, rfl⟩) | (go_at_call 8; refine (fixed_any _).mono ?_; rintro e w' ⟨rfl, rfl⟩) | (go_at_call 9; refine (reckon_any _ _ _ _ (by omega) (by omega) (by omega) (by omega)).mono ?_; rintro e w' ⟨rfl, rfl⟩) | (go_at_call 11; refine (value_any _ _).mono ?_; rintro e w' ⟨rfl, rfl⟩))
      all_goals go_ret
      all_goals exact ⟨rfl, rfl⟩
    · have e1 : decide (y < 0) = false := by rw [decide_eq_false_iff_not]; omega
      have e2 : decide (n < 0) = false := by rw [decide_eq_false_iff_not]; omega
      have e3 : (y != 0) = true := by rw [bne_iff_ne]; omega
      clear hn
      go_enter Try.func4, Try.ntmps4
      go_wp2_with (first | (go_at_call 7; refine (int_any _ _).mono ?_; rintro e w' ⟨rfl, rfl⟩) | (go_at_call 8; refine (fixed_any _).mono ?_; rintro e w' ⟨rfl, rfl⟩) | (go_at_call 9; refine (reckon_any _ _ _ _ (by omega) (by omega) (by omega) (by omega)).mono ?_; rintro e w' ⟨rfl, rfl⟩) | (go_at_call 11; refine (value_any _ _).mono ?_; rintro e w' ⟨rfl, rfl⟩))
      all_goals go_ret
      all_goals exact ⟨rfl, rfl⟩
    · have e1 : decide (y < 0) = true := by rw [decide_eq_true_eq]; omega
      have e2 : decide (n < 0) = true := by rw [decide_eq_true_eq]; omega
      have e3 : (y != 0) = true := by rw [bne_iff_ne]; omega
      clear hn
      go_enter Try.func4, Try.ntmps4
      go_wp2_with (first | (go_at_call 7; refine (int_any _ _).mono ?_; rintro e w' ⟨rfl, rfl⟩) | (go_at_call 8; refine (fixed_any _).mono ?_; rintro e w' ⟨rfl, rfl⟩) | (go_at_call 9; refine (reckon_any _ _ _ _ (by omega) (by omega) (by omega) (by omega)).mono ?_; rintro e w' ⟨rfl, rfl⟩) | (go_at_call 11; refine (value_any _ _).mono ?_; rintro e w' ⟨rfl, rfl⟩))
      all_goals go_ret
      all_goals exact ⟨rfl, rfl⟩
  · have d1 : decide (m < 0) = true := by rw [decide_eq_true_eq]; omega
    have d2 : decide (y < -m) = true := by rw [decide_eq_true_eq]; omega
    have d3 : decide (-y < -m) = true := by rw [decide_eq_true_eq]; omega
    rcases hs with rfl | ⟨ya, na⟩ | ⟨ya, na⟩
    · have hp0 : -x * -m = n := by omega
      clear hp hn hz
      go_enter Try.func4, Try.ntmps4
      go_wp2_with (first | (go_at_call 7; refine (int_any _ _).mono ?_; rintro e w' ⟨rfl, rfl⟩) | (go_at_call 8; refine (fixed_any _).mono ?_; rintro e w' ⟨rfl, rfl⟩) | (go_at_call 9; refine (reckon_any _ _ _ _ (by omega) (by omega) (by omega) (by omega)).mono ?_; rintro e w' ⟨rfl, rfl⟩) | (go_at_call 11; refine (value_any _ _).mono ?_; rintro e w' ⟨rfl, rfl⟩))
      all_goals go_ret
      all_goals exact ⟨rfl, rfl⟩
    · have e1 : decide (y < 0) = false := by rw [decide_eq_false_iff_not]; omega
      have e2 : decide (n < 0) = false := by rw [decide_eq_false_iff_not]; omega
      have e3 : (y != 0) = true := by rw [bne_iff_ne]; omega
      clear hp
      go_enter Try.func4, Try.ntmps4
      go_wp2_with (first | (go_at_call 7; refine (int_any _ _).mono ?_; rintro e w' ⟨rfl, rfl⟩) | (go_at_call 8; refine (fixed_any _).mono ?_; rintro e w' ⟨rfl, rfl⟩) | (go_at_call 9; refine (reckon_any _ _ _ _ (by omega) (by omega) (by omega) (by omega)).mono ?_; rintro e w' ⟨rfl, rfl⟩) | (go_at_call 11; refine (value_any _ _).mono ?_; rintro e w' ⟨rfl, rfl⟩))
      all_goals go_ret
      all_goals exact ⟨rfl, rfl⟩
    · have e1 : decide (y < 0) = true := by rw [decide_eq_true_eq]; omega
      have e2 : decide (n < 0) = true := by rw [decide_eq_true_eq]; omega
      have e3 : (y != 0) = true := by rw [bne_iff_ne]; omega
      clear hp
      go_enter Try.func4, Try.ntmps4
      go_wp2_with (first | (go_at_call 7; refine (int_any _ _).mono ?_; rintro e w' ⟨rfl, rfl⟩) | (go_at_call 8; refine (fixed_any _).mono ?_; rintro e w' ⟨rfl, rfl⟩) | (go_at_call 9; refine (reckon_any _ _ _ _ (by omega) (by omega) (by omega) (by omega)).mono ?_; rintro e w' ⟨rfl, rfl⟩) | (go_at_call 11; refine (value_any _ _).mono ?_; rintro e w' ⟨rfl, rfl⟩))
      all_goals go_ret
      all_goals exact ⟨rfl, rfl⟩

theorem shares_walk (n m : Int) (w : World) (n1 : -9223372036854775808 ≤ n) (n2 : n ≤ 9223372036854775807) (m1 : -9223372036854775808 ≤ m) (m2 : m ≤ 9223372036854775807) :
    Calls Try.prog 4 #[.int .i64 n, .int .i64 m] w fun e w' => e = .returned (.bool true) ∧ w' = w := by
  by_cases hn : -1152921504606846976 ≤ n ∧ n ≤ 1152921504606846975
  · have i1 := intA_in hn
    obtain ⟨n3, n4⟩ := hn
    by_cases hm : -1152921504606846976 ≤ m ∧ m ≤ 1152921504606846975
    · have i2 := intA_in hm
      obtain ⟨m3, m4⟩ := hm
      by_cases hz : m = 0
      · subst hz
        have r1 := rk_zero 3 n (.inl rfl)
        have r2 := rk_zero 4 n (.inr rfl)
        clear n1 n2 m1 m2
        go_enter Try.func4, Try.ntmps4
        go_wp2_with (first | (go_at_call 7; refine (int_any _ _).mono ?_; rintro e w' ⟨rfl, rfl⟩) | (go_at_call 8; refine (fixed_any _).mono ?_; rintro e w' ⟨rfl, rfl⟩) | (go_at_call 9; refine (reckon_any _ _ _ _ (by omega) (by omega) (by omega) (by omega)).mono ?_; rintro e w' ⟨rfl, rfl⟩))
        all_goals go_ret
        all_goals exact ⟨rfl, rfl⟩
      · have hq := rk_quo n m hz
        have hr := rk_rem n m hz
        by_cases ho : m = -1 ∧ n = -1152921504606846976
        · obtain ⟨rfl, rfl⟩ := ho
          have e1 : intA ((-1152921504606846976 : Int).tdiv (-1)) = (0, 10) := by decide
          have e2 : (-1152921504606846976 : Int).tmod (-1) = 0 := by decide
          have r1 : rk 3 (8 * -1152921504606846976) (8 * -1) = (0, 10) := by rw [hq, e1]
          have r2 : rk 4 (8 * -1152921504606846976) (8 * -1) = (0, 0) := by rw [hr, e2]; rfl
          have r3 : rk 3 (-9223372036854775808) (-8) = (0, 10) := r1
          have r4 : rk 4 (-9223372036854775808) (-8) = (0, 0) := r2
          clear e1 e2 hq hr hz n1 n2 m1 m2 n3 n4 m3 m4
          go_enter Try.func4, Try.ntmps4
          go_wp2_with (first | (go_at_call 7; refine (int_any _ _).mono ?_; rintro e w' ⟨rfl, rfl⟩) | (go_at_call 8; refine (fixed_any _).mono ?_; rintro e w' ⟨rfl, rfl⟩) | (go_at_call 9; refine (reckon_any _ _ _ _ (by omega) (by omega) (by omega) (by omega)).mono ?_; rintro e w' ⟨rfl, rfl⟩) | (go_at_call 11; refine (value_any _ _).mono ?_; rintro e w' ⟨rfl, rfl⟩))
          all_goals go_ret
          all_goals simp
        · have hb := tdiv_bd n m n3 n4
          have hp := Int.mul_tdiv_add_tmod n m
          have hx : n.tdiv m ≤ 1152921504606846975 := by
            by_cases hx : n.tdiv m = 1152921504606846976
            · exfalso
              have hab := Int.natAbs_tdiv_le_natAbs n m
              have hn : n = -1152921504606846976 := by omega
              have hmm : m * n.tdiv m = m * 1152921504606846976 := by rw [hx]
              have hma : (n.tmod m).natAbs < m.natAbs := by rw [Int.natAbs_tmod]; exact Nat.mod_lt _ (by omega)
              have hmq := Int.natAbs_tdiv n m
              have : n.natAbs / m.natAbs = 1152921504606846976 := hmq.symm.trans (by omega)
              have hn2 : n.natAbs = 1152921504606846976 := by omega
              rw [hn2] at this
              have hm1 : m.natAbs = 1 := by
                by_cases h2 : 2 ≤ m.natAbs
                · have := Nat.div_le_div_left (a := 1152921504606846976) h2 (by decide); omega
                · omega
              have : m = 1 ∨ m = -1 := by omega
              rcases this with h | h
              · subst h; rw [Int.tdiv_one] at hx; omega
              · exact ho ⟨h, hn⟩
            · omega
          have hi := intA_in (n := n.tdiv m) ⟨hb.1, hx⟩
          have hmb := tmod_bd n m n3 n4
          have hma : (n.tmod m).natAbs < m.natAbs := by rw [Int.natAbs_tmod]; exact Nat.mod_lt _ (by omega)
          have hsg : n.tmod m = 0 ∨ (0 < n.tmod m ∧ 0 < n) ∨ (n.tmod m < 0 ∧ n < 0) := by
            rcases Int.le_total 0 n with h | h
            · have := Int.tmod_nonneg m h
              have h2 : n = 0 → n.tmod m = 0 := by rintro rfl; exact Int.zero_tmod m
              omega
            · have e : n.tmod m = -((-n).tmod m) := by rw [Int.neg_tmod]; omega
              have := Int.tmod_nonneg m (show 0 ≤ -n by omega)
              have h2 : n = 0 → n.tmod m = 0 := by rintro rfl; exact Int.zero_tmod m
              omega
          refine shares_core n m (n.tdiv m) (n.tmod m) w n3 n4 m3 m4 hb.1 hx hmb.1 hmb.2 i1 i2 (by rw [hq, hi]) hr ?_ hsg (by omega)
          rw [Int.mul_comm]; omega
    · have i2 := intA_out (n := m) (by omega)
      clear hm
      go_enter Try.func4, Try.ntmps4
      go_wp2_with (first | (go_at_call 7; refine (int_any _ _).mono ?_; rintro e w' ⟨rfl, rfl⟩) | (go_at_call 8; refine (fixed_any _).mono ?_; rintro e w' ⟨rfl, rfl⟩))
      go_ret
      exact ⟨rfl, rfl⟩
  · have i1 := intA_out (n := n) (by omega)
    clear hn
    go_enter Try.func4, Try.ntmps4
    go_wp2_with (first | (go_at_call 7; refine (int_any _ _).mono ?_; rintro e w' ⟨rfl, rfl⟩) | (go_at_call 8; refine (fixed_any _).mono ?_; rintro e w' ⟨rfl, rfl⟩))
    go_ret
    exact ⟨rfl, rfl⟩
end Go.Proofs.Ytdehgidklcflbab
