/- The references of chapter 1, and the walk of TaggedMakes. -/
import Derived.Test.YtdehgidklcflbabFixed
namespace Go.Proofs.Ytdehgidklcflbab
open Go.RowKit
set_option linter.unusedVariables false

theorem tmod8_nonneg {w : Int} (h : 0 ≤ w) : w.tmod 8 = w % 8 := Int.tmod_eq_emod_of_nonneg h
theorem tmod8_neg {w : Int} (h : w < 0) : w.tmod 8 = -((-w) % 8) := by
  have e : w.tmod 8 = -((-w).tmod 8) := by rw [Int.neg_tmod]; omega
  rw [e, Int.tmod_eq_emod_of_nonneg (by omega)]
theorem tdiv8_nonneg {w : Int} (h : 0 ≤ w) : w.tdiv 8 = w / 8 := Int.tdiv_eq_ediv_of_nonneg h
theorem tdiv8_neg {w : Int} (h : w < 0) : w.tdiv 8 = -((-w) / 8) := by
  have e : w.tdiv 8 = -((-w).tdiv 8) := by rw [Int.neg_tdiv]; omega
  rw [e, Int.tdiv_eq_ediv_of_nonneg (by omega)]

theorem rtag_any (n : Int) (w : World) (n1 : -9223372036854775808 ≤ n) (n2 : n ≤ 9223372036854775807) :
    Calls Try.prog 19 #[.int .i64 n] w fun e w' => e = .returned (.int .i64 (n % 8)) ∧ w' = w := by
  rcases Int.lt_or_le n 0 with h | h
  · have e1 := tmod8_neg h
    by_cases hz : n % 8 = 0
    · have e2 : n.tmod 8 = 0 := by omega
      have e3 : IntKind.i64.wrap (n.tmod 8) = 0 := by rw [e2]; rfl
      rw [hz]
      clear e1 hz
      go_enter Try.func19, Try.ntmps19
      go_wp2
      all_goals go_ret
      all_goals exact ⟨rfl, rfl⟩
    · obtain ⟨t, ht⟩ : ∃ t, t = n % 8 := ⟨_, rfl⟩
      have e2 : n.tmod 8 = t - 8 := by omega
      have b1 : 0 < t := by omega
      have b2 : t < 8 := by omega
      rw [← ht]
      have e3 : t - 8 + 8 = t := by omega
      have e4 : decide (t < 8) = true := by rw [decide_eq_true_eq]; exact b2
      clear e1 ht hz
      go_enter Try.func19, Try.ntmps19
      go_wp2
      all_goals go_ret
      all_goals first | exact ⟨rfl, rfl⟩ | (simp; omega)
  · have e1 := tmod8_nonneg h
    obtain ⟨t, ht⟩ : ∃ t, t = n % 8 := ⟨_, rfl⟩
    rw [← ht] at e1
    rw [← ht]
    have b1 : 0 ≤ t := by omega
    have b2 : t < 8 := by omega
    have e4 : decide (t < 0) = false := by rw [decide_eq_false_iff_not]; omega
    clear ht
    go_enter Try.func19, Try.ntmps19
    go_wp2
    all_goals go_ret
    all_goals exact ⟨rfl, rfl⟩

theorem rvalue_any (n : Int) (w : World) (n1 : -9223372036854775808 ≤ n) (n2 : n ≤ 9223372036854775807) :
    Calls Try.prog 20 #[.int .i64 n] w fun e w' => e = .returned (.int .i64 (n / 8)) ∧ w' = w := by
  rcases Int.lt_or_le n 0 with h | h
  · have f1 := tdiv8_neg h
    have e1 := tmod8_neg h
    obtain ⟨q, hq⟩ : ∃ q, q = n.tdiv 8 := ⟨_, rfl⟩
    have e5 : n.tdiv 8 = q := hq.symm
    have b3 : -1152921504606846976 ≤ q ∧ q ≤ 0 := by omega
    have e6 : IntKind.i64.wrap (n.tdiv 8) = q := by rw [e5]; exact IntWalk.i64_in _ (by omega)
    by_cases hz : n % 8 = 0
    · have e2 : n.tmod 8 = 0 := by omega
      have e3 : n / 8 = q := by omega
      rw [e3]
      clear e1 hz f1 hq e3
      go_enter Try.func20, Try.ntmps20
      go_wp2
      all_goals go_ret
      all_goals exact ⟨rfl, rfl⟩
    · obtain ⟨t, ht⟩ : ∃ t, t = n.tmod 8 := ⟨_, rfl⟩
      have e2 : n.tmod 8 = t := ht.symm
      have b2 : t < 0 := by omega
      have e4 : decide (t < 0) = true := by rw [decide_eq_true_eq]; exact b2
      have e3 : n / 8 = q - 1 := by omega
      rw [e3]
      clear e1 ht hz f1 hq e3
      go_enter Try.func20, Try.ntmps20
      go_wp2
      all_goals go_ret
      all_goals exact ⟨rfl, rfl⟩
  · have e5 := tdiv8_nonneg h
    have e1 := tmod8_nonneg h
    obtain ⟨t, ht⟩ : ∃ t, t = n % 8 := ⟨_, rfl⟩
    rw [← ht] at e1
    have b1 : 0 ≤ t := by omega
    have e4 : decide (t < 0) = false := by rw [decide_eq_false_iff_not]; omega
    have e6 : IntKind.i64.wrap (n.tdiv 8) = n / 8 := by rw [e5]; exact IntWalk.i64_in _ (by omega)
    clear ht
    go_enter Try.func20, Try.ntmps20
    go_wp2
    all_goals go_ret
    all_goals exact ⟨rfl, rfl⟩

/-- What Make answers. -/
def makeA (t n : Int) : Int × Int := if t = 0 then intA n else tagA t n

theorem make_any (t n : Int) (w : World) (t1 : 0 ≤ t) (t2 : t < 8) :
    Calls Try.prog 16 #[.int .i64 t, .int .i64 n] w fun e w' => e = .returned (.tuple #[.int .i64 (makeA t n).1, .int .i64 (makeA t n).2]) ∧ w' = w := by
  unfold makeA
  by_cases h0 : t = 0
  · subst h0
    rw [if_pos rfl]
    unfold intA
    by_cases h1 : n < -1152921504606846976
    · rw [isN_false (.inl h1)]
      go_enter Try.func16, Try.ntmps16
      go_wp2
      all_goals go_ret2
      all_goals exact ⟨rfl, rfl⟩
    by_cases h2 : 1152921504606846975 < n
    · rw [isN_false (.inr h2)]
      go_enter Try.func16, Try.ntmps16
      go_wp2
      all_goals go_ret2
      all_goals exact ⟨rfl, rfl⟩
    have h1' : -1152921504606846976 ≤ n := by omega
    have h2' : n ≤ 1152921504606846975 := by omega
    rw [isN_true ⟨h1', h2'⟩]
    go_enter Try.func16, Try.ntmps16
    go_wp2
    all_goals go_ret2
    all_goals exact ⟨rfl, rfl⟩
  · rw [if_neg h0]
    have hb : (t == 0) = false := by rw [beq_eq_false_iff_ne]; exact h0
    unfold tagA
    by_cases h1 : n < 0
    · rw [if_neg (by omega)]
      go_enter Try.func16, Try.ntmps16
      go_wp2
      all_goals go_ret2
      all_goals exact ⟨rfl, rfl⟩
    by_cases h2 : 1152921504606846975 < n
    · rw [if_neg (by omega)]
      go_enter Try.func16, Try.ntmps16
      go_wp2
      all_goals go_ret2
      all_goals exact ⟨rfl, rfl⟩
    have h1' : 0 ≤ n := by omega
    have h2' : n ≤ 1152921504606846975 := by omega
    rw [if_pos ⟨h1', h2'⟩]
    go_enter Try.func16, Try.ntmps16
    go_wp2
    all_goals go_ret2
    all_goals exact ⟨rfl, rfl⟩

theorem rhead_any (k s : Int) (w : World) :
    Calls Try.prog 17 #[.int .i64 k, .int .i64 s] w fun e w' => e = .returned (.tuple #[.int .i64 (headA k s).1, .int .i64 (headA k s).2]) ∧ w' = w := by
  unfold headA
  by_cases h : 0 ≤ k ∧ k ≤ 7 ∧ 0 ≤ s ∧ s ≤ 1099511627776
  · rw [if_pos h]
    obtain ⟨h1, h2, h3, h4⟩ := h
    go_enter Try.func17, Try.ntmps17
    go_wp2
    all_goals go_ret2
    all_goals exact ⟨rfl, rfl⟩
  · rw [if_neg h]
    have h : k < 0 ∨ (0 ≤ k ∧ 7 < k) ∨ (0 ≤ k ∧ k ≤ 7 ∧ s < 0) ∨ (0 ≤ k ∧ k ≤ 7 ∧ 0 ≤ s ∧ 1099511627776 < s) := by omega
    rcases h with h1 | ⟨h1, h2⟩ | ⟨h1, h2, h3⟩ | ⟨h1, h2, h3, h4⟩
    all_goals
      go_enter Try.func17, Try.ntmps17
      go_wp2
      all_goals go_ret2
      all_goals exact ⟨rfl, rfl⟩

set_option maxHeartbeats 1000000 in
theorem makes_walk (n size : Int) (w : World) (n1 : -9223372036854775808 ≤ n) (n2 : n ≤ 9223372036854775807) :
    Calls Try.prog 6 #[.int .i64 n, .int .i64 size] w fun e w' => e = .returned (.bool true) ∧ w' = w := by
  have m0 : makeA 0 n = intA n := by unfold makeA; rw [if_pos rfl]
  have m1 : makeA 1 n = tagA 1 n := by unfold makeA; rw [if_neg (by decide)]
  have m2 : makeA 2 n = tagA 2 n := by unfold makeA; rw [if_neg (by decide)]
  have m3 : makeA 3 n = tagA 3 n := by unfold makeA; rw [if_neg (by decide)]
  go_enter Try.func6, Try.ntmps6
  go_wp2_with (first | (go_at_call 7; refine (int_any _ _).mono ?_; rintro e w' ⟨rfl, rfl⟩) | (go_at_call 12; refine (place_any _ _).mono ?_; rintro e w' ⟨rfl, rfl⟩) | (go_at_call 13; refine (const_any _ _).mono ?_; rintro e w' ⟨rfl, rfl⟩) | (go_at_call 14; refine (symbol_any _ _).mono ?_; rintro e w' ⟨rfl, rfl⟩) | (go_at_call 15; refine (head_any _ _ _).mono ?_; rintro e w' ⟨rfl, rfl⟩) | (go_at_call 8; refine (fixed_any _).mono ?_; rintro e w' ⟨rfl, rfl⟩) | (go_at_call 16; refine (make_any _ _ _ (by omega) (by omega)).mono ?_; rintro e w' ⟨rfl, rfl⟩) | (go_at_call 17; refine (rhead_any _ _ _).mono ?_; rintro e w' ⟨rfl, rfl⟩) | (go_at_call 18; refine (tag_any _ _).mono ?_; rintro e w' ⟨rfl, rfl⟩) | (go_at_call 11; refine (value_any _ _).mono ?_; rintro e w' ⟨rfl, rfl⟩) | (go_at_call 19; refine (rtag_any _ _ n1 n2).mono ?_; rintro e w' ⟨rfl, rfl⟩) | (go_at_call 20; refine (rvalue_any _ _ n1 n2).mono ?_; rintro e w' ⟨rfl, rfl⟩))
  all_goals go_ret
  all_goals exact ⟨rfl, rfl⟩
end Go.Proofs.Ytdehgidklcflbab
