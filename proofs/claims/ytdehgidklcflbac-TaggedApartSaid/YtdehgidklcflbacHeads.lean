/- 'made', and the walk of TaggedHeads. -/
import Derived.Test.YtdehgidklcflbacMakes
namespace Go.Proofs.Ytdehgidklcflbac
open Go.RowKit
set_option linter.unusedVariables false

theorem made_any (t n : Int) (w : World) (h : t = 0 ∨ t = 1 ∨ t = 2 ∨ t = 3) :
    Calls Try.prog 7 #[.int .i64 t, .int .i64 n] w fun e w' => e = .returned (.tuple #[.int .i64 (makeA t n).1, .int .i64 (makeA t n).2]) ∧ w' = w := by
  unfold makeA
  rcases h with rfl | rfl | rfl | rfl
  · rw [if_pos rfl]
    go_enter Try.func7, Try.ntmps7
    go_wp2_with (first | (go_at_call 16; refine (int_any _ _).mono ?_; rintro e w' ⟨rfl, rfl⟩))
    go_ret2
    exact ⟨rfl, rfl⟩
  · rw [if_neg (by decide)]
    go_enter Try.func7, Try.ntmps7
    go_wp2_with (first | (go_at_call 17; refine (place_any _ _).mono ?_; rintro e w' ⟨rfl, rfl⟩))
    go_ret2
    exact ⟨rfl, rfl⟩
  · rw [if_neg (by decide)]
    go_enter Try.func7, Try.ntmps7
    go_wp2_with (first | (go_at_call 18; refine (const_any _ _).mono ?_; rintro e w' ⟨rfl, rfl⟩))
    go_ret2
    exact ⟨rfl, rfl⟩
  · rw [if_neg (by decide)]
    go_enter Try.func7, Try.ntmps7
    go_wp2_with (first | (go_at_call 19; refine (symbol_any _ _).mono ?_; rintro e w' ⟨rfl, rfl⟩))
    go_ret2
    exact ⟨rfl, rfl⟩

theorem makeA_mod (t n : Int) (h : t = 0 ∨ t = 1 ∨ t = 2 ∨ t = 3) : (makeA t n).2 = 0 → (makeA t n).1 = 8 * n + t := by
  unfold makeA intA tagA
  intro g
  rcases h with rfl | rfl | rfl | rfl
  · rw [if_pos rfl] at g ⊢
    split at g
    · rename_i h; rw [if_pos h]; simp
    · simp at g
  all_goals
    rw [if_neg (by decide)] at g ⊢
    split at g
    · rename_i h; rw [if_pos h]
    · simp at g

theorem makeA_zero (t n : Int) (h : t = 0 ∨ t = 1 ∨ t = 2 ∨ t = 3) : (makeA t n).2 ≠ 0 → (makeA t n).1 = 0 := by
  unfold makeA intA tagA
  intro g
  rcases h with rfl | rfl | rfl | rfl
  · rw [if_pos rfl] at g ⊢
    split at g
    · simp at g
    · rename_i h; rw [if_neg h]
  all_goals
    rw [if_neg (by decide)] at g ⊢
    split at g
    · simp at g
    · rename_i h; rw [if_neg h]

theorem makeA_head (t n v : Int) (h : t = 0 ∨ t = 1 ∨ t = 2 ∨ t = 3) : ((makeA t n).1 == 8 * v + 7) = false := by
  rw [beq_eq_false_iff_ne]
  by_cases g : (makeA t n).2 = 0
  · rw [makeA_mod t n h g]; omega
  · rw [makeA_zero t n h g]; omega

set_option maxHeartbeats 1000000 in
theorem heads_walk (kind size n : Int) (w : World) :
    Calls Try.prog 4 #[.int .i64 kind, .int .i64 size, .int .i64 n] w fun e w' => e = .returned (.bool true) ∧ w' = w := by
  by_cases h : 0 ≤ kind ∧ kind ≤ 7 ∧ 0 ≤ size ∧ size ≤ 1099511627776
  · have hh : headA kind size = (8 * (8 * size + kind) + 7, 0) := by unfold headA; rw [if_pos h]
    obtain ⟨h1, h2, h3, h4⟩ := h
    have e0 := makeA_head 0 n (8 * size + kind) (by omega)
    have e1 := makeA_head 1 n (8 * size + kind) (by omega)
    have e2 := makeA_head 2 n (8 * size + kind) (by omega)
    have e3 := makeA_head 3 n (8 * size + kind) (by omega)
    have v1 : (8 * (8 * size + kind) + 7) / 8 = 8 * size + kind := by omega
    have v2 : (8 * (8 * size + kind) + 7) % 8 = 7 := by omega
    have v3 : (8 * size + kind) % 8 = kind := by omega
    have v4 : (8 * size + kind) / 8 = size := by omega
    have v5 : 0 ≤ 8 * size + kind := by omega
    go_enter Try.func4, Try.ntmps4
    go_wp2_with (first | (go_at_call 10; refine (head_any _ _ _).mono ?_; rintro e w' ⟨rfl, rfl⟩) | (go_at_call 6; refine (fixed_any _).mono ?_; rintro e w' ⟨rfl, rfl⟩))
    refine wp_loop_rounds 5 ?_
    repeat any_goals (rw [rounds_succ]; go_wp2_with (first | (go_at_call 7; refine (made_any _ _ _ (by omega)).mono ?_; rintro e w' ⟨rfl, rfl⟩) | (go_at_call 8; refine (tag_any _ _).mono ?_; rintro e w' ⟨rfl, rfl⟩) | (go_at_call 9; refine (value_any _ _).mono ?_; rintro e w' ⟨rfl, rfl⟩)))
    all_goals go_ret
    all_goals exact ⟨rfl, rfl⟩
  · have hh : headA kind size = (0, 1) := by unfold headA; rw [if_neg h]
    have h : kind < 0 ∨ (0 ≤ kind ∧ 7 < kind) ∨ (0 ≤ kind ∧ kind ≤ 7 ∧ size < 0) ∨ (0 ≤ kind ∧ kind ≤ 7 ∧ 0 ≤ size ∧ 1099511627776 < size) := by omega
    rcases h with h1 | ⟨h1, h2⟩ | ⟨h1, h2, h3⟩ | ⟨h1, h2, h3, h4⟩
    all_goals
      go_enter Try.func4, Try.ntmps4
      go_wp2_with (first | (go_at_call 10; refine (head_any _ _ _).mono ?_; rintro e w' ⟨rfl, rfl⟩) | (go_at_call 6; refine (fixed_any _).mono ?_; rintro e w' ⟨rfl, rfl⟩))
      all_goals go_ret
      all_goals exact ⟨rfl, rfl⟩
end Go.Proofs.Ytdehgidklcflbac
