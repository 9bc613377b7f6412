/- The small functions of package asm. -/
import Derived.Test.YtbcpflogkniojaaAsmP
import Derived.Test.YtbcpflogkniojaaFrame
import Derived.Deep.LoopGhost
import Derived.Lib.Hide
namespace Go.Proofs.Ytbcpflogkniojaa
open Go.RowKit
set_option linter.unusedVariables false
set_option linter.unusedSimpArgs false
set_option maxHeartbeats 4000000 in
theorem opposite_any (op : Int) (w : World) : Calls Try.prog 33 #[.int .i64 op] w fun e w' => e = .returned (.int .i64 (As.opposite op)) ∧ w = w' := by
  rcases (by omega : op = 24 ∨ op = 25 ∨ op = 26 ∨ (op ≠ 24 ∧ op ≠ 25 ∧ op ≠ 26)) with rfl | rfl | rfl | ⟨h1, h2, h3⟩
  · go_enter Try.func33, Try.ntmps33
    go_wp2
    go_ret
    exact ⟨rfl, rfl⟩
  · go_enter Try.func33, Try.ntmps33
    go_wp2
    go_ret
    exact ⟨rfl, rfl⟩
  · go_enter Try.func33, Try.ntmps33
    go_wp2
    go_ret
    exact ⟨rfl, rfl⟩
  · have b1 : (op == 24) = false := by rw [beq_eq_false_iff_ne]; exact h1
    have b2 : (op == 25) = false := by rw [beq_eq_false_iff_ne]; exact h2
    have b3 : (op == 26) = false := by rw [beq_eq_false_iff_ne]; exact h3
    have hr : Hid (As.opposite op = 26) := by unfold Hid As.opposite; rw [if_neg h1, if_neg h2, if_neg h3]
    go_enter Try.func33, Try.ntmps33
    go_wp2
    go_ret
    exact ⟨by rw [hr.out]; rfl, rfl⟩
set_option maxHeartbeats 4000000 in
theorem pieces_any (n : Int) (w : World) : Calls Try.prog 35 #[.int .i64 n] w fun e w' => e = .returned (.int .i64 (As.pieces n)) ∧ w = w' := by
  obtain ⟨p, hp⟩ : ∃ p, Hid (As.pieces n = p) := ⟨_, rfl⟩
  rw [hp.out]
  have H : Hid ((p = 1 ∧ -32768 ≤ n ∧ n ≤ 32767) ∨ (p = 2 ∧ ¬ (-32768 ≤ n ∧ n ≤ 32767) ∧ -2147483648 ≤ n ∧ n ≤ 2147483647) ∨ (p = 3 ∧ ¬ (-2147483648 ≤ n ∧ n ≤ 2147483647) ∧ -140737488355328 ≤ n ∧ n ≤ 140737488355327) ∨ (p = 4 ∧ ¬ (-140737488355328 ≤ n ∧ n ≤ 140737488355327))) := by
    unfold Hid
    rw [← hp.out]
    unfold As.pieces
    repeat' split
    all_goals omega
  clear hp
  go_enter Try.func35, Try.ntmps35
  go_wp2_with fail
  go_loopg [3] 3 (fun g i wr => ∃ k : Nat, 1 ≤ k ∧ k ≤ p ∧ g = 4 - k ∧ i = .int .i64 k ∧ w = wr)
  case atStart => exact ⟨1, by omega, by have := H.out; omega, rfl, rfl, rfl⟩
  case round =>
    obtain ⟨k, h1, h2, rfl, rfl, rfl⟩ := hrel
    have h4 : k ≤ 4 := by have := H.out; omega
    rcases (by omega : k = 1 ∨ k = 2 ∨ k = 3 ∨ k = 4) with rfl | rfl | rfl | rfl
    · by_cases hk : p = 1
      · have hn : -32768 ≤ n ∧ n ≤ 32767 := by have := H.out; omega
        have q1 : ¬ n < -32768 := by omega
        have q2 : ¬ 32767 < n := by omega
        subst hk
        go_wp2_with fail
        go_ret
        exact ⟨rfl, rfl⟩
      · rcases (by have := H.out; omega : n < -32768 ∨ (-32768 ≤ n ∧ 32767 < n)) with q1 | ⟨q1, q2⟩
        all_goals
          go_wp2_with fail
          go_roundg 2
          case measure => omega
          case rel => exact ⟨2, by omega, by omega, rfl, by go_num, rfl⟩
    · by_cases hk : p = 2
      · have hn : -2147483648 ≤ n ∧ n ≤ 2147483647 := by have := H.out; omega
        have q1 : ¬ n < -2147483648 := by omega
        have q2 : ¬ 2147483647 < n := by omega
        subst hk
        go_wp2_with fail
        go_ret
        exact ⟨rfl, rfl⟩
      · rcases (by have := H.out; omega : n < -2147483648 ∨ (-2147483648 ≤ n ∧ 2147483647 < n)) with q1 | ⟨q1, q2⟩
        all_goals
          go_wp2_with fail
          go_roundg 1
          case measure => omega
          case rel => exact ⟨3, by omega, by omega, rfl, by go_num, rfl⟩
    · by_cases hk : p = 3
      · have hn : -140737488355328 ≤ n ∧ n ≤ 140737488355327 := by have := H.out; omega
        have q1 : ¬ n < -140737488355328 := by omega
        have q2 : ¬ 140737488355327 < n := by omega
        subst hk
        go_wp2_with fail
        go_ret
        exact ⟨rfl, rfl⟩
      · rcases (by have := H.out; omega : n < -140737488355328 ∨ (-140737488355328 ≤ n ∧ 140737488355327 < n)) with q1 | ⟨q1, q2⟩
        all_goals
          go_wp2_with fail
          go_roundg 0
          case measure => omega
          case rel => exact ⟨4, by omega, by omega, rfl, by go_num, rfl⟩
    · have hk : p = 4 := by have := H.out; omega
      subst hk
      go_wp2_with fail
      go_ret
      exact ⟨rfl, rfl⟩
end Go.Proofs.Ytbcpflogkniojaa
