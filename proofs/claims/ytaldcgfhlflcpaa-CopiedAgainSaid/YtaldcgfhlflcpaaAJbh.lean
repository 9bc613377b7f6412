/- The reference's may. -/
import Derived.Test.YtaldcgfhlflcpaaAJbc
import Derived.Test.YtaldcgfhlflcpaaAJag
set_option linter.unusedVariables false
set_option linter.unusedSimpArgs false
set_option linter.unnecessarySimpa false
namespace Go.Proofs.Ytaldcgfhlflcpaa
open Go.RowKit
set_option maxRecDepth 100000
set_option linter.unusedVariables false
set_option linter.unusedSimpArgs false
theorem r20enc_at (op a b c n W E : Int) (hW : Rs.encW op a b c n = W) (hE : Rs.encE op a b c n = E) (w : World) : Calls Try.prog 41 #[.agg #[.int .i64 op, .int .i64 a, .int .i64 b, .int .i64 c, .int .i64 n]] w fun e w' => e = .returned (.tuple #[.int .u32 W, .int .i64 E]) ∧ Below w.heap.size w w' := by
  subst hW hE
  exact rencode_any op a b c n w
set_option maxHeartbeats 16000000 in
set_option maxRecDepth 100000 in
theorem rmay_flat (k op a b c n la nu : Int) (w : World) : Calls Try.prog 37 #[.agg #[.int .i64 k, .int .i64 op, .int .i64 a, .int .i64 b, .int .i64 c, .int .i64 n, .int .i64 la, .int .i64 nu]] w fun e w' => e = .returned (.bool (As.may ⟨k, op, a, b, c, n, la, nu⟩)) ∧ Below w.heap.size w w' := by
  obtain ⟨W, hW⟩ : ∃ W, Rs.encW op a b c n = W := ⟨_, rfl⟩
  obtain ⟨E, hE⟩ : ∃ E, Rs.encE op a b c n = E := ⟨_, rfl⟩
  have HW := Lib.hid hW
  have HE := Lib.hid hE
  have HO : Hid (As.encOk ⟨k, op, a, b, c, n, la, nu⟩ = (E == 0)) := by unfold Hid As.encOk; rw [hE]; rfl
  clear hW hE
  go_enter Try.func37, Try.ntmps37
  go_wp2_with fail
  with_reducible refine (r20enc_at op a b c n W E HW.out HE.out _).mono ?_
  rintro e w1 ⟨rfl, hb1⟩
  obtain ⟨g1, g2, hb⟩ := eight_kept hb1
  have HB := Lib.hid hb
  have y0 := cell_of_row w1 w.heap.size 0 _ _ _ g1
  have y6 := cell_of_row w1 w.heap.size 6 _ _ _ g1
  have y7 := cell_of_row w1 w.heap.size 7 _ _ _ g1
  have z0 := cell_of_row w1 (w.heap.size + 1) 0 _ _ _ g2
  have z1 := cell_of_row w1 (w.heap.size + 1) 1 _ _ _ g2
  have z2 := cell_of_row w1 (w.heap.size + 1) 2 _ _ _ g2
  have z3 := cell_of_row w1 (w.heap.size + 1) 3 _ _ _ g2
  have z4 := cell_of_row w1 (w.heap.size + 1) 4 _ _ _ g2
  simp only [List.getElem?_toArray, List.getElem?_cons_zero, List.getElem?_cons_succ] at y0 y6 y7 z0 z1 z2 z3 z4
  clear hb1 g1 g2 hb HW HE
  rcases (by omega : k = 0 ∨ k = 1 ∨ k = 2 ∨ k = 3 ∨ k = 4 ∨ k = 5 ∨ (k ≠ 0 ∧ k ≠ 1 ∧ k ≠ 2 ∧ k ≠ 3 ∧ k ≠ 4 ∧ k ≠ 5)) with rfl | rfl | rfl | rfl | rfl | rfl | ⟨k0, k1, k2, k3, k4, k5⟩
  · have hm : Hid (As.may ⟨0, op, a, b, c, n, la, nu⟩ = ((E == 0) && (la == 0) && (nu == 0))) := by unfold Hid As.may; simp only [if_true]; rw [HO.out]; rfl
    cases h1 : (E == 0) <;> cases h2 : (la == 0)
    all_goals
      go_wp2_with fail
      go_ret
      exact ⟨by rw [hm.out]; first | (simp [h1, h2, h3]; done) | (simp [h1, h2]; done) | simp, HB.out⟩
  · by_cases hz : op = 0 ∧ a = 0 ∧ b = 0 ∧ c = 0 ∧ n = 0
    · obtain ⟨rfl, rfl, rfl, rfl, rfl⟩ := hz
      have hm : Hid (As.may ⟨1, 0, 0, 0, 0, 0, la, nu⟩ = (nu == 0)) := by unfold Hid As.may; simp; rfl
      go_wp2_with fail
      go_ret
      exact ⟨by rw [hm.out]; first | (simp [h1, h2, h3]; done) | (simp [h1, h2]; done) | simp, HB.out⟩
    · have hm : Hid (As.may ⟨1, op, a, b, c, n, la, nu⟩ = false) := by unfold Hid As.may; simp [hz]
      rcases (by omega : op ≠ 0 ∨ (op = 0 ∧ a ≠ 0) ∨ (op = 0 ∧ a = 0 ∧ b ≠ 0) ∨ (op = 0 ∧ a = 0 ∧ b = 0 ∧ c ≠ 0) ∨ (op = 0 ∧ a = 0 ∧ b = 0 ∧ c = 0 ∧ n ≠ 0)) with h | ⟨rfl, h⟩ | ⟨rfl, rfl, h⟩ | ⟨rfl, rfl, rfl, h⟩ | ⟨rfl, rfl, rfl, rfl, h⟩
      all_goals
        have hq := beq_eq_false_iff_ne.2 h
        clear hz
        go_wp2_with fail
        go_ret
        exact ⟨by rw [hm.out]; first | (simp [h1, h2, h3]; done) | (simp [h1, h2]; done) | simp, HB.out⟩
  · have hm : Hid (As.may ⟨2, op, a, b, c, n, la, nu⟩ = ((E == 0) && decide (24 ≤ op) && decide (op ≤ 27) && (n == 0) && (nu == 0))) := by unfold Hid As.may; simp only [show ¬ ((2 : Int) = 0) by decide, show ¬ ((2 : Int) = 1) by decide, if_false, if_true]; rw [HO.out]; rfl
    rcases may2_cases E op n with ⟨h1, hx0⟩ | ⟨h1, h2, hx0⟩ | ⟨h1, h2, h3, hx0⟩ | ⟨h1, h2, h3, h4, hx0⟩ | ⟨h1, h2, h3, h4, hx0⟩
    all_goals have HX := Lib.hid hx0
    all_goals clear hx0
    all_goals
      go_wp2_with fail
      go_ret
      exact ⟨by rw [hm.out, HX.out]; simp, HB.out⟩
  · have hm : Hid (As.may ⟨3, op, a, b, c, n, la, nu⟩ = ((E == 0) && (op == 28) && (n == 0) && (nu == 0))) := by unfold Hid As.may; simp only [show ¬ ((3 : Int) = 0) by decide, show ¬ ((3 : Int) = 1) by decide, show ¬ ((3 : Int) = 2) by decide, if_false, if_true]; rw [HO.out]; rfl
    cases h1 : (E == 0) <;> cases h2 : (op == 28) <;> cases h3 : (n == 0)
    all_goals
      go_wp2_with fail
      go_ret
      exact ⟨by rw [hm.out]; first | (simp [h1, h2, h3]; done) | (simp [h1, h2]; done) | simp, HB.out⟩
  · have hm : Hid (As.may ⟨4, op, a, b, c, n, la, nu⟩ = ((E == 0) && (op == 20) && (n == 0) && (la == 0))) := by unfold Hid As.may; simp only [show ¬ ((4 : Int) = 0) by decide, show ¬ ((4 : Int) = 1) by decide, show ¬ ((4 : Int) = 2) by decide, show ¬ ((4 : Int) = 3) by decide, if_false, if_true]; rw [HO.out]; rfl
    cases h1 : (E == 0) <;> cases h2 : (op == 20) <;> cases h3 : (n == 0)
    all_goals
      go_wp2_with fail
      go_ret
      exact ⟨by rw [hm.out]; first | (simp [h1, h2, h3]; done) | (simp [h1, h2]; done) | simp, HB.out⟩
  · have hm : Hid (As.may ⟨5, op, a, b, c, n, la, nu⟩ = ((E == 0) && (op == 20) && (n == 0) && (nu == 0))) := by unfold Hid As.may; simp only [show ¬ ((5 : Int) = 0) by decide, show ¬ ((5 : Int) = 1) by decide, show ¬ ((5 : Int) = 2) by decide, show ¬ ((5 : Int) = 3) by decide, show ¬ ((5 : Int) = 4) by decide, if_false, if_true]; rw [HO.out]; rfl
    cases h1 : (E == 0) <;> cases h2 : (op == 20) <;> cases h3 : (n == 0)
    all_goals
      go_wp2_with fail
      go_ret
      exact ⟨by rw [hm.out]; first | (simp [h1, h2, h3]; done) | (simp [h1, h2]; done) | simp, HB.out⟩
  · have hm : Hid (As.may ⟨k, op, a, b, c, n, la, nu⟩ = false) := by unfold Hid As.may; rw [if_neg k0, if_neg k1, if_neg k2, if_neg k3, if_neg k4, if_neg k5]
    have b0 := beq_eq_false_iff_ne.2 k0
    have b1 := beq_eq_false_iff_ne.2 k1
    have b2 := beq_eq_false_iff_ne.2 k2
    have b3 := beq_eq_false_iff_ne.2 k3
    have b4 := beq_eq_false_iff_ne.2 k4
    have b5 := beq_eq_false_iff_ne.2 k5
    go_wp2_with fail
    go_ret
    exact ⟨by rw [hm.out]; first | (simp [h1, h2, h3]; done) | (simp [h1, h2]; done) | simp, HB.out⟩
end Go.Proofs.Ytaldcgfhlflcpaa
