/- asm.may: may an item be? -/
import Derived.Test.YtbcpflogkniojaaQMA
import Derived.Test.YtbcpflogkniojaaQRiscEnc
import Derived.WalkLawsBesides
namespace Go.Proofs.Ytbcpflogkniojaa
open Go.RowKit
set_option linter.unusedVariables false
set_option linter.unusedSimpArgs false
theorem penc_at (op a b c n W E : Int) (hW : Rs.encW op a b c n = W) (hE : Rs.encE op a b c n = E) (w : World) : Calls Try.prog 30 #[.agg #[.int .i64 op, .int .i64 a, .int .i64 b, .int .i64 c, .int .i64 n]] w fun e w' => e = .returned (.tuple #[.int .u32 W, .int .i64 E]) ∧ Below w.heap.size w w' := by
  subst hW hE
  exact encode_any op a b c n w
theorem eight_kept {w w3 : World} {c0 c1 c2 c3 c4 c5 c6 c7 : Value} {d0 d1 d2 d3 d4 : Value} {t t2 : TypeId} (hb : Below ((w.alloc (.cells #[c0, c1, c2, c3, c4, c5, c6, c7] t)).alloc (.cells #[d0, d1, d2, d3, d4] t2)).heap.size ((w.alloc (.cells #[c0, c1, c2, c3, c4, c5, c6, c7] t)).alloc (.cells #[d0, d1, d2, d3, d4] t2)) w3) :
    w3.heap[w.heap.size]? = some (.cells #[c0, c1, c2, c3, c4, c5, c6, c7] t (0, 0)) ∧ w3.heap[w.heap.size + 1]? = some (.cells #[d0, d1, d2, d3, d4] t2 (0, 0)) ∧ Below w.heap.size w w3 := by
  refine ⟨?_, ?_, (((Below.refl _ _).alloc (Nat.le_refl _) _).alloc (by simp) _).trans (hb.mono (by simp; omega))⟩
  · rw [hb.block _ (by simp; omega)]; exact heap_alloc2_old _ _ _
  · rw [hb.block _ (by simp)]; exact heap_alloc2_new _ _ _
theorem may2_cases (E op n : Int) : ((E == 0) = false ∧ ((E == 0) && decide (24 ≤ op) && decide (op ≤ 27) && (n == 0)) = false) ∨ ((E == 0) = true ∧ op < 24 ∧ ((E == 0) && decide (24 ≤ op) && decide (op ≤ 27) && (n == 0)) = false) ∨ ((E == 0) = true ∧ 24 ≤ op ∧ 27 < op ∧ ((E == 0) && decide (24 ≤ op) && decide (op ≤ 27) && (n == 0)) = false) ∨
    ((E == 0) = true ∧ 24 ≤ op ∧ op ≤ 27 ∧ (n == 0) = false ∧ ((E == 0) && decide (24 ≤ op) && decide (op ≤ 27) && (n == 0)) = false) ∨ ((E == 0) = true ∧ 24 ≤ op ∧ op ≤ 27 ∧ (n == 0) = true ∧ ((E == 0) && decide (24 ≤ op) && decide (op ≤ 27) && (n == 0)) = true) := by
  cases h : (E == 0)
  · exact .inl ⟨rfl, by simp⟩
  · by_cases h24 : 24 ≤ op
    · by_cases h27 : op ≤ 27
      · cases h0 : (n == 0)
        · exact .inr (.inr (.inr (.inl ⟨rfl, h24, h27, rfl, by simp⟩)))
        · exact .inr (.inr (.inr (.inr ⟨rfl, h24, h27, rfl, by simp [h24, h27]⟩)))
      · exact .inr (.inr (.inl ⟨rfl, h24, by omega, by simp [h27]⟩))
    · exact .inr (.inl ⟨rfl, by omega, by simp [h24]⟩)
set_option maxHeartbeats 16000000 in
set_option maxRecDepth 100000 in
theorem may_flat (k op a b c n la nu : Int) (w : World) : Calls Try.prog 18 #[.agg #[.int .i64 k, .int .i64 op, .int .i64 a, .int .i64 b, .int .i64 c, .int .i64 n, .int .i64 la, .int .i64 nu]] w fun e w' => e = .returned (.bool (As.may ⟨k, op, a, b, c, n, la, nu⟩)) ∧ Below w.heap.size w w' := by
  obtain ⟨W, hW⟩ : ∃ W, Rs.encW op a b c n = W := ⟨_, rfl⟩
  obtain ⟨E, hE⟩ : ∃ E, Rs.encE op a b c n = E := ⟨_, rfl⟩
  have HW := Lib.hid hW
  have HE := Lib.hid hE
  have HO : Hid (As.encOk ⟨k, op, a, b, c, n, la, nu⟩ = (E == 0)) := by unfold Hid As.encOk; rw [hE]; rfl
  clear hW hE
  rcases (by omega : k = 0 ∨ k = 1 ∨ k = 2 ∨ k = 3 ∨ k = 4 ∨ k = 5 ∨ (k ≠ 0 ∧ k ≠ 1 ∧ k ≠ 2 ∧ k ≠ 3 ∧ k ≠ 4 ∧ k ≠ 5)) with rfl | rfl | rfl | rfl | rfl | rfl | ⟨k0, k1, k2, k3, k4, k5⟩
  · have hm : Hid (As.may ⟨0, op, a, b, c, n, la, nu⟩ = ((E == 0) && (la == 0) && (nu == 0))) := by unfold Hid As.may; simp only [if_true]; rw [HO.out]; rfl
    rw [hm.out]
    cases h1 : (E == 0) <;> cases h2 : (la == 0)
    all_goals
      go_enter Try.func18, Try.ntmps18
      go_wp2_with fail
      with_reducible refine (penc_at op a b c n W E HW.out HE.out _).mono ?_
      rintro e w1 ⟨rfl, hb1⟩
      obtain ⟨g1, g2, hb⟩ := eight_kept hb1
      have HB := Lib.hid hb
      have y6 := cell_of_row w1 w.heap.size 6 _ _ _ g1
      have z0 := cell_of_row w1 (w.heap.size + 1) 0 _ _ _ g2
      have z4 := cell_of_row w1 (w.heap.size + 1) 4 _ _ _ g2
      simp only [List.getElem?_toArray, List.getElem?_cons_zero, List.getElem?_cons_succ] at y6 z0 z4
      clear hb1 g1 g2 hb
      go_wp2_with fail
      go_ret
      exact ⟨by simp, HB.out⟩
  · by_cases hz : op = 0 ∧ a = 0 ∧ b = 0 ∧ c = 0 ∧ n = 0
    · obtain ⟨rfl, rfl, rfl, rfl, rfl⟩ := hz
      have hm : Hid (As.may ⟨1, 0, 0, 0, 0, 0, la, nu⟩ = (nu == 0)) := by unfold Hid As.may; simp; rfl
      rw [hm.out]
      go_enter Try.func18, Try.ntmps18
      go_wp2_with fail
      go_ret
      exact ⟨by simp, ((Below.refl _ _).alloc (Nat.le_refl _) _).alloc (by simp) _⟩
    · have hm : Hid (As.may ⟨1, op, a, b, c, n, la, nu⟩ = false) := by unfold Hid As.may; simp [hz]
      rw [hm.out]
      rcases (by omega : op ≠ 0 ∨ (op = 0 ∧ a ≠ 0) ∨ (op = 0 ∧ a = 0 ∧ b ≠ 0) ∨ (op = 0 ∧ a = 0 ∧ b = 0 ∧ c ≠ 0) ∨ (op = 0 ∧ a = 0 ∧ b = 0 ∧ c = 0 ∧ n ≠ 0)) with h | ⟨rfl, h⟩ | ⟨rfl, rfl, h⟩ | ⟨rfl, rfl, rfl, h⟩ | ⟨rfl, rfl, rfl, rfl, h⟩
      all_goals
        have hq := beq_eq_false_iff_ne.2 h
        clear hz
        go_enter Try.func18, Try.ntmps18
        go_wp2_with fail
        go_ret
        exact ⟨by simp, ((Below.refl _ _).alloc (Nat.le_refl _) _).alloc (by simp) _⟩
  · have hm : Hid (As.may ⟨2, op, a, b, c, n, la, nu⟩ = ((E == 0) && decide (24 ≤ op) && decide (op ≤ 27) && (n == 0) && (nu == 0))) := by unfold Hid As.may; simp only [show ¬ ((2 : Int) = 0) by decide, show ¬ ((2 : Int) = 1) by decide, if_false, if_true]; rw [HO.out]; rfl
    rcases may2_cases E op n with ⟨h1, hx0⟩ | ⟨h1, h2, hx0⟩ | ⟨h1, h2, h3, hx0⟩ | ⟨h1, h2, h3, h4, hx0⟩ | ⟨h1, h2, h3, h4, hx0⟩
    all_goals have HX := Lib.hid hx0
    all_goals clear hx0
    all_goals
      go_enter Try.func18, Try.ntmps18
      go_wp2_with fail
      with_reducible refine (penc_at op a b c n W E HW.out HE.out _).mono ?_
      rintro e w1 ⟨rfl, hb1⟩
      obtain ⟨g1, g2, hb⟩ := eight_kept hb1
      have HB := Lib.hid hb
      have y6 := cell_of_row w1 w.heap.size 6 _ _ _ g1
      have z0 := cell_of_row w1 (w.heap.size + 1) 0 _ _ _ g2
      have z4 := cell_of_row w1 (w.heap.size + 1) 4 _ _ _ g2
      simp only [List.getElem?_toArray, List.getElem?_cons_zero, List.getElem?_cons_succ] at y6 z0 z4
      clear hb1 g1 g2 hb
      go_wp2_with fail
      go_ret
      exact ⟨by rw [hm.out, HX.out]; simp, HB.out⟩
  · have hm : Hid (As.may ⟨3, op, a, b, c, n, la, nu⟩ = ((E == 0) && (op == 28) && (n == 0) && (nu == 0))) := by unfold Hid As.may; simp only [show ¬ ((3 : Int) = 0) by decide, show ¬ ((3 : Int) = 1) by decide, show ¬ ((3 : Int) = 2) by decide, if_false, if_true]; rw [HO.out]; rfl
    rw [hm.out]
    cases h1 : (E == 0) <;> cases h2 : (op == 28) <;> cases h3 : (n == 0)
    all_goals
      go_enter Try.func18, Try.ntmps18
      go_wp2_with fail
      with_reducible refine (penc_at op a b c n W E HW.out HE.out _).mono ?_
      rintro e w1 ⟨rfl, hb1⟩
      obtain ⟨g1, g2, hb⟩ := eight_kept hb1
      have HB := Lib.hid hb
      have y6 := cell_of_row w1 w.heap.size 6 _ _ _ g1
      have z0 := cell_of_row w1 (w.heap.size + 1) 0 _ _ _ g2
      have z4 := cell_of_row w1 (w.heap.size + 1) 4 _ _ _ g2
      simp only [List.getElem?_toArray, List.getElem?_cons_zero, List.getElem?_cons_succ] at y6 z0 z4
      clear hb1 g1 g2 hb
      go_wp2_with fail
      go_ret
      exact ⟨by simp, HB.out⟩
  · have hm : Hid (As.may ⟨4, op, a, b, c, n, la, nu⟩ = ((E == 0) && (op == 20) && (n == 0) && (la == 0))) := by unfold Hid As.may; simp only [show ¬ ((4 : Int) = 0) by decide, show ¬ ((4 : Int) = 1) by decide, show ¬ ((4 : Int) = 2) by decide, show ¬ ((4 : Int) = 3) by decide, if_false, if_true]; rw [HO.out]; rfl
    rw [hm.out]
    cases h1 : (E == 0) <;> cases h2 : (op == 20) <;> cases h3 : (n == 0)
    all_goals
      go_enter Try.func18, Try.ntmps18
      go_wp2_with fail
      with_reducible refine (penc_at op a b c n W E HW.out HE.out _).mono ?_
      rintro e w1 ⟨rfl, hb1⟩
      obtain ⟨g1, g2, hb⟩ := eight_kept hb1
      have HB := Lib.hid hb
      have y6 := cell_of_row w1 w.heap.size 6 _ _ _ g1
      have z0 := cell_of_row w1 (w.heap.size + 1) 0 _ _ _ g2
      have z4 := cell_of_row w1 (w.heap.size + 1) 4 _ _ _ g2
      simp only [List.getElem?_toArray, List.getElem?_cons_zero, List.getElem?_cons_succ] at y6 z0 z4
      clear hb1 g1 g2 hb
      go_wp2_with fail
      go_ret
      exact ⟨by simp, HB.out⟩
  · have hm : Hid (As.may ⟨5, op, a, b, c, n, la, nu⟩ = ((E == 0) && (op == 20) && (n == 0) && (nu == 0))) := by unfold Hid As.may; simp only [show ¬ ((5 : Int) = 0) by decide, show ¬ ((5 : Int) = 1) by decide, show ¬ ((5 : Int) = 2) by decide, show ¬ ((5 : Int) = 3) by decide, show ¬ ((5 : Int) = 4) by decide, if_false, if_true]; rw [HO.out]; rfl
    rw [hm.out]
    cases h1 : (E == 0) <;> cases h2 : (op == 20) <;> cases h3 : (n == 0)
    all_goals
      go_enter Try.func18, Try.ntmps18
      go_wp2_with fail
      with_reducible refine (penc_at op a b c n W E HW.out HE.out _).mono ?_
      rintro e w1 ⟨rfl, hb1⟩
      obtain ⟨g1, g2, hb⟩ := eight_kept hb1
      have HB := Lib.hid hb
      have y6 := cell_of_row w1 w.heap.size 6 _ _ _ g1
      have z0 := cell_of_row w1 (w.heap.size + 1) 0 _ _ _ g2
      have z4 := cell_of_row w1 (w.heap.size + 1) 4 _ _ _ g2
      simp only [List.getElem?_toArray, List.getElem?_cons_zero, List.getElem?_cons_succ] at y6 z0 z4
      clear hb1 g1 g2 hb
      go_wp2_with fail
      go_ret
      exact ⟨by simp, HB.out⟩
  · have hm : Hid (As.may ⟨k, op, a, b, c, n, la, nu⟩ = false) := by unfold Hid As.may; rw [if_neg k0, if_neg k1, if_neg k2, if_neg k3, if_neg k4, if_neg k5]
    rw [hm.out]
    have b0 := beq_eq_false_iff_ne.2 k0
    have b1 := beq_eq_false_iff_ne.2 k1
    have b2 := beq_eq_false_iff_ne.2 k2
    have b3 := beq_eq_false_iff_ne.2 k3
    have b4 := beq_eq_false_iff_ne.2 k4
    have b5 := beq_eq_false_iff_ne.2 k5
    go_enter Try.func18, Try.ntmps18
    go_wp2_with fail
    go_ret
    exact ⟨by simp, ((Below.refl _ _).alloc (Nat.le_refl _) _).alloc (by simp) _⟩
end Go.Proofs.Ytbcpflogkniojaa
