/- Contracts of Reckon and of the reference's Reckon: both compute 'rk'. -/
import Derived.Test.YtdehgidklcflbacWordB
namespace Go.Proofs.Ytdehgidklcflbac
open Go.RowKit
set_option linter.unusedVariables false

theorem tdiv_bd (x y : Int) (h1 : -1152921504606846976 ≤ x) (h2 : x ≤ 1152921504606846975) : -1152921504606846976 ≤ x.tdiv y ∧ x.tdiv y ≤ 1152921504606846976 := by
  have := Int.natAbs_tdiv_le_natAbs x y
  omega
theorem tmod_bd (x y : Int) (h1 : -1152921504606846976 ≤ x) (h2 : x ≤ 1152921504606846975) : -1152921504606846976 ≤ x.tmod y ∧ x.tmod y ≤ 1152921504606846975 := by
  have a := Int.natAbs_tmod x y
  have b := Nat.mod_le x.natAbs y.natAbs
  rcases Int.le_total 0 x with h | h
  · have := Int.tmod_nonneg y h
    omega
  · have e : x.tmod y = -((-x).tmod y) := by rw [Int.neg_tmod]; omega
    have := Int.tmod_nonneg y (show 0 ≤ -x by omega)
    omega

set_option maxHeartbeats 1000000 in
theorem reckon_any (op a b : Int) (w : World) (a1 : -9223372036854775808 ≤ a) (a2 : a ≤ 9223372036854775807) (b1 : -9223372036854775808 ≤ b) (b2 : b ≤ 9223372036854775807) :
    Calls Try.prog 11 #[.int .i64 op, .int .i64 a, .int .i64 b] w fun e w' => e = .returned (.tuple #[.int .i64 (rk op a b).1, .int .i64 (rk op a b).2]) ∧ w' = w := by
  have A1 : -1152921504606846976 ≤ a / 8 := by omega
  have A2 : a / 8 ≤ 1152921504606846975 := by omega
  have B1 : -1152921504606846976 ≤ b / 8 := by omega
  have B2 : b / 8 ≤ 1152921504606846975 := by omega
  by_cases ho : op < 0 ∨ 4 < op
  · have hr : Hid (rk op a b = (0, 1)) := by unfold Hid rk; rw [if_pos ho]
    rw [hr.out]
    clear a1 a2 b1 b2 A1 A2 B1 B2
    rcases ho with ho | ho
    all_goals
      go_enter Try.func11, Try.ntmps11
      go_wp2
      all_goals go_ret2
      all_goals exact ⟨rfl, rfl⟩
  by_cases ht : a % 8 ≠ 0 ∨ b % 8 ≠ 0
  · have hr : Hid (rk op a b = (0, 12)) := by unfold Hid rk; rw [if_neg ho, if_pos ht]
    rw [hr.out]
    have o1 : 0 ≤ op := by omega
    have o2 : op ≤ 4 := by omega
    by_cases ha : a % 8 = 0
    · have hb : (b % 8 != 0) = true := by rw [bne_iff_ne]; omega
      have hA : (a % 8 != 0) = false := by rw [ha]; rfl
      clear ho ht ha
      go_enter Try.func11, Try.ntmps11
      go_wp2_with (go_at_call 8; refine (tag_any _ _).mono ?_; rintro e w' ⟨rfl, rfl⟩)
      go_ret2
      exact ⟨rfl, rfl⟩
    · have hA : (a % 8 != 0) = true := by rw [bne_iff_ne]; omega
      clear ho ht ha
      go_enter Try.func11, Try.ntmps11
      go_wp2_with (go_at_call 8; refine (tag_any _ _).mono ?_; rintro e w' ⟨rfl, rfl⟩)
      go_ret2
      exact ⟨rfl, rfl⟩
  have hA : (a % 8 != 0) = false := by rw [bne_eq_false_iff_eq]; omega
  have hB : (b % 8 != 0) = false := by rw [bne_eq_false_iff_eq]; omega
  have hop : op = 0 ∨ op = 1 ∨ op = 2 ∨ op = 3 ∨ op = 4 := by omega
  have hr : Hid (rk op a b = if op = 0 then (if isN (a / 8 + b / 8) then (8 * (a / 8 + b / 8), 0) else (0, 10))
      else if op = 1 then (if isN (a / 8 - b / 8) then (8 * (a / 8 - b / 8), 0) else (0, 10))
      else if op = 2 then (if isN (a / 8 * (b / 8)) then (8 * (a / 8 * (b / 8)), 0) else (0, 10))
      else if b / 8 = 0 then (0, 11)
      else if op = 3 then (if isN ((a / 8).tdiv (b / 8)) then (8 * ((a / 8).tdiv (b / 8)), 0) else (0, 10))
      else (8 * ((a / 8).tmod (b / 8)), 0)) := by
    unfold Hid rk; rw [if_neg ho, if_neg ht]
  clear ho ht a1 a2 b1 b2
  rcases hop with rfl | rfl | rfl | rfl | rfl
  · have hr2 : Hid (rk 0 a b = intA (a / 8 + b / 8)) := by unfold Hid; rw [hr.out, if_pos rfl]; rfl
    rw [hr2.out]
    clear hr hr2
    go_enter Try.func11, Try.ntmps11
    go_wp2_with (first | (go_at_call 8; refine (tag_any _ _).mono ?_; rintro e w' ⟨rfl, rfl⟩) | (go_at_call 9; refine (value_any _ _).mono ?_; rintro e w' ⟨rfl, rfl⟩) | (go_at_call 16; refine (int_any _ _).mono ?_; rintro e w' ⟨rfl, rfl⟩))
    go_ret2
    exact ⟨rfl, rfl⟩
  · have hr2 : Hid (rk 1 a b = intA (a / 8 - b / 8)) := by unfold Hid; rw [hr.out, if_neg (by decide), if_pos rfl]; rfl
    rw [hr2.out]
    clear hr hr2
    go_enter Try.func11, Try.ntmps11
    go_wp2_with (first | (go_at_call 8; refine (tag_any _ _).mono ?_; rintro e w' ⟨rfl, rfl⟩) | (go_at_call 9; refine (value_any _ _).mono ?_; rintro e w' ⟨rfl, rfl⟩) | (go_at_call 16; refine (int_any _ _).mono ?_; rintro e w' ⟨rfl, rfl⟩))
    go_ret2
    exact ⟨rfl, rfl⟩
  · cases hN : isN (a / 8 * (b / 8)) with
    | true =>
      have hr2 : Hid (rk 2 a b = (8 * (a / 8 * (b / 8)), 0)) := by unfold Hid; rw [hr.out, if_neg (by decide), if_neg (by decide), if_pos rfl, hN]; rfl
      have hN1 := isN_iff.1 hN
      rw [hr2.out]
      clear hr hr2
      go_enter Try.func11, Try.ntmps11
      go_wp2_with (first | (go_at_call 8; refine (tag_any _ _).mono ?_; rintro e w' ⟨rfl, rfl⟩) | (go_at_call 9; refine (value_any _ _).mono ?_; rintro e w' ⟨rfl, rfl⟩) | (go_at_call 21; refine (times_ok _ _ _ A1 A2 B1 B2 hN).mono ?_; rintro e w' ⟨rfl, rfl⟩) | (go_at_call 16; refine (int_ok _ _ hN1.1 hN1.2).mono ?_; rintro e w' ⟨rfl, rfl⟩))
      go_ret2
      exact ⟨rfl, rfl⟩
    | false =>
      have hr2 : Hid (rk 2 a b = (0, 10)) := by unfold Hid; rw [hr.out, if_neg (by decide), if_neg (by decide), if_pos rfl, hN]; rfl
      obtain ⟨n, hn⟩ := times_no (a / 8) (b / 8) w A1 A2 B1 B2 hN
      have HN := Lib.hid hn
      rw [hr2.out]
      clear hr hr2 hn
      go_enter Try.func11, Try.ntmps11
      go_wp2_with (first | (go_at_call 8; refine (tag_any _ _).mono ?_; rintro e w' ⟨rfl, rfl⟩) | (go_at_call 9; refine (value_any _ _).mono ?_; rintro e w' ⟨rfl, rfl⟩) | (go_at_call 21; refine HN.out.mono ?_; rintro e w' ⟨rfl, rfl⟩))
      go_ret2
      exact ⟨rfl, rfl⟩
  all_goals
    have hq : IntKind.i64.wrap ((a / 8).tdiv (b / 8)) = (a / 8).tdiv (b / 8) := IntWalk.i64_in _ (by have := tdiv_bd (a / 8) (b / 8) A1 A2; omega)
    by_cases hz : b / 8 = 0
  · have hr2 : Hid (rk 3 a b = (0, 11)) := by unfold Hid; rw [hr.out, if_neg (by decide), if_neg (by decide), if_neg (by decide), if_pos hz]
    have hz2 : (b / 8 == 0) = true := by rw [beq_iff_eq]; exact hz
    rw [hr2.out]
    clear hr hr2 hz
    go_enter Try.func11, Try.ntmps11
    go_wp2_with (first | (go_at_call 8; refine (tag_any _ _).mono ?_; rintro e w' ⟨rfl, rfl⟩) | (go_at_call 9; refine (value_any _ _).mono ?_; rintro e w' ⟨rfl, rfl⟩))
    go_ret2
    exact ⟨rfl, rfl⟩
  · have hr2 : Hid (rk 3 a b = intA ((a / 8).tdiv (b / 8))) := by unfold Hid; rw [hr.out, if_neg (by decide), if_neg (by decide), if_neg (by decide), if_neg hz, if_pos rfl]; rfl
    have hz2 : (b / 8 == 0) = false := by rw [beq_eq_false_iff_ne]; exact hz
    have hd := Lib.hid (tdiv_bd (a / 8) (b / 8) A1 A2)
    rw [hr2.out]
    clear hr hr2
    go_enter Try.func11, Try.ntmps11
    go_wp2_with (first | (go_at_call 8; refine (tag_any _ _).mono ?_; rintro e w' ⟨rfl, rfl⟩) | (go_at_call 9; refine (value_any _ _).mono ?_; rintro e w' ⟨rfl, rfl⟩) | (go_at_call 16; refine (int_any _ _).mono ?_; rintro e w' ⟨rfl, rfl⟩))
    go_ret2
    exact ⟨rfl, rfl⟩
  · have hr2 : Hid (rk 4 a b = (0, 11)) := by unfold Hid; rw [hr.out, if_neg (by decide), if_neg (by decide), if_neg (by decide), if_pos hz]
    have hz2 : (b / 8 == 0) = true := by rw [beq_iff_eq]; exact hz
    rw [hr2.out]
    clear hr hr2 hz
    go_enter Try.func11, Try.ntmps11
    go_wp2_with (first | (go_at_call 8; refine (tag_any _ _).mono ?_; rintro e w' ⟨rfl, rfl⟩) | (go_at_call 9; refine (value_any _ _).mono ?_; rintro e w' ⟨rfl, rfl⟩))
    go_ret2
    exact ⟨rfl, rfl⟩
  · have hr2 : Hid (rk 4 a b = (8 * ((a / 8).tmod (b / 8)), 0)) := by unfold Hid; rw [hr.out, if_neg (by decide), if_neg (by decide), if_neg (by decide), if_neg hz, if_neg (by decide)]
    have hz2 : (b / 8 == 0) = false := by rw [beq_eq_false_iff_ne]; exact hz
    have hm := Lib.hid (tmod_bd (a / 8) (b / 8) A1 A2)
    rw [hr2.out]
    clear hr hr2
    go_enter Try.func11, Try.ntmps11
    go_wp2_with (first | (go_at_call 8; refine (tag_any _ _).mono ?_; rintro e w' ⟨rfl, rfl⟩) | (go_at_call 9; refine (value_any _ _).mono ?_; rintro e w' ⟨rfl, rfl⟩) | (go_at_call 16; refine (int_ok _ _ hm.out.1 hm.out.2).mono ?_; rintro e w' ⟨rfl, rfl⟩))
    go_ret2
    exact ⟨rfl, rfl⟩

theorem less_any (a b : Int) (w : World) :
    Calls Try.prog 13 #[.int .i64 a, .int .i64 b] w fun e w' => e = .returned (.tuple #[.bool (if a % 8 ≠ 0 ∨ b % 8 ≠ 0 then false else decide (a < b)), .int .i64 (if a % 8 ≠ 0 ∨ b % 8 ≠ 0 then 12 else 0)]) ∧ w' = w := by
  by_cases ha : a % 8 = 0
  · by_cases hb : b % 8 = 0
    · rw [if_neg (by omega), if_neg (by omega)]
      go_enter Try.func13, Try.ntmps13
      go_wp2_with (go_at_call 8; refine (tag_any _ _).mono ?_; rintro e w' ⟨rfl, rfl⟩)
      go_ret2
      exact ⟨rfl, rfl⟩
    · rw [if_pos (Or.inr hb), if_pos (Or.inr hb)]
      have hB : (b % 8 != 0) = true := by rw [bne_iff_ne]; exact hb
      go_enter Try.func13, Try.ntmps13
      go_wp2_with (go_at_call 8; refine (tag_any _ _).mono ?_; rintro e w' ⟨rfl, rfl⟩)
      go_ret2
      exact ⟨rfl, rfl⟩
  · rw [if_pos (Or.inl ha), if_pos (Or.inl ha)]
    have hA : (a % 8 != 0) = true := by rw [bne_iff_ne]; exact ha
    go_enter Try.func13, Try.ntmps13
    go_wp2_with (go_at_call 8; refine (tag_any _ _).mono ?_; rintro e w' ⟨rfl, rfl⟩)
    go_ret2
    exact ⟨rfl, rfl⟩
end Go.Proofs.Ytdehgidklcflbac
