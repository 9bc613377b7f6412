/- The reference's Times and Reckon, and the walk of TaggedReckons. -/
import Derived.Deep.QuietTactic
import Derived.BigQuiet
import Derived.Test.YtkplkgdfphbldaaGreatHJas
namespace Go.Proofs.YtkplkgdfphbldaaGreat
open Go.RowKit
open Go.Lib (hid)
set_option linter.unusedVariables false
set_option linter.unusedSimpArgs false
set_option linter.unnecessarySimpa false
set_option maxRecDepth 100000
theorem rtimes_ok (a b : Int) (a1 : -1152921504606846976 ≤ a) (a2 : a ≤ 1152921504606846975) (b1 : -1152921504606846976 ≤ b) (b2 : b ≤ 1152921504606846975) :
  ∃ n : Int, (isN (a * b) = true → n = a * b) ∧ ∀ w : World, Calls Tryz.prog 130 #[.int .i64 a, .int .i64 b] w fun e w' => e = .returned (.tuple #[.int .i64 n, .bool (isN (a * b))]) ∧ ∃ k, w' = w.drewN k := by
 have one : isN 0 = true := by decide
 by_cases za : a = 0
 ·subst za
  rw [Int.zero_mul, one]
  refine ⟨0, fun _ => rfl, fun w => ?_⟩
  go_enter Tryz.func130, Tryz.ntmps130
  go_wp2
  all_goals go_ret2
  all_goals exact ⟨rfl, 0, rfl⟩
 have za2 : (a == 0) = false := by rw [beq_eq_false_iff_ne]; exact za
 by_cases zb : b = 0
 ·subst zb
  rw [Int.mul_zero, one]
  refine ⟨0, fun _ => rfl, fun w => ?_⟩
  go_enter Tryz.func130, Tryz.ntmps130
  go_wp2
  all_goals go_ret2
  all_goals exact ⟨rfl, 0, rfl⟩
 have zb2 : (b == 0) = false := by rw [beq_eq_false_iff_ne]; exact zb
 by_cases na : a = -1
 ·subst na
  have e : -1 * b = -b := by omega
  rw [e]
  refine ⟨-b, fun _ => rfl, fun w => ?_⟩
  have d : isN (-b) = decide (-b ≤ 1152921504606846975) := by
   unfold isN
   by_cases h : -b ≤ 1152921504606846975
   ·rw [decide_eq_true h, decide_eq_true (by omega)]
   ·rw [decide_eq_false h, decide_eq_false (by omega)]
  rw [d]
  clear e
  go_enter Tryz.func130, Tryz.ntmps130
  go_wp2
  all_goals go_ret2
  all_goals exact ⟨rfl, 0, rfl⟩
 have na2 : (a == -1) = false := by rw [beq_eq_false_iff_ne]; exact na
 by_cases nb : b = -1
 ·subst nb
  have e : a * -1 = -a := by omega
  rw [e]
  refine ⟨-a, fun _ => rfl, fun w => ?_⟩
  have d : isN (-a) = decide (-a ≤ 1152921504606846975) := by
   unfold isN
   by_cases h : -a ≤ 1152921504606846975
   ·rw [decide_eq_true h, decide_eq_true (by omega)]
   ·rw [decide_eq_false h, decide_eq_false (by omega)]
  rw [d]
  clear e
  go_enter Tryz.func130, Tryz.ntmps130
  go_wp2
  all_goals go_ret2
  all_goals exact ⟨rfl, 0, rfl⟩
 have nb2 : (b == -1) = false := by rw [beq_eq_false_iff_ne]; exact nb
 obtain ⟨M, hM⟩ : ∃ M, M = (1152921504606846975 : Int).tdiv b := ⟨_, rfl⟩
 obtain ⟨L, hL⟩ : ∃ L, L = (-1152921504606846976 : Int).tdiv b := ⟨_, rfl⟩
 have bM := tdiv_bd 1152921504606846975 b (by decide) (by decide)
 have bL := tdiv_bd (-1152921504606846976) b (by decide) (by decide)
 rw [← hM] at bM
 rw [← hL] at bL
 have wM : IntKind.i64.wrap ((1152921504606846975 : Int).tdiv b) = M := by rw [← hM]; exact IntWalk.i64_in _ (by omega)
 have wL : IntKind.i64.wrap (-((1152921504606846976 : Int).tdiv b)) = L := by rw [← Int.neg_tdiv, ← hL]; exact IntWalk.i64_in _ (by omega)
 rcases Int.lt_or_lt_of_ne zb with hb | hb
 ·-- below -1
  have sb : decide (b < 0) = true := by rw [decide_eq_true_eq]; exact hb
  have eM : M = -(1152921504606846975 / -b) := by
   rw [hM]; have := Int.tdiv_neg 1152921504606846975 (-b)
   rw [Int.neg_neg] at this
   rw [this, Int.tdiv_eq_ediv_of_nonneg (by decide)]
  have eL : L = 1152921504606846976 / -b := by
   rw [hL]; have := Int.neg_tdiv_neg 1152921504606846976 (-b)
   rw [Int.neg_neg] at this
   rw [this, Int.tdiv_eq_ediv_of_nonneg (by decide)]
  have cL : a ≤ L ↔ a * -b ≤ 1152921504606846976 := by rw [eL]; exact Int.le_ediv_iff_mul_le (by omega)
  have cM : -a ≤ 1152921504606846975 / -b ↔ -a * -b ≤ 1152921504606846975 := Int.le_ediv_iff_mul_le (by omega)
  rw [Int.mul_neg] at cL
  rw [Int.neg_mul_neg] at cM
  obtain ⟨p, hp⟩ : ∃ p, p = a * b := ⟨_, rfl⟩
  rw [← hp] at cL cM
  by_cases h1 : L < a
  ·have : isN p = false := isN_false (by omega)
   rw [← hp, this]
   refine ⟨0, fun h => by simp at h, fun w => ?_⟩
   have d1 : decide (L < a) = true := by rw [decide_eq_true_eq]; exact h1
   clear cL cM eM eL hM hL hp
   go_enter Tryz.func130, Tryz.ntmps130
   go_wp2
   go_quiet (fail)
   all_goals go_wp2
   all_goals go_ret2
   all_goals exact ⟨rfl, _, rfl⟩
  ·have d1 : decide (L < a) = false := by rw [decide_eq_false_iff_not]; exact h1
   by_cases h2 : a < M
   ·have : isN p = false := isN_false (by omega)
    rw [← hp, this]
    refine ⟨0, fun h => by simp at h, fun w => ?_⟩
    have d2 : decide (a < M) = true := by rw [decide_eq_true_eq]; exact h2
    clear cL cM eM eL hM hL hp
    go_enter Tryz.func130, Tryz.ntmps130
    go_wp2
    go_quiet (fail)
    all_goals go_wp2
    all_goals go_ret2
    all_goals exact ⟨rfl, _, rfl⟩
   ·have d2 : decide (a < M) = false := by rw [decide_eq_false_iff_not]; exact h2
    have b1 : -1152921504606846976 ≤ p := by omega
    have b2 : p ≤ 1152921504606846975 := by omega
    rw [← hp, isN_true ⟨b1, b2⟩]
    refine ⟨p, fun h => rfl, fun w => ?_⟩
    have hp2 := hp.symm
    clear cL cM eM eL hM hL hp
    go_enter Tryz.func130, Tryz.ntmps130
    go_wp2
    go_quiet (fail)
    all_goals go_wp2
    all_goals go_ret2
    all_goals exact ⟨rfl, _, rfl⟩
 ·have sb : decide (b < 0) = false := by rw [decide_eq_false_iff_not]; omega
  have eM : M = 1152921504606846975 / b := by rw [hM, Int.tdiv_eq_ediv_of_nonneg (by decide)]
  have eL : L = -(1152921504606846976 / b) := by
   rw [hL, Int.neg_tdiv, Int.tdiv_eq_ediv_of_nonneg (by decide)]
  have cM : a ≤ M ↔ a * b ≤ 1152921504606846975 := by rw [eM]; exact Int.le_ediv_iff_mul_le (by omega)
  have cL : -a ≤ 1152921504606846976 / b ↔ -a * b ≤ 1152921504606846976 := Int.le_ediv_iff_mul_le (by omega)
  rw [Int.neg_mul] at cL
  obtain ⟨p, hp⟩ : ∃ p, p = a * b := ⟨_, rfl⟩
  rw [← hp] at cL cM
  by_cases h1 : M < a
  ·have : isN p = false := isN_false (by omega)
   rw [← hp, this]
   refine ⟨0, fun h => by simp at h, fun w => ?_⟩
   have d1 : decide (M < a) = true := by rw [decide_eq_true_eq]; exact h1
   clear cL cM eM eL hM hL hp
   go_enter Tryz.func130, Tryz.ntmps130
   go_wp2
   go_quiet (fail)
   all_goals go_wp2
   all_goals go_ret2
   all_goals exact ⟨rfl, _, rfl⟩
  ·have d1 : decide (M < a) = false := by rw [decide_eq_false_iff_not]; exact h1
   by_cases h2 : a < L
   ·have : isN p = false := isN_false (by omega)
    rw [← hp, this]
    refine ⟨0, fun h => by simp at h, fun w => ?_⟩
    have d2 : decide (a < L) = true := by rw [decide_eq_true_eq]; exact h2
    clear cL cM eM eL hM hL hp
    go_enter Tryz.func130, Tryz.ntmps130
    go_wp2
    go_quiet (fail)
    all_goals go_wp2
    all_goals go_ret2
    all_goals exact ⟨rfl, _, rfl⟩
   ·have d2 : decide (a < L) = false := by rw [decide_eq_false_iff_not]; exact h2
    have b1 : -1152921504606846976 ≤ p := by omega
    have b2 : p ≤ 1152921504606846975 := by omega
    rw [← hp, isN_true ⟨b1, b2⟩]
    refine ⟨p, fun h => rfl, fun w => ?_⟩
    have hp2 := hp.symm
    clear cL cM eM eL hM hL hp
    go_enter Tryz.func130, Tryz.ntmps130
    go_wp2
    go_quiet (fail)
    all_goals go_wp2
    all_goals go_ret2
    all_goals exact ⟨rfl, _, rfl⟩
theorem intA_lt {n : Int} (h : n < -1152921504606846976) : intA n = (0, 10) := by unfold intA; rw [isN_false (.inl h)]; rfl
theorem intA_gt {n : Int} (h : 1152921504606846975 < n) : intA n = (0, 10) := by unfold intA; rw [isN_false (.inr h)]; rfl
theorem intA_is {n : Int} (h1 : -1152921504606846976 ≤ n) (h2 : n ≤ 1152921504606846975) : intA n = (8 * n, 0) := by unfold intA; rw [isN_true ⟨h1, h2⟩]; rfl
set_option maxHeartbeats 1000000 in
theorem rreckon_any (op a b : Int) (w : World) (a1 : -9223372036854775808 ≤ a) (a2 : a ≤ 9223372036854775807) (b1 : -9223372036854775808 ≤ b) (b2 : b ≤ 9223372036854775807) :
  Calls Tryz.prog 124 #[.int .i64 op, .int .i64 a, .int .i64 b] w fun e w' => e = .returned (.tuple #[.int .i64 (rk op a b).1, .int .i64 (rk op a b).2]) ∧ ∃ k, w' = w.drewN k := by
 have A1 : -1152921504606846976 ≤ a / 8 := by omega
 have A2 : a / 8 ≤ 1152921504606846975 := by omega
 have B1 : -1152921504606846976 ≤ b / 8 := by omega
 have B2 : b / 8 ≤ 1152921504606846975 := by omega
 have HT : Hid True := trivial
 by_cases ho : op < 0 ∨ 4 < op
 ·have hr : Hid (rk op a b = (0, 1)) := by unfold Hid rk; rw [if_pos ho]
  rw [hr.out]
  clear a1 a2 b1 b2 A1 A2 B1 B2 HT
  rcases ho with ho | ho
  all_goals
   go_enter Tryz.func124, Tryz.ntmps124
   go_wp2
   all_goals go_ret2
   all_goals exact ⟨rfl, 0, rfl⟩
 by_cases ht : a % 8 ≠ 0 ∨ b % 8 ≠ 0
 ·have hr : Hid (rk op a b = (0, 12)) := by unfold Hid rk; rw [if_neg ho, if_pos ht]
  rw [hr.out]
  have o1 : 0 ≤ op := by omega
  have o2 : op ≤ 4 := by omega
  by_cases ha : a % 8 = 0
  ·have hb : (b % 8 != 0) = true := by rw [bne_iff_ne]; omega
   have hA : (a % 8 != 0) = false := by rw [ha]; rfl
   clear ho ht ha HT
   go_enter Tryz.func124, Tryz.ntmps124
   go_wp2_with (first | (go_at_call 129; refine (rtag_any _ _ (by omega) (by omega)).mono ?_; rintro e w' ⟨rfl, rfl⟩) | (go_at_call 125; refine (rvalue_any _ _ (by omega) (by omega)).mono ?_; rintro e w' ⟨rfl, rfl⟩) | (go_at_call 130; refine (RowKit.Hid.out HT _).mono ?_; rintro e w' ⟨rfl, k, rfl⟩))
   go_ret2
   exact ⟨rfl, 0, rfl⟩
  ·have hA : (a % 8 != 0) = true := by rw [bne_iff_ne]; omega
   clear ho ht ha HT
   go_enter Tryz.func124, Tryz.ntmps124
   go_wp2_with (first | (go_at_call 129; refine (rtag_any _ _ (by omega) (by omega)).mono ?_; rintro e w' ⟨rfl, rfl⟩) | (go_at_call 125; refine (rvalue_any _ _ (by omega) (by omega)).mono ?_; rintro e w' ⟨rfl, rfl⟩) | (go_at_call 130; refine (RowKit.Hid.out HT _).mono ?_; rintro e w' ⟨rfl, k, rfl⟩))
   go_ret2
   exact ⟨rfl, 0, rfl⟩
 have hA : (a % 8 != 0) = false := by rw [bne_eq_false_iff_eq]; omega
 have hB : (b % 8 != 0) = false := by rw [bne_eq_false_iff_eq]; omega
 have hop : op = 0 ∨ op = 1 ∨ op = 2 ∨ op = 3 ∨ op = 4 := by omega
 have hr : Hid (rk op a b = if op = 0 then (if isN (a / 8 + b / 8) then (8 * (a / 8 + b / 8), 0) else (0, 10))
   else if op = 1 then (if isN (a / 8 - b / 8) then (8 * (a / 8 - b / 8), 0) else (0, 10))
   else if op = 2 then (if isN (a / 8 * (b / 8)) then (8 * (a / 8 * (b / 8)), 0) else (0, 10))
   else if b / 8 = 0 then (0, 11)
   else if op = 3 then (if isN ((a / 8).tdiv (b / 8)) then (8 * ((a / 8).tdiv (b / 8)), 0) else (0, 10))
   else (8 * ((a / 8).tmod (b / 8)), 0)) := by
  unfold Hid rk; rw [if_neg ho, if_neg ht]
 clear ho ht
 rcases hop with rfl | rfl | rfl | rfl | rfl
 ·have hr2 : Hid (rk 0 a b = intA (a / 8 + b / 8)) := by unfold Hid; rw [hr.out, if_pos rfl]; rfl
  rw [hr2.out]
  clear hr hr2 HT
  by_cases h1 : a / 8 + b / 8 < -1152921504606846976
  ·rw [intA_lt h1]
   go_enter Tryz.func124, Tryz.ntmps124
   go_wp2_with (first | (go_at_call 129; refine (rtag_any _ _ (by omega) (by omega)).mono ?_; rintro e w' ⟨rfl, rfl⟩) | (go_at_call 125; refine (rvalue_any _ _ (by omega) (by omega)).mono ?_; rintro e w' ⟨rfl, rfl⟩) | (go_at_call 130; refine (RowKit.Hid.out HT _).mono ?_; rintro e w' ⟨rfl, k, rfl⟩))
   go_ret2
   exact ⟨rfl, 0, rfl⟩
  ·by_cases h2 : 1152921504606846975 < a / 8 + b / 8
   ·rw [intA_gt h2]
    go_enter Tryz.func124, Tryz.ntmps124
    go_wp2_with (first | (go_at_call 129; refine (rtag_any _ _ (by omega) (by omega)).mono ?_; rintro e w' ⟨rfl, rfl⟩) | (go_at_call 125; refine (rvalue_any _ _ (by omega) (by omega)).mono ?_; rintro e w' ⟨rfl, rfl⟩) | (go_at_call 130; refine (RowKit.Hid.out HT _).mono ?_; rintro e w' ⟨rfl, k, rfl⟩))
    go_ret2
    exact ⟨rfl, 0, rfl⟩
   ·have h1' : -1152921504606846976 ≤ a / 8 + b / 8 := by omega
    have h2' : a / 8 + b / 8 ≤ 1152921504606846975 := by omega
    rw [intA_is h1' h2']
    go_enter Tryz.func124, Tryz.ntmps124
    go_wp2_with (first | (go_at_call 129; refine (rtag_any _ _ (by omega) (by omega)).mono ?_; rintro e w' ⟨rfl, rfl⟩) | (go_at_call 125; refine (rvalue_any _ _ (by omega) (by omega)).mono ?_; rintro e w' ⟨rfl, rfl⟩) | (go_at_call 130; refine (RowKit.Hid.out HT _).mono ?_; rintro e w' ⟨rfl, k, rfl⟩))
    go_ret2
    exact ⟨rfl, 0, rfl⟩
 ·have hr2 : Hid (rk 1 a b = intA (a / 8 - b / 8)) := by unfold Hid; rw [hr.out, if_neg (by decide), if_pos rfl]; rfl
  rw [hr2.out]
  clear hr hr2 HT
  by_cases h1 : a / 8 - b / 8 < -1152921504606846976
  ·rw [intA_lt h1]
   go_enter Tryz.func124, Tryz.ntmps124
   go_wp2_with (first | (go_at_call 129; refine (rtag_any _ _ (by omega) (by omega)).mono ?_; rintro e w' ⟨rfl, rfl⟩) | (go_at_call 125; refine (rvalue_any _ _ (by omega) (by omega)).mono ?_; rintro e w' ⟨rfl, rfl⟩) | (go_at_call 130; refine (RowKit.Hid.out HT _).mono ?_; rintro e w' ⟨rfl, k, rfl⟩))
   go_ret2
   exact ⟨rfl, 0, rfl⟩
  ·by_cases h2 : 1152921504606846975 < a / 8 - b / 8
   ·rw [intA_gt h2]
    go_enter Tryz.func124, Tryz.ntmps124
    go_wp2_with (first | (go_at_call 129; refine (rtag_any _ _ (by omega) (by omega)).mono ?_; rintro e w' ⟨rfl, rfl⟩) | (go_at_call 125; refine (rvalue_any _ _ (by omega) (by omega)).mono ?_; rintro e w' ⟨rfl, rfl⟩) | (go_at_call 130; refine (RowKit.Hid.out HT _).mono ?_; rintro e w' ⟨rfl, k, rfl⟩))
    go_ret2
    exact ⟨rfl, 0, rfl⟩
   ·have h1' : -1152921504606846976 ≤ a / 8 - b / 8 := by omega
    have h2' : a / 8 - b / 8 ≤ 1152921504606846975 := by omega
    rw [intA_is h1' h2']
    go_enter Tryz.func124, Tryz.ntmps124
    go_wp2_with (first | (go_at_call 129; refine (rtag_any _ _ (by omega) (by omega)).mono ?_; rintro e w' ⟨rfl, rfl⟩) | (go_at_call 125; refine (rvalue_any _ _ (by omega) (by omega)).mono ?_; rintro e w' ⟨rfl, rfl⟩) | (go_at_call 130; refine (RowKit.Hid.out HT _).mono ?_; rintro e w' ⟨rfl, k, rfl⟩))
    go_ret2
    exact ⟨rfl, 0, rfl⟩
 ·clear HT
  obtain ⟨n, hn, hc⟩ := rtimes_ok (a / 8) (b / 8) A1 A2 B1 B2
  have HT := hid hc
  clear hc
  cases hN : isN (a / 8 * (b / 8)) with
  | true =>
   obtain rfl := hn hN
   have hr2 : Hid (rk 2 a b = (8 * (a / 8 * (b / 8)), 0)) := by unfold Hid; rw [hr.out, if_neg (by decide), if_neg (by decide), if_pos rfl, hN]; rfl
   obtain ⟨h1, h2⟩ := isN_iff.1 hN
   rw [hr2.out]
   clear hr hr2 hn
   go_enter Tryz.func124, Tryz.ntmps124
   go_wp2_with (first | (go_at_call 129; refine (rtag_any _ _ (by omega) (by omega)).mono ?_; rintro e w' ⟨rfl, rfl⟩) | (go_at_call 125; refine (rvalue_any _ _ (by omega) (by omega)).mono ?_; rintro e w' ⟨rfl, rfl⟩) | (go_at_call 130; refine (RowKit.Hid.out HT _).mono ?_; rintro e w' ⟨rfl, k, rfl⟩))
   go_ret2
   exact ⟨rfl, _, rfl⟩
  | false =>
   have hr2 : Hid (rk 2 a b = (0, 10)) := by unfold Hid; rw [hr.out, if_neg (by decide), if_neg (by decide), if_pos rfl, hN]; rfl
   rw [hr2.out]
   clear hr hr2 hn
   go_enter Tryz.func124, Tryz.ntmps124
   go_wp2_with (first | (go_at_call 129; refine (rtag_any _ _ (by omega) (by omega)).mono ?_; rintro e w' ⟨rfl, rfl⟩) | (go_at_call 125; refine (rvalue_any _ _ (by omega) (by omega)).mono ?_; rintro e w' ⟨rfl, rfl⟩) | (go_at_call 130; refine (RowKit.Hid.out HT _).mono ?_; rintro e w' ⟨rfl, k, rfl⟩))
   go_ret2
   exact ⟨rfl, _, rfl⟩
 all_goals
  have hq : IntKind.i64.wrap ((a / 8).tdiv (b / 8)) = (a / 8).tdiv (b / 8) := IntWalk.i64_in _ (by have := tdiv_bd (a / 8) (b / 8) A1 A2; omega)
  by_cases hz : b / 8 = 0
 ·have hr2 : Hid (rk 3 a b = (0, 11)) := by unfold Hid; rw [hr.out, if_neg (by decide), if_neg (by decide), if_neg (by decide), if_pos hz]
  have hz2 : (b / 8 == 0) = true := by rw [beq_iff_eq]; exact hz
  rw [hr2.out]
  clear hr hr2 hz HT
  go_enter Tryz.func124, Tryz.ntmps124
  go_wp2_with (first | (go_at_call 129; refine (rtag_any _ _ (by omega) (by omega)).mono ?_; rintro e w' ⟨rfl, rfl⟩) | (go_at_call 125; refine (rvalue_any _ _ (by omega) (by omega)).mono ?_; rintro e w' ⟨rfl, rfl⟩) | (go_at_call 130; refine (RowKit.Hid.out HT _).mono ?_; rintro e w' ⟨rfl, k, rfl⟩))
  go_ret2
  exact ⟨rfl, 0, rfl⟩
 ·have hr2 : Hid (rk 3 a b = intA ((a / 8).tdiv (b / 8))) := by unfold Hid; rw [hr.out, if_neg (by decide), if_neg (by decide), if_neg (by decide), if_neg hz, if_pos rfl]; rfl
  have hz2 : (b / 8 == 0) = false := by rw [beq_eq_false_iff_ne]; exact hz
  obtain ⟨d1, d2⟩ := tdiv_bd (a / 8) (b / 8) A1 A2
  rw [hr2.out]
  clear hr hr2 HT
  by_cases h2 : 1152921504606846975 < (a / 8).tdiv (b / 8)
  ·rw [intA_gt h2]
   go_enter Tryz.func124, Tryz.ntmps124
   go_wp2_with (first | (go_at_call 129; refine (rtag_any _ _ (by omega) (by omega)).mono ?_; rintro e w' ⟨rfl, rfl⟩) | (go_at_call 125; refine (rvalue_any _ _ (by omega) (by omega)).mono ?_; rintro e w' ⟨rfl, rfl⟩) | (go_at_call 130; refine (RowKit.Hid.out HT _).mono ?_; rintro e w' ⟨rfl, k, rfl⟩))
   go_ret2
   exact ⟨rfl, 0, rfl⟩
  ·have h2' : (a / 8).tdiv (b / 8) ≤ 1152921504606846975 := by omega
   rw [intA_is d1 h2']
   go_enter Tryz.func124, Tryz.ntmps124
   go_wp2_with (first | (go_at_call 129; refine (rtag_any _ _ (by omega) (by omega)).mono ?_; rintro e w' ⟨rfl, rfl⟩) | (go_at_call 125; refine (rvalue_any _ _ (by omega) (by omega)).mono ?_; rintro e w' ⟨rfl, rfl⟩) | (go_at_call 130; refine (RowKit.Hid.out HT _).mono ?_; rintro e w' ⟨rfl, k, rfl⟩))
   go_ret2
   exact ⟨rfl, 0, rfl⟩
 ·have hr2 : Hid (rk 4 a b = (0, 11)) := by unfold Hid; rw [hr.out, if_neg (by decide), if_neg (by decide), if_neg (by decide), if_pos hz]
  have hz2 : (b / 8 == 0) = true := by rw [beq_iff_eq]; exact hz
  rw [hr2.out]
  clear hr hr2 hz HT
  go_enter Tryz.func124, Tryz.ntmps124
  go_wp2_with (first | (go_at_call 129; refine (rtag_any _ _ (by omega) (by omega)).mono ?_; rintro e w' ⟨rfl, rfl⟩) | (go_at_call 125; refine (rvalue_any _ _ (by omega) (by omega)).mono ?_; rintro e w' ⟨rfl, rfl⟩) | (go_at_call 130; refine (RowKit.Hid.out HT _).mono ?_; rintro e w' ⟨rfl, k, rfl⟩))
  go_ret2
  exact ⟨rfl, 0, rfl⟩
 ·have hr2 : Hid (rk 4 a b = (8 * ((a / 8).tmod (b / 8)), 0)) := by unfold Hid; rw [hr.out, if_neg (by decide), if_neg (by decide), if_neg (by decide), if_neg hz, if_neg (by decide)]
  have hz2 : (b / 8 == 0) = false := by rw [beq_eq_false_iff_ne]; exact hz
  obtain ⟨m1, m2⟩ := tmod_bd (a / 8) (b / 8) A1 A2
  have hx : a / 8 - (a / 8).tdiv (b / 8) * (b / 8) = (a / 8).tmod (b / 8) := by
   have := Int.tmod_add_tdiv_mul (a / 8) (b / 8); omega
  have hx2 : IntKind.i64.wrap ((a / 8).tdiv (b / 8) * (b / 8)) = (a / 8).tdiv (b / 8) * (b / 8) := IntWalk.i64_in _ (by omega)
  rw [hr2.out]
  clear hr hr2 HT
  go_enter Tryz.func124, Tryz.ntmps124
  go_wp2_with (first | (go_at_call 129; refine (rtag_any _ _ (by omega) (by omega)).mono ?_; rintro e w' ⟨rfl, rfl⟩) | (go_at_call 125; refine (rvalue_any _ _ (by omega) (by omega)).mono ?_; rintro e w' ⟨rfl, rfl⟩) | (go_at_call 130; refine (RowKit.Hid.out HT _).mono ?_; rintro e w' ⟨rfl, k, rfl⟩))
  go_ret2
  exact ⟨rfl, 0, rfl⟩
end Go.Proofs.YtkplkgdfphbldaaGreat
