/- Contracts of times, Reckon and their references. -/
import Derived.Lib.Hide
import Derived.Test.YtalfnaielhbocaaKJah
set_option linter.unusedVariables false
set_option linter.unusedSimpArgs false
set_option linter.unnecessarySimpa false
namespace Go.Proofs.Ytalfnaielhbocaa
open Go.RowKit
set_option maxRecDepth 100000
set_option linter.unusedVariables false

theorem times_core (a b n : Int) (x y p : Nat) (w : World) (hx : x ≤ 1152921504606846976) (hy : y ≤ 1152921504606846976)
    (ha : (0 ≤ a ∧ a = x) ∨ (a < 0 ∧ a = -(x : Int))) (hb : (0 ≤ b ∧ b = y) ∨ (b < 0 ∧ b = -(y : Int)))
    (hp : Hid (x * y = p)) (hn : Hid (n = if (decide (a < 0) != decide (b < 0)) then -(p : Int) else p)) (hs : p ≤ 1152921504606846976) :
    Calls Try.prog 102 #[.int .i64 a, .int .i64 b] w fun e w' => e = .returned (.tuple #[.int .i64 n, .bool (isN n)]) ∧ w' = w := by
  have h1 : ((p / 18446744073709551616 : Nat) : Int) = 0 := by omega
  have h2 : ((p % 18446744073709551616 : Nat) : Int) = p := by omega
  have H1 := Lib.hid h1
  have H2 := Lib.hid h2
  clear h1 h2
  have px : decide ((x : Int) < 0) = false := by simp
  have py : decide ((y : Int) < 0) = false := by simp
  rcases ha with ⟨ha, rfl⟩ | ⟨ha, rfl⟩ <;> rcases hb with ⟨hb, rfl⟩ | ⟨hb, rfl⟩
  all_goals
    try have qx : decide (0 < x) = true := by rw [decide_eq_true_eq]; omega
    try have qy : decide (0 < y) = true := by rw [decide_eq_true_eq]; omega
    go_enter Try.func102, Try.ntmps102
    go_wp2_with fail
    refine (mul64_any x y (by omega) (by omega) _).mono ?_
    rintro e w' ⟨rfl, rfl⟩
    rw [hp.out, H1.out, H2.out]
    go_wp2_with (go_at_call 70; refine (isNumber_any _ _).mono ?_; rintro e w' ⟨rfl, rfl⟩)
    go_ret2
    have hn2 := hn.out
    first
      | rw [px, py] at hn2
      | rw [px, decide_eq_true hb] at hn2
      | rw [py, decide_eq_true ha] at hn2
      | rw [decide_eq_true ha, decide_eq_true hb] at hn2
    first
      | rw [if_pos (by decide)] at hn2
      | rw [if_neg (by decide)] at hn2
    rw [hn2]
    exact ⟨rfl, rfl⟩
theorem times_big (a b : Int) (x y p : Nat) (w : World) (hx : x ≤ 1152921504606846976) (hy : y ≤ 1152921504606846976)
    (ha : (0 ≤ a ∧ a = x) ∨ (a < 0 ∧ a = -(x : Int))) (hb : (0 ≤ b ∧ b = y) ∨ (b < 0 ∧ b = -(y : Int)))
    (hp : Hid (x * y = p)) (hs : 1152921504606846976 < p) :
    Calls Try.prog 102 #[.int .i64 a, .int .i64 b] w fun e w' => e = .returned (.tuple #[.int .i64 0, .bool false]) ∧ w' = w := by
  by_cases hh : p < 18446744073709551616
  · have h1 : ((p / 18446744073709551616 : Nat) : Int) = 0 := by omega
    have h2 : ((p % 18446744073709551616 : Nat) : Int) = p := by omega
    have H1 := Lib.hid h1
    have H2 := Lib.hid h2
    clear h1 h2
    rcases ha with ⟨ha, rfl⟩ | ⟨ha, rfl⟩ <;> rcases hb with ⟨hb, rfl⟩ | ⟨hb, rfl⟩
    all_goals
      go_enter Try.func102, Try.ntmps102
      go_wp2_with fail
      refine (mul64_any x y (by omega) (by omega) _).mono ?_
      rintro e w' ⟨rfl, rfl⟩
      rw [hp.out, H1.out, H2.out]
      go_wp2
      go_ret2
      exact ⟨rfl, rfl⟩
  · have h2 : (((p / 18446744073709551616 : Nat) : Int) != 0) = true := by rw [bne_iff_ne]; omega
    have h3 : 1 ≤ ((p / 18446744073709551616 : Nat) : Int) := by omega
    obtain ⟨hi, Hi⟩ : ∃ hi : Int, Hid (((p / 18446744073709551616 : Nat) : Int) = hi) := ⟨_, rfl⟩
    rw [Hi.out] at h2 h3
    rcases ha with ⟨ha, rfl⟩ | ⟨ha, rfl⟩ <;> rcases hb with ⟨hb, rfl⟩ | ⟨hb, rfl⟩
    all_goals
      go_enter Try.func102, Try.ntmps102
      go_wp2_with fail
      refine (mul64_any x y (by omega) (by omega) _).mono ?_
      rintro e w' ⟨rfl, rfl⟩
      rw [hp.out, Hi.out]
      go_wp2
      go_ret2
      exact ⟨rfl, rfl⟩

theorem abs_of (a : Int) (h1 : -1152921504606846976 ≤ a) (h2 : a ≤ 1152921504606846975) :
    ∃ x : Nat, x ≤ 1152921504606846976 ∧ ((0 ≤ a ∧ a = x) ∨ (a < 0 ∧ a = -(x : Int))) :=
  ⟨a.natAbs, by omega, by omega⟩

theorem prod_of (a b : Int) (x y : Nat) (ha : (0 ≤ a ∧ a = x) ∨ (a < 0 ∧ a = -(x : Int))) (hb : (0 ≤ b ∧ b = y) ∨ (b < 0 ∧ b = -(y : Int))) :
    a * b = if (decide (a < 0) != decide (b < 0)) then -((x * y : Nat) : Int) else ((x * y : Nat) : Int) := by
  rcases ha with ⟨ha, rfl⟩ | ⟨ha, rfl⟩ <;> rcases hb with ⟨hb, rfl⟩ | ⟨hb, rfl⟩
  · rw [decide_eq_false (Int.not_lt.2 ha), decide_eq_false (Int.not_lt.2 hb), if_neg (by decide), Int.natCast_mul]
  · rw [decide_eq_false (Int.not_lt.2 ha), decide_eq_true hb, if_pos (by decide), Int.natCast_mul, Int.mul_neg]
  · rw [decide_eq_true ha, decide_eq_false (Int.not_lt.2 hb), if_pos (by decide), Int.natCast_mul, Int.neg_mul]
  · rw [decide_eq_true ha, decide_eq_true hb, if_neg (by decide), Int.natCast_mul, Int.neg_mul_neg]

theorem times_ok (a b : Int) (w : World) (a1 : -1152921504606846976 ≤ a) (a2 : a ≤ 1152921504606846975) (b1 : -1152921504606846976 ≤ b) (b2 : b ≤ 1152921504606846975) (h : isN (a * b) = true) :
    Calls Try.prog 102 #[.int .i64 a, .int .i64 b] w fun e w' => e = .returned (.tuple #[.int .i64 (a * b), .bool true]) ∧ w' = w := by
  obtain ⟨x, hx, ha⟩ := abs_of a a1 a2
  obtain ⟨y, hy, hb⟩ := abs_of b b1 b2
  have hp := prod_of a b x y ha hb
  have hs : x * y ≤ 1152921504606846976 := by
    rw [isN_iff, hp] at h
    split at h <;> omega
  have := times_core a b (a * b) x y (x * y) w hx hy ha hb rfl hp hs
  rw [h] at this
  exact this

theorem times_no (a b : Int) (w : World) (a1 : -1152921504606846976 ≤ a) (a2 : a ≤ 1152921504606846975) (b1 : -1152921504606846976 ≤ b) (b2 : b ≤ 1152921504606846975) (h : isN (a * b) = false) :
    ∃ n : Int, Calls Try.prog 102 #[.int .i64 a, .int .i64 b] w fun e w' => e = .returned (.tuple #[.int .i64 n, .bool false]) ∧ w' = w := by
  obtain ⟨x, hx, ha⟩ := abs_of a a1 a2
  obtain ⟨y, hy, hb⟩ := abs_of b b1 b2
  have hp := prod_of a b x y ha hb
  by_cases hs : x * y ≤ 1152921504606846976
  · have := times_core a b (a * b) x y (x * y) w hx hy ha hb rfl hp hs
    rw [h] at this
    exact ⟨_, this⟩
  · exact ⟨_, times_big a b x y (x * y) w hx hy ha hb rfl (by omega)⟩
end Go.Proofs.Ytalfnaielhbocaa
namespace Go.Proofs.Ytalfnaielhbocaa
open Go.RowKit
set_option maxRecDepth 100000
set_option linter.unusedVariables false

theorem tdiv_bd (x y : Int) (h1 : -1152921504606846976 ≤ x) (h2 : x ≤ 1152921504606846975) : -1152921504606846976 ≤ x.tdiv y ∧ x.tdiv y ≤ 1152921504606846976 := by
  have := Int.natAbs_tdiv_le_natAbs x y
  omega
theorem tmod_bd (x y : Int) (h1 : -1152921504606846976 ≤ x) (h2 : x ≤ 1152921504606846975) : -1152921504606846976 ≤ x.tmod y ∧ x.tmod y ≤ 1152921504606846975 := by
  have a := Int.natAbs_tmod x y
  have b := Nat.mod_le x.natAbs y.natAbs
  rcases Int.le_total 0 x with h | h
  · have := Int.tmod_nonneg y h
    omega
  · have e : x.tmod y = -((-x).tmod y) := by rw [Int.neg_tmod]; omega
    have := Int.tmod_nonneg y (show 0 ≤ -x by omega)
    omega

set_option maxHeartbeats 1000000 in
theorem reckon_any (op a b : Int) (w : World) (a1 : -9223372036854775808 ≤ a) (a2 : a ≤ 9223372036854775807) (b1 : -9223372036854775808 ≤ b) (b2 : b ≤ 9223372036854775807) :
    Calls Try.prog 92 #[.int .i64 op, .int .i64 a, .int .i64 b] w fun e w' => e = .returned (.tuple #[.int .i64 (rk op a b).1, .int .i64 (rk op a b).2]) ∧ w' = w := by
  have A1 : -1152921504606846976 ≤ a / 8 := by omega
  have A2 : a / 8 ≤ 1152921504606846975 := by omega
  have B1 : -1152921504606846976 ≤ b / 8 := by omega
  have B2 : b / 8 ≤ 1152921504606846975 := by omega
  by_cases ho : op < 0 ∨ 4 < op
  · have hr : Hid (rk op a b = (0, 1)) := by unfold Hid rk; rw [if_pos ho]
    rw [hr.out]
    clear a1 a2 b1 b2 A1 A2 B1 B2
    rcases ho with ho | ho
    all_goals
      go_enter Try.func92, Try.ntmps92
      go_wp2
      all_goals go_ret2
      all_goals exact ⟨rfl, rfl⟩
  by_cases ht : a % 8 ≠ 0 ∨ b % 8 ≠ 0
  · have hr : Hid (rk op a b = (0, 12)) := by unfold Hid rk; rw [if_neg ho, if_pos ht]
    rw [hr.out]
    have o1 : 0 ≤ op := by omega
    have o2 : op ≤ 4 := by omega
    by_cases ha : a % 8 = 0
    · have hb : (b % 8 != 0) = true := by rw [bne_iff_ne]; omega
      have hA : (a % 8 != 0) = false := by rw [ha]; rfl
      clear ho ht ha
      go_enter Try.func92, Try.ntmps92
      go_wp2_with (go_at_call 101; refine (tag_any _ _).mono ?_; rintro e w' ⟨rfl, rfl⟩)
      go_ret2
      exact ⟨rfl, rfl⟩
    · have hA : (a % 8 != 0) = true := by rw [bne_iff_ne]; omega
      clear ho ht ha
      go_enter Try.func92, Try.ntmps92
      go_wp2_with (go_at_call 101; refine (tag_any _ _).mono ?_; rintro e w' ⟨rfl, rfl⟩)
      go_ret2
      exact ⟨rfl, rfl⟩
  have hA : (a % 8 != 0) = false := by rw [bne_eq_false_iff_eq]; omega
  have hB : (b % 8 != 0) = false := by rw [bne_eq_false_iff_eq]; omega
  have hop : op = 0 ∨ op = 1 ∨ op = 2 ∨ op = 3 ∨ op = 4 := by omega
  have hr : Hid (rk op a b = if op = 0 then (if isN (a / 8 + b / 8) then (8 * (a / 8 + b / 8), 0) else (0, 10))
      else if op = 1 then (if isN (a / 8 - b / 8) then (8 * (a / 8 - b / 8), 0) else (0, 10))
      else if op = 2 then (if isN (a / 8 * (b / 8)) then (8 * (a / 8 * (b / 8)), 0) else (0, 10))
      else if b / 8 = 0 then (0, 11)
      else if op = 3 then (if isN ((a / 8).tdiv (b / 8)) then (8 * ((a / 8).tdiv (b / 8)), 0) else (0, 10))
      else (8 * ((a / 8).tmod (b / 8)), 0)) := by
    unfold Hid rk; rw [if_neg ho, if_neg ht]
  clear ho ht a1 a2 b1 b2
  rcases hop with rfl | rfl | rfl | rfl | rfl
  · have hr2 : Hid (rk 0 a b = intA (a / 8 + b / 8)) := by unfold Hid; rw [hr.out, if_pos rfl]; rfl
    rw [hr2.out]
    clear hr hr2
    go_enter Try.func92, Try.ntmps92
    go_wp2_with (first | (go_at_call 101; refine (tag_any _ _).mono ?_; rintro e w' ⟨rfl, rfl⟩) | (go_at_call 93; refine (value_any _ _).mono ?_; rintro e w' ⟨rfl, rfl⟩) | (go_at_call 58; refine (int_any _ _).mono ?_; rintro e w' ⟨rfl, rfl⟩))
    go_ret2
    exact ⟨rfl, rfl⟩
  · have hr2 : Hid (rk 1 a b = intA (a / 8 - b / 8)) := by unfold Hid; rw [hr.out, if_neg (by decide), if_pos rfl]; rfl
    rw [hr2.out]
    clear hr hr2
    go_enter Try.func92, Try.ntmps92
    go_wp2_with (first | (go_at_call 101; refine (tag_any _ _).mono ?_; rintro e w' ⟨rfl, rfl⟩) | (go_at_call 93; refine (value_any _ _).mono ?_; rintro e w' ⟨rfl, rfl⟩) | (go_at_call 58; refine (int_any _ _).mono ?_; rintro e w' ⟨rfl, rfl⟩))
    go_ret2
    exact ⟨rfl, rfl⟩
  · cases hN : isN (a / 8 * (b / 8)) with
    | true =>
      have hr2 : Hid (rk 2 a b = (8 * (a / 8 * (b / 8)), 0)) := by unfold Hid; rw [hr.out, if_neg (by decide), if_neg (by decide), if_pos rfl, hN]; rfl
      have hN1 := isN_iff.1 hN
      rw [hr2.out]
      clear hr hr2
      go_enter Try.func92, Try.ntmps92
      go_wp2_with (first | (go_at_call 101; refine (tag_any _ _).mono ?_; rintro e w' ⟨rfl, rfl⟩) | (go_at_call 93; refine (value_any _ _).mono ?_; rintro e w' ⟨rfl, rfl⟩) | (go_at_call 102; refine (times_ok _ _ _ A1 A2 B1 B2 hN).mono ?_; rintro e w' ⟨rfl, rfl⟩) | (go_at_call 58; refine (int_ok _ _ hN1.1 hN1.2).mono ?_; rintro e w' ⟨rfl, rfl⟩))
      go_ret2
      exact ⟨rfl, rfl⟩
    | false =>
      have hr2 : Hid (rk 2 a b = (0, 10)) := by unfold Hid; rw [hr.out, if_neg (by decide), if_neg (by decide), if_pos rfl, hN]; rfl
      obtain ⟨n, hn⟩ := times_no (a / 8) (b / 8) w A1 A2 B1 B2 hN
      have HN := Lib.hid hn
      rw [hr2.out]
      clear hr hr2 hn
      go_enter Try.func92, Try.ntmps92
      go_wp2_with (first | (go_at_call 101; refine (tag_any _ _).mono ?_; rintro e w' ⟨rfl, rfl⟩) | (go_at_call 93; refine (value_any _ _).mono ?_; rintro e w' ⟨rfl, rfl⟩) | (go_at_call 102; refine HN.out.mono ?_; rintro e w' ⟨rfl, rfl⟩))
      go_ret2
      exact ⟨rfl, rfl⟩
  all_goals
    have hq : IntKind.i64.wrap ((a / 8).tdiv (b / 8)) = (a / 8).tdiv (b / 8) := IntWalk.i64_in _ (by have := tdiv_bd (a / 8) (b / 8) A1 A2; omega)
    by_cases hz : b / 8 = 0
  · have hr2 : Hid (rk 3 a b = (0, 11)) := by unfold Hid; rw [hr.out, if_neg (by decide), if_neg (by decide), if_neg (by decide), if_pos hz]
    have hz2 : (b / 8 == 0) = true := by rw [beq_iff_eq]; exact hz
    rw [hr2.out]
    clear hr hr2 hz
    go_enter Try.func92, Try.ntmps92
    go_wp2_with (first | (go_at_call 101; refine (tag_any _ _).mono ?_; rintro e w' ⟨rfl, rfl⟩) | (go_at_call 93; refine (value_any _ _).mono ?_; rintro e w' ⟨rfl, rfl⟩))
    go_ret2
    exact ⟨rfl, rfl⟩
  · have hr2 : Hid (rk 3 a b = intA ((a / 8).tdiv (b / 8))) := by unfold Hid; rw [hr.out, if_neg (by decide), if_neg (by decide), if_neg (by decide), if_neg hz, if_pos rfl]; rfl
    have hz2 : (b / 8 == 0) = false := by rw [beq_eq_false_iff_ne]; exact hz
    have hd := Lib.hid (tdiv_bd (a / 8) (b / 8) A1 A2)
    rw [hr2.out]
    clear hr hr2
    go_enter Try.func92, Try.ntmps92
    go_wp2_with (first | (go_at_call 101; refine (tag_any _ _).mono ?_; rintro e w' ⟨rfl, rfl⟩) | (go_at_call 93; refine (value_any _ _).mono ?_; rintro e w' ⟨rfl, rfl⟩) | (go_at_call 58; refine (int_any _ _).mono ?_; rintro e w' ⟨rfl, rfl⟩))
    go_ret2
    exact ⟨rfl, rfl⟩
  · have hr2 : Hid (rk 4 a b = (0, 11)) := by unfold Hid; rw [hr.out, if_neg (by decide), if_neg (by decide), if_neg (by decide), if_pos hz]
    have hz2 : (b / 8 == 0) = true := by rw [beq_iff_eq]; exact hz
    rw [hr2.out]
    clear hr hr2 hz
    go_enter Try.func92, Try.ntmps92
    go_wp2_with (first | (go_at_call 101; refine (tag_any _ _).mono ?_; rintro e w' ⟨rfl, rfl⟩) | (go_at_call 93; refine (value_any _ _).mono ?_; rintro e w' ⟨rfl, rfl⟩))
    go_ret2
    exact ⟨rfl, rfl⟩
  · have hr2 : Hid (rk 4 a b = (8 * ((a / 8).tmod (b / 8)), 0)) := by unfold Hid; rw [hr.out, if_neg (by decide), if_neg (by decide), if_neg (by decide), if_neg hz, if_neg (by decide)]
    have hz2 : (b / 8 == 0) = false := by rw [beq_eq_false_iff_ne]; exact hz
    have hm := Lib.hid (tmod_bd (a / 8) (b / 8) A1 A2)
    rw [hr2.out]
    clear hr hr2
    go_enter Try.func92, Try.ntmps92
    go_wp2_with (first | (go_at_call 101; refine (tag_any _ _).mono ?_; rintro e w' ⟨rfl, rfl⟩) | (go_at_call 93; refine (value_any _ _).mono ?_; rintro e w' ⟨rfl, rfl⟩) | (go_at_call 58; refine (int_ok _ _ hm.out.1 hm.out.2).mono ?_; rintro e w' ⟨rfl, rfl⟩))
    go_ret2
    exact ⟨rfl, rfl⟩

end Go.Proofs.Ytalfnaielhbocaa
