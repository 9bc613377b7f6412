/- Contracts of times, Reckon and their references. -/
import Derived.Test.YthbnhneibpoooaaQMA
import Derived.Lib.Hide
import Derived.Deep.QuietTactic
import Derived.BigQuiet
set_option linter.unusedVariables false
set_option linter.unusedSimpArgs false
set_option linter.unnecessarySimpa false
namespace Go.Proofs.Ythbnhneibpoooaa
open Go.RowKit
set_option linter.unusedVariables false

/-- One walk of 'times': the factors' sizes x, y, their product p. -/
theorem times_core (a b n : Int) (x y p : Nat) (w : World) (hx : x ≤ 1152921504606846976) (hy : y ≤ 1152921504606846976)
    (ha : (0 ≤ a ∧ a = x) ∨ (a < 0 ∧ a = -(x : Int))) (hb : (0 ≤ b ∧ b = y) ∨ (b < 0 ∧ b = -(y : Int)))
    (hp : Hid (x * y = p)) (hn : Hid (n = if (decide (a < 0) != decide (b < 0)) then -(p : Int) else p)) (hs : p ≤ 1152921504606846976) :
    Calls Try.prog 74 #[.int .i64 a, .int .i64 b] w fun e w' => e = .returned (.tuple #[.int .i64 n, .bool (isN n)]) ∧ w' = w := by
  have h1 : ((p / 18446744073709551616 : Nat) : Int) = 0 := by omega
  have h2 : ((p % 18446744073709551616 : Nat) : Int) = p := by omega
  have H1 := Lib.hid h1
  have H2 := Lib.hid h2
  clear h1 h2
  have px : decide ((x : Int) < 0) = false := by simp
  have py : decide ((y : Int) < 0) = false := by simp
  rcases ha with ⟨ha, rfl⟩ | ⟨ha, rfl⟩ <;> rcases hb with ⟨hb, rfl⟩ | ⟨hb, rfl⟩
  all_goals
    try have qx : decide (0 < x) = true := by rw [decide_eq_true_eq]; omega
    try have qy : decide (0 < y) = true := by rw [decide_eq_true_eq]; omega
    go_enter Try.func74, Try.ntmps74
    go_wp2_with fail
    refine (mul64_any x y (by omega) (by omega) _).mono ?_
    rintro e w' ⟨rfl, rfl⟩
    rw [hp.out, H1.out, H2.out]
    go_wp2_with (go_at_call 71; refine (isNumber_any _ _).mono ?_; rintro e w' ⟨rfl, rfl⟩)
    go_ret2
    have hn2 := hn.out
    first
      | rw [px, py] at hn2
      | rw [px, decide_eq_true hb] at hn2
      | rw [py, decide_eq_true ha] at hn2
      | rw [decide_eq_true ha, decide_eq_true hb] at hn2
    first
      | rw [if_pos (by decide)] at hn2
      | rw [if_neg (by decide)] at hn2
    rw [hn2]
    exact ⟨rfl, rfl⟩
theorem times_big (a b : Int) (x y p : Nat) (w : World) (hx : x ≤ 1152921504606846976) (hy : y ≤ 1152921504606846976)
    (ha : (0 ≤ a ∧ a = x) ∨ (a < 0 ∧ a = -(x : Int))) (hb : (0 ≤ b ∧ b = y) ∨ (b < 0 ∧ b = -(y : Int)))
    (hp : Hid (x * y = p)) (hs : 1152921504606846976 < p) :
    Calls Try.prog 74 #[.int .i64 a, .int .i64 b] w fun e w' => e = .returned (.tuple #[.int .i64 0, .bool false]) ∧ w' = w := by
  by_cases hh : p < 18446744073709551616
  · have h1 : ((p / 18446744073709551616 : Nat) : Int) = 0 := by omega
    have h2 : ((p % 18446744073709551616 : Nat) : Int) = p := by omega
    have H1 := Lib.hid h1
    have H2 := Lib.hid h2
    clear h1 h2
    rcases ha with ⟨ha, rfl⟩ | ⟨ha, rfl⟩ <;> rcases hb with ⟨hb, rfl⟩ | ⟨hb, rfl⟩
    all_goals
      go_enter Try.func74, Try.ntmps74
      go_wp2_with fail
      refine (mul64_any x y (by omega) (by omega) _).mono ?_
      rintro e w' ⟨rfl, rfl⟩
      rw [hp.out, H1.out, H2.out]
      go_wp2
      go_ret2
      exact ⟨rfl, rfl⟩
  · have h2 : (((p / 18446744073709551616 : Nat) : Int) != 0) = true := by rw [bne_iff_ne]; omega
    have h3 : 1 ≤ ((p / 18446744073709551616 : Nat) : Int) := by omega
    obtain ⟨hi, Hi⟩ : ∃ hi : Int, Hid (((p / 18446744073709551616 : Nat) : Int) = hi) := ⟨_, rfl⟩
    rw [Hi.out] at h2 h3
    rcases ha with ⟨ha, rfl⟩ | ⟨ha, rfl⟩ <;> rcases hb with ⟨hb, rfl⟩ | ⟨hb, rfl⟩
    all_goals
      go_enter Try.func74, Try.ntmps74
      go_wp2_with fail
      refine (mul64_any x y (by omega) (by omega) _).mono ?_
      rintro e w' ⟨rfl, rfl⟩
      rw [hp.out, Hi.out]
      go_wp2
      go_ret2
      exact ⟨rfl, rfl⟩

theorem abs_of (a : Int) (h1 : -1152921504606846976 ≤ a) (h2 : a ≤ 1152921504606846975) :
    ∃ x : Nat, x ≤ 1152921504606846976 ∧ ((0 ≤ a ∧ a = x) ∨ (a < 0 ∧ a = -(x : Int))) :=
  ⟨a.natAbs, by omega, by omega⟩

theorem prod_of (a b : Int) (x y : Nat) (ha : (0 ≤ a ∧ a = x) ∨ (a < 0 ∧ a = -(x : Int))) (hb : (0 ≤ b ∧ b = y) ∨ (b < 0 ∧ b = -(y : Int))) :
    a * b = if (decide (a < 0) != decide (b < 0)) then -((x * y : Nat) : Int) else ((x * y : Nat) : Int) := by
  rcases ha with ⟨ha, rfl⟩ | ⟨ha, rfl⟩ <;> rcases hb with ⟨hb, rfl⟩ | ⟨hb, rfl⟩
  · rw [decide_eq_false (Int.not_lt.2 ha), decide_eq_false (Int.not_lt.2 hb), if_neg (by decide), Int.natCast_mul]
  · rw [decide_eq_false (Int.not_lt.2 ha), decide_eq_true hb, if_pos (by decide), Int.natCast_mul, Int.mul_neg]
  · rw [decide_eq_true ha, decide_eq_false (Int.not_lt.2 hb), if_pos (by decide), Int.natCast_mul, Int.neg_mul]
  · rw [decide_eq_true ha, decide_eq_true hb, if_neg (by decide), Int.natCast_mul, Int.neg_mul_neg]

theorem times_ok (a b : Int) (w : World) (a1 : -1152921504606846976 ≤ a) (a2 : a ≤ 1152921504606846975) (b1 : -1152921504606846976 ≤ b) (b2 : b ≤ 1152921504606846975) (h : isN (a * b) = true) :
    Calls Try.prog 74 #[.int .i64 a, .int .i64 b] w fun e w' => e = .returned (.tuple #[.int .i64 (a * b), .bool true]) ∧ w' = w := by
  obtain ⟨x, hx, ha⟩ := abs_of a a1 a2
  obtain ⟨y, hy, hb⟩ := abs_of b b1 b2
  have hp := prod_of a b x y ha hb
  have hs : x * y ≤ 1152921504606846976 := by
    rw [isN_iff, hp] at h
    split at h <;> omega
  have := times_core a b (a * b) x y (x * y) w hx hy ha hb rfl hp hs
  rw [h] at this
  exact this

theorem times_no (a b : Int) (w : World) (a1 : -1152921504606846976 ≤ a) (a2 : a ≤ 1152921504606846975) (b1 : -1152921504606846976 ≤ b) (b2 : b ≤ 1152921504606846975) (h : isN (a * b) = false) :
    ∃ n : Int, Calls Try.prog 74 #[.int .i64 a, .int .i64 b] w fun e w' => e = .returned (.tuple #[.int .i64 n, .bool false]) ∧ w' = w := by
  obtain ⟨x, hx, ha⟩ := abs_of a a1 a2
  obtain ⟨y, hy, hb⟩ := abs_of b b1 b2
  have hp := prod_of a b x y ha hb
  by_cases hs : x * y ≤ 1152921504606846976
  · have := times_core a b (a * b) x y (x * y) w hx hy ha hb rfl hp hs
    rw [h] at this
    exact ⟨_, this⟩
  · exact ⟨_, times_big a b x y (x * y) w hx hy ha hb rfl (by omega)⟩
end Go.Proofs.Ythbnhneibpoooaa
/- Contracts of Reckon and of the reference's Reckon: both compute 'rk'. -/
namespace Go.Proofs.Ythbnhneibpoooaa
open Go.RowKit
set_option linter.unusedVariables false

theorem tdiv_bd (x y : Int) (h1 : -1152921504606846976 ≤ x) (h2 : x ≤ 1152921504606846975) : -1152921504606846976 ≤ x.tdiv y ∧ x.tdiv y ≤ 1152921504606846976 := by
  have := Int.natAbs_tdiv_le_natAbs x y
  omega
theorem tmod_bd (x y : Int) (h1 : -1152921504606846976 ≤ x) (h2 : x ≤ 1152921504606846975) : -1152921504606846976 ≤ x.tmod y ∧ x.tmod y ≤ 1152921504606846975 := by
  have a := Int.natAbs_tmod x y
  have b := Nat.mod_le x.natAbs y.natAbs
  rcases Int.le_total 0 x with h | h
  · have := Int.tmod_nonneg y h
    omega
  · have e : x.tmod y = -((-x).tmod y) := by rw [Int.neg_tmod]; omega
    have := Int.tmod_nonneg y (show 0 ≤ -x by omega)
    omega

set_option maxHeartbeats 1000000 in
theorem reckon_any (op a b : Int) (w : World) (a1 : -9223372036854775808 ≤ a) (a2 : a ≤ 9223372036854775807) (b1 : -9223372036854775808 ≤ b) (b2 : b ≤ 9223372036854775807) :
    Calls Try.prog 54 #[.int .i64 op, .int .i64 a, .int .i64 b] w fun e w' => e = .returned (.tuple #[.int .i64 (rk op a b).1, .int .i64 (rk op a b).2]) ∧ w' = w := by
  have A1 : -1152921504606846976 ≤ a / 8 := by omega
  have A2 : a / 8 ≤ 1152921504606846975 := by omega
  have B1 : -1152921504606846976 ≤ b / 8 := by omega
  have B2 : b / 8 ≤ 1152921504606846975 := by omega
  by_cases ho : op < 0 ∨ 4 < op
  · have hr : Hid (rk op a b = (0, 1)) := by unfold Hid rk; rw [if_pos ho]
    rw [hr.out]
    clear a1 a2 b1 b2 A1 A2 B1 B2
    rcases ho with ho | ho
    all_goals
      go_enter Try.func54, Try.ntmps54
      go_wp2
      all_goals go_ret2
      all_goals exact ⟨rfl, rfl⟩
  by_cases ht : a % 8 ≠ 0 ∨ b % 8 ≠ 0
  · have hr : Hid (rk op a b = (0, 12)) := by unfold Hid rk; rw [if_neg ho, if_pos ht]
    rw [hr.out]
    have o1 : 0 ≤ op := by omega
    have o2 : op ≤ 4 := by omega
    by_cases ha : a % 8 = 0
    · have hb : (b % 8 != 0) = true := by rw [bne_iff_ne]; omega
      have hA : (a % 8 != 0) = false := by rw [ha]; rfl
      clear ho ht ha
      go_enter Try.func54, Try.ntmps54
      go_wp2_with (go_at_call 73; refine (tag_any _ _).mono ?_; rintro e w' ⟨rfl, rfl⟩)
      go_ret2
      exact ⟨rfl, rfl⟩
    · have hA : (a % 8 != 0) = true := by rw [bne_iff_ne]; omega
      clear ho ht ha
      go_enter Try.func54, Try.ntmps54
      go_wp2_with (go_at_call 73; refine (tag_any _ _).mono ?_; rintro e w' ⟨rfl, rfl⟩)
      go_ret2
      exact ⟨rfl, rfl⟩
  have hA : (a % 8 != 0) = false := by rw [bne_eq_false_iff_eq]; omega
  have hB : (b % 8 != 0) = false := by rw [bne_eq_false_iff_eq]; omega
  have hop : op = 0 ∨ op = 1 ∨ op = 2 ∨ op = 3 ∨ op = 4 := by omega
  have hr : Hid (rk op a b = if op = 0 then (if isN (a / 8 + b / 8) then (8 * (a / 8 + b / 8), 0) else (0, 10))
      else if op = 1 then (if isN (a / 8 - b / 8) then (8 * (a / 8 - b / 8), 0) else (0, 10))
      else if op = 2 then (if isN (a / 8 * (b / 8)) then (8 * (a / 8 * (b / 8)), 0) else (0, 10))
      else if b / 8 = 0 then (0, 11)
      else if op = 3 then (if isN ((a / 8).tdiv (b / 8)) then (8 * ((a / 8).tdiv (b / 8)), 0) else (0, 10))
      else (8 * ((a / 8).tmod (b / 8)), 0)) := by
    unfold Hid rk; rw [if_neg ho, if_neg ht]
  clear ho ht a1 a2 b1 b2
  rcases hop with rfl | rfl | rfl | rfl | rfl
  · have hr2 : Hid (rk 0 a b = intA (a / 8 + b / 8)) := by unfold Hid; rw [hr.out, if_pos rfl]; rfl
    rw [hr2.out]
    clear hr hr2
    go_enter Try.func54, Try.ntmps54
    go_wp2_with (first | (go_at_call 73; refine (tag_any _ _).mono ?_; rintro e w' ⟨rfl, rfl⟩) | (go_at_call 55; refine (value_any _ _).mono ?_; rintro e w' ⟨rfl, rfl⟩) | (go_at_call 53; refine (int_any _ _).mono ?_; rintro e w' ⟨rfl, rfl⟩))
    go_ret2
    exact ⟨rfl, rfl⟩
  · have hr2 : Hid (rk 1 a b = intA (a / 8 - b / 8)) := by unfold Hid; rw [hr.out, if_neg (by decide), if_pos rfl]; rfl
    rw [hr2.out]
    clear hr hr2
    go_enter Try.func54, Try.ntmps54
    go_wp2_with (first | (go_at_call 73; refine (tag_any _ _).mono ?_; rintro e w' ⟨rfl, rfl⟩) | (go_at_call 55; refine (value_any _ _).mono ?_; rintro e w' ⟨rfl, rfl⟩) | (go_at_call 53; refine (int_any _ _).mono ?_; rintro e w' ⟨rfl, rfl⟩))
    go_ret2
    exact ⟨rfl, rfl⟩
  · cases hN : isN (a / 8 * (b / 8)) with
    | true =>
      have hr2 : Hid (rk 2 a b = (8 * (a / 8 * (b / 8)), 0)) := by unfold Hid; rw [hr.out, if_neg (by decide), if_neg (by decide), if_pos rfl, hN]; rfl
      have hN1 := isN_iff.1 hN
      rw [hr2.out]
      clear hr hr2
      go_enter Try.func54, Try.ntmps54
      go_wp2_with (first | (go_at_call 73; refine (tag_any _ _).mono ?_; rintro e w' ⟨rfl, rfl⟩) | (go_at_call 55; refine (value_any _ _).mono ?_; rintro e w' ⟨rfl, rfl⟩) | (go_at_call 74; refine (times_ok _ _ _ A1 A2 B1 B2 hN).mono ?_; rintro e w' ⟨rfl, rfl⟩) | (go_at_call 53; refine (int_ok _ _ hN1.1 hN1.2).mono ?_; rintro e w' ⟨rfl, rfl⟩))
      go_ret2
      exact ⟨rfl, rfl⟩
    | false =>
      have hr2 : Hid (rk 2 a b = (0, 10)) := by unfold Hid; rw [hr.out, if_neg (by decide), if_neg (by decide), if_pos rfl, hN]; rfl
      obtain ⟨n, hn⟩ := times_no (a / 8) (b / 8) w A1 A2 B1 B2 hN
      have HN := Lib.hid hn
      rw [hr2.out]
      clear hr hr2 hn
      go_enter Try.func54, Try.ntmps54
      go_wp2_with (first | (go_at_call 73; refine (tag_any _ _).mono ?_; rintro e w' ⟨rfl, rfl⟩) | (go_at_call 55; refine (value_any _ _).mono ?_; rintro e w' ⟨rfl, rfl⟩) | (go_at_call 74; refine HN.out.mono ?_; rintro e w' ⟨rfl, rfl⟩))
      go_ret2
      exact ⟨rfl, rfl⟩
  all_goals
    have hq : IntKind.i64.wrap ((a / 8).tdiv (b / 8)) = (a / 8).tdiv (b / 8) := IntWalk.i64_in _ (by have := tdiv_bd (a / 8) (b / 8) A1 A2; omega)
    by_cases hz : b / 8 = 0
  · have hr2 : Hid (rk 3 a b = (0, 11)) := by unfold Hid; rw [hr.out, if_neg (by decide), if_neg (by decide), if_neg (by decide), if_pos hz]
    have hz2 : (b / 8 == 0) = true := by rw [beq_iff_eq]; exact hz
    rw [hr2.out]
    clear hr hr2 hz
    go_enter Try.func54, Try.ntmps54
    go_wp2_with (first | (go_at_call 73; refine (tag_any _ _).mono ?_; rintro e w' ⟨rfl, rfl⟩) | (go_at_call 55; refine (value_any _ _).mono ?_; rintro e w' ⟨rfl, rfl⟩))
    go_ret2
    exact ⟨rfl, rfl⟩
  · have hr2 : Hid (rk 3 a b = intA ((a / 8).tdiv (b / 8))) := by unfold Hid; rw [hr.out, if_neg (by decide), if_neg (by decide), if_neg (by decide), if_neg hz, if_pos rfl]; rfl
    have hz2 : (b / 8 == 0) = false := by rw [beq_eq_false_iff_ne]; exact hz
    have hd := Lib.hid (tdiv_bd (a / 8) (b / 8) A1 A2)
    rw [hr2.out]
    clear hr hr2
    go_enter Try.func54, Try.ntmps54
    go_wp2_with (first | (go_at_call 73; refine (tag_any _ _).mono ?_; rintro e w' ⟨rfl, rfl⟩) | (go_at_call 55; refine (value_any _ _).mono ?_; rintro e w' ⟨rfl, rfl⟩) | (go_at_call 53; refine (int_any _ _).mono ?_; rintro e w' ⟨rfl, rfl⟩))
    go_ret2
    exact ⟨rfl, rfl⟩
  · have hr2 : Hid (rk 4 a b = (0, 11)) := by unfold Hid; rw [hr.out, if_neg (by decide), if_neg (by decide), if_neg (by decide), if_pos hz]
    have hz2 : (b / 8 == 0) = true := by rw [beq_iff_eq]; exact hz
    rw [hr2.out]
    clear hr hr2 hz
    go_enter Try.func54, Try.ntmps54
    go_wp2_with (first | (go_at_call 73; refine (tag_any _ _).mono ?_; rintro e w' ⟨rfl, rfl⟩) | (go_at_call 55; refine (value_any _ _).mono ?_; rintro e w' ⟨rfl, rfl⟩))
    go_ret2
    exact ⟨rfl, rfl⟩
  · have hr2 : Hid (rk 4 a b = (8 * ((a / 8).tmod (b / 8)), 0)) := by unfold Hid; rw [hr.out, if_neg (by decide), if_neg (by decide), if_neg (by decide), if_neg hz, if_neg (by decide)]
    have hz2 : (b / 8 == 0) = false := by rw [beq_eq_false_iff_ne]; exact hz
    have hm := Lib.hid (tmod_bd (a / 8) (b / 8) A1 A2)
    rw [hr2.out]
    clear hr hr2
    go_enter Try.func54, Try.ntmps54
    go_wp2_with (first | (go_at_call 73; refine (tag_any _ _).mono ?_; rintro e w' ⟨rfl, rfl⟩) | (go_at_call 55; refine (value_any _ _).mono ?_; rintro e w' ⟨rfl, rfl⟩) | (go_at_call 53; refine (int_ok _ _ hm.out.1 hm.out.2).mono ?_; rintro e w' ⟨rfl, rfl⟩))
    go_ret2
    exact ⟨rfl, rfl⟩

end Go.Proofs.Ythbnhneibpoooaa
/- The fixed calls of chapter 1 answer as they should. -/
namespace Go.Proofs.Ythbnhneibpoooaa
open Go.RowKit
set_option linter.unusedVariables false

end Go.Proofs.Ythbnhneibpoooaa
/- The references of chapter 1, and the walk of TaggedMakes. -/
namespace Go.Proofs.Ythbnhneibpoooaa
open Go.RowKit
set_option linter.unusedVariables false

theorem tmod8_nonneg {w : Int} (h : 0 ≤ w) : w.tmod 8 = w % 8 := Int.tmod_eq_emod_of_nonneg h
theorem tmod8_neg {w : Int} (h : w < 0) : w.tmod 8 = -((-w) % 8) := by
  have e : w.tmod 8 = -((-w).tmod 8) := by rw [Int.neg_tmod]; omega
  rw [e, Int.tmod_eq_emod_of_nonneg (by omega)]
theorem tdiv8_nonneg {w : Int} (h : 0 ≤ w) : w.tdiv 8 = w / 8 := Int.tdiv_eq_ediv_of_nonneg h
theorem tdiv8_neg {w : Int} (h : w < 0) : w.tdiv 8 = -((-w) / 8) := by
  have e : w.tdiv 8 = -((-w).tdiv 8) := by rw [Int.neg_tdiv]; omega
  rw [e, Int.tdiv_eq_ediv_of_nonneg (by omega)]

theorem rtag_any (n : Int) (w : World) (n1 : -9223372036854775808 ≤ n) (n2 : n ≤ 9223372036854775807) :
    Calls Try.prog 79 #[.int .i64 n] w fun e w' => e = .returned (.int .i64 (n % 8)) ∧ w' = w := by
  rcases Int.lt_or_le n 0 with h | h
  · have e1 := tmod8_neg h
    by_cases hz : n % 8 = 0
    · have e2 : n.tmod 8 = 0 := by omega
      have e3 : IntKind.i64.wrap (n.tmod 8) = 0 := by rw [e2]; rfl
      rw [hz]
      clear e1 hz
      go_enter Try.func79, Try.ntmps79
      go_wp2
      all_goals go_ret
      all_goals exact ⟨rfl, rfl⟩
    · obtain ⟨t, ht⟩ : ∃ t, t = n % 8 := ⟨_, rfl⟩
      have e2 : n.tmod 8 = t - 8 := by omega
      have b1 : 0 < t := by omega
      have b2 : t < 8 := by omega
      rw [← ht]
      have e3 : t - 8 + 8 = t := by omega
      have e4 : decide (t < 8) = true := by rw [decide_eq_true_eq]; exact b2
      clear e1 ht hz
      go_enter Try.func79, Try.ntmps79
      go_wp2
      all_goals go_ret
      all_goals first | exact ⟨rfl, rfl⟩ | (simp; omega)
  · have e1 := tmod8_nonneg h
    obtain ⟨t, ht⟩ : ∃ t, t = n % 8 := ⟨_, rfl⟩
    rw [← ht] at e1
    rw [← ht]
    have b1 : 0 ≤ t := by omega
    have b2 : t < 8 := by omega
    have e4 : decide (t < 0) = false := by rw [decide_eq_false_iff_not]; omega
    clear ht
    go_enter Try.func79, Try.ntmps79
    go_wp2
    all_goals go_ret
    all_goals exact ⟨rfl, rfl⟩

theorem rvalue_any (n : Int) (w : World) (n1 : -9223372036854775808 ≤ n) (n2 : n ≤ 9223372036854775807) :
    Calls Try.prog 64 #[.int .i64 n] w fun e w' => e = .returned (.int .i64 (n / 8)) ∧ w' = w := by
  rcases Int.lt_or_le n 0 with h | h
  · have f1 := tdiv8_neg h
    have e1 := tmod8_neg h
    obtain ⟨q, hq⟩ : ∃ q, q = n.tdiv 8 := ⟨_, rfl⟩
    have e5 : n.tdiv 8 = q := hq.symm
    have b3 : -1152921504606846976 ≤ q ∧ q ≤ 0 := by omega
    have e6 : IntKind.i64.wrap (n.tdiv 8) = q := by rw [e5]; exact IntWalk.i64_in _ (by omega)
    by_cases hz : n % 8 = 0
    · have e2 : n.tmod 8 = 0 := by omega
      have e3 : n / 8 = q := by omega
      rw [e3]
      clear e1 hz f1 hq e3
      go_enter Try.func64, Try.ntmps64
      go_wp2
      all_goals go_ret
      all_goals exact ⟨rfl, rfl⟩
    · obtain ⟨t, ht⟩ : ∃ t, t = n.tmod 8 := ⟨_, rfl⟩
      have e2 : n.tmod 8 = t := ht.symm
      have b2 : t < 0 := by omega
      have e4 : decide (t < 0) = true := by rw [decide_eq_true_eq]; exact b2
      have e3 : n / 8 = q - 1 := by omega
      rw [e3]
      clear e1 ht hz f1 hq e3
      go_enter Try.func64, Try.ntmps64
      go_wp2
      all_goals go_ret
      all_goals exact ⟨rfl, rfl⟩
  · have e5 := tdiv8_nonneg h
    have e1 := tmod8_nonneg h
    obtain ⟨t, ht⟩ : ∃ t, t = n % 8 := ⟨_, rfl⟩
    rw [← ht] at e1
    have b1 : 0 ≤ t := by omega
    have e4 : decide (t < 0) = false := by rw [decide_eq_false_iff_not]; omega
    have e6 : IntKind.i64.wrap (n.tdiv 8) = n / 8 := by rw [e5]; exact IntWalk.i64_in _ (by omega)
    clear ht
    go_enter Try.func64, Try.ntmps64
    go_wp2
    all_goals go_ret
    all_goals exact ⟨rfl, rfl⟩

/-- What Make answers. -/
def makeA (t n : Int) : Int × Int := if t = 0 then intA n else tagA t n



end Go.Proofs.Ythbnhneibpoooaa
/- The reference's Times and Reckon, and the walk of TaggedReckons. -/
namespace Go.Proofs.Ythbnhneibpoooaa
open Go.RowKit
set_option linter.unusedVariables false

theorem rtimes_ok (a b : Int) (a1 : -1152921504606846976 ≤ a) (a2 : a ≤ 1152921504606846975) (b1 : -1152921504606846976 ≤ b) (b2 : b ≤ 1152921504606846975) :
    ∃ n : Int, (isN (a * b) = true → n = a * b) ∧ ∀ w : World, Calls Try.prog 80 #[.int .i64 a, .int .i64 b] w fun e w' => e = .returned (.tuple #[.int .i64 n, .bool (isN (a * b))]) ∧ ∃ k, w' = w.drewN k := by
  have one : isN 0 = true := by decide
  by_cases za : a = 0
  · subst za
    rw [Int.zero_mul, one]
    refine ⟨0, fun _ => rfl, fun w => ?_⟩
    go_enter Try.func80, Try.ntmps80
    go_wp2
    all_goals go_ret2
    all_goals exact ⟨rfl, 0, rfl⟩
  have za2 : (a == 0) = false := by rw [beq_eq_false_iff_ne]; exact za
  by_cases zb : b = 0
  · subst zb
    rw [Int.mul_zero, one]
    refine ⟨0, fun _ => rfl, fun w => ?_⟩
    go_enter Try.func80, Try.ntmps80
    go_wp2
    all_goals go_ret2
    all_goals exact ⟨rfl, 0, rfl⟩
  have zb2 : (b == 0) = false := by rw [beq_eq_false_iff_ne]; exact zb
  by_cases na : a = -1
  · subst na
    have e : -1 * b = -b := by omega
    rw [e]
    refine ⟨-b, fun _ => rfl, fun w => ?_⟩
    have d : isN (-b) = decide (-b ≤ 1152921504606846975) := by
      unfold isN
      by_cases h : -b ≤ 1152921504606846975
      · rw [decide_eq_true h, decide_eq_true (by omega)]
      · rw [decide_eq_false h, decide_eq_false (by omega)]
    rw [d]
    clear e
    go_enter Try.func80, Try.ntmps80
    go_wp2
    all_goals go_ret2
    all_goals exact ⟨rfl, 0, rfl⟩
  have na2 : (a == -1) = false := by rw [beq_eq_false_iff_ne]; exact na
  by_cases nb : b = -1
  · subst nb
    have e : a * -1 = -a := by omega
    rw [e]
    refine ⟨-a, fun _ => rfl, fun w => ?_⟩
    have d : isN (-a) = decide (-a ≤ 1152921504606846975) := by
      unfold isN
      by_cases h : -a ≤ 1152921504606846975
      · rw [decide_eq_true h, decide_eq_true (by omega)]
      · rw [decide_eq_false h, decide_eq_false (by omega)]
    rw [d]
    clear e
    go_enter Try.func80, Try.ntmps80
    go_wp2
    all_goals go_ret2
    all_goals exact ⟨rfl, 0, rfl⟩
  have nb2 : (b == -1) = false := by rw [beq_eq_false_iff_ne]; exact nb
  obtain ⟨M, hM⟩ : ∃ M, M = (1152921504606846975 : Int).tdiv b := ⟨_, rfl⟩
  obtain ⟨L, hL⟩ : ∃ L, L = (-1152921504606846976 : Int).tdiv b := ⟨_, rfl⟩
  have bM := tdiv_bd 1152921504606846975 b (by decide) (by decide)
  have bL := tdiv_bd (-1152921504606846976) b (by decide) (by decide)
  rw [← hM] at bM
  rw [← hL] at bL
  have wM : IntKind.i64.wrap ((1152921504606846975 : Int).tdiv b) = M := by rw [← hM]; exact IntWalk.i64_in _ (by omega)
  have wL : IntKind.i64.wrap (-((1152921504606846976 : Int).tdiv b)) = L := by rw [← Int.neg_tdiv, ← hL]; exact IntWalk.i64_in _ (by omega)
  rcases Int.lt_or_lt_of_ne zb with hb | hb
  · -- below -1
    have sb : decide (b < 0) = true := by rw [decide_eq_true_eq]; exact hb
    have eM : M = -(1152921504606846975 / -b) := by
      rw [hM]; have := Int.tdiv_neg 1152921504606846975 (-b)
      rw [Int.neg_neg] at this
      rw [this, Int.tdiv_eq_ediv_of_nonneg (by decide)]
    have eL : L = 1152921504606846976 / -b := by
      rw [hL]; have := Int.neg_tdiv_neg 1152921504606846976 (-b)
      rw [Int.neg_neg] at this
      rw [this, Int.tdiv_eq_ediv_of_nonneg (by decide)]
    have cL : a ≤ L ↔ a * -b ≤ 1152921504606846976 := by rw [eL]; exact Int.le_ediv_iff_mul_le (by omega)
    have cM : -a ≤ 1152921504606846975 / -b ↔ -a * -b ≤ 1152921504606846975 := Int.le_ediv_iff_mul_le (by omega)
    rw [Int.mul_neg] at cL
    rw [Int.neg_mul_neg] at cM
    obtain ⟨p, hp⟩ : ∃ p, p = a * b := ⟨_, rfl⟩
    rw [← hp] at cL cM
    by_cases h1 : L < a
    · have : isN p = false := isN_false (by omega)
      rw [← hp, this]
      refine ⟨0, fun h => by simp at h, fun w => ?_⟩
      have d1 : decide (L < a) = true := by rw [decide_eq_true_eq]; exact h1
      clear cL cM eM eL hM hL hp
      go_enter Try.func80, Try.ntmps80
      go_wp2
      go_quiet (fail)
      all_goals go_wp2
      all_goals go_ret2
      all_goals exact ⟨rfl, _, rfl⟩
    · have d1 : decide (L < a) = false := by rw [decide_eq_false_iff_not]; exact h1
      by_cases h2 : a < M
      · have : isN p = false := isN_false (by omega)
        rw [← hp, this]
        refine ⟨0, fun h => by simp at h, fun w => ?_⟩
        have d2 : decide (a < M) = true := by rw [decide_eq_true_eq]; exact h2
        clear cL cM eM eL hM hL hp
        go_enter Try.func80, Try.ntmps80
        go_wp2
        go_quiet (fail)
        all_goals go_wp2
        all_goals go_ret2
        all_goals exact ⟨rfl, _, rfl⟩
      · have d2 : decide (a < M) = false := by rw [decide_eq_false_iff_not]; exact h2
        have b1 : -1152921504606846976 ≤ p := by omega
        have b2 : p ≤ 1152921504606846975 := by omega
        rw [← hp, isN_true ⟨b1, b2⟩]
        refine ⟨p, fun h => rfl, fun w => ?_⟩
        have hp2 := hp.symm
        clear cL cM eM eL hM hL hp
        go_enter Try.func80, Try.ntmps80
        go_wp2
        go_quiet (fail)
        all_goals go_wp2
        all_goals go_ret2
        all_goals exact ⟨rfl, _, rfl⟩
  · have sb : decide (b < 0) = false := by rw [decide_eq_false_iff_not]; omega
    have eM : M = 1152921504606846975 / b := by rw [hM, Int.tdiv_eq_ediv_of_nonneg (by decide)]
    have eL : L = -(1152921504606846976 / b) := by
      rw [hL, Int.neg_tdiv, Int.tdiv_eq_ediv_of_nonneg (by decide)]
    have cM : a ≤ M ↔ a * b ≤ 1152921504606846975 := by rw [eM]; exact Int.le_ediv_iff_mul_le (by omega)
    have cL : -a ≤ 1152921504606846976 / b ↔ -a * b ≤ 1152921504606846976 := Int.le_ediv_iff_mul_le (by omega)
    rw [Int.neg_mul] at cL
    obtain ⟨p, hp⟩ : ∃ p, p = a * b := ⟨_, rfl⟩
    rw [← hp] at cL cM
    by_cases h1 : M < a
    · have : isN p = false := isN_false (by omega)
      rw [← hp, this]
      refine ⟨0, fun h => by simp at h, fun w => ?_⟩
      have d1 : decide (M < a) = true := by rw [decide_eq_true_eq]; exact h1
      clear cL cM eM eL hM hL hp
      go_enter Try.func80, Try.ntmps80
      go_wp2
      go_quiet (fail)
      all_goals go_wp2
      all_goals go_ret2
      all_goals exact ⟨rfl, _, rfl⟩
    · have d1 : decide (M < a) = false := by rw [decide_eq_false_iff_not]; exact h1
      by_cases h2 : a < L
      · have : isN p = false := isN_false (by omega)
        rw [← hp, this]
        refine ⟨0, fun h => by simp at h, fun w => ?_⟩
        have d2 : decide (a < L) = true := by rw [decide_eq_true_eq]; exact h2
        clear cL cM eM eL hM hL hp
        go_enter Try.func80, Try.ntmps80
        go_wp2
        go_quiet (fail)
        all_goals go_wp2
        all_goals go_ret2
        all_goals exact ⟨rfl, _, rfl⟩
      · have d2 : decide (a < L) = false := by rw [decide_eq_false_iff_not]; exact h2
        have b1 : -1152921504606846976 ≤ p := by omega
        have b2 : p ≤ 1152921504606846975 := by omega
        rw [← hp, isN_true ⟨b1, b2⟩]
        refine ⟨p, fun h => rfl, fun w => ?_⟩
        have hp2 := hp.symm
        clear cL cM eM eL hM hL hp
        go_enter Try.func80, Try.ntmps80
        go_wp2
        go_quiet (fail)
        all_goals go_wp2
        all_goals go_ret2
        all_goals exact ⟨rfl, _, rfl⟩

theorem intA_lt {n : Int} (h : n < -1152921504606846976) : intA n = (0, 10) := by unfold intA; rw [isN_false (.inl h)]; rfl
theorem intA_gt {n : Int} (h : 1152921504606846975 < n) : intA n = (0, 10) := by unfold intA; rw [isN_false (.inr h)]; rfl
theorem intA_is {n : Int} (h1 : -1152921504606846976 ≤ n) (h2 : n ≤ 1152921504606846975) : intA n = (8 * n, 0) := by unfold intA; rw [isN_true ⟨h1, h2⟩]; rfl

set_option maxHeartbeats 1000000 in
theorem rreckon_any (op a b : Int) (w : World) (a1 : -9223372036854775808 ≤ a) (a2 : a ≤ 9223372036854775807) (b1 : -9223372036854775808 ≤ b) (b2 : b ≤ 9223372036854775807) :
    Calls Try.prog 63 #[.int .i64 op, .int .i64 a, .int .i64 b] w fun e w' => e = .returned (.tuple #[.int .i64 (rk op a b).1, .int .i64 (rk op a b).2]) ∧ ∃ k, w' = w.drewN k := by
  have A1 : -1152921504606846976 ≤ a / 8 := by omega
  have A2 : a / 8 ≤ 1152921504606846975 := by omega
  have B1 : -1152921504606846976 ≤ b / 8 := by omega
  have B2 : b / 8 ≤ 1152921504606846975 := by omega
  have HT : Hid True := trivial
  by_cases ho : op < 0 ∨ 4 < op
  · have hr : Hid (rk op a b = (0, 1)) := by unfold Hid rk; rw [if_pos ho]
    rw [hr.out]
    clear a1 a2 b1 b2 A1 A2 B1 B2 HT
    rcases ho with ho | ho
    all_goals
      go_enter Try.func63, Try.ntmps63
      go_wp2
      all_goals go_ret2
      all_goals exact ⟨rfl, 0, rfl⟩
  by_cases ht : a % 8 ≠ 0 ∨ b % 8 ≠ 0
  · have hr : Hid (rk op a b = (0, 12)) := by unfold Hid rk; rw [if_neg ho, if_pos ht]
    rw [hr.out]
    have o1 : 0 ≤ op := by omega
    have o2 : op ≤ 4 := by omega
    by_cases ha : a % 8 = 0
    · have hb : (b % 8 != 0) = true := by rw [bne_iff_ne]; omega
      have hA : (a % 8 != 0) = false := by rw [ha]; rfl
      clear ho ht ha HT
      go_enter Try.func63, Try.ntmps63
      go_wp2_with (first | (go_at_call 79; refine (rtag_any _ _ (by omega) (by omega)).mono ?_; rintro e w' ⟨rfl, rfl⟩) | (go_at_call 64; refine (rvalue_any _ _ (by omega) (by omega)).mono ?_; rintro e w' ⟨rfl, rfl⟩) | (go_at_call 80; refine (RowKit.Hid.out HT _).mono ?_; rintro e w' ⟨rfl, k, rfl⟩))
      go_ret2
      exact ⟨rfl, 0, rfl⟩
    · have hA : (a % 8 != 0) = true := by rw [bne_iff_ne]; omega
      clear ho ht ha HT
      go_enter Try.func63, Try.ntmps63
      go_wp2_with (first | (go_at_call 79; refine (rtag_any _ _ (by omega) (by omega)).mono ?_; rintro e w' ⟨rfl, rfl⟩) | (go_at_call 64; refine (rvalue_any _ _ (by omega) (by omega)).mono ?_; rintro e w' ⟨rfl, rfl⟩) | (go_at_call 80; refine (RowKit.Hid.out HT _).mono ?_; rintro e w' ⟨rfl, k, rfl⟩))
      go_ret2
      exact ⟨rfl, 0, rfl⟩
  have hA : (a % 8 != 0) = false := by rw [bne_eq_false_iff_eq]; omega
  have hB : (b % 8 != 0) = false := by rw [bne_eq_false_iff_eq]; omega
  have hop : op = 0 ∨ op = 1 ∨ op = 2 ∨ op = 3 ∨ op = 4 := by omega
  have hr : Hid (rk op a b = if op = 0 then (if isN (a / 8 + b / 8) then (8 * (a / 8 + b / 8), 0) else (0, 10))
      else if op = 1 then (if isN (a / 8 - b / 8) then (8 * (a / 8 - b / 8), 0) else (0, 10))
      else if op = 2 then (if isN (a / 8 * (b / 8)) then (8 * (a / 8 * (b / 8)), 0) else (0, 10))
      else if b / 8 = 0 then (0, 11)
      else if op = 3 then (if isN ((a / 8).tdiv (b / 8)) then (8 * ((a / 8).tdiv (b / 8)), 0) else (0, 10))
      else (8 * ((a / 8).tmod (b / 8)), 0)) := by
    unfold Hid rk; rw [if_neg ho, if_neg ht]
  clear ho ht
  rcases hop with rfl | rfl | rfl | rfl | rfl
  · have hr2 : Hid (rk 0 a b = intA (a / 8 + b / 8)) := by unfold Hid; rw [hr.out, if_pos rfl]; rfl
    rw [hr2.out]
    clear hr hr2 HT
    by_cases h1 : a / 8 + b / 8 < -1152921504606846976
    · rw [intA_lt h1]
      go_enter Try.func63, Try.ntmps63
      go_wp2_with (first | (go_at_call 79; refine (rtag_any _ _ (by omega) (by omega)).mono ?_; rintro e w' ⟨rfl, rfl⟩) | (go_at_call 64; refine (rvalue_any _ _ (by omega) (by omega)).mono ?_; rintro e w' ⟨rfl, rfl⟩) | (go_at_call 80; refine (RowKit.Hid.out HT _).mono ?_; rintro e w' ⟨rfl, k, rfl⟩))
      go_ret2
      exact ⟨rfl, 0, rfl⟩
    · by_cases h2 : 1152921504606846975 < a / 8 + b / 8
      · rw [intA_gt h2]
        go_enter Try.func63, Try.ntmps63
        go_wp2_with (first | (go_at_call 79; refine (rtag_any _ _ (by omega) (by omega)).mono ?_; rintro e w' ⟨rfl, rfl⟩) | (go_at_call 64; refine (rvalue_any _ _ (by omega) (by omega)).mono ?_; rintro e w' ⟨rfl, rfl⟩) | (go_at_call 80; refine (RowKit.Hid.out HT _).mono ?_; rintro e w' ⟨rfl, k, rfl⟩))
        go_ret2
        exact ⟨rfl, 0, rfl⟩
      · have h1' : -1152921504606846976 ≤ a / 8 + b / 8 := by omega
        have h2' : a / 8 + b / 8 ≤ 1152921504606846975 := by omega
        rw [intA_is h1' h2']
        go_enter Try.func63, Try.ntmps63
        go_wp2_with (first | (go_at_call 79; refine (rtag_any _ _ (by omega) (by omega)).mono ?_; rintro e w' ⟨rfl, rfl⟩) | (go_at_call 64; refine (rvalue_any _ _ (by omega) (by omega)).mono ?_; rintro e w' ⟨rfl, rfl⟩) | (go_at_call 80; refine (RowKit.Hid.out HT _).mono ?_; rintro e w' ⟨rfl, k, rfl⟩))
        go_ret2
        exact ⟨rfl, 0, rfl⟩
  · have hr2 : Hid (rk 1 a b = intA (a / 8 - b / 8)) := by unfold Hid; rw [hr.out, if_neg (by decide), if_pos rfl]; rfl
    rw [hr2.out]
    clear hr hr2 HT
    by_cases h1 : a / 8 - b / 8 < -1152921504606846976
    · rw [intA_lt h1]
      go_enter Try.func63, Try.ntmps63
      go_wp2_with (first | (go_at_call 79; refine (rtag_any _ _ (by omega) (by omega)).mono ?_; rintro e w' ⟨rfl, rfl⟩) | (go_at_call 64; refine (rvalue_any _ _ (by omega) (by omega)).mono ?_; rintro e w' ⟨rfl, rfl⟩) | (go_at_call 80; refine (RowKit.Hid.out HT _).mono ?_; rintro e w' ⟨rfl, k, rfl⟩))
      go_ret2
      exact ⟨rfl, 0, rfl⟩
    · by_cases h2 : 1152921504606846975 < a / 8 - b / 8
      · rw [intA_gt h2]
        go_enter Try.func63, Try.ntmps63
        go_wp2_with (first | (go_at_call 79; refine (rtag_any _ _ (by omega) (by omega)).mono ?_; rintro e w' ⟨rfl, rfl⟩) | (go_at_call 64; refine (rvalue_any _ _ (by omega) (by omega)).mono ?_; rintro e w' ⟨rfl, rfl⟩) | (go_at_call 80; refine (RowKit.Hid.out HT _).mono ?_; rintro e w' ⟨rfl, k, rfl⟩))
        go_ret2
        exact ⟨rfl, 0, rfl⟩
      · have h1' : -1152921504606846976 ≤ a / 8 - b / 8 := by omega
        have h2' : a / 8 - b / 8 ≤ 1152921504606846975 := by omega
        rw [intA_is h1' h2']
        go_enter Try.func63, Try.ntmps63
        go_wp2_with (first | (go_at_call 79; refine (rtag_any _ _ (by omega) (by omega)).mono ?_; rintro e w' ⟨rfl, rfl⟩) | (go_at_call 64; refine (rvalue_any _ _ (by omega) (by omega)).mono ?_; rintro e w' ⟨rfl, rfl⟩) | (go_at_call 80; refine (RowKit.Hid.out HT _).mono ?_; rintro e w' ⟨rfl, k, rfl⟩))
        go_ret2
        exact ⟨rfl, 0, rfl⟩
  · clear HT
    obtain ⟨n, hn, hc⟩ := rtimes_ok (a / 8) (b / 8) A1 A2 B1 B2
    have HT := Lib.hid hc
    clear hc
    cases hN : isN (a / 8 * (b / 8)) with
    | true =>
      obtain rfl := hn hN
      have hr2 : Hid (rk 2 a b = (8 * (a / 8 * (b / 8)), 0)) := by unfold Hid; rw [hr.out, if_neg (by decide), if_neg (by decide), if_pos rfl, hN]; rfl
      obtain ⟨h1, h2⟩ := isN_iff.1 hN
      rw [hr2.out]
      clear hr hr2 hn
      go_enter Try.func63, Try.ntmps63
      go_wp2_with (first | (go_at_call 79; refine (rtag_any _ _ (by omega) (by omega)).mono ?_; rintro e w' ⟨rfl, rfl⟩) | (go_at_call 64; refine (rvalue_any _ _ (by omega) (by omega)).mono ?_; rintro e w' ⟨rfl, rfl⟩) | (go_at_call 80; refine (RowKit.Hid.out HT _).mono ?_; rintro e w' ⟨rfl, k, rfl⟩))
      go_ret2
      exact ⟨rfl, _, rfl⟩
    | false =>
      have hr2 : Hid (rk 2 a b = (0, 10)) := by unfold Hid; rw [hr.out, if_neg (by decide), if_neg (by decide), if_pos rfl, hN]; rfl
      rw [hr2.out]
      clear hr hr2 hn
      go_enter Try.func63, Try.ntmps63
      go_wp2_with (first | (go_at_call 79; refine (rtag_any _ _ (by omega) (by omega)).mono ?_; rintro e w' ⟨rfl, rfl⟩) | (go_at_call 64; refine (rvalue_any _ _ (by omega) (by omega)).mono ?_; rintro e w' ⟨rfl, rfl⟩) | (go_at_call 80; refine (RowKit.Hid.out HT _).mono ?_; rintro e w' ⟨rfl, k, rfl⟩))
      go_ret2
      exact ⟨rfl, _, rfl⟩
  all_goals
    have hq : IntKind.i64.wrap ((a / 8).tdiv (b / 8)) = (a / 8).tdiv (b / 8) := IntWalk.i64_in _ (by have := tdiv_bd (a / 8) (b / 8) A1 A2; omega)
    by_cases hz : b / 8 = 0
  · have hr2 : Hid (rk 3 a b = (0, 11)) := by unfold Hid; rw [hr.out, if_neg (by decide), if_neg (by decide), if_neg (by decide), if_pos hz]
    have hz2 : (b / 8 == 0) = true := by rw [beq_iff_eq]; exact hz
    rw [hr2.out]
    clear hr hr2 hz HT
    go_enter Try.func63, Try.ntmps63
    go_wp2_with (first | (go_at_call 79; refine (rtag_any _ _ (by omega) (by omega)).mono ?_; rintro e w' ⟨rfl, rfl⟩) | (go_at_call 64; refine (rvalue_any _ _ (by omega) (by omega)).mono ?_; rintro e w' ⟨rfl, rfl⟩) | (go_at_call 80; refine (RowKit.Hid.out HT _).mono ?_; rintro e w' ⟨rfl, k, rfl⟩))
    go_ret2
    exact ⟨rfl, 0, rfl⟩
  · have hr2 : Hid (rk 3 a b = intA ((a / 8).tdiv (b / 8))) := by unfold Hid; rw [hr.out, if_neg (by decide), if_neg (by decide), if_neg (by decide), if_neg hz, if_pos rfl]; rfl
    have hz2 : (b / 8 == 0) = false := by rw [beq_eq_false_iff_ne]; exact hz
    obtain ⟨d1, d2⟩ := tdiv_bd (a / 8) (b / 8) A1 A2
    rw [hr2.out]
    clear hr hr2 HT
    by_cases h2 : 1152921504606846975 < (a / 8).tdiv (b / 8)
    · rw [intA_gt h2]
      go_enter Try.func63, Try.ntmps63
      go_wp2_with (first | (go_at_call 79; refine (rtag_any _ _ (by omega) (by omega)).mono ?_; rintro e w' ⟨rfl, rfl⟩) | (go_at_call 64; refine (rvalue_any _ _ (by omega) (by omega)).mono ?_; rintro e w' ⟨rfl, rfl⟩) | (go_at_call 80; refine (RowKit.Hid.out HT _).mono ?_; rintro e w' ⟨rfl, k, rfl⟩))
      go_ret2
      exact ⟨rfl, 0, rfl⟩
    · have h2' : (a / 8).tdiv (b / 8) ≤ 1152921504606846975 := by omega
      rw [intA_is d1 h2']
      go_enter Try.func63, Try.ntmps63
      go_wp2_with (first | (go_at_call 79; refine (rtag_any _ _ (by omega) (by omega)).mono ?_; rintro e w' ⟨rfl, rfl⟩) | (go_at_call 64; refine (rvalue_any _ _ (by omega) (by omega)).mono ?_; rintro e w' ⟨rfl, rfl⟩) | (go_at_call 80; refine (RowKit.Hid.out HT _).mono ?_; rintro e w' ⟨rfl, k, rfl⟩))
      go_ret2
      exact ⟨rfl, 0, rfl⟩
  · have hr2 : Hid (rk 4 a b = (0, 11)) := by unfold Hid; rw [hr.out, if_neg (by decide), if_neg (by decide), if_neg (by decide), if_pos hz]
    have hz2 : (b / 8 == 0) = true := by rw [beq_iff_eq]; exact hz
    rw [hr2.out]
    clear hr hr2 hz HT
    go_enter Try.func63, Try.ntmps63
    go_wp2_with (first | (go_at_call 79; refine (rtag_any _ _ (by omega) (by omega)).mono ?_; rintro e w' ⟨rfl, rfl⟩) | (go_at_call 64; refine (rvalue_any _ _ (by omega) (by omega)).mono ?_; rintro e w' ⟨rfl, rfl⟩) | (go_at_call 80; refine (RowKit.Hid.out HT _).mono ?_; rintro e w' ⟨rfl, k, rfl⟩))
    go_ret2
    exact ⟨rfl, 0, rfl⟩
  · have hr2 : Hid (rk 4 a b = (8 * ((a / 8).tmod (b / 8)), 0)) := by unfold Hid; rw [hr.out, if_neg (by decide), if_neg (by decide), if_neg (by decide), if_neg hz, if_neg (by decide)]
    have hz2 : (b / 8 == 0) = false := by rw [beq_eq_false_iff_ne]; exact hz
    obtain ⟨m1, m2⟩ := tmod_bd (a / 8) (b / 8) A1 A2
    have hx : a / 8 - (a / 8).tdiv (b / 8) * (b / 8) = (a / 8).tmod (b / 8) := by
      have := Int.tmod_add_tdiv_mul (a / 8) (b / 8); omega
    have hx2 : IntKind.i64.wrap ((a / 8).tdiv (b / 8) * (b / 8)) = (a / 8).tdiv (b / 8) * (b / 8) := IntWalk.i64_in _ (by omega)
    rw [hr2.out]
    clear hr hr2 HT
    go_enter Try.func63, Try.ntmps63
    go_wp2_with (first | (go_at_call 79; refine (rtag_any _ _ (by omega) (by omega)).mono ?_; rintro e w' ⟨rfl, rfl⟩) | (go_at_call 64; refine (rvalue_any _ _ (by omega) (by omega)).mono ?_; rintro e w' ⟨rfl, rfl⟩) | (go_at_call 80; refine (RowKit.Hid.out HT _).mono ?_; rintro e w' ⟨rfl, k, rfl⟩))
    go_ret2
    exact ⟨rfl, 0, rfl⟩

end Go.Proofs.Ythbnhneibpoooaa
