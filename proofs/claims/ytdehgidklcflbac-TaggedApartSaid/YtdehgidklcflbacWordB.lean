/- Contracts of times, Reckon and their references. -/
import Derived.Test.YtdehgidklcflbacWord
import Derived.Lib.Hide
namespace Go.Proofs.Ytdehgidklcflbac
open Go.RowKit
set_option linter.unusedVariables false

/-- One walk of 'times': the factors' sizes x, y, their product p. -/
theorem times_core (a b n : Int) (x y p : Nat) (w : World) (hx : x ≤ 1152921504606846976) (hy : y ≤ 1152921504606846976)
    (ha : (0 ≤ a ∧ a = x) ∨ (a < 0 ∧ a = -(x : Int))) (hb : (0 ≤ b ∧ b = y) ∨ (b < 0 ∧ b = -(y : Int)))
    (hp : Hid (x * y = p)) (hn : Hid (n = if (decide (a < 0) != decide (b < 0)) then -(p : Int) else p)) (hs : p ≤ 1152921504606846976) :
    Calls Try.prog 21 #[.int .i64 a, .int .i64 b] w fun e w' => e = .returned (.tuple #[.int .i64 n, .bool (isN n)]) ∧ w' = w := by
  have h1 : ((p / 18446744073709551616 : Nat) : Int) = 0 := by omega
  have h2 : ((p % 18446744073709551616 : Nat) : Int) = p := by omega
  have H1 := Lib.hid h1
  have H2 := Lib.hid h2
  clear h1 h2
  have px : decide ((x : Int) < 0) = false := by simp
  have py : decide ((y : Int) < 0) = false := by simp
  rcases ha with ⟨ha, rfl⟩ | ⟨ha, rfl⟩ <;> rcases hb with ⟨hb, rfl⟩ | ⟨hb, rfl⟩
  all_goals
    try have qx : decide (0 < x) = true := by rw [decide_eq_true_eq]; omega
    try have qy : decide (0 < y) = true := by rw [decide_eq_true_eq]; omega
    go_enter Try.func21, Try.ntmps21
    go_wp2_with fail
    refine (mul64_any x y (by omega) (by omega) _).mono ?_
    rintro e w' ⟨rfl, rfl⟩
    rw [hp.out, H1.out, H2.out]
    go_wp2_with (go_at_call 23; refine (isNumber_any _ _).mono ?_; rintro e w' ⟨rfl, rfl⟩)
    go_ret2
    have hn2 := hn.out
    first
      | rw [px, py] at hn2
      | rw [px, decide_eq_true hb] at hn2
      | rw [py, decide_eq_true ha] at hn2
      | rw [decide_eq_true ha, decide_eq_true hb] at hn2
    first
      | rw [if_pos (by decide)] at hn2
      | rw [if_neg (by decide)] at hn2
    rw [hn2]
    exact ⟨rfl, rfl⟩
theorem times_big (a b : Int) (x y p : Nat) (w : World) (hx : x ≤ 1152921504606846976) (hy : y ≤ 1152921504606846976)
    (ha : (0 ≤ a ∧ a = x) ∨ (a < 0 ∧ a = -(x : Int))) (hb : (0 ≤ b ∧ b = y) ∨ (b < 0 ∧ b = -(y : Int)))
    (hp : Hid (x * y = p)) (hs : 1152921504606846976 < p) :
    Calls Try.prog 21 #[.int .i64 a, .int .i64 b] w fun e w' => e = .returned (.tuple #[.int .i64 0, .bool false]) ∧ w' = w := by
  by_cases hh : p < 18446744073709551616
  · have h1 : ((p / 18446744073709551616 : Nat) : Int) = 0 := by omega
    have h2 : ((p % 18446744073709551616 : Nat) : Int) = p := by omega
    have H1 := Lib.hid h1
    have H2 := Lib.hid h2
    clear h1 h2
    rcases ha with ⟨ha, rfl⟩ | ⟨ha, rfl⟩ <;> rcases hb with ⟨hb, rfl⟩ | ⟨hb, rfl⟩
    all_goals
      go_enter Try.func21, Try.ntmps21
      go_wp2_with fail
      refine (mul64_any x y (by omega) (by omega) _).mono ?_
      rintro e w' ⟨rfl, rfl⟩
      rw [hp.out, H1.out, H2.out]
      go_wp2
      go_ret2
      exact ⟨rfl, rfl⟩
  · have h2 : (((p / 18446744073709551616 : Nat) : Int) != 0) = true := by rw [bne_iff_ne]; omega
    have h3 : 1 ≤ ((p / 18446744073709551616 : Nat) : Int) := by omega
    obtain ⟨hi, Hi⟩ : ∃ hi : Int, Hid (((p / 18446744073709551616 : Nat) : Int) = hi) := ⟨_, rfl⟩
    rw [Hi.out] at h2 h3
    rcases ha with ⟨ha, rfl⟩ | ⟨ha, rfl⟩ <;> rcases hb with ⟨hb, rfl⟩ | ⟨hb, rfl⟩
    all_goals
      go_enter Try.func21, Try.ntmps21
      go_wp2_with fail
      refine (mul64_any x y (by omega) (by omega) _).mono ?_
      rintro e w' ⟨rfl, rfl⟩
      rw [hp.out, Hi.out]
      go_wp2
      go_ret2
      exact ⟨rfl, rfl⟩

theorem abs_of (a : Int) (h1 : -1152921504606846976 ≤ a) (h2 : a ≤ 1152921504606846975) :
    ∃ x : Nat, x ≤ 1152921504606846976 ∧ ((0 ≤ a ∧ a = x) ∨ (a < 0 ∧ a = -(x : Int))) :=
  ⟨a.natAbs, by omega, by omega⟩

theorem prod_of (a b : Int) (x y : Nat) (ha : (0 ≤ a ∧ a = x) ∨ (a < 0 ∧ a = -(x : Int))) (hb : (0 ≤ b ∧ b = y) ∨ (b < 0 ∧ b = -(y : Int))) :
    a * b = if (decide (a < 0) != decide (b < 0)) then -((x * y : Nat) : Int) else ((x * y : Nat) : Int) := by
  rcases ha with ⟨ha, rfl⟩ | ⟨ha, rfl⟩ <;> rcases hb with ⟨hb, rfl⟩ | ⟨hb, rfl⟩
  · rw [decide_eq_false (Int.not_lt.2 ha), decide_eq_false (Int.not_lt.2 hb), if_neg (by decide), Int.natCast_mul]
  · rw [decide_eq_false (Int.not_lt.2 ha), decide_eq_true hb, if_pos (by decide), Int.natCast_mul, Int.mul_neg]
  · rw [decide_eq_true ha, decide_eq_false (Int.not_lt.2 hb), if_pos (by decide), Int.natCast_mul, Int.neg_mul]
  · rw [decide_eq_true ha, decide_eq_true hb, if_neg (by decide), Int.natCast_mul, Int.neg_mul_neg]

theorem times_ok (a b : Int) (w : World) (a1 : -1152921504606846976 ≤ a) (a2 : a ≤ 1152921504606846975) (b1 : -1152921504606846976 ≤ b) (b2 : b ≤ 1152921504606846975) (h : isN (a * b) = true) :
    Calls Try.prog 21 #[.int .i64 a, .int .i64 b] w fun e w' => e = .returned (.tuple #[.int .i64 (a * b), .bool true]) ∧ w' = w := by
  obtain ⟨x, hx, ha⟩ := abs_of a a1 a2
  obtain ⟨y, hy, hb⟩ := abs_of b b1 b2
  have hp := prod_of a b x y ha hb
  have hs : x * y ≤ 1152921504606846976 := by
    rw [isN_iff, hp] at h
    split at h <;> omega
  have := times_core a b (a * b) x y (x * y) w hx hy ha hb rfl hp hs
  rw [h] at this
  exact this

theorem times_no (a b : Int) (w : World) (a1 : -1152921504606846976 ≤ a) (a2 : a ≤ 1152921504606846975) (b1 : -1152921504606846976 ≤ b) (b2 : b ≤ 1152921504606846975) (h : isN (a * b) = false) :
    ∃ n : Int, Calls Try.prog 21 #[.int .i64 a, .int .i64 b] w fun e w' => e = .returned (.tuple #[.int .i64 n, .bool false]) ∧ w' = w := by
  obtain ⟨x, hx, ha⟩ := abs_of a a1 a2
  obtain ⟨y, hy, hb⟩ := abs_of b b1 b2
  have hp := prod_of a b x y ha hb
  by_cases hs : x * y ≤ 1152921504606846976
  · have := times_core a b (a * b) x y (x * y) w hx hy ha hb rfl hp hs
    rw [h] at this
    exact ⟨_, this⟩
  · exact ⟨_, times_big a b x y (x * y) w hx hy ha hb rfl (by omega)⟩
end Go.Proofs.Ytdehgidklcflbac
