/- The references of chapter 1, and the walk of TaggedMakes. -/
import Derived.Test.YtdehgidklcflbacFixed
namespace Go.Proofs.Ytdehgidklcflbac
open Go.RowKit
set_option linter.unusedVariables false

theorem tmod8_nonneg {w : Int} (h : 0 ≤ w) : w.tmod 8 = w % 8 := Int.tmod_eq_emod_of_nonneg h
theorem tmod8_neg {w : Int} (h : w < 0) : w.tmod 8 = -((-w) % 8) := by
  have e : w.tmod 8 = -((-w).tmod 8) := by rw [Int.neg_tmod]; omega
  rw [e, Int.tmod_eq_emod_of_nonneg (by omega)]
theorem tdiv8_nonneg {w : Int} (h : 0 ≤ w) : w.tdiv 8 = w / 8 := Int.tdiv_eq_ediv_of_nonneg h
theorem tdiv8_neg {w : Int} (h : w < 0) : w.tdiv 8 = -((-w) / 8) := by
  have e : w.tdiv 8 = -((-w).tdiv 8) := by rw [Int.neg_tdiv]; omega
  rw [e, Int.tdiv_eq_ediv_of_nonneg (by omega)]

theorem rtag_any (n : Int) (w : World) (n1 : -9223372036854775808 ≤ n) (n2 : n ≤ 9223372036854775807) :
    Calls Try.prog 14 #[.int .i64 n] w fun e w' => e = .returned (.int .i64 (n % 8)) ∧ w' = w := by
  rcases Int.lt_or_le n 0 with h | h
  · have e1 := tmod8_neg h
    by_cases hz : n % 8 = 0
    · have e2 : n.tmod 8 = 0 := by omega
      have e3 : IntKind.i64.wrap (n.tmod 8) = 0 := by rw [e2]; rfl
      rw [hz]
      clear e1 hz
      go_enter Try.func14, Try.ntmps14
      go_wp2
      all_goals go_ret
      all_goals exact ⟨rfl, rfl⟩
    · obtain ⟨t, ht⟩ : ∃ t, t = n % 8 := ⟨_, rfl⟩
      have e2 : n.tmod 8 = t - 8 := by omega
      have b1 : 0 < t := by omega
      have b2 : t < 8 := by omega
      rw [← ht]
      have e3 : t - 8 + 8 = t := by omega
      have e4 : decide (t < 8) = true := by rw [decide_eq_true_eq]; exact b2
      clear e1 ht hz
      go_enter Try.func14, Try.ntmps14
      go_wp2
      all_goals go_ret
      all_goals first | exact ⟨rfl, rfl⟩ | (simp; omega)
  · have e1 := tmod8_nonneg h
    obtain ⟨t, ht⟩ : ∃ t, t = n % 8 := ⟨_, rfl⟩
    rw [← ht] at e1
    rw [← ht]
    have b1 : 0 ≤ t := by omega
    have b2 : t < 8 := by omega
    have e4 : decide (t < 0) = false := by rw [decide_eq_false_iff_not]; omega
    clear ht
    go_enter Try.func14, Try.ntmps14
    go_wp2
    all_goals go_ret
    all_goals exact ⟨rfl, rfl⟩

theorem rvalue_any (n : Int) (w : World) (n1 : -9223372036854775808 ≤ n) (n2 : n ≤ 9223372036854775807) :
    Calls Try.prog 15 #[.int .i64 n] w fun e w' => e = .returned (.int .i64 (n / 8)) ∧ w' = w := by
  rcases Int.lt_or_le n 0 with h | h
  · have f1 := tdiv8_neg h
    have e1 := tmod8_neg h
    obtain ⟨q, hq⟩ : ∃ q, q = n.tdiv 8 := ⟨_, rfl⟩
    have e5 : n.tdiv 8 = q := hq.symm
    have b3 : -1152921504606846976 ≤ q ∧ q ≤ 0 := by omega
    have e6 : IntKind.i64.wrap (n.tdiv 8) = q := by rw [e5]; exact IntWalk.i64_in _ (by omega)
    by_cases hz : n % 8 = 0
    · have e2 : n.tmod 8 = 0 := by omega
      have e3 : n / 8 = q := by omega
      rw [e3]
      clear e1 hz f1 hq e3
      go_enter Try.func15, Try.ntmps15
      go_wp2
      all_goals go_ret
      all_goals exact ⟨rfl, rfl⟩
    · obtain ⟨t, ht⟩ : ∃ t, t = n.tmod 8 := ⟨_, rfl⟩
      have e2 : n.tmod 8 = t := ht.symm
      have b2 : t < 0 := by omega
      have e4 : decide (t < 0) = true := by rw [decide_eq_true_eq]; exact b2
      have e3 : n / 8 = q - 1 := by omega
      rw [e3]
      clear e1 ht hz f1 hq e3
      go_enter Try.func15, Try.ntmps15
      go_wp2
      all_goals go_ret
      all_goals exact ⟨rfl, rfl⟩
  · have e5 := tdiv8_nonneg h
    have e1 := tmod8_nonneg h
    obtain ⟨t, ht⟩ : ∃ t, t = n % 8 := ⟨_, rfl⟩
    rw [← ht] at e1
    have b1 : 0 ≤ t := by omega
    have e4 : decide (t < 0) = false := by rw [decide_eq_false_iff_not]; omega
    have e6 : IntKind.i64.wrap (n.tdiv 8) = n / 8 := by rw [e5]; exact IntWalk.i64_in _ (by omega)
    clear ht
    go_enter Try.func15, Try.ntmps15
    go_wp2
    all_goals go_ret
    all_goals exact ⟨rfl, rfl⟩

/-- What Make answers. -/
def makeA (t n : Int) : Int × Int := if t = 0 then intA n else tagA t n



end Go.Proofs.Ytdehgidklcflbac
