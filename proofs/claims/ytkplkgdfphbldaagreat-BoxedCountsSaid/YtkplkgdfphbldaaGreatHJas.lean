/- Contracts of Reckon and of the reference's Reckon: both compute 'rk'. -/
import Derived.Test.YtkplkgdfphbldaaGreatHJai
import Derived.Lib.Hide
namespace Go.Proofs.YtkplkgdfphbldaaGreat
open Go.RowKit
set_option linter.unusedVariables false
set_option linter.unusedSimpArgs false
set_option linter.unnecessarySimpa false
set_option maxRecDepth 100000
theorem tdiv_bd (x y : Int) (h1 : -1152921504606846976 ≤ x) (h2 : x ≤ 1152921504606846975) : -1152921504606846976 ≤ x.tdiv y ∧ x.tdiv y ≤ 1152921504606846976 := by
 have := Int.natAbs_tdiv_le_natAbs x y
 omega
theorem tmod_bd (x y : Int) (h1 : -1152921504606846976 ≤ x) (h2 : x ≤ 1152921504606846975) : -1152921504606846976 ≤ x.tmod y ∧ x.tmod y ≤ 1152921504606846975 := by
 have a := Int.natAbs_tmod x y
 have b := Nat.mod_le x.natAbs y.natAbs
 rcases Int.le_total 0 x with h | h
 ·have := Int.tmod_nonneg y h
  omega
 ·have e : x.tmod y = -((-x).tmod y) := by rw [Int.neg_tmod]; omega
  have := Int.tmod_nonneg y (show 0 ≤ -x by omega)
  omega
theorem tmod8_nonneg {w : Int} (h : 0 ≤ w) : w.tmod 8 = w % 8 := Int.tmod_eq_emod_of_nonneg h
theorem tmod8_neg {w : Int} (h : w < 0) : w.tmod 8 = -((-w) % 8) := by
 have e : w.tmod 8 = -((-w).tmod 8) := by rw [Int.neg_tmod]; omega
 rw [e, Int.tmod_eq_emod_of_nonneg (by omega)]
theorem tdiv8_nonneg {w : Int} (h : 0 ≤ w) : w.tdiv 8 = w / 8 := Int.tdiv_eq_ediv_of_nonneg h
theorem tdiv8_neg {w : Int} (h : w < 0) : w.tdiv 8 = -((-w) / 8) := by
 have e : w.tdiv 8 = -((-w).tdiv 8) := by rw [Int.neg_tdiv]; omega
 rw [e, Int.tdiv_eq_ediv_of_nonneg (by omega)]
theorem rtag_any (n : Int) (w : World) (n1 : -9223372036854775808 ≤ n) (n2 : n ≤ 9223372036854775807) :
  Calls Tryz.prog 129 #[.int .i64 n] w fun e w' => e = .returned (.int .i64 (n % 8)) ∧ w' = w := by
 rcases Int.lt_or_le n 0 with h | h
 ·have e1 := tmod8_neg h
  by_cases hz : n % 8 = 0
  ·have e2 : n.tmod 8 = 0 := by omega
   have e3 : IntKind.i64.wrap (n.tmod 8) = 0 := by rw [e2]; rfl
   rw [hz]
   clear e1 hz
   go_enter Tryz.func129, Tryz.ntmps129
   go_wp2
   all_goals go_ret
   all_goals exact ⟨rfl, rfl⟩
  ·obtain ⟨t, ht⟩ : ∃ t, t = n % 8 := ⟨_, rfl⟩
   have e2 : n.tmod 8 = t - 8 := by omega
   have b1 : 0 < t := by omega
   have b2 : t < 8 := by omega
   rw [← ht]
   have e3 : t - 8 + 8 = t := by omega
   have e4 : decide (t < 8) = true := by rw [decide_eq_true_eq]; exact b2
   clear e1 ht hz
   go_enter Tryz.func129, Tryz.ntmps129
   go_wp2
   all_goals go_ret
   all_goals first | exact ⟨rfl, rfl⟩ | (simp; omega)
 ·have e1 := tmod8_nonneg h
  obtain ⟨t, ht⟩ : ∃ t, t = n % 8 := ⟨_, rfl⟩
  rw [← ht] at e1
  rw [← ht]
  have b1 : 0 ≤ t := by omega
  have b2 : t < 8 := by omega
  have e4 : decide (t < 0) = false := by rw [decide_eq_false_iff_not]; omega
  clear ht
  go_enter Tryz.func129, Tryz.ntmps129
  go_wp2
  all_goals go_ret
  all_goals exact ⟨rfl, rfl⟩
theorem rvalue_any (n : Int) (w : World) (n1 : -9223372036854775808 ≤ n) (n2 : n ≤ 9223372036854775807) :
  Calls Tryz.prog 125 #[.int .i64 n] w fun e w' => e = .returned (.int .i64 (n / 8)) ∧ w' = w := by
 rcases Int.lt_or_le n 0 with h | h
 ·have f1 := tdiv8_neg h
  have e1 := tmod8_neg h
  obtain ⟨q, hq⟩ : ∃ q, q = n.tdiv 8 := ⟨_, rfl⟩
  have e5 : n.tdiv 8 = q := hq.symm
  have b3 : -1152921504606846976 ≤ q ∧ q ≤ 0 := by omega
  have e6 : IntKind.i64.wrap (n.tdiv 8) = q := by rw [e5]; exact IntWalk.i64_in _ (by omega)
  by_cases hz : n % 8 = 0
  ·have e2 : n.tmod 8 = 0 := by omega
   have e3 : n / 8 = q := by omega
   rw [e3]
   clear e1 hz f1 hq e3
   go_enter Tryz.func125, Tryz.ntmps125
   go_wp2
   all_goals go_ret
   all_goals exact ⟨rfl, rfl⟩
  ·obtain ⟨t, ht⟩ : ∃ t, t = n.tmod 8 := ⟨_, rfl⟩
   have e2 : n.tmod 8 = t := ht.symm
   have b2 : t < 0 := by omega
   have e4 : decide (t < 0) = true := by rw [decide_eq_true_eq]; exact b2
   have e3 : n / 8 = q - 1 := by omega
   rw [e3]
   clear e1 ht hz f1 hq e3
   go_enter Tryz.func125, Tryz.ntmps125
   go_wp2
   all_goals go_ret
   all_goals exact ⟨rfl, rfl⟩
 ·have e5 := tdiv8_nonneg h
  have e1 := tmod8_nonneg h
  obtain ⟨t, ht⟩ : ∃ t, t = n % 8 := ⟨_, rfl⟩
  rw [← ht] at e1
  have b1 : 0 ≤ t := by omega
  have e4 : decide (t < 0) = false := by rw [decide_eq_false_iff_not]; omega
  have e6 : IntKind.i64.wrap (n.tdiv 8) = n / 8 := by rw [e5]; exact IntWalk.i64_in _ (by omega)
  clear ht
  go_enter Tryz.func125, Tryz.ntmps125
  go_wp2
  all_goals go_ret
  all_goals exact ⟨rfl, rfl⟩
theorem wis_any (n : Int) (w : World) :
  Calls Tryz.prog 97 #[.int .i64 n] w fun e w' => e = .returned (.bool (isN n)) ∧ w' = w := by
 by_cases h1 : -1152921504606846976 ≤ n
 ·by_cases h2 : n ≤ 1152921504606846975
  ·rw [isN_true ⟨h1, h2⟩]
   go_enter Tryz.func97, Tryz.ntmps97
   go_wp2
   go_ret
   exact ⟨by simp [h2], rfl⟩
  ·rw [isN_false (by omega)]
   go_enter Tryz.func97, Tryz.ntmps97
   go_wp2
   go_ret
   exact ⟨by simp [h2], rfl⟩
 ·rw [isN_false (by omega)]
  go_enter Tryz.func97, Tryz.ntmps97
  go_wp2
  go_ret
  exact ⟨rfl, rfl⟩
end Go.Proofs.YtkplkgdfphbldaaGreat
