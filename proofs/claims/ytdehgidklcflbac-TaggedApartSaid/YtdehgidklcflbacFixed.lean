/- The fixed calls of chapter 1 answer as they should. -/
import Derived.Test.YtdehgidklcflbacWordC
namespace Go.Proofs.Ytdehgidklcflbac
open Go.RowKit
set_option linter.unusedVariables false

theorem fixed_any (w : World) : Calls Try.prog 6 #[] w fun e w' => e = .returned (.bool true) ∧ w' = w := by
  have e1 : intA 5 = (40, 0) := by decide
  have e2 : tagA 1 3 = (25, 0) := by decide
  have e3 : headA 2 1 = (87, 0) := by decide
  have e4 : rk 3 (-56) 16 = (-24, 0) := by decide
  have e5 : rk 9 1 1 = (0, 1) := by decide
  go_enter Try.func6, Try.ntmps6
  go_wp2_with (first | (go_at_call 16; refine (int_any _ _).mono ?_; rintro e w' ⟨rfl, rfl⟩) | (go_at_call 17; refine (place_any _ _).mono ?_; rintro e w' ⟨rfl, rfl⟩) | (go_at_call 10; refine (head_any _ _ _).mono ?_; rintro e w' ⟨rfl, rfl⟩) | (go_at_call 11; refine (reckon_any _ _ _ _ (by omega) (by omega) (by omega) (by omega)).mono ?_; rintro e w' ⟨rfl, rfl⟩) | (go_at_call 8; refine (tag_any _ _).mono ?_; rintro e w' ⟨rfl, rfl⟩) | (go_at_call 9; refine (value_any _ _).mono ?_; rintro e w' ⟨rfl, rfl⟩))
  go_ret
  exact ⟨rfl, rfl⟩
end Go.Proofs.Ytdehgidklcflbac
