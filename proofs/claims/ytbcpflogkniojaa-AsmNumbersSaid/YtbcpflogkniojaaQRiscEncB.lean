/- Encode's contract where it refuses. -/
import Derived.Test.YtbcpflogkniojaaQMA
namespace Go.Proofs.Ytbcpflogkniojaa
open Go.RowKit
set_option linter.unusedSimpArgs false
set_option linter.unusedVariables false

/-- An instruction as a value. -/
def iv (op a b c n : Int) : Value := .agg #[.int .i64 op, .int .i64 a, .int .i64 b, .int .i64 c, .int .i64 n]

set_option maxHeartbeats 8000000 in
theorem encode_bad (op a b c n : Int) (w : World) (hbad : Rs.Bad op a b c n) : Calls Try.prog 30 #[iv op a b c n] w fun e w' => e = .returned (.tuple #[.int .u32 (Rs.encW op a b c n), .int .i64 (Rs.encE op a b c n)]) ∧ Below w.heap.size w w' := by
  unfold iv
  have hW : Hid (Rs.encW op a b c n = 0) := if_pos hbad
  have hE : Hid (Rs.encE op a b c n = 200) := if_pos hbad
  rw [hW.out, hE.out]
  have HBAD := Lib.hid hbad
  clear hbad
  rcases Rs.form_8 op with hF | hF | hF | hF | hF | hF | hF | hF <;>
  · go_enter Try.func30, Try.ntmps30
    go_wp2_with (first | (go_at_call 41; refine (form_any _ _).mono ?_; rintro e w' ⟨rfl, hw⟩; obtain rfl := hw) | (go_at_call 42; refine (ends_any _ _).mono ?_; rintro e w' ⟨rfl, hw⟩; obtain rfl := hw)  | (go_at_call 43; refine (isReg_any _ _).mono ?_; rintro e w' ⟨rfl, hw⟩; obtain rfl := hw))
    all_goals first
      | (exfalso; have hb := HBAD.out; unfold Rs.Bad at hb; simp_all <;> omega)
      | (go_ret2; exact ⟨rfl, (Below.refl _ _).alloc (Nat.le_refl _) _⟩)
end Go.Proofs.Ytbcpflogkniojaa
