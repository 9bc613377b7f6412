/- The laws' arguments, opened: slices of values. -/
import Derived.Deep.Slices
import Derived.Deep.Fields
import Derived.ChangeSame
import Derived.OpenShut
import Derived.Test.YtkplkgdfphbldaaGreatGJak
set_option linter.unusedVariables false
set_option linter.unusedSimpArgs false
set_option linter.unnecessarySimpa false
namespace Go.Proofs.YtkplkgdfphbldaaGreat
open Go.ChangeShapes Go.WideShapes Go.Deep Go.RowKit
set_option linter.unusedVariables false
set_option linter.unusedSimpArgs false
section
variable {H : Type} {enc : TypeId × Value → H} {P : Program} {w : World} {base : Nat} {spare : Nat → Bool} {held : Bool}
theorem list_upto {α : Type} (d : α) (n : Nat) (q : Nat → α → Prop) (h : ∀ i, i < n → ∃ m, q i m) : ∃ l : List α, l.length = n ∧ ∀ (i : Nat) (x : α), l[i]? = some x → q i x := by
  induction n with
  | zero => exact ⟨[], rfl, fun i x hx => by simp at hx⟩
  | succ n ih =>
    obtain ⟨l, hl, hq⟩ := ih (fun i hi => h i (by omega))
    obtain ⟨m, hm⟩ := h n (by omega)
    refine ⟨l ++ [m], by simp [hl], fun i x hx => ?_⟩
    by_cases hin : i < n
    · rw [List.getElem?_append_left (by omega)] at hx
      exact hq i x hx
    · have hi : i < (l ++ [m]).length := (List.getElem?_eq_some_iff.1 hx).1
      have : i = n := by simp [hl] at hi; omega
      subst this
      rw [List.getElem?_append_right (by omega), hl] at hx
      simp at hx
      rw [← hx]
      exact hm
end
end Go.Proofs.YtkplkgdfphbldaaGreat
