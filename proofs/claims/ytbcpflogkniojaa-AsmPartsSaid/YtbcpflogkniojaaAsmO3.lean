/- A slice of items that came in: nil has no room. -/
import Derived.Test.YtbcpflogkniojaaAsmO
namespace Go.Proofs.Ytbcpflogkniojaa
open Go.ChangeShapes Go.WideShapes Go.Deep Go.RowKit
set_option linter.unusedVariables false
set_option linter.unusedSimpArgs false
section
variable {H : Type} {enc : TypeId × Value → H} {w : World} {base : Nat} {spare : Nat → Bool} {held : Bool}
theorem open_items3 {r : Reach} {b0 : Nat} {v : Value} {d : DataW H} {ps : List MemPlace} (hval : Value.okWide Try.prog w r b0 22 v) (h : DataW.Trod enc Try.prog w base spare held 22 v d ps) :
    ∃ a cap l, v = .slice a l.length cap ∧ ISl w (.slice a l.length cap) l ∧ l.length ≤ 9223372036854775807 ∧ (a = none → cap = 0 ∧ l = []) := by
  obtain ⟨a, cap, l, rfl, h1, h2, h3⟩ := open_items hval h
  refine ⟨a, cap, l, rfl, h1, h2, ?_⟩
  obtain ⟨fuel, hf⟩ := h
  rcases open_slice Try.underlying22 hf with ⟨hcs, _⟩ | ⟨a', len', cap', m, n, D, Pl, hcs, _, hle, hmax, hm, _, hi⟩
  · simp [Value.cells] at hcs
    obtain ⟨rfl, h4, rfl⟩ := hcs
    exact fun _ => ⟨rfl, h4⟩
  · simp [Value.cells] at hcs
    obtain ⟨rfl, rfl, rfl⟩ := hcs
    exact fun e => by cases e
end
end Go.Proofs.Ytbcpflogkniojaa
