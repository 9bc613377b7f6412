/- VregNames' walk and its arguments, for its proof. -/
import Derived.Laws.IdiomArrays
import Derived.Test.YtalfnaielhbocaaNJbj
import Derived.Test.YtalfnaielhbocaaNJbm
set_option linter.unusedVariables false
set_option linter.unusedSimpArgs false
set_option linter.unnecessarySimpa false
namespace Go.Proofs.Ytalfnaielhbocaa
open Go.ChangeShapes Go.WideShapes Go.RowKit
set_option linter.unusedVariables false
set_option linter.unusedSimpArgs false
namespace Vm
section
variable {H : Type} {enc : TypeId × Value → H} {w : World} {base : Nat} {held : Bool} {spare : Nat → Bool}
set_option maxRecDepth 100000 in
theorem open_picks {r : Reach} {b0 : Nat} {v : Value} {d : DataW H} {ps : List MemPlace} (hval : Value.okWide Try.prog w r b0 37 v) (h : DataW.Trod enc Try.prog w base spare held 37 v d ps) :
    ∃ k a b : Int, v = .agg #[.int .i64 k, .int .i64 a, .int .i64 b] := by
  have hu := Try.underlying37
  simp only [Value.okWide, hu] at hval
  obtain ⟨cs, rfl, hsz, _⟩ := hval
  have hC : Try.prog.cellsOf 37 = 3 := by kernel_rfl
  have hC1 : Try.prog.cellsOf 3 = 1 := by kernel_rfl
  rw [hC] at hsz
  obtain ⟨c0, c1, c2, hcs⟩ : ∃ a b c, cs.toList = [a, b, c] := by
    have hl : cs.toList.length = 3 := by simpa using hsz
    rcases hL : cs.toList with _ | ⟨a, _ | ⟨b, _ | ⟨c, _ | ⟨e, l⟩⟩⟩⟩ <;> rw [hL] at hl <;> simp at hl
    exact ⟨a, b, c, rfl⟩
  have hcs2 : cs = #[c0, c1, c2] := Array.toList_inj.1 hcs
  subst hcs2
  obtain ⟨fuel, hf⟩ := h
  obtain ⟨y0, y1, y2, n, _, t0, t1, t2⟩ := trod_array3 hu hC1 hf
  obtain ⟨k, g0, _, _⟩ := DataW.trod_int Try.underlying3 t0
  obtain ⟨a, g1, _, _⟩ := DataW.trod_int Try.underlying3 t1
  obtain ⟨b, g2, _, _⟩ := DataW.trod_int Try.underlying3 t2
  simp at g0 g1 g2
  subst g0 g1 g2
  exact ⟨k, a, b, rfl⟩
end
end Vm
end Go.Proofs.Ytalfnaielhbocaa
