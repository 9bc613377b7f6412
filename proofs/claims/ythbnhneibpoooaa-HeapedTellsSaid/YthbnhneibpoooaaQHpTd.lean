/- HeapedTells: its walk, for its proof: the value opened. -/
import Derived.Test.YthbnhneibpoooaaQHpTe
import Derived.Test.YthbnhneibpoooaaQHpDp
import Derived.Lib.SmallJoins
import Derived.OpenShut
set_option linter.unusedVariables false
set_option linter.unusedSimpArgs false
set_option linter.unnecessarySimpa false
namespace Go.Proofs.Ythbnhneibpoooaa
open Go.ChangeShapes Go.WideShapes Go.Joins Go.Deep Go.RowKit
set_option linter.unusedVariables false
set_option linter.unusedSimpArgs false
section
variable {H : Type} {enc : TypeId × Value → H} {w : World} {base : Nat} {spare : Nat → Bool} {held : Bool}
theorem valShape : ∀ fs, Try.prog.underlying 27 = some (.struct fs) → ∃ f0 f1 f2 : Field, fs = #[f0, f1, f2] ∧ f0.type = 3 ∧ f1.type = 3 ∧ f2.type = 9 ∧ oneCellFields Try.prog #[f0, f1, f2] = true ∧ Try.prog.cellsOf 27 = 3 := by
  intro fs h
  rw [Try.underlying27] at h
  injection h with h
  injection h with h
  subst h
  exact ⟨_, _, _, rfl, rfl, rfl, rfl, by kernel_rfl, by kernel_rfl⟩
set_option maxRecDepth 100000 in
theorem open_val {r : Reach} {b0 : Nat} {v : Value} {d : DataW H} {ps : List MemPlace} (hval : Value.okWide Try.prog w r b0 27 v) (h : DataW.Trod enc Try.prog w base spare held 27 v d ps) :
    ∃ x : Hp.V, v = x.val ∧ x.text.size ≤ maxLen := by
  have hu := Try.underlying27
  obtain ⟨f0, f1, f2, he, ht0, ht1, ht2, h1, h2⟩ := valShape _ hu
  rw [he] at hu
  obtain ⟨v0, v1, v2, y0, y1, y2, n, rfl, _, _, q0, q1, q2⟩ := open_agg3 hu h1 h2 hval h
  rw [ht0] at q0
  rw [ht1] at q1
  rw [ht2] at q2
  obtain ⟨k, g0, _, _⟩ := DataW.trod_int Try.underlying3 q0
  obtain ⟨i, g1, _, _⟩ := DataW.trod_int Try.underlying3 q1
  obtain ⟨t, g2, _, hts⟩ := DataW.trod_string Try.underlying9 q2
  simp at g0 g1 g2
  subst g0 g1 g2
  exact ⟨⟨k, i, t⟩, rfl, hts⟩
end
end Go.Proofs.Ythbnhneibpoooaa
