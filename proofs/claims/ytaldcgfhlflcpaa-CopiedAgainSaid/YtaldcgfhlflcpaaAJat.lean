/- Rows of items of the call's own. -/
import Derived.Laws.OwnMore
import Derived.Test.YtaldcgfhlflcpaaAJas
set_option linter.unusedVariables false
set_option linter.unusedSimpArgs false
set_option linter.unnecessarySimpa false
namespace Go.Proofs.Ytaldcgfhlflcpaa
open Go.RowKit
set_option maxRecDepth 100000
set_option linter.unusedVariables false
set_option linter.unusedSimpArgs false
theorem infoItem : (Try.prog.info? 53).map (fun i => (i.zero, i.size, i.bytes)) = some (some (.agg #[.int .i64 0, .int .i64 0, .int .i64 0, .int .i64 0, .int .i64 0, .int .i64 0, .int .i64 0, .int .i64 0]), 8, 64) := by kernel_rfl
theorem flat_append (l m : List As.It) : As.flat (l ++ m) = As.flat l ++ As.flat m := by simp [As.flat]
theorem flat_length : ∀ l : List As.It, (As.flat l).length = l.length * 8
  | [] => rfl
  | x :: l => by
    have e : As.flat (x :: l) = x.cells ++ As.flat l := rfl
    rw [e, List.length_append, flat_length l]
    simp [As.It.cells]
    omega
theorem flat_get {l : List As.It} {j i : Nat} {x : As.It} {u : Value} (hx : l[j]? = some x) (hu : x.cells[i]? = some u) : (As.flat l)[j * 8 + i]? = some u := by
  induction l generalizing j with
  | nil => simp at hx
  | cons y l ih =>
    have e : As.flat (y :: l) = y.cells ++ As.flat l := rfl
    have h5 : y.cells.length = 8 := rfl
    have hi : i < 8 := by have := (List.getElem?_eq_some_iff.1 hu).1; simpa [As.It.cells] using this
    rw [e]
    cases j with
    | zero =>
      simp only [List.getElem?_cons_zero, Option.some.injEq] at hx
      subst hx
      rw [List.getElem?_append_left (by omega), Nat.zero_mul, Nat.zero_add]
      exact hu
    | succ j =>
      rw [List.getElem?_append_right (by omega), h5, show (j + 1) * 8 + i - 8 = j * 8 + i by omega]
      exact ih (by simpa using hx)
theorem isl_own {w : World} {B : Nat} {v : Value} {l : List As.It} (h : w.ownsRow B 53 8 v l.length (As.flat l)) : ISl w v l := by
  rcases own_shape h with ⟨rfl, h0, hx⟩ | ⟨g, cap, rfl, h1, h2, h3, h4⟩
  · have : l = [] := List.eq_nil_of_length_eq_zero h0
    subst this
    exact ⟨none, 0, rfl, .inl rfl⟩
  · refine ⟨_, cap, rfl, .inr ⟨g, 0, rfl, h2, fun j x hx => ?_⟩⟩
    have hj := (List.getElem?_eq_some_iff.1 hx).1
    have get : ∀ i u, x.cells[i]? = some u → w.cell? ⟨g, 0 + j * 8 + i, none⟩ = some u := by
      intro i u hu
      have hi : i < 8 := by have := (List.getElem?_eq_some_iff.1 hu).1; simpa [As.It.cells] using this
      rw [Nat.zero_add, h.cellAt (j * 8 + i) (by omega)]
      exact flat_get hx hu
    exact ⟨get 0 _ rfl, get 1 _ rfl, get 2 _ rfl, get 3 _ rfl, get 4 _ rfl, get 5 _ rfl, get 6 _ rfl, get 7 _ rfl⟩
end Go.Proofs.Ytaldcgfhlflcpaa
