/- A slice of items that came in, opened. -/
import Derived.Deep.Slices
import Derived.Deep.Fields
import Derived.ChangeSame
import Derived.WideShapes
import Derived.Test.YtaldcgfhlflcpaaAJaa
import Derived.Test.YtaldcgfhlflcpaaAJaj
import Derived.Test.YtaldcgfhlflcpaaAJaf
set_option linter.unusedVariables false
set_option linter.unusedSimpArgs false
set_option linter.unnecessarySimpa false
namespace Go.Proofs.Ytaldcgfhlflcpaa
open Go.ChangeShapes Go.WideShapes Go.Deep Go.RowKit
set_option linter.unusedVariables false
set_option linter.unusedSimpArgs false
structure ItAt (w : World) (b o : Nat) (x : As.It) : Prop where
  c0 : w.cell? ⟨b, o, none⟩ = some (.int .i64 x.kind)
  c1 : w.cell? ⟨b, o + 1, none⟩ = some (.int .i64 x.op)
  c2 : w.cell? ⟨b, o + 2, none⟩ = some (.int .i64 x.a)
  c3 : w.cell? ⟨b, o + 3, none⟩ = some (.int .i64 x.b)
  c4 : w.cell? ⟨b, o + 4, none⟩ = some (.int .i64 x.c)
  c5 : w.cell? ⟨b, o + 5, none⟩ = some (.int .i64 x.n)
  c6 : w.cell? ⟨b, o + 6, none⟩ = some (.int .i64 x.label)
  c7 : w.cell? ⟨b, o + 7, none⟩ = some (.int .i64 x.num)
def ISl (w : World) (v : Value) (l : List As.It) : Prop :=
  ∃ a cap, v = .slice a l.length cap ∧ (l = [] ∨ ∃ b off, a = some ⟨b, off, none⟩ ∧ b < w.heap.size ∧ ∀ (j : Nat) (x : As.It), l[j]? = some x → ItAt w b (off + j * 8) x)
theorem ItAt.of {w w' : World} {b o : Nat} {x : As.It} (h : ItAt w b o x) (hc : ∀ j, w'.cell? ⟨b, j, none⟩ = w.cell? ⟨b, j, none⟩) : ItAt w' b o x :=
  ⟨(hc _).trans h.c0, (hc _).trans h.c1, (hc _).trans h.c2, (hc _).trans h.c3, (hc _).trans h.c4, (hc _).trans h.c5, (hc _).trans h.c6, (hc _).trans h.c7⟩
theorem ISl.len {w : World} {v : Value} {l : List As.It} (h : ISl w v l) : ∃ a cap, v = .slice a l.length cap := by
  obtain ⟨a, cap, h, _⟩ := h
  exact ⟨a, cap, h⟩
theorem ISl.below {w w' : World} {v : Value} {l : List As.It} {N : Nat} (h : ISl w v l) (hb : Below N w w') (hN : w.heap.size ≤ N) : ISl w' v l := by
  obtain ⟨a, cap, hv, h | ⟨b, off, h1, h2, h3⟩⟩ := h
  · exact ⟨a, cap, hv, .inl h⟩
  · exact ⟨a, cap, hv, .inr ⟨b, off, h1, by have := hb.size; omega, fun j x hx => (h3 j x hx).of (fun k => hb.cell (p := ⟨b, k, none⟩) (by show b < N; omega))⟩⟩
theorem ISl.drewN {w : World} {v : Value} {l : List As.It} (h : ISl w v l) (n : Nat) : ISl (w.drewN n) v l := by
  obtain ⟨a, cap, hv, h | ⟨b, off, h1, h2, h3⟩⟩ := h
  · exact ⟨a, cap, hv, .inl h⟩
  · exact ⟨a, cap, hv, .inr ⟨b, off, h1, h2, fun j x hx => (h3 j x hx).of (fun _ => rfl)⟩⟩
theorem ISl.at {w : World} {a : Option Addr} {n cap : Nat} {l : List As.It} (h : ISl w (.slice a n cap) l) (hne : l ≠ []) : ∃ b off, a = some ⟨b, off, none⟩ ∧ b < w.heap.size ∧ ∀ (j : Nat) (x : As.It), l[j]? = some x → ItAt w b (off + j * 8) x := by
  obtain ⟨a', cap', hv, h | ⟨b, off, h1, h2, h3⟩⟩ := h
  · exact absurd h hne
  · cases hv
    exact ⟨b, off, h1, h2, h3⟩
theorem cells_int : Try.prog.cellsOf 3 = 1 := by kernel_rfl
section
variable {H : Type} {enc : TypeId × Value → H} {w : World} {base : Nat} {spare : Nat → Bool} {held : Bool}
theorem int_at {n o : Nat} {cs : List Value} {y : Option (DataW H × List MemPlace)} (ho : o < cs.length) (hy : y.isSome = true) (h : DataW.trod enc Try.prog w base spare held n 3 ((cs.drop o).take (Try.prog.cellsOf 3)) = y) : ∃ z : Int, cs[o]? = some (.int .i64 z) ∧ (Lit.int .i64 z).wf = true := by
  rw [cells_int, List.drop_eq_getElem_cons ho] at h
  obtain ⟨y', rfl⟩ := Option.isSome_iff_exists.1 hy
  obtain ⟨z, hz, _, hw⟩ := DataW.trod_int Try.underlying3 h
  have hz2 : cs[o] = .int .i64 z := by have h3 := hz; rw [List.take_succ_cons, List.take_zero] at h3; simpa using h3
  exact ⟨z, by rw [List.getElem?_eq_getElem ho, hz2], hw⟩
end
end Go.Proofs.Ytaldcgfhlflcpaa
