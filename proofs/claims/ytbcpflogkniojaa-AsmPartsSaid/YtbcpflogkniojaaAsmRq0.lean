/- What the program's Assemble answers, opened. -/
import Derived.Test.YtbcpflogkniojaaAsmAs
namespace Go.Proofs.Ytbcpflogkniojaa
open Go.RowKit
set_option linter.unusedVariables false
set_option linter.unusedSimpArgs false
theorem AsmPostC.ok {w w' : World} {l : List As.It} {e : Ending} (h : AsmPostC w l e w') (he : As.err l = 0) : Below w.heap.size w w' ∧ ∃ (ac : Option Addr) (cc pb : Nat), e = .returned (.tuple #[.slice ac (As.code l).length cc, .slice (some ⟨pb, 0, none⟩) l.length l.length, .int .i64 0]) ∧ Sl w' (.slice ac (As.code l).length cc) ((As.code l).map (Value.int .u32)) ∧ Sl w' (.slice (some ⟨pb, 0, none⟩) l.length l.length) (nums (As.places0 l)) := by
  obtain ⟨hb, h⟩ := h
  refine ⟨hb, ?_⟩
  rw [if_pos he] at h
  obtain ⟨vc, pb, rfl, h1, h2⟩ := h
  obtain ⟨ac, cc, rfl⟩ := h1.len
  rw [List.length_map] at h1
  exact ⟨ac, cc, pb, by rw [List.length_map], h1, h2⟩
theorem AsmPostC.bad {w w' : World} {l : List As.It} {e : Ending} (h : AsmPostC w l e w') (he : As.err l ≠ 0) : Below w.heap.size w w' ∧ e = .returned (.tuple #[.slice none 0 0, .slice none 0 0, .int .i64 (As.err l)]) := by
  obtain ⟨hb, h⟩ := h
  rw [if_neg he] at h
  exact ⟨hb, h⟩
theorem nums_getD0 {ps : List Nat} {j p : Nat} (h : ps[j]? = some p) : (nums ps).getD j undef = .int .i64 (p : Int) := by
  simp [nums, List.getD_eq_getElem?_getD, h]
end Go.Proofs.Ytbcpflogkniojaa
