/- Rows that are made. -/
import Derived.Laws.MakeOwn
import Derived.WalkKit
import Derived.Laws.IdiomStrings
import Derived.Deep.MidRow
import Derived.Deep.Onto
import Derived.Test.YtaldcgfhlflcpaaAJaa
import Derived.Test.YtaldcgfhlflcpaaAJaj
set_option linter.unusedVariables false
set_option linter.unusedSimpArgs false
set_option linter.unnecessarySimpa false
namespace Go.Proofs.Ytaldcgfhlflcpaa
open Go.RowKit
set_option maxRecDepth 100000
set_option linter.unusedVariables false
set_option linter.unusedSimpArgs false
theorem made_one21 (v : Value) (q : Nat) : madeCells #[v] q = (List.replicate q v).toArray := by
  apply Array.ext
  · simp [size_madeCells]
  · intro i h1 h2
    simp [madeCells, Nat.mod_one]
theorem infoI21 : (Try.prog.info? 3).map (fun i => (i.zero, i.size, i.bytes)) = some (some (.int .i64 0), 1, 8) := by kernel_rfl
theorem infoBool21 : (Try.prog.info? 4).map (fun i => (i.zero, i.size, i.bytes)) = some (some (.bool false), 1, 1) := by kernel_rfl
theorem make_ints21 (q : Nat) (h : q ≤ 1048576) (w : World) : (Instr.makeSlice 29 (.int .i64 q) (.int .i64 q)).run Try.prog w = .ok (.slice (some ⟨w.heap.size, 0, none⟩) q q) (w.alloc (.cells (madeCells #[.int .i64 0] q) 3)) := by
  obtain ⟨i, hi, hz, hs, hb⟩ := info_parts infoI21
  have := run_make (P := Try.prog) w _ _ i _ Try.underlying29 hi hz .i64 .i64 q q (by omega) (Int.le_refl _) (by rw [hb]; omega) (by omega)
  rw [hs] at this
  simp only [Int.toNat_natCast, Nat.mul_one] at this
  exact this
theorem make_bools21 (q : Nat) (h : q ≤ 1048576) (w : World) : (Instr.makeSlice 81 (.int .i64 q) (.int .i64 q)).run Try.prog w = .ok (.slice (some ⟨w.heap.size, 0, none⟩) q q) (w.alloc (.cells (madeCells #[.bool false] q) 4)) := by
  obtain ⟨i, hi, hz, hs, hb⟩ := info_parts infoBool21
  have := run_make (P := Try.prog) w _ _ i _ Try.underlying81 hi hz .i64 .i64 q q (by omega) (Int.le_refl _) (by rw [hb]; omega) (by omega)
  rw [hs] at this
  simp only [Int.toNat_natCast, Nat.mul_one] at this
  exact this
end Go.Proofs.Ytaldcgfhlflcpaa
