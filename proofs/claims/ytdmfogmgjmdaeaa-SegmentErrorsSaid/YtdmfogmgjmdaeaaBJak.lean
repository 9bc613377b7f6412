/- The reference's items. -/
import Derived.Test.YtdmfogmgjmdaeaaBJai
import Derived.Test.YtdmfogmgjmdaeaaBJaj
set_option linter.unusedVariables false
set_option linter.unusedSimpArgs false
set_option linter.unnecessarySimpa false
namespace Go.Proofs.Ytdmfogmgjmdaeaa
open Go.RowKit
set_option linter.unusedVariables false
set_option linter.unusedSimpArgs false
set_option maxRecDepth 100000
namespace Sg
open As
theorem itD : ∃ d, Try.prog.underlying 34 = some d ∧ d.isRow = true := ⟨_, Try.underlying34, rfl⟩
theorem itSize : (Try.prog.info? 34).map (·.size) = some 8 := by kernel_rfl
set_option maxHeartbeats 2000000 in
theorem rI_any (op a b n : Int) (w : World) : Calls Try.prog 11 #[.int .i64 op, .int .i64 a, .int .i64 b, .int .i64 n] w fun e w' => e = .returned (.agg #[.int .i64 0, .int .i64 op, .int .i64 a, .int .i64 b, .int .i64 0, .int .i64 n, .int .i64 0, .int .i64 0]) ∧ Below w.heap.size w w' := by
  go_enter Try.func11, Try.ntmps11
  go_wp2_with fail
  refine bodyPost_ret (results_cell21 rfl _ _ w.heap.size 34 _ (0, 0) itD.choose rfl (heap_alloc_new w _) itD.choose_spec.1 itD.choose_spec.2 itSize) rfl ?_
  exact ⟨rfl, (Below.refl _ _).alloc (Nat.le_refl _) _⟩
set_option maxHeartbeats 2000000 in
theorem rJ_any (a l : Int) (w : World) : Calls Try.prog 12 #[.int .i64 a, .int .i64 l] w fun e w' => e = .returned (.agg #[.int .i64 3, .int .i64 28, .int .i64 a, .int .i64 0, .int .i64 0, .int .i64 0, .int .i64 l, .int .i64 0]) ∧ Below w.heap.size w w' := by
  go_enter Try.func12, Try.ntmps12
  go_wp2_with fail
  refine bodyPost_ret (results_cell21 rfl _ _ w.heap.size 34 _ (0, 0) itD.choose rfl (heap_alloc_new w _) itD.choose_spec.1 itD.choose_spec.2 itSize) rfl ?_
  exact ⟨rfl, (Below.refl _ _).alloc (Nat.le_refl _) _⟩
set_option maxHeartbeats 2000000 in
theorem rK_any (a n : Int) (w : World) : Calls Try.prog 14 #[.int .i64 a, .int .i64 n] w fun e w' => e = .returned (.agg #[.int .i64 4, .int .i64 20, .int .i64 a, .int .i64 0, .int .i64 0, .int .i64 0, .int .i64 0, .int .i64 n]) ∧ Below w.heap.size w w' := by
  go_enter Try.func14, Try.ntmps14
  go_wp2_with fail
  refine bodyPost_ret (results_cell21 rfl _ _ w.heap.size 34 _ (0, 0) itD.choose rfl (heap_alloc_new w _) itD.choose_spec.1 itD.choose_spec.2 itSize) rfl ?_
  exact ⟨rfl, (Below.refl _ _).alloc (Nat.le_refl _) _⟩
set_option maxHeartbeats 2000000 in
theorem rP_any (a l : Int) (w : World) : Calls Try.prog 13 #[.int .i64 a, .int .i64 l] w fun e w' => e = .returned (.agg #[.int .i64 5, .int .i64 20, .int .i64 a, .int .i64 0, .int .i64 0, .int .i64 0, .int .i64 l, .int .i64 0]) ∧ Below w.heap.size w w' := by
  go_enter Try.func13, Try.ntmps13
  go_wp2_with fail
  refine bodyPost_ret (results_cell21 rfl _ _ w.heap.size 34 _ (0, 0) itD.choose rfl (heap_alloc_new w _) itD.choose_spec.1 itD.choose_spec.2 itSize) rfl ?_
  exact ⟨rfl, (Below.refl _ _).alloc (Nat.le_refl _) _⟩
set_option maxHeartbeats 2000000 in
theorem rL_any (n : Int) (w : World) : Calls Try.prog 10 #[.int .i64 n] w fun e w' => e = .returned (.agg #[.int .i64 1, .int .i64 0, .int .i64 0, .int .i64 0, .int .i64 0, .int .i64 0, .int .i64 n, .int .i64 0]) ∧ Below w.heap.size w w' := by
  go_enter Try.func10, Try.ntmps10
  go_wp2_with fail
  refine bodyPost_ret (results_cell21 rfl _ _ w.heap.size 34 _ (0, 0) itD.choose rfl (heap_alloc_new w _) itD.choose_spec.1 itD.choose_spec.2 itSize) rfl ?_
  exact ⟨rfl, (Below.refl _ _).alloc (Nat.le_refl _) _⟩
end Sg
end Go.Proofs.Ytdmfogmgjmdaeaa
