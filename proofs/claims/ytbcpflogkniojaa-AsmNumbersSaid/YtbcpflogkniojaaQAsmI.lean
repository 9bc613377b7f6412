/- The law's items. -/
import Derived.Test.YtbcpflogkniojaaQMA
namespace Go.Proofs.Ytbcpflogkniojaa
open Go.RowKit
set_option linter.unusedVariables false
set_option linter.unusedSimpArgs false
theorem itemD : ∃ d, Try.prog.underlying 35 = some d ∧ d.isRow = true := ⟨_, Try.underlying35, rfl⟩
theorem itemSize : (Try.prog.info? 35).map (·.size) = some 8 := by kernel_rfl
set_option maxHeartbeats 2000000 in
theorem constant_any (r n : Int) (w : World) : Calls Try.prog 13 #[.int .i64 r, .int .i64 n] w fun e w' => e = .returned (.agg #[.int .i64 4, .int .i64 20, .int .i64 r, .int .i64 0, .int .i64 0, .int .i64 0, .int .i64 0, .int .i64 n]) ∧ Below w.heap.size w w' := by
  go_enter Try.func13, Try.ntmps13
  go_wp2_with fail
  refine bodyPost_ret (results_cell21 rfl _ _ w.heap.size 35 _ (0, 0) itemD.choose rfl (heap_alloc_new w _) itemD.choose_spec.1 itemD.choose_spec.2 itemSize) rfl ?_
  exact ⟨rfl, (Below.refl _ _).alloc (Nat.le_refl _) _⟩
set_option maxHeartbeats 2000000 in
theorem instr_any (op a n : Int) (w : World) : Calls Try.prog 14 #[.int .i64 op, .int .i64 a, .int .i64 n] w fun e w' => e = .returned (.agg #[.int .i64 0, .int .i64 op, .int .i64 a, .int .i64 0, .int .i64 0, .int .i64 n, .int .i64 0, .int .i64 0]) ∧ Below w.heap.size w w' := by
  go_enter Try.func14, Try.ntmps14
  go_wp2_with fail
  refine bodyPost_ret (results_cell21 rfl _ _ w.heap.size 35 _ (0, 0) itemD.choose rfl (heap_alloc_new w _) itemD.choose_spec.1 itemD.choose_spec.2 itemSize) rfl ?_
  exact ⟨rfl, (Below.refl _ _).alloc (Nat.le_refl _) _⟩
set_option maxHeartbeats 2000000 in
theorem label_any (k : Int) (w : World) : Calls Try.prog 15 #[.int .i64 k] w fun e w' => e = .returned (.agg #[.int .i64 1, .int .i64 0, .int .i64 0, .int .i64 0, .int .i64 0, .int .i64 0, .int .i64 k, .int .i64 0]) ∧ Below w.heap.size w w' := by
  go_enter Try.func15, Try.ntmps15
  go_wp2_with fail
  refine bodyPost_ret (results_cell21 rfl _ _ w.heap.size 35 _ (0, 0) itemD.choose rfl (heap_alloc_new w _) itemD.choose_spec.1 itemD.choose_spec.2 itemSize) rfl ?_
  exact ⟨rfl, (Below.refl _ _).alloc (Nat.le_refl _) _⟩
set_option maxHeartbeats 2000000 in
theorem branch_any (op k : Int) (w : World) : Calls Try.prog 17 #[.int .i64 op, .int .i64 k] w fun e w' => e = .returned (.agg #[.int .i64 2, .int .i64 op, .int .i64 0, .int .i64 0, .int .i64 0, .int .i64 0, .int .i64 k, .int .i64 0]) ∧ Below w.heap.size w w' := by
  go_enter Try.func17, Try.ntmps17
  go_wp2_with fail
  refine bodyPost_ret (results_cell21 rfl _ _ w.heap.size 35 _ (0, 0) itemD.choose rfl (heap_alloc_new w _) itemD.choose_spec.1 itemD.choose_spec.2 itemSize) rfl ?_
  exact ⟨rfl, (Below.refl _ _).alloc (Nat.le_refl _) _⟩
end Go.Proofs.Ytbcpflogkniojaa
