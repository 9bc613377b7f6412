/- The reference's Run, whole. -/
import Derived.Test.YtbcpflogkniojaaQRiscRRun
import Derived.Test.YtbcpflogkniojaaQMC
namespace Go.Proofs.Ytbcpflogkniojaa
open Go.RowKit
set_option linter.unusedVariables false
set_option linter.unusedSimpArgs false
set_option maxHeartbeats 8000000 in
set_option maxRecDepth 100000 in
theorem rrun_no (ac am : Option Addr) (cc cm lc lm : Nat) (words : Int) (inp : List UInt8) (steps : Int) (w : World) (hno : words < 0 ∨ 1048576 < words ∨ 1048576 < lc ∨ words < lm ∨ steps < 0) :
    Calls Try.prog 16 #[.agg #[.slice ac lc cc, .slice am lm cm, .int .i64 words], .string ⟨inp.toArray⟩, .int .i64 steps] w (RunYes (Rs.zero, 7) w) := by
  have hcases : words < 0 ∨ (0 ≤ words ∧ 1048576 < words) ∨ (0 ≤ words ∧ words ≤ 1048576 ∧ 1048576 < (lc : Int)) ∨ (0 ≤ words ∧ words ≤ 1048576 ∧ (lc : Int) ≤ 1048576 ∧ words < lm) ∨ (0 ≤ words ∧ words ≤ 1048576 ∧ (lc : Int) ≤ 1048576 ∧ (lm : Int) ≤ words ∧ steps < 0) := by omega
  clear hno
  rcases hcases with a1 | ⟨a1, a2⟩ | ⟨a1, a2, a3⟩ | ⟨a1, a2, a3, a4⟩ | ⟨a1, a2, a3, a4, a5⟩
  all_goals
    have hz := halt7_size
    have hst := hst7 ((w.alloc (.cells #[.slice ac lc cc, .slice am lm cm, .int .i64 words] 47)).alloc (.cells #[.int .i64 0, .int .i64 0, .string ⟨#[]⟩, .int .i64 0, .int .i64 0, .int .i64 0, .int .i64 0, .int .i64 0, .int .i64 0, .int .i64 0, .int .i64 0, .int .i64 0, .int .i64 0, .int .i64 0, .int .i64 0, .int .i64 0, .int .i64 0, .int .i64 0, .int .i64 0, .int .i64 0, .int .i64 0, .int .i64 0, .int .i64 0, .int .i64 0, .int .i64 0, .int .i64 0, .int .i64 0, .int .i64 0, .int .i64 0, .int .i64 0, .int .i64 0, .int .i64 0, .int .i64 0, .int .i64 0, .int .i64 0, .int .i64 0, .int .i64 0, .slice none 0 0] 44)) (w.heap.size + 1) 44 _ (heap_alloc2_new _ _ _) rfl
    have HG := Lib.hid (setRow_heap _ (w.heap.size + 1) _ halt7 44 (0, 0) (heap_alloc2_new w (.cells #[.slice ac lc cc, .slice am lm cm, .int .i64 words] 47) (.cells #[.int .i64 0, .int .i64 0, .string ⟨#[]⟩, .int .i64 0, .int .i64 0, .int .i64 0, .int .i64 0, .int .i64 0, .int .i64 0, .int .i64 0, .int .i64 0, .int .i64 0, .int .i64 0, .int .i64 0, .int .i64 0, .int .i64 0, .int .i64 0, .int .i64 0, .int .i64 0, .int .i64 0, .int .i64 0, .int .i64 0, .int .i64 0, .int .i64 0, .int .i64 0, .int .i64 0, .int .i64 0, .int .i64 0, .int .i64 0, .int .i64 0, .int .i64 0, .int .i64 0, .int .i64 0, .int .i64 0, .int .i64 0, .int .i64 0, .int .i64 0, .slice none 0 0] 44)))
    go_enter Try.func16, Try.ntmps16
    go_wp2_with (refine wpList_build7 rfl rfl ?_)
    refine bodyPost_ret (results_cell rfl _ _ (w.heap.size + 1) 44 halt7 (0, 0) haltD.choose rfl HG.out haltD.choose_spec.1 haltD.choose_spec.2 (by rw [hz]; exact haltSize)) rfl ?_
    exact run_no_end (below_setRow (((Below.refl _ _).alloc (Nat.le_refl _) _).alloc (by simp) _) (by omega) _)
/-- Run, of any image. -/
theorem rrun_any (vc vm : Value) (code mem : List Int) (words : Int) (inp : List UInt8) (steps : Int) (w : World) (hc : Sl w vc (u32s code)) (hm : Sl w vm (i64s mem)) (hcr : ∀ x ∈ code, 0 ≤ x ∧ x < 4294967296) (hmr : ∀ x ∈ mem, Rs.InR x) (hs : steps ≤ 1000000000000) :
    Calls Try.prog 16 #[.agg #[vc, vm, .int .i64 words], .string ⟨inp.toArray⟩, .int .i64 steps] w (RunYes (Rs.runI code mem words inp steps) w) := by
  unfold Rs.runI
  by_cases hno : Rs.noImage code mem words steps
  · rw [if_pos hno]
    obtain ⟨ac, cc, rfl⟩ := hc.len
    obtain ⟨am, cm, rfl⟩ := hm.len
    refine rrun_no ac am cc cm _ _ words inp steps w ?_
    unfold Rs.noImage at hno
    simp only [u32s, i64s, List.length_map]
    omega
  · rw [if_neg hno]
    exact rrun_yes vc vm code mem words inp steps w hc hm hcr hmr hs hno
end Go.Proofs.Ytbcpflogkniojaa
