/- Run's contract, whole. -/
import Derived.Test.YtembhjfejhnpfaaRiscRun
namespace Go.Proofs.Ytembhjfejhnpfaa
open Go.RowKit
set_option linter.unusedVariables false
set_option linter.unusedSimpArgs false
namespace Rs
def zero : M := ⟨0, 0, 0, List.replicate 32 0, [], [], []⟩
/-- A run, an image that is none with it. -/
def runI (code mem : List Int) (words : Int) (inp : List UInt8) (steps : Int) : M × Int := if noImage code mem words steps then (zero, 7) else run code mem words inp steps
end Rs
theorem haltSize : (Try.prog.info? 39).map (·.size) = some 38 := by kernel_rfl
/-- What is told of an image that is none. -/
def halt7 : Array Value := (Rs.halt 7 Rs.zero (.slice none 0 0)).toArray
theorem halt7_size : halt7.size = 38 := by decide
theorem halt7_one : ∀ v ∈ halt7.toList, v.oneCell' = true := halt_one' rfl
theorem built7 : Try.prog.built 39 [(0, .int .i64 7)] = some halt7 := by kernel_rfl
theorem wpList_build7 {ops : Array Oper} {rest : List Oper} {o : Oper} {a : Act} {w : World} {Q : Exit → Act → World → Prop} (hg : o.guard = none) (ho : o.op = .build 39 #[(0, .const (.int .i64 7))])
    (h : wpList Try.prog ops Q rest (a.put o.dst (.agg halt7)) w) : wpList Try.prog ops Q (o :: rest) a w := by
  have e : Try.prog.built 39 ((#[(0, Operand.const (.int .i64 7))].map fun (i, x) => (i, a.eval x)).toList) = some halt7 := by
    rw [show ((#[(0, Operand.const (.int .i64 7))].map fun (i, x) => (i, a.eval x)).toList) = [(0, .int .i64 7)] by simp [Act.eval]]
    exact built7
  refine wpList_build hg _ _ ho (by rw [e]; rfl) ?_
  rw [e]
  exact h
theorem run_no_end {w w' : World} (hb : Below w.heap.size w w') : RunYes (Rs.zero, 7) w (.returned (.agg halt7)) w' := ⟨_, rfl, World.ownsRow_nil _ _ _ _, hb⟩
theorem hst7 (w : World) (g t : Nat) (old : Array Value) (hg : w.heap[g]? = some (.cells old t (0, 0))) (ho : old.size = 38) : (storeCells ⟨g, 0, none⟩ halt7.toList).run Try.prog w = .ok () (w.setRow g halt7) := by
  have := store_all (P := Try.prog) w g t old halt7.toList hg (by rw [ho, Array.length_toList, halt7_size]) halt7_one
  simpa using this
set_option maxHeartbeats 8000000 in
set_option maxRecDepth 100000 in
theorem run_no (ac am : Option Addr) (cc cm lc lm : Nat) (words : Int) (inp : List UInt8) (steps : Int) (w : World) (hno : words < 0 ∨ 1048576 < words ∨ 1048576 < lc ∨ words < lm ∨ steps < 0) :
    Calls Try.prog 14 #[.agg #[.slice ac lc cc, .slice am lm cm, .int .i64 words], .string ⟨inp.toArray⟩, .int .i64 steps] w (RunYes (Rs.zero, 7) w) := by
  have hcases : words < 0 ∨ (0 ≤ words ∧ 1048576 < words) ∨ (0 ≤ words ∧ words ≤ 1048576 ∧ 1048576 < (lc : Int)) ∨ (0 ≤ words ∧ words ≤ 1048576 ∧ (lc : Int) ≤ 1048576 ∧ words < lm) ∨ (0 ≤ words ∧ words ≤ 1048576 ∧ (lc : Int) ≤ 1048576 ∧ (lm : Int) ≤ words ∧ steps < 0) := by omega
  clear hno
  rcases hcases with a1 | ⟨a1, a2⟩ | ⟨a1, a2, a3⟩ | ⟨a1, a2, a3, a4⟩ | ⟨a1, a2, a3, a4, a5⟩
  all_goals
    have hz := halt7_size
    have hst := hst7 ((w.alloc (.cells #[.slice ac lc cc, .slice am lm cm, .int .i64 words] 35)).alloc (.cells #[.int .i64 0, .int .i64 0, .string ⟨#[]⟩, .int .i64 0, .int .i64 0, .int .i64 0, .int .i64 0, .int .i64 0, .int .i64 0, .int .i64 0, .int .i64 0, .int .i64 0, .int .i64 0, .int .i64 0, .int .i64 0, .int .i64 0, .int .i64 0, .int .i64 0, .int .i64 0, .int .i64 0, .int .i64 0, .int .i64 0, .int .i64 0, .int .i64 0, .int .i64 0, .int .i64 0, .int .i64 0, .int .i64 0, .int .i64 0, .int .i64 0, .int .i64 0, .int .i64 0, .int .i64 0, .int .i64 0, .int .i64 0, .int .i64 0, .int .i64 0, .slice none 0 0] 39)) (w.heap.size + 1) 39 _ (heap_alloc2_new _ _ _) rfl
    have HG := Lib.hid (setRow_heap _ (w.heap.size + 1) _ halt7 39 (0, 0) (heap_alloc2_new w (.cells #[.slice ac lc cc, .slice am lm cm, .int .i64 words] 35) (.cells #[.int .i64 0, .int .i64 0, .string ⟨#[]⟩, .int .i64 0, .int .i64 0, .int .i64 0, .int .i64 0, .int .i64 0, .int .i64 0, .int .i64 0, .int .i64 0, .int .i64 0, .int .i64 0, .int .i64 0, .int .i64 0, .int .i64 0, .int .i64 0, .int .i64 0, .int .i64 0, .int .i64 0, .int .i64 0, .int .i64 0, .int .i64 0, .int .i64 0, .int .i64 0, .int .i64 0, .int .i64 0, .int .i64 0, .int .i64 0, .int .i64 0, .int .i64 0, .int .i64 0, .int .i64 0, .int .i64 0, .int .i64 0, .int .i64 0, .int .i64 0, .slice none 0 0] 39)))
    go_enter Try.func14, Try.ntmps14
    go_wp2_with (refine wpList_build7 rfl rfl ?_)
    refine bodyPost_ret (results_cell rfl _ _ (w.heap.size + 1) 39 halt7 (0, 0) haltD.choose rfl HG.out haltD.choose_spec.1 haltD.choose_spec.2 (by rw [hz]; exact haltSize)) rfl ?_
    exact run_no_end (below_setRow (((Below.refl _ _).alloc (Nat.le_refl _) _).alloc (by simp) _) (by omega) _)
/-- Run, of any image. -/
theorem run_any (vc vm : Value) (code mem : List Int) (words : Int) (inp : List UInt8) (steps : Int) (w : World) (hc : Sl w vc (u32s code)) (hm : Sl w vm (i64s mem)) (hcr : ∀ x ∈ code, 0 ≤ x ∧ x < 4294967296) (hmr : ∀ x ∈ mem, Rs.InR x) (hs : steps ≤ 1000000000000) :
    Calls Try.prog 14 #[.agg #[vc, vm, .int .i64 words], .string ⟨inp.toArray⟩, .int .i64 steps] w (RunYes (Rs.runI code mem words inp steps) w) := by
  unfold Rs.runI
  by_cases hno : Rs.noImage code mem words steps
  · rw [if_pos hno]
    obtain ⟨ac, cc, rfl⟩ := hc.len
    obtain ⟨am, cm, rfl⟩ := hm.len
    refine run_no ac am cc cm _ _ words inp steps w ?_
    unfold Rs.noImage at hno
    simp only [u32s, i64s, List.length_map]
    omega
  · rw [if_neg hno]
    exact run_yes vc vm code mem words inp steps w hc hm hcr hmr hs hno
end Go.Proofs.Ytembhjfejhnpfaa
