/- Run's contract. -/
import Derived.Deep.LoopGhost
import Derived.Deep.RegionHeld3
import Derived.Test.YtdmfogmgjmdaeaaBJbe
import Derived.Test.YtdmfogmgjmdaeaaBJbi
set_option linter.unusedVariables false
set_option linter.unusedSimpArgs false
set_option linter.unnecessarySimpa false
namespace Go.Proofs.Ytdmfogmgjmdaeaa
open Go.RowKit
set_option maxRecDepth 100000
set_option linter.unusedVariables false
set_option linter.unusedSimpArgs false
def u32s (code : List Int) : List Value := code.map (Value.int .u32)
def i64s (l : List Int) : List Value := l.map (Value.int .i64)
theorem u32_at {w : World} {b off : Nat} {code : List Int} (h : ∀ j, j < (u32s code).length → w.cell? ⟨b, off + j, none⟩ = some ((u32s code).getD j undef)) {j : Nat} (hj : j < code.length) :
    w.cell? ⟨b, off + j, none⟩ = some (.int .u32 (code.getD j 0)) := by
  rw [h j (by simpa [u32s] using hj)]
  congr 1
  simp [u32s, List.getD_eq_getElem?_getD, List.getElem?_map, List.getElem?_eq_getElem hj]

theorem getD_mem {l : List Int} {i : Nat} (h : i < l.length) : l.getD i 0 ∈ l := by
  rw [List.getD_eq_getElem?_getD, List.getElem?_eq_getElem h]
  exact List.getElem_mem h
theorem inv_next {code : List Int} {lim x : Int} {m : Rs.M} (h : Rs.Inv code lim m) (hl : m.steps < lim) (hp : 0 ≤ m.pc ∧ m.pc ≤ 1048576) (hx : Rs.decB x = true) (h6 : (Rs.execW x m).2 = 6) : Rs.Inv code lim (Rs.execW x m).1 := by
  have hn := n_not_bad (decB_not_bad hx)
  obtain ⟨s1, s2⟩ := Rs.exec_steps h6
  refine ⟨Rs.exec_ok h.ok hp (by unfold Rs.InR; omega), ?_, ?_, ?_⟩
  · show 0 ≤ (Rs.exec _ _ _ _ _ m).1.steps
    rw [s1]; have := h.s0; omega
  · show (Rs.exec _ _ _ _ _ m).1.steps ≤ lim
    rw [s1]; omega
  · show ((Rs.exec _ _ _ _ _ m).1.out.length : Int) ≤ (Rs.exec _ _ _ _ _ m).1.steps
    rw [s1]; have := h.out; omega

end Go.Proofs.Ytdmfogmgjmdaeaa
namespace Go.Proofs.Ytdmfogmgjmdaeaa
open Go.RowKit
set_option maxRecDepth 100000
set_option linter.unusedVariables false
set_option linter.unusedSimpArgs false
namespace Rs
def zero : M := ⟨0, 0, 0, List.replicate 32 0, [], [], []⟩
def runI (code mem : List Int) (words : Int) (inp : List UInt8) (steps : Int) : M × Int := if noImage code mem words steps then (zero, 7) else run code mem words inp steps
end Rs
theorem haltSize : (Try.prog.info? 26).map (·.size) = some 38 := by kernel_rfl
def halt7 : Array Value := (Rs.halt 7 Rs.zero (.slice none 0 0)).toArray
theorem halt7_size : halt7.size = 38 := by decide
theorem halt7_one : ∀ v ∈ halt7.toList, v.oneCell' = true := halt_one' rfl
theorem built7 : Try.prog.built 26 [(0, .int .i64 7)] = some halt7 := by kernel_rfl
theorem wpList_build7 {ops : Array Oper} {rest : List Oper} {o : Oper} {a : Act} {w : World} {Q : Exit → Act → World → Prop} (hg : o.guard = none) (ho : o.op = .build 26 #[(0, .const (.int .i64 7))])
    (h : wpList Try.prog ops Q rest (a.put o.dst (.agg halt7)) w) : wpList Try.prog ops Q (o :: rest) a w := by
  have e : Try.prog.built 26 ((#[(0, Operand.const (.int .i64 7))].map fun (i, x) => (i, a.eval x)).toList) = some halt7 := by
    rw [show ((#[(0, Operand.const (.int .i64 7))].map fun (i, x) => (i, a.eval x)).toList) = [(0, .int .i64 7)] by simp [Act.eval]]
    exact built7
  refine wpList_build hg _ _ ho (by rw [e]; rfl) ?_
  rw [e]
  exact h
theorem run_no_end {w w' : World} (hb : Below w.heap.size w w') : RunYes (Rs.zero, 7) w (.returned (.agg halt7)) w' := ⟨_, rfl, World.ownsRow_nil _ _ _ _, hb⟩
theorem hst7 (w : World) (g t : Nat) (old : Array Value) (hg : w.heap[g]? = some (.cells old t (0, 0))) (ho : old.size = 38) : (storeCells ⟨g, 0, none⟩ halt7.toList).run Try.prog w = .ok () (w.setRow g halt7) := by
  have := store_all (P := Try.prog) w g t old halt7.toList hg (by rw [ho, Array.length_toList, halt7_size]) halt7_one
  simpa using this
end Go.Proofs.Ytdmfogmgjmdaeaa
