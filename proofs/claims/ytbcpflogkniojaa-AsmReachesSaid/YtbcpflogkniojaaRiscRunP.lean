/- Runs, plainly. -/
import Derived.Test.YtbcpflogkniojaaRiscSt
import Derived.Test.YtbcpflogkniojaaSl
namespace Go.Proofs.Ytbcpflogkniojaa
open Go.RowKit
set_option linter.unusedSimpArgs false
set_option linter.unusedVariables false
namespace Rs
def noImage (code mem : List Int) (words steps : Int) : Prop := words < 0 ∨ 1048576 < words ∨ 1048576 < code.length ∨ words < mem.length ∨ steps < 0
instance (code mem : List Int) (words steps : Int) : Decidable (noImage code mem words steps) := by unfold noImage; exact inferInstance
def start (mem : List Int) (words : Int) (inp : List UInt8) : M := ⟨0, 0, 0, List.replicate 32 0, mem ++ List.replicate (words.toNat - mem.length) 0, inp, []⟩
def run (code mem : List Int) (words : Int) (inp : List UInt8) (steps : Int) : M × Int := go code steps.toNat (start mem words inp)
/-- What is told of a machine in the end. -/
def halt (st : Int) (m : M) (mv : Value) : List Value :=
  .int .i64 st :: .int .i64 m.value :: .string ⟨m.out.toArray⟩ :: .int .i64 m.steps :: .int .i64 m.pc :: (m.regs.map (Value.int .i64) ++ [mv])
def none7 : List Value := .int .i64 7 :: .int .i64 0 :: .string ⟨#[]⟩ :: .int .i64 0 :: .int .i64 0 :: (List.replicate 32 (.int .i64 0) ++ [.slice none 0 0])
/-- What holds at a round's head. -/
structure Inv (code : List Int) (lim : Int) (m : M) : Prop where
  ok : Ok m
  s0 : 0 ≤ m.steps
  s1 : m.steps ≤ lim
  out : m.out.length ≤ m.steps
theorem setReg_out (m : M) (r v : Int) : (setReg m r v).out = m.out ∧ (setReg m r v).steps = m.steps := by unfold setReg; split <;> exact ⟨rfl, rfl⟩
theorem exec_steps {op a b c n : Int} {m : M} (h : (exec op a b c n m).2 = 6) : (exec op a b c n m).1.steps = m.steps + 1 ∧ ((exec op a b c n m).1.out.length : Int) ≤ m.out.length + 1 := by
  have key : ∀ r, exec op a b c n m = r → r.2 = 6 → r.1.steps = m.steps + 1 ∧ (r.1.out.length : Int) ≤ m.out.length + 1 := by
    intro r hr h6
    unfold exec at hr
    dsimp only at hr
    repeat' split at hr
    all_goals subst hr
    all_goals first
      | (simp at h6; done)
      | (refine ⟨by simp [adv, setReg_out], ?_⟩; simp [adv, setReg_out] <;> omega)
  exact key _ rfl h
theorem start_ok {mem : List Int} {words : Int} {inp : List UInt8} (hm : ∀ x ∈ mem, InR x) (h0 : 0 ≤ words) (h1 : words ≤ 1048576) (h2 : (mem.length : Int) ≤ words) : Ok (start mem words inp) := by
  refine ⟨by simp [start], fun x hx => ?_, fun x hx => ?_, by simp [start]; omega⟩
  · have := (List.mem_replicate.1 hx).2; rw [this]; exact InR.zero
  · rcases List.mem_append.1 hx with h | h
    · exact hm x h
    · have := (List.mem_replicate.1 h).2; rw [this]; exact InR.zero
end Rs
/-- Three blocks made one behind the other. -/
theorem three_made (w : World) (c1 c2 c3 : Array Value) (t1 t2 t3 : TypeId) {W : World} (h : ((w.alloc (.cells c1 t1)).alloc (.cells c2 t2)).alloc (.cells c3 t3) = W) :
    W.heap[w.heap.size]? = some (.cells c1 t1 (0, 0)) ∧ W.heap[w.heap.size + 1]? = some (.cells c2 t2 (0, 0)) ∧ W.heap[w.heap.size + 1 + 1]? = some (.cells c3 t3 (0, 0)) ∧ W.heap.size = w.heap.size + 3 ∧ Below w.heap.size w W := by
  subst h
  have h3 := heap_alloc_new ((w.alloc (.cells c1 t1)).alloc (.cells c2 t2)) (.cells c3 t3)
  have e3 : ((w.alloc (.cells c1 t1)).alloc (.cells c2 t2)).heap.size = w.heap.size + 1 + 1 := by simp
  rw [e3] at h3
  have h2 := heap_alloc_new (w.alloc (.cells c1 t1)) (.cells c2 t2)
  have e2 : (w.alloc (.cells c1 t1)).heap.size = w.heap.size + 1 := by simp
  rw [e2] at h2
  have h1 := heap_alloc_new w (.cells c1 t1)
  have k2 := ((Below.refl ((w.alloc (.cells c1 t1)).alloc (.cells c2 t2)).heap.size ((w.alloc (.cells c1 t1)).alloc (.cells c2 t2))).alloc (Nat.le_refl _) (.cells c3 t3)).block
  have k1 := ((Below.refl (w.alloc (.cells c1 t1)).heap.size (w.alloc (.cells c1 t1))).alloc (Nat.le_refl _) (.cells c2 t2)).block
  refine ⟨?_, ?_, h3, by simp, (((Below.refl _ _).alloc (Nat.le_refl _) _).alloc (by simp) _).alloc (by simp; omega) _⟩
  · rw [k2 w.heap.size (by rw [e3]; omega), k1 w.heap.size (by rw [e2]; omega)]; exact h1
  · rw [k2 (w.heap.size + 1) (by rw [e3]; omega)]; exact h2
end Go.Proofs.Ytbcpflogkniojaa
