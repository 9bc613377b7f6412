/- An answer of Run in a variable. -/
import Derived.Deep.WholeRow
import Derived.Test.YtaldcgfhlflcpaaAJar
import Derived.Test.YtaldcgfhlflcpaaAJak
set_option linter.unusedVariables false
set_option linter.unusedSimpArgs false
set_option linter.unnecessarySimpa false
namespace Go.Proofs.Ytaldcgfhlflcpaa
open Go.RowKit
set_option maxRecDepth 100000
set_option linter.unusedVariables false
set_option linter.unusedSimpArgs false
namespace Rs
theorem exec_len (op a b c n : Int) (m : M) : (exec op a b c n m).1.regs.length = m.regs.length := by
  have key : ∀ r, exec op a b c n m = r → r.1.regs.length = m.regs.length := by
    intro r hr
    unfold exec at hr
    dsimp only at hr
    repeat' split at hr
    all_goals subst hr
    all_goals simp [adv, setReg_facts]
  exact key _ rfl
theorem go_len (code : List Int) : ∀ (k : Nat) (m : M), (go code k m).1.regs.length = m.regs.length
  | 0, m => rfl
  | k + 1, m => by
    unfold go
    split
    · rfl
    · split
      · rfl
      · split
        · rw [go_len code k]; exact exec_len _ _ _ _ _ _
        · exact exec_len _ _ _ _ _ _
theorem runI_len (code mem : List Int) (words : Int) (inp : List UInt8) (steps : Int) : (runI code mem words inp steps).1.regs.length = 32 := by
  unfold runI
  split
  · rfl
  · unfold run
    rw [go_len]
    simp [start]
end Rs
def halt0 : Array Value := #[.int .i64 0, .int .i64 0, .string ⟨#[]⟩, .int .i64 0, .int .i64 0, .int .i64 0, .int .i64 0, .int .i64 0, .int .i64 0, .int .i64 0, .int .i64 0, .int .i64 0, .int .i64 0, .int .i64 0, .int .i64 0, .int .i64 0, .int .i64 0, .int .i64 0, .int .i64 0, .int .i64 0, .int .i64 0, .int .i64 0, .int .i64 0, .int .i64 0, .int .i64 0, .int .i64 0, .int .i64 0, .int .i64 0, .int .i64 0, .int .i64 0, .int .i64 0, .int .i64 0, .int .i64 0, .int .i64 0, .int .i64 0, .int .i64 0, .int .i64 0, .slice none 0 0]
theorem halt_store (w : World) (st : Int) (m : Rs.M) (mv : Value) (hr : m.regs.length = 32) (h1 : mv.oneCell' = true) :
    (storeCells ⟨w.heap.size, 0, none⟩ (Rs.halt st m mv)).run Try.prog (w.alloc (.cells #[.int .i64 0, .int .i64 0, .string ⟨#[]⟩, .int .i64 0, .int .i64 0, .int .i64 0, .int .i64 0, .int .i64 0, .int .i64 0, .int .i64 0, .int .i64 0, .int .i64 0, .int .i64 0, .int .i64 0, .int .i64 0, .int .i64 0, .int .i64 0, .int .i64 0, .int .i64 0, .int .i64 0, .int .i64 0, .int .i64 0, .int .i64 0, .int .i64 0, .int .i64 0, .int .i64 0, .int .i64 0, .int .i64 0, .int .i64 0, .int .i64 0, .int .i64 0, .int .i64 0, .int .i64 0, .int .i64 0, .int .i64 0, .int .i64 0, .int .i64 0, .slice none 0 0] 36)) =
      .ok () (w.alloc (.cells (Rs.halt st m mv).toArray 36)) := by
  have hl : (Rs.halt st m mv).length = 38 := by simp [Rs.halt, hr]
  rw [store_all (P := Try.prog) _ w.heap.size 36 _ (Rs.halt st m mv) (heap_alloc_new w _) (by rw [hl]; rfl) (halt_one' h1)]
  rw [World.setRow_alloc_new]
theorem halt_len' {st : Int} {m : Rs.M} {mv : Value} (hr : m.regs.length = 32) : (Rs.halt st m mv).length = 38 := by simp [Rs.halt, hr]
structure HaltAt (w : World) (k : Nat) (st : Int) (m : Rs.M) (mv : Value) : Prop where
  blk : w.heap[k]? = some (.cells (Rs.halt st m mv).toArray 36 (0, 0))
  regs : m.regs.length = 32
section
variable {w : World} {k : Nat} {st : Int} {m : Rs.M} {mv : Value}
theorem HaltAt.new (w : World) (h : m.regs.length = 32) : HaltAt (w.alloc (.cells (Rs.halt st m mv).toArray 36)) w.heap.size st m mv := ⟨heap_alloc_new w _, h⟩
theorem HaltAt.cell (h : HaltAt w k st m mv) (j : Nat) : w.cell? ⟨k, j, none⟩ = (Rs.halt st m mv)[j]? := by
  rw [cell_of_row w k j _ _ _ h.blk]; simp
theorem HaltAt.c0 (h : HaltAt w k st m mv) : w.cell? ⟨k, 0, none⟩ = some (.int .i64 st) := h.cell 0
theorem HaltAt.c1 (h : HaltAt w k st m mv) : w.cell? ⟨k, 1, none⟩ = some (.int .i64 m.value) := h.cell 1
theorem HaltAt.c2 (h : HaltAt w k st m mv) : w.cell? ⟨k, 2, none⟩ = some (.string ⟨m.out.toArray⟩) := h.cell 2
theorem HaltAt.c3 (h : HaltAt w k st m mv) : w.cell? ⟨k, 3, none⟩ = some (.int .i64 m.steps) := h.cell 3
theorem HaltAt.c4 (h : HaltAt w k st m mv) : w.cell? ⟨k, 4, none⟩ = some (.int .i64 m.pc) := h.cell 4
theorem HaltAt.cR (h : HaltAt w k st m mv) {i : Nat} (hi : i < 32) : w.cell? ⟨k, 5 + i, none⟩ = some (.int .i64 (m.regs.getD i 0)) := by
  rw [h.cell]
  unfold Rs.halt
  rw [show 5 + i = i + 5 by omega]
  have hr := h.regs
  simp only [List.getElem?_cons_succ]
  rw [List.getElem?_append_left (by simp; omega), List.getElem?_map, List.getElem?_eq_getElem (by omega), List.getD_eq_getElem?_getD, List.getElem?_eq_getElem (by omega)]
  rfl
theorem HaltAt.c37 (h : HaltAt w k st m mv) : w.cell? ⟨k, 37, none⟩ = some mv := by
  rw [h.cell]
  unfold Rs.halt
  have hr := h.regs
  simp only [List.getElem?_cons_succ]
  rw [List.getElem?_append_right (by simp; omega)]
  simp [hr]
theorem HaltAt.lt (h : HaltAt w k st m mv) : k < w.heap.size := (Array.getElem?_eq_some_iff.1 h.blk).1
theorem HaltAt.below {w' : World} {N : Nat} (h : HaltAt w k st m mv) (hb : Below N w w') (hN : k < N) : HaltAt w' k st m mv := ⟨(hb.block k hN).trans h.blk, h.regs⟩
theorem HaltAt.drewN (h : HaltAt w k st m mv) (n : Nat) : HaltAt (w.drewN n) k st m mv := ⟨h.blk, h.regs⟩
end
end Go.Proofs.Ytaldcgfhlflcpaa
