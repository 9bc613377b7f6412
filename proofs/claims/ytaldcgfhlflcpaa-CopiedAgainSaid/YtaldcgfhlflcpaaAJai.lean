/- The machine in memory. -/
import Derived.OneCell
import Derived.Laws.OwnMore
import Derived.Laws.Rows
import Derived.Test.YtaldcgfhlflcpaaAJah
import Derived.Test.YtaldcgfhlflcpaaAJad
set_option linter.unusedVariables false
set_option linter.unusedSimpArgs false
set_option linter.unnecessarySimpa false
namespace Go.Proofs.Ytaldcgfhlflcpaa
open Go.RowKit
set_option maxRecDepth 100000
set_option linter.unusedSimpArgs false
set_option linter.unusedVariables false
namespace Rs
def cells (st : Int) (m : M) (mv ov : Value) : List Value :=
  .int .i64 st :: .int .i64 m.value :: .string ⟨#[]⟩ :: .int .i64 m.steps :: .int .i64 m.pc :: (m.regs.map (Value.int .i64) ++ [mv, .string ⟨m.inp.toArray⟩, ov])
theorem cells_reg {st : Int} {m : M} {mv ov : Value} (h : m.regs.length = 32) {i : Nat} (hi : i < 32) : (cells st m mv ov)[5 + i]? = some (.int .i64 (m.regs.getD i 0)) := by
  unfold cells
  rw [show 5 + i = i + 5 by omega]
  simp only [List.getElem?_cons_succ]
  rw [List.getElem?_append_left (by simp; omega), List.getElem?_map, List.getElem?_eq_getElem (by omega), List.getD_eq_getElem?_getD, List.getElem?_eq_getElem (by omega)]
  rfl
theorem cells_tail {st : Int} {m : M} {mv ov : Value} (h : m.regs.length = 32) (j : Nat) : (cells st m mv ov)[37 + j]? = [mv, Value.string ⟨m.inp.toArray⟩, ov][j]? := by
  unfold cells
  rw [show 37 + j = (32 + j) + 5 by omega]
  simp only [List.getElem?_cons_succ]
  rw [List.getElem?_append_right (by simp; omega)]
  congr 1
  simp; omega
theorem cells_len {st : Int} {m : M} {mv ov : Value} (h : m.regs.length = 32) : (cells st m mv ov).length = 40 := by simp [cells, h]
theorem set_reg {st : Int} {m : M} {mv ov : Value} (h : m.regs.length = 32) {i : Nat} (hi : i < 32) (v : Int) : (cells st m mv ov).set (5 + i) (.int .i64 v) = cells st { m with regs := m.regs.set i v } mv ov := by
  unfold cells
  rw [show 5 + i = i + 5 by omega]
  simp only [List.set_cons_succ]
  rw [List.set_append_left _ _ (by simp; omega), List.map_set]
theorem set_tail {st : Int} {m : M} {mv ov : Value} (h : m.regs.length = 32) (j : Nat) (v : Value) :
    (cells st m mv ov).set (37 + j) v = .int .i64 st :: .int .i64 m.value :: .string ⟨#[]⟩ :: .int .i64 m.steps :: .int .i64 m.pc :: (m.regs.map (Value.int .i64) ++ [mv, .string ⟨m.inp.toArray⟩, ov].set j v) := by
  unfold cells
  rw [show 37 + j = (32 + j) + 5 by omega]
  simp only [List.set_cons_succ]
  rw [List.set_append_right _ _ (by simp; omega)]
  congr 7
  simp; omega
end Rs
structure Bd where
  n : Nat
  X : List (Nat × Obj)
instance : Coe Bd Nat := ⟨Bd.n⟩
structure MSt (B : Bd) (w : World) (g T : Nat) (st : Int) (m : Rs.M) (mv ov : Value) : Prop where
  base : B.n ≤ g
  blk : w.heap[g]? = some (.cells (Rs.cells st m mv ov).toArray T (0, 0))
  mem : w.ownsRow B 3 1 mv m.mem.length (m.mem.map (Value.int .i64))
  out : w.ownsRow B 5 1 ov m.out.length (m.out.map fun x => Value.int .u8 x.toNat)
  ne1 : mv.ownBlock ≠ some g
  ne2 : ov.ownBlock ≠ some g
  ne3 : mv.ownBlock = none ∨ mv.ownBlock ≠ ov.ownBlock
  ok : Rs.Ok m
  kept : ∀ p ∈ B.X, w.heap[p.1]? = some p.2 ∧ p.1 ≠ g ∧ some p.1 ≠ mv.ownBlock ∧ some p.1 ≠ ov.ownBlock
section
variable {B : Bd} {g T : Nat} {w : World} {st : Int} {m : Rs.M} {mv ov : Value}
theorem MSt.lt (h : MSt B w g T st m mv ov) : g < w.heap.size := (Array.getElem?_eq_some_iff.1 h.blk).1
theorem MSt.drewN (h : MSt B w g T st m mv ov) (n : Nat) : MSt B (w.drewN n) g T st m mv ov := ⟨h.base, h.blk, h.mem, h.out, h.ne1, h.ne2, h.ne3, h.ok, h.kept⟩
theorem MSt.cell (h : MSt B w g T st m mv ov) (j : Nat) : w.cell? ⟨g, j, none⟩ = (Rs.cells st m mv ov)[j]? := by
  rw [cell_of_row w g j _ T (0, 0) h.blk]
  simp
theorem MSt.c0 (h : MSt B w g T st m mv ov) : w.cell? ⟨g, 0, none⟩ = some (.int .i64 st) := h.cell 0
theorem MSt.c1 (h : MSt B w g T st m mv ov) : w.cell? ⟨g, 1, none⟩ = some (.int .i64 m.value) := h.cell 1
theorem MSt.c2 (h : MSt B w g T st m mv ov) : w.cell? ⟨g, 2, none⟩ = some (.string ⟨#[]⟩) := h.cell 2
theorem MSt.c3 (h : MSt B w g T st m mv ov) : w.cell? ⟨g, 3, none⟩ = some (.int .i64 m.steps) := h.cell 3
theorem MSt.c4 (h : MSt B w g T st m mv ov) : w.cell? ⟨g, 4, none⟩ = some (.int .i64 m.pc) := h.cell 4
theorem MSt.cR (h : MSt B w g T st m mv ov) {i : Nat} (hi : i < 32) : w.cell? ⟨g, 5 + i, none⟩ = some (.int .i64 (m.regs.getD i 0)) := (h.cell _).trans (Rs.cells_reg h.ok.regs hi)
theorem MSt.c37 (h : MSt B w g T st m mv ov) : w.cell? ⟨g, 37, none⟩ = some mv := (h.cell _).trans (Rs.cells_tail h.ok.regs 0)
theorem MSt.c38 (h : MSt B w g T st m mv ov) : w.cell? ⟨g, 38, none⟩ = some (.string ⟨m.inp.toArray⟩) := (h.cell _).trans (Rs.cells_tail h.ok.regs 1)
theorem MSt.c39 (h : MSt B w g T st m mv ov) : w.cell? ⟨g, 39, none⟩ = some ov := (h.cell _).trans (Rs.cells_tail h.ok.regs 2)
theorem MSt.fz (h : MSt B w g T st m mv ov) (j : Nat) : w.frozen? ⟨g, j, none⟩ = false := frozen_of_row w g j _ T h.blk
theorem MSt.put (h : MSt B w g T st m mv ov) (j : Nat) (v : Value) {st' : Int} {m' : Rs.M} {mv' ov' : Value} (hc : (Rs.cells st m mv ov).set j v = Rs.cells st' m' mv' ov')
    (hm : m'.mem = m.mem) (ho : m'.out = m.out) (hmv : mv' = mv) (hov : ov' = ov) (hok : Rs.Ok m') : MSt B (w.setCell ⟨g, j, none⟩ v) g T st' m' mv' ov' := by
  subst hmv hov
  refine ⟨h.base, ?_, ?_, ?_, h.ne1, h.ne2, h.ne3, hok, fun p hp => ?_⟩
  · rw [heap_setCell_same w g j _ T v h.blk, ← hc]
    simp
  · rw [hm]; exact ownsRow_setCell_other h.mem h.ne1 v
  · rw [ho]; exact ownsRow_setCell_other h.out h.ne2 v
  · obtain ⟨k1, k2, k3⟩ := h.kept p hp
    exact ⟨by rw [heap_setCell_other _ _ _ _ k2]; exact k1, k2, k3⟩
theorem MSt.setSt (h : MSt B w g T st m mv ov) (s : Int) : MSt B (w.setCell ⟨g, 0, none⟩ (.int .i64 s)) g T s m mv ov := h.put 0 _ rfl rfl rfl rfl rfl h.ok
theorem MSt.setVal (h : MSt B w g T st m mv ov) (s : Int) : MSt B (w.setCell ⟨g, 1, none⟩ (.int .i64 s)) g T st { m with value := s } mv ov := h.put 1 _ rfl rfl rfl rfl rfl ⟨h.ok.regs, h.ok.r, h.ok.mem, h.ok.len⟩
theorem MSt.setSteps (h : MSt B w g T st m mv ov) (s : Int) : MSt B (w.setCell ⟨g, 3, none⟩ (.int .i64 s)) g T st { m with steps := s } mv ov := h.put 3 _ rfl rfl rfl rfl rfl ⟨h.ok.regs, h.ok.r, h.ok.mem, h.ok.len⟩
theorem MSt.setPc (h : MSt B w g T st m mv ov) (s : Int) : MSt B (w.setCell ⟨g, 4, none⟩ (.int .i64 s)) g T st { m with pc := s } mv ov := h.put 4 _ rfl rfl rfl rfl rfl ⟨h.ok.regs, h.ok.r, h.ok.mem, h.ok.len⟩
theorem MSt.setR (h : MSt B w g T st m mv ov) {i : Nat} (hi : i < 32) {v : Int} (hv : Rs.InR v) : MSt B (w.setCell ⟨g, 5 + i, none⟩ (.int .i64 v)) g T st { m with regs := m.regs.set i v } mv ov :=
  h.put _ _ (Rs.set_reg h.ok.regs hi v) rfl rfl rfl rfl ⟨by simpa using h.ok.regs, fun x hx => (List.mem_or_eq_of_mem_set hx).elim (h.ok.r x) (fun h1 => h1 ▸ hv), h.ok.mem, h.ok.len⟩
theorem MSt.setInp (h : MSt B w g T st m mv ov) (l : List UInt8) : MSt B (w.setCell ⟨g, 38, none⟩ (.string ⟨l.toArray⟩)) g T st { m with inp := l } mv ov :=
  h.put _ _ (Rs.set_tail h.ok.regs 1 _) rfl rfl rfl rfl ⟨h.ok.regs, h.ok.r, h.ok.mem, h.ok.len⟩
theorem MSt.below {w' : World} {N : Nat} (h : MSt B w g T st m mv ov) (hb : Below N w w') (hN : w.heap.size ≤ N) : MSt B w' g T st m mv ov := by
  have hr : ∀ k, k < w.heap.size → w'.heap[k]? = w.heap[k]? := fun k hk => hb.block k (by omega)
  have key : ∀ {e size : Nat} {v : Value} {n : Nat} {xs : List Value}, w.ownsRow B e size v n xs → w'.ownsRow B e size v n xs := by
    intro e size v n xs ho
    obtain ⟨h1, h2⟩ := ho
    refine ⟨h1, ?_⟩
    rcases h2 with h2 | ⟨g1, cap, cur, hv, hg, hh, r⟩
    · exact Or.inl h2
    · exact Or.inr ⟨g1, cap, cur, hv, hg, (hr g1 (Array.getElem?_eq_some_iff.1 hh).1).trans hh, r⟩
  exact ⟨h.base, (hr g h.lt).trans h.blk, key h.mem, key h.out, h.ne1, h.ne2, h.ne3, h.ok, fun p hp => ⟨(hr p.1 (Array.getElem?_eq_some_iff.1 (h.kept p hp).1).1).trans (h.kept p hp).1, (h.kept p hp).2⟩⟩
theorem MSt.alloc (h : MSt B w g T st m mv ov) (o : Obj) : MSt B (w.alloc o) g T st m mv ov := h.below ((Below.refl w.heap.size w).alloc (Nat.le_refl _) o) (Nat.le_refl _)
theorem MSt.setMem {bm capm : Nat} (h : MSt B w g T st m (.slice (some ⟨bm, 0, none⟩) m.mem.length capm) ov) (i : Nat) {v : Int} (hv : Rs.InR v) :
    MSt B (w.setCell ⟨bm, i, none⟩ (.int .i64 v)) g T st { m with mem := m.mem.set i v } (.slice (some ⟨bm, 0, none⟩) m.mem.length capm) ov := by
  have hne : g ≠ bm := fun e => h.ne1 (by rw [e]; rfl)
  refine ⟨h.base, ?_, ?_, ?_, h.ne1, h.ne2, h.ne3, Rs.ok_mem h.ok i hv, fun p hp => ?_⟩
  · rw [heap_setCell_other _ _ _ _ hne]; exact h.blk
  · have := (h.mem.stored i (.int .i64 v)).1
    simp only [List.length_set, List.map_set]
    exact this
  · refine ownsRow_setCell_other h.out ?_ _
    rcases h.ne3 with h3 | h3
    · cases h3
    · exact fun e => h3 e.symm
  · obtain ⟨k1, k2, k3, k4⟩ := h.kept p hp
    exact ⟨by rw [heap_setCell_other _ _ _ _ (fun e => k3 (by rw [e]; rfl))]; exact k1, k2, k3, k4⟩
theorem MSt.setOut {w1 : World} {ov' : Value} {x : UInt8} (h : MSt B w g T st m mv ov) (o : Obj) (hB : B.n ≤ w.heap.size) (hg : (w.alloc o).grownBy w1 ov.ownBlock)
    (hown : w1.ownsRow B 5 1 ov' (m.out.length + 1) ((m.out.map fun x => Value.int .u8 x.toNat) ++ [.int .u8 x.toNat])) (hob : ∀ k, ov'.ownBlock = some k → ov.ownBlock = some k ∨ w.heap.size ≤ k) :
    MSt B (w1.setCell ⟨g, 39, none⟩ ov') g T st { m with out := m.out ++ [x] } mv ov' := by
  have hlt := h.lt
  have h1 := h.alloc o
  have hn2 : ov'.ownBlock ≠ some g := fun e => by
    rcases hob g e with h2 | h2
    · exact h.ne2 h2
    · omega
  have hmem : w1.ownsRow B 3 1 mv m.mem.length (m.mem.map (Value.int .i64)) := h1.mem.kept hg h.ne3
  have hblk : w1.heap[g]? = some (.cells (Rs.cells st m mv ov).toArray T (0, 0)) := by
    rw [hg.block g h1.lt (fun e => h.ne2 e.symm)]
    exact h1.blk
  refine ⟨h.base, ?_, ownsRow_setCell_other hmem h.ne1 _, ?_, h.ne1, hn2, ?_, ⟨h.ok.regs, h.ok.r, h.ok.mem, h.ok.len⟩, fun p hp => ?_⟩
  · rw [heap_setCell_same w1 g 39 _ T ov' hblk, ← show (Rs.cells st m mv ov).set 39 ov' = Rs.cells st { m with out := m.out ++ [x] } mv ov' from Rs.set_tail h.ok.regs 2 _]
    simp
  · have := ownsRow_setCell_other (a := ⟨g, 39, none⟩) hown hn2 ov'
    simpa using this
  · rcases h.ne3 with h3 | h3
    · exact .inl h3
    · cases hmb : mv.ownBlock with
      | none => exact .inl rfl
      | some k =>
        refine .inr (fun e => ?_)
        rcases hob k e.symm with h4 | h4
        · exact h3 (hmb.trans h4.symm)
        · have := (h.mem.lt k hmb).2
          omega
  · obtain ⟨k1, k2, k3, k4⟩ := h1.kept p hp
    have klt : p.1 < w.heap.size := (Array.getElem?_eq_some_iff.1 (h.kept p hp).1).1
    refine ⟨?_, k2, k3, fun e => ?_⟩
    · rw [heap_setCell_other _ _ _ _ k2, hg.block _ (Array.getElem?_eq_some_iff.1 k1).1 k4]
      exact k1
    · rcases hob p.1 e.symm with h4 | h4
      · exact k4 h4.symm
      · omega
end
end Go.Proofs.Ytaldcgfhlflcpaa
