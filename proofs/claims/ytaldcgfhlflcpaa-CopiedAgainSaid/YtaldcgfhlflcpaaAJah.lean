/- The machine, plainly. -/
import Derived.Test.YtaldcgfhlflcpaaAJac
import Derived.Test.YtaldcgfhlflcpaaAJag
set_option linter.unusedVariables false
set_option linter.unusedSimpArgs false
set_option linter.unnecessarySimpa false
namespace Go.Proofs.Ytaldcgfhlflcpaa
open Go.RowKit
set_option maxRecDepth 100000
set_option linter.unusedSimpArgs false
set_option linter.unusedVariables false
namespace Rs
structure M where
  value : Int
  steps : Int
  pc : Int
  regs : List Int
  mem : List Int
  inp : List UInt8
  out : List UInt8
def rget (m : M) (i : Int) : Int := m.regs.getD i.toNat 0
def setReg (m : M) (r v : Int) : M := if r = 0 then m else { m with regs := m.regs.set r.toNat v }
def simp (op a b n : Int) : Int :=
  if op = 15 then wrap64 (b + n) else if op = 16 then bits .and .i64 b n else if op = 17 then bits .or .i64 b n else if op = 18 then wrap64 (b * 2 ^ n.toNat)
  else if op = 19 then b / 2 ^ n.toNat else if op = 21 then bits .or .i64 (wrap64 (a * 65536)) n else n
def takenB (op a b : Int) : Bool := if op = 24 then a == b else if op = 25 then a != b else if op = 26 then decide (a < b) else decide (b ≤ a)
def adv (m : M) (pc : Int) : M := { m with pc := pc, steps := m.steps + 1 }
def exec (op a b c n : Int) (m : M) : M × Int :=
  let ra := rget m a
  let rb := rget m b
  if op = 0 then ({ m with value := ra, steps := m.steps + 1 }, 0)
  else if op ≤ 14 then
    if (op = 5 ∨ op = 6) ∧ rget m c = 0 then (m, 4) else (adv (setReg m a (alu op rb (rget m c))) (m.pc + 1), 6)
  else if 24 ≤ op ∧ op ≤ 27 then (adv m (if takenB op ra rb = true then m.pc + n else m.pc + 1), 6)
  else if op = 22 then
    if wrap64 (rb + n) < 0 ∨ (m.mem.length : Int) ≤ wrap64 (rb + n) then (m, 2) else (adv (setReg m a (m.mem.getD (wrap64 (rb + n)).toNat 0)) (m.pc + 1), 6)
  else if op = 23 then
    if wrap64 (rb + n) < 0 ∨ (m.mem.length : Int) ≤ wrap64 (rb + n) then (m, 2) else (adv { m with mem := m.mem.set (wrap64 (rb + n)).toNat ra } (m.pc + 1), 6)
  else if op = 28 then (adv (setReg m a (m.pc + 1)) (m.pc + n), 6)
  else if op = 29 then (adv (setReg m a (m.pc + 1)) rb, 6)
  else if op = 30 then
    match m.inp with
    | [] => (adv (setReg m a (-1)) (m.pc + 1), 6)
    | x :: l => (adv (setReg { m with inp := l } a x.toNat) (m.pc + 1), 6)
  else if op = 31 then
    if ra < 0 ∨ 255 < ra then (m, 5) else (adv { m with out := m.out ++ [UInt8.ofNat ra.toNat] } (m.pc + 1), 6)
  else (adv (setReg m a (simp op ra rb n)) (m.pc + 1), 6)
def execW (x : Int) (m : M) : M × Int := exec (fO x) (fA x) (fB (fO x) x) (fC (fO x) x) (fN (fO x) x) m
def go (code : List Int) : Nat → M → M × Int
  | 0, m => (m, 6)
  | k + 1, m =>
    if m.pc < 0 ∨ (code.length : Int) ≤ m.pc then (m, 3)
    else if decB (code.getD m.pc.toNat 0) = false then (m, 1)
    else if (execW (code.getD m.pc.toNat 0) m).2 = 6 then go code k (execW (code.getD m.pc.toNat 0) m).1
    else execW (code.getD m.pc.toNat 0) m
def InR (x : Int) : Prop := -9223372036854775808 ≤ x ∧ x ≤ 9223372036854775807
structure Ok (m : M) : Prop where
  regs : m.regs.length = 32
  r : ∀ x ∈ m.regs, InR x
  mem : ∀ x ∈ m.mem, InR x
  len : m.mem.length ≤ 1048576
theorem InR.zero : InR 0 := by unfold InR; omega
theorem InR.byte (x : UInt8) : InR x.toNat := by have := x.toNat_lt; unfold InR; omega
theorem InR.one : InR 1 := by unfold InR; omega
theorem ite_in {p : Prop} [Decidable p] {a b : Int} (h1 : p → InR a) (h2 : ¬ p → InR b) : InR (if p then a else b) := by
  by_cases h : p
  · rw [if_pos h]; exact h1 h
  · rw [if_neg h]; exact h2 h
theorem InR.wrap (z : Int) : InR (wrap64 z) := by unfold InR; simp only [wrap64]; omega
theorem bits_range (o : BinOp) (a b : Int) : InR (bits o .i64 a b) := by
  have h : ∀ z : Int, InR (IntKind.i64.wrap z) := fun z => by rw [IntKind.wrap_i64]; unfold InR; omega
  unfold bits
  exact h _
theorem rget_range {m : M} (h : Ok m) (i : Int) : InR (rget m i) := by
  unfold rget
  rw [List.getD_eq_getElem?_getD]
  by_cases hi : i.toNat < m.regs.length
  · rw [List.getElem?_eq_getElem hi]; exact h.r _ (List.getElem_mem hi)
  · rw [List.getElem?_eq_none (by omega)]; exact InR.zero
theorem setReg_ok {m : M} (h : Ok m) (r : Int) {v : Int} (hv : InR v) : Ok (setReg m r v) := by
  unfold setReg
  split
  · exact h
  · exact ⟨by simpa using h.regs, fun x hx => by rcases List.mem_or_eq_of_mem_set hx with h1 | h1; exact h.r x h1; exact h1 ▸ hv, h.mem, h.len⟩
theorem div_range {b : Int} (hb : InR b) (k : Nat) : InR (b / 2 ^ k) := by
  have hp : (0 : Int) < 2 ^ k := Int.pow_pos (by decide)
  unfold InR at *
  rcases Int.le_total 0 b with h | h
  · have h1 := Int.ediv_le_self (2 ^ k) h
    have h2 := Int.ediv_nonneg h (Int.le_of_lt hp)
    omega
  · have h1 : b ≤ b / 2 ^ k := by
      rw [Int.le_ediv_iff_mul_le hp]
      have : b * 2 ^ k ≤ b * 1 := Int.mul_le_mul_of_nonpos_left h (by omega)
      omega
    have h2 : b / 2 ^ k ≤ 0 := by
      have := Int.ediv_le_ediv hp h
      simpa using this
    omega
theorem alu_range {op b c : Int} (hb : InR b) (hc : InR c) (h : (op = 5 ∨ op = 6) → c ≠ 0) : InR (alu op b c) := by
  obtain ⟨r1, r2⟩ := mul_range b c 9223372036854775808 9223372036854775808 (by unfold InR at hb; omega) (by unfold InR at hc; omega)
  have h6 : op = 6 → InR (b.tmod c) := by
    intro ho
    have hlt : (b.tmod c).natAbs ≤ b.natAbs := by rw [Int.natAbs_tmod]; exact Nat.mod_le _ _
    have hne := h (.inr ho)
    have h2 : (b.tmod c).natAbs < c.natAbs := by rw [Int.natAbs_tmod]; exact Nat.mod_lt _ (by omega)
    unfold InR at *
    by_cases hb9 : b = -9223372036854775808
    · have h5 : b.tmod c ≤ 0 := by
        rw [hb9, Int.neg_tmod]
        have : 0 ≤ Int.tmod 9223372036854775808 c := Int.tmod_nonneg c (by decide)
        omega
      omega
    · omega
  have h4 : InR (b * c / 18446744073709551616) := by unfold InR; omega
  clear r1 r2
  unfold alu
  exact ite_in (fun _ => InR.wrap _) fun _ => ite_in (fun _ => InR.wrap _) fun _ => ite_in (fun _ => InR.wrap _) fun _ => ite_in (fun _ => h4) fun _ => ite_in (fun _ => InR.wrap _) fun _ => ite_in h6 fun _ =>
    ite_in (fun _ => bits_range _ _ _) fun _ => ite_in (fun _ => bits_range _ _ _) fun _ => ite_in (fun _ => bits_range _ _ _) fun _ => ite_in (fun _ => InR.wrap _) fun _ => ite_in (fun _ => div_range hb _) fun _ => ite_in (fun _ => InR.wrap _) fun _ =>
    ite_in (fun _ => ite_in (fun _ => InR.one) fun _ => InR.zero) fun _ => ite_in (fun _ => InR.one) fun _ => InR.zero
theorem simp_range {op a b n : Int} (hb : InR b) (hn : InR n) : InR (simp op a b n) := by
  unfold simp
  repeat' split
  all_goals first | exact InR.wrap _ | exact bits_range _ _ _ | exact div_range hb _ | exact hn
theorem mem_range {m : M} (h : Ok m) (i : Nat) : InR (m.mem.getD i 0) := by
  rw [List.getD_eq_getElem?_getD]
  by_cases hi : i < m.mem.length
  · rw [List.getElem?_eq_getElem hi]; exact h.mem _ (List.getElem_mem hi)
  · rw [List.getElem?_eq_none (by omega)]; exact InR.zero
theorem adv_ok {m : M} (h : Ok m) (pc : Int) : Ok (adv m pc) := ⟨h.regs, h.r, h.mem, h.len⟩
theorem ok_mem {m : M} (h : Ok m) (i : Nat) {v : Int} (hv : InR v) : Ok { m with mem := m.mem.set i v } :=
  ⟨h.regs, h.r, fun x hx => (List.mem_or_eq_of_mem_set hx).elim (h.mem x) (fun h1 => h1 ▸ hv), by have := h.len; simpa using this⟩
theorem ok_inp {m : M} (h : Ok m) (l : List UInt8) : Ok { m with inp := l } := ⟨h.regs, h.r, h.mem, h.len⟩
theorem exec_ok {op a b c n : Int} {m : M} (h : Ok m) (hp : 0 ≤ m.pc ∧ m.pc ≤ 1048576) (hn : InR n) : Ok (exec op a b c n m).1 := by
  unfold exec
  dsimp only
  have hpc : InR (m.pc + 1) := by unfold InR; omega
  repeat' split
  all_goals first
    | exact ⟨h.regs, h.r, h.mem, h.len⟩
    | exact adv_ok (setReg_ok h _ (alu_range (rget_range h _) (rget_range h _) (by grind))) _
    | exact adv_ok (setReg_ok h _ (mem_range h _)) _
    | exact adv_ok (ok_mem h _ (rget_range h _)) _
    | exact adv_ok (setReg_ok h _ hpc) _
    | exact adv_ok (setReg_ok h _ (by unfold InR; omega)) _
    | exact adv_ok (setReg_ok (ok_inp h _) _ (InR.byte _)) _
    | exact adv_ok ⟨h.regs, h.r, h.mem, h.len⟩ _
    | exact adv_ok (setReg_ok h _ (simp_range (rget_range h _) hn)) _
end Rs
end Go.Proofs.Ytaldcgfhlflcpaa
