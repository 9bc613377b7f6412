/- Run's contract. -/
import Derived.Deep.LoopGhost
import Derived.Deep.RegionHeld3
import Derived.Test.YtaldcgfhlflcpaaAJan
import Derived.Test.YtaldcgfhlflcpaaAJaq
import Derived.Test.YtaldcgfhlflcpaaAJal
set_option linter.unusedVariables false
set_option linter.unusedSimpArgs false
set_option linter.unnecessarySimpa false
namespace Go.Proofs.Ytaldcgfhlflcpaa
open Go.RowKit
set_option maxRecDepth 100000
set_option linter.unusedVariables false
set_option linter.unusedSimpArgs false
def u32s (code : List Int) : List Value := code.map (Value.int .u32)
def i64s (l : List Int) : List Value := l.map (Value.int .i64)
theorem u32_at {w : World} {b off : Nat} {code : List Int} (h : ∀ j, j < (u32s code).length → w.cell? ⟨b, off + j, none⟩ = some ((u32s code).getD j undef)) {j : Nat} (hj : j < code.length) :
    w.cell? ⟨b, off + j, none⟩ = some (.int .u32 (code.getD j 0)) := by
  rw [h j (by simpa [u32s] using hj)]
  congr 1
  simp [u32s, List.getD_eq_getElem?_getD, List.getElem?_map, List.getElem?_eq_getElem hj]

theorem getD_mem {l : List Int} {i : Nat} (h : i < l.length) : l.getD i 0 ∈ l := by
  rw [List.getD_eq_getElem?_getD, List.getElem?_eq_getElem h]
  exact List.getElem_mem h
theorem inv_next {code : List Int} {lim x : Int} {m : Rs.M} (h : Rs.Inv code lim m) (hl : m.steps < lim) (hp : 0 ≤ m.pc ∧ m.pc ≤ 1048576) (hx : Rs.decB x = true) (h6 : (Rs.execW x m).2 = 6) : Rs.Inv code lim (Rs.execW x m).1 := by
  have hn := n_not_bad (decB_not_bad hx)
  obtain ⟨s1, s2⟩ := Rs.exec_steps h6
  refine ⟨Rs.exec_ok h.ok hp (by unfold Rs.InR; omega), ?_, ?_, ?_⟩
  · show 0 ≤ (Rs.exec _ _ _ _ _ m).1.steps
    rw [s1]; have := h.s0; omega
  · show (Rs.exec _ _ _ _ _ m).1.steps ≤ lim
    rw [s1]; omega
  · show ((Rs.exec _ _ _ _ _ m).1.out.length : Int) ≤ (Rs.exec _ _ _ _ _ m).1.steps
    rw [s1]; have := h.out; omega

end Go.Proofs.Ytaldcgfhlflcpaa
namespace Go.Proofs.Ytaldcgfhlflcpaa
open Go.RowKit
set_option maxRecDepth 100000
set_option linter.unusedVariables false
set_option linter.unusedSimpArgs false
namespace Rs
def zero : M := ⟨0, 0, 0, List.replicate 32 0, [], [], []⟩
def runI (code mem : List Int) (words : Int) (inp : List UInt8) (steps : Int) : M × Int := if noImage code mem words steps then (zero, 7) else run code mem words inp steps
end Rs
theorem haltSize : (Try.prog.info? 36).map (·.size) = some 38 := by kernel_rfl
def halt7 : Array Value := (Rs.halt 7 Rs.zero (.slice none 0 0)).toArray
theorem halt7_size : halt7.size = 38 := by decide
theorem halt7_one : ∀ v ∈ halt7.toList, v.oneCell' = true := halt_one' rfl
theorem built7 : Try.prog.built 36 [(0, .int .i64 7)] = some halt7 := by kernel_rfl
theorem wpList_build7 {ops : Array Oper} {rest : List Oper} {o : Oper} {a : Act} {w : World} {Q : Exit → Act → World → Prop} (hg : o.guard = none) (ho : o.op = .build 36 #[(0, .const (.int .i64 7))])
    (h : wpList Try.prog ops Q rest (a.put o.dst (.agg halt7)) w) : wpList Try.prog ops Q (o :: rest) a w := by
  have e : Try.prog.built 36 ((#[(0, Operand.const (.int .i64 7))].map fun (i, x) => (i, a.eval x)).toList) = some halt7 := by
    rw [show ((#[(0, Operand.const (.int .i64 7))].map fun (i, x) => (i, a.eval x)).toList) = [(0, .int .i64 7)] by simp [Act.eval]]
    exact built7
  refine wpList_build hg _ _ ho (by rw [e]; rfl) ?_
  rw [e]
  exact h
theorem run_no_end {w w' : World} (hb : Below w.heap.size w w') : RunYes (Rs.zero, 7) w (.returned (.agg halt7)) w' := ⟨_, rfl, World.ownsRow_nil _ _ _ _, hb⟩
theorem hst7 (w : World) (g t : Nat) (old : Array Value) (hg : w.heap[g]? = some (.cells old t (0, 0))) (ho : old.size = 38) : (storeCells ⟨g, 0, none⟩ halt7.toList).run Try.prog w = .ok () (w.setRow g halt7) := by
  have := store_all (P := Try.prog) w g t old halt7.toList hg (by rw [ho, Array.length_toList, halt7_size]) halt7_one
  simpa using this
end Go.Proofs.Ytaldcgfhlflcpaa
namespace Go.Proofs.Ytaldcgfhlflcpaa
open Go.RowKit
set_option linter.unusedVariables false
set_option linter.unusedSimpArgs false
set_option maxRecDepth 100000
namespace Gc
open As
theorem start_at (mem : List Int) : At (Rs.start mem (mem.length : Int) []) ⟨0, fun _ => 0, mem, 0⟩ := by
  refine ⟨rfl, ?_, rfl, ?_, rfl⟩
  · show List.replicate 32 0 = (List.range 32).map fun _ => 0
    rfl
  · show mem ++ List.replicate ((mem.length : Int).toNat - mem.length) 0 = mem
    rw [Int.toNat_natCast, Nat.sub_self]
    simp
theorem regs_mem (i : Nat) : i ∈ regsL ↔ 1 ≤ i ∧ i < 32 := by
  unfold regsL
  simp only [List.mem_cons, List.not_mem_nil, or_false]
  omega
theorem to_first (R : Nat → Int) (hR : ∀ i, Rs.InR (R i)) (hR0 : R 0 = 0) (mem : List Int) {t : Nat} (h1 : 1 ≤ t) (h3 : t ≤ 3) :
    ∃ p r', p ≤ 124 ∧ GcAt (As.code (allL R t)) (p + (t + 1)) ∧ Runs (As.code (allL R t)) ⟨0, fun _ => 0, mem, 0⟩ p ⟨p, r', mem, p⟩ ∧ (∀ i, i < 32 → r' i = R i) ∧ (∀ i, i < t → Has (As.code (allL R t)) (p + i) 28 31 0 0 (((p + (t + 1) : Nat) : Int) - ((p + i : Nat) : Int))) ∧ Has (As.code (allL R t)) (p + t) 0 0 0 0 0 ∧ (As.code (allL R t)).length ≤ 1048576 := by
  obtain ⟨p, hc, hp, hl, hj, hg⟩ := all_code R h1 h3
  obtain ⟨r', hr, hk, hri⟩ := nums_run R hR mem regsL 0 (fun _ => 0) 0 (fun a ha => by have := (regs_mem a).1 ha; omega) rfl hl
  rw [← hp] at hr hk
  rw [Nat.zero_add, Int.zero_add] at hr
  have hk' : p ≤ 124 := hk
  refine ⟨p, r', hk', hg, hr, fun i hi => ?_, fun i hi => ?_, ?_, ?_⟩
  · rw [hri]
    by_cases h : i ∈ regsL
    · rw [if_pos h]
    · rw [if_neg h]
      have : i = 0 := by rw [regs_mem] at h; omega
      subst this
      exact hR0.symm
  · have ht : t = 1 ∨ t = 2 ∨ t = 3 := by omega
    have he : (jalT t)[i]? = some (28, 31, 0, 0, ((t + 1 - i : Nat) : Int)) := by
      rcases ht with rfl | rfl | rfl
      · have : i = 0 := by omega
        subst this; rfl
      · have : i = 0 ∨ i = 1 := by omega
        rcases this with rfl | rfl <;> rfl
      · have : i = 0 ∨ i = 1 ∨ i = 2 := by omega
        rcases this with rfl | rfl | rfl <;> rfl
    have := hj i _ he
    dsimp only at this
    rw [show ((p + (t + 1) : Nat) : Int) - ((p + i : Nat) : Int) = ((t + 1 - i : Nat) : Int) by omega]
    exact this
  · have ht : t = 1 ∨ t = 2 ∨ t = 3 := by omega
    have he : (jalT t)[t]? = some (0, 0, 0, 0, 0) := by rcases ht with rfl | rfl | rfl <;> rfl
    exact hj t _ he
  · have hb : (As.code (bodyL t)).length = t + 1 + 106 := by
      have ht : t = 1 ∨ t = 2 ∨ t = 3 := by omega
      obtain ⟨-, -, -, b4, b5⟩ := body_all h1 h3
      have l1 := congrArg List.length b4
      have l2 := congrArg List.length b5
      have l3 : (As.code Sg.gcL).length = 106 := by have := congrArg List.length gc_tab; simpa [gcT] using this
      have l4 : (jalT t).length = t + 1 := by rcases ht with rfl | rfl | rfl <;> rfl
      rw [List.length_map, List.length_map, List.length_take, l4] at l1
      rw [List.length_drop, l3] at l2
      omega
    rw [hc, List.length_append, ← hp, hb]
    omega
theorem bef_congr {e : E} {r r' : Nat → Int} {mem : List Int} (B : e.Bef r mem) (h : ∀ i, i < 32 → r' i = r i) : e.Bef r' mem :=
  ⟨B.len, B.head, B.body, fun c w hc hw => by rw [h (c + 1) (by omega)]; exact B.reg c w hc hw, B.frm, B.stk, B.m28, B.m29, B.m30, B.m31, by rw [h 0 (by decide)]; exact B.r0, by rw [h 30 (by decide)]; exact B.r30⟩
theorem ran_full (R : Nat → Int) (hR : ∀ i, Rs.InR (R i)) (mem : List Int) (e : E) (h : e.Ok) (hhi : e.hi = e.lo + e.size) (B : e.Bef R mem) (hs : e.s ≤ 60) (hsz : e.size ≤ 500) (N wanted : Nat) (hwt : wanted ≤ 1000) (h26 : R 26 = wanted) (hN : Alive e N) (hNs : N ≤ e.size) (hf : e.size < N + wanted) :
    ∃ m, Rs.runI (As.code (allL R 1)) mem (mem.length : Int) [] 200000 = (m, 0) ∧ m.value = 95 ∧ m.steps ≤ (1125 + 27 * N + 32 * e.s : Nat) := by
  obtain ⟨p, r1, hp, hg, s1, hr1, hj, hh, hcl⟩ := to_first R hR B.r0 mem (t := 1) (by decide) (by decide)
  have s2 := r_jal (v := ⟨p, r1, mem, (p : Int)⟩) 31 (p + (1 + 1)) (hj 0 (by decide)) rfl (by decide) (by show (p : Int) + _ = _; omega)
  dsimp only at s2
  obtain ⟨m1, e1, a1⟩ := (s1.trans s2) _ (200000 - (p + 1)) (start_at mem)
  obtain ⟨n, l, hnd, hl, hn, hk⟩ := collect_full hg (by omega) h hhi (upd r1 31 ((p + 1 : Nat) : Int)) mem ((p : Int) + 1) (Bef.upd31 (bef_congr B hr1) _) wanted (by omega) (by show r1 26 = _; rw [hr1 26 (by decide)]; exact h26) (fun l a b => by rw [hN l a b]; exact hf) a1
  have ht : tot e.sz l = N := hN l hnd hl
  rw [ht] at hn
  obtain ⟨m', e', hv, hst⟩ := hk (200000 - (p + 1) - n)
  rw [show p + 1 + (200000 - (p + 1)) = 200000 by omega] at e1
  rw [show n + (200000 - (p + 1) - n) = 200000 - (p + 1) by omega] at e'
  refine ⟨m', ?_, hv, by rw [hst]; omega⟩
  unfold Rs.runI
  have hlen := B.len
  have hsm := h.small
  rw [if_neg (by unfold Rs.noImage; omega)]
  show Rs.go _ 200000 _ = _
  rw [e1, e']
end Gc
end Go.Proofs.Ytaldcgfhlflcpaa
namespace Go.Proofs.Ytaldcgfhlflcpaa
open Go.RowKit
set_option linter.unusedVariables false
set_option linter.unusedSimpArgs false
set_option maxRecDepth 100000
namespace Gc
open As
theorem coll_times2 {code : List Int} {b : Nat} (H : GcAt code b) (hb : b ≤ 1048576) (N wanted : Nat) (hwt : wanted ≤ 1048576) : ∀ (t p : Nat) (e : E) (r : Nat → Int) (mem : List Int) (st : Int), p + t < b + 1 → (∀ i, i < t → Has code (p + i) 28 31 0 0 ((b : Int) - ((p + i : Nat) : Int))) → e.Ok → e.hi = e.lo + e.size → e.Bef r mem → r 26 = wanted → Alive e N → N + wanted ≤ e.size →
    ∃ n e' r' mem', Runs code ⟨p, r, mem, st⟩ n ⟨p + t, r', mem', st + n⟩ ∧ Like e e' ∧ e'.Ok ∧ e'.hi = e'.lo + e'.size ∧ e'.Bef r' mem' ∧ (1 ≤ t → r' 29 = ((e'.lo + N : Nat) : Int)) ∧ (if t % 2 = 0 then e'.lo = e.lo ∧ e'.oth = e.oth else e'.lo = e.oth ∧ e'.oth = e.lo) ∧ n ≤ t * (27 * N + 32 * e.s + 1001) ∧ (t = 0 → e' = e ∧ r' = r) ∧ (1 ≤ t → ∀ j, e.R j → e'.pl j + e'.sz j ≤ e'.lo + N)
  | 0, p, e, r, mem, st, hp, hj, h, hhi, B, h26, hN, hf => ⟨0, e, r, mem, by rw [show st + ((0 : Nat) : Int) = st by omega]; exact Runs.refl _ _, Like.refl e, h, hhi, B, fun h => by omega, by simp, by simp, fun _ => ⟨rfl, rfl⟩, fun h => by omega⟩
  | t + 1, p, e, r, mem, st, hp, hj, h, hhi, B, h26, hN, hf => by
    have hj0 := hj 0 (by omega)
    rw [Nat.add_zero] at hj0
    have s1 := r_jal (v := ⟨p, r, mem, st⟩) 31 b hj0 rfl (by decide) (by show (p : Int) + _ = _; omega)
    dsimp only at s1
    obtain ⟨n, r1, m1, l, s2, hnd, hl, B1, h29, ho, hn⟩ := collect_ok H hb h hhi (upd r 31 ((p + 1 : Nat) : Int)) mem (st + 1) (Bef.upd31 B _) wanted (p + 1) hwt (by show r 26 = _; exact h26) rfl (fun l a b => by rw [hN l a b]; exact hf)
    have hL : Like e (e.turn l) := (Like.refl e).turn l
    have hok := E.turn_ok h hhi hnd hl
    obtain ⟨n2, e', r2, m2, s3, L2, ok2, hi2, B2, g29, gp, gn, gz, gpl⟩ := coll_times2 H hb N wanted hwt t (p + 1) (e.turn l) r1 m1 (st + 1 + n) (by omega) (fun i hi => by
      have := hj (i + 1) (by omega)
      rw [show p + 1 + i = p + (i + 1) by omega]
      exact this) hok rfl B1 (by rw [ho 26 (by decide) (by decide)]; exact h26) (hN.like hL) hf
    have hs := (s1.trans (s2.trans s3)).cast (show 1 + (n + n2) = 1 + n + n2 by omega)
    rw [show p + 1 + t = p + (t + 1) by omega, show st + 1 + (n : Int) + n2 = st + ((1 + n + n2 : Nat) : Int) by omega] at hs
    have ht : tot e.sz l = N := hN l hnd hl
    refine ⟨1 + n + n2, e', r2, m2, hs, ⟨L2.hd, L2.ws, L2.roots, L2.s, L2.size, L2.len⟩, ok2, hi2, B2, fun _ => ?_, ?_, ?_, fun h => by omega, fun _ j hjR => ?_⟩
    · cases t with
      | zero =>
        obtain ⟨rfl, rfl⟩ := gz rfl
        rw [h29, ht]
        rfl
      | succ t => exact g29 (by omega)
    · have hlo : (e.turn l).lo = e.oth := rfl
      have hoth : (e.turn l).oth = e.lo := rfl
      rw [hlo, hoth] at gp
      by_cases hm : t % 2 = 0
      · rw [if_pos hm] at gp
        rw [if_neg (by omega)]
        exact gp
      · rw [if_neg hm] at gp
        rw [if_pos (by omega)]
        exact gp
    · have hs' : (e.turn l).s = e.s := rfl
      rw [hs'] at gn
      rw [ht] at hn
      rw [Nat.succ_mul]
      omega
    · cases t with
      | zero =>
        obtain ⟨rfl, rfl⟩ := gz rfl
        have := pos_le e.sz l j ((hl j).2 hjR)
        show e.oth + pos e.sz l j + e.sz j ≤ e.oth + N
        omega
      | succ t => exact gpl (by omega) j ((hL.R j).2 hjR)
theorem ran_ok2 (R : Nat → Int) (hR : ∀ i, Rs.InR (R i)) (mem : List Int) {t : Nat} (h1 : 1 ≤ t) (h3 : t ≤ 3) (e : E) (h : e.Ok) (hhi : e.hi = e.lo + e.size) (B : e.Bef R mem) (hs : e.s ≤ 60) (hsz : e.size ≤ 500) (N wanted : Nat) (hwt : wanted ≤ 1000) (h26 : R 26 = wanted) (hN : Alive e N) (hf : N + wanted ≤ e.size) :
    ∃ m e' R', Rs.runI (As.code (allL R t)) mem (mem.length : Int) [] 200000 = (m, 0) ∧ m.value = 0 ∧ Like e e' ∧ e'.Ok ∧ e'.hi = e'.lo + e'.size ∧ e'.Bef R' m.mem ∧ m.regs = (List.range 32).map R' ∧ R' 29 = ((e'.lo + N : Nat) : Int) ∧ (if t % 2 = 0 then e'.lo = e.lo else e'.lo = e.oth) ∧ m.steps ≤ (125 + t * (27 * N + 32 * e.s + 1001) : Nat) ∧ ∀ j, e.R j → e'.pl j + e'.sz j ≤ e'.lo + N := by
  obtain ⟨p, r1, hp, hg, s1, hr1, hj, hh, hcl⟩ := to_first R hR B.r0 mem h1 h3
  obtain ⟨n, e', r2, m2, s2, L, ok, hi2, B2, g29, gp, gn, -, gpl⟩ := coll_times2 hg (by omega) N wanted (by omega) t p e r1 mem (p : Int) (by omega) hj h hhi (bef_congr B hr1) (by rw [hr1 26 (by decide)]; exact h26) hN hf
  have s12 := s1.trans s2
  obtain ⟨m1, e1, a1⟩ := s12 _ (200000 - (p + n)) (start_at mem)
  have hnn : p + n < 200000 := by
    have h5 : t * (27 * N + 32 * e.s + 1001) ≤ 3 * (27 * N + 32 * e.s + 1001) := Nat.mul_le_mul_right _ h3
    omega
  obtain ⟨m3, e3, hv, a3⟩ := r_halt (v := ⟨p + t, r2, m2, (p : Int) + n⟩) 0 hh rfl (by decide) a1 (200000 - (p + n) - 1)
  rw [show p + n + (200000 - (p + n)) = 200000 by omega] at e1
  rw [show 200000 - (p + n) - 1 + 1 = 200000 - (p + n) by omega] at e3
  refine ⟨m3, e', r2, ?_, ?_, L, ok, hi2, ?_, a3.regs, g29 h1, ?_, ?_, gpl h1⟩
  · unfold Rs.runI
    have hlen := B.len
    have hsm := h.small
    rw [if_neg (by unfold Rs.noImage; omega)]
    show Rs.go _ 200000 _ = _
    rw [e1, e3]
  · rw [hv]; exact B2.r0
  · rw [a3.mem]; exact B2
  · by_cases hm : t % 2 = 0
    · rw [if_pos hm] at gp ⊢; exact gp.1
    · rw [if_neg hm] at gp ⊢; exact gp.1
  · rw [a3.st]
    show (p : Int) + n + 1 ≤ _
    omega
end Gc
end Go.Proofs.Ytaldcgfhlflcpaa
