/- The machine's push. -/
import Derived.Deep.RegionHeld3
import Derived.Test.YtalfnaielhbocaaKJbd
import Derived.Test.YtalfnaielhbocaaKJbf
import Derived.Test.YtalfnaielhbocaaKJbg
import Derived.Deep.DeepCutAuto
set_option linter.unusedVariables false
set_option linter.unusedSimpArgs false
set_option linter.unnecessarySimpa false
namespace Go.Proofs.Ytalfnaielhbocaa
open Go.RowKit
set_option linter.unusedVariables false
set_option linter.unusedSimpArgs false
set_option maxRecDepth 100000
namespace Vm
section
variable {w0 w w' : World} {ρ ρ' : Nat → Nat} {H : Nat → Value} {m hb mb : Nat} {T : List Hp.Th} {C : List Cl} {out : List UInt8} {regs : List Hp.V} {frs : List Fr} {ov rv fv cv : Value} {cbs : List Nat} {s : St} {left steps : Nat}
def finV (x : Fin) (av : Value) : Value := .agg #[.int .i64 x.kind, .int .i64 x.reg, av, .int .i64 x.to, .int .i64 x.next, .int .i64 x.els]
theorem push_end {w1 w3 : World} {cs : Array Value} {t0 : TypeId} {a3 : Option Addr} {c3 : Nat} {fp : Option Addr} {k : Cl} {ah : Option Addr} {ch t n : Nat} {kind reg els : Int} {args : List Int} (h : VmO w0 w1 ρ H m cv s left steps hb mb ov rv (.pointer fp) cbs) (B : Boxed w w1 cs t0) (hmw : m < w.heap.size) (hB3 : Below w1.heap.size w1 w3)
    (ho : w3.ownsRow w1.heap.size 64 3 (.slice a3 s.regs.length c3) s.regs.length (Hp.flatV s.regs)) (hH : H s.cl = .slice ah k.held.length ch) :
    ((∃ ρ' fv', VmO w0 ((w3.setCell ⟨m, 15, none⟩ (.pointer (some ⟨w3.heap.size, 0, none⟩))).alloc (.cells #[.int .i64 s.proc, .slice a3 s.regs.length c3, .slice ah k.held.length ch, .int .i64 t, .int .i64 n, .pointer fp] 100)) ρ' H m cv (push s ⟨kind, reg, args, t, n, els⟩) left steps hb mb ov rv fv' cbs ∧ ∀ b, b < w.heap.size → ρ b = 0 → ρ' b = 0) ∧
      w.heap.size ≤ ((w3.setCell ⟨m, 15, none⟩ (.pointer (some ⟨w3.heap.size, 0, none⟩))).alloc (.cells #[.int .i64 s.proc, .slice a3 s.regs.length c3, .slice ah k.held.length ch, .int .i64 t, .int .i64 n, .pointer fp] 100)).heap.size ∧
      ∀ b, b < w.heap.size → b ≠ m → ((w3.setCell ⟨m, 15, none⟩ (.pointer (some ⟨w3.heap.size, 0, none⟩))).alloc (.cells #[.int .i64 s.proc, .slice a3 s.regs.length c3, .slice ah k.held.length ch, .int .i64 t, .int .i64 n, .pointer fp] 100)).heap[b]? = w.heap[b]?) ∧
    ∀ i, i ≠ 15 → ((w3.setCell ⟨m, 15, none⟩ (.pointer (some ⟨w3.heap.size, 0, none⟩))).alloc (.cells #[.int .i64 s.proc, .slice a3 s.regs.length c3, .slice ah k.held.length ch, .int .i64 t, .int .i64 n, .pointer fp] 100)).cell? ⟨m, i, none⟩ = w1.cell? ⟨m, i, none⟩ := by
  have X3 := h.bel hB3
  have hm3 := X3.lt
  have hs1 := B.size
  have hs3 := hB3.size
  have hBw : Below w.heap.size w w3 := B.below.trans (hB3.mono B.below.size)
  obtain ⟨w4, B4⟩ := boxed w3 #[.int .i64 s.proc, .slice a3 s.regs.length c3, .slice ah k.held.length ch, .int .i64 t, .int .i64 n, .pointer fp] 100
  have X4 := X3.bel B4.below
  have hs4 := B4.size
  have hz : ∀ b, w1.heap.size ≤ b → ρ b = 0 := fun b hb => Decidable.byContradiction fun e => by have := (h.c.lo _ e).2; omega
  have hw0 : w0.heap.size ≤ w1.heap.size := h.c.below.size
  have hrow4 := (own_same ho fun b e => B4.below.block b (ho.lt b e).2).mono (Nat.zero_le _)
  have hZ := X4.c.froz (S := fun b => b = w3.heap.size ∨ (Value.slice a3 s.regs.length c3).ownBlock = some b) fun b e => by
    rcases e with e | e
    · exact ⟨hz b (by omega), by omega, by omega⟩
    · have := ho.lt b e
      exact ⟨hz b (by omega), by omega, by omega⟩
  have hfr : FrAt w4 (more (fun b => b = w3.heap.size ∨ (Value.slice a3 s.regs.length c3).ownBlock = some b) 6 ρ) H (⟨s.proc, s.regs, s.cl, t, n⟩ :: s.frs) (.pointer (some ⟨w3.heap.size, 0, none⟩)) := by
    refine .cons _ _ _ (.slice a3 s.regs.length c3) (.pointer fp) ?_ (more_yes (.inl rfl)) hrow4 (fun b e => more_yes (.inr e)) hZ.frs
    show w4.heap[w3.heap.size]? = some (.cells #[.int .i64 s.proc, .slice a3 s.regs.length c3, H s.cl, .int .i64 t, .int .i64 n, .pointer fp] 100 (0, 0))
    rw [hH]
    exact B4.blk
  have X5 := X4.set2 (s' := { s with frs := ⟨s.proc, s.regs, s.cl, t, n⟩ :: s.frs }) (left' := left) (steps' := steps) (fv' := .pointer (some ⟨w3.heap.size, 0, none⟩)) (ov' := ov) (rv' := rv) (H' := H) (cbs' := cbs) (hZ.setFrs hfr) 15 (.pointer (some ⟨w3.heap.size, 0, none⟩)) rfl
  have hE : (w3.setCell ⟨m, 15, none⟩ (.pointer (some ⟨w3.heap.size, 0, none⟩))).alloc (.cells #[.int .i64 s.proc, .slice a3 s.regs.length c3, .slice ah k.held.length ch, .int .i64 t, .int .i64 n, .pointer fp] 100) = w4.setCell ⟨m, 15, none⟩ (.pointer (some ⟨w3.heap.size, 0, none⟩)) := by
    rw [B4.eq, World.setCell_alloc_past _ _ _ _ hm3]
  rw [hE]
  refine ⟨⟨⟨_, _, X5, fun b h1 h2 => (more_no fun e => ?_).trans h2⟩, ?_, fun b h1 h2 => ?_⟩, fun i hi => ?_⟩
  · rcases e with e | e
    · omega
    · have := (ho.lt b e).1; omega
  · simp [World.setCell]
    have := hBw.size
    omega
  · rw [heap_setCell_other _ _ _ _ h2, B4.below.block b (by have := hBw.size; omega)]
    exact hBw.block b h1
  · have e1 := X5.cell i
    have e2 := h.cell i
    rw [e1, e2]
    unfold mCells
    have : i < 15 ∨ 15 < i := by omega
    rcases this with h | h
    · match i, h with
      | 0, _ => rfl
      | 1, _ => rfl
      | 2, _ => rfl
      | 3, _ => rfl
      | 4, _ => rfl
      | 5, _ => rfl
      | 6, _ => rfl
      | 7, _ => rfl
      | 8, _ => rfl
      | 9, _ => rfl
      | 10, _ => rfl
      | 11, _ => rfl
      | 12, _ => rfl
      | 13, _ => rfl
      | 14, _ => rfl
    · match i, h with
      | 16, _ => rfl
      | 17, _ => rfl
      | 18, _ => rfl
      | 19, _ => rfl
      | k + 20, _ => rfl
set_option maxHeartbeats 2000000 in
theorem push_any (h : VmO w0 w ρ H m cv s left steps hb mb ov rv fv cbs) (x : Fin) (aa : Option Addr) (na ca : Nat) (hto : 0 ≤ x.to) (hnx : 0 ≤ x.next) (hrl : s.regs.length ≤ 2000) {k : Cl} (hk : k ∈ s.cls) (hkf : k.key = s.cl) :
    Calls Try.prog 57 #[.pointer (some ⟨m, 0, none⟩), finV x (.slice aa na ca)] w fun e w' => e = .returned (.tuple #[]) ∧ (∃ ρ' fv', VmO w0 w' ρ' H m cv (push s x) left steps hb mb ov rv fv' cbs ∧ ∀ b, b < w.heap.size → ρ b = 0 → ρ' b = 0) ∧ w.heap.size ≤ w'.heap.size ∧ ∀ b, b < w.heap.size → b ≠ m → w'.heap[b]? = w.heap[b]? := by
  have hm := h.lt
  obtain ⟨fp, rfl⟩ := h.c.frs.ptr
  obtain ⟨ar, cr, rfl⟩ := own_slice h.c.regs
  obtain ⟨_, _, ah, ch, hH⟩ := h.c.held hk
  rw [hkf] at hH
  obtain ⟨kind, reg, args, xt, next, els⟩ := x
  dsimp only at hto hnx
  obtain ⟨t, rfl⟩ : ∃ t : Nat, xt = t := ⟨xt.toNat, by omega⟩
  obtain ⟨n, rfl⟩ : ∃ n : Nat, next = n := ⟨next.toNat, by omega⟩
  obtain ⟨w1, B⟩ := boxed w #[.int .i64 kind, .int .i64 reg, .slice aa na ca, .int .i64 t, .int .i64 n, .int .i64 els] 45
  have HB := Lib.hid B
  have H1 := h.bel B.below
  have c11 : w1.cell? ⟨m, 11, none⟩ = some (.int .i64 s.proc) := H1.cell 11
  have c12 : w1.cell? ⟨m, 12, none⟩ = some (.slice ar s.regs.length cr) := H1.cell 12
  have c13 : w1.cell? ⟨m, 13, none⟩ = some (.slice ah k.held.length ch) := by rw [← hH]; exact H1.cell 13
  have c15 : w1.cell? ⟨m, 15, none⟩ = some (.pointer fp) := H1.cell 15
  have f15 : w1.frozen? ⟨m, 15, none⟩ = false := H1.fz 15
  have p3 : w1.cell? ⟨w.heap.size, 3, none⟩ = some (.int .i64 t) := cell_of_row w1 w.heap.size 3 _ _ _ B.blk
  have p4 : w1.cell? ⟨w.heap.size, 4, none⟩ = some (.int .i64 n) := cell_of_row w1 w.heap.size 4 _ _ _ B.blk
  have hqm : w.heap.size ≠ m := by omega
  have hm1 := H1.lt
  have hq1 : w.heap.size < w1.heap.size := by have := B.size; omega
  have HVS : Hid (VSl w1.drew (.slice ar s.regs.length cr) s.regs) := VSl.own (w := w1.drew) (own_drewN H1.c.regs 1)
  have HH := Lib.hid H1
  clear h H1 B
  unfold finV
  dsimp only
  go_enter Try.func57, Try.ntmps57
  go_wp2_with fail
  rw [← HB.out.eq]
  have HF : Hid (w1.cell? ⟨m, 11, none⟩ = some (.int .i64 s.proc) ∧ w1.cell? ⟨m, 12, none⟩ = some (.slice ar s.regs.length cr) ∧ w1.cell? ⟨m, 13, none⟩ = some (.slice ah k.held.length ch) ∧ w1.cell? ⟨w.heap.size, 3, none⟩ = some (.int .i64 t) ∧ w1.cell? ⟨w.heap.size, 4, none⟩ = some (.int .i64 n)) := ⟨c11, c12, c13, p3, p4⟩
  refine wp_region_held_drew (S := fun w' => w'.cell? ⟨m, 11, none⟩ = some (.int .i64 s.proc) ∧ w'.cell? ⟨m, 12, none⟩ = some (.slice ar s.regs.length cr) ∧ w'.cell? ⟨m, 13, none⟩ = some (.slice ah k.held.length ch) ∧ w'.cell? ⟨w.heap.size, 3, none⟩ = some (.int .i64 t) ∧ w'.cell? ⟨w.heap.size, 4, none⟩ = some (.int .i64 n)) (by kernel_rfl) HF.out (fun hHeld => ?_)
  refine wpAnyH_take (i := 0) (v := ?v1) rfl (by kernel_rfl) (by kernel_rfl) (by kernel_rfl) (fun _ _ _ h => h) (Or.inl ⟨by rfl, ?hy1⟩) (by assumption) ?r1
  case hy1 => (intro w hSw; (try dsimp only at hSw); go_simp; (try with_reducible rfl))
  try simp only [Act.put, List.getElem_toArray, List.getElem_cons_zero, List.getElem_cons_succ, List.setIfInBounds_toArray, List.set_cons_zero, List.set_cons_succ]
  refine wpAnyH_take (i := 1) (v := ?v2) rfl (by kernel_rfl) (by kernel_rfl) (by kernel_rfl) (fun _ _ _ h => h) (Or.inl ⟨by rfl, ?hy2⟩) (by assumption) ?r2
  case hy2 => (intro w hSw; (try dsimp only at hSw); go_simp; (try with_reducible rfl))
  try simp only [Act.put, List.getElem_toArray, List.getElem_cons_zero, List.getElem_cons_succ, List.setIfInBounds_toArray, List.set_cons_zero, List.set_cons_succ]
  refine wpAnyH_take (i := 2) (v := ?v3) rfl (by kernel_rfl) (by kernel_rfl) (by kernel_rfl) (fun _ _ _ h => h) (Or.inl ⟨by rfl, ?hy3⟩) (by assumption) ?r3
  case hy3 => (intro w hSw; (try dsimp only at hSw); go_simp; (try with_reducible rfl))
  try simp only [Act.put, List.getElem_toArray, List.getElem_cons_zero, List.getElem_cons_succ, List.setIfInBounds_toArray, List.set_cons_zero, List.set_cons_succ]
  refine wpAnyH_take (i := 3) (v := ?v4) rfl (by kernel_rfl) (by kernel_rfl) (by kernel_rfl) (fun _ _ _ h => h) (Or.inl ⟨by rfl, ?hy4⟩) (by assumption) ?r4
  case hy4 => (intro w hSw; (try dsimp only at hSw); go_simp; (try with_reducible rfl))
  try simp only [Act.put, List.getElem_toArray, List.getElem_cons_zero, List.getElem_cons_succ, List.setIfInBounds_toArray, List.set_cons_zero, List.set_cons_succ]
  refine wpAnyH_take (i := 4) (v := ?v5) rfl (by kernel_rfl) (by kernel_rfl) (by kernel_rfl) (fun _ _ _ h => h) (Or.inl ⟨by rfl, ?hy5⟩) (by assumption) ?r5
  case hy5 => (intro w hSw; (try dsimp only at hSw); go_simp; (try with_reducible rfl))
  try simp only [Act.put, List.getElem_toArray, List.getElem_cons_zero, List.getElem_cons_succ, List.setIfInBounds_toArray, List.set_cons_zero, List.set_cons_succ]
  refine wpAnyH_take (i := 5) (v := ?v6) rfl (by kernel_rfl) (by kernel_rfl) (by kernel_rfl) (fun _ _ _ h => h) (Or.inl ⟨by rfl, ?hy6⟩) (by assumption) ?r6
  case hy6 => (intro w hSw; (try dsimp only at hSw); go_simp; (try with_reducible rfl))
  try simp only [Act.put, List.getElem_toArray, List.getElem_cons_zero, List.getElem_cons_succ, List.setIfInBounds_toArray, List.set_cons_zero, List.set_cons_succ]
  refine wpAnyH_take (i := 6) (v := ?v7) rfl (by kernel_rfl) (by kernel_rfl) (by kernel_rfl) (fun _ _ _ h => h) (Or.inl ⟨by rfl, ?hy7⟩) (by assumption) ?r7
  case hy7 => (intro w hSw; (try dsimp only at hSw); go_simp; (try with_reducible rfl))
  try simp only [Act.put, List.getElem_toArray, List.getElem_cons_zero, List.getElem_cons_succ, List.setIfInBounds_toArray, List.set_cons_zero, List.set_cons_succ]
  refine wpAnyH_take (i := 7) (v := ?v8) rfl (by kernel_rfl) (by kernel_rfl) (by kernel_rfl) (fun _ _ _ h => h) (Or.inl ⟨by rfl, ?hy8⟩) (by assumption) ?r8
  case hy8 => (intro w hSw; (try dsimp only at hSw); go_simp; (try with_reducible rfl))
  try simp only [Act.put, List.getElem_toArray, List.getElem_cons_zero, List.getElem_cons_succ, List.setIfInBounds_toArray, List.set_cons_zero, List.set_cons_succ]
  refine wpAnyH_take (i := 8) (v := ?v9) rfl (by kernel_rfl) (by kernel_rfl) (by kernel_rfl) (fun _ _ _ h => h) (Or.inl ⟨by rfl, ?hy9⟩) (by assumption) ?r9
  case hy9 => (intro w hSw; (try dsimp only at hSw); go_simp; (try with_reducible rfl))
  try simp only [Act.put, List.getElem_toArray, List.getElem_cons_zero, List.getElem_cons_succ, List.setIfInBounds_toArray, List.set_cons_zero, List.set_cons_succ]
  refine wpAnyH_take (i := 10) (v := ?v10) rfl (by kernel_rfl) (by kernel_rfl) (by kernel_rfl) (fun _ _ _ h => h) (Or.inl ⟨by rfl, ?hy10⟩) (by assumption) ?r10
  case hy10 => (intro w hSw; (try dsimp only at hSw); go_simp; (try with_reducible rfl))
  try simp only [Act.put, List.getElem_toArray, List.getElem_cons_zero, List.getElem_cons_succ, List.setIfInBounds_toArray, List.set_cons_zero, List.set_cons_succ]
  refine wpAnyH_take (i := 11) (v := ?v11) rfl (by kernel_rfl) (by kernel_rfl) (by kernel_rfl) (fun _ _ _ h => h) (Or.inl ⟨by rfl, ?hy11⟩) (by assumption) ?r11
  case hy11 => (intro w hSw; (try dsimp only at hSw); go_simp; (try with_reducible rfl))
  try simp only [Act.put, List.getElem_toArray, List.getElem_cons_zero, List.getElem_cons_succ, List.setIfInBounds_toArray, List.set_cons_zero, List.set_cons_succ]
  refine wpAnyH_take (i := 12) (v := ?v12) rfl (by kernel_rfl) (by kernel_rfl) (by kernel_rfl) (fun _ _ _ h => h) (Or.inl ⟨by rfl, ?hy12⟩) (by assumption) ?r12
  case hy12 => (intro w hSw; (try dsimp only at hSw); go_simp; (try with_reducible rfl))
  try simp only [Act.put, List.getElem_toArray, List.getElem_cons_zero, List.getElem_cons_succ, List.setIfInBounds_toArray, List.set_cons_zero, List.set_cons_succ]
  refine wpAnyH_take (i := 13) (v := ?v13) rfl (by kernel_rfl) (by kernel_rfl) (by kernel_rfl) (fun _ _ _ h => h) (Or.inl ⟨by rfl, ?hy13⟩) (by assumption) ?r13
  case hy13 => (intro w hSw; (try dsimp only at hSw); go_simp; (try with_reducible rfl))
  try simp only [Act.put, List.getElem_toArray, List.getElem_cons_zero, List.getElem_cons_succ, List.setIfInBounds_toArray, List.set_cons_zero, List.set_cons_succ]
  refine wpAnyH_take (i := 14) (v := ?v14) rfl (by kernel_rfl) (by kernel_rfl) (by kernel_rfl) (fun _ _ _ h => h) (Or.inl ⟨by rfl, ?hy14⟩) (by assumption) ?r14
  case hy14 => (intro w hSw; (try dsimp only at hSw); go_simp; (try with_reducible rfl))
  try simp only [Act.put, List.getElem_toArray, List.getElem_cons_zero, List.getElem_cons_succ, List.setIfInBounds_toArray, List.set_cons_zero, List.set_cons_succ]
  refine wpAnyH_take (i := 15) (v := ?v15) rfl (by kernel_rfl) (by kernel_rfl) (by kernel_rfl) (fun _ _ _ h => h) (Or.inl ⟨by rfl, ?hy15⟩) (by assumption) ?r15
  case hy15 => (intro w hSw; (try dsimp only at hSw); go_simp; (try with_reducible rfl))
  try simp only [Act.put, List.getElem_toArray, List.getElem_cons_zero, List.getElem_cons_succ, List.setIfInBounds_toArray, List.set_cons_zero, List.set_cons_succ]
  refine wpAnyH_take (i := 16) (v := ?v16) rfl (by kernel_rfl) (by kernel_rfl) (by kernel_rfl) (fun _ _ _ h => h) (Or.inl ⟨by rfl, ?hy16⟩) (by assumption) ?r16
  case hy16 => (intro w hSw; (try dsimp only at hSw); go_simp; (try with_reducible rfl))
  try simp only [Act.put, List.getElem_toArray, List.getElem_cons_zero, List.getElem_cons_succ, List.setIfInBounds_toArray, List.set_cons_zero, List.set_cons_succ]
  refine wpAnyH_take (i := 17) (v := ?v17) rfl (by kernel_rfl) (by kernel_rfl) (by kernel_rfl) (fun _ _ _ h => h) (Or.inl ⟨by rfl, ?hy17⟩) (by assumption) ?r17
  case hy17 => (intro w hSw; (try dsimp only at hSw); go_simp; (try with_reducible rfl))
  try simp only [Act.put, List.getElem_toArray, List.getElem_cons_zero, List.getElem_cons_succ, List.setIfInBounds_toArray, List.set_cons_zero, List.set_cons_succ]
  refine wpAnyH_take (i := 18) (v := ?v18) rfl (by kernel_rfl) (by kernel_rfl) (by kernel_rfl) (fun _ _ _ h => h) (Or.inl ⟨by rfl, ?hy18⟩) (by assumption) ?r18
  case hy18 => (intro w hSw; (try dsimp only at hSw); go_simp; (try with_reducible rfl))
  try simp only [Act.put, List.getElem_toArray, List.getElem_cons_zero, List.getElem_cons_succ, List.setIfInBounds_toArray, List.set_cons_zero, List.set_cons_succ]
  refine wpAnyH_take (i := 19) (v := ?v19) rfl (by kernel_rfl) (by kernel_rfl) (by kernel_rfl) (fun _ _ _ h => h) (Or.inl ⟨by rfl, ?hy19⟩) (by assumption) ?r19
  case hy19 => (intro w hSw; (try dsimp only at hSw); go_simp; (try with_reducible rfl))
  try simp only [Act.put, List.getElem_toArray, List.getElem_cons_zero, List.getElem_cons_succ, List.setIfInBounds_toArray, List.set_cons_zero, List.set_cons_succ]
  refine wpAnyH_take (i := 20) (v := ?v20) rfl (by kernel_rfl) (by kernel_rfl) (by kernel_rfl) (fun _ _ _ h => h) (Or.inl ⟨by rfl, ?hy20⟩) (by assumption) ?r20
  case hy20 => (intro w hSw; (try dsimp only at hSw); go_simp; (try with_reducible rfl))
  try simp only [Act.put, List.getElem_toArray, List.getElem_cons_zero, List.getElem_cons_succ, List.setIfInBounds_toArray, List.set_cons_zero, List.set_cons_succ]
  refine wpAnyH_ready (rs := [9, 21]) (by kernel_rfl) (by simp) ?b21
  refine AllReadyH.cons rfl (fun K hK => ?s22) ?m22
  case s22 =>
    try simp only [List.getElem_toArray, List.getElem_cons_zero, List.getElem_cons_succ]
    go_simp
    go_at_call 48
    with_reducible refine (clone_any _ s.regs _ HVS.out (by omega)).mono ?_
    rintro e w3 ⟨a3, c3, rfl, hown3, hb3⟩
    have HO3 := Lib.hid hown3
    have HB3 : Hid (Below w1.heap.size w1 w3) := ((Below.refl _ _).drew).trans hb3
    have d11 := (HB3.out.cell (p := ⟨m, 11, none⟩) hm1).trans c11
    have d12 := (HB3.out.cell (p := ⟨m, 12, none⟩) hm1).trans c12
    have d13 := (HB3.out.cell (p := ⟨m, 13, none⟩) hm1).trans c13
    have d15 := (HB3.out.cell (p := ⟨m, 15, none⟩) hm1).trans c15
    have q3 := (HB3.out.cell (p := ⟨w.heap.size, 3, none⟩) hq1).trans p3
    have q4 := (HB3.out.cell (p := ⟨w.heap.size, 4, none⟩) hq1).trans p4
    have g15 : w3.frozen? ⟨m, 15, none⟩ = false := (HB3.out.frozen (p := ⟨m, 15, none⟩) hm1).trans f15
    have hm3 : m < w3.heap.size := Nat.lt_of_lt_of_le hm1 HB3.out.size
    have HF2 := Lib.hid (And.intro d11 (And.intro d12 (And.intro d13 (And.intro q3 q4))))
    have HFIN := Lib.hid (push_end (kind := kind) (reg := reg) (args := args) (els := els) (t := t) (n := n) HH.out HB.out hm HB3.out HO3.out hH)
    clear hown3 hb3
    refine hK.out _ _ ?S22 (fun hHeld => ?k22)
    case S22 => exact HF2.out
    clear hK K
    try simp only [Act.put, List.getElem_toArray, List.getElem_cons_zero, List.getElem_cons_succ, List.setIfInBounds_toArray, List.set_cons_zero, List.set_cons_succ]
    refine wpAnyH_ready (rs := [21]) (by kernel_rfl) (by simp) ?b23
    refine AllReadyH.cons rfl (fun K hK => ?s24) ?m24
    case s24 =>
      try simp only [List.getElem_toArray, List.getElem_cons_zero, List.getElem_cons_succ]
      go_simp
      refine hK.out _ _ ?S24 (fun hHeld => ?k24)
      case S24 => exact HF2.out
      clear hK K
      try simp only [Act.put, List.getElem_toArray, List.getElem_cons_zero, List.getElem_cons_succ, List.setIfInBounds_toArray, List.set_cons_zero, List.set_cons_succ]
      refine wpAnyH_take (i := 22) (v := ?v25) rfl (by kernel_rfl) (by kernel_rfl) (by kernel_rfl) (fun _ _ _ h => h) (Or.inl ⟨by rfl, ?hy25⟩) (by assumption) ?r25
      case hy25 => (intro w hSw; (try dsimp only at hSw); go_simp; (try with_reducible rfl))
      try simp only [Act.put, List.getElem_toArray, List.getElem_cons_zero, List.getElem_cons_succ, List.setIfInBounds_toArray, List.set_cons_zero, List.set_cons_succ]
      refine wpAnyH_ready (rs := [23]) (by kernel_rfl) (by simp) ?b26
      refine AllReadyH.cons rfl (fun K hK => ?s27) ?m27
      case s27 =>
        try simp only [List.getElem_toArray, List.getElem_cons_zero, List.getElem_cons_succ]
        go_simp
        refine hK.out _ _ ?S27 (fun hHeld => ?k27)
        case S27 => exact ⟨alloc_at _ HF2.out.1, alloc_at _ HF2.out.2.1, alloc_at _ HF2.out.2.2.1, alloc_at _ HF2.out.2.2.2.1, alloc_at _ HF2.out.2.2.2.2⟩
        clear hK K
        try simp only [Act.put, List.getElem_toArray, List.getElem_cons_zero, List.getElem_cons_succ, List.setIfInBounds_toArray, List.set_cons_zero, List.set_cons_succ]
        refine wpAnyH_take (i := 24) (v := ?v28) rfl (by kernel_rfl) (by kernel_rfl) (by kernel_rfl) (fun _ _ _ h => h) (Or.inl ⟨by rfl, ?hy28⟩) (by assumption) ?r28
        case hy28 => (intro w hSw; (try dsimp only at hSw); go_simp; (try with_reducible rfl))
        try simp only [Act.put, List.getElem_toArray, List.getElem_cons_zero, List.getElem_cons_succ, List.setIfInBounds_toArray, List.set_cons_zero, List.set_cons_succ]
        refine wpAnyH_take (i := 25) (v := ?v29) rfl (by kernel_rfl) (by kernel_rfl) (by kernel_rfl) (fun _ _ _ h => h) (Or.inl ⟨by rfl, ?hy29⟩) (by assumption) ?r29
        case hy29 => (intro w hSw; (try dsimp only at hSw); go_simp; (try with_reducible rfl))
        try simp only [Act.put, List.getElem_toArray, List.getElem_cons_zero, List.getElem_cons_succ, List.setIfInBounds_toArray, List.set_cons_zero, List.set_cons_succ]
        refine wpAnyH_ready (rs := [26]) (by kernel_rfl) (by simp) ?b30
        refine AllReadyH.cons rfl (fun K hK => ?s31) ?m31
        case s31 =>
          try simp only [List.getElem_toArray, List.getElem_cons_zero, List.getElem_cons_succ]
          go_simp
          refine hK.out _ _ ?S31 (fun hHeld => ?k31)
          case S31 => exact ⟨(HFIN.out.2 11 (by decide)).trans c11, (HFIN.out.2 12 (by decide)).trans c12, (HFIN.out.2 13 (by decide)).trans c13, alloc_at _ ((cell_set_block _ _ hqm).trans q3), alloc_at _ ((cell_set_block _ _ hqm).trans q4)⟩
          clear hK K
          try simp only [Act.put, List.getElem_toArray, List.getElem_cons_zero, List.getElem_cons_succ, List.setIfInBounds_toArray, List.set_cons_zero, List.set_cons_succ]
          refine wpAnyH_done (by kernel_rfl) ?_ _
          skip
          go_wp2_with fail
          refine bodyPost_end (results_none rfl _ _ _) rfl ?_
          exact ⟨rfl, HFIN.out.1⟩
        exact AllReadyH.nil
      exact AllReadyH.nil
    exact AllReadyH.nil
  refine AllReadyH.cons rfl (fun K hK => ?s32) ?m32
  case s32 =>
    try simp only [List.getElem_toArray, List.getElem_cons_zero, List.getElem_cons_succ]
    go_simp
    refine hK.out _ _ ?S32 (fun hHeld => ?k32)
    case S32 => exact HF.out
    clear hK K
    try simp only [Act.put, List.getElem_toArray, List.getElem_cons_zero, List.getElem_cons_succ, List.setIfInBounds_toArray, List.set_cons_zero, List.set_cons_succ]
    refine wpAnyH_ready (rs := [9]) (by kernel_rfl) (by simp) ?b33
    refine AllReadyH.cons rfl (fun K hK => ?s34) ?m34
    case s34 =>
      try simp only [List.getElem_toArray, List.getElem_cons_zero, List.getElem_cons_succ]
      go_simp
      go_at_call 48
      with_reducible refine (clone_any _ s.regs _ HVS.out (by omega)).mono ?_
      rintro e w3 ⟨a3, c3, rfl, hown3, hb3⟩
      have HO3 := Lib.hid hown3
      have HB3 : Hid (Below w1.heap.size w1 w3) := ((Below.refl _ _).drew).trans hb3
      have d11 := (HB3.out.cell (p := ⟨m, 11, none⟩) hm1).trans c11
      have d12 := (HB3.out.cell (p := ⟨m, 12, none⟩) hm1).trans c12
      have d13 := (HB3.out.cell (p := ⟨m, 13, none⟩) hm1).trans c13
      have d15 := (HB3.out.cell (p := ⟨m, 15, none⟩) hm1).trans c15
      have q3 := (HB3.out.cell (p := ⟨w.heap.size, 3, none⟩) hq1).trans p3
      have q4 := (HB3.out.cell (p := ⟨w.heap.size, 4, none⟩) hq1).trans p4
      have g15 : w3.frozen? ⟨m, 15, none⟩ = false := (HB3.out.frozen (p := ⟨m, 15, none⟩) hm1).trans f15
      have hm3 : m < w3.heap.size := Nat.lt_of_lt_of_le hm1 HB3.out.size
      have HF2 := Lib.hid (And.intro d11 (And.intro d12 (And.intro d13 (And.intro q3 q4))))
      have HFIN := Lib.hid (push_end (kind := kind) (reg := reg) (args := args) (els := els) (t := t) (n := n) HH.out HB.out hm HB3.out HO3.out hH)
      clear hown3 hb3
      refine hK.out _ _ ?S34 (fun hHeld => ?k34)
      case S34 => exact HF2.out
      clear hK K
      try simp only [Act.put, List.getElem_toArray, List.getElem_cons_zero, List.getElem_cons_succ, List.setIfInBounds_toArray, List.set_cons_zero, List.set_cons_succ]
      refine wpAnyH_take (i := 22) (v := ?v35) rfl (by kernel_rfl) (by kernel_rfl) (by kernel_rfl) (fun _ _ _ h => h) (Or.inl ⟨by rfl, ?hy35⟩) (by assumption) ?r35
      case hy35 => (intro w hSw; (try dsimp only at hSw); go_simp; (try with_reducible rfl))
      try simp only [Act.put, List.getElem_toArray, List.getElem_cons_zero, List.getElem_cons_succ, List.setIfInBounds_toArray, List.set_cons_zero, List.set_cons_succ]
      refine wpAnyH_ready (rs := [23]) (by kernel_rfl) (by simp) ?b36
      refine AllReadyH.cons rfl (fun K hK => ?s37) ?m37
      case s37 =>
        try simp only [List.getElem_toArray, List.getElem_cons_zero, List.getElem_cons_succ]
        go_simp
        refine hK.out _ _ ?S37 (fun hHeld => ?k37)
        case S37 => exact ⟨alloc_at _ HF2.out.1, alloc_at _ HF2.out.2.1, alloc_at _ HF2.out.2.2.1, alloc_at _ HF2.out.2.2.2.1, alloc_at _ HF2.out.2.2.2.2⟩
        clear hK K
        try simp only [Act.put, List.getElem_toArray, List.getElem_cons_zero, List.getElem_cons_succ, List.setIfInBounds_toArray, List.set_cons_zero, List.set_cons_succ]
        refine wpAnyH_take (i := 24) (v := ?v38) rfl (by kernel_rfl) (by kernel_rfl) (by kernel_rfl) (fun _ _ _ h => h) (Or.inl ⟨by rfl, ?hy38⟩) (by assumption) ?r38
        case hy38 => (intro w hSw; (try dsimp only at hSw); go_simp; (try with_reducible rfl))
        try simp only [Act.put, List.getElem_toArray, List.getElem_cons_zero, List.getElem_cons_succ, List.setIfInBounds_toArray, List.set_cons_zero, List.set_cons_succ]
        refine wpAnyH_take (i := 25) (v := ?v39) rfl (by kernel_rfl) (by kernel_rfl) (by kernel_rfl) (fun _ _ _ h => h) (Or.inl ⟨by rfl, ?hy39⟩) (by assumption) ?r39
        case hy39 => (intro w hSw; (try dsimp only at hSw); go_simp; (try with_reducible rfl))
        try simp only [Act.put, List.getElem_toArray, List.getElem_cons_zero, List.getElem_cons_succ, List.setIfInBounds_toArray, List.set_cons_zero, List.set_cons_succ]
        refine wpAnyH_ready (rs := [26]) (by kernel_rfl) (by simp) ?b40
        refine AllReadyH.cons rfl (fun K hK => ?s41) ?m41
        case s41 =>
          try simp only [List.getElem_toArray, List.getElem_cons_zero, List.getElem_cons_succ]
          go_simp
          refine hK.out _ _ ?S41 (fun hHeld => ?k41)
          case S41 => exact ⟨(HFIN.out.2 11 (by decide)).trans c11, (HFIN.out.2 12 (by decide)).trans c12, (HFIN.out.2 13 (by decide)).trans c13, alloc_at _ ((cell_set_block _ _ hqm).trans q3), alloc_at _ ((cell_set_block _ _ hqm).trans q4)⟩
          clear hK K
          try simp only [Act.put, List.getElem_toArray, List.getElem_cons_zero, List.getElem_cons_succ, List.setIfInBounds_toArray, List.set_cons_zero, List.set_cons_succ]
          refine wpAnyH_done (by kernel_rfl) ?_ _
          skip
          go_wp2_with fail
          refine bodyPost_end (results_none rfl _ _ _) rfl ?_
          exact ⟨rfl, HFIN.out.1⟩
        exact AllReadyH.nil
      exact AllReadyH.nil
    exact AllReadyH.nil
  exact AllReadyH.nil
end
end Vm
end Go.Proofs.Ytalfnaielhbocaa
namespace Go.Proofs.Ytalfnaielhbocaa
open Go.RowKit
set_option linter.unusedVariables false
set_option linter.unusedSimpArgs false
set_option maxRecDepth 100000
namespace Vm
theorem sl_one' {w : World} (n : Int) (t : TypeId) : Sl (w.alloc (.cells #[.int .i64 n] t)) (.slice (some ⟨w.heap.size, 0, none⟩) 1 1) (ints [n]) := ⟨_, 1, rfl, .inr ⟨_, rfl, new_cell1 (w := w) rfl⟩⟩
theorem sl_two' {w : World} (n k : Int) (t : TypeId) : Sl (w.alloc (.cells #[.int .i64 n, .int .i64 k] t)) (.slice (some ⟨w.heap.size, 0, none⟩) 2 2) (ints [n, k]) := ⟨_, 2, rfl, .inr ⟨_, rfl, new_cells _ (heap_alloc_new w _)⟩⟩
structure EndC (w : World) (p : Prc) (bv : Value) (x : Fin) (lv : Value) : Prop where
  bvl : ∃ a n, bv = .slice a p.blocks.length n
  args : Sl w lv (ints x.args)
  few : x.args.length ≤ 9223372036854775807
structure EndB (w wk : World) (p : Prc) (bv : Value) (x : Fin) (lv : Value) : Prop where
  below : Below w.heap.size w wk
  size : w.heap.size + 1 < wk.heap.size
  bp : wk.heap[w.heap.size]? = some (.cells #[.int .i64 p.params, .int .i64 p.holds, .int .i64 p.regs, bv] 40 (0, 0))
  bx : wk.heap[w.heap.size + 1]? = some (.cells #[.int .i64 x.kind, .int .i64 x.reg, lv, .int .i64 x.to, .int .i64 x.next, .int .i64 x.els] 45 (0, 0))
theorem EndB.of (w : World) (p : Prc) (bv : Value) (x : Fin) (lv : Value) : ∃ w2, w2 = (w.alloc (.cells #[.int .i64 p.params, .int .i64 p.holds, .int .i64 p.regs, bv] 40)).alloc (.cells #[.int .i64 x.kind, .int .i64 x.reg, lv, .int .i64 x.to, .int .i64 x.next, .int .i64 x.els] 45) ∧ EndB w w2 p bv x lv ∧ w2.heap.size = w.heap.size + 1 + 1 :=
  ⟨_, rfl, ⟨((Below.refl _ _).alloc (Nat.le_refl _) _).alloc (by simp) _, by simp, (heap_alloc_old _ _ (by simp)).trans (heap_new rfl), heap_new (by simp)⟩, by simp⟩
theorem EndB.more {w wk wl : World} {p : Prc} {bv lv : Value} {x : Fin} (h : EndB w wk p bv x lv) (hb : Below wk.heap.size wk wl) : EndB w wl p bv x lv :=
  ⟨h.below.trans (hb.mono h.below.size), Nat.lt_of_lt_of_le h.size hb.size, (hb.block _ (by have := h.size; omega)).trans h.bp, (hb.block _ h.size).trans h.bx⟩
theorem below_alloc {wk wl : World} {o : Obj} (hb : Below (wk.alloc o).heap.size (wk.alloc o) wl) : Below wk.heap.size wk wl := ((Below.refl _ _).alloc (Nat.le_refl _) _).trans (hb.mono (by simp))
theorem EndB.cells {w wk : World} {p : Prc} {bv lv : Value} {x : Fin} (h : EndB w wk p bv x lv) :
    wk.cell? ⟨w.heap.size, 0, none⟩ = some (.int .i64 p.params) ∧ wk.cell? ⟨w.heap.size, 1, none⟩ = some (.int .i64 p.holds) ∧ wk.cell? ⟨w.heap.size, 2, none⟩ = some (.int .i64 p.regs) ∧ wk.cell? ⟨w.heap.size, 3, none⟩ = some bv ∧
    wk.cell? ⟨w.heap.size + 1, 0, none⟩ = some (.int .i64 x.kind) ∧ wk.cell? ⟨w.heap.size + 1, 1, none⟩ = some (.int .i64 x.reg) ∧ wk.cell? ⟨w.heap.size + 1, 2, none⟩ = some lv ∧ wk.cell? ⟨w.heap.size + 1, 3, none⟩ = some (.int .i64 x.to) ∧ wk.cell? ⟨w.heap.size + 1, 4, none⟩ = some (.int .i64 x.next) ∧ wk.cell? ⟨w.heap.size + 1, 5, none⟩ = some (.int .i64 x.els) ∧
    w.heap.size + 1 < wk.heap.size ∧ w.heap.size < wk.heap.size :=
  ⟨cell_of_row wk _ 0 _ _ _ h.bp, cell_of_row wk _ 1 _ _ _ h.bp, cell_of_row wk _ 2 _ _ _ h.bp, cell_of_row wk _ 3 _ _ _ h.bp, cell_of_row wk _ 0 _ _ _ h.bx, cell_of_row wk _ 1 _ _ _ h.bx, cell_of_row wk _ 2 _ _ _ h.bx, cell_of_row wk _ 3 _ _ _ h.bx, cell_of_row wk _ 4 _ _ _ h.bx, cell_of_row wk _ 5 _ _ _ h.bx, h.size, Nat.lt_of_succ_lt h.size⟩
theorem all1 {α : Type} (f : α → Bool) (a : α) : List.all [a] f = f a := by simp
section
variable {w : World} {bv lv : Value} {p : Prc} {x : Fin}
set_option maxHeartbeats 16000000 in
theorem endc_0 (I : EndC w p bv x lv) {nx ba r0 t0 e0 : Bool} (hkk : x.kind = 0) (hnx : List.all [x.next] (blockB p) = nx) (hba : ((x.args.length : Int) == 0) = ba) (hr0 : (x.reg == 0) = r0) (ht0 : (x.to == 0) = t0) (he0 : (x.els == 0) = e0) (hE : finB p x = (nx && ba && r0 && t0 && e0)) :
    Calls Try.prog 29 #[procV p bv, finV x lv] w fun e w' => e = .returned (.bool (finB p x)) ∧ Below w.heap.size w w' := by
  obtain ⟨w2, hw2, A, hs2⟩ := EndB.of w p bv x lv
  have HS2 := Lib.hid hs2
  clear hs2
  obtain ⟨ab, cb, rfl⟩ := I.bvl
  obtain ⟨al, cl, hlv⟩ := I.args.len
  subst hlv
  have hil : (ints x.args).length = x.args.length := by simp [ints]
  have hargs := I.args
  rw [hil] at hargs A hw2 ⊢
  have HI := Lib.hid I
  have A2 := Lib.hid A
  have HW2 := Lib.hid hw2
  have HARGS := Lib.hid hargs
  have HE := Lib.hid hE
  clear I A hw2 hargs hE
  obtain ⟨kind, reg, args, xt, next, els⟩ := x
  dsimp only at *
  subst hkk
  have HHNX := Lib.hid hnx
  clear hnx
  unfold procV finV
  dsimp only
  obtain ⟨p0, p1, p2, p3, x0, x1, x2, x3, x4, x5, hl1, hl0⟩ := A2.out.cells
  dsimp only at x0 x1 x2 x3 x4 x5
  have hra0 := regs_any p (.slice ab p.blocks.length cb) ⟨_, _, _, rfl⟩ (.slice al args.length cl) args w2 (HARGS.out.below A2.out.below (Nat.le_refl _)) HI.out.few
  have HRA := Lib.hid hra0
  unfold procV at HRA
  clear hra0
  go_enter Try.func29, Try.ntmps29
  cases h6 : decide (args.length ≤ 6)
  case' true =>
    have h6i : decide ((args.length : Int) ≤ 6) = true := by rw [← h6]; rw [decide_eq_decide]; omega
    go_wp2_with fail
    rw [← HW2.out]
    with_reducible refine HRA.out.mono ?_
    rintro e w3 ⟨rfl, hb2⟩
    have A3 := Lib.hid (A2.out.more hb2)
    clear hb2 HRA p0 p1 p2 p3 x0 x1 x2 x3 x4 x5 hl0 hl1
    obtain ⟨p0, p1, p2, p3, x0, x1, x2, x3, x4, x5, hl1, hl0⟩ := A3.out.cells
    dsimp only at x0 x1 x2 x3 x4 x5
    have hc3 := blocks_any p (.slice ab p.blocks.length cb) ⟨_, _, rfl⟩ (.slice (some ⟨w3.heap.size, 0, none⟩) 1 1) [next] (w3.alloc (.cells #[.int .i64 next] 3)) (sl_one' next _) (by simp)
    rw [HHNX.out] at hc3
    have HC3 := Lib.hid hc3
    unfold procV at HC3
    clear hc3
    go_wp2_with fail
    with_reducible refine HC3.out.mono ?_
    rintro e w4 ⟨rfl, hb3⟩
    have A4 := Lib.hid (A3.out.more (below_alloc hb3))
    clear hb3 p0 p1 p2 p3 x0 x1 x2 x3 x4 x5 hl0 hl1
    obtain ⟨p0, p1, p2, p3, x0, x1, x2, x3, x4, x5, hl1, hl0⟩ := A4.out.cells
    dsimp only at x0 x1 x2 x3 x4 x5
  case' false =>
    have h6i : decide ((args.length : Int) ≤ 6) = false := by rw [← h6]; rw [decide_eq_decide]; omega
    clear HRA
    go_wp2_with fail
    rw [← HW2.out]
    have hc2 := blocks_any p (.slice ab p.blocks.length cb) ⟨_, _, rfl⟩ (.slice (some ⟨w2.heap.size, 0, none⟩) 1 1) [next] (w2.alloc (.cells #[.int .i64 next] 3)) (sl_one' next _) (by simp)
    rw [HS2.out] at hc2
    rw [HHNX.out] at hc2
    have HC2 := Lib.hid hc2
    unfold procV at HC2
    clear hc2
    go_wp2_with fail
    with_reducible refine HC2.out.mono ?_
    rintro e w4 ⟨rfl, hb2⟩
    have A4 := Lib.hid (A2.out.more (below_alloc hb2))
    clear hb2 p0 p1 p2 p3 x0 x1 x2 x3 x4 x5 hl0 hl1
    obtain ⟨p0, p1, p2, p3, x0, x1, x2, x3, x4, x5, hl1, hl0⟩ := A4.out.cells
    dsimp only at x0 x1 x2 x3 x4 x5
  all_goals
    cases nx
    · go_wp2_with fail
      go_ret
      rw [HE.out]
      exact ⟨by first | rfl | (simp [h6]; done) | (simp; done), A4.out.below⟩
    · cases ba
      · go_wp2_with fail
        go_ret
        rw [HE.out]
        exact ⟨by first | rfl | (simp [h6]; done) | (simp; done), A4.out.below⟩
      · cases r0
        · go_wp2_with fail
          go_ret
          rw [HE.out]
          exact ⟨by first | rfl | (simp [h6]; done) | (simp; done), A4.out.below⟩
        · cases t0
          · go_wp2_with fail
            go_ret
            rw [HE.out]
            exact ⟨by first | rfl | (simp [h6]; done) | (simp; done), A4.out.below⟩
          · go_wp2_with fail
            go_ret
            rw [HE.out]
            exact ⟨by first | rfl | (simp [h6]; done) | (simp; done), A4.out.below⟩
set_option maxHeartbeats 16000000 in
theorem endc_1 (I : EndC w p bv x lv) {nx ba rr kb t0 : Bool} (hkk : x.kind = 1) (hnx : List.all [x.next] (blockB p) = nx) (hba : ((x.args.length : Int) == 0) = ba) (hrr : regsB p [x.reg] = rr) (hkb : List.all [x.els] (blockB p) = kb) (ht0 : (x.to == 0) = t0) (hE : finB p x = (nx && ba && rr && kb && t0)) :
    Calls Try.prog 29 #[procV p bv, finV x lv] w fun e w' => e = .returned (.bool (finB p x)) ∧ Below w.heap.size w w' := by
  obtain ⟨w2, hw2, A, hs2⟩ := EndB.of w p bv x lv
  have HS2 := Lib.hid hs2
  clear hs2
  obtain ⟨ab, cb, rfl⟩ := I.bvl
  obtain ⟨al, cl, hlv⟩ := I.args.len
  subst hlv
  have hil : (ints x.args).length = x.args.length := by simp [ints]
  have hargs := I.args
  rw [hil] at hargs A hw2 ⊢
  have HI := Lib.hid I
  have A2 := Lib.hid A
  have HW2 := Lib.hid hw2
  have HARGS := Lib.hid hargs
  have HE := Lib.hid hE
  clear I A hw2 hargs hE
  obtain ⟨kind, reg, args, xt, next, els⟩ := x
  dsimp only at *
  subst hkk
  have HHNX := Lib.hid hnx
  clear hnx
  have HHRR := Lib.hid hrr
  clear hrr
  have HHKB := Lib.hid hkb
  clear hkb
  unfold procV finV
  dsimp only
  obtain ⟨p0, p1, p2, p3, x0, x1, x2, x3, x4, x5, hl1, hl0⟩ := A2.out.cells
  dsimp only at x0 x1 x2 x3 x4 x5
  have hra0 := regs_any p (.slice ab p.blocks.length cb) ⟨_, _, _, rfl⟩ (.slice al args.length cl) args w2 (HARGS.out.below A2.out.below (Nat.le_refl _)) HI.out.few
  have HRA := Lib.hid hra0
  unfold procV at HRA
  clear hra0
  go_enter Try.func29, Try.ntmps29
  cases h6 : decide (args.length ≤ 6)
  case' true =>
    have h6i : decide ((args.length : Int) ≤ 6) = true := by rw [← h6]; rw [decide_eq_decide]; omega
    go_wp2_with fail
    rw [← HW2.out]
    with_reducible refine HRA.out.mono ?_
    rintro e w3 ⟨rfl, hb2⟩
    have A3 := Lib.hid (A2.out.more hb2)
    clear hb2 HRA p0 p1 p2 p3 x0 x1 x2 x3 x4 x5 hl0 hl1
    obtain ⟨p0, p1, p2, p3, x0, x1, x2, x3, x4, x5, hl1, hl0⟩ := A3.out.cells
    dsimp only at x0 x1 x2 x3 x4 x5
    have hc3 := blocks_any p (.slice ab p.blocks.length cb) ⟨_, _, rfl⟩ (.slice (some ⟨w3.heap.size, 0, none⟩) 1 1) [next] (w3.alloc (.cells #[.int .i64 next] 3)) (sl_one' next _) (by simp)
    rw [HHNX.out] at hc3
    have HC3 := Lib.hid hc3
    unfold procV at HC3
    clear hc3
    go_wp2_with fail
    with_reducible refine HC3.out.mono ?_
    rintro e w4 ⟨rfl, hb3⟩
    have A4 := Lib.hid (A3.out.more (below_alloc hb3))
    clear hb3 p0 p1 p2 p3 x0 x1 x2 x3 x4 x5 hl0 hl1
    obtain ⟨p0, p1, p2, p3, x0, x1, x2, x3, x4, x5, hl1, hl0⟩ := A4.out.cells
    dsimp only at x0 x1 x2 x3 x4 x5
  case' false =>
    have h6i : decide ((args.length : Int) ≤ 6) = false := by rw [← h6]; rw [decide_eq_decide]; omega
    clear HRA
    go_wp2_with fail
    rw [← HW2.out]
    have hc2 := blocks_any p (.slice ab p.blocks.length cb) ⟨_, _, rfl⟩ (.slice (some ⟨w2.heap.size, 0, none⟩) 1 1) [next] (w2.alloc (.cells #[.int .i64 next] 3)) (sl_one' next _) (by simp)
    rw [HS2.out] at hc2
    rw [HHNX.out] at hc2
    have HC2 := Lib.hid hc2
    unfold procV at HC2
    clear hc2
    go_wp2_with fail
    with_reducible refine HC2.out.mono ?_
    rintro e w4 ⟨rfl, hb2⟩
    have A4 := Lib.hid (A2.out.more (below_alloc hb2))
    clear hb2 p0 p1 p2 p3 x0 x1 x2 x3 x4 x5 hl0 hl1
    obtain ⟨p0, p1, p2, p3, x0, x1, x2, x3, x4, x5, hl1, hl0⟩ := A4.out.cells
    dsimp only at x0 x1 x2 x3 x4 x5
  all_goals
    cases nx
    · go_wp2_with fail
      go_ret
      rw [HE.out]
      exact ⟨by first | rfl | (simp [h6]; done) | (simp; done), A4.out.below⟩
    · cases ba
      · go_wp2_with fail
        go_ret
        rw [HE.out]
        exact ⟨by first | rfl | (simp [h6]; done) | (simp; done), A4.out.below⟩
      · have hc4 := regs_any p (.slice ab p.blocks.length cb) ⟨_, _, _, rfl⟩ (.slice (some ⟨w4.heap.size, 0, none⟩) 1 1) [reg] (w4.alloc (.cells #[.int .i64 reg] 3)) (sl_one' reg _) (by simp)
        rw [HHRR.out] at hc4
        have HC4 := Lib.hid hc4
        unfold procV at HC4
        clear hc4
        go_wp2_with fail
        with_reducible refine HC4.out.mono ?_
        rintro e w5 ⟨rfl, hb4⟩
        have A5 := Lib.hid (A4.out.more (below_alloc hb4))
        clear hb4 p0 p1 p2 p3 x0 x1 x2 x3 x4 x5 hl0 hl1
        obtain ⟨p0, p1, p2, p3, x0, x1, x2, x3, x4, x5, hl1, hl0⟩ := A5.out.cells
        dsimp only at x0 x1 x2 x3 x4 x5
        cases rr
        · go_wp2_with fail
          go_ret
          rw [HE.out]
          exact ⟨by first | rfl | (simp [h6]; done) | (simp; done), A5.out.below⟩
        · have hc5 := blocks_any p (.slice ab p.blocks.length cb) ⟨_, _, rfl⟩ (.slice (some ⟨w5.heap.size, 0, none⟩) 1 1) [els] (w5.alloc (.cells #[.int .i64 els] 3)) (sl_one' els _) (by simp)
          rw [HHKB.out] at hc5
          have HC5 := Lib.hid hc5
          unfold procV at HC5
          clear hc5
          go_wp2_with fail
          with_reducible refine HC5.out.mono ?_
          rintro e w6 ⟨rfl, hb5⟩
          have A6 := Lib.hid (A5.out.more (below_alloc hb5))
          clear hb5 p0 p1 p2 p3 x0 x1 x2 x3 x4 x5 hl0 hl1
          obtain ⟨p0, p1, p2, p3, x0, x1, x2, x3, x4, x5, hl1, hl0⟩ := A6.out.cells
          dsimp only at x0 x1 x2 x3 x4 x5
          cases kb
          · go_wp2_with fail
            go_ret
            rw [HE.out]
            exact ⟨by first | rfl | (simp [h6]; done) | (simp; done), A6.out.below⟩
          · go_wp2_with fail
            go_ret
            rw [HE.out]
            exact ⟨by first | rfl | (simp [h6]; done) | (simp; done), A6.out.below⟩
set_option maxHeartbeats 16000000 in
theorem endc_2 (I : EndC w p bv x lv) {rr ba t0 n0 e0 : Bool} (hkk : x.kind = 2) (hrr : regsB p [x.reg] = rr) (hba : ((x.args.length : Int) == 0) = ba) (ht0 : (x.to == 0) = t0) (hn0 : (x.next == 0) = n0) (he0 : (x.els == 0) = e0) (hE : finB p x = (rr && ba && t0 && n0 && e0)) :
    Calls Try.prog 29 #[procV p bv, finV x lv] w fun e w' => e = .returned (.bool (finB p x)) ∧ Below w.heap.size w w' := by
  obtain ⟨w2, hw2, A, hs2⟩ := EndB.of w p bv x lv
  have HS2 := Lib.hid hs2
  clear hs2
  obtain ⟨ab, cb, rfl⟩ := I.bvl
  obtain ⟨al, cl, hlv⟩ := I.args.len
  subst hlv
  have hil : (ints x.args).length = x.args.length := by simp [ints]
  have hargs := I.args
  rw [hil] at hargs A hw2 ⊢
  have HI := Lib.hid I
  have A2 := Lib.hid A
  have HW2 := Lib.hid hw2
  have HARGS := Lib.hid hargs
  have HE := Lib.hid hE
  clear I A hw2 hargs hE
  obtain ⟨kind, reg, args, xt, next, els⟩ := x
  dsimp only at *
  subst hkk
  have HHRR := Lib.hid hrr
  clear hrr
  unfold procV finV
  dsimp only
  obtain ⟨p0, p1, p2, p3, x0, x1, x2, x3, x4, x5, hl1, hl0⟩ := A2.out.cells
  dsimp only at x0 x1 x2 x3 x4 x5
  have hra0 := regs_any p (.slice ab p.blocks.length cb) ⟨_, _, _, rfl⟩ (.slice al args.length cl) args w2 (HARGS.out.below A2.out.below (Nat.le_refl _)) HI.out.few
  have HRA := Lib.hid hra0
  unfold procV at HRA
  clear hra0
  go_enter Try.func29, Try.ntmps29
  cases h6 : decide (args.length ≤ 6)
  case' true =>
    have h6i : decide ((args.length : Int) ≤ 6) = true := by rw [← h6]; rw [decide_eq_decide]; omega
    go_wp2_with fail
    rw [← HW2.out]
    with_reducible refine HRA.out.mono ?_
    rintro e w3 ⟨rfl, hb2⟩
    have A3 := Lib.hid (A2.out.more hb2)
    clear hb2 HRA p0 p1 p2 p3 x0 x1 x2 x3 x4 x5 hl0 hl1
    obtain ⟨p0, p1, p2, p3, x0, x1, x2, x3, x4, x5, hl1, hl0⟩ := A3.out.cells
    dsimp only at x0 x1 x2 x3 x4 x5
    have hc3 := blocks_any p (.slice ab p.blocks.length cb) ⟨_, _, rfl⟩ (.slice (some ⟨w3.heap.size, 0, none⟩) 1 1) [next] (w3.alloc (.cells #[.int .i64 next] 3)) (sl_one' next _) (by simp)
    have HC3 := Lib.hid hc3
    unfold procV at HC3
    clear hc3
    go_wp2_with fail
    with_reducible refine HC3.out.mono ?_
    rintro e w4 ⟨rfl, hb3⟩
    have A4 := Lib.hid (A3.out.more (below_alloc hb3))
    clear hb3 p0 p1 p2 p3 x0 x1 x2 x3 x4 x5 hl0 hl1
    obtain ⟨p0, p1, p2, p3, x0, x1, x2, x3, x4, x5, hl1, hl0⟩ := A4.out.cells
    dsimp only at x0 x1 x2 x3 x4 x5
  case' false =>
    have h6i : decide ((args.length : Int) ≤ 6) = false := by rw [← h6]; rw [decide_eq_decide]; omega
    clear HRA
    go_wp2_with fail
    rw [← HW2.out]
    have hc2 := blocks_any p (.slice ab p.blocks.length cb) ⟨_, _, rfl⟩ (.slice (some ⟨w2.heap.size, 0, none⟩) 1 1) [next] (w2.alloc (.cells #[.int .i64 next] 3)) (sl_one' next _) (by simp)
    rw [HS2.out] at hc2
    have HC2 := Lib.hid hc2
    unfold procV at HC2
    clear hc2
    go_wp2_with fail
    with_reducible refine HC2.out.mono ?_
    rintro e w4 ⟨rfl, hb2⟩
    have A4 := Lib.hid (A2.out.more (below_alloc hb2))
    clear hb2 p0 p1 p2 p3 x0 x1 x2 x3 x4 x5 hl0 hl1
    obtain ⟨p0, p1, p2, p3, x0, x1, x2, x3, x4, x5, hl1, hl0⟩ := A4.out.cells
    dsimp only at x0 x1 x2 x3 x4 x5
  all_goals
    have hc4 := regs_any p (.slice ab p.blocks.length cb) ⟨_, _, _, rfl⟩ (.slice (some ⟨w4.heap.size, 0, none⟩) 1 1) [reg] (w4.alloc (.cells #[.int .i64 reg] 3)) (sl_one' reg _) (by simp)
    rw [HHRR.out] at hc4
    have HC4 := Lib.hid hc4
    unfold procV at HC4
    clear hc4
    go_wp2_with fail
    with_reducible refine HC4.out.mono ?_
    rintro e w5 ⟨rfl, hb4⟩
    have A5 := Lib.hid (A4.out.more (below_alloc hb4))
    clear hb4 p0 p1 p2 p3 x0 x1 x2 x3 x4 x5 hl0 hl1
    obtain ⟨p0, p1, p2, p3, x0, x1, x2, x3, x4, x5, hl1, hl0⟩ := A5.out.cells
    dsimp only at x0 x1 x2 x3 x4 x5
    cases rr
    · go_wp2_with fail
      go_ret
      rw [HE.out]
      exact ⟨by first | rfl | (simp [h6]; done) | (simp; done), A5.out.below⟩
    · cases ba
      · go_wp2_with fail
        go_ret
        rw [HE.out]
        exact ⟨by first | rfl | (simp [h6]; done) | (simp; done), A5.out.below⟩
      · cases t0
        · go_wp2_with fail
          go_ret
          rw [HE.out]
          exact ⟨by first | rfl | (simp [h6]; done) | (simp; done), A5.out.below⟩
        · cases n0
          · go_wp2_with fail
            go_ret
            rw [HE.out]
            exact ⟨by first | rfl | (simp [h6]; done) | (simp; done), A5.out.below⟩
          · go_wp2_with fail
            go_ret
            rw [HE.out]
            exact ⟨by first | rfl | (simp [h6]; done) | (simp; done), A5.out.below⟩
set_option maxHeartbeats 16000000 in
theorem endc_5 (I : EndC w p bv x lv) {rr ba t0 n0 e0 : Bool} (hkk : x.kind = 5) (hrr : regsB p [x.reg] = rr) (hba : ((x.args.length : Int) == 0) = ba) (ht0 : (x.to == 0) = t0) (hn0 : (x.next == 0) = n0) (he0 : (x.els == 0) = e0) (hE : finB p x = (rr && ba && t0 && n0 && e0)) :
    Calls Try.prog 29 #[procV p bv, finV x lv] w fun e w' => e = .returned (.bool (finB p x)) ∧ Below w.heap.size w w' := by
  obtain ⟨w2, hw2, A, hs2⟩ := EndB.of w p bv x lv
  have HS2 := Lib.hid hs2
  clear hs2
  obtain ⟨ab, cb, rfl⟩ := I.bvl
  obtain ⟨al, cl, hlv⟩ := I.args.len
  subst hlv
  have hil : (ints x.args).length = x.args.length := by simp [ints]
  have hargs := I.args
  rw [hil] at hargs A hw2 ⊢
  have HI := Lib.hid I
  have A2 := Lib.hid A
  have HW2 := Lib.hid hw2
  have HARGS := Lib.hid hargs
  have HE := Lib.hid hE
  clear I A hw2 hargs hE
  obtain ⟨kind, reg, args, xt, next, els⟩ := x
  dsimp only at *
  subst hkk
  have HHRR := Lib.hid hrr
  clear hrr
  unfold procV finV
  dsimp only
  obtain ⟨p0, p1, p2, p3, x0, x1, x2, x3, x4, x5, hl1, hl0⟩ := A2.out.cells
  dsimp only at x0 x1 x2 x3 x4 x5
  have hra0 := regs_any p (.slice ab p.blocks.length cb) ⟨_, _, _, rfl⟩ (.slice al args.length cl) args w2 (HARGS.out.below A2.out.below (Nat.le_refl _)) HI.out.few
  have HRA := Lib.hid hra0
  unfold procV at HRA
  clear hra0
  go_enter Try.func29, Try.ntmps29
  cases h6 : decide (args.length ≤ 6)
  case' true =>
    have h6i : decide ((args.length : Int) ≤ 6) = true := by rw [← h6]; rw [decide_eq_decide]; omega
    go_wp2_with fail
    rw [← HW2.out]
    with_reducible refine HRA.out.mono ?_
    rintro e w3 ⟨rfl, hb2⟩
    have A3 := Lib.hid (A2.out.more hb2)
    clear hb2 HRA p0 p1 p2 p3 x0 x1 x2 x3 x4 x5 hl0 hl1
    obtain ⟨p0, p1, p2, p3, x0, x1, x2, x3, x4, x5, hl1, hl0⟩ := A3.out.cells
    dsimp only at x0 x1 x2 x3 x4 x5
    have hc3 := blocks_any p (.slice ab p.blocks.length cb) ⟨_, _, rfl⟩ (.slice (some ⟨w3.heap.size, 0, none⟩) 1 1) [next] (w3.alloc (.cells #[.int .i64 next] 3)) (sl_one' next _) (by simp)
    have HC3 := Lib.hid hc3
    unfold procV at HC3
    clear hc3
    go_wp2_with fail
    with_reducible refine HC3.out.mono ?_
    rintro e w4 ⟨rfl, hb3⟩
    have A4 := Lib.hid (A3.out.more (below_alloc hb3))
    clear hb3 p0 p1 p2 p3 x0 x1 x2 x3 x4 x5 hl0 hl1
    obtain ⟨p0, p1, p2, p3, x0, x1, x2, x3, x4, x5, hl1, hl0⟩ := A4.out.cells
    dsimp only at x0 x1 x2 x3 x4 x5
  case' false =>
    have h6i : decide ((args.length : Int) ≤ 6) = false := by rw [← h6]; rw [decide_eq_decide]; omega
    clear HRA
    go_wp2_with fail
    rw [← HW2.out]
    have hc2 := blocks_any p (.slice ab p.blocks.length cb) ⟨_, _, rfl⟩ (.slice (some ⟨w2.heap.size, 0, none⟩) 1 1) [next] (w2.alloc (.cells #[.int .i64 next] 3)) (sl_one' next _) (by simp)
    rw [HS2.out] at hc2
    have HC2 := Lib.hid hc2
    unfold procV at HC2
    clear hc2
    go_wp2_with fail
    with_reducible refine HC2.out.mono ?_
    rintro e w4 ⟨rfl, hb2⟩
    have A4 := Lib.hid (A2.out.more (below_alloc hb2))
    clear hb2 p0 p1 p2 p3 x0 x1 x2 x3 x4 x5 hl0 hl1
    obtain ⟨p0, p1, p2, p3, x0, x1, x2, x3, x4, x5, hl1, hl0⟩ := A4.out.cells
    dsimp only at x0 x1 x2 x3 x4 x5
  all_goals
    have hc4 := regs_any p (.slice ab p.blocks.length cb) ⟨_, _, _, rfl⟩ (.slice (some ⟨w4.heap.size, 0, none⟩) 1 1) [reg] (w4.alloc (.cells #[.int .i64 reg] 3)) (sl_one' reg _) (by simp)
    rw [HHRR.out] at hc4
    have HC4 := Lib.hid hc4
    unfold procV at HC4
    clear hc4
    go_wp2_with fail
    with_reducible refine HC4.out.mono ?_
    rintro e w5 ⟨rfl, hb4⟩
    have A5 := Lib.hid (A4.out.more (below_alloc hb4))
    clear hb4 p0 p1 p2 p3 x0 x1 x2 x3 x4 x5 hl0 hl1
    obtain ⟨p0, p1, p2, p3, x0, x1, x2, x3, x4, x5, hl1, hl0⟩ := A5.out.cells
    dsimp only at x0 x1 x2 x3 x4 x5
    cases rr
    · go_wp2_with fail
      go_ret
      rw [HE.out]
      exact ⟨by first | rfl | (simp [h6]; done) | (simp; done), A5.out.below⟩
    · cases ba
      · go_wp2_with fail
        go_ret
        rw [HE.out]
        exact ⟨by first | rfl | (simp [h6]; done) | (simp; done), A5.out.below⟩
      · cases t0
        · go_wp2_with fail
          go_ret
          rw [HE.out]
          exact ⟨by first | rfl | (simp [h6]; done) | (simp; done), A5.out.below⟩
        · cases n0
          · go_wp2_with fail
            go_ret
            rw [HE.out]
            exact ⟨by first | rfl | (simp [h6]; done) | (simp; done), A5.out.below⟩
          · go_wp2_with fail
            go_ret
            rw [HE.out]
            exact ⟨by first | rfl | (simp [h6]; done) | (simp; done), A5.out.below⟩
set_option maxHeartbeats 16000000 in
theorem endc_3 (I : EndC w p bv x lv) {rr ra t0 n0 e0 : Bool} (hkk : x.kind = 3) (hrr : regsB p [x.reg] = rr) (hra : regsB p x.args = ra) (ht0 : (x.to == 0) = t0) (hn0 : (x.next == 0) = n0) (he0 : (x.els == 0) = e0) (hE : finB p x = (rr && (decide (x.args.length ≤ 6) && ra) && t0 && n0 && e0)) :
    Calls Try.prog 29 #[procV p bv, finV x lv] w fun e w' => e = .returned (.bool (finB p x)) ∧ Below w.heap.size w w' := by
  obtain ⟨w2, hw2, A, hs2⟩ := EndB.of w p bv x lv
  have HS2 := Lib.hid hs2
  clear hs2
  obtain ⟨ab, cb, rfl⟩ := I.bvl
  obtain ⟨al, cl, hlv⟩ := I.args.len
  subst hlv
  have hil : (ints x.args).length = x.args.length := by simp [ints]
  have hargs := I.args
  rw [hil] at hargs A hw2 ⊢
  have HI := Lib.hid I
  have A2 := Lib.hid A
  have HW2 := Lib.hid hw2
  have HARGS := Lib.hid hargs
  have HE := Lib.hid hE
  clear I A hw2 hargs hE
  obtain ⟨kind, reg, args, xt, next, els⟩ := x
  dsimp only at *
  subst hkk
  have HHRR := Lib.hid hrr
  clear hrr
  have HHRA := Lib.hid hra
  clear hra
  unfold procV finV
  dsimp only
  obtain ⟨p0, p1, p2, p3, x0, x1, x2, x3, x4, x5, hl1, hl0⟩ := A2.out.cells
  dsimp only at x0 x1 x2 x3 x4 x5
  have hra0 := regs_any p (.slice ab p.blocks.length cb) ⟨_, _, _, rfl⟩ (.slice al args.length cl) args w2 (HARGS.out.below A2.out.below (Nat.le_refl _)) HI.out.few
  rw [HHRA.out] at hra0
  have HRA := Lib.hid hra0
  unfold procV at HRA
  clear hra0
  go_enter Try.func29, Try.ntmps29
  cases h6 : decide (args.length ≤ 6)
  case' true =>
    have h6i : decide ((args.length : Int) ≤ 6) = true := by rw [← h6]; rw [decide_eq_decide]; omega
    go_wp2_with fail
    rw [← HW2.out]
    with_reducible refine HRA.out.mono ?_
    rintro e w3 ⟨rfl, hb2⟩
    have A3 := Lib.hid (A2.out.more hb2)
    clear hb2 HRA p0 p1 p2 p3 x0 x1 x2 x3 x4 x5 hl0 hl1
    obtain ⟨p0, p1, p2, p3, x0, x1, x2, x3, x4, x5, hl1, hl0⟩ := A3.out.cells
    dsimp only at x0 x1 x2 x3 x4 x5
    have hc3 := blocks_any p (.slice ab p.blocks.length cb) ⟨_, _, rfl⟩ (.slice (some ⟨w3.heap.size, 0, none⟩) 1 1) [next] (w3.alloc (.cells #[.int .i64 next] 3)) (sl_one' next _) (by simp)
    have HC3 := Lib.hid hc3
    unfold procV at HC3
    clear hc3
    go_wp2_with fail
    with_reducible refine HC3.out.mono ?_
    rintro e w4 ⟨rfl, hb3⟩
    have A4 := Lib.hid (A3.out.more (below_alloc hb3))
    clear hb3 p0 p1 p2 p3 x0 x1 x2 x3 x4 x5 hl0 hl1
    obtain ⟨p0, p1, p2, p3, x0, x1, x2, x3, x4, x5, hl1, hl0⟩ := A4.out.cells
    dsimp only at x0 x1 x2 x3 x4 x5
  case' false =>
    have h6i : decide ((args.length : Int) ≤ 6) = false := by rw [← h6]; rw [decide_eq_decide]; omega
    clear HRA
    go_wp2_with fail
    rw [← HW2.out]
    have hc2 := blocks_any p (.slice ab p.blocks.length cb) ⟨_, _, rfl⟩ (.slice (some ⟨w2.heap.size, 0, none⟩) 1 1) [next] (w2.alloc (.cells #[.int .i64 next] 3)) (sl_one' next _) (by simp)
    rw [HS2.out] at hc2
    have HC2 := Lib.hid hc2
    unfold procV at HC2
    clear hc2
    go_wp2_with fail
    with_reducible refine HC2.out.mono ?_
    rintro e w4 ⟨rfl, hb2⟩
    have A4 := Lib.hid (A2.out.more (below_alloc hb2))
    clear hb2 p0 p1 p2 p3 x0 x1 x2 x3 x4 x5 hl0 hl1
    obtain ⟨p0, p1, p2, p3, x0, x1, x2, x3, x4, x5, hl1, hl0⟩ := A4.out.cells
    dsimp only at x0 x1 x2 x3 x4 x5
  all_goals
    have hc4 := regs_any p (.slice ab p.blocks.length cb) ⟨_, _, _, rfl⟩ (.slice (some ⟨w4.heap.size, 0, none⟩) 1 1) [reg] (w4.alloc (.cells #[.int .i64 reg] 3)) (sl_one' reg _) (by simp)
    rw [HHRR.out] at hc4
    have HC4 := Lib.hid hc4
    unfold procV at HC4
    clear hc4
    go_wp2_with fail
    with_reducible refine HC4.out.mono ?_
    rintro e w5 ⟨rfl, hb4⟩
    have A5 := Lib.hid (A4.out.more (below_alloc hb4))
    clear hb4 p0 p1 p2 p3 x0 x1 x2 x3 x4 x5 hl0 hl1
    obtain ⟨p0, p1, p2, p3, x0, x1, x2, x3, x4, x5, hl1, hl0⟩ := A5.out.cells
    dsimp only at x0 x1 x2 x3 x4 x5
    cases rr
    · go_wp2_with fail
      go_ret
      rw [HE.out]
      exact ⟨by first | rfl | (simp [h6]; done) | (simp; done), A5.out.below⟩
    · cases ra
      · go_wp2_with fail
        go_ret
        rw [HE.out]
        exact ⟨by first | rfl | (simp [h6]; done) | (simp; done), A5.out.below⟩
      · cases t0
        · go_wp2_with fail
          go_ret
          rw [HE.out]
          exact ⟨by first | rfl | (simp [h6]; done) | (simp; done), A5.out.below⟩
        · cases n0
          · go_wp2_with fail
            go_ret
            rw [HE.out]
            exact ⟨by first | rfl | (simp [h6]; done) | (simp; done), A5.out.below⟩
          · go_wp2_with fail
            go_ret
            rw [HE.out]
            exact ⟨by first | rfl | (simp [h6]; done) | (simp; done), A5.out.below⟩
set_option maxHeartbeats 16000000 in
theorem endc_4 (I : EndC w p bv x lv) {rr ra nx e0 : Bool} (hkk : x.kind = 4) (hrr : regsB p [x.reg, x.to] = rr) (hra : regsB p x.args = ra) (hnx : List.all [x.next] (blockB p) = nx) (he0 : (x.els == 0) = e0) (hE : finB p x = (rr && (decide (x.args.length ≤ 6) && ra) && nx && e0)) :
    Calls Try.prog 29 #[procV p bv, finV x lv] w fun e w' => e = .returned (.bool (finB p x)) ∧ Below w.heap.size w w' := by
  obtain ⟨w2, hw2, A, hs2⟩ := EndB.of w p bv x lv
  have HS2 := Lib.hid hs2
  clear hs2
  obtain ⟨ab, cb, rfl⟩ := I.bvl
  obtain ⟨al, cl, hlv⟩ := I.args.len
  subst hlv
  have hil : (ints x.args).length = x.args.length := by simp [ints]
  have hargs := I.args
  rw [hil] at hargs A hw2 ⊢
  have HI := Lib.hid I
  have A2 := Lib.hid A
  have HW2 := Lib.hid hw2
  have HARGS := Lib.hid hargs
  have HE := Lib.hid hE
  clear I A hw2 hargs hE
  obtain ⟨kind, reg, args, xt, next, els⟩ := x
  dsimp only at *
  subst hkk
  have HHNX := Lib.hid hnx
  clear hnx
  have HHRR := Lib.hid hrr
  clear hrr
  have HHRA := Lib.hid hra
  clear hra
  unfold procV finV
  dsimp only
  obtain ⟨p0, p1, p2, p3, x0, x1, x2, x3, x4, x5, hl1, hl0⟩ := A2.out.cells
  dsimp only at x0 x1 x2 x3 x4 x5
  have hra0 := regs_any p (.slice ab p.blocks.length cb) ⟨_, _, _, rfl⟩ (.slice al args.length cl) args w2 (HARGS.out.below A2.out.below (Nat.le_refl _)) HI.out.few
  rw [HHRA.out] at hra0
  have HRA := Lib.hid hra0
  unfold procV at HRA
  clear hra0
  go_enter Try.func29, Try.ntmps29
  cases h6 : decide (args.length ≤ 6)
  case' true =>
    have h6i : decide ((args.length : Int) ≤ 6) = true := by rw [← h6]; rw [decide_eq_decide]; omega
    go_wp2_with fail
    rw [← HW2.out]
    with_reducible refine HRA.out.mono ?_
    rintro e w3 ⟨rfl, hb2⟩
    have A3 := Lib.hid (A2.out.more hb2)
    clear hb2 HRA p0 p1 p2 p3 x0 x1 x2 x3 x4 x5 hl0 hl1
    obtain ⟨p0, p1, p2, p3, x0, x1, x2, x3, x4, x5, hl1, hl0⟩ := A3.out.cells
    dsimp only at x0 x1 x2 x3 x4 x5
    have hc3 := blocks_any p (.slice ab p.blocks.length cb) ⟨_, _, rfl⟩ (.slice (some ⟨w3.heap.size, 0, none⟩) 1 1) [next] (w3.alloc (.cells #[.int .i64 next] 3)) (sl_one' next _) (by simp)
    rw [HHNX.out] at hc3
    have HC3 := Lib.hid hc3
    unfold procV at HC3
    clear hc3
    go_wp2_with fail
    with_reducible refine HC3.out.mono ?_
    rintro e w4 ⟨rfl, hb3⟩
    have A4 := Lib.hid (A3.out.more (below_alloc hb3))
    clear hb3 p0 p1 p2 p3 x0 x1 x2 x3 x4 x5 hl0 hl1
    obtain ⟨p0, p1, p2, p3, x0, x1, x2, x3, x4, x5, hl1, hl0⟩ := A4.out.cells
    dsimp only at x0 x1 x2 x3 x4 x5
  case' false =>
    have h6i : decide ((args.length : Int) ≤ 6) = false := by rw [← h6]; rw [decide_eq_decide]; omega
    clear HRA
    go_wp2_with fail
    rw [← HW2.out]
    have hc2 := blocks_any p (.slice ab p.blocks.length cb) ⟨_, _, rfl⟩ (.slice (some ⟨w2.heap.size, 0, none⟩) 1 1) [next] (w2.alloc (.cells #[.int .i64 next] 3)) (sl_one' next _) (by simp)
    rw [HS2.out] at hc2
    rw [HHNX.out] at hc2
    have HC2 := Lib.hid hc2
    unfold procV at HC2
    clear hc2
    go_wp2_with fail
    with_reducible refine HC2.out.mono ?_
    rintro e w4 ⟨rfl, hb2⟩
    have A4 := Lib.hid (A2.out.more (below_alloc hb2))
    clear hb2 p0 p1 p2 p3 x0 x1 x2 x3 x4 x5 hl0 hl1
    obtain ⟨p0, p1, p2, p3, x0, x1, x2, x3, x4, x5, hl1, hl0⟩ := A4.out.cells
    dsimp only at x0 x1 x2 x3 x4 x5
  all_goals
    have hc4 := regs_any p (.slice ab p.blocks.length cb) ⟨_, _, _, rfl⟩ (.slice (some ⟨w4.heap.size, 0, none⟩) 2 2) [reg, xt] (w4.alloc (.cells #[.int .i64 reg, .int .i64 xt] 3)) (sl_two' reg xt _) (by simp)
    rw [HHRR.out] at hc4
    have HC4 := Lib.hid hc4
    unfold procV at HC4
    clear hc4
    go_wp2_with fail
    with_reducible refine HC4.out.mono ?_
    rintro e w5 ⟨rfl, hb4⟩
    have A5 := Lib.hid (A4.out.more (below_alloc hb4))
    clear hb4 p0 p1 p2 p3 x0 x1 x2 x3 x4 x5 hl0 hl1
    obtain ⟨p0, p1, p2, p3, x0, x1, x2, x3, x4, x5, hl1, hl0⟩ := A5.out.cells
    dsimp only at x0 x1 x2 x3 x4 x5
    cases rr
    · go_wp2_with fail
      go_ret
      rw [HE.out]
      exact ⟨by first | rfl | (simp [h6]; done) | (simp; done), A5.out.below⟩
    · cases ra
      · go_wp2_with fail
        go_ret
        rw [HE.out]
        exact ⟨by first | rfl | (simp [h6]; done) | (simp; done), A5.out.below⟩
      · cases nx
        · go_wp2_with fail
          go_ret
          rw [HE.out]
          exact ⟨by first | rfl | (simp [h6]; done) | (simp; done), A5.out.below⟩
        · go_wp2_with fail
          go_ret
          rw [HE.out]
          exact ⟨by first | rfl | (simp [h6]; done) | (simp; done), A5.out.below⟩
set_option maxHeartbeats 16000000 in
theorem endc_6 (I : EndC w p bv x lv) {rr ba nx e0 : Bool} (hkk : x.kind = 6) (hrr : regsB p [x.reg, x.to] = rr) (hba : ((x.args.length : Int) == 0) = ba) (hnx : List.all [x.next] (blockB p) = nx) (he0 : (x.els == 0) = e0) (hE : finB p x = (rr && ba && nx && e0)) :
    Calls Try.prog 29 #[procV p bv, finV x lv] w fun e w' => e = .returned (.bool (finB p x)) ∧ Below w.heap.size w w' := by
  obtain ⟨w2, hw2, A, hs2⟩ := EndB.of w p bv x lv
  have HS2 := Lib.hid hs2
  clear hs2
  obtain ⟨ab, cb, rfl⟩ := I.bvl
  obtain ⟨al, cl, hlv⟩ := I.args.len
  subst hlv
  have hil : (ints x.args).length = x.args.length := by simp [ints]
  have hargs := I.args
  rw [hil] at hargs A hw2 ⊢
  have HI := Lib.hid I
  have A2 := Lib.hid A
  have HW2 := Lib.hid hw2
  have HARGS := Lib.hid hargs
  have HE := Lib.hid hE
  clear I A hw2 hargs hE
  obtain ⟨kind, reg, args, xt, next, els⟩ := x
  dsimp only at *
  subst hkk
  have HHNX := Lib.hid hnx
  clear hnx
  have HHRR := Lib.hid hrr
  clear hrr
  unfold procV finV
  dsimp only
  obtain ⟨p0, p1, p2, p3, x0, x1, x2, x3, x4, x5, hl1, hl0⟩ := A2.out.cells
  dsimp only at x0 x1 x2 x3 x4 x5
  have hra0 := regs_any p (.slice ab p.blocks.length cb) ⟨_, _, _, rfl⟩ (.slice al args.length cl) args w2 (HARGS.out.below A2.out.below (Nat.le_refl _)) HI.out.few
  have HRA := Lib.hid hra0
  unfold procV at HRA
  clear hra0
  go_enter Try.func29, Try.ntmps29
  cases h6 : decide (args.length ≤ 6)
  case' true =>
    have h6i : decide ((args.length : Int) ≤ 6) = true := by rw [← h6]; rw [decide_eq_decide]; omega
    go_wp2_with fail
    rw [← HW2.out]
    with_reducible refine HRA.out.mono ?_
    rintro e w3 ⟨rfl, hb2⟩
    have A3 := Lib.hid (A2.out.more hb2)
    clear hb2 HRA p0 p1 p2 p3 x0 x1 x2 x3 x4 x5 hl0 hl1
    obtain ⟨p0, p1, p2, p3, x0, x1, x2, x3, x4, x5, hl1, hl0⟩ := A3.out.cells
    dsimp only at x0 x1 x2 x3 x4 x5
    have hc3 := blocks_any p (.slice ab p.blocks.length cb) ⟨_, _, rfl⟩ (.slice (some ⟨w3.heap.size, 0, none⟩) 1 1) [next] (w3.alloc (.cells #[.int .i64 next] 3)) (sl_one' next _) (by simp)
    rw [HHNX.out] at hc3
    have HC3 := Lib.hid hc3
    unfold procV at HC3
    clear hc3
    go_wp2_with fail
    with_reducible refine HC3.out.mono ?_
    rintro e w4 ⟨rfl, hb3⟩
    have A4 := Lib.hid (A3.out.more (below_alloc hb3))
    clear hb3 p0 p1 p2 p3 x0 x1 x2 x3 x4 x5 hl0 hl1
    obtain ⟨p0, p1, p2, p3, x0, x1, x2, x3, x4, x5, hl1, hl0⟩ := A4.out.cells
    dsimp only at x0 x1 x2 x3 x4 x5
  case' false =>
    have h6i : decide ((args.length : Int) ≤ 6) = false := by rw [← h6]; rw [decide_eq_decide]; omega
    clear HRA
    go_wp2_with fail
    rw [← HW2.out]
    have hc2 := blocks_any p (.slice ab p.blocks.length cb) ⟨_, _, rfl⟩ (.slice (some ⟨w2.heap.size, 0, none⟩) 1 1) [next] (w2.alloc (.cells #[.int .i64 next] 3)) (sl_one' next _) (by simp)
    rw [HS2.out] at hc2
    rw [HHNX.out] at hc2
    have HC2 := Lib.hid hc2
    unfold procV at HC2
    clear hc2
    go_wp2_with fail
    with_reducible refine HC2.out.mono ?_
    rintro e w4 ⟨rfl, hb2⟩
    have A4 := Lib.hid (A2.out.more (below_alloc hb2))
    clear hb2 p0 p1 p2 p3 x0 x1 x2 x3 x4 x5 hl0 hl1
    obtain ⟨p0, p1, p2, p3, x0, x1, x2, x3, x4, x5, hl1, hl0⟩ := A4.out.cells
    dsimp only at x0 x1 x2 x3 x4 x5
  all_goals
    have hc4 := regs_any p (.slice ab p.blocks.length cb) ⟨_, _, _, rfl⟩ (.slice (some ⟨w4.heap.size, 0, none⟩) 2 2) [reg, xt] (w4.alloc (.cells #[.int .i64 reg, .int .i64 xt] 3)) (sl_two' reg xt _) (by simp)
    rw [HHRR.out] at hc4
    have HC4 := Lib.hid hc4
    unfold procV at HC4
    clear hc4
    go_wp2_with fail
    with_reducible refine HC4.out.mono ?_
    rintro e w5 ⟨rfl, hb4⟩
    have A5 := Lib.hid (A4.out.more (below_alloc hb4))
    clear hb4 p0 p1 p2 p3 x0 x1 x2 x3 x4 x5 hl0 hl1
    obtain ⟨p0, p1, p2, p3, x0, x1, x2, x3, x4, x5, hl1, hl0⟩ := A5.out.cells
    dsimp only at x0 x1 x2 x3 x4 x5
    cases rr
    · go_wp2_with fail
      go_ret
      rw [HE.out]
      exact ⟨by first | rfl | (simp [h6]; done) | (simp; done), A5.out.below⟩
    · cases ba
      · go_wp2_with fail
        go_ret
        rw [HE.out]
        exact ⟨by first | rfl | (simp [h6]; done) | (simp; done), A5.out.below⟩
      · cases nx
        · go_wp2_with fail
          go_ret
          rw [HE.out]
          exact ⟨by first | rfl | (simp [h6]; done) | (simp; done), A5.out.below⟩
        · go_wp2_with fail
          go_ret
          rw [HE.out]
          exact ⟨by first | rfl | (simp [h6]; done) | (simp; done), A5.out.below⟩
set_option maxHeartbeats 16000000 in
theorem endc_no (I : EndC w p bv x lv) (hk0 : (x.kind == 0) = false) (hk1 : (x.kind == 1) = false) (hk2 : (x.kind == 2) = false) (hk3 : (x.kind == 3) = false) (hk4 : (x.kind == 4) = false) (hk5 : (x.kind == 5) = false) (hk6 : (x.kind == 6) = false) (hE : finB p x = false) :
    Calls Try.prog 29 #[procV p bv, finV x lv] w fun e w' => e = .returned (.bool (finB p x)) ∧ Below w.heap.size w w' := by
  obtain ⟨w2, hw2, A, hs2⟩ := EndB.of w p bv x lv
  have HS2 := Lib.hid hs2
  clear hs2
  obtain ⟨ab, cb, rfl⟩ := I.bvl
  obtain ⟨al, cl, hlv⟩ := I.args.len
  subst hlv
  have hil : (ints x.args).length = x.args.length := by simp [ints]
  have hargs := I.args
  rw [hil] at hargs A hw2 ⊢
  have HI := Lib.hid I
  have A2 := Lib.hid A
  have HW2 := Lib.hid hw2
  have HARGS := Lib.hid hargs
  have HE := Lib.hid hE
  clear I A hw2 hargs hE
  obtain ⟨kind, reg, args, xt, next, els⟩ := x
  dsimp only at *
  unfold procV finV
  dsimp only
  obtain ⟨p0, p1, p2, p3, x0, x1, x2, x3, x4, x5, hl1, hl0⟩ := A2.out.cells
  dsimp only at x0 x1 x2 x3 x4 x5
  have hra0 := regs_any p (.slice ab p.blocks.length cb) ⟨_, _, _, rfl⟩ (.slice al args.length cl) args w2 (HARGS.out.below A2.out.below (Nat.le_refl _)) HI.out.few
  have HRA := Lib.hid hra0
  unfold procV at HRA
  clear hra0
  go_enter Try.func29, Try.ntmps29
  cases h6 : decide (args.length ≤ 6)
  case' true =>
    have h6i : decide ((args.length : Int) ≤ 6) = true := by rw [← h6]; rw [decide_eq_decide]; omega
    go_wp2_with fail
    rw [← HW2.out]
    with_reducible refine HRA.out.mono ?_
    rintro e w3 ⟨rfl, hb2⟩
    have A3 := Lib.hid (A2.out.more hb2)
    clear hb2 HRA p0 p1 p2 p3 x0 x1 x2 x3 x4 x5 hl0 hl1
    obtain ⟨p0, p1, p2, p3, x0, x1, x2, x3, x4, x5, hl1, hl0⟩ := A3.out.cells
    dsimp only at x0 x1 x2 x3 x4 x5
    have hc3 := blocks_any p (.slice ab p.blocks.length cb) ⟨_, _, rfl⟩ (.slice (some ⟨w3.heap.size, 0, none⟩) 1 1) [next] (w3.alloc (.cells #[.int .i64 next] 3)) (sl_one' next _) (by simp)
    have HC3 := Lib.hid hc3
    unfold procV at HC3
    clear hc3
    go_wp2_with fail
    with_reducible refine HC3.out.mono ?_
    rintro e w4 ⟨rfl, hb3⟩
    have A4 := Lib.hid (A3.out.more (below_alloc hb3))
    clear hb3 p0 p1 p2 p3 x0 x1 x2 x3 x4 x5 hl0 hl1
    obtain ⟨p0, p1, p2, p3, x0, x1, x2, x3, x4, x5, hl1, hl0⟩ := A4.out.cells
    dsimp only at x0 x1 x2 x3 x4 x5
  case' false =>
    have h6i : decide ((args.length : Int) ≤ 6) = false := by rw [← h6]; rw [decide_eq_decide]; omega
    clear HRA
    go_wp2_with fail
    rw [← HW2.out]
    have hc2 := blocks_any p (.slice ab p.blocks.length cb) ⟨_, _, rfl⟩ (.slice (some ⟨w2.heap.size, 0, none⟩) 1 1) [next] (w2.alloc (.cells #[.int .i64 next] 3)) (sl_one' next _) (by simp)
    rw [HS2.out] at hc2
    have HC2 := Lib.hid hc2
    unfold procV at HC2
    clear hc2
    go_wp2_with fail
    with_reducible refine HC2.out.mono ?_
    rintro e w4 ⟨rfl, hb2⟩
    have A4 := Lib.hid (A2.out.more (below_alloc hb2))
    clear hb2 p0 p1 p2 p3 x0 x1 x2 x3 x4 x5 hl0 hl1
    obtain ⟨p0, p1, p2, p3, x0, x1, x2, x3, x4, x5, hl1, hl0⟩ := A4.out.cells
    dsimp only at x0 x1 x2 x3 x4 x5
  all_goals
    go_wp2_with fail
    go_ret
    rw [HE.out]
    exact ⟨by first | rfl | (simp [h6]; done) | (simp; done), A4.out.below⟩
theorem endc_any (I : EndC w p bv x lv) : Calls Try.prog 29 #[procV p bv, finV x lv] w fun e w' => e = .returned (.bool (finB p x)) ∧ Below w.heap.size w w' := by
  by_cases k0 : x.kind = 0
  · exact endc_0 I k0 rfl rfl rfl rfl rfl (by unfold finB; rw [if_pos k0, len_dec, all1]; rfl)
  by_cases k1 : x.kind = 1
  · exact endc_1 I k1 rfl rfl rfl rfl rfl (by unfold finB; rw [if_neg k0, if_pos k1, len_dec, all1, all1]; rfl)
  by_cases k25 : x.kind = 2 ∨ x.kind = 5
  · rcases k25 with k2 | k2
    · exact endc_2 I k2 rfl rfl rfl rfl rfl (by unfold finB; rw [if_neg k0, if_neg k1, if_pos (.inl k2), len_dec]; rfl)
    · exact endc_5 I k2 rfl rfl rfl rfl rfl (by unfold finB; rw [if_neg k0, if_neg k1, if_pos (.inr k2), len_dec]; rfl)
  by_cases k3 : x.kind = 3
  · exact endc_3 I k3 rfl rfl rfl rfl rfl (by unfold finB; rw [if_neg k0, if_neg k1, if_neg k25, if_pos k3]; rfl)
  by_cases k4 : x.kind = 4
  · exact endc_4 I k4 rfl rfl rfl rfl (by unfold finB; rw [if_neg k0, if_neg k1, if_neg k25, if_neg k3, if_pos k4, all1]; rfl)
  by_cases k6 : x.kind = 6
  · exact endc_6 I k6 rfl rfl rfl rfl (by unfold finB; rw [if_neg k0, if_neg k1, if_neg k25, if_neg k3, if_neg k4, if_pos k6, len_dec, all1]; rfl)
  have k2 : x.kind ≠ 2 := fun e => k25 (.inl e)
  have k5 : x.kind ≠ 5 := fun e => k25 (.inr e)
  exact endc_no I (beq_eq_false_iff_ne.2 k0) (beq_eq_false_iff_ne.2 k1) (beq_eq_false_iff_ne.2 k2) (beq_eq_false_iff_ne.2 k3) (beq_eq_false_iff_ne.2 k4) (beq_eq_false_iff_ne.2 k5) (beq_eq_false_iff_ne.2 k6) (by unfold finB; rw [if_neg k0, if_neg k1, if_neg k25, if_neg k3, if_neg k4, if_neg k6])
end
end Vm
end Go.Proofs.Ytalfnaielhbocaa
namespace Go.Proofs.Ytalfnaielhbocaa
open Go.RowKit
set_option linter.unusedVariables false
set_option linter.unusedSimpArgs false
set_option maxRecDepth 100000
namespace Vm
section
variable {w : World} {bv lv : Value} {p : Prc} {x : Fin}
theorem regs_two (p : Prc) (a b : Int) : regsB p [a, b] = (regsB p [a] && regsB p [b]) := by simp [regsB]
set_option maxHeartbeats 32000000 in
theorem rend_any (I : EndC w p bv x lv) : Calls Try.prog 20 #[procV p bv, finV x lv] w fun e w' => e = .returned (.bool (finB p x)) ∧ Below w.heap.size w w' := by
  obtain ⟨w2, hw2, A, hs2⟩ := EndB.of w p bv x lv
  obtain ⟨ab, cb, rfl⟩ := I.bvl
  obtain ⟨al, cl, hlv⟩ := I.args.len
  subst hlv
  have hil : (ints x.args).length = x.args.length := by simp [ints]
  have hargs := I.args
  rw [hil] at hargs A hw2 ⊢
  have HI := Lib.hid I
  have A2 := Lib.hid A
  have HW2 := Lib.hid hw2
  obtain ⟨p0, p1, p2, p3, x0, x1, x2, x3, x4, x5, hl1, hl0⟩ := A.cells
  obtain ⟨kind, reg, args, xt, next, els⟩ := x
  dsimp only at *
  have HRT : Hid (∀ (n : Int) (w1 : World), Calls Try.prog 30 #[procV p (.slice ab p.blocks.length cb), .slice (some ⟨w1.heap.size, 0, none⟩) 1 1] (w1.alloc (.cells #[.int .i64 n] 3)) fun e w' => e = .returned (.bool (regsB p [n])) ∧ Below w1.heap.size w1 w') := fun n w1 => by
    refine (r15regs_any p (.slice ab p.blocks.length cb) ⟨_, _, _, rfl⟩ (.slice (some ⟨w1.heap.size, 0, none⟩) 1 1) [n] (w1.alloc (.cells #[.int .i64 n] 3)) (sl_one' n _) (by simp)).mono ?_
    rintro e w' ⟨rfl, hb⟩
    exact ⟨rfl, below_alloc hb⟩
  have HRA : Hid (∀ w1 : World, Below w.heap.size w w1 → Calls Try.prog 30 #[procV p (.slice ab p.blocks.length cb), .slice al args.length cl] w1 fun e w' => e = .returned (.bool (regsB p args)) ∧ Below w1.heap.size w1 w') := fun w1 hb => r15regs_any p (.slice ab p.blocks.length cb) ⟨_, _, _, rfl⟩ (.slice al args.length cl) args w1 (hargs.below hb (Nat.le_refl _)) HI.out.few
  unfold procV at HRA HRT
  obtain ⟨ra, hra⟩ : ∃ b, regsB p args = b := ⟨_, rfl⟩
  obtain ⟨rb, hrb⟩ : ∃ b, regsB p [reg] = b := ⟨_, rfl⟩
  obtain ⟨tb, htb⟩ : ∃ b, regsB p [xt] = b := ⟨_, rfl⟩
  obtain ⟨nb, hnb⟩ : ∃ b, ((args.length : Int) == 0) = b := ⟨_, rfl⟩
  have HRB := Lib.hid hrb
  have HTB := Lib.hid htb
  have HRAE := Lib.hid hra
  have HNB := Lib.hid hnb
  rw [hra] at HRA
  have HRTR := HRT.out reg
  have HRTT := HRT.out xt
  rw [hrb] at HRTR
  rw [htb] at HRTT
  have hr2 := HRTR w2
  rw [hs2] at hr2
  have HRTR := Lib.hid hr2
  have HS2 := Lib.hid hs2
  clear hr2 hs2
  have HRTT := Lib.hid HRTT
  clear I A hw2 hargs hil hra hrb htb HRT
  unfold procV finV
  dsimp only
  go_enter Try.func20, Try.ntmps20
  go_wp2_with fail
  rw [← HW2.out]
  with_reducible refine HRTR.out.mono ?_
  rintro e w3 ⟨rfl, hb3⟩
  rw [← HS2.out] at hb3
  have A3 := Lib.hid (A2.out.more hb3)
  clear hb3 p0 p1 p2 p3 x0 x1 x2 x3 x4 x5 hl0 hl1
  obtain ⟨p0, p1, p2, p3, x0, x1, x2, x3, x4, x5, hl1, hl0⟩ := A3.out.cells
  dsimp only at x0 x1 x2 x3 x4 x5
  go_wp2_with fail
  with_reducible refine (HRTT.out w3).mono ?_
  rintro e w4 ⟨rfl, hb4⟩
  have A4 := Lib.hid (A3.out.more hb4)
  clear hb4 p0 p1 p2 p3 x0 x1 x2 x3 x4 x5 hl0 hl1
  obtain ⟨p0, p1, p2, p3, x0, x1, x2, x3, x4, x5, hl1, hl0⟩ := A4.out.cells
  dsimp only at x0 x1 x2 x3 x4 x5
  go_upto_region 3 with fail
  go_cut [7] (fun s7 wx => s7 = .bool (ra && decide ((args.length : Int) ≤ 6)) ∧ Hid (EndB w wx p (.slice ab p.blocks.length cb) ⟨kind, reg, args, xt, next, els⟩ (.slice al args.length cl)))
  case first =>
    have HRA4 := Lib.hid (HRA.out w4 A4.out.below)
    go_wp2_with fail
    with_reducible refine HRA4.out.mono ?_
    rintro e w5 ⟨rfl, hb5⟩
    have A5 := Lib.hid (A4.out.more hb5)
    clear hb5 p0 p1 p2 p3 x0 x1 x2 x3 x4 x5 hl0 hl1
    obtain ⟨p0, p1, p2, p3, x0, x1, x2, x3, x4, x5, hl1, hl0⟩ := A5.out.cells
    dsimp only at x0 x1 x2 x3 x4 x5
    cases ra
    · go_wp2_with fail
      go_meet
      exact ⟨by first | rfl | simp, A5.out⟩
    · go_wp2_with fail
      go_meet
      exact ⟨by first | rfl | simp, A5.out⟩
  case rest =>
    obtain ⟨rfl, A5⟩ := hcut
    clear p0 p1 p2 p3 x0 x1 x2 x3 x4 x5 hl0 hl1
    obtain ⟨p0, p1, p2, p3, x0, x1, x2, x3, x4, x5, hl1, hl0⟩ := A5.out.cells
    dsimp only at x0 x1 x2 x3 x4 x5
    obtain ⟨qa, hqa⟩ : ∃ b, (ra && decide ((args.length : Int) ≤ 6)) = b := ⟨_, rfl⟩
    rw [hqa]
    have HQA := Lib.hid hqa
    clear hqa
    go_upto_region 5 with fail
    clear hnb
    go_cut [9] (fun s9 wx => s9 = .bool (blockB p next) ∧ wx = wc)
    case first =>
      cases hn : decide (0 ≤ next)
      · go_wp2_with fail
        go_meet
        exact ⟨by unfold blockB; rw [hn]; rfl, rfl⟩
      · go_wp2_with fail
        go_meet
        exact ⟨by unfold blockB; rw [hn]; rfl, rfl⟩
    case rest =>
      obtain ⟨rfl, rfl⟩ := hcut
      go_upto_region 6 with fail
      go_cut [10] (fun s10 wx => s10 = .bool (blockB p els) ∧ wx = wc)
      case first =>
        cases hn : decide (0 ≤ els)
        · go_wp2_with fail
          go_meet
          exact ⟨by unfold blockB; rw [hn]; rfl, rfl⟩
        · go_wp2_with fail
          go_meet
          exact ⟨by unfold blockB; rw [hn]; rfl, rfl⟩
      case rest =>
        obtain ⟨rfl, rfl⟩ := hcut
        obtain ⟨nx, hnx⟩ : ∃ b, blockB p next = b := ⟨_, rfl⟩
        obtain ⟨ox, hox⟩ : ∃ b, blockB p els = b := ⟨_, rfl⟩
        rw [hnx, hox]
        have HNX := Lib.hid hnx
        have HOX := Lib.hid hox
        obtain ⟨r0, hr0⟩ : ∃ b, (reg == 0) = b := ⟨_, rfl⟩
        obtain ⟨t0, ht0⟩ : ∃ b, (xt == 0) = b := ⟨_, rfl⟩
        obtain ⟨n0, hn0⟩ : ∃ b, (next == 0) = b := ⟨_, rfl⟩
        obtain ⟨e0, he0⟩ : ∃ b, (els == 0) = b := ⟨_, rfl⟩
        have HX := Lib.hid (And.intro hr0 (And.intro ht0 (And.intro hn0 he0)))
        have d1 : decide (args.length = 0) = nb := by rw [len_dec]; exact HNB.out
        have d2 : decide (args.length ≤ 6) = decide ((args.length : Int) ≤ 6) := by rw [decide_eq_decide]; omega
        have d3 : decide (reg = 0) = r0 := hr0
        have d4 : decide (xt = 0) = t0 := ht0
        have d5 : decide (next = 0) = n0 := hn0
        have d6 : decide (els = 0) = e0 := he0
        have hE : finB p ⟨kind, reg, args, xt, next, els⟩ = if kind = 0 then nx && nb && r0 && t0 && e0 else if kind = 1 then nx && ox && nb && rb && t0 else if kind = 2 ∨ kind = 5 then rb && nb && t0 && n0 && e0 else if kind = 3 then rb && qa && t0 && n0 && e0 else if kind = 4 then rb && qa && tb && nx && e0 else if kind = 6 then rb && nb && tb && nx && e0 else false := by
          unfold finB
          dsimp only
          rw [regs_two, HRB.out, HTB.out, HRAE.out, hnx, hox, d1, d2, d3, d4, d5, d6, ← HQA.out]
          congr 1
          congr 1
          · cases nx <;> cases ox <;> cases nb <;> cases rb <;> cases t0 <;> rfl
          · congr 1
            congr 1
            · cases rb <;> cases ra <;> cases t0 <;> cases n0 <;> cases e0 <;> cases decide ((args.length : Int) ≤ 6) <;> rfl
            · congr 1
              · cases rb <;> cases ra <;> cases tb <;> cases nx <;> cases e0 <;> cases decide ((args.length : Int) ≤ 6) <;> rfl
              · congr 1
                cases rb <;> cases nb <;> cases tb <;> cases nx <;> cases e0 <;> rfl
        have HE := Lib.hid hE
        clear hE d1 d2 d3 d4 d5 d6 hnx hox HX
        by_cases k0 : kind = 0
        · subst k0
          cases nx
          · go_wp2_with fail
            go_ret
            exact ⟨by rw [HE.out]; first | rfl | simp, A5.out.below⟩
          · cases nb
            · go_wp2_with fail
              go_ret
              exact ⟨by rw [HE.out]; first | rfl | simp, A5.out.below⟩
            · cases r0
              · go_wp2_with fail
                go_ret
                exact ⟨by rw [HE.out]; first | rfl | simp, A5.out.below⟩
              · cases t0
                · go_wp2_with fail
                  go_ret
                  exact ⟨by rw [HE.out]; first | rfl | simp, A5.out.below⟩
                · go_wp2_with fail
                  go_ret
                  exact ⟨by rw [HE.out]; first | rfl | simp, A5.out.below⟩
        have g0 : (kind == 0) = false := beq_eq_false_iff_ne.2 k0
        by_cases k1 : kind = 1
        · subst k1
          cases nx
          · go_wp2_with fail
            go_ret
            exact ⟨by rw [HE.out]; first | rfl | simp, A5.out.below⟩
          · cases ox
            · go_wp2_with fail
              go_ret
              exact ⟨by rw [HE.out]; first | rfl | simp, A5.out.below⟩
            · cases nb
              · go_wp2_with fail
                go_ret
                exact ⟨by rw [HE.out]; first | rfl | simp, A5.out.below⟩
              · cases rb
                · go_wp2_with fail
                  go_ret
                  exact ⟨by rw [HE.out]; first | rfl | simp, A5.out.below⟩
                · go_wp2_with fail
                  go_ret
                  exact ⟨by rw [HE.out]; first | rfl | simp, A5.out.below⟩
        have g1 : (kind == 1) = false := beq_eq_false_iff_ne.2 k1
        by_cases k2 : kind = 2
        · subst k2
          cases rb
          · go_wp2_with fail
            go_ret
            exact ⟨by rw [HE.out]; first | rfl | simp, A5.out.below⟩
          · cases nb
            · go_wp2_with fail
              go_ret
              exact ⟨by rw [HE.out]; first | rfl | simp, A5.out.below⟩
            · cases t0
              · go_wp2_with fail
                go_ret
                exact ⟨by rw [HE.out]; first | rfl | simp, A5.out.below⟩
              · cases n0
                · go_wp2_with fail
                  go_ret
                  exact ⟨by rw [HE.out]; first | rfl | simp, A5.out.below⟩
                · go_wp2_with fail
                  go_ret
                  exact ⟨by rw [HE.out]; first | rfl | simp, A5.out.below⟩
        have g2 : (kind == 2) = false := beq_eq_false_iff_ne.2 k2
        by_cases k5 : kind = 5
        · subst k5
          cases rb
          · go_wp2_with fail
            go_ret
            exact ⟨by rw [HE.out]; first | rfl | simp, A5.out.below⟩
          · cases nb
            · go_wp2_with fail
              go_ret
              exact ⟨by rw [HE.out]; first | rfl | simp, A5.out.below⟩
            · cases t0
              · go_wp2_with fail
                go_ret
                exact ⟨by rw [HE.out]; first | rfl | simp, A5.out.below⟩
              · cases n0
                · go_wp2_with fail
                  go_ret
                  exact ⟨by rw [HE.out]; first | rfl | simp, A5.out.below⟩
                · go_wp2_with fail
                  go_ret
                  exact ⟨by rw [HE.out]; first | rfl | simp, A5.out.below⟩
        have g5 : (kind == 5) = false := beq_eq_false_iff_ne.2 k5
        by_cases k3 : kind = 3
        · subst k3
          cases rb
          · go_wp2_with fail
            go_ret
            exact ⟨by rw [HE.out]; first | rfl | simp, A5.out.below⟩
          · cases qa
            · go_wp2_with fail
              go_ret
              exact ⟨by rw [HE.out]; first | rfl | simp, A5.out.below⟩
            · cases t0
              · go_wp2_with fail
                go_ret
                exact ⟨by rw [HE.out]; first | rfl | simp, A5.out.below⟩
              · cases n0
                · go_wp2_with fail
                  go_ret
                  exact ⟨by rw [HE.out]; first | rfl | simp, A5.out.below⟩
                · go_wp2_with fail
                  go_ret
                  exact ⟨by rw [HE.out]; first | rfl | simp, A5.out.below⟩
        have g3 : (kind == 3) = false := beq_eq_false_iff_ne.2 k3
        by_cases k4 : kind = 4
        · subst k4
          cases rb
          · go_wp2_with fail
            go_ret
            exact ⟨by rw [HE.out]; first | rfl | simp, A5.out.below⟩
          · cases qa
            · go_wp2_with fail
              go_ret
              exact ⟨by rw [HE.out]; first | rfl | simp, A5.out.below⟩
            · cases tb
              · go_wp2_with fail
                go_ret
                exact ⟨by rw [HE.out]; first | rfl | simp, A5.out.below⟩
              · cases nx
                · go_wp2_with fail
                  go_ret
                  exact ⟨by rw [HE.out]; first | rfl | simp, A5.out.below⟩
                · go_wp2_with fail
                  go_ret
                  exact ⟨by rw [HE.out]; first | rfl | simp, A5.out.below⟩
        have g4 : (kind == 4) = false := beq_eq_false_iff_ne.2 k4
        by_cases k6 : kind = 6
        · subst k6
          cases rb
          · go_wp2_with fail
            go_ret
            exact ⟨by rw [HE.out]; first | rfl | simp, A5.out.below⟩
          · cases nb
            · go_wp2_with fail
              go_ret
              exact ⟨by rw [HE.out]; first | rfl | simp, A5.out.below⟩
            · cases tb
              · go_wp2_with fail
                go_ret
                exact ⟨by rw [HE.out]; first | rfl | simp, A5.out.below⟩
              · cases nx
                · go_wp2_with fail
                  go_ret
                  exact ⟨by rw [HE.out]; first | rfl | simp, A5.out.below⟩
                · go_wp2_with fail
                  go_ret
                  exact ⟨by rw [HE.out]; first | rfl | simp, A5.out.below⟩
        have g6 : (kind == 6) = false := beq_eq_false_iff_ne.2 k6
        have HE0 : Hid (finB p ⟨kind, reg, args, xt, next, els⟩ = false) := by unfold Hid; rw [HE.out, if_neg k0, if_neg k1, if_neg (fun e => e.elim k2 k5), if_neg k3, if_neg k4, if_neg k6]
        clear k0 k1 k2 k3 k4 k5 k6
        go_wp2_with fail
        go_ret
        exact ⟨by rw [HE0.out]; first | rfl | simp, A5.out.below⟩
end
end Vm
end Go.Proofs.Ytalfnaielhbocaa
namespace Go.Proofs.Ytalfnaielhbocaa
open Go.RowKit
set_option linter.unusedVariables false
set_option linter.unusedSimpArgs false
set_option maxRecDepth 100000
namespace Vm
structure BlkFit (b : Blk) : Prop where
  ins : b.ins.length ≤ 1000000000000000
  args : b.fin.args.length ≤ 9223372036854775807
  each : ∀ x ∈ b.ins, x.args.length ≤ 9223372036854775807 ∧ Dt.Fit x.const
structure PrcFit (p : Prc) : Prop where
  blocks : p.blocks.length ≤ 9223372036854775807
  each : ∀ b ∈ p.blocks, BlkFit b
theorem all_take {α : Type} {f : α → Bool} {l : List α} {k : Nat} {x : α} (h : (l.take k).all f = true) (hx : l[k]? = some x) (hf : f x = true) : (l.take (k + 1)).all f = true := by
  rw [List.take_add_one, hx, List.all_append, h]
  simp [hf]
theorem all_false {α : Type} {f : α → Bool} {l : List α} {k : Nat} {x : α} (hx : l[k]? = some x) (hf : f x = false) : l.all f = false := by
  rw [List.all_eq_false]
  exact ⟨x, List.mem_of_getElem? hx, by rw [hf]; decide⟩
def headB (p : Prc) : Bool := decide (0 ≤ p.params) && decide (p.params ≤ 6) && decide (0 ≤ p.holds) && decide (p.holds ≤ 1000) && decide (p.params ≤ p.regs) && decide (0 < p.blocks.length)
theorem prcB_eq (c : Code) (p : Prc) : prcB c p = (headB p && p.blocks.all (blkB c p)) := rfl
section
variable {w : World} {c : Code} {p : Prc}
set_option maxHeartbeats 4000000 in
theorem proc_head (acv : Option Addr) (ncv : Nat) (ab : Option Addr) (cb : Nat) (hh : headB p = false) :
    Calls Try.prog 18 #[.agg #[.slice acv c.length ncv], procV p (.slice ab p.blocks.length cb)] w fun e w' => e = .returned (.bool false) ∧ Below w.heap.size w w' := by
  have HW : Hid (Below w.heap.size w ((w.alloc (.cells #[.slice acv c.length ncv] 24)).alloc (.cells #[.int .i64 p.params, .int .i64 p.holds, .int .i64 p.regs, .slice ab p.blocks.length cb] 40))) := ((Below.refl _ _).alloc (Nat.le_refl _) _).alloc (by simp) _
  have hcase : (decide (p.params < 0) = true) ∨ (decide (p.params < 0) = false ∧ decide (6 < p.params) = true) ∨ (decide (p.params < 0) = false ∧ decide (6 < p.params) = false ∧ decide (p.holds < 0) = true) ∨ (decide (p.params < 0) = false ∧ decide (6 < p.params) = false ∧ decide (p.holds < 0) = false ∧ decide (1000 < p.holds) = true) ∨
      (decide (p.params < 0) = false ∧ decide (6 < p.params) = false ∧ decide (p.holds < 0) = false ∧ decide (1000 < p.holds) = false ∧ decide (p.regs < p.params) = true) ∨ (decide (p.params < 0) = false ∧ decide (6 < p.params) = false ∧ decide (p.holds < 0) = false ∧ decide (1000 < p.holds) = false ∧ decide (p.regs < p.params) = false ∧ ((p.blocks.length : Int) == 0) = true) := by
    unfold headB at hh
    simp only [Bool.and_eq_false_iff, decide_eq_false_iff_not] at hh
    simp only [decide_eq_true_eq, decide_eq_false_iff_not, beq_iff_eq]
    omega
  clear hh
  unfold procV
  rcases hcase with g1 | ⟨g1, g2⟩ | ⟨g1, g2, g3⟩ | ⟨g1, g2, g3, g4⟩ | ⟨g1, g2, g3, g4, g5⟩ | ⟨g1, g2, g3, g4, g5, g6⟩
  all_goals
    go_enter Try.func18, Try.ntmps18
    go_wp2_with fail
    go_ret
    exact ⟨rfl, HW.out⟩
end
end Vm
end Go.Proofs.Ytalfnaielhbocaa
namespace Go.Proofs.Ytalfnaielhbocaa
open Go.RowKit
set_option linter.unusedVariables false
set_option linter.unusedSimpArgs false
set_option maxRecDepth 100000
namespace Vm
section
variable {w : World} {c : Code} {p : Prc}
structure PrM (w wx : World) (cv : Value) (p : Prc) (bv : Value) : Prop where
  below : Below w.heap.size w wx
  size : w.heap.size + 1 + 1 ≤ wx.heap.size
  b0 : wx.cell? ⟨w.heap.size, 0, none⟩ = some cv
  p0 : wx.cell? ⟨w.heap.size + 1, 0, none⟩ = some (.int .i64 p.params)
  p1 : wx.cell? ⟨w.heap.size + 1, 1, none⟩ = some (.int .i64 p.holds)
  p2 : wx.cell? ⟨w.heap.size + 1, 2, none⟩ = some (.int .i64 p.regs)
  p3 : wx.cell? ⟨w.heap.size + 1, 3, none⟩ = some bv
theorem PrM.bel {w wx wy : World} {cv bv : Value} {p : Prc} (h : PrM w wx cv p bv) (hb : Below wx.heap.size wx wy) : PrM w wy cv p bv :=
  ⟨h.below.trans (hb.mono h.below.size), Nat.le_trans h.size hb.size, (cell_bel hb (by have := h.size; omega)).trans h.b0, (cell_bel hb (by have := h.size; omega)).trans h.p0, (cell_bel hb (by have := h.size; omega)).trans h.p1,
    (cell_bel hb (by have := h.size; omega)).trans h.p2, (cell_bel hb (by have := h.size; omega)).trans h.p3⟩
theorem PrM.of (w : World) (cv : Value) (p : Prc) (bv : Value) : ∃ w1, w1 = (w.alloc (.cells #[cv] 24)).alloc (.cells #[.int .i64 p.params, .int .i64 p.holds, .int .i64 p.regs, bv] 40) ∧ PrM w w1 cv p bv := by
  refine ⟨_, rfl, ((Below.refl _ _).alloc (Nat.le_refl _) _).alloc (by simp) _, by simp, ?_, ?_, ?_, ?_, ?_⟩
  · exact cell_of_row _ _ 0 _ _ _ ((heap_alloc_old _ _ (by simp)).trans (heap_new rfl))
  · exact cell_of_row _ _ 0 _ _ _ (heap_new (by simp))
  · exact cell_of_row _ _ 1 _ _ _ (heap_new (by simp))
  · exact cell_of_row _ _ 2 _ _ _ (heap_new (by simp))
  · exact cell_of_row _ _ 3 _ _ _ (heap_new (by simp))
set_option maxHeartbeats 8000000 in
theorem proc_body (acv : Option Addr) (ncv : Nat) (ab : Option Addr) (cb : Nat) (hcode : CodeAt w (.slice acv c.length ncv) c) (hrow : Row w (.slice ab p.blocks.length cb) 7 p.blocks (BlkC w)) (hfit : PrcFit p) (hh : headB p = true) :
    Calls Try.prog 18 #[.agg #[.slice acv c.length ncv], procV p (.slice ab p.blocks.length cb)] w fun e w' => e = .returned (.bool (prcB c p)) ∧ Below w.heap.size w w' := by
  obtain ⟨w1, hw1, hM⟩ := PrM.of w (.slice acv c.length ncv) p (.slice ab p.blocks.length cb)
  have HW1 := Lib.hid hw1
  have HM := Lib.hid hM
  have HROW := Lib.hid hrow
  have HCODE := Lib.hid hcode
  have HFIT := Lib.hid hfit
  have HE := Lib.hid (prcB_eq c p)
  have g1 : decide (p.params < 0) = false := by unfold headB at hh; simp at hh ⊢; omega
  have g2 : decide (6 < p.params) = false := by unfold headB at hh; simp at hh ⊢; omega
  have g3 : decide (p.holds < 0) = false := by unfold headB at hh; simp at hh ⊢; omega
  have g4 : decide (1000 < p.holds) = false := by unfold headB at hh; simp at hh ⊢; omega
  have g5 : decide (p.regs < p.params) = false := by unfold headB at hh; simp at hh ⊢; omega
  have g6 : ((p.blocks.length : Int) == 0) = false := by
    unfold headB at hh
    simp only [Bool.and_eq_true, decide_eq_true_eq] at hh
    rw [beq_eq_false_iff_ne]
    omega
  have HH := Lib.hid hh
  have hbm := hfit.blocks
  have HBM := Lib.hid hbm
  clear hw1 hM hrow hcode hfit hh hbm
  unfold procV
  go_enter Try.func18, Try.ntmps18
  go_wp2_with fail
  rw [← HW1.out]
  go_loopg [6, 43] p.blocks.length (fun gk s6 s43 wx => ∃ k : Nat, k ≤ p.blocks.length ∧ gk = p.blocks.length - k ∧ s43 = .int .i64 k ∧ Hid (PrM w wx (.slice acv c.length ncv) p (.slice ab p.blocks.length cb)) ∧ Hid ((p.blocks.take k).all (blkB c p) = true))
  case atStart => exact ⟨0, Nat.zero_le _, rfl, rfl, HM.out, rfl⟩
  case round =>
    obtain ⟨k, hk, rfl, rfl, HB, HA⟩ := hrel
    have hbw := HB.out.below
    by_cases hlt : k < p.blocks.length
    · obtain ⟨b, hb⟩ : ∃ b, p.blocks[k]? = some b := ⟨_, List.getElem?_eq_getElem hlt⟩
      obtain ⟨_, bb, bo, rfl, hbb, hBC⟩ := HROW.out.at hb
      obtain ⟨⟨iv, i0, hIR⟩, i1, i2, ⟨av, i3, hSA⟩, i4, i5, i6⟩ := hBC
      obtain ⟨ai, capi, hiv⟩ := hIR.len
      subst hiv
      obtain ⟨aa, ca, rfl⟩ := hSA.len
      rw [← cell_bel hbw hbb] at i0 i1 i2 i3 i4 i5 i6
      have hbbw : bb < wr.heap.size := Nat.lt_of_lt_of_le hbb hbw.size
      have hg1 : (0 : Int) ≤ k := by omega
      have hg2 : (k : Int) < p.blocks.length := by omega
      have hgk : IntKind.i64.wrap ((k : Int) + 1) = k + 1 := by have := HBM.out; rw [IntKind.wrap_i64]; omega
      obtain ⟨w2, B⟩ := boxed wr #[.slice ai b.ins.length capi, .int .i64 b.fin.kind, .int .i64 b.fin.reg, .slice aa (ints b.fin.args).length ca, .int .i64 b.fin.to, .int .i64 b.fin.next, .int .i64 b.fin.els] 48
      have HB2 := Lib.hid (HB.out.bel B.below)
      have hbx := B.blk
      have HBX := Lib.hid hbx
      have hs2 := B.size
      have hbx0 := cell_of_row w2 wr.heap.size 0 _ _ _ hbx
      simp only [List.getElem?_toArray, List.getElem?_cons_zero] at hbx0
      have hq2 : wr.heap.size < w2.heap.size := by omega
      have HBQ := Lib.hid B
      have HIR := Lib.hid hIR
      have HSA := Lib.hid hSA
      have HBK := Lib.hid hb
      have hfb := HFIT.out.each b (List.mem_of_getElem? hb)
      have HFB := Lib.hid hfb
      have hil := hfb.ins
      have HIL := Lib.hid hil
      have hwl := HB.out.size
      obtain ⟨q, hq⟩ : ∃ q, q = wr.heap.size := ⟨_, rfl⟩
      rw [← hq] at HBX hq2 hs2 hwl hbx0
      have HQ := Lib.hid hq
      clear hbx B hIR hSA hb hfb hil hq
      go_wp2_with fail
      rw [← HBQ.out.eq, ← HQ.out]
      go_loopg [8, 50] b.ins.length (fun gj s8 s50 wx => ∃ j : Nat, j ≤ b.ins.length ∧ gj = b.ins.length - j ∧ s50 = .int .i64 j ∧ Hid (Below w2.heap.size w2 wx) ∧ Hid ((b.ins.take j).all (insB c p) = true))
      case atStart => exact ⟨0, Nat.zero_le _, rfl, rfl, Below.refl _ _, rfl⟩
      case round =>
        obtain ⟨j, hj, rfl, rfl, HC, HD⟩ := hrel
        have hcw := HC.out.size
        by_cases hltj : j < b.ins.length
        · obtain ⟨x, hx⟩ : ∃ x, b.ins[j]? = some x := ⟨_, List.getElem?_eq_getElem hltj⟩
          obtain ⟨_, ib, io, rfl, hib, hIC⟩ := HIR.out.at hx
          obtain ⟨x0, x1, ⟨lv, x2, hSL⟩, x3, x4, x5, ⟨dl, x6, hDT⟩, x7⟩ := hIC
          obtain ⟨al, cl, rfl⟩ := hSL.len
          obtain ⟨da, dc, hdl, hdnil⟩ := hDT.inv
          have hdl2 : dl = .slice da x.const.list.length dc := by simpa using hdl
          subst hdl2
          clear hdl hdnil
          have HBr := HB2.out.bel HC.out
          rw [← cell_bel HBr.below hib] at x0 x1 x2 x3 x4 x5 x6 x7
          have hibw : ib < wr.heap.size := Nat.lt_of_lt_of_le hib HBr.below.size
          have hh1 : (0 : Int) ≤ j := by omega
          have hh2 : (j : Int) < b.ins.length := by omega
          have hjk : IntKind.i64.wrap ((j : Int) + 1) = j + 1 := by have := HIL.out; rw [IntKind.wrap_i64]; omega
          obtain ⟨w3, B3⟩ := boxed wr #[.string x.op, .int .i64 x.to, .slice al (ints x.args).length cl, .int .i64 x.const.kind, .int .i64 x.const.int, .string x.const.text, .slice da x.const.list.length dc, .int .i64 x.num] 55
          have hs3 := B3.size
          have hr3 : wr.heap.size < w3.heap.size := by omega
          have HB3 := HBr.bel B3.below
          have hb3 := HB3.below
          have y0 := HBr.b0
          have y1 := HBr.p0
          have y2 := HBr.p1
          have y3 := HBr.p2
          have y4 := HBr.p3
          have hy := HBr.size
          have hy1 : w.heap.size < wr.heap.size := by omega
          have hy2 : w.heap.size + 1 < wr.heap.size := by omega
          have HMR := Lib.hid HB3
          have HBX3 := Lib.hid B3
          have HINS := Lib.hid (ins_any (w := w3) (cv := .slice acv c.length ncv) (c := c) (p := p) (bv := .slice (some ⟨bb, bo, none⟩) p.blocks.length cb) (x := x) (lv := .slice al (ints x.args).length cl) (dl := .slice da x.const.list.length dc)
            ⟨⟨acv, ncv, rfl⟩, HCODE.out.bel hb3, ⟨_, cb, rfl⟩, hSL.below hb3 (Nat.le_refl _), (HFB.out.each x (List.mem_of_getElem? hx)).1, hDT.bel hb3 (Nat.le_refl _), (HFB.out.each x (List.mem_of_getElem? hx)).2⟩)
          unfold procV insV at HINS
          have HCW := Lib.hid (HC.out.trans (B3.below.mono hcw))
          have hB3 := Lib.hid hb3
          have HXJ := Lib.hid hx
          clear hSL hDT B3 HBr HB3 hx hb3
          go_wp2_with fail
          rw [← HBX3.out.eq]
          with_reducible refine HINS.out.mono ?_
          rintro e w4 ⟨rfl, hb4⟩
          have hb4' := hB3.out.trans (hb4.mono hB3.out.size)
          have hc4' := HCW.out.trans (hb4.mono HCW.out.size)
          have HB4 := Lib.hid hb4'
          have HC4 := Lib.hid hc4'
          clear hb4 hb4' hc4'
          cases hI : insB c p x with
          | false =>
            have hall : prcB c p = false := by
              rw [HE.out, all_false HBK.out (by unfold blkB; rw [all_false HXJ.out hI]; rfl), Bool.and_false]
            have HALL := Lib.hid hall
            clear hall
            go_wp2_with fail
            go_ret
            exact ⟨by rw [HALL.out]; rfl, HB4.out⟩
          | true =>
            have HI := Lib.hid hI
            clear hI
            go_wp2_with fail
            go_roundg (b.ins.length - (j + 1))
            case measure => omega
            case rel => exact ⟨j + 1, by omega, rfl, by go_num, HC4.out, all_take HD.out HXJ.out HI.out⟩
        · obtain rfl : j = b.ins.length := by omega
          have HBr := HB2.out.bel HC.out
          have hbox := (HC.out.block q (by omega)).trans HBX.out
          have z1 := cell_of_row wr q 1 _ _ _ hbox
          have z2 := cell_of_row wr q 2 _ _ _ hbox
          have z3 := cell_of_row wr q 3 _ _ _ hbox
          have z4 := cell_of_row wr q 4 _ _ _ hbox
          have z5 := cell_of_row wr q 5 _ _ _ hbox
          have z6 := cell_of_row wr q 6 _ _ _ hbox
          simp only [List.getElem?_toArray, List.getElem?_cons_zero, List.getElem?_cons_succ] at z1 z2 z3 z4 z5 z6
          have y1 := HBr.p0
          have y2 := HBr.p1
          have y3 := HBr.p2
          have y4 := HBr.p3
          have hy := HBr.size
          have hy1 : w.heap.size < wr.heap.size := by omega
          have hy2 : w.heap.size + 1 < wr.heap.size := by omega
          have hqr : q < wr.heap.size := by omega
          have hbr := HBr.below
          have HEND := Lib.hid (endc_any (w := wr) (p := p) (bv := .slice (some ⟨bb, bo, none⟩) p.blocks.length cb) (x := b.fin) (lv := .slice aa (ints b.fin.args).length ca) ⟨⟨_, cb, rfl⟩, HSA.out.below hbr (Nat.le_refl _), HFB.out.args⟩)
          unfold procV finV at HEND
          have hallj := HD.out
          rw [List.take_length] at hallj
          have HALLJ := Lib.hid hallj
          have HMR := Lib.hid HBr
          clear hbox HBr hbr hallj
          go_wp2_with fail
          with_reducible refine HEND.out.mono ?_
          rintro e w4 ⟨rfl, hb4⟩
          have HM4 := Lib.hid (HMR.out.bel hb4)
          clear hb4
          cases hF : finB p b.fin with
          | false =>
            have hall : prcB c p = false := by
              rw [HE.out, all_false HBK.out (by unfold blkB; rw [hF, Bool.and_false]), Bool.and_false]
            have HALL := Lib.hid hall
            clear hall
            go_wp2_with fail
            go_ret
            exact ⟨by rw [HALL.out]; rfl, HM4.out.below⟩
          | true =>
            have HF := Lib.hid hF
            clear hF
            go_wp2_with fail
            go_roundg (p.blocks.length - (k + 1))
            case measure => omega
            case rel => exact ⟨k + 1, by omega, rfl, by go_num, HM4.out, all_take HA.out HBK.out (by unfold blkB; rw [HALLJ.out, HF.out]; rfl)⟩
    · obtain rfl : k = p.blocks.length := by omega
      have h := HA.out
      rw [List.take_length] at h
      have HF := Lib.hid h
      have HW := Lib.hid hbw
      clear h hbw
      go_wp2_with fail
      go_ret
      refine ⟨?_, HW.out⟩
      rw [HE.out, HH.out, HF.out]
      rfl
theorem proc_any (acv : Option Addr) (ncv : Nat) (ab : Option Addr) (cb : Nat) (hcode : CodeAt w (.slice acv c.length ncv) c) (hrow : Row w (.slice ab p.blocks.length cb) 7 p.blocks (BlkC w)) (hfit : PrcFit p) :
    Calls Try.prog 18 #[.agg #[.slice acv c.length ncv], procV p (.slice ab p.blocks.length cb)] w fun e w' => e = .returned (.bool (prcB c p)) ∧ Below w.heap.size w w' := by
  cases hh : headB p with
  | true => exact proc_body acv ncv ab cb hcode hrow hfit hh
  | false =>
    rw [show prcB c p = false by rw [prcB_eq, hh]; rfl]
    exact proc_head acv ncv ab cb hh
end
end Vm
end Go.Proofs.Ytalfnaielhbocaa
namespace Go.Proofs.Ytalfnaielhbocaa
open Go.RowKit
set_option linter.unusedVariables false
set_option linter.unusedSimpArgs false
set_option maxRecDepth 100000
namespace Vm
section
variable {w0 w w' : World} {ρ ρ' : Nat → Nat} {H : Nat → Value} {m hb mb : Nat} {T : List Hp.Th} {C : List Cl} {out : List UInt8} {regs : List Hp.V} {frs : List Fr} {ov rv fv cv : Value} {cbs : List Nat} {s : St} {left steps : Nat}
theorem VmO.tie {i : Nat} {k : Cl} {g n cap : Nat} (h : VmO w0 w ρ H m cv s left steps hb mb ov rv fv cbs) (hi : s.cls[i]? = some k) (hH : H k.key = .slice (some ⟨g, 0, none⟩) n cap) (j : Nat) (hj : j < k.held.length) (v : Hp.V) :
    VmO w0 (((w.setCell ⟨g, j * 3, none⟩ (.int .i64 v.kind)).setCell ⟨g, j * 3 + 1, none⟩ (.int .i64 v.int)).setCell ⟨g, j * 3 + 2, none⟩ (.string v.text)) ρ H m cv { s with cls := tied s.cls k.key j v } left steps hb mb ov rv fv cbs := by
  have hil : i < cbs.length := by rw [h.c.len]; exact (List.getElem?_eq_some_iff.1 hi).1
  have hk := h.c.cls i k _ hi (List.getElem?_eq_getElem hil)
  have hg7 : ρ g = 7 + k.key := hk.rr g (by rw [hH]; rfl)
  have hne : m ≠ g := fun e => by have := h.c.me; rw [e, hg7] at this; omega
  refine ⟨h.c.tie hi hH j hj v, ?_⟩
  rw [heap_setCell_other _ _ _ _ hne, heap_setCell_other _ _ _ _ hne, heap_setCell_other _ _ _ _ hne]
  exact h.blk
set_option maxHeartbeats 4000000 in
theorem do_tie {x : Ins} {lv dl : Value} (I : DoIn w0 w ρ H m cv s left steps hb mb ov rv fv cbs x lv dl) (hop : x.op = sTie) (hlen : x.args.length = 2) (hn : 0 ≤ x.num) :
    Calls Try.prog 38 #[.pointer (some ⟨m, 0, none⟩), insV x lv dl] w (StepPost w0 w ρ m cv (doI s x) left steps) := by
  obtain ⟨w1, B⟩ := boxed w #[.string x.op, .int .i64 x.to, lv, .int .i64 x.const.kind, .int .i64 x.const.int, .string x.const.text, dl, .int .i64 x.num] 55
  have HV := Lib.hid (I.vals B.below)
  have hE : doI s x = (match find s.cls ((vals s.regs x.args).getD 0 Hp.none) with
    | none => { s with e := 80 }
    | some k => if (k.held.length : Int) ≤ x.num then { s with e := 80 } else { s with cls := tied s.cls k.key x.num.toNat ((vals s.regs x.args).getD 1 Hp.none) }) := by unfold doI; rw [if_neg (by rw [hop]; decide), if_neg (by rw [hop]; decide), if_neg (by rw [hop]; decide), if_neg (by rw [hop]; decide), if_pos hop]; rfl
  have HE := Lib.hid hE
  have HI := Lib.hid I
  have HB := Lib.hid B
  obtain ⟨al, cl, rfl⟩ := I.args.len
  obtain ⟨da, dc, rfl⟩ := I.dat
  obtain ⟨op, xt, args, const, num⟩ := x
  dsimp only at hop hlen hn
  subst hop
  obtain ⟨n, rfl⟩ : ∃ n : Nat, num = n := ⟨num.toNat, by omega⟩
  have hm := I.at'.lt
  clear I B hE
  unfold insV
  dsimp only
  unfold sTie at *
  go_enter Try.func38, Try.ntmps38
  go_wp2_with fail
  rw [← HB.out.eq]
  with_reducible refine HV.out.mono ?_
  rintro e w2 ⟨a2, c2, rfl, hown2, hb2⟩
  have D := DoAt.of HI.out HB.out hown2 hb2
  clear hown2 hb2
  try dsimp only at D
  have q0 := cell_of_row w2 w.heap.size 0 _ _ _ D.box
  have q7 := cell_of_row w2 w.heap.size 7 _ _ _ D.box
  simp only [List.getElem?_toArray, List.getElem?_cons_zero, List.getElem?_cons_succ] at q0 q7
  have hq2 : w.heap.size < w2.heap.size := (Array.getElem?_eq_some_iff.1 D.box).1
  have hm2 := D.at'.lt
  obtain ⟨v, hv⟩ : ∃ v, (vals s.regs args)[0]? = some v := ⟨_, List.getElem?_eq_getElem (by rw [vals_length]; omega)⟩
  obtain ⟨u, hu⟩ : ∃ u, (vals s.regs args)[1]? = some u := ⟨_, List.getElem?_eq_getElem (by rw [vals_length]; omega)⟩
  have hrow := D.row
  rw [← vals_length s.regs args] at hrow
  obtain ⟨ga, ca, ea, hga, hgal, a0, a1, a2', _⟩ := own_part hrow rfl hv
  cases ea
  have hV0 : (vals s.regs args).getD 0 Hp.none = v := by rw [List.getD_eq_getElem?_getD, hv]; rfl
  have hU0 : (vals s.regs args).getD 1 Hp.none = u := by rw [List.getD_eq_getElem?_getD, hu]; rfl
  have HC := Lib.hid (closure_any D.at' v)
  have hE2 := HE.out
  try dsimp only at hE2
  rw [hV0, hU0] at hE2
  have HE2 := Lib.hid hE2
  rw [vals_length]
  have HD := Lib.hid D
  have HROW := Lib.hid hrow
  have HU := Lib.hid hu
  clear D hrow hv hu hE2 HE
  unfold Hp.V.val at HC
  rw [hlen]
  go_wp2_with fail
  with_reducible refine HC.out.mono ?_
  rintro e w3 ⟨⟨rr, rfl, hcr⟩, hb3⟩
  have hX := HD.out.at'.bel hb3
  have hqb := (hb3.block w.heap.size hq2).trans HD.out.box
  have t7 := cell_of_row w3 w.heap.size 7 _ _ _ hqb
  simp only [List.getElem?_toArray, List.getElem?_cons_zero, List.getElem?_cons_succ] at t7
  have c10 : w3.cell? ⟨m, 10, none⟩ = some (.int .i64 s.e) := hX.cell 10
  have f10 := hX.fz 10
  have hm3 := hX.lt
  have hq3 : w.heap.size < w3.heap.size := Nat.lt_of_lt_of_le hq2 hb3.size
  have hkp : ∀ b, b < w.heap.size → ρ b = 0 → ρ b = 0 ∧ w3.heap[b]? = w.heap[b]? := fun b h1 h2 => ⟨h2, (hb3.block b (Nat.lt_of_lt_of_le h1 HD.out.below.size)).trans (HD.out.below.block b h1)⟩
  have HKP := Lib.hid hkp
  have hwle : w.heap.size ≤ w3.heap.size := by omega
  have herr : ∀ n', StepPost w0 w ρ m cv { s with e := 80 } left steps (.returned (.tuple #[])) ((w3.setCell ⟨m, 10, none⟩ (.int .i64 80)).drewN n') := fun n' => by
    refine ⟨rfl, ⟨ρ, H, hb, mb, ov, rv, fv, cbs, (hX.set 10 (.int .i64 80) (s' := { s with e := 80 }) (left' := left) (steps' := steps) rfl rfl rfl rfl rfl rfl).drew n', fun b h1 h2 => ⟨h2, ?_⟩⟩, ?_⟩
    · show (w3.setCell ⟨m, 10, none⟩ (.int .i64 80)).heap[b]? = _
      rw [heap_setCell_other _ _ _ _ (fun e => by rw [e, hX.c.me] at h2; cases h2)]
      exact (hkp b h1 h2).2
    · show _ ≤ (w3.setCell ⟨m, 10, none⟩ (.int .i64 80)).heap.size
      simp [World.setCell]
      exact hwle
  have HERR := Lib.hid herr
  have hrow3 := HROW.out.mono (Nat.zero_le _)
  have hrow4 := own_same hrow3 fun b e => hb3.block b (hrow3.lt b e).2
  obtain ⟨ga', ca', ea', hga', hgal', b0, b1, b2, _⟩ := own_part hrow4 rfl HU.out
  cases ea'
  have HX := Lib.hid hX
  have hn0 : (0 : Int) ≤ n := by omega
  clear herr hkp hqb hrow3 hrow4 hX
  cases hfd : find s.cls v with
  | none =>
    rw [hfd] at hcr HE2
    have hcr2 : rr = .pointer none := hcr
    subst hcr2
    clear hcr hfd hb3
    go_wp2_with fail
    go_quiet (fail)
    go_wp2_with fail
    refine bodyPost_ret (results_none rfl _ _ _) rfl ?_
    rw [HE2.out]
    exact HERR.out _
  | some k =>
    rw [hfd] at hcr HE2
    obtain ⟨i, cb, hi, hcb, rfl⟩ := hcr
    have hcl := HX.out.c.cls i k cb hi hcb
    obtain ⟨fvk, hblk, _⟩ := hcl.blk
    obtain ⟨ah, ch, hH⟩ := own_slice hcl.row
    have hcbl : cb < w3.heap.size := (Array.getElem?_eq_some_iff.1 hblk).1
    have k1 := cell_of_row w3 cb 1 _ _ _ hblk
    simp only [List.getElem?_toArray, List.getElem?_cons_zero, List.getElem?_cons_succ] at k1
    rw [hH] at k1
    by_cases hlt : n < k.held.length
    · have g1 : decide (k.held.length ≤ n) = false := decide_eq_false (by omega)
      have g2 : decide ((k.held.length : Int) ≤ n) = false := decide_eq_false (by omega)
      have g3 : (n : Int) < k.held.length := by omega
      obtain ⟨y, hy⟩ : ∃ y, k.held[n]? = some y := ⟨_, List.getElem?_eq_getElem hlt⟩
      have hrowk := hcl.row
      obtain ⟨gh, chh, eh, _, hghl, e0, e1, e2, f0, f1, f2⟩ := own_part hrowk rfl hy
      have hH2 : (Value.slice ah k.held.length ch) = .slice (some ⟨gh, 0, none⟩) k.held.length chh := hH.symm.trans eh
      cases hH2
      have hgr : ρ gh = 7 + k.key := hcl.rr gh (by rw [hH]; rfl)
      have hghm : gh ≠ m := fun e => by have := HX.out.c.me; rw [← e, hgr] at this; omega
      have HT := Lib.hid (HX.out.tie hi hH n hlt u)
      have HS : Hid (doI s ⟨⟨#[116, 105, 101]⟩, xt, args, const, n⟩ = { s with cls := tied s.cls k.key n u }) := by
        unfold Hid
        rw [HE2.out]
        dsimp only
        rw [if_neg (by omega)]
        rfl
      have HG := Lib.hid hgr
      clear hcl hblk hrowk hy eh hH hcb hi hgr hb3 hfd
      go_wp2_with fail
      go_quiet (fail)
      go_wp2_with fail
      go_region
      go_wp2_with fail
      refine bodyPost_end (results_none rfl _ _ _) rfl ?_
      rw [HS.out]
      refine ⟨rfl, ⟨ρ, H, hb, mb, ov, rv, fv, cbs, HT.out.drew _, fun b h1 h2 => ⟨h2, ?_⟩⟩, ?_⟩
      · have hb1 : b ≠ gh := fun e => by rw [e, HG.out] at h2; omega
        show (((w3.setCell ⟨gh, n * 3, none⟩ (.int .i64 u.kind)).setCell ⟨gh, n * 3 + 1, none⟩ (.int .i64 u.int)).setCell ⟨gh, n * 3 + 2, none⟩ (.string u.text)).heap[b]? = _
        rw [heap_setCell_other _ _ _ _ hb1, heap_setCell_other _ _ _ _ hb1, heap_setCell_other _ _ _ _ hb1]
        exact (HKP.out b h1 h2).2
      · show _ ≤ (((w3.setCell ⟨gh, n * 3, none⟩ (.int .i64 u.kind)).setCell ⟨gh, n * 3 + 1, none⟩ (.int .i64 u.int)).setCell ⟨gh, n * 3 + 2, none⟩ (.string u.text)).heap.size
        simp [World.setCell]
        exact hwle
    · have g1 : decide (k.held.length ≤ n) = true := decide_eq_true (by omega)
      have g2 : decide ((k.held.length : Int) ≤ n) = true := decide_eq_true (by omega)
      have HS : Hid (doI s ⟨⟨#[116, 105, 101]⟩, xt, args, const, n⟩ = { s with e := 80 }) := by
        unfold Hid
        rw [HE2.out]
        dsimp only
        rw [if_pos (by omega)]
      clear hcl hblk hH hcb hi hb3 hfd
      go_wp2_with fail
      go_quiet (fail)
      go_wp2_with fail
      refine bodyPost_ret (results_none rfl _ _ _) rfl ?_
      rw [HS.out]
      exact HERR.out _
end
end Vm
end Go.Proofs.Ytalfnaielhbocaa
