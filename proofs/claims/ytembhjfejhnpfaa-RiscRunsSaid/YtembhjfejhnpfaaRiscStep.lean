/- One step of the machine. -/
import Derived.Test.YtembhjfejhnpfaaRiscSet
namespace Go.Proofs.Ytembhjfejhnpfaa
open Go.RowKit
set_option linter.unusedVariables false
set_option linter.unusedSimpArgs false

def StepPost (B : Bd) (g T : Nat) (st : Int) (r : Rs.M × Int) (w : World) (e : Ending) (w' : World) : Prop :=
  e = .returned (.int .i64 r.2) ∧ (∃ mv ov, MSt B w' g T st r.1 mv ov) ∧ Below B w w' ∧ w.heap.size ≤ w'.heap.size

theorem form_abc {op : Int} (h1 : 1 ≤ op) (h2 : op ≤ 14) : Rs.form op = 1 := by
  unfold Rs.form
  rw [if_neg (by omega), if_pos (by omega)]
theorem cell_new (w : World) (cs : Array Value) (j : Nat) (v : Value) {t : TypeId} (h : cs[j]? = some v) : (w.alloc (.cells cs t)).cell? ⟨w.heap.size, j, none⟩ = some v := by
  rw [cell_of_row _ w.heap.size j cs t (0, 0) (heap_alloc_new w _)]
  exact h
theorem Rs.setReg_steps (m : Rs.M) (r v : Int) : (Rs.setReg m r v).steps = m.steps := by unfold Rs.setReg; split <;> rfl
theorem MSt.adv {B : Bd} {g T : Nat} {w : World} {st : Int} {m : Rs.M} {mv ov : Value} (h : MSt B w g T st m mv ov) (p s : Int) (hs : s = m.steps + 1) :
    MSt B ((w.setCell ⟨g, 4, none⟩ (.int .i64 p)).setCell ⟨g, 3, none⟩ (.int .i64 s)) g T st (Rs.adv m p) mv ov := by
  subst hs
  exact (h.setPc p).setSteps _
theorem still_of {F : Nat} {args : Array Value} {w : World} {v : Value} (h : Calls Try.prog F args w fun e w' => e = .returned v ∧ w = w') : Calls Try.prog F args w fun e w' => e = .returned v ∧ w' = w := h.mono fun _ _ h => ⟨h.1, h.2.symm⟩

set_option maxHeartbeats 4000000 in
set_option maxRecDepth 100000 in
theorem step_abc (B : Bd) (g : Nat) (st : Int) (m : Rs.M) (mv ov : Value) (op : Int) (i j k : Nat) (n : Int) (w : World) (h : MSt B w g 62 st m mv ov) (h1 : 1 ≤ op) (h2 : op ≤ 14) (hi : i < 32) (hj : j < 32) (hk : k < 32) (hp1 : 0 ≤ m.pc) (hp2 : m.pc ≤ 1048576) (hs1 : 0 ≤ m.steps) (hs2 : m.steps ≤ 1000000000000) :
    Calls Try.prog 26 #[.pointer (some ⟨g, 0, none⟩), iv op i j k n] w (StepPost B g 62 st (Rs.exec op i j k n m) w) := by
  unfold iv
  have c4 := h.c4
  have ci := h.cR hi
  have cj := h.cR hj
  have ck := h.cR hk
  have hlt := h.lt
  have hb := h.base
  have hF := form_abc h1 h2
  obtain ⟨ra, hra⟩ : ∃ ra, Hid (m.regs.getD i 0 = ra) := ⟨_, rfl⟩
  obtain ⟨rb, hrb⟩ : ∃ rb, Hid (m.regs.getD j 0 = rb) := ⟨_, rfl⟩
  obtain ⟨rc, hrc⟩ : ∃ rc, Hid (m.regs.getD k 0 = rc) := ⟨_, rfl⟩
  rw [hra.out] at ci
  rw [hrb.out] at cj
  rw [hrc.out] at ck
  have hRb : Hid (Rs.InR rb) := by unfold Hid; rw [← hrb.out]; exact Rs.rget_range h.ok j
  have hRc : Hid (Rs.InR rc) := by unfold Hid; rw [← hrc.out]; exact Rs.rget_range h.ok k
  have H := Lib.hid h
  clear h
  have hz0 : (op == 0) = false := by rw [beq_eq_false_iff_ne]; omega
  by_cases hz : (op = 5 ∨ op = 6) ∧ rc = 0
  · have hex : Hid (Rs.exec op i j k n m = (m, 4)) := by
      unfold Hid Rs.exec Rs.rget
      dsimp only
      rw [if_neg (by omega), if_pos h2, if_pos ⟨hz.1, by rw [Int.toNat_natCast, hrc.out]; exact hz.2⟩]
    rw [hex.out]
    obtain ⟨ho, rfl⟩ := hz
    rcases ho with rfl | rfl
    all_goals
      go_enter Try.func26, Try.ntmps26
      go_wp2_with fail
      go_quiet (fail)
      go_wp2_with (first | (go_at_call 19; (with_reducible refine (form_any _ _).mono ?_); rintro e w' ⟨rfl, hw⟩; obtain rfl := hw))
      go_quiet (fail)
      go_wp2
      go_ret
      refine ⟨rfl, ⟨mv, ov, (H.out.alloc _).drewN _⟩, below_drewN ((Below.refl _ _).alloc (by omega) _) _, by simp⟩
  · have hex : Hid (Rs.exec op i j k n m = (Rs.adv (Rs.setReg m i (Rs.alu op rb rc)) (m.pc + 1), 6)) := by
      unfold Hid Rs.exec Rs.rget
      dsimp only
      rw [if_neg (by omega), if_pos h2, Int.toNat_natCast, Int.toNat_natCast, hrb.out, hrc.out, if_neg hz]
    rw [hex.out]
    have hOk : Hid (Rs.opOk op rc) := ⟨h1, h2, fun ho hc => hz ⟨ho, hc⟩⟩
    have hA : Hid (Rs.InR (Rs.alu op rb rc)) := Rs.alu_range hRb.out hRc.out (fun ho hc => hz ⟨ho, hc⟩)
    have hz9 : (op = 5 ∧ (rc == 0) = false) ∨ (op = 6 ∧ (rc == 0) = false) ∨ ((op == 5) = false ∧ (op == 6) = false) := by
      simp only [beq_eq_false_iff_ne]
      omega
    clear hz
    rcases hz9 with ⟨rfl, g1⟩ | ⟨rfl, g1⟩ | ⟨g1, g2⟩
    all_goals
      go_enter Try.func26, Try.ntmps26
      go_wp2_with fail
      go_quiet (fail)
      go_wp2_with (first | (go_at_call 19; (with_reducible refine (form_any _ _).mono ?_); rintro e w' ⟨rfl, hw⟩; obtain rfl := hw))
      go_quiet (fail)
      go_wp2
      refine wp_still_tl 8 (by kernel_rfl) (by kernel_rfl) ?_
      simp only [List.take_succ_cons, List.take_zero, List.drop_succ_cons, List.drop_zero]
      repeat still_step
      still_call (still_of (reckon_any _ _ _ _ hOk.out hRb.out.1 hRb.out.2 hRc.out.1 hRc.out.2))
      repeat still_step
      refine wpStill_nil ?_
      show wpList _ _ _ _ _ _
      go_wp2_with fail
      (with_reducible refine (set_any B g st m mv ov i (Rs.alu _ rb rc) _ ((H.out.alloc _).drewN _) (by omega) hA.out).mono ?_)
      rintro e w2 ⟨rfl, hM2, hg2⟩
      have hg2 : (w.alloc _).grownBy w2 (some g) := ⟨hg2.os, hg2.tape, hg2.output, hg2.size, hg2.block⟩
      have hx : w2.cell? ⟨w.heap.size, 0, none⟩ = some _ := hg2.cell (cell_new _ _ 0 _ rfl) (by intro e; injection e with e; simp at e; omega)
      have hb2 := Lib.hid ((((Below.refl B w).alloc (by omega) _)).grown hg2 (by simp; omega) (fun q hq => by injection hq with hq; omega))
      have hs3 : w.heap.size < w2.heap.size := by have := hg2.size; simp at this; omega
      have d4 := hM2.c4
      have d3 := hM2.c3
      have f4 := hM2.fz 4
      have f3 := hM2.fz 3
      have hM3 := Lib.hid hM2
      clear hg2 hM2
      rw [Rs.setReg_steps] at d3
      go_wp2
      go_ret
      exact ⟨rfl, ⟨mv, ov, hM3.out.adv _ _ (by rw [Rs.setReg_steps])⟩, (hb2.out.setCell hb _).setCell hb _, by simp [World.setCell]; omega⟩
end Go.Proofs.Ytembhjfejhnpfaa
