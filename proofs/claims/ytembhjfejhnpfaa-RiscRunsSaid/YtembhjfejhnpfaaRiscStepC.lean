/- Steps of the machine: memory, input, output, and the simple ones. -/
import Derived.Test.YtembhjfejhnpfaaRiscStepB
import Derived.Deep.RegionHeld3
namespace Go.Proofs.Ytembhjfejhnpfaa
open Go.RowKit
set_option linter.unusedVariables false
set_option linter.unusedSimpArgs false
theorem MSt.mvForm {B : Bd} {g T : Nat} {w : World} {st : Int} {m : Rs.M} {mv ov : Value} (h : MSt B w g T st m mv ov) : ∃ am capm, mv = .slice am m.mem.length capm ∧ (0 < m.mem.length → ∃ bm, am = some ⟨bm, 0, none⟩ ∧ bm < w.heap.size) := by
  rcases own_shape h.mem with ⟨h1, h2, _⟩ | ⟨g1, cap, h1, _, h3, _⟩
  · exact ⟨none, 0, by rw [h1, h2], fun h3 => by omega⟩
  · exact ⟨_, cap, h1, fun _ => ⟨g1, rfl, h3⟩⟩

set_option maxHeartbeats 8000000 in
set_option maxRecDepth 100000 in
theorem step_lw (B : Bd) (g : Nat) (st : Int) (m : Rs.M) (mv ov : Value)  (i j k : Nat) (n : Int) (w : World) (h : MSt B w g 62 st m mv ov) (hi : i < 32) (hj : j < 32) (hk : k < 32) (hn1 : -1048576 ≤ n) (hn2 : n ≤ 1048575) (hp1 : 0 ≤ m.pc) (hp2 : m.pc ≤ 1048576) (hs1 : 0 ≤ m.steps) (hs2 : m.steps ≤ 1000000000000) :
    Calls Try.prog 26 #[.pointer (some ⟨g, 0, none⟩), iv 22 i j k n] w (StepPost B g 62 st (Rs.exec 22 i j k n m) w) := by
  unfold iv
  have c1 := h.c1
  have c3 := h.c3
  have c4 := h.c4
  have f1 := h.fz 1
  have f3 := h.fz 3
  have f4 := h.fz 4
  have ci := h.cR hi
  have cj := h.cR hj
  have hlt := h.lt
  have hb := h.base
  obtain ⟨ra, hra⟩ : ∃ ra, Hid (m.regs.getD i 0 = ra) := ⟨_, rfl⟩
  obtain ⟨rb, hrb⟩ : ∃ rb, Hid (m.regs.getD j 0 = rb) := ⟨_, rfl⟩
  rw [hra.out] at ci
  rw [hrb.out] at cj
  have hRa : Hid (Rs.InR ra) := by unfold Hid; rw [← hra.out]; exact Rs.rget_range h.ok i
  have hRb : Hid (Rs.InR rb) := by unfold Hid; rw [← hrb.out]; exact Rs.rget_range h.ok j
  have hF : Rs.form 22 = 2 := rfl
  obtain ⟨am, capm, rfl, hbm⟩ := h.mvForm
  have c37 := h.c37
  have hlen := h.ok.len
  obtain ⟨at', hat⟩ : ∃ z, wrap64 (rb + n) = z := ⟨_, rfl⟩
  have hml : (0 : Int) ≤ (m.mem.length : Int) := by omega
  rcases (by omega : at' < 0 ∨ (0 ≤ at' ∧ (m.mem.length : Int) ≤ at') ∨ (0 ≤ at' ∧ at' < (m.mem.length : Int))) with q1 | ⟨q1, q2⟩ | ⟨q1, q2⟩
  case inr.inr =>
    obtain ⟨q, rfl⟩ : ∃ q : Nat, at' = q := ⟨at'.toNat, by omega⟩
    have hq : q < m.mem.length := by omega
    obtain ⟨bm, rfl, hblt⟩ := hbm (by omega)
    have cq := own_ints h.mem q hq
    have hne : bm ≠ g := fun e => h.ne1 (by rw [e]; rfl)
    have hbb : B ≤ bm := (own_cap h.mem).1
    have hex : Hid (Rs.exec 22 i j k n m = (Rs.adv (Rs.setReg m i (m.mem.getD q 0)) (m.pc + 1), 6)) := by
      unfold Hid Rs.exec Rs.rget
      simp only [Int.toNat_natCast, hra.out, hrb.out]
      have hr : ¬ ((q : Int) < 0 ∨ (m.mem.length : Int) ≤ (q : Int)) := by omega
      simp [hat, hr, hq]
    rw [hex.out]
    have hRm : Hid (Rs.InR (m.mem.getD q 0)) := Rs.mem_range h.ok q
    obtain ⟨mq, hmq⟩ : ∃ z, Hid (m.mem.getD q 0 = z) := ⟨_, rfl⟩
    rw [hmq.out] at cq hRm ⊢
    have H := Lib.hid h
    clear h hbm
    go_enter Try.func26, Try.ntmps26
    go_wp2_with fail
    go_quiet (fail)
    go_wp2_with (first | (go_at_call 19; (with_reducible refine (form_any _ _).mono ?_); rintro e w' ⟨rfl, hw⟩; obtain rfl := hw) | (go_at_call 30; (with_reducible refine (taken_any _ _ _ _ (by omega)).mono ?_); rintro e w' ⟨rfl, hw⟩; obtain rfl := hw))
    refine wp_still_tl 11 (by kernel_rfl) (by kernel_rfl) ?_
    simp only [List.take_succ_cons, List.take_zero, List.drop_succ_cons, List.drop_zero]
    repeat still_step
    refine wpStill_nil ?_
    show wpList _ _ _ _ _ _
    go_wp2_with fail
    (with_reducible refine (set_any B g st m _ ov i mq _ ((H.out.alloc _).drewN _) (by omega) hRm.out).mono ?_)
    rintro e w2 ⟨rfl, hM2, hg2⟩
    have hg2 : (w.alloc _).grownBy w2 (some g) := ⟨hg2.os, hg2.tape, hg2.output, hg2.size, hg2.block⟩
    have hx0 : w2.cell? ⟨w.heap.size, 0, none⟩ = some _ := hg2.cell (cell_new _ _ 0 _ rfl) (by intro e; injection e with e; simp at e; omega)
    have hx4 : w2.cell? ⟨w.heap.size, 4, none⟩ = some _ := hg2.cell (cell_new _ _ 4 _ rfl) (by intro e; injection e with e; simp at e; omega)
    have hb2 := Lib.hid ((((Below.refl B w).alloc (by omega) _)).grown hg2 (by simp; omega) (fun q hq => by injection hq with hq; omega))
    have hs3 : w.heap.size < w2.heap.size := by have := hg2.size; simp at this; omega
    have d4 := hM2.c4
    have d3 := hM2.c3
    have f4 := hM2.fz 4
    have f3 := hM2.fz 3
    rw [Rs.setReg_steps] at d3
    rw [Rs.setReg_pc] at d4
    have hM3 := Lib.hid hM2
    clear hg2 hM2
    go_wp2
    go_ret
    exact ⟨rfl, ⟨_, ov, hM3.out.adv _ _ (by rw [Rs.setReg_steps])⟩, (hb2.out.setCell hb _).setCell hb _, by simp [World.setCell]; omega⟩
  all_goals
    have hex : Hid (Rs.exec 22 i j k n m = (m, 2)) := by
      unfold Hid Rs.exec Rs.rget
      simp only [Int.toNat_natCast, hra.out, hrb.out]
      have hr : at' < 0 ∨ (m.mem.length : Int) ≤ at' := by omega
      simp [hat, hr]
    rw [hex.out]
    have H := Lib.hid h
    clear h hbm
    go_enter Try.func26, Try.ntmps26
    go_wp2_with fail
    go_quiet (fail)
    go_wp2_with (first | (go_at_call 19; (with_reducible refine (form_any _ _).mono ?_); rintro e w' ⟨rfl, hw⟩; obtain rfl := hw) | (go_at_call 30; (with_reducible refine (taken_any _ _ _ _ (by omega)).mono ?_); rintro e w' ⟨rfl, hw⟩; obtain rfl := hw))
    go_ret
    exact ⟨rfl, ⟨_, ov, (H.out.alloc _).drewN _⟩, below_drewN ((Below.refl _ _).alloc (by omega) _) _, by simp⟩

set_option maxHeartbeats 8000000 in
set_option maxRecDepth 100000 in
theorem step_sw (B : Bd) (g : Nat) (st : Int) (m : Rs.M) (mv ov : Value)  (i j k : Nat) (n : Int) (w : World) (h : MSt B w g 62 st m mv ov) (hi : i < 32) (hj : j < 32) (hk : k < 32) (hn1 : -1048576 ≤ n) (hn2 : n ≤ 1048575) (hp1 : 0 ≤ m.pc) (hp2 : m.pc ≤ 1048576) (hs1 : 0 ≤ m.steps) (hs2 : m.steps ≤ 1000000000000) :
    Calls Try.prog 26 #[.pointer (some ⟨g, 0, none⟩), iv 23 i j k n] w (StepPost B g 62 st (Rs.exec 23 i j k n m) w) := by
  unfold iv
  have c1 := h.c1
  have c3 := h.c3
  have c4 := h.c4
  have f1 := h.fz 1
  have f3 := h.fz 3
  have f4 := h.fz 4
  have ci := h.cR hi
  have cj := h.cR hj
  have hlt := h.lt
  have hb := h.base
  obtain ⟨ra, hra⟩ : ∃ ra, Hid (m.regs.getD i 0 = ra) := ⟨_, rfl⟩
  obtain ⟨rb, hrb⟩ : ∃ rb, Hid (m.regs.getD j 0 = rb) := ⟨_, rfl⟩
  rw [hra.out] at ci
  rw [hrb.out] at cj
  have hRa : Hid (Rs.InR ra) := by unfold Hid; rw [← hra.out]; exact Rs.rget_range h.ok i
  have hRb : Hid (Rs.InR rb) := by unfold Hid; rw [← hrb.out]; exact Rs.rget_range h.ok j
  have hF : Rs.form 23 = 2 := rfl
  obtain ⟨am, capm, rfl, hbm⟩ := h.mvForm
  have c37 := h.c37
  have hlen := h.ok.len
  obtain ⟨at', hat⟩ : ∃ z, wrap64 (rb + n) = z := ⟨_, rfl⟩
  have hml : (0 : Int) ≤ (m.mem.length : Int) := by omega
  rcases (by omega : at' < 0 ∨ (0 ≤ at' ∧ (m.mem.length : Int) ≤ at') ∨ (0 ≤ at' ∧ at' < (m.mem.length : Int))) with q1 | ⟨q1, q2⟩ | ⟨q1, q2⟩
  case inr.inr =>
    obtain ⟨q, rfl⟩ : ∃ q : Nat, at' = q := ⟨at'.toNat, by omega⟩
    have hq : q < m.mem.length := by omega
    obtain ⟨bm, rfl, hblt⟩ := hbm (by omega)
    have cq := own_ints h.mem q hq
    have hne : bm ≠ g := fun e => h.ne1 (by rw [e]; rfl)
    have hbb : B ≤ bm := (own_cap h.mem).1
    have hex : Hid (Rs.exec 23 i j k n m = (Rs.adv { m with mem := m.mem.set q ra } (m.pc + 1), 6)) := by
      unfold Hid Rs.exec Rs.rget
      simp only [Int.toNat_natCast, hra.out, hrb.out]
      have hr : ¬ ((q : Int) < 0 ∨ (m.mem.length : Int) ≤ (q : Int)) := by omega
      simp [hat, hr, hq]
    rw [hex.out]
    have fq := h.mem.frozenAt q
    have H := Lib.hid h
    clear h hbm
    go_enter Try.func26, Try.ntmps26
    go_wp2_with fail
    go_quiet (fail)
    go_wp2_with (first | (go_at_call 19; (with_reducible refine (form_any _ _).mono ?_); rintro e w' ⟨rfl, hw⟩; obtain rfl := hw) | (go_at_call 30; (with_reducible refine (taken_any _ _ _ _ (by omega)).mono ?_); rintro e w' ⟨rfl, hw⟩; obtain rfl := hw))
    go_ret
    exact ⟨rfl, ⟨_, ov, (((H.out.alloc _).drewN _).setMem q hRa.out).adv _ _ rfl⟩, (((below_drewN ((Below.refl _ _).alloc (by omega) _) _).setCell hbb _).setCell hb _).setCell hb _, by simp [World.setCell]⟩
  all_goals
    have hex : Hid (Rs.exec 23 i j k n m = (m, 2)) := by
      unfold Hid Rs.exec Rs.rget
      simp only [Int.toNat_natCast, hra.out, hrb.out]
      have hr : at' < 0 ∨ (m.mem.length : Int) ≤ at' := by omega
      simp [hat, hr]
    rw [hex.out]
    have H := Lib.hid h
    clear h hbm
    go_enter Try.func26, Try.ntmps26
    go_wp2_with fail
    go_quiet (fail)
    go_wp2_with (first | (go_at_call 19; (with_reducible refine (form_any _ _).mono ?_); rintro e w' ⟨rfl, hw⟩; obtain rfl := hw) | (go_at_call 30; (with_reducible refine (taken_any _ _ _ _ (by omega)).mono ?_); rintro e w' ⟨rfl, hw⟩; obtain rfl := hw))
    go_ret
    exact ⟨rfl, ⟨_, ov, (H.out.alloc _).drewN _⟩, below_drewN ((Below.refl _ _).alloc (by omega) _) _, by simp⟩
end Go.Proofs.Ytembhjfejhnpfaa
