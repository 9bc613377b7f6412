/- Steps of the machine, class by class. -/
import Derived.Test.YtembhjfejhnpfaaRiscStep
namespace Go.Proofs.Ytembhjfejhnpfaa
open Go.RowKit
set_option linter.unusedVariables false
set_option linter.unusedSimpArgs false
theorem Rs.setReg_pc (m : Rs.M) (r v : Int) : (Rs.setReg m r v).pc = m.pc := by unfold Rs.setReg; split <;> rfl
theorem form_br {op : Int} (h1 : 24 ≤ op) (h2 : op ≤ 27) : Rs.form op = 4 := by
  unfold Rs.form
  rw [if_neg (by omega), if_neg (by omega), if_neg (by omega), if_neg (by omega), if_pos (by omega)]

set_option maxHeartbeats 8000000 in
set_option maxRecDepth 100000 in
theorem step_halt (B : Bd) (g : Nat) (st : Int) (m : Rs.M) (mv ov : Value)  (i j k : Nat) (n : Int) (w : World) (h : MSt B w g 62 st m mv ov) (hi : i < 32) (hj : j < 32) (hk : k < 32) (hn1 : -1048576 ≤ n) (hn2 : n ≤ 1048575) (hp1 : 0 ≤ m.pc) (hp2 : m.pc ≤ 1048576) (hs1 : 0 ≤ m.steps) (hs2 : m.steps ≤ 1000000000000) :
    Calls Try.prog 26 #[.pointer (some ⟨g, 0, none⟩), iv 0 i j k n] w (StepPost B g 62 st (Rs.exec 0 i j k n m) w) := by
  unfold iv
  have c1 := h.c1
  have c3 := h.c3
  have c4 := h.c4
  have f1 := h.fz 1
  have f3 := h.fz 3
  have f4 := h.fz 4
  have ci := h.cR hi
  have cj := h.cR hj
  have hlt := h.lt
  have hb := h.base
  obtain ⟨ra, hra⟩ : ∃ ra, Hid (m.regs.getD i 0 = ra) := ⟨_, rfl⟩
  obtain ⟨rb, hrb⟩ : ∃ rb, Hid (m.regs.getD j 0 = rb) := ⟨_, rfl⟩
  rw [hra.out] at ci
  rw [hrb.out] at cj
  have hRa : Hid (Rs.InR ra) := by unfold Hid; rw [← hra.out]; exact Rs.rget_range h.ok i
  have hRb : Hid (Rs.InR rb) := by unfold Hid; rw [← hrb.out]; exact Rs.rget_range h.ok j
  have hex : Hid (Rs.exec 0 i j k n m = ({ m with value := ra, steps := m.steps + 1 }, 0)) := by unfold Hid Rs.exec Rs.rget; simp only [Int.toNat_natCast, hra.out, hrb.out]; rfl
  rw [hex.out]
  have hF : Rs.form 0 = 0 := rfl
  have H := Lib.hid h
  clear h
  go_enter Try.func26, Try.ntmps26
  go_wp2_with fail
  go_quiet (fail)
  go_wp2_with (first | (go_at_call 19; (with_reducible refine (form_any _ _).mono ?_); rintro e w' ⟨rfl, hw⟩; obtain rfl := hw) | (go_at_call 30; (with_reducible refine (taken_any _ _ _ _ (by omega)).mono ?_); rintro e w' ⟨rfl, hw⟩; obtain rfl := hw))
  go_ret
  exact ⟨rfl, ⟨mv, ov, ((((H.out.alloc _).drewN _).setVal ra).setPc m.pc).setSteps _⟩, (((below_drewN ((Below.refl _ _).alloc (by omega) _) _).setCell hb _).setCell hb _).setCell hb _, by simp [World.setCell]⟩

set_option maxHeartbeats 8000000 in
set_option maxRecDepth 100000 in
theorem step_branch (B : Bd) (g : Nat) (st : Int) (m : Rs.M) (mv ov : Value) (op : Int) (o1 : 24 ≤ op) (o2 : op ≤ 27) (i j k : Nat) (n : Int) (w : World) (h : MSt B w g 62 st m mv ov) (hi : i < 32) (hj : j < 32) (hk : k < 32) (hn1 : -1048576 ≤ n) (hn2 : n ≤ 1048575) (hp1 : 0 ≤ m.pc) (hp2 : m.pc ≤ 1048576) (hs1 : 0 ≤ m.steps) (hs2 : m.steps ≤ 1000000000000) :
    Calls Try.prog 26 #[.pointer (some ⟨g, 0, none⟩), iv op i j k n] w (StepPost B g 62 st (Rs.exec op i j k n m) w) := by
  unfold iv
  have c1 := h.c1
  have c3 := h.c3
  have c4 := h.c4
  have f1 := h.fz 1
  have f3 := h.fz 3
  have f4 := h.fz 4
  have ci := h.cR hi
  have cj := h.cR hj
  have hlt := h.lt
  have hb := h.base
  obtain ⟨ra, hra⟩ : ∃ ra, Hid (m.regs.getD i 0 = ra) := ⟨_, rfl⟩
  obtain ⟨rb, hrb⟩ : ∃ rb, Hid (m.regs.getD j 0 = rb) := ⟨_, rfl⟩
  rw [hra.out] at ci
  rw [hrb.out] at cj
  have hRa : Hid (Rs.InR ra) := by unfold Hid; rw [← hra.out]; exact Rs.rget_range h.ok i
  have hRb : Hid (Rs.InR rb) := by unfold Hid; rw [← hrb.out]; exact Rs.rget_range h.ok j
  have hF := form_br o1 o2
  have H := Lib.hid h
  clear h
  have hz0 : (op == 0) = false := by rw [beq_eq_false_iff_ne]; omega
  cases ht : Rs.takenB op ra rb
  · have hex : Hid (Rs.exec op i j k n m = (Rs.adv m (m.pc + 1), 6)) := by
      unfold Hid Rs.exec Rs.rget; simp only [Int.toNat_natCast, hra.out, hrb.out]; rw [if_neg (by omega), if_neg (by omega), if_pos ⟨o1, o2⟩, ht, if_neg (by simp)]
    rw [hex.out]
    go_enter Try.func26, Try.ntmps26
    go_wp2_with fail
    go_quiet (fail)
    go_wp2_with (first | (go_at_call 19; (with_reducible refine (form_any _ _).mono ?_); rintro e w' ⟨rfl, hw⟩; obtain rfl := hw) | (go_at_call 30; (with_reducible refine (taken_any _ _ _ _ (by omega)).mono ?_); rintro e w' ⟨rfl, hw⟩; obtain rfl := hw))
    go_ret
    exact ⟨rfl, ⟨mv, ov, ((H.out.alloc _).drewN _).adv _ _ rfl⟩, ((below_drewN ((Below.refl _ _).alloc (by omega) _) _).setCell hb _).setCell hb _, by simp [World.setCell]⟩
  · have hex : Hid (Rs.exec op i j k n m = (Rs.adv m (m.pc + n), 6)) := by
      unfold Hid Rs.exec Rs.rget; simp only [Int.toNat_natCast, hra.out, hrb.out]; rw [if_neg (by omega), if_neg (by omega), if_pos ⟨o1, o2⟩, ht, if_pos rfl]
    rw [hex.out]
    go_enter Try.func26, Try.ntmps26
    go_wp2_with fail
    go_quiet (fail)
    go_wp2_with (first | (go_at_call 19; (with_reducible refine (form_any _ _).mono ?_); rintro e w' ⟨rfl, hw⟩; obtain rfl := hw) | (go_at_call 30; (with_reducible refine (taken_any _ _ _ _ (by omega)).mono ?_); rintro e w' ⟨rfl, hw⟩; obtain rfl := hw))
    go_quiet (fail)
    go_wp2
    go_ret
    exact ⟨rfl, ⟨mv, ov, ((H.out.alloc _).drewN _).adv _ _ rfl⟩, ((below_drewN ((Below.refl _ _).alloc (by omega) _) _).setCell hb _).setCell hb _, by simp [World.setCell]⟩

set_option maxHeartbeats 8000000 in
set_option maxRecDepth 100000 in
theorem step_jal (B : Bd) (g : Nat) (st : Int) (m : Rs.M) (mv ov : Value)  (i j k : Nat) (n : Int) (w : World) (h : MSt B w g 62 st m mv ov) (hi : i < 32) (hj : j < 32) (hk : k < 32) (hn1 : -1048576 ≤ n) (hn2 : n ≤ 1048575) (hp1 : 0 ≤ m.pc) (hp2 : m.pc ≤ 1048576) (hs1 : 0 ≤ m.steps) (hs2 : m.steps ≤ 1000000000000) :
    Calls Try.prog 26 #[.pointer (some ⟨g, 0, none⟩), iv 28 i j k n] w (StepPost B g 62 st (Rs.exec 28 i j k n m) w) := by
  unfold iv
  have c1 := h.c1
  have c3 := h.c3
  have c4 := h.c4
  have f1 := h.fz 1
  have f3 := h.fz 3
  have f4 := h.fz 4
  have ci := h.cR hi
  have cj := h.cR hj
  have hlt := h.lt
  have hb := h.base
  obtain ⟨ra, hra⟩ : ∃ ra, Hid (m.regs.getD i 0 = ra) := ⟨_, rfl⟩
  obtain ⟨rb, hrb⟩ : ∃ rb, Hid (m.regs.getD j 0 = rb) := ⟨_, rfl⟩
  rw [hra.out] at ci
  rw [hrb.out] at cj
  have hRa : Hid (Rs.InR ra) := by unfold Hid; rw [← hra.out]; exact Rs.rget_range h.ok i
  have hRb : Hid (Rs.InR rb) := by unfold Hid; rw [← hrb.out]; exact Rs.rget_range h.ok j
  have hex : Hid (Rs.exec 28 i j k n m = (Rs.adv (Rs.setReg m i (m.pc + 1)) (m.pc + n), 6)) := by unfold Hid Rs.exec Rs.rget; simp only [Int.toNat_natCast, hra.out, hrb.out]; rfl
  rw [hex.out]
  have hF : Rs.form 28 = 5 := rfl
  have H := Lib.hid h
  clear h
  go_enter Try.func26, Try.ntmps26
  go_wp2_with fail
  go_quiet (fail)
  go_wp2_with (first | (go_at_call 19; (with_reducible refine (form_any _ _).mono ?_); rintro e w' ⟨rfl, hw⟩; obtain rfl := hw) | (go_at_call 30; (with_reducible refine (taken_any _ _ _ _ (by omega)).mono ?_); rintro e w' ⟨rfl, hw⟩; obtain rfl := hw))
  (with_reducible refine (set_any B g st m mv ov i (m.pc + 1) _ ((H.out.alloc _).drewN _) (by omega) (by unfold Rs.InR; omega)).mono ?_)
  rintro e w2 ⟨rfl, hM2, hg2⟩
  have hg2 : (w.alloc _).grownBy w2 (some g) := ⟨hg2.os, hg2.tape, hg2.output, hg2.size, hg2.block⟩
  have hx0 : w2.cell? ⟨w.heap.size, 0, none⟩ = some _ := hg2.cell (cell_new _ _ 0 _ rfl) (by intro e; injection e with e; simp at e; omega)
  have hx4 : w2.cell? ⟨w.heap.size, 4, none⟩ = some _ := hg2.cell (cell_new _ _ 4 _ rfl) (by intro e; injection e with e; simp at e; omega)
  have hb2 := Lib.hid ((((Below.refl B w).alloc (by omega) _)).grown hg2 (by simp; omega) (fun q hq => by injection hq with hq; omega))
  have hs3 : w.heap.size < w2.heap.size := by have := hg2.size; simp at this; omega
  have d4 := hM2.c4
  have d3 := hM2.c3
  have f4 := hM2.fz 4
  have f3 := hM2.fz 3
  rw [Rs.setReg_steps] at d3
  rw [Rs.setReg_pc] at d4
  have hM3 := Lib.hid hM2
  clear hg2 hM2
  go_wp2_with fail
  go_quiet (fail)
  go_wp2
  go_ret
  exact ⟨rfl, ⟨mv, ov, (hM3.out.drewN _).adv _ _ (by rw [Rs.setReg_steps])⟩, ((below_drewN hb2.out _).setCell hb _).setCell hb _, by simp [World.setCell]; omega⟩

set_option maxHeartbeats 8000000 in
set_option maxRecDepth 100000 in
theorem step_jalr (B : Bd) (g : Nat) (st : Int) (m : Rs.M) (mv ov : Value)  (i j k : Nat) (n : Int) (w : World) (h : MSt B w g 62 st m mv ov) (hi : i < 32) (hj : j < 32) (hk : k < 32) (hn1 : -1048576 ≤ n) (hn2 : n ≤ 1048575) (hp1 : 0 ≤ m.pc) (hp2 : m.pc ≤ 1048576) (hs1 : 0 ≤ m.steps) (hs2 : m.steps ≤ 1000000000000) :
    Calls Try.prog 26 #[.pointer (some ⟨g, 0, none⟩), iv 29 i j k n] w (StepPost B g 62 st (Rs.exec 29 i j k n m) w) := by
  unfold iv
  have c1 := h.c1
  have c3 := h.c3
  have c4 := h.c4
  have f1 := h.fz 1
  have f3 := h.fz 3
  have f4 := h.fz 4
  have ci := h.cR hi
  have cj := h.cR hj
  have hlt := h.lt
  have hb := h.base
  obtain ⟨ra, hra⟩ : ∃ ra, Hid (m.regs.getD i 0 = ra) := ⟨_, rfl⟩
  obtain ⟨rb, hrb⟩ : ∃ rb, Hid (m.regs.getD j 0 = rb) := ⟨_, rfl⟩
  rw [hra.out] at ci
  rw [hrb.out] at cj
  have hRa : Hid (Rs.InR ra) := by unfold Hid; rw [← hra.out]; exact Rs.rget_range h.ok i
  have hRb : Hid (Rs.InR rb) := by unfold Hid; rw [← hrb.out]; exact Rs.rget_range h.ok j
  have hex : Hid (Rs.exec 29 i j k n m = (Rs.adv (Rs.setReg m i (m.pc + 1)) (rb), 6)) := by unfold Hid Rs.exec Rs.rget; simp only [Int.toNat_natCast, hra.out, hrb.out]; rfl
  rw [hex.out]
  have hF : Rs.form 29 = 6 := rfl
  have H := Lib.hid h
  clear h
  go_enter Try.func26, Try.ntmps26
  go_wp2_with fail
  go_quiet (fail)
  go_wp2_with (first | (go_at_call 19; (with_reducible refine (form_any _ _).mono ?_); rintro e w' ⟨rfl, hw⟩; obtain rfl := hw) | (go_at_call 30; (with_reducible refine (taken_any _ _ _ _ (by omega)).mono ?_); rintro e w' ⟨rfl, hw⟩; obtain rfl := hw))
  (with_reducible refine (set_any B g st m mv ov i (m.pc + 1) _ ((H.out.alloc _).drewN _) (by omega) (by unfold Rs.InR; omega)).mono ?_)
  rintro e w2 ⟨rfl, hM2, hg2⟩
  have hg2 : (w.alloc _).grownBy w2 (some g) := ⟨hg2.os, hg2.tape, hg2.output, hg2.size, hg2.block⟩
  have hx0 : w2.cell? ⟨w.heap.size, 0, none⟩ = some _ := hg2.cell (cell_new _ _ 0 _ rfl) (by intro e; injection e with e; simp at e; omega)
  have hx4 : w2.cell? ⟨w.heap.size, 4, none⟩ = some _ := hg2.cell (cell_new _ _ 4 _ rfl) (by intro e; injection e with e; simp at e; omega)
  have hb2 := Lib.hid ((((Below.refl B w).alloc (by omega) _)).grown hg2 (by simp; omega) (fun q hq => by injection hq with hq; omega))
  have hs3 : w.heap.size < w2.heap.size := by have := hg2.size; simp at this; omega
  have d4 := hM2.c4
  have d3 := hM2.c3
  have f4 := hM2.fz 4
  have f3 := hM2.fz 3
  rw [Rs.setReg_steps] at d3
  rw [Rs.setReg_pc] at d4
  have hM3 := Lib.hid hM2
  clear hg2 hM2
  go_wp2
  skip
  skip
  go_ret
  exact ⟨rfl, ⟨mv, ov, hM3.out.adv _ _ (by rw [Rs.setReg_steps])⟩, (hb2.out.setCell hb _).setCell hb _, by simp [World.setCell]; omega⟩
end Go.Proofs.Ytembhjfejhnpfaa
