/- Steps of the reference's machine: halt, numbers, branches, jumps. -/
import Derived.Test.YtbcpflogkniojaaQRiscNextA
namespace Go.Proofs.Ytbcpflogkniojaa
open Go.RowKit
set_option linter.unusedVariables false
set_option linter.unusedSimpArgs false

set_option maxHeartbeats 8000000 in
set_option maxRecDepth 100000 in
theorem next_halt (B : Bd) (g : Nat) (st : Int) (m : Rs.M) (mv ov : Value)  (i j k : Nat) (n : Int) (w : World) (h : MSt B w g 73 st m mv ov) (hi : i < 32) (hj : j < 32) (hk : k < 32) (hn1 : -1048576 ≤ n) (hn2 : n ≤ 1048575) (hp1 : 0 ≤ m.pc) (hp2 : m.pc ≤ 1048576) (hs1 : 0 ≤ m.steps) (hs2 : m.steps ≤ 1000000000000) :
    Calls Try.prog 29 #[.pointer (some ⟨g, 0, none⟩), iv 0 i j k n] w (StepPost B g 73 st (Rs.exec 0 i j k n m) w) := by
  unfold iv
  have c1 := h.c1
  have c3 := h.c3
  have c4 := h.c4
  have f1 := h.fz 1
  have f3 := h.fz 3
  have f4 := h.fz 4
  have ci := h.cR hi
  have cj := h.cR hj
  have ck := h.cR hk
  have fi := h.fz (5 + i)
  have hlt := h.lt
  have hb := h.base
  obtain ⟨ra, hra⟩ : ∃ ra, Hid (m.regs.getD i 0 = ra) := ⟨_, rfl⟩
  obtain ⟨rb, hrb⟩ : ∃ rb, Hid (m.regs.getD j 0 = rb) := ⟨_, rfl⟩
  obtain ⟨rc, hrc⟩ : ∃ rc, Hid (m.regs.getD k 0 = rc) := ⟨_, rfl⟩
  rw [hra.out] at ci
  rw [hrb.out] at cj
  rw [hrc.out] at ck
  have hRa : Hid (Rs.InR ra) := by unfold Hid; rw [← hra.out]; exact Rs.rget_range h.ok i
  have hRb : Hid (Rs.InR rb) := by unfold Hid; rw [← hrb.out]; exact Rs.rget_range h.ok j
  have hRc : Hid (Rs.InR rc) := by unfold Hid; rw [← hrc.out]; exact Rs.rget_range h.ok k
  have hex : Hid (Rs.exec 0 i j k n m = ({ m with value := ra, steps := m.steps + 1 }, 0)) := by
    unfold Hid Rs.exec Rs.rget
    simp only [Int.toNat_natCast, hra.out, hrb.out, hrc.out]
    rfl
  rw [hex.out]
  have H := Lib.hid h
  clear h
  go_enter Try.func29, Try.ntmps29
  go_wp2_with fail
  go_quiet (fail)
  go_wp2_with fail
  go_quiet (fail)
  go_wp2
  go_ret
  exact ⟨rfl, ⟨mv, ov, MSt.setSteps (MSt.setVal (by first | exact (H.out.alloc _).drewN _ | exact ((H.out.alloc _).drewN _).drewN _) ra) _⟩, Below.setCell (Below.setCell (by first | exact below_drewN ((Below.refl _ _).alloc (by omega) _) _ | exact below_drewN (below_drewN ((Below.refl _ _).alloc (by omega) _) _) _) hb _) hb _, by simp [World.setCell]⟩

set_option maxHeartbeats 8000000 in
set_option maxRecDepth 100000 in
theorem next_s15 (B : Bd) (g : Nat) (st : Int) (m : Rs.M) (mv ov : Value)  (i j k : Nat) (n : Int) (w : World) (h : MSt B w g 73 st m mv ov) (hi : i < 32) (hj : j < 32) (hk : k < 32) (hn1 : -1048576 ≤ n) (hn2 : n ≤ 1048575) (hp1 : 0 ≤ m.pc) (hp2 : m.pc ≤ 1048576) (hs1 : 0 ≤ m.steps) (hs2 : m.steps ≤ 1000000000000) :
    Calls Try.prog 29 #[.pointer (some ⟨g, 0, none⟩), iv 15 i j k n] w (StepPost B g 73 st (Rs.exec 15 i j k n m) w) := by
  unfold iv
  have c1 := h.c1
  have c3 := h.c3
  have c4 := h.c4
  have f1 := h.fz 1
  have f3 := h.fz 3
  have f4 := h.fz 4
  have ci := h.cR hi
  have cj := h.cR hj
  have ck := h.cR hk
  have fi := h.fz (5 + i)
  have hlt := h.lt
  have hb := h.base
  obtain ⟨ra, hra⟩ : ∃ ra, Hid (m.regs.getD i 0 = ra) := ⟨_, rfl⟩
  obtain ⟨rb, hrb⟩ : ∃ rb, Hid (m.regs.getD j 0 = rb) := ⟨_, rfl⟩
  obtain ⟨rc, hrc⟩ : ∃ rc, Hid (m.regs.getD k 0 = rc) := ⟨_, rfl⟩
  rw [hra.out] at ci
  rw [hrb.out] at cj
  rw [hrc.out] at ck
  have hRa : Hid (Rs.InR ra) := by unfold Hid; rw [← hra.out]; exact Rs.rget_range h.ok i
  have hRb : Hid (Rs.InR rb) := by unfold Hid; rw [← hrb.out]; exact Rs.rget_range h.ok j
  have hRc : Hid (Rs.InR rc) := by unfold Hid; rw [← hrc.out]; exact Rs.rget_range h.ok k
  have hex : Hid (Rs.exec 15 i j k n m = (Rs.adv (Rs.setReg m i (wrap64 (rb + n))) (m.pc + 1), 6)) := by
    unfold Hid Rs.exec Rs.rget
    simp only [Int.toNat_natCast, hra.out, hrb.out, hrc.out]
    simp [Rs.simp]
  rw [hex.out]
  have hA : Hid (Rs.InR (wrap64 (rb + n))) := by
    unfold Hid
    have := Rs.simp_range (op := 15) (a := ra) (n := n) hRb.out (by unfold Rs.InR; omega)
    simpa [Rs.simp] using this
  have H := Lib.hid h
  clear h
  by_cases hi0 : i = 0
  · subst hi0
    have hset : Hid (Rs.setReg m ((0 : Nat) : Int) (wrap64 (rb + n)) = m) := if_pos rfl
    rw [hset.out]
    go_enter Try.func29, Try.ntmps29
    go_wp2_with fail
    go_quiet (fail)
    go_wp2_with fail
    go_quiet (fail)
    go_wp2
    go_ret
    exact ⟨rfl, ⟨_, ov, MSt.adv (by first | exact (H.out.alloc _).drewN _ | exact ((H.out.alloc _).drewN _).drewN _) _ _ rfl⟩, Below.setCell (Below.setCell (by first | exact below_drewN ((Below.refl _ _).alloc (by omega) _) _ | exact below_drewN (below_drewN ((Below.refl _ _).alloc (by omega) _) _) _) hb _) hb _, by simp [World.setCell]⟩
  · have hset : Hid (Rs.setReg m (i : Int) (wrap64 (rb + n)) = { m with regs := m.regs.set i (wrap64 (rb + n)) }) := by unfold Hid Rs.setReg; rw [if_neg (by omega), Int.toNat_natCast]
    rw [hset.out]
    have hi1 : ((i : Int) != 0) = true := by rw [bne_iff_ne]; omega
    clear hi0
    go_enter Try.func29, Try.ntmps29
    go_wp2_with fail
    go_quiet (fail)
    go_wp2_with fail
    go_quiet (fail)
    go_wp2
    refine wp_still_tl 7 (by kernel_rfl) (by kernel_rfl) ?_
    simp only [List.take_succ_cons, List.take_zero, List.drop_succ_cons, List.drop_zero]
    repeat still_step
    refine wpStill_nil ?_
    show wpList _ _ _ _ _ _
    go_wp2
    go_ret
    exact ⟨rfl, ⟨_, ov, MSt.adv (MSt.setR (by first | exact (H.out.alloc _).drewN _ | exact ((H.out.alloc _).drewN _).drewN _) hi hA.out) _ _ rfl⟩, Below.setCell (Below.setCell (Below.setCell (by first | exact below_drewN ((Below.refl _ _).alloc (by omega) _) _ | exact below_drewN (below_drewN ((Below.refl _ _).alloc (by omega) _) _) _) hb _) hb _) hb _, by simp [World.setCell]⟩

set_option maxHeartbeats 8000000 in
set_option maxRecDepth 100000 in
theorem next_s16 (B : Bd) (g : Nat) (st : Int) (m : Rs.M) (mv ov : Value)  (i j k : Nat) (n : Int) (w : World) (h : MSt B w g 73 st m mv ov) (hi : i < 32) (hj : j < 32) (hk : k < 32) (hn1 : -1048576 ≤ n) (hn2 : n ≤ 1048575) (hp1 : 0 ≤ m.pc) (hp2 : m.pc ≤ 1048576) (hs1 : 0 ≤ m.steps) (hs2 : m.steps ≤ 1000000000000) :
    Calls Try.prog 29 #[.pointer (some ⟨g, 0, none⟩), iv 16 i j k n] w (StepPost B g 73 st (Rs.exec 16 i j k n m) w) := by
  unfold iv
  have c1 := h.c1
  have c3 := h.c3
  have c4 := h.c4
  have f1 := h.fz 1
  have f3 := h.fz 3
  have f4 := h.fz 4
  have ci := h.cR hi
  have cj := h.cR hj
  have ck := h.cR hk
  have fi := h.fz (5 + i)
  have hlt := h.lt
  have hb := h.base
  obtain ⟨ra, hra⟩ : ∃ ra, Hid (m.regs.getD i 0 = ra) := ⟨_, rfl⟩
  obtain ⟨rb, hrb⟩ : ∃ rb, Hid (m.regs.getD j 0 = rb) := ⟨_, rfl⟩
  obtain ⟨rc, hrc⟩ : ∃ rc, Hid (m.regs.getD k 0 = rc) := ⟨_, rfl⟩
  rw [hra.out] at ci
  rw [hrb.out] at cj
  rw [hrc.out] at ck
  have hRa : Hid (Rs.InR ra) := by unfold Hid; rw [← hra.out]; exact Rs.rget_range h.ok i
  have hRb : Hid (Rs.InR rb) := by unfold Hid; rw [← hrb.out]; exact Rs.rget_range h.ok j
  have hRc : Hid (Rs.InR rc) := by unfold Hid; rw [← hrc.out]; exact Rs.rget_range h.ok k
  have hex : Hid (Rs.exec 16 i j k n m = (Rs.adv (Rs.setReg m i (bits .and .i64 rb n)) (m.pc + 1), 6)) := by
    unfold Hid Rs.exec Rs.rget
    simp only [Int.toNat_natCast, hra.out, hrb.out, hrc.out]
    simp [Rs.simp]
  rw [hex.out]
  have hA : Hid (Rs.InR (bits .and .i64 rb n)) := by
    unfold Hid
    have := Rs.simp_range (op := 16) (a := ra) (n := n) hRb.out (by unfold Rs.InR; omega)
    simpa [Rs.simp] using this
  have H := Lib.hid h
  clear h
  by_cases hi0 : i = 0
  · subst hi0
    have hset : Hid (Rs.setReg m ((0 : Nat) : Int) (bits .and .i64 rb n) = m) := if_pos rfl
    rw [hset.out]
    go_enter Try.func29, Try.ntmps29
    go_wp2_with fail
    go_quiet (fail)
    go_wp2_with fail
    go_quiet (fail)
    go_wp2
    go_ret
    exact ⟨rfl, ⟨_, ov, MSt.adv (by first | exact (H.out.alloc _).drewN _ | exact ((H.out.alloc _).drewN _).drewN _) _ _ rfl⟩, Below.setCell (Below.setCell (by first | exact below_drewN ((Below.refl _ _).alloc (by omega) _) _ | exact below_drewN (below_drewN ((Below.refl _ _).alloc (by omega) _) _) _) hb _) hb _, by simp [World.setCell]⟩
  · have hset : Hid (Rs.setReg m (i : Int) (bits .and .i64 rb n) = { m with regs := m.regs.set i (bits .and .i64 rb n) }) := by unfold Hid Rs.setReg; rw [if_neg (by omega), Int.toNat_natCast]
    rw [hset.out]
    have hi1 : ((i : Int) != 0) = true := by rw [bne_iff_ne]; omega
    clear hi0
    go_enter Try.func29, Try.ntmps29
    go_wp2_with fail
    go_quiet (fail)
    go_wp2_with fail
    go_quiet (fail)
    go_wp2
    refine wp_still_tl 7 (by kernel_rfl) (by kernel_rfl) ?_
    simp only [List.take_succ_cons, List.take_zero, List.drop_succ_cons, List.drop_zero]
    repeat still_step
    refine wpStill_nil ?_
    show wpList _ _ _ _ _ _
    go_wp2
    go_ret
    exact ⟨rfl, ⟨_, ov, MSt.adv (MSt.setR (by first | exact (H.out.alloc _).drewN _ | exact ((H.out.alloc _).drewN _).drewN _) hi hA.out) _ _ rfl⟩, Below.setCell (Below.setCell (Below.setCell (by first | exact below_drewN ((Below.refl _ _).alloc (by omega) _) _ | exact below_drewN (below_drewN ((Below.refl _ _).alloc (by omega) _) _) _) hb _) hb _) hb _, by simp [World.setCell]⟩

set_option maxHeartbeats 8000000 in
set_option maxRecDepth 100000 in
theorem next_s17 (B : Bd) (g : Nat) (st : Int) (m : Rs.M) (mv ov : Value)  (i j k : Nat) (n : Int) (w : World) (h : MSt B w g 73 st m mv ov) (hi : i < 32) (hj : j < 32) (hk : k < 32) (hn1 : -1048576 ≤ n) (hn2 : n ≤ 1048575) (hp1 : 0 ≤ m.pc) (hp2 : m.pc ≤ 1048576) (hs1 : 0 ≤ m.steps) (hs2 : m.steps ≤ 1000000000000) :
    Calls Try.prog 29 #[.pointer (some ⟨g, 0, none⟩), iv 17 i j k n] w (StepPost B g 73 st (Rs.exec 17 i j k n m) w) := by
  unfold iv
  have c1 := h.c1
  have c3 := h.c3
  have c4 := h.c4
  have f1 := h.fz 1
  have f3 := h.fz 3
  have f4 := h.fz 4
  have ci := h.cR hi
  have cj := h.cR hj
  have ck := h.cR hk
  have fi := h.fz (5 + i)
  have hlt := h.lt
  have hb := h.base
  obtain ⟨ra, hra⟩ : ∃ ra, Hid (m.regs.getD i 0 = ra) := ⟨_, rfl⟩
  obtain ⟨rb, hrb⟩ : ∃ rb, Hid (m.regs.getD j 0 = rb) := ⟨_, rfl⟩
  obtain ⟨rc, hrc⟩ : ∃ rc, Hid (m.regs.getD k 0 = rc) := ⟨_, rfl⟩
  rw [hra.out] at ci
  rw [hrb.out] at cj
  rw [hrc.out] at ck
  have hRa : Hid (Rs.InR ra) := by unfold Hid; rw [← hra.out]; exact Rs.rget_range h.ok i
  have hRb : Hid (Rs.InR rb) := by unfold Hid; rw [← hrb.out]; exact Rs.rget_range h.ok j
  have hRc : Hid (Rs.InR rc) := by unfold Hid; rw [← hrc.out]; exact Rs.rget_range h.ok k
  have hex : Hid (Rs.exec 17 i j k n m = (Rs.adv (Rs.setReg m i (bits .or .i64 rb n)) (m.pc + 1), 6)) := by
    unfold Hid Rs.exec Rs.rget
    simp only [Int.toNat_natCast, hra.out, hrb.out, hrc.out]
    simp [Rs.simp]
  rw [hex.out]
  have hA : Hid (Rs.InR (bits .or .i64 rb n)) := by
    unfold Hid
    have := Rs.simp_range (op := 17) (a := ra) (n := n) hRb.out (by unfold Rs.InR; omega)
    simpa [Rs.simp] using this
  have H := Lib.hid h
  clear h
  by_cases hi0 : i = 0
  · subst hi0
    have hset : Hid (Rs.setReg m ((0 : Nat) : Int) (bits .or .i64 rb n) = m) := if_pos rfl
    rw [hset.out]
    go_enter Try.func29, Try.ntmps29
    go_wp2_with fail
    go_quiet (fail)
    go_wp2_with fail
    go_quiet (fail)
    go_wp2
    go_ret
    exact ⟨rfl, ⟨_, ov, MSt.adv (by first | exact (H.out.alloc _).drewN _ | exact ((H.out.alloc _).drewN _).drewN _) _ _ rfl⟩, Below.setCell (Below.setCell (by first | exact below_drewN ((Below.refl _ _).alloc (by omega) _) _ | exact below_drewN (below_drewN ((Below.refl _ _).alloc (by omega) _) _) _) hb _) hb _, by simp [World.setCell]⟩
  · have hset : Hid (Rs.setReg m (i : Int) (bits .or .i64 rb n) = { m with regs := m.regs.set i (bits .or .i64 rb n) }) := by unfold Hid Rs.setReg; rw [if_neg (by omega), Int.toNat_natCast]
    rw [hset.out]
    have hi1 : ((i : Int) != 0) = true := by rw [bne_iff_ne]; omega
    clear hi0
    go_enter Try.func29, Try.ntmps29
    go_wp2_with fail
    go_quiet (fail)
    go_wp2_with fail
    go_quiet (fail)
    go_wp2
    refine wp_still_tl 7 (by kernel_rfl) (by kernel_rfl) ?_
    simp only [List.take_succ_cons, List.take_zero, List.drop_succ_cons, List.drop_zero]
    repeat still_step
    refine wpStill_nil ?_
    show wpList _ _ _ _ _ _
    go_wp2
    go_ret
    exact ⟨rfl, ⟨_, ov, MSt.adv (MSt.setR (by first | exact (H.out.alloc _).drewN _ | exact ((H.out.alloc _).drewN _).drewN _) hi hA.out) _ _ rfl⟩, Below.setCell (Below.setCell (Below.setCell (by first | exact below_drewN ((Below.refl _ _).alloc (by omega) _) _ | exact below_drewN (below_drewN ((Below.refl _ _).alloc (by omega) _) _) _) hb _) hb _) hb _, by simp [World.setCell]⟩

set_option maxHeartbeats 8000000 in
set_option maxRecDepth 100000 in
theorem next_s20 (B : Bd) (g : Nat) (st : Int) (m : Rs.M) (mv ov : Value)  (i j k : Nat) (n : Int) (w : World) (h : MSt B w g 73 st m mv ov) (hi : i < 32) (hj : j < 32) (hk : k < 32) (hn1 : -1048576 ≤ n) (hn2 : n ≤ 1048575) (hp1 : 0 ≤ m.pc) (hp2 : m.pc ≤ 1048576) (hs1 : 0 ≤ m.steps) (hs2 : m.steps ≤ 1000000000000) :
    Calls Try.prog 29 #[.pointer (some ⟨g, 0, none⟩), iv 20 i j k n] w (StepPost B g 73 st (Rs.exec 20 i j k n m) w) := by
  unfold iv
  have c1 := h.c1
  have c3 := h.c3
  have c4 := h.c4
  have f1 := h.fz 1
  have f3 := h.fz 3
  have f4 := h.fz 4
  have ci := h.cR hi
  have cj := h.cR hj
  have ck := h.cR hk
  have fi := h.fz (5 + i)
  have hlt := h.lt
  have hb := h.base
  obtain ⟨ra, hra⟩ : ∃ ra, Hid (m.regs.getD i 0 = ra) := ⟨_, rfl⟩
  obtain ⟨rb, hrb⟩ : ∃ rb, Hid (m.regs.getD j 0 = rb) := ⟨_, rfl⟩
  obtain ⟨rc, hrc⟩ : ∃ rc, Hid (m.regs.getD k 0 = rc) := ⟨_, rfl⟩
  rw [hra.out] at ci
  rw [hrb.out] at cj
  rw [hrc.out] at ck
  have hRa : Hid (Rs.InR ra) := by unfold Hid; rw [← hra.out]; exact Rs.rget_range h.ok i
  have hRb : Hid (Rs.InR rb) := by unfold Hid; rw [← hrb.out]; exact Rs.rget_range h.ok j
  have hRc : Hid (Rs.InR rc) := by unfold Hid; rw [← hrc.out]; exact Rs.rget_range h.ok k
  have hex : Hid (Rs.exec 20 i j k n m = (Rs.adv (Rs.setReg m i (n)) (m.pc + 1), 6)) := by
    unfold Hid Rs.exec Rs.rget
    simp only [Int.toNat_natCast, hra.out, hrb.out, hrc.out]
    simp [Rs.simp]
  rw [hex.out]
  have hA : Hid (Rs.InR (n)) := by
    unfold Hid
    have := Rs.simp_range (op := 20) (a := ra) (n := n) hRb.out (by unfold Rs.InR; omega)
    simpa [Rs.simp] using this
  have H := Lib.hid h
  clear h
  by_cases hi0 : i = 0
  · subst hi0
    have hset : Hid (Rs.setReg m ((0 : Nat) : Int) (n) = m) := if_pos rfl
    rw [hset.out]
    go_enter Try.func29, Try.ntmps29
    go_wp2_with fail
    go_quiet (fail)
    go_wp2_with fail
    go_quiet (fail)
    go_wp2
    go_ret
    exact ⟨rfl, ⟨_, ov, MSt.adv (by first | exact (H.out.alloc _).drewN _ | exact ((H.out.alloc _).drewN _).drewN _) _ _ rfl⟩, Below.setCell (Below.setCell (by first | exact below_drewN ((Below.refl _ _).alloc (by omega) _) _ | exact below_drewN (below_drewN ((Below.refl _ _).alloc (by omega) _) _) _) hb _) hb _, by simp [World.setCell]⟩
  · have hset : Hid (Rs.setReg m (i : Int) (n) = { m with regs := m.regs.set i (n) }) := by unfold Hid Rs.setReg; rw [if_neg (by omega), Int.toNat_natCast]
    rw [hset.out]
    have hi1 : ((i : Int) != 0) = true := by rw [bne_iff_ne]; omega
    clear hi0
    go_enter Try.func29, Try.ntmps29
    go_wp2_with fail
    go_quiet (fail)
    go_wp2_with fail
    go_quiet (fail)
    go_wp2
    refine wp_still_tl 7 (by kernel_rfl) (by kernel_rfl) ?_
    simp only [List.take_succ_cons, List.take_zero, List.drop_succ_cons, List.drop_zero]
    repeat still_step
    refine wpStill_nil ?_
    show wpList _ _ _ _ _ _
    go_wp2
    go_ret
    exact ⟨rfl, ⟨_, ov, MSt.adv (MSt.setR (by first | exact (H.out.alloc _).drewN _ | exact ((H.out.alloc _).drewN _).drewN _) hi hA.out) _ _ rfl⟩, Below.setCell (Below.setCell (Below.setCell (by first | exact below_drewN ((Below.refl _ _).alloc (by omega) _) _ | exact below_drewN (below_drewN ((Below.refl _ _).alloc (by omega) _) _) _) hb _) hb _) hb _, by simp [World.setCell]⟩

set_option maxHeartbeats 8000000 in
set_option maxRecDepth 100000 in
theorem next_s21 (B : Bd) (g : Nat) (st : Int) (m : Rs.M) (mv ov : Value)  (i j k : Nat) (n : Int) (w : World) (h : MSt B w g 73 st m mv ov) (hi : i < 32) (hj : j < 32) (hk : k < 32) (hn1 : -1048576 ≤ n) (hn2 : n ≤ 1048575) (hp1 : 0 ≤ m.pc) (hp2 : m.pc ≤ 1048576) (hs1 : 0 ≤ m.steps) (hs2 : m.steps ≤ 1000000000000) :
    Calls Try.prog 29 #[.pointer (some ⟨g, 0, none⟩), iv 21 i j k n] w (StepPost B g 73 st (Rs.exec 21 i j k n m) w) := by
  unfold iv
  have c1 := h.c1
  have c3 := h.c3
  have c4 := h.c4
  have f1 := h.fz 1
  have f3 := h.fz 3
  have f4 := h.fz 4
  have ci := h.cR hi
  have cj := h.cR hj
  have ck := h.cR hk
  have fi := h.fz (5 + i)
  have hlt := h.lt
  have hb := h.base
  obtain ⟨ra, hra⟩ : ∃ ra, Hid (m.regs.getD i 0 = ra) := ⟨_, rfl⟩
  obtain ⟨rb, hrb⟩ : ∃ rb, Hid (m.regs.getD j 0 = rb) := ⟨_, rfl⟩
  obtain ⟨rc, hrc⟩ : ∃ rc, Hid (m.regs.getD k 0 = rc) := ⟨_, rfl⟩
  rw [hra.out] at ci
  rw [hrb.out] at cj
  rw [hrc.out] at ck
  have hRa : Hid (Rs.InR ra) := by unfold Hid; rw [← hra.out]; exact Rs.rget_range h.ok i
  have hRb : Hid (Rs.InR rb) := by unfold Hid; rw [← hrb.out]; exact Rs.rget_range h.ok j
  have hRc : Hid (Rs.InR rc) := by unfold Hid; rw [← hrc.out]; exact Rs.rget_range h.ok k
  have hex : Hid (Rs.exec 21 i j k n m = (Rs.adv (Rs.setReg m i (bits .or .i64 (wrap64 (ra * 65536)) n)) (m.pc + 1), 6)) := by
    unfold Hid Rs.exec Rs.rget
    simp only [Int.toNat_natCast, hra.out, hrb.out, hrc.out]
    simp [Rs.simp]
  rw [hex.out]
  have hA : Hid (Rs.InR (bits .or .i64 (wrap64 (ra * 65536)) n)) := by
    unfold Hid
    have := Rs.simp_range (op := 21) (a := ra) (n := n) hRb.out (by unfold Rs.InR; omega)
    simpa [Rs.simp] using this
  have H := Lib.hid h
  clear h
  by_cases hi0 : i = 0
  · subst hi0
    have hset : Hid (Rs.setReg m ((0 : Nat) : Int) (bits .or .i64 (wrap64 (ra * 65536)) n) = m) := if_pos rfl
    rw [hset.out]
    go_enter Try.func29, Try.ntmps29
    go_wp2_with fail
    go_quiet (fail)
    go_wp2_with fail
    go_quiet (fail)
    go_wp2
    go_ret
    exact ⟨rfl, ⟨_, ov, MSt.adv (by first | exact (H.out.alloc _).drewN _ | exact ((H.out.alloc _).drewN _).drewN _) _ _ rfl⟩, Below.setCell (Below.setCell (by first | exact below_drewN ((Below.refl _ _).alloc (by omega) _) _ | exact below_drewN (below_drewN ((Below.refl _ _).alloc (by omega) _) _) _) hb _) hb _, by simp [World.setCell]⟩
  · have hset : Hid (Rs.setReg m (i : Int) (bits .or .i64 (wrap64 (ra * 65536)) n) = { m with regs := m.regs.set i (bits .or .i64 (wrap64 (ra * 65536)) n) }) := by unfold Hid Rs.setReg; rw [if_neg (by omega), Int.toNat_natCast]
    rw [hset.out]
    have hi1 : ((i : Int) != 0) = true := by rw [bne_iff_ne]; omega
    clear hi0
    go_enter Try.func29, Try.ntmps29
    go_wp2_with fail
    go_quiet (fail)
    go_wp2_with fail
    go_quiet (fail)
    go_wp2
    refine wp_still_tl 7 (by kernel_rfl) (by kernel_rfl) ?_
    simp only [List.take_succ_cons, List.take_zero, List.drop_succ_cons, List.drop_zero]
    repeat still_step
    refine wpStill_nil ?_
    show wpList _ _ _ _ _ _
    go_wp2
    go_ret
    exact ⟨rfl, ⟨_, ov, MSt.adv (MSt.setR (by first | exact (H.out.alloc _).drewN _ | exact ((H.out.alloc _).drewN _).drewN _) hi hA.out) _ _ rfl⟩, Below.setCell (Below.setCell (Below.setCell (by first | exact below_drewN ((Below.refl _ _).alloc (by omega) _) _ | exact below_drewN (below_drewN ((Below.refl _ _).alloc (by omega) _) _) _) hb _) hb _) hb _, by simp [World.setCell]⟩

set_option maxHeartbeats 8000000 in
set_option maxRecDepth 100000 in
theorem next_s18 (B : Bd) (g : Nat) (st : Int) (m : Rs.M) (mv ov : Value) (q : Nat) (hq : q < 64) (i j k : Nat) (w : World) (h : MSt B w g 73 st m mv ov) (hi : i < 32) (hj : j < 32) (hk : k < 32) (hp1 : 0 ≤ m.pc) (hp2 : m.pc ≤ 1048576) (hs1 : 0 ≤ m.steps) (hs2 : m.steps ≤ 1000000000000) :
    Calls Try.prog 29 #[.pointer (some ⟨g, 0, none⟩), iv 18 i j k q] w (StepPost B g 73 st (Rs.exec 18 i j k q m) w) := by
  unfold iv
  have c1 := h.c1
  have c3 := h.c3
  have c4 := h.c4
  have f1 := h.fz 1
  have f3 := h.fz 3
  have f4 := h.fz 4
  have ci := h.cR hi
  have cj := h.cR hj
  have ck := h.cR hk
  have fi := h.fz (5 + i)
  have hlt := h.lt
  have hb := h.base
  obtain ⟨ra, hra⟩ : ∃ ra, Hid (m.regs.getD i 0 = ra) := ⟨_, rfl⟩
  obtain ⟨rb, hrb⟩ : ∃ rb, Hid (m.regs.getD j 0 = rb) := ⟨_, rfl⟩
  obtain ⟨rc, hrc⟩ : ∃ rc, Hid (m.regs.getD k 0 = rc) := ⟨_, rfl⟩
  rw [hra.out] at ci
  rw [hrb.out] at cj
  rw [hrc.out] at ck
  have hRa : Hid (Rs.InR ra) := by unfold Hid; rw [← hra.out]; exact Rs.rget_range h.ok i
  have hRb : Hid (Rs.InR rb) := by unfold Hid; rw [← hrb.out]; exact Rs.rget_range h.ok j
  have hRc : Hid (Rs.InR rc) := by unfold Hid; rw [← hrc.out]; exact Rs.rget_range h.ok k
  have hkw : IntKind.u64.wrap (q : Int) = q := by rw [IntKind.wrap_u64]; omega
  have hex : Hid (Rs.exec 18 i j k q m = (Rs.adv (Rs.setReg m i (wrap64 (rb * 2 ^ q))) (m.pc + 1), 6)) := by
    unfold Hid Rs.exec Rs.rget
    simp only [Int.toNat_natCast, hra.out, hrb.out, hrc.out]
    simp [Rs.simp]
  rw [hex.out]
  have hA : Hid (Rs.InR (wrap64 (rb * 2 ^ q))) := by
    unfold Hid
    have := Rs.simp_range (op := 18) (a := ra) (n := (q : Int)) hRb.out (by unfold Rs.InR; omega)
    simpa [Rs.simp] using this
  have H := Lib.hid h
  clear h
  by_cases hi0 : i = 0
  · subst hi0
    have hset : Hid (Rs.setReg m ((0 : Nat) : Int) (wrap64 (rb * 2 ^ q)) = m) := if_pos rfl
    rw [hset.out]
    go_enter Try.func29, Try.ntmps29
    go_wp2_with fail
    go_quiet (fail)
    go_wp2_with fail
    go_quiet (fail)
    go_wp2
    go_ret
    exact ⟨rfl, ⟨_, ov, MSt.adv (by first | exact (H.out.alloc _).drewN _ | exact ((H.out.alloc _).drewN _).drewN _) _ _ rfl⟩, Below.setCell (Below.setCell (by first | exact below_drewN ((Below.refl _ _).alloc (by omega) _) _ | exact below_drewN (below_drewN ((Below.refl _ _).alloc (by omega) _) _) _) hb _) hb _, by simp [World.setCell]⟩
  · have hset : Hid (Rs.setReg m (i : Int) (wrap64 (rb * 2 ^ q)) = { m with regs := m.regs.set i (wrap64 (rb * 2 ^ q)) }) := by unfold Hid Rs.setReg; rw [if_neg (by omega), Int.toNat_natCast]
    rw [hset.out]
    have hi1 : ((i : Int) != 0) = true := by rw [bne_iff_ne]; omega
    clear hi0
    go_enter Try.func29, Try.ntmps29
    go_wp2_with fail
    go_quiet (fail)
    go_wp2_with fail
    go_quiet (fail)
    go_wp2
    refine wp_still_tl 7 (by kernel_rfl) (by kernel_rfl) ?_
    simp only [List.take_succ_cons, List.take_zero, List.drop_succ_cons, List.drop_zero]
    repeat still_step
    refine wpStill_nil ?_
    show wpList _ _ _ _ _ _
    go_wp2
    go_ret
    exact ⟨rfl, ⟨_, ov, MSt.adv (MSt.setR (by first | exact (H.out.alloc _).drewN _ | exact ((H.out.alloc _).drewN _).drewN _) hi hA.out) _ _ rfl⟩, Below.setCell (Below.setCell (Below.setCell (by first | exact below_drewN ((Below.refl _ _).alloc (by omega) _) _ | exact below_drewN (below_drewN ((Below.refl _ _).alloc (by omega) _) _) _) hb _) hb _) hb _, by simp [World.setCell]⟩

set_option maxHeartbeats 8000000 in
set_option maxRecDepth 100000 in
theorem next_s19 (B : Bd) (g : Nat) (st : Int) (m : Rs.M) (mv ov : Value) (q : Nat) (hq : q < 64) (i j k : Nat) (w : World) (h : MSt B w g 73 st m mv ov) (hi : i < 32) (hj : j < 32) (hk : k < 32) (hp1 : 0 ≤ m.pc) (hp2 : m.pc ≤ 1048576) (hs1 : 0 ≤ m.steps) (hs2 : m.steps ≤ 1000000000000) :
    Calls Try.prog 29 #[.pointer (some ⟨g, 0, none⟩), iv 19 i j k q] w (StepPost B g 73 st (Rs.exec 19 i j k q m) w) := by
  unfold iv
  have c1 := h.c1
  have c3 := h.c3
  have c4 := h.c4
  have f1 := h.fz 1
  have f3 := h.fz 3
  have f4 := h.fz 4
  have ci := h.cR hi
  have cj := h.cR hj
  have ck := h.cR hk
  have fi := h.fz (5 + i)
  have hlt := h.lt
  have hb := h.base
  obtain ⟨ra, hra⟩ : ∃ ra, Hid (m.regs.getD i 0 = ra) := ⟨_, rfl⟩
  obtain ⟨rb, hrb⟩ : ∃ rb, Hid (m.regs.getD j 0 = rb) := ⟨_, rfl⟩
  obtain ⟨rc, hrc⟩ : ∃ rc, Hid (m.regs.getD k 0 = rc) := ⟨_, rfl⟩
  rw [hra.out] at ci
  rw [hrb.out] at cj
  rw [hrc.out] at ck
  have hRa : Hid (Rs.InR ra) := by unfold Hid; rw [← hra.out]; exact Rs.rget_range h.ok i
  have hRb : Hid (Rs.InR rb) := by unfold Hid; rw [← hrb.out]; exact Rs.rget_range h.ok j
  have hRc : Hid (Rs.InR rc) := by unfold Hid; rw [← hrc.out]; exact Rs.rget_range h.ok k
  have hkw : IntKind.u64.wrap (q : Int) = q := by rw [IntKind.wrap_u64]; omega
  have hex : Hid (Rs.exec 19 i j k q m = (Rs.adv (Rs.setReg m i (rb / 2 ^ q)) (m.pc + 1), 6)) := by
    unfold Hid Rs.exec Rs.rget
    simp only [Int.toNat_natCast, hra.out, hrb.out, hrc.out]
    simp [Rs.simp]
  rw [hex.out]
  have hA : Hid (Rs.InR (rb / 2 ^ q)) := by
    unfold Hid
    have := Rs.simp_range (op := 19) (a := ra) (n := (q : Int)) hRb.out (by unfold Rs.InR; omega)
    simpa [Rs.simp] using this
  have H := Lib.hid h
  clear h
  by_cases hi0 : i = 0
  · subst hi0
    have hset : Hid (Rs.setReg m ((0 : Nat) : Int) (rb / 2 ^ q) = m) := if_pos rfl
    rw [hset.out]
    go_enter Try.func29, Try.ntmps29
    go_wp2_with fail
    go_quiet (fail)
    go_wp2_with fail
    go_quiet (fail)
    go_wp2
    go_ret
    exact ⟨rfl, ⟨_, ov, MSt.adv (by first | exact (H.out.alloc _).drewN _ | exact ((H.out.alloc _).drewN _).drewN _) _ _ rfl⟩, Below.setCell (Below.setCell (by first | exact below_drewN ((Below.refl _ _).alloc (by omega) _) _ | exact below_drewN (below_drewN ((Below.refl _ _).alloc (by omega) _) _) _) hb _) hb _, by simp [World.setCell]⟩
  · have hset : Hid (Rs.setReg m (i : Int) (rb / 2 ^ q) = { m with regs := m.regs.set i (rb / 2 ^ q) }) := by unfold Hid Rs.setReg; rw [if_neg (by omega), Int.toNat_natCast]
    rw [hset.out]
    have hi1 : ((i : Int) != 0) = true := by rw [bne_iff_ne]; omega
    clear hi0
    go_enter Try.func29, Try.ntmps29
    go_wp2_with fail
    go_quiet (fail)
    go_wp2_with fail
    go_quiet (fail)
    go_wp2
    refine wp_still_tl 7 (by kernel_rfl) (by kernel_rfl) ?_
    simp only [List.take_succ_cons, List.take_zero, List.drop_succ_cons, List.drop_zero]
    repeat still_step
    refine wpStill_nil ?_
    show wpList _ _ _ _ _ _
    go_wp2
    go_ret
    exact ⟨rfl, ⟨_, ov, MSt.adv (MSt.setR (by first | exact (H.out.alloc _).drewN _ | exact ((H.out.alloc _).drewN _).drewN _) hi hA.out) _ _ rfl⟩, Below.setCell (Below.setCell (Below.setCell (by first | exact below_drewN ((Below.refl _ _).alloc (by omega) _) _ | exact below_drewN (below_drewN ((Below.refl _ _).alloc (by omega) _) _) _) hb _) hb _) hb _, by simp [World.setCell]⟩

set_option maxHeartbeats 8000000 in
set_option maxRecDepth 100000 in
theorem next_b24 (B : Bd) (g : Nat) (st : Int) (m : Rs.M) (mv ov : Value)  (i j k : Nat) (n : Int) (w : World) (h : MSt B w g 73 st m mv ov) (hi : i < 32) (hj : j < 32) (hk : k < 32) (hn1 : -1048576 ≤ n) (hn2 : n ≤ 1048575) (hp1 : 0 ≤ m.pc) (hp2 : m.pc ≤ 1048576) (hs1 : 0 ≤ m.steps) (hs2 : m.steps ≤ 1000000000000) :
    Calls Try.prog 29 #[.pointer (some ⟨g, 0, none⟩), iv 24 i j k n] w (StepPost B g 73 st (Rs.exec 24 i j k n m) w) := by
  unfold iv
  have c1 := h.c1
  have c3 := h.c3
  have c4 := h.c4
  have f1 := h.fz 1
  have f3 := h.fz 3
  have f4 := h.fz 4
  have ci := h.cR hi
  have cj := h.cR hj
  have ck := h.cR hk
  have fi := h.fz (5 + i)
  have hlt := h.lt
  have hb := h.base
  obtain ⟨ra, hra⟩ : ∃ ra, Hid (m.regs.getD i 0 = ra) := ⟨_, rfl⟩
  obtain ⟨rb, hrb⟩ : ∃ rb, Hid (m.regs.getD j 0 = rb) := ⟨_, rfl⟩
  obtain ⟨rc, hrc⟩ : ∃ rc, Hid (m.regs.getD k 0 = rc) := ⟨_, rfl⟩
  rw [hra.out] at ci
  rw [hrb.out] at cj
  rw [hrc.out] at ck
  have hRa : Hid (Rs.InR ra) := by unfold Hid; rw [← hra.out]; exact Rs.rget_range h.ok i
  have hRb : Hid (Rs.InR rb) := by unfold Hid; rw [← hrb.out]; exact Rs.rget_range h.ok j
  have hRc : Hid (Rs.InR rc) := by unfold Hid; rw [← hrc.out]; exact Rs.rget_range h.ok k
  have H := Lib.hid h
  clear h
  by_cases ht : ra = rb
  · have hex : Hid (Rs.exec 24 i j k n m = (Rs.adv m (m.pc + n), 6)) := by
      unfold Hid Rs.exec Rs.rget
      simp only [Int.toNat_natCast, hra.out, hrb.out, hrc.out]
      simp [Rs.takenB, ht]
    rw [hex.out]
    have ht2 : (ra == rb) = true := by rw [beq_iff_eq]; exact ht
    clear ht
    go_enter Try.func29, Try.ntmps29
    go_wp2_with fail
    go_quiet (fail)
    go_wp2_with fail
    go_quiet (fail)
    go_wp2
    go_quiet (fail)
    go_wp2
    go_ret
    exact ⟨rfl, ⟨mv, ov, MSt.adv (by first | exact (H.out.alloc _).drewN _ | exact ((H.out.alloc _).drewN _).drewN _) _ _ rfl⟩, Below.setCell (Below.setCell (by first | exact below_drewN ((Below.refl _ _).alloc (by omega) _) _ | exact below_drewN (below_drewN ((Below.refl _ _).alloc (by omega) _) _) _) hb _) hb _, by simp [World.setCell]⟩
  · have hex : Hid (Rs.exec 24 i j k n m = (Rs.adv m (m.pc + 1), 6)) := by
      unfold Hid Rs.exec Rs.rget
      simp only [Int.toNat_natCast, hra.out, hrb.out, hrc.out]
      simp [Rs.takenB, ht]
    rw [hex.out]
    have ht2 : (ra == rb) = false := by rw [beq_eq_false_iff_ne]; exact ht
    clear ht
    go_enter Try.func29, Try.ntmps29
    go_wp2_with fail
    go_quiet (fail)
    go_wp2_with fail
    go_quiet (fail)
    go_wp2
    go_ret
    exact ⟨rfl, ⟨mv, ov, MSt.adv (by first | exact (H.out.alloc _).drewN _ | exact ((H.out.alloc _).drewN _).drewN _) _ _ rfl⟩, Below.setCell (Below.setCell (by first | exact below_drewN ((Below.refl _ _).alloc (by omega) _) _ | exact below_drewN (below_drewN ((Below.refl _ _).alloc (by omega) _) _) _) hb _) hb _, by simp [World.setCell]⟩

set_option maxHeartbeats 8000000 in
set_option maxRecDepth 100000 in
theorem next_b25 (B : Bd) (g : Nat) (st : Int) (m : Rs.M) (mv ov : Value)  (i j k : Nat) (n : Int) (w : World) (h : MSt B w g 73 st m mv ov) (hi : i < 32) (hj : j < 32) (hk : k < 32) (hn1 : -1048576 ≤ n) (hn2 : n ≤ 1048575) (hp1 : 0 ≤ m.pc) (hp2 : m.pc ≤ 1048576) (hs1 : 0 ≤ m.steps) (hs2 : m.steps ≤ 1000000000000) :
    Calls Try.prog 29 #[.pointer (some ⟨g, 0, none⟩), iv 25 i j k n] w (StepPost B g 73 st (Rs.exec 25 i j k n m) w) := by
  unfold iv
  have c1 := h.c1
  have c3 := h.c3
  have c4 := h.c4
  have f1 := h.fz 1
  have f3 := h.fz 3
  have f4 := h.fz 4
  have ci := h.cR hi
  have cj := h.cR hj
  have ck := h.cR hk
  have fi := h.fz (5 + i)
  have hlt := h.lt
  have hb := h.base
  obtain ⟨ra, hra⟩ : ∃ ra, Hid (m.regs.getD i 0 = ra) := ⟨_, rfl⟩
  obtain ⟨rb, hrb⟩ : ∃ rb, Hid (m.regs.getD j 0 = rb) := ⟨_, rfl⟩
  obtain ⟨rc, hrc⟩ : ∃ rc, Hid (m.regs.getD k 0 = rc) := ⟨_, rfl⟩
  rw [hra.out] at ci
  rw [hrb.out] at cj
  rw [hrc.out] at ck
  have hRa : Hid (Rs.InR ra) := by unfold Hid; rw [← hra.out]; exact Rs.rget_range h.ok i
  have hRb : Hid (Rs.InR rb) := by unfold Hid; rw [← hrb.out]; exact Rs.rget_range h.ok j
  have hRc : Hid (Rs.InR rc) := by unfold Hid; rw [← hrc.out]; exact Rs.rget_range h.ok k
  have H := Lib.hid h
  clear h
  by_cases ht : ra ≠ rb
  · have hex : Hid (Rs.exec 25 i j k n m = (Rs.adv m (m.pc + n), 6)) := by
      unfold Hid Rs.exec Rs.rget
      simp only [Int.toNat_natCast, hra.out, hrb.out, hrc.out]
      simp [Rs.takenB, ht]
    rw [hex.out]
    have ht2 : (ra != rb) = true := by rw [bne_iff_ne]; exact ht
    clear ht
    go_enter Try.func29, Try.ntmps29
    go_wp2_with fail
    go_quiet (fail)
    go_wp2_with fail
    go_quiet (fail)
    go_wp2
    go_quiet (fail)
    go_wp2
    go_ret
    exact ⟨rfl, ⟨mv, ov, MSt.adv (by first | exact (H.out.alloc _).drewN _ | exact ((H.out.alloc _).drewN _).drewN _) _ _ rfl⟩, Below.setCell (Below.setCell (by first | exact below_drewN ((Below.refl _ _).alloc (by omega) _) _ | exact below_drewN (below_drewN ((Below.refl _ _).alloc (by omega) _) _) _) hb _) hb _, by simp [World.setCell]⟩
  · have hex : Hid (Rs.exec 25 i j k n m = (Rs.adv m (m.pc + 1), 6)) := by
      unfold Hid Rs.exec Rs.rget
      simp only [Int.toNat_natCast, hra.out, hrb.out, hrc.out]
      simp [Rs.takenB, ht]
    rw [hex.out]
    have ht2 : (ra != rb) = false := by simpa using ht
    clear ht
    go_enter Try.func29, Try.ntmps29
    go_wp2_with fail
    go_quiet (fail)
    go_wp2_with fail
    go_quiet (fail)
    go_wp2
    go_ret
    exact ⟨rfl, ⟨mv, ov, MSt.adv (by first | exact (H.out.alloc _).drewN _ | exact ((H.out.alloc _).drewN _).drewN _) _ _ rfl⟩, Below.setCell (Below.setCell (by first | exact below_drewN ((Below.refl _ _).alloc (by omega) _) _ | exact below_drewN (below_drewN ((Below.refl _ _).alloc (by omega) _) _) _) hb _) hb _, by simp [World.setCell]⟩

set_option maxHeartbeats 8000000 in
set_option maxRecDepth 100000 in
theorem next_b26 (B : Bd) (g : Nat) (st : Int) (m : Rs.M) (mv ov : Value)  (i j k : Nat) (n : Int) (w : World) (h : MSt B w g 73 st m mv ov) (hi : i < 32) (hj : j < 32) (hk : k < 32) (hn1 : -1048576 ≤ n) (hn2 : n ≤ 1048575) (hp1 : 0 ≤ m.pc) (hp2 : m.pc ≤ 1048576) (hs1 : 0 ≤ m.steps) (hs2 : m.steps ≤ 1000000000000) :
    Calls Try.prog 29 #[.pointer (some ⟨g, 0, none⟩), iv 26 i j k n] w (StepPost B g 73 st (Rs.exec 26 i j k n m) w) := by
  unfold iv
  have c1 := h.c1
  have c3 := h.c3
  have c4 := h.c4
  have f1 := h.fz 1
  have f3 := h.fz 3
  have f4 := h.fz 4
  have ci := h.cR hi
  have cj := h.cR hj
  have ck := h.cR hk
  have fi := h.fz (5 + i)
  have hlt := h.lt
  have hb := h.base
  obtain ⟨ra, hra⟩ : ∃ ra, Hid (m.regs.getD i 0 = ra) := ⟨_, rfl⟩
  obtain ⟨rb, hrb⟩ : ∃ rb, Hid (m.regs.getD j 0 = rb) := ⟨_, rfl⟩
  obtain ⟨rc, hrc⟩ : ∃ rc, Hid (m.regs.getD k 0 = rc) := ⟨_, rfl⟩
  rw [hra.out] at ci
  rw [hrb.out] at cj
  rw [hrc.out] at ck
  have hRa : Hid (Rs.InR ra) := by unfold Hid; rw [← hra.out]; exact Rs.rget_range h.ok i
  have hRb : Hid (Rs.InR rb) := by unfold Hid; rw [← hrb.out]; exact Rs.rget_range h.ok j
  have hRc : Hid (Rs.InR rc) := by unfold Hid; rw [← hrc.out]; exact Rs.rget_range h.ok k
  have H := Lib.hid h
  clear h
  by_cases ht : ra < rb
  · have hex : Hid (Rs.exec 26 i j k n m = (Rs.adv m (m.pc + n), 6)) := by
      unfold Hid Rs.exec Rs.rget
      simp only [Int.toNat_natCast, hra.out, hrb.out, hrc.out]
      simp [Rs.takenB, ht]
    rw [hex.out]
    have ht2 : ra < rb := ht
    clear ht
    go_enter Try.func29, Try.ntmps29
    go_wp2_with fail
    go_quiet (fail)
    go_wp2_with fail
    go_quiet (fail)
    go_wp2
    go_quiet (fail)
    go_wp2
    go_ret
    exact ⟨rfl, ⟨mv, ov, MSt.adv (by first | exact (H.out.alloc _).drewN _ | exact ((H.out.alloc _).drewN _).drewN _) _ _ rfl⟩, Below.setCell (Below.setCell (by first | exact below_drewN ((Below.refl _ _).alloc (by omega) _) _ | exact below_drewN (below_drewN ((Below.refl _ _).alloc (by omega) _) _) _) hb _) hb _, by simp [World.setCell]⟩
  · have hex : Hid (Rs.exec 26 i j k n m = (Rs.adv m (m.pc + 1), 6)) := by
      unfold Hid Rs.exec Rs.rget
      simp only [Int.toNat_natCast, hra.out, hrb.out, hrc.out]
      simp [Rs.takenB, ht]
    rw [hex.out]
    have ht2 : ¬ ra < rb := ht
    clear ht
    go_enter Try.func29, Try.ntmps29
    go_wp2_with fail
    go_quiet (fail)
    go_wp2_with fail
    go_quiet (fail)
    go_wp2
    go_ret
    exact ⟨rfl, ⟨mv, ov, MSt.adv (by first | exact (H.out.alloc _).drewN _ | exact ((H.out.alloc _).drewN _).drewN _) _ _ rfl⟩, Below.setCell (Below.setCell (by first | exact below_drewN ((Below.refl _ _).alloc (by omega) _) _ | exact below_drewN (below_drewN ((Below.refl _ _).alloc (by omega) _) _) _) hb _) hb _, by simp [World.setCell]⟩

set_option maxHeartbeats 8000000 in
set_option maxRecDepth 100000 in
theorem next_b27 (B : Bd) (g : Nat) (st : Int) (m : Rs.M) (mv ov : Value)  (i j k : Nat) (n : Int) (w : World) (h : MSt B w g 73 st m mv ov) (hi : i < 32) (hj : j < 32) (hk : k < 32) (hn1 : -1048576 ≤ n) (hn2 : n ≤ 1048575) (hp1 : 0 ≤ m.pc) (hp2 : m.pc ≤ 1048576) (hs1 : 0 ≤ m.steps) (hs2 : m.steps ≤ 1000000000000) :
    Calls Try.prog 29 #[.pointer (some ⟨g, 0, none⟩), iv 27 i j k n] w (StepPost B g 73 st (Rs.exec 27 i j k n m) w) := by
  unfold iv
  have c1 := h.c1
  have c3 := h.c3
  have c4 := h.c4
  have f1 := h.fz 1
  have f3 := h.fz 3
  have f4 := h.fz 4
  have ci := h.cR hi
  have cj := h.cR hj
  have ck := h.cR hk
  have fi := h.fz (5 + i)
  have hlt := h.lt
  have hb := h.base
  obtain ⟨ra, hra⟩ : ∃ ra, Hid (m.regs.getD i 0 = ra) := ⟨_, rfl⟩
  obtain ⟨rb, hrb⟩ : ∃ rb, Hid (m.regs.getD j 0 = rb) := ⟨_, rfl⟩
  obtain ⟨rc, hrc⟩ : ∃ rc, Hid (m.regs.getD k 0 = rc) := ⟨_, rfl⟩
  rw [hra.out] at ci
  rw [hrb.out] at cj
  rw [hrc.out] at ck
  have hRa : Hid (Rs.InR ra) := by unfold Hid; rw [← hra.out]; exact Rs.rget_range h.ok i
  have hRb : Hid (Rs.InR rb) := by unfold Hid; rw [← hrb.out]; exact Rs.rget_range h.ok j
  have hRc : Hid (Rs.InR rc) := by unfold Hid; rw [← hrc.out]; exact Rs.rget_range h.ok k
  have H := Lib.hid h
  clear h
  by_cases ht : rb ≤ ra
  · have hex : Hid (Rs.exec 27 i j k n m = (Rs.adv m (m.pc + n), 6)) := by
      unfold Hid Rs.exec Rs.rget
      simp only [Int.toNat_natCast, hra.out, hrb.out, hrc.out]
      simp [Rs.takenB, ht]
    rw [hex.out]
    have ht2 : rb ≤ ra := ht
    clear ht
    go_enter Try.func29, Try.ntmps29
    go_wp2_with fail
    go_quiet (fail)
    go_wp2_with fail
    go_quiet (fail)
    go_wp2
    go_quiet (fail)
    go_wp2
    go_ret
    exact ⟨rfl, ⟨mv, ov, MSt.adv (by first | exact (H.out.alloc _).drewN _ | exact ((H.out.alloc _).drewN _).drewN _) _ _ rfl⟩, Below.setCell (Below.setCell (by first | exact below_drewN ((Below.refl _ _).alloc (by omega) _) _ | exact below_drewN (below_drewN ((Below.refl _ _).alloc (by omega) _) _) _) hb _) hb _, by simp [World.setCell]⟩
  · have hex : Hid (Rs.exec 27 i j k n m = (Rs.adv m (m.pc + 1), 6)) := by
      unfold Hid Rs.exec Rs.rget
      simp only [Int.toNat_natCast, hra.out, hrb.out, hrc.out]
      simp [Rs.takenB, ht]
    rw [hex.out]
    have ht2 : ¬ rb ≤ ra := ht
    clear ht
    go_enter Try.func29, Try.ntmps29
    go_wp2_with fail
    go_quiet (fail)
    go_wp2_with fail
    go_quiet (fail)
    go_wp2
    go_ret
    exact ⟨rfl, ⟨mv, ov, MSt.adv (by first | exact (H.out.alloc _).drewN _ | exact ((H.out.alloc _).drewN _).drewN _) _ _ rfl⟩, Below.setCell (Below.setCell (by first | exact below_drewN ((Below.refl _ _).alloc (by omega) _) _ | exact below_drewN (below_drewN ((Below.refl _ _).alloc (by omega) _) _) _) hb _) hb _, by simp [World.setCell]⟩

set_option maxHeartbeats 8000000 in
set_option maxRecDepth 100000 in
theorem next_jal (B : Bd) (g : Nat) (st : Int) (m : Rs.M) (mv ov : Value)  (i j k : Nat) (n : Int) (w : World) (h : MSt B w g 73 st m mv ov) (hi : i < 32) (hj : j < 32) (hk : k < 32) (hn1 : -1048576 ≤ n) (hn2 : n ≤ 1048575) (hp1 : 0 ≤ m.pc) (hp2 : m.pc ≤ 1048576) (hs1 : 0 ≤ m.steps) (hs2 : m.steps ≤ 1000000000000) :
    Calls Try.prog 29 #[.pointer (some ⟨g, 0, none⟩), iv 28 i j k n] w (StepPost B g 73 st (Rs.exec 28 i j k n m) w) := by
  unfold iv
  have c1 := h.c1
  have c3 := h.c3
  have c4 := h.c4
  have f1 := h.fz 1
  have f3 := h.fz 3
  have f4 := h.fz 4
  have ci := h.cR hi
  have cj := h.cR hj
  have ck := h.cR hk
  have fi := h.fz (5 + i)
  have hlt := h.lt
  have hb := h.base
  obtain ⟨ra, hra⟩ : ∃ ra, Hid (m.regs.getD i 0 = ra) := ⟨_, rfl⟩
  obtain ⟨rb, hrb⟩ : ∃ rb, Hid (m.regs.getD j 0 = rb) := ⟨_, rfl⟩
  obtain ⟨rc, hrc⟩ : ∃ rc, Hid (m.regs.getD k 0 = rc) := ⟨_, rfl⟩
  rw [hra.out] at ci
  rw [hrb.out] at cj
  rw [hrc.out] at ck
  have hRa : Hid (Rs.InR ra) := by unfold Hid; rw [← hra.out]; exact Rs.rget_range h.ok i
  have hRb : Hid (Rs.InR rb) := by unfold Hid; rw [← hrb.out]; exact Rs.rget_range h.ok j
  have hRc : Hid (Rs.InR rc) := by unfold Hid; rw [← hrc.out]; exact Rs.rget_range h.ok k
  have hex : Hid (Rs.exec 28 i j k n m = (Rs.adv (Rs.setReg m i (m.pc + 1)) (m.pc + n), 6)) := by
    unfold Hid Rs.exec Rs.rget
    simp only [Int.toNat_natCast, hra.out, hrb.out, hrc.out]
    simp
  rw [hex.out]
  have H := Lib.hid h
  clear h
  by_cases hi0 : i = 0
  · subst hi0
    have hset : Hid (Rs.setReg m ((0 : Nat) : Int) (m.pc + 1) = m) := if_pos rfl
    rw [hset.out]
    go_enter Try.func29, Try.ntmps29
    go_wp2_with fail
    go_quiet (fail)
    go_wp2_with fail
    go_quiet (fail)
    go_wp2
    go_quiet (fail)
    go_wp2
    go_ret
    exact ⟨rfl, ⟨_, ov, MSt.adv (by first | exact (H.out.alloc _).drewN _ | exact ((H.out.alloc _).drewN _).drewN _) _ _ rfl⟩, Below.setCell (Below.setCell (by first | exact below_drewN ((Below.refl _ _).alloc (by omega) _) _ | exact below_drewN (below_drewN ((Below.refl _ _).alloc (by omega) _) _) _) hb _) hb _, by simp [World.setCell]⟩
  · have hset : Hid (Rs.setReg m (i : Int) (m.pc + 1) = { m with regs := m.regs.set i (m.pc + 1) }) := by unfold Hid Rs.setReg; rw [if_neg (by omega), Int.toNat_natCast]
    rw [hset.out]
    have hi1 : ((i : Int) != 0) = true := by rw [bne_iff_ne]; omega
    clear hi0
    go_enter Try.func29, Try.ntmps29
    go_wp2_with fail
    go_quiet (fail)
    go_wp2_with fail
    go_quiet (fail)
    go_wp2
    go_quiet (fail)
    go_wp2
    refine wp_still_tl 7 (by kernel_rfl) (by kernel_rfl) ?_
    simp only [List.take_succ_cons, List.take_zero, List.drop_succ_cons, List.drop_zero]
    repeat still_step
    refine wpStill_nil ?_
    show wpList _ _ _ _ _ _
    go_wp2
    go_ret
    exact ⟨rfl, ⟨_, ov, MSt.adv (MSt.setR (by first | exact (H.out.alloc _).drewN _ | exact ((H.out.alloc _).drewN _).drewN _) hi (by unfold Rs.InR; omega)) _ _ rfl⟩, Below.setCell (Below.setCell (Below.setCell (by first | exact below_drewN ((Below.refl _ _).alloc (by omega) _) _ | exact below_drewN (below_drewN ((Below.refl _ _).alloc (by omega) _) _) _) hb _) hb _) hb _, by simp [World.setCell]⟩

set_option maxHeartbeats 8000000 in
set_option maxRecDepth 100000 in
theorem next_jalr (B : Bd) (g : Nat) (st : Int) (m : Rs.M) (mv ov : Value)  (i j k : Nat) (n : Int) (w : World) (h : MSt B w g 73 st m mv ov) (hi : i < 32) (hj : j < 32) (hk : k < 32) (hn1 : -1048576 ≤ n) (hn2 : n ≤ 1048575) (hp1 : 0 ≤ m.pc) (hp2 : m.pc ≤ 1048576) (hs1 : 0 ≤ m.steps) (hs2 : m.steps ≤ 1000000000000) :
    Calls Try.prog 29 #[.pointer (some ⟨g, 0, none⟩), iv 29 i j k n] w (StepPost B g 73 st (Rs.exec 29 i j k n m) w) := by
  unfold iv
  have c1 := h.c1
  have c3 := h.c3
  have c4 := h.c4
  have f1 := h.fz 1
  have f3 := h.fz 3
  have f4 := h.fz 4
  have ci := h.cR hi
  have cj := h.cR hj
  have ck := h.cR hk
  have fi := h.fz (5 + i)
  have hlt := h.lt
  have hb := h.base
  obtain ⟨ra, hra⟩ : ∃ ra, Hid (m.regs.getD i 0 = ra) := ⟨_, rfl⟩
  obtain ⟨rb, hrb⟩ : ∃ rb, Hid (m.regs.getD j 0 = rb) := ⟨_, rfl⟩
  obtain ⟨rc, hrc⟩ : ∃ rc, Hid (m.regs.getD k 0 = rc) := ⟨_, rfl⟩
  rw [hra.out] at ci
  rw [hrb.out] at cj
  rw [hrc.out] at ck
  have hRa : Hid (Rs.InR ra) := by unfold Hid; rw [← hra.out]; exact Rs.rget_range h.ok i
  have hRb : Hid (Rs.InR rb) := by unfold Hid; rw [← hrb.out]; exact Rs.rget_range h.ok j
  have hRc : Hid (Rs.InR rc) := by unfold Hid; rw [← hrc.out]; exact Rs.rget_range h.ok k
  have hex : Hid (Rs.exec 29 i j k n m = (Rs.adv (Rs.setReg m i (m.pc + 1)) (rb), 6)) := by
    unfold Hid Rs.exec Rs.rget
    simp only [Int.toNat_natCast, hra.out, hrb.out, hrc.out]
    simp
  rw [hex.out]
  have H := Lib.hid h
  clear h
  by_cases hi0 : i = 0
  · subst hi0
    have hset : Hid (Rs.setReg m ((0 : Nat) : Int) (m.pc + 1) = m) := if_pos rfl
    rw [hset.out]
    go_enter Try.func29, Try.ntmps29
    go_wp2_with fail
    go_quiet (fail)
    go_wp2_with fail
    go_quiet (fail)
    go_wp2
    go_ret
    exact ⟨rfl, ⟨_, ov, MSt.adv (by first | exact (H.out.alloc _).drewN _ | exact ((H.out.alloc _).drewN _).drewN _) _ _ rfl⟩, Below.setCell (Below.setCell (by first | exact below_drewN ((Below.refl _ _).alloc (by omega) _) _ | exact below_drewN (below_drewN ((Below.refl _ _).alloc (by omega) _) _) _) hb _) hb _, by simp [World.setCell]⟩
  · have hset : Hid (Rs.setReg m (i : Int) (m.pc + 1) = { m with regs := m.regs.set i (m.pc + 1) }) := by unfold Hid Rs.setReg; rw [if_neg (by omega), Int.toNat_natCast]
    rw [hset.out]
    have hi1 : ((i : Int) != 0) = true := by rw [bne_iff_ne]; omega
    clear hi0
    go_enter Try.func29, Try.ntmps29
    go_wp2_with fail
    go_quiet (fail)
    go_wp2_with fail
    go_quiet (fail)
    go_wp2
    refine wp_still_tl 7 (by kernel_rfl) (by kernel_rfl) ?_
    simp only [List.take_succ_cons, List.take_zero, List.drop_succ_cons, List.drop_zero]
    repeat still_step
    refine wpStill_nil ?_
    show wpList _ _ _ _ _ _
    go_wp2
    go_ret
    exact ⟨rfl, ⟨_, ov, MSt.adv (MSt.setR (by first | exact (H.out.alloc _).drewN _ | exact ((H.out.alloc _).drewN _).drewN _) hi (by unfold Rs.InR; omega)) _ _ rfl⟩, Below.setCell (Below.setCell (Below.setCell (by first | exact below_drewN ((Below.refl _ _).alloc (by omega) _) _ | exact below_drewN (below_drewN ((Below.refl _ _).alloc (by omega) _) _) _) hb _) hb _) hb _, by simp [World.setCell]⟩
end Go.Proofs.Ytbcpflogkniojaa
