/- Steps of the reference's machine: memory, input, output. -/
import Derived.Test.YtbcpflogkniojaaQRiscNextA
import Derived.Deep.AppendLies
namespace Go.Proofs.Ytbcpflogkniojaa
open Go.RowKit
set_option linter.unusedVariables false
set_option linter.unusedSimpArgs false
theorem MSt.drw {B : Bd} {g T : Nat} {w : World} {st : Int} {m : Rs.M} {mv ov : Value} (h : MSt B w g T st m mv ov) : MSt B w.drew g T st m mv ov := h.hp rfl
theorem below_drw {B : Nat} {a w : World} (h : Below B a w) : Below B a w.drew := ⟨h.os, h.tape, h.output, h.size, h.block⟩

set_option maxHeartbeats 8000000 in
set_option maxRecDepth 100000 in
theorem next_lw (B : Bd) (g : Nat) (st : Int) (m : Rs.M) (mv ov : Value)  (i j k : Nat) (n : Int) (w : World) (h : MSt B w g 73 st m mv ov) (hi : i < 32) (hj : j < 32) (hk : k < 32) (hn1 : -1048576 ≤ n) (hn2 : n ≤ 1048575) (hp1 : 0 ≤ m.pc) (hp2 : m.pc ≤ 1048576) (hs1 : 0 ≤ m.steps) (hs2 : m.steps ≤ 1000000000000) :
    Calls Try.prog 29 #[.pointer (some ⟨g, 0, none⟩), iv 22 i j k n] w (StepPost B g 73 st (Rs.exec 22 i j k n m) w) := by
  unfold iv
  have c1 := h.c1
  have c3 := h.c3
  have c4 := h.c4
  have f1 := h.fz 1
  have f3 := h.fz 3
  have f4 := h.fz 4
  have ci := h.cR hi
  have cj := h.cR hj
  have ck := h.cR hk
  have fi := h.fz (5 + i)
  have hlt := h.lt
  have hb := h.base
  obtain ⟨ra, hra⟩ : ∃ ra, Hid (m.regs.getD i 0 = ra) := ⟨_, rfl⟩
  obtain ⟨rb, hrb⟩ : ∃ rb, Hid (m.regs.getD j 0 = rb) := ⟨_, rfl⟩
  obtain ⟨rc, hrc⟩ : ∃ rc, Hid (m.regs.getD k 0 = rc) := ⟨_, rfl⟩
  rw [hra.out] at ci
  rw [hrb.out] at cj
  rw [hrc.out] at ck
  have hRa : Hid (Rs.InR ra) := by unfold Hid; rw [← hra.out]; exact Rs.rget_range h.ok i
  have hRb : Hid (Rs.InR rb) := by unfold Hid; rw [← hrb.out]; exact Rs.rget_range h.ok j
  have hRc : Hid (Rs.InR rc) := by unfold Hid; rw [← hrc.out]; exact Rs.rget_range h.ok k
  obtain ⟨am, capm, rfl, hbm⟩ := h.mvForm
  have c37 := h.c37
  have hlen := h.ok.len
  obtain ⟨at', hat⟩ : ∃ z, wrap64 (rb + n) = z := ⟨_, rfl⟩
  have hml : (0 : Int) ≤ (m.mem.length : Int) := by omega
  rcases (by omega : at' < 0 ∨ (0 ≤ at' ∧ (m.mem.length : Int) ≤ at') ∨ (0 ≤ at' ∧ at' < (m.mem.length : Int))) with q1 | ⟨q1, q2⟩ | ⟨q1, q2⟩
  case inr.inr =>
    obtain ⟨q, rfl⟩ : ∃ q : Nat, at' = q := ⟨at'.toNat, by omega⟩
    have hq : q < m.mem.length := by omega
    obtain ⟨bm, rfl, hblt⟩ := hbm (by omega)
    have cq := own_ints h.mem q hq
    have hne : bm ≠ g := fun e => h.ne1 (by rw [e]; rfl)
    have hbb : B ≤ bm := (own_cap h.mem).1
    have hex : Hid (Rs.exec 22 i j k n m = (Rs.adv (Rs.setReg m i (m.mem.getD q 0)) (m.pc + 1), 6)) := by
      unfold Hid Rs.exec Rs.rget
      simp only [Int.toNat_natCast, hra.out, hrb.out, hrc.out]
      have hr : ¬ ((q : Int) < 0 ∨ (m.mem.length : Int) ≤ (q : Int)) := by omega
      simp [hat, hr, hq]
    rw [hex.out]
    have hRm : Hid (Rs.InR (m.mem.getD q 0)) := Rs.mem_range h.ok q
    obtain ⟨mq, hmq⟩ : ∃ z, Hid (m.mem.getD q 0 = z) := ⟨_, rfl⟩
    rw [hmq.out] at cq hRm ⊢
    have H := Lib.hid h
    clear h hbm
    by_cases hi0 : i = 0
    · subst hi0
      have hset : Hid (Rs.setReg m ((0 : Nat) : Int) (mq) = m) := if_pos rfl
      rw [hset.out]
      go_enter Try.func29, Try.ntmps29
      go_wp2_with fail
      go_quiet (fail)
      go_wp2_with fail
      go_quiet (fail)
      go_wp2
      go_ret
      exact ⟨rfl, ⟨_, ov, MSt.adv (by first | exact (H.out.alloc _).drewN _ | exact ((H.out.alloc _).drewN _).drewN _) _ _ rfl⟩, Below.setCell (Below.setCell (by first | exact below_drewN ((Below.refl _ _).alloc (by omega) _) _ | exact below_drewN (below_drewN ((Below.refl _ _).alloc (by omega) _) _) _) hb _) hb _, by simp [World.setCell]⟩
    · have hset : Hid (Rs.setReg m (i : Int) (mq) = { m with regs := m.regs.set i (mq) }) := by unfold Hid Rs.setReg; rw [if_neg (by omega), Int.toNat_natCast]
      rw [hset.out]
      have hi1 : ((i : Int) != 0) = true := by rw [bne_iff_ne]; omega
      clear hi0
      go_enter Try.func29, Try.ntmps29
      go_wp2_with fail
      go_quiet (fail)
      go_wp2_with fail
      go_quiet (fail)
      go_wp2
      refine wp_still_tl 7 (by kernel_rfl) (by kernel_rfl) ?_
      simp only [List.take_succ_cons, List.take_zero, List.drop_succ_cons, List.drop_zero]
      repeat still_step
      refine wpStill_nil ?_
      show wpList _ _ _ _ _ _
      go_wp2
      go_ret
      exact ⟨rfl, ⟨_, ov, MSt.adv (MSt.setR (by first | exact (H.out.alloc _).drewN _ | exact ((H.out.alloc _).drewN _).drewN _) hi hRm.out) _ _ rfl⟩, Below.setCell (Below.setCell (Below.setCell (by first | exact below_drewN ((Below.refl _ _).alloc (by omega) _) _ | exact below_drewN (below_drewN ((Below.refl _ _).alloc (by omega) _) _) _) hb _) hb _) hb _, by simp [World.setCell]⟩
  all_goals
    have hex : Hid (Rs.exec 22 i j k n m = (m, 2)) := by
      unfold Hid Rs.exec Rs.rget
      simp only [Int.toNat_natCast, hra.out, hrb.out, hrc.out]
      have hr : at' < 0 ∨ (m.mem.length : Int) ≤ at' := by omega
      simp [hat, hr]
    rw [hex.out]
    have H := Lib.hid h
    clear h hbm
    go_enter Try.func29, Try.ntmps29
    go_wp2_with fail
    go_quiet (fail)
    go_wp2_with fail
    go_quiet (fail)
    go_wp2
    go_ret
    exact ⟨rfl, ⟨_, ov, (by first | exact (H.out.alloc _).drewN _ | exact ((H.out.alloc _).drewN _).drewN _)⟩, (by first | exact below_drewN ((Below.refl _ _).alloc (by omega) _) _ | exact below_drewN (below_drewN ((Below.refl _ _).alloc (by omega) _) _) _), by simp⟩

set_option maxHeartbeats 8000000 in
set_option maxRecDepth 100000 in
theorem next_sw (B : Bd) (g : Nat) (st : Int) (m : Rs.M) (mv ov : Value)  (i j k : Nat) (n : Int) (w : World) (h : MSt B w g 73 st m mv ov) (hi : i < 32) (hj : j < 32) (hk : k < 32) (hn1 : -1048576 ≤ n) (hn2 : n ≤ 1048575) (hp1 : 0 ≤ m.pc) (hp2 : m.pc ≤ 1048576) (hs1 : 0 ≤ m.steps) (hs2 : m.steps ≤ 1000000000000) :
    Calls Try.prog 29 #[.pointer (some ⟨g, 0, none⟩), iv 23 i j k n] w (StepPost B g 73 st (Rs.exec 23 i j k n m) w) := by
  unfold iv
  have c1 := h.c1
  have c3 := h.c3
  have c4 := h.c4
  have f1 := h.fz 1
  have f3 := h.fz 3
  have f4 := h.fz 4
  have ci := h.cR hi
  have cj := h.cR hj
  have ck := h.cR hk
  have fi := h.fz (5 + i)
  have hlt := h.lt
  have hb := h.base
  obtain ⟨ra, hra⟩ : ∃ ra, Hid (m.regs.getD i 0 = ra) := ⟨_, rfl⟩
  obtain ⟨rb, hrb⟩ : ∃ rb, Hid (m.regs.getD j 0 = rb) := ⟨_, rfl⟩
  obtain ⟨rc, hrc⟩ : ∃ rc, Hid (m.regs.getD k 0 = rc) := ⟨_, rfl⟩
  rw [hra.out] at ci
  rw [hrb.out] at cj
  rw [hrc.out] at ck
  have hRa : Hid (Rs.InR ra) := by unfold Hid; rw [← hra.out]; exact Rs.rget_range h.ok i
  have hRb : Hid (Rs.InR rb) := by unfold Hid; rw [← hrb.out]; exact Rs.rget_range h.ok j
  have hRc : Hid (Rs.InR rc) := by unfold Hid; rw [← hrc.out]; exact Rs.rget_range h.ok k
  obtain ⟨am, capm, rfl, hbm⟩ := h.mvForm
  have c37 := h.c37
  have hlen := h.ok.len
  obtain ⟨at', hat⟩ : ∃ z, wrap64 (rb + n) = z := ⟨_, rfl⟩
  have hml : (0 : Int) ≤ (m.mem.length : Int) := by omega
  rcases (by omega : at' < 0 ∨ (0 ≤ at' ∧ (m.mem.length : Int) ≤ at') ∨ (0 ≤ at' ∧ at' < (m.mem.length : Int))) with q1 | ⟨q1, q2⟩ | ⟨q1, q2⟩
  case inr.inr =>
    obtain ⟨q, rfl⟩ : ∃ q : Nat, at' = q := ⟨at'.toNat, by omega⟩
    have hq : q < m.mem.length := by omega
    obtain ⟨bm, rfl, hblt⟩ := hbm (by omega)
    have cq := own_ints h.mem q hq
    have hne : bm ≠ g := fun e => h.ne1 (by rw [e]; rfl)
    have hbb : B ≤ bm := (own_cap h.mem).1
    have hex : Hid (Rs.exec 23 i j k n m = (Rs.adv { m with mem := m.mem.set q ra } (m.pc + 1), 6)) := by
      unfold Hid Rs.exec Rs.rget
      simp only [Int.toNat_natCast, hra.out, hrb.out, hrc.out]
      have hr : ¬ ((q : Int) < 0 ∨ (m.mem.length : Int) ≤ (q : Int)) := by omega
      simp [hat, hr, hq]
    rw [hex.out]
    have fq := h.mem.frozenAt q
    have H := Lib.hid h
    clear h hbm
    go_enter Try.func29, Try.ntmps29
    go_wp2_with fail
    go_quiet (fail)
    go_wp2_with fail
    go_quiet (fail)
    go_wp2
    go_ret
    exact ⟨rfl, ⟨_, ov, MSt.adv (MSt.setMem (by first | exact (H.out.alloc _).drewN _ | exact ((H.out.alloc _).drewN _).drewN _) q hRa.out) _ _ rfl⟩, Below.setCell (Below.setCell (Below.setCell (by first | exact below_drewN ((Below.refl _ _).alloc (by omega) _) _ | exact below_drewN (below_drewN ((Below.refl _ _).alloc (by omega) _) _) _) hbb _) hb _) hb _, by simp [World.setCell]⟩
  all_goals
    have hex : Hid (Rs.exec 23 i j k n m = (m, 2)) := by
      unfold Hid Rs.exec Rs.rget
      simp only [Int.toNat_natCast, hra.out, hrb.out, hrc.out]
      have hr : at' < 0 ∨ (m.mem.length : Int) ≤ at' := by omega
      simp [hat, hr]
    rw [hex.out]
    have H := Lib.hid h
    clear h hbm
    go_enter Try.func29, Try.ntmps29
    go_wp2_with fail
    go_quiet (fail)
    go_wp2_with fail
    go_quiet (fail)
    go_wp2
    go_ret
    exact ⟨rfl, ⟨_, ov, (by first | exact (H.out.alloc _).drewN _ | exact ((H.out.alloc _).drewN _).drewN _)⟩, (by first | exact below_drewN ((Below.refl _ _).alloc (by omega) _) _ | exact below_drewN (below_drewN ((Below.refl _ _).alloc (by omega) _) _) _), by simp⟩

set_option maxHeartbeats 8000000 in
set_option maxRecDepth 100000 in
theorem next_in (B : Bd) (g : Nat) (st : Int) (m : Rs.M) (mv ov : Value)  (i j k : Nat) (n : Int) (w : World) (h : MSt B w g 73 st m mv ov) (hi : i < 32) (hj : j < 32) (hk : k < 32) (hn1 : -1048576 ≤ n) (hn2 : n ≤ 1048575) (hp1 : 0 ≤ m.pc) (hp2 : m.pc ≤ 1048576) (hs1 : 0 ≤ m.steps) (hs2 : m.steps ≤ 1000000000000) :
    Calls Try.prog 29 #[.pointer (some ⟨g, 0, none⟩), iv 30 i j k n] w (StepPost B g 73 st (Rs.exec 30 i j k n m) w) := by
  unfold iv
  have c1 := h.c1
  have c3 := h.c3
  have c4 := h.c4
  have f1 := h.fz 1
  have f3 := h.fz 3
  have f4 := h.fz 4
  have ci := h.cR hi
  have cj := h.cR hj
  have ck := h.cR hk
  have fi := h.fz (5 + i)
  have hlt := h.lt
  have hb := h.base
  obtain ⟨ra, hra⟩ : ∃ ra, Hid (m.regs.getD i 0 = ra) := ⟨_, rfl⟩
  obtain ⟨rb, hrb⟩ : ∃ rb, Hid (m.regs.getD j 0 = rb) := ⟨_, rfl⟩
  obtain ⟨rc, hrc⟩ : ∃ rc, Hid (m.regs.getD k 0 = rc) := ⟨_, rfl⟩
  rw [hra.out] at ci
  rw [hrb.out] at cj
  rw [hrc.out] at ck
  have hRa : Hid (Rs.InR ra) := by unfold Hid; rw [← hra.out]; exact Rs.rget_range h.ok i
  have hRb : Hid (Rs.InR rb) := by unfold Hid; rw [← hrb.out]; exact Rs.rget_range h.ok j
  have hRc : Hid (Rs.InR rc) := by unfold Hid; rw [← hrc.out]; exact Rs.rget_range h.ok k
  have c38 := h.c38
  have f38 := h.fz 38
  cases hi2 : m.inp with
  | nil =>
    rw [hi2] at c38
    have hex : Hid (Rs.exec 30 i j k n m = (Rs.adv (Rs.setReg m i (-1)) (m.pc + 1), 6)) := by
      unfold Hid Rs.exec Rs.rget
      simp only [Int.toNat_natCast, hra.out, hrb.out, hrc.out]
      simp [hi2]
    rw [hex.out]
    have HI := Lib.hid hi2
    have H := Lib.hid h
    clear h hi2
    by_cases hi0 : i = 0
    · subst hi0
      have hset : Hid (Rs.setReg m ((0 : Nat) : Int) (-1) = m) := if_pos rfl
      rw [hset.out]
      go_enter Try.func29, Try.ntmps29
      go_wp2_with fail
      go_quiet (fail)
      go_wp2_with fail
      go_quiet (fail)
      go_wp2
      go_ret
      exact ⟨rfl, ⟨_, ov, MSt.adv (by first | exact (H.out.alloc _).drewN _ | exact ((H.out.alloc _).drewN _).drewN _) _ _ rfl⟩, Below.setCell (Below.setCell (by first | exact below_drewN ((Below.refl _ _).alloc (by omega) _) _ | exact below_drewN (below_drewN ((Below.refl _ _).alloc (by omega) _) _) _) hb _) hb _, by simp [World.setCell]⟩
    · have hset : Hid (Rs.setReg m (i : Int) (-1) = { m with regs := m.regs.set i (-1) }) := by unfold Hid Rs.setReg; rw [if_neg (by omega), Int.toNat_natCast]
      rw [hset.out]
      have hi1 : ((i : Int) != 0) = true := by rw [bne_iff_ne]; omega
      clear hi0
      go_enter Try.func29, Try.ntmps29
      go_wp2_with fail
      go_quiet (fail)
      go_wp2_with fail
      go_quiet (fail)
      go_wp2
      refine wp_still_tl 7 (by kernel_rfl) (by kernel_rfl) ?_
      simp only [List.take_succ_cons, List.take_zero, List.drop_succ_cons, List.drop_zero]
      repeat still_step
      refine wpStill_nil ?_
      show wpList _ _ _ _ _ _
      go_wp2
      go_ret
      exact ⟨rfl, ⟨_, ov, MSt.adv (MSt.setR (by first | exact (H.out.alloc _).drewN _ | exact ((H.out.alloc _).drewN _).drewN _) hi (by unfold Rs.InR; omega)) _ _ rfl⟩, Below.setCell (Below.setCell (Below.setCell (by first | exact below_drewN ((Below.refl _ _).alloc (by omega) _) _ | exact below_drewN (below_drewN ((Below.refl _ _).alloc (by omega) _) _) _) hb _) hb _) hb _, by simp [World.setCell]⟩
  | cons c l =>
    rw [hi2] at c38
    have hex : Hid (Rs.exec 30 i j k n m = (Rs.adv (Rs.setReg { m with inp := l } i c.toNat) (m.pc + 1), 6)) := by
      unfold Hid Rs.exec Rs.rget
      simp only [Int.toNat_natCast, hra.out, hrb.out, hrc.out]
      simp [hi2]
    rw [hex.out]
    have HI := Lib.hid hi2
    have H := Lib.hid h
    clear h hi2
    by_cases hi0 : i = 0
    · subst hi0
      have hset : Hid (Rs.setReg ({ m with inp := l } : Rs.M) ((0 : Nat) : Int) (c.toNat) = ({ m with inp := l } : Rs.M)) := if_pos rfl
      rw [hset.out]
      go_enter Try.func29, Try.ntmps29
      go_wp2_with fail
      go_quiet (fail)
      go_wp2_with fail
      go_quiet (fail)
      go_wp2
      rw [tail_bytes]
      try rw [head_bytes]
      go_ret
      refine ⟨rfl, ⟨mv, ov, ?_⟩, ?_, ?_⟩
      · refine MSt.adv (MSt.setInp ?_ l) _ _ rfl
        first | exact (H.out.alloc _).drewN _ | exact ((H.out.alloc _).drewN _).drewN _
      · refine Below.setCell (Below.setCell (Below.setCell ?_ hb _) hb _) hb _
        first | exact below_drewN ((Below.refl _ _).alloc (by omega) _) _ | exact below_drewN (below_drewN ((Below.refl _ _).alloc (by omega) _) _) _
      · simp [World.setCell]
    · have hset : Hid (Rs.setReg ({ m with inp := l } : Rs.M) (i : Int) (c.toNat) = { ({ m with inp := l } : Rs.M) with regs := ({ m with inp := l } : Rs.M).regs.set i (c.toNat) }) := by unfold Hid Rs.setReg; rw [if_neg (by omega), Int.toNat_natCast]
      rw [hset.out]
      have hi1 : ((i : Int) != 0) = true := by rw [bne_iff_ne]; omega
      clear hi0
      go_enter Try.func29, Try.ntmps29
      go_wp2_with fail
      go_quiet (fail)
      go_wp2_with fail
      go_quiet (fail)
      go_wp2
      rw [tail_bytes]
      try rw [head_bytes]
      refine wp_still_tl 7 (by kernel_rfl) (by kernel_rfl) ?_
      simp only [List.take_succ_cons, List.take_zero, List.drop_succ_cons, List.drop_zero]
      repeat still_step
      refine wpStill_nil ?_
      show wpList _ _ _ _ _ _
      go_wp2
      go_ret
      refine ⟨rfl, ⟨mv, ov, ?_⟩, ?_, ?_⟩
      · refine MSt.drw (MSt.adv (MSt.setR (MSt.setInp ?_ l) hi (Rs.InR.byte c)) _ _ rfl)
        first | exact (H.out.alloc _).drewN _ | exact ((H.out.alloc _).drewN _).drewN _
      · refine below_drw (Below.setCell (Below.setCell (Below.setCell (Below.setCell ?_ hb _) hb _) hb _) hb _)
        first | exact below_drewN ((Below.refl _ _).alloc (by omega) _) _ | exact below_drewN (below_drewN ((Below.refl _ _).alloc (by omega) _) _) _
      · simp [World.setCell]

set_option maxHeartbeats 8000000 in
set_option maxRecDepth 100000 in
theorem next_out (B : Bd) (g : Nat) (st : Int) (m : Rs.M) (mv ov : Value) (ho : m.out.length ≤ 1000000000000) (i j k : Nat) (n : Int) (w : World) (h : MSt B w g 73 st m mv ov) (hi : i < 32) (hj : j < 32) (hk : k < 32) (hn1 : -1048576 ≤ n) (hn2 : n ≤ 1048575) (hp1 : 0 ≤ m.pc) (hp2 : m.pc ≤ 1048576) (hs1 : 0 ≤ m.steps) (hs2 : m.steps ≤ 1000000000000) :
    Calls Try.prog 29 #[.pointer (some ⟨g, 0, none⟩), iv 31 i j k n] w (StepPost B g 73 st (Rs.exec 31 i j k n m) w) := by
  unfold iv
  have c1 := h.c1
  have c3 := h.c3
  have c4 := h.c4
  have f1 := h.fz 1
  have f3 := h.fz 3
  have f4 := h.fz 4
  have ci := h.cR hi
  have cj := h.cR hj
  have ck := h.cR hk
  have fi := h.fz (5 + i)
  have hlt := h.lt
  have hb := h.base
  obtain ⟨ra, hra⟩ : ∃ ra, Hid (m.regs.getD i 0 = ra) := ⟨_, rfl⟩
  obtain ⟨rb, hrb⟩ : ∃ rb, Hid (m.regs.getD j 0 = rb) := ⟨_, rfl⟩
  obtain ⟨rc, hrc⟩ : ∃ rc, Hid (m.regs.getD k 0 = rc) := ⟨_, rfl⟩
  rw [hra.out] at ci
  rw [hrb.out] at cj
  rw [hrc.out] at ck
  have hRa : Hid (Rs.InR ra) := by unfold Hid; rw [← hra.out]; exact Rs.rget_range h.ok i
  have hRb : Hid (Rs.InR rb) := by unfold Hid; rw [← hrb.out]; exact Rs.rget_range h.ok j
  have hRc : Hid (Rs.InR rc) := by unfold Hid; rw [← hrc.out]; exact Rs.rget_range h.ok k
  have c39 := h.c39
  have f39 := h.fz 39
  rcases (by omega : ra < 0 ∨ (0 ≤ ra ∧ 255 < ra) ∨ (0 ≤ ra ∧ ra ≤ 255)) with q1 | ⟨q1, q2⟩ | ⟨q1, q2⟩
  case inr.inr =>
    obtain ⟨c, hc⟩ : ∃ c : UInt8, Hid (ra = c.toNat ∧ UInt8.ofNat ra.toNat = c) := ⟨UInt8.ofNat ra.toNat, by unfold Hid; refine ⟨?_, rfl⟩; rw [UInt8.toNat_ofNat']; omega⟩
    have hex : Hid (Rs.exec 31 i j k n m = (Rs.adv { m with out := m.out ++ [c] } (m.pc + 1), 6)) := by
      unfold Hid Rs.exec Rs.rget
      simp only [Int.toNat_natCast, hra.out, hrb.out, hrc.out]
      have hr : ¬ (ra < 0 ∨ 255 < ra) := by omega
      simp [hr, hc.out.2]
    rw [hex.out]
    obtain ⟨i0, ha, hz0, hz1, hz2⟩ := info_parts infoB
    have HA := Lib.hid ha
    have HZ0 := Lib.hid hz0
    have HZ1 := Lib.hid hz1
    have HZ2 := Lib.hid hz2
    clear ha hz0 hz1 hz2
    have hne2 := Lib.hid h.ne2
    have hown := Lib.hid h.out
    have HO := Lib.hid ho
    have H := Lib.hid h
    clear h ho
    go_enter Try.func29, Try.ntmps29
    go_wp2_with fail
    go_quiet (fail)
    go_wp2_with fail
    go_quiet (fail)
    go_wp2_with ((at_builtin; refine wpList_append_lies _ rfl (.tmp 268) (.tmp 271) 71 rfl B 5 i0 (.int .u8 0) 1 1 Try.underlying71 HA.out HZ0.out HZ1.out HZ2.out rfl (by decide) ov m.out.length (m.out.map fun x => Value.int .u8 x.toNat) rfl ?a2 ⟨w.heap.size + 1, 0, none⟩ 1 1 [.int .u8 ra] rfl rfl ?a3 ?a4 ?a5 ?a6 ?a7 ?a8 (w.heap.size + 2) ?a9 ?_; (case a2 => exact (own_drewN (hown.out.alloc _) _).alloc _); (case a3 => exact new_cells _ (heap_new (by simp))); (case a4 => simp [Value.oneCell']); (case a5 => decide); (case a6 => (have := HO.out; simp only [maxLen]; omega)); (case a7 => (have := HO.out; omega)); (case a8 => (simp; omega)); (case a9 => simp); intro g2 cap2 w1 hown2 hgr hat hlt2; have HGR := Lib.hid hgr; have HAT := Lib.hid hat; have HOWN2 := Lib.hid hown2; clear hgr hat hown2; obtain ⟨e3, e4, e39, f3, f4, f39, hx0, hs1'⟩ := out_facts (cs := #[.int .i64 i, .int .i64 j, .int .i64 k, .int .i64 n]) H.out hne2.out hown.out hlt HGR.out))
    go_ret
    have hm4 : MSt B (w1.setCell ⟨g, 39, none⟩ (.slice (some ⟨g2, 0, none⟩) (m.out.length + 1) cap2)) g 73 st { m with out := m.out ++ [c] } mv (.slice (some ⟨g2, 0, none⟩) (m.out.length + 1) cap2) := by
      have hgr := HGR.out
      have hown2 := HOWN2.out
      rw [hc.out.1] at hgr hown2
      refine MSt.setOut ((H.out.alloc _).drewN _) _ (by simp; omega) hgr hown2 (fun k hk => ?_)
      simp only [Value.ownBlock] at hk
      injection hk with hk
      rcases HAT.out with h1 | h1
      · exact .inl (h1.trans (by rw [hk]))
      · right; simp; omega
    exact ⟨rfl, ⟨mv, _, hm4.adv _ _ rfl⟩, ((((((below_drewN ((Below.refl _ _).alloc (by omega) _) _).alloc (by simp; omega) _).grown HGR.out (by simp; omega) (fun k hk => (hown.out.lt k hk).1))).setCell hb _).setCell hb _).setCell hb _, by simp [World.setCell]; omega⟩
  all_goals
    have hex : Hid (Rs.exec 31 i j k n m = (m, 5)) := by
      unfold Hid Rs.exec Rs.rget
      simp only [Int.toNat_natCast, hra.out, hrb.out, hrc.out]
      have hr : ra < 0 ∨ 255 < ra := by omega
      simp [hr]
    rw [hex.out]
    have H := Lib.hid h
    clear h
    go_enter Try.func29, Try.ntmps29
    go_wp2_with fail
    go_quiet (fail)
    go_wp2_with fail
    go_quiet (fail)
    go_wp2
    go_ret
    exact ⟨rfl, ⟨_, ov, (by first | exact (H.out.alloc _).drewN _ | exact ((H.out.alloc _).drewN _).drewN _)⟩, (by first | exact below_drewN ((Below.refl _ _).alloc (by omega) _) _ | exact below_drewN (below_drewN ((Below.refl _ _).alloc (by omega) _) _) _), by simp⟩
end Go.Proofs.Ytbcpflogkniojaa
