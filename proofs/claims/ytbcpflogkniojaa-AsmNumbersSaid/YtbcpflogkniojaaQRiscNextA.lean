/- Steps of the reference's machine: reckoning. -/
import Derived.Test.YtbcpflogkniojaaQMC
namespace Go.Proofs.Ytbcpflogkniojaa
open Go.RowKit
set_option linter.unusedVariables false
set_option linter.unusedSimpArgs false
theorem quiet_left' {P : Program} {f : FuncId} {args : Array Value} {w : World} {n : Nat} {v : Value}
    (h : Calls P f args (w.drewN n) fun e w' => e = .returned v ∧ w.drewN n = w') : Calls P f args (w.drewN n) fun e w'' => e = .returned v ∧ ∃ m, w'' = w.drewN m :=
  h.mono fun _ _ ⟨he, hm⟩ => ⟨he, n, hm.symm⟩
theorem quiet_add_left' {P : Program} {f : FuncId} {args : Array Value} {w : World} {a n : Nat} {v : Value}
    (h : Calls P f args (w.drewN (a + n)) fun e w' => e = .returned v ∧ w.drewN (a + n) = w') : Calls P f args (w.drewN (a + n)) fun e w'' => e = .returned v ∧ ∃ m, w'' = w.drewN (a + m) :=
  h.mono fun _ _ ⟨he, hm⟩ => ⟨he, n, hm.symm⟩

set_option maxHeartbeats 8000000 in
set_option maxRecDepth 100000 in
theorem next_abc (B : Bd) (g : Nat) (st : Int) (m : Rs.M) (mv ov : Value) (op : Int) (o1 : 1 ≤ op) (o2 : op ≤ 14) (i j k : Nat) (n : Int) (w : World) (h : MSt B w g 73 st m mv ov) (hi : i < 32) (hj : j < 32) (hk : k < 32) (hn1 : -1048576 ≤ n) (hn2 : n ≤ 1048575) (hp1 : 0 ≤ m.pc) (hp2 : m.pc ≤ 1048576) (hs1 : 0 ≤ m.steps) (hs2 : m.steps ≤ 1000000000000) :
    Calls Try.prog 29 #[.pointer (some ⟨g, 0, none⟩), iv op i j k n] w (StepPost B g 73 st (Rs.exec op i j k n m) w) := by
  unfold iv
  have c1 := h.c1
  have c3 := h.c3
  have c4 := h.c4
  have f1 := h.fz 1
  have f3 := h.fz 3
  have f4 := h.fz 4
  have ci := h.cR hi
  have cj := h.cR hj
  have ck := h.cR hk
  have fi := h.fz (5 + i)
  have hlt := h.lt
  have hb := h.base
  obtain ⟨ra, hra⟩ : ∃ ra, Hid (m.regs.getD i 0 = ra) := ⟨_, rfl⟩
  obtain ⟨rb, hrb⟩ : ∃ rb, Hid (m.regs.getD j 0 = rb) := ⟨_, rfl⟩
  obtain ⟨rc, hrc⟩ : ∃ rc, Hid (m.regs.getD k 0 = rc) := ⟨_, rfl⟩
  rw [hra.out] at ci
  rw [hrb.out] at cj
  rw [hrc.out] at ck
  have hRa : Hid (Rs.InR ra) := by unfold Hid; rw [← hra.out]; exact Rs.rget_range h.ok i
  have hRb : Hid (Rs.InR rb) := by unfold Hid; rw [← hrb.out]; exact Rs.rget_range h.ok j
  have hRc : Hid (Rs.InR rc) := by unfold Hid; rw [← hrc.out]; exact Rs.rget_range h.ok k
  have H := Lib.hid h
  clear h
  by_cases hz : (op = 5 ∨ op = 6) ∧ rc = 0
  · have hex : Hid (Rs.exec op i j k n m = (m, 4)) := by
      unfold Hid Rs.exec Rs.rget
      simp only [Int.toNat_natCast, hra.out, hrb.out, hrc.out]
      rw [if_neg (by omega), if_pos o2, if_pos hz]
    rw [hex.out]
    obtain ⟨ho, rfl⟩ := hz
    rcases ho with rfl | rfl
    all_goals
      go_enter Try.func29, Try.ntmps29
      go_wp2_with fail
      go_quiet (fail)
      go_wp2_with fail
      go_quiet (fail)
      go_wp2
      go_quiet (fail)
      go_wp2
      go_ret
      exact ⟨rfl, ⟨mv, ov, (by first | exact (H.out.alloc _).drewN _ | exact ((H.out.alloc _).drewN _).drewN _)⟩, (by first | exact below_drewN ((Below.refl _ _).alloc (by omega) _) _ | exact below_drewN (below_drewN ((Below.refl _ _).alloc (by omega) _) _) _), by simp⟩
  · have hex : Hid (Rs.exec op i j k n m = (Rs.adv (Rs.setReg m i (Rs.alu op rb rc)) (m.pc + 1), 6)) := by
      unfold Hid Rs.exec Rs.rget
      simp only [Int.toNat_natCast, hra.out, hrb.out, hrc.out]
      rw [if_neg (by omega), if_pos o2, if_neg hz]
    rw [hex.out]
    have hOk : Hid (Rs.opOk op rc) := ⟨o1, o2, fun ho hc => hz ⟨ho, hc⟩⟩
    have hA : Hid (Rs.InR (Rs.alu op rb rc)) := Rs.alu_range hRb.out hRc.out (fun ho hc => hz ⟨ho, hc⟩)
    have hz9 : (op = 5 ∧ (rc == 0) = false) ∨ (op = 6 ∧ (rc == 0) = false) ∨ (op ≠ 5 ∧ op ≠ 6) := by
      simp only [beq_eq_false_iff_ne]
      omega
    clear hz
    obtain ⟨av, hav⟩ : ∃ av, Hid (Rs.alu op rb rc = av) := ⟨_, rfl⟩
    rcases hz9 with ⟨rfl, g1⟩ | ⟨rfl, g1⟩ | ⟨g1, g2⟩
    · clear o1 o2
      by_cases hi0 : i = 0
      · subst hi0
        have hset : Hid (Rs.setReg m ((0 : Nat) : Int) (Rs.alu 5 rb rc) = m) := if_pos rfl
        rw [hset.out]
        go_enter Try.func29, Try.ntmps29
        go_wp2_with fail
        go_quiet (fail)
        go_wp2_with fail
        go_quiet (fail)
        go_wp2
        go_quiet (fail)
        go_wp2
        go_quiet ((go_at_call 40; first | exact quiet_left' (three_any _ _ _ _ hOk.out hRb.out.1 hRb.out.2 hRc.out.1 hRc.out.2) | exact quiet_add_left' (three_any _ _ _ _ hOk.out hRb.out.1 hRb.out.2 hRc.out.1 hRc.out.2)))
        go_wp2
        go_ret
        exact ⟨rfl, ⟨_, ov, MSt.adv (by first | exact (H.out.alloc _).drewN _ | exact ((H.out.alloc _).drewN _).drewN _) _ _ rfl⟩, Below.setCell (Below.setCell (by first | exact below_drewN ((Below.refl _ _).alloc (by omega) _) _ | exact below_drewN (below_drewN ((Below.refl _ _).alloc (by omega) _) _) _) hb _) hb _, by simp [World.setCell]⟩
      · have hset : Hid (Rs.setReg m (i : Int) (Rs.alu 5 rb rc) = { m with regs := m.regs.set i (Rs.alu 5 rb rc) }) := by unfold Hid Rs.setReg; rw [if_neg (by omega), Int.toNat_natCast]
        rw [hset.out]
        have hi1 : ((i : Int) != 0) = true := by rw [bne_iff_ne]; omega
        clear hi0
        go_enter Try.func29, Try.ntmps29
        go_wp2_with fail
        go_quiet (fail)
        go_wp2_with fail
        go_quiet (fail)
        go_wp2
        go_quiet (fail)
        go_wp2
        go_quiet ((go_at_call 40; first | exact quiet_left' (three_any _ _ _ _ hOk.out hRb.out.1 hRb.out.2 hRc.out.1 hRc.out.2) | exact quiet_add_left' (three_any _ _ _ _ hOk.out hRb.out.1 hRb.out.2 hRc.out.1 hRc.out.2)))
        go_wp2
        refine wp_still_tl 7 (by kernel_rfl) (by kernel_rfl) ?_
        simp only [List.take_succ_cons, List.take_zero, List.drop_succ_cons, List.drop_zero]
        repeat still_step
        refine wpStill_nil ?_
        show wpList _ _ _ _ _ _
        go_wp2
        go_ret
        exact ⟨rfl, ⟨_, ov, MSt.adv (MSt.setR (by first | exact (H.out.alloc _).drewN _ | exact ((H.out.alloc _).drewN _).drewN _) hi hA.out) _ _ rfl⟩, Below.setCell (Below.setCell (Below.setCell (by first | exact below_drewN ((Below.refl _ _).alloc (by omega) _) _ | exact below_drewN (below_drewN ((Below.refl _ _).alloc (by omega) _) _) _) hb _) hb _) hb _, by simp [World.setCell]⟩
    · clear o1 o2
      by_cases hi0 : i = 0
      · subst hi0
        have hset : Hid (Rs.setReg m ((0 : Nat) : Int) (Rs.alu 6 rb rc) = m) := if_pos rfl
        rw [hset.out]
        go_enter Try.func29, Try.ntmps29
        go_wp2_with fail
        go_quiet (fail)
        go_wp2_with fail
        go_quiet (fail)
        go_wp2
        go_quiet (fail)
        go_wp2
        go_quiet ((go_at_call 40; first | exact quiet_left' (three_any _ _ _ _ hOk.out hRb.out.1 hRb.out.2 hRc.out.1 hRc.out.2) | exact quiet_add_left' (three_any _ _ _ _ hOk.out hRb.out.1 hRb.out.2 hRc.out.1 hRc.out.2)))
        go_wp2
        go_ret
        exact ⟨rfl, ⟨_, ov, MSt.adv (by first | exact (H.out.alloc _).drewN _ | exact ((H.out.alloc _).drewN _).drewN _) _ _ rfl⟩, Below.setCell (Below.setCell (by first | exact below_drewN ((Below.refl _ _).alloc (by omega) _) _ | exact below_drewN (below_drewN ((Below.refl _ _).alloc (by omega) _) _) _) hb _) hb _, by simp [World.setCell]⟩
      · have hset : Hid (Rs.setReg m (i : Int) (Rs.alu 6 rb rc) = { m with regs := m.regs.set i (Rs.alu 6 rb rc) }) := by unfold Hid Rs.setReg; rw [if_neg (by omega), Int.toNat_natCast]
        rw [hset.out]
        have hi1 : ((i : Int) != 0) = true := by rw [bne_iff_ne]; omega
        clear hi0
        go_enter Try.func29, Try.ntmps29
        go_wp2_with fail
        go_quiet (fail)
        go_wp2_with fail
        go_quiet (fail)
        go_wp2
        go_quiet (fail)
        go_wp2
        go_quiet ((go_at_call 40; first | exact quiet_left' (three_any _ _ _ _ hOk.out hRb.out.1 hRb.out.2 hRc.out.1 hRc.out.2) | exact quiet_add_left' (three_any _ _ _ _ hOk.out hRb.out.1 hRb.out.2 hRc.out.1 hRc.out.2)))
        go_wp2
        refine wp_still_tl 7 (by kernel_rfl) (by kernel_rfl) ?_
        simp only [List.take_succ_cons, List.take_zero, List.drop_succ_cons, List.drop_zero]
        repeat still_step
        refine wpStill_nil ?_
        show wpList _ _ _ _ _ _
        go_wp2
        go_ret
        exact ⟨rfl, ⟨_, ov, MSt.adv (MSt.setR (by first | exact (H.out.alloc _).drewN _ | exact ((H.out.alloc _).drewN _).drewN _) hi hA.out) _ _ rfl⟩, Below.setCell (Below.setCell (Below.setCell (by first | exact below_drewN ((Below.refl _ _).alloc (by omega) _) _ | exact below_drewN (below_drewN ((Below.refl _ _).alloc (by omega) _) _) _) hb _) hb _) hb _, by simp [World.setCell]⟩
    · have e0 : (op == 0) = false := by rw [beq_eq_false_iff_ne]; omega
      have e5 : (op == 5) = false := by rw [beq_eq_false_iff_ne]; omega
      have e6 : (op == 6) = false := by rw [beq_eq_false_iff_ne]; omega
      have e15 : (op == 15) = false := by rw [beq_eq_false_iff_ne]; omega
      have e16 : (op == 16) = false := by rw [beq_eq_false_iff_ne]; omega
      have e17 : (op == 17) = false := by rw [beq_eq_false_iff_ne]; omega
      have e18 : (op == 18) = false := by rw [beq_eq_false_iff_ne]; omega
      have e19 : (op == 19) = false := by rw [beq_eq_false_iff_ne]; omega
      have e20 : (op == 20) = false := by rw [beq_eq_false_iff_ne]; omega
      have e21 : (op == 21) = false := by rw [beq_eq_false_iff_ne]; omega
      have e22 : (op == 22) = false := by rw [beq_eq_false_iff_ne]; omega
      have e23 : (op == 23) = false := by rw [beq_eq_false_iff_ne]; omega
      have e24 : (op == 24) = false := by rw [beq_eq_false_iff_ne]; omega
      have e25 : (op == 25) = false := by rw [beq_eq_false_iff_ne]; omega
      have e26 : (op == 26) = false := by rw [beq_eq_false_iff_ne]; omega
      have e27 : (op == 27) = false := by rw [beq_eq_false_iff_ne]; omega
      have e28 : (op == 28) = false := by rw [beq_eq_false_iff_ne]; omega
      have e29 : (op == 29) = false := by rw [beq_eq_false_iff_ne]; omega
      have e30 : (op == 30) = false := by rw [beq_eq_false_iff_ne]; omega
      have e31 : (op == 31) = false := by rw [beq_eq_false_iff_ne]; omega
      clear g1 g2
      by_cases hi0 : i = 0
      · subst hi0
        have hset : Hid (Rs.setReg m ((0 : Nat) : Int) (Rs.alu op rb rc) = m) := if_pos rfl
        rw [hset.out]
        go_enter Try.func29, Try.ntmps29
        go_wp2_with fail
        go_quiet (fail)
        go_wp2_with fail
        go_quiet (fail)
        go_wp2
        go_quiet ((go_at_call 40; first | exact quiet_left' (three_any _ _ _ _ hOk.out hRb.out.1 hRb.out.2 hRc.out.1 hRc.out.2) | exact quiet_add_left' (three_any _ _ _ _ hOk.out hRb.out.1 hRb.out.2 hRc.out.1 hRc.out.2)))
        go_wp2
        go_ret
        exact ⟨rfl, ⟨_, ov, MSt.adv (by first | exact (H.out.alloc _).drewN _ | exact ((H.out.alloc _).drewN _).drewN _) _ _ rfl⟩, Below.setCell (Below.setCell (by first | exact below_drewN ((Below.refl _ _).alloc (by omega) _) _ | exact below_drewN (below_drewN ((Below.refl _ _).alloc (by omega) _) _) _) hb _) hb _, by simp [World.setCell]⟩
      · have hset : Hid (Rs.setReg m (i : Int) (Rs.alu op rb rc) = { m with regs := m.regs.set i (Rs.alu op rb rc) }) := by unfold Hid Rs.setReg; rw [if_neg (by omega), Int.toNat_natCast]
        rw [hset.out]
        have hi1 : ((i : Int) != 0) = true := by rw [bne_iff_ne]; omega
        clear hi0
        go_enter Try.func29, Try.ntmps29
        go_wp2_with fail
        go_quiet (fail)
        go_wp2_with fail
        go_quiet (fail)
        go_wp2
        go_quiet ((go_at_call 40; first | exact quiet_left' (three_any _ _ _ _ hOk.out hRb.out.1 hRb.out.2 hRc.out.1 hRc.out.2) | exact quiet_add_left' (three_any _ _ _ _ hOk.out hRb.out.1 hRb.out.2 hRc.out.1 hRc.out.2)))
        go_wp2
        refine wp_still_tl 7 (by kernel_rfl) (by kernel_rfl) ?_
        simp only [List.take_succ_cons, List.take_zero, List.drop_succ_cons, List.drop_zero]
        repeat still_step
        refine wpStill_nil ?_
        show wpList _ _ _ _ _ _
        go_wp2
        go_ret
        exact ⟨rfl, ⟨_, ov, MSt.adv (MSt.setR (by first | exact (H.out.alloc _).drewN _ | exact ((H.out.alloc _).drewN _).drewN _) hi hA.out) _ _ rfl⟩, Below.setCell (Below.setCell (Below.setCell (by first | exact below_drewN ((Below.refl _ _).alloc (by omega) _) _ | exact below_drewN (below_drewN ((Below.refl _ _).alloc (by omega) _) _) _) hb _) hb _) hb _, by simp [World.setCell]⟩
end Go.Proofs.Ytbcpflogkniojaa
