/- Steps of the machine: input, output, and the simple ones. -/
import Derived.Deep.RegionHeld3
import Derived.Deep.AppendLies
import Derived.Test.YtaldcgfhlflcpaaAJap
set_option linter.unusedVariables false
set_option linter.unusedSimpArgs false
set_option linter.unnecessarySimpa false
namespace Go.Proofs.Ytaldcgfhlflcpaa
open Go.RowKit
set_option maxRecDepth 100000
set_option linter.unusedVariables false
set_option linter.unusedSimpArgs false
theorem tail_bytes (c : UInt8) (l : List UInt8) : (⟨(c :: l).toArray⟩ : ByteArray).extract 1 (l.length + 1) = ⟨l.toArray⟩ := by
  apply ByteArray.ext
  simp
theorem head_bytes (c : UInt8) (l : List UInt8) (h : 0 < (⟨(c :: l).toArray⟩ : ByteArray).size) : wrap64 ((((⟨(c :: l).toArray⟩ : ByteArray)[0]'h).toNat : Nat) : Int) = c.toNat := by
  have : ((⟨(c :: l).toArray⟩ : ByteArray)[0]'h) = c := rfl
  rw [this]
  exact IntWalk.wrap64_in _ (by have := c.toNat_lt; omega)
theorem out_facts {B : Bd} {g T : Nat} {w w1 : World} {st : Int} {m : Rs.M} {mv ov : Value} {nq n : Nat} {xs : List Value} {cs : Array Value} {v0 : Value} {t : TypeId} {o : Obj} (h : MSt B w g T st m mv ov) (hne : ov.ownBlock ≠ some g) (hown : w.ownsRow B 5 1 ov n xs) (hlt : g < w.heap.size)
    (hgr : (((w.alloc (.cells (#[v0] ++ cs) t)).drewN nq).alloc o).grownBy w1 ov.ownBlock) :
    w1.cell? ⟨g, 3, none⟩ = some (.int .i64 m.steps) ∧ w1.cell? ⟨g, 4, none⟩ = some (.int .i64 m.pc) ∧ w1.cell? ⟨g, 39, none⟩ = some ov ∧ w1.frozen? ⟨g, 3, none⟩ = false ∧ w1.frozen? ⟨g, 4, none⟩ = false ∧ w1.frozen? ⟨g, 39, none⟩ = false ∧
    w1.cell? ⟨w.heap.size, 0, none⟩ = some v0 ∧ w.heap.size + 1 < w1.heap.size := by
  have H3 := ((h.alloc (.cells (#[v0] ++ cs) t)).drewN nq).alloc o
  have hk : w1.heap[g]? = _ := hgr.block g H3.lt (fun e => hne e.symm)
  refine ⟨(World.cell?_of_block (a := ⟨g, 3, none⟩) hk).trans H3.c3, (World.cell?_of_block (a := ⟨g, 4, none⟩) hk).trans H3.c4, (World.cell?_of_block (a := ⟨g, 39, none⟩) hk).trans H3.c39, (World.frozen?_of_block (a := ⟨g, 3, none⟩) hk).trans (H3.fz 3), (World.frozen?_of_block (a := ⟨g, 4, none⟩) hk).trans (H3.fz 4), (World.frozen?_of_block (a := ⟨g, 39, none⟩) hk).trans (H3.fz 39), ?_, ?_⟩
  · refine hgr.cell (a := ⟨w.heap.size, 0, none⟩) ?_ (by intro e; exact absurd (hown.lt _ e.symm).2 (Nat.lt_irrefl _))
    have h1 : (w.alloc (.cells (#[v0] ++ cs) t)).cell? ⟨w.heap.size, 0, none⟩ = some v0 := cell_new w (#[v0] ++ cs) 0 v0 (by rw [Array.getElem?_append_left (by simp)]; rfl)
    have h2 : ((w.alloc (.cells (#[v0] ++ cs) t)).drewN nq).cell? ⟨w.heap.size, 0, none⟩ = some v0 := h1
    exact (World.cell?_of_block (a := ⟨w.heap.size, 0, none⟩) (((Below.refl ((w.alloc (.cells (#[v0] ++ cs) t)).drewN nq).heap.size _).alloc (Nat.le_refl _) o).block w.heap.size (by rw [World.heap_drewN]; simp))).trans h2
  · have := hgr.size
    simp at this
    omega
theorem infoB : (Try.prog.info? 5).map (fun i => (i.zero, i.size, i.bytes)) = some (some (.int .u8 0), 1, 1) := by kernel_rfl

end Go.Proofs.Ytaldcgfhlflcpaa
namespace Go.Proofs.Ytaldcgfhlflcpaa
open Go.RowKit
set_option maxRecDepth 100000
set_option linter.unusedSimpArgs false
set_option linter.unusedVariables false
theorem decB_not_bad {x : Int} (h : Rs.decB x = true) : ¬ Rs.Bad (Rs.fO x) (Rs.fA x) (Rs.fB (Rs.fO x) x) (Rs.fC (Rs.fO x) x) (Rs.fN (Rs.fO x) x) := by
  have h2 := (of_decide_eq_true h).1
  intro hb
  rw [show Rs.encE _ _ _ _ _ = 200 from if_pos hb] at h2
  exact absurd h2 (by decide)
theorem op_not_bad {op a b c n : Int} (h : ¬ Rs.Bad op a b c n) : 0 ≤ op ∧ op ≤ 31 := by
  unfold Rs.Bad at h
  rw [not_or] at h
  exact Rs.form_range op h.1
theorem n_not_bad {op a b c n : Int} (h : ¬ Rs.Bad op a b c n) : -1048576 ≤ n ∧ n ≤ 1048575 ∧ (op = 18 ∨ op = 19 → 0 ≤ n ∧ n < 64) := by
  obtain ⟨h1, h2⟩ := op_not_bad h
  obtain ⟨k, rfl⟩ : ∃ k : Nat, op = k := ⟨op.toNat, by omega⟩
  obtain ⟨_, _, _, h3, h4⟩ := good_cases (form7_not ⟨h1, h2⟩) h
  obtain ⟨⟨r1, r2⟩, -⟩ := Rs.ends_range k (by omega)
  refine ⟨by omega, by omega, fun h5 => ?_⟩
  rcases h5 with h5 | h5 <;> rw [h5] at h3 h4 <;> exact ⟨h3, Int.lt_add_one_of_le h4⟩
end Go.Proofs.Ytaldcgfhlflcpaa
namespace Go.Proofs.Ytaldcgfhlflcpaa
open Go.RowKit
set_option maxRecDepth 100000
set_option linter.unusedVariables false
set_option linter.unusedSimpArgs false
theorem quiet_left' {P : Program} {f : FuncId} {args : Array Value} {w : World} {n : Nat} {v : Value}
    (h : Calls P f args (w.drewN n) fun e w' => e = .returned v ∧ w.drewN n = w') : Calls P f args (w.drewN n) fun e w'' => e = .returned v ∧ ∃ m, w'' = w.drewN m :=
  h.mono fun _ _ ⟨he, hm⟩ => ⟨he, n, hm.symm⟩
theorem quiet_add_left' {P : Program} {f : FuncId} {args : Array Value} {w : World} {a n : Nat} {v : Value}
    (h : Calls P f args (w.drewN (a + n)) fun e w' => e = .returned v ∧ w.drewN (a + n) = w') : Calls P f args (w.drewN (a + n)) fun e w'' => e = .returned v ∧ ∃ m, w'' = w.drewN (a + m) :=
  h.mono fun _ _ ⟨he, hm⟩ => ⟨he, n, hm.symm⟩

set_option maxHeartbeats 8000000 in
set_option maxRecDepth 100000 in
theorem next_abc (B : Bd) (g : Nat) (st : Int) (m : Rs.M) (mv ov : Value) (op : Int) (o1 : 1 ≤ op) (o2 : op ≤ 14) (i j k : Nat) (n : Int) (w : World) (h : MSt B w g 79 st m mv ov) (hi : i < 32) (hj : j < 32) (hk : k < 32) (hn1 : -1048576 ≤ n) (hn2 : n ≤ 1048575) (hp1 : 0 ≤ m.pc) (hp2 : m.pc ≤ 1048576) (hs1 : 0 ≤ m.steps) (hs2 : m.steps ≤ 1000000000000) :
    Calls Try.prog 34 #[.pointer (some ⟨g, 0, none⟩), iv op i j k n] w (StepPost B g 79 st (Rs.exec op i j k n m) w) := by
  unfold iv
  have c1 := h.c1
  have c3 := h.c3
  have c4 := h.c4
  have f1 := h.fz 1
  have f3 := h.fz 3
  have f4 := h.fz 4
  have ci := h.cR hi
  have cj := h.cR hj
  have ck := h.cR hk
  have fi := h.fz (5 + i)
  have hlt := h.lt
  have hb := h.base
  obtain ⟨ra, hra⟩ : ∃ ra, Hid (m.regs.getD i 0 = ra) := ⟨_, rfl⟩
  obtain ⟨rb, hrb⟩ : ∃ rb, Hid (m.regs.getD j 0 = rb) := ⟨_, rfl⟩
  obtain ⟨rc, hrc⟩ : ∃ rc, Hid (m.regs.getD k 0 = rc) := ⟨_, rfl⟩
  rw [hra.out] at ci
  rw [hrb.out] at cj
  rw [hrc.out] at ck
  have hRa : Hid (Rs.InR ra) := by unfold Hid; rw [← hra.out]; exact Rs.rget_range h.ok i
  have hRb : Hid (Rs.InR rb) := by unfold Hid; rw [← hrb.out]; exact Rs.rget_range h.ok j
  have hRc : Hid (Rs.InR rc) := by unfold Hid; rw [← hrc.out]; exact Rs.rget_range h.ok k
  have H := Lib.hid h
  clear h
  by_cases hz : (op = 5 ∨ op = 6) ∧ rc = 0
  · have hex : Hid (Rs.exec op i j k n m = (m, 4)) := by
      unfold Hid Rs.exec Rs.rget
      simp only [Int.toNat_natCast, hra.out, hrb.out, hrc.out]
      rw [if_neg (by omega), if_pos o2, if_pos hz]
    rw [hex.out]
    obtain ⟨ho, rfl⟩ := hz
    rcases ho with rfl | rfl
    all_goals
      go_enter Try.func34, Try.ntmps34
      go_wp2_with fail
      go_quiet (fail)
      go_wp2_with fail
      go_quiet (fail)
      go_wp2
      go_quiet (fail)
      go_wp2
      go_ret
      exact ⟨rfl, ⟨mv, ov, (by first | exact (H.out.alloc _).drewN _ | exact ((H.out.alloc _).drewN _).drewN _)⟩, (by first | exact below_drewN ((Below.refl _ _).alloc (by omega) _) _ | exact below_drewN (below_drewN ((Below.refl _ _).alloc (by omega) _) _) _), by simp⟩
  · have hex : Hid (Rs.exec op i j k n m = (Rs.adv (Rs.setReg m i (Rs.alu op rb rc)) (m.pc + 1), 6)) := by
      unfold Hid Rs.exec Rs.rget
      simp only [Int.toNat_natCast, hra.out, hrb.out, hrc.out]
      rw [if_neg (by omega), if_pos o2, if_neg hz]
    rw [hex.out]
    have hOk : Hid (Rs.opOk op rc) := ⟨o1, o2, fun ho hc => hz ⟨ho, hc⟩⟩
    have hA : Hid (Rs.InR (Rs.alu op rb rc)) := Rs.alu_range hRb.out hRc.out (fun ho hc => hz ⟨ho, hc⟩)
    have hz9 : (op = 5 ∧ (rc == 0) = false) ∨ (op = 6 ∧ (rc == 0) = false) ∨ (op ≠ 5 ∧ op ≠ 6) := by
      simp only [beq_eq_false_iff_ne]
      omega
    clear hz
    obtain ⟨av, hav⟩ : ∃ av, Hid (Rs.alu op rb rc = av) := ⟨_, rfl⟩
    rcases hz9 with ⟨rfl, g1⟩ | ⟨rfl, g1⟩ | ⟨g1, g2⟩
    · clear o1 o2
      by_cases hi0 : i = 0
      · subst hi0
        have hset : Hid (Rs.setReg m ((0 : Nat) : Int) (Rs.alu 5 rb rc) = m) := if_pos rfl
        rw [hset.out]
        go_enter Try.func34, Try.ntmps34
        go_wp2_with fail
        go_quiet (fail)
        go_wp2_with fail
        go_quiet (fail)
        go_wp2
        go_quiet (fail)
        go_wp2
        go_quiet ((go_at_call 43; first | exact quiet_left' (three_any _ _ _ _ hOk.out hRb.out.1 hRb.out.2 hRc.out.1 hRc.out.2) | exact quiet_add_left' (three_any _ _ _ _ hOk.out hRb.out.1 hRb.out.2 hRc.out.1 hRc.out.2)))
        go_wp2
        go_ret
        exact ⟨rfl, ⟨_, ov, MSt.adv (by first | exact (H.out.alloc _).drewN _ | exact ((H.out.alloc _).drewN _).drewN _) _ _ rfl⟩, Below.setCell (Below.setCell (by first | exact below_drewN ((Below.refl _ _).alloc (by omega) _) _ | exact below_drewN (below_drewN ((Below.refl _ _).alloc (by omega) _) _) _) hb _) hb _, by simp [World.setCell]⟩
      · have hset : Hid (Rs.setReg m (i : Int) (Rs.alu 5 rb rc) = { m with regs := m.regs.set i (Rs.alu 5 rb rc) }) := by unfold Hid Rs.setReg; rw [if_neg (by omega), Int.toNat_natCast]
        rw [hset.out]
        have hi1 : ((i : Int) != 0) = true := by rw [bne_iff_ne]; omega
        clear hi0
        go_enter Try.func34, Try.ntmps34
        go_wp2_with fail
        go_quiet (fail)
        go_wp2_with fail
        go_quiet (fail)
        go_wp2
        go_quiet (fail)
        go_wp2
        go_quiet ((go_at_call 43; first | exact quiet_left' (three_any _ _ _ _ hOk.out hRb.out.1 hRb.out.2 hRc.out.1 hRc.out.2) | exact quiet_add_left' (three_any _ _ _ _ hOk.out hRb.out.1 hRb.out.2 hRc.out.1 hRc.out.2)))
        go_wp2
        refine wp_still_tl 7 (by kernel_rfl) (by kernel_rfl) ?_
        simp only [List.take_succ_cons, List.take_zero, List.drop_succ_cons, List.drop_zero]
        repeat still_step
        refine wpStill_nil ?_
        show wpList _ _ _ _ _ _
        go_wp2
        go_ret
        exact ⟨rfl, ⟨_, ov, MSt.adv (MSt.setR (by first | exact (H.out.alloc _).drewN _ | exact ((H.out.alloc _).drewN _).drewN _) hi hA.out) _ _ rfl⟩, Below.setCell (Below.setCell (Below.setCell (by first | exact below_drewN ((Below.refl _ _).alloc (by omega) _) _ | exact below_drewN (below_drewN ((Below.refl _ _).alloc (by omega) _) _) _) hb _) hb _) hb _, by simp [World.setCell]⟩
    · clear o1 o2
      by_cases hi0 : i = 0
      · subst hi0
        have hset : Hid (Rs.setReg m ((0 : Nat) : Int) (Rs.alu 6 rb rc) = m) := if_pos rfl
        rw [hset.out]
        go_enter Try.func34, Try.ntmps34
        go_wp2_with fail
        go_quiet (fail)
        go_wp2_with fail
        go_quiet (fail)
        go_wp2
        go_quiet (fail)
        go_wp2
        go_quiet ((go_at_call 43; first | exact quiet_left' (three_any _ _ _ _ hOk.out hRb.out.1 hRb.out.2 hRc.out.1 hRc.out.2) | exact quiet_add_left' (three_any _ _ _ _ hOk.out hRb.out.1 hRb.out.2 hRc.out.1 hRc.out.2)))
        go_wp2
        go_ret
        exact ⟨rfl, ⟨_, ov, MSt.adv (by first | exact (H.out.alloc _).drewN _ | exact ((H.out.alloc _).drewN _).drewN _) _ _ rfl⟩, Below.setCell (Below.setCell (by first | exact below_drewN ((Below.refl _ _).alloc (by omega) _) _ | exact below_drewN (below_drewN ((Below.refl _ _).alloc (by omega) _) _) _) hb _) hb _, by simp [World.setCell]⟩
      · have hset : Hid (Rs.setReg m (i : Int) (Rs.alu 6 rb rc) = { m with regs := m.regs.set i (Rs.alu 6 rb rc) }) := by unfold Hid Rs.setReg; rw [if_neg (by omega), Int.toNat_natCast]
        rw [hset.out]
        have hi1 : ((i : Int) != 0) = true := by rw [bne_iff_ne]; omega
        clear hi0
        go_enter Try.func34, Try.ntmps34
        go_wp2_with fail
        go_quiet (fail)
        go_wp2_with fail
        go_quiet (fail)
        go_wp2
        go_quiet (fail)
        go_wp2
        go_quiet ((go_at_call 43; first | exact quiet_left' (three_any _ _ _ _ hOk.out hRb.out.1 hRb.out.2 hRc.out.1 hRc.out.2) | exact quiet_add_left' (three_any _ _ _ _ hOk.out hRb.out.1 hRb.out.2 hRc.out.1 hRc.out.2)))
        go_wp2
        refine wp_still_tl 7 (by kernel_rfl) (by kernel_rfl) ?_
        simp only [List.take_succ_cons, List.take_zero, List.drop_succ_cons, List.drop_zero]
        repeat still_step
        refine wpStill_nil ?_
        show wpList _ _ _ _ _ _
        go_wp2
        go_ret
        exact ⟨rfl, ⟨_, ov, MSt.adv (MSt.setR (by first | exact (H.out.alloc _).drewN _ | exact ((H.out.alloc _).drewN _).drewN _) hi hA.out) _ _ rfl⟩, Below.setCell (Below.setCell (Below.setCell (by first | exact below_drewN ((Below.refl _ _).alloc (by omega) _) _ | exact below_drewN (below_drewN ((Below.refl _ _).alloc (by omega) _) _) _) hb _) hb _) hb _, by simp [World.setCell]⟩
    · have e0 : (op == 0) = false := by rw [beq_eq_false_iff_ne]; omega
      have e5 : (op == 5) = false := by rw [beq_eq_false_iff_ne]; omega
      have e6 : (op == 6) = false := by rw [beq_eq_false_iff_ne]; omega
      have e15 : (op == 15) = false := by rw [beq_eq_false_iff_ne]; omega
      have e16 : (op == 16) = false := by rw [beq_eq_false_iff_ne]; omega
      have e17 : (op == 17) = false := by rw [beq_eq_false_iff_ne]; omega
      have e18 : (op == 18) = false := by rw [beq_eq_false_iff_ne]; omega
      have e19 : (op == 19) = false := by rw [beq_eq_false_iff_ne]; omega
      have e20 : (op == 20) = false := by rw [beq_eq_false_iff_ne]; omega
      have e21 : (op == 21) = false := by rw [beq_eq_false_iff_ne]; omega
      have e22 : (op == 22) = false := by rw [beq_eq_false_iff_ne]; omega
      have e23 : (op == 23) = false := by rw [beq_eq_false_iff_ne]; omega
      have e24 : (op == 24) = false := by rw [beq_eq_false_iff_ne]; omega
      have e25 : (op == 25) = false := by rw [beq_eq_false_iff_ne]; omega
      have e26 : (op == 26) = false := by rw [beq_eq_false_iff_ne]; omega
      have e27 : (op == 27) = false := by rw [beq_eq_false_iff_ne]; omega
      have e28 : (op == 28) = false := by rw [beq_eq_false_iff_ne]; omega
      have e29 : (op == 29) = false := by rw [beq_eq_false_iff_ne]; omega
      have e30 : (op == 30) = false := by rw [beq_eq_false_iff_ne]; omega
      have e31 : (op == 31) = false := by rw [beq_eq_false_iff_ne]; omega
      clear g1 g2
      by_cases hi0 : i = 0
      · subst hi0
        have hset : Hid (Rs.setReg m ((0 : Nat) : Int) (Rs.alu op rb rc) = m) := if_pos rfl
        rw [hset.out]
        go_enter Try.func34, Try.ntmps34
        go_wp2_with fail
        go_quiet (fail)
        go_wp2_with fail
        go_quiet (fail)
        go_wp2
        go_quiet ((go_at_call 43; first | exact quiet_left' (three_any _ _ _ _ hOk.out hRb.out.1 hRb.out.2 hRc.out.1 hRc.out.2) | exact quiet_add_left' (three_any _ _ _ _ hOk.out hRb.out.1 hRb.out.2 hRc.out.1 hRc.out.2)))
        go_wp2
        go_ret
        exact ⟨rfl, ⟨_, ov, MSt.adv (by first | exact (H.out.alloc _).drewN _ | exact ((H.out.alloc _).drewN _).drewN _) _ _ rfl⟩, Below.setCell (Below.setCell (by first | exact below_drewN ((Below.refl _ _).alloc (by omega) _) _ | exact below_drewN (below_drewN ((Below.refl _ _).alloc (by omega) _) _) _) hb _) hb _, by simp [World.setCell]⟩
      · have hset : Hid (Rs.setReg m (i : Int) (Rs.alu op rb rc) = { m with regs := m.regs.set i (Rs.alu op rb rc) }) := by unfold Hid Rs.setReg; rw [if_neg (by omega), Int.toNat_natCast]
        rw [hset.out]
        have hi1 : ((i : Int) != 0) = true := by rw [bne_iff_ne]; omega
        clear hi0
        go_enter Try.func34, Try.ntmps34
        go_wp2_with fail
        go_quiet (fail)
        go_wp2_with fail
        go_quiet (fail)
        go_wp2
        go_quiet ((go_at_call 43; first | exact quiet_left' (three_any _ _ _ _ hOk.out hRb.out.1 hRb.out.2 hRc.out.1 hRc.out.2) | exact quiet_add_left' (three_any _ _ _ _ hOk.out hRb.out.1 hRb.out.2 hRc.out.1 hRc.out.2)))
        go_wp2
        refine wp_still_tl 7 (by kernel_rfl) (by kernel_rfl) ?_
        simp only [List.take_succ_cons, List.take_zero, List.drop_succ_cons, List.drop_zero]
        repeat still_step
        refine wpStill_nil ?_
        show wpList _ _ _ _ _ _
        go_wp2
        go_ret
        exact ⟨rfl, ⟨_, ov, MSt.adv (MSt.setR (by first | exact (H.out.alloc _).drewN _ | exact ((H.out.alloc _).drewN _).drewN _) hi hA.out) _ _ rfl⟩, Below.setCell (Below.setCell (Below.setCell (by first | exact below_drewN ((Below.refl _ _).alloc (by omega) _) _ | exact below_drewN (below_drewN ((Below.refl _ _).alloc (by omega) _) _) _) hb _) hb _) hb _, by simp [World.setCell]⟩
end Go.Proofs.Ytaldcgfhlflcpaa
namespace Go.Proofs.Ytaldcgfhlflcpaa
open Go.RowKit
set_option maxRecDepth 100000
set_option linter.unusedVariables false
set_option linter.unusedSimpArgs false

set_option maxHeartbeats 8000000 in
set_option maxRecDepth 100000 in
theorem next_halt (B : Bd) (g : Nat) (st : Int) (m : Rs.M) (mv ov : Value)  (i j k : Nat) (n : Int) (w : World) (h : MSt B w g 79 st m mv ov) (hi : i < 32) (hj : j < 32) (hk : k < 32) (hn1 : -1048576 ≤ n) (hn2 : n ≤ 1048575) (hp1 : 0 ≤ m.pc) (hp2 : m.pc ≤ 1048576) (hs1 : 0 ≤ m.steps) (hs2 : m.steps ≤ 1000000000000) :
    Calls Try.prog 34 #[.pointer (some ⟨g, 0, none⟩), iv 0 i j k n] w (StepPost B g 79 st (Rs.exec 0 i j k n m) w) := by
  unfold iv
  have c1 := h.c1
  have c3 := h.c3
  have c4 := h.c4
  have f1 := h.fz 1
  have f3 := h.fz 3
  have f4 := h.fz 4
  have ci := h.cR hi
  have cj := h.cR hj
  have ck := h.cR hk
  have fi := h.fz (5 + i)
  have hlt := h.lt
  have hb := h.base
  obtain ⟨ra, hra⟩ : ∃ ra, Hid (m.regs.getD i 0 = ra) := ⟨_, rfl⟩
  obtain ⟨rb, hrb⟩ : ∃ rb, Hid (m.regs.getD j 0 = rb) := ⟨_, rfl⟩
  obtain ⟨rc, hrc⟩ : ∃ rc, Hid (m.regs.getD k 0 = rc) := ⟨_, rfl⟩
  rw [hra.out] at ci
  rw [hrb.out] at cj
  rw [hrc.out] at ck
  have hRa : Hid (Rs.InR ra) := by unfold Hid; rw [← hra.out]; exact Rs.rget_range h.ok i
  have hRb : Hid (Rs.InR rb) := by unfold Hid; rw [← hrb.out]; exact Rs.rget_range h.ok j
  have hRc : Hid (Rs.InR rc) := by unfold Hid; rw [← hrc.out]; exact Rs.rget_range h.ok k
  have hex : Hid (Rs.exec 0 i j k n m = ({ m with value := ra, steps := m.steps + 1 }, 0)) := by
    unfold Hid Rs.exec Rs.rget
    simp only [Int.toNat_natCast, hra.out, hrb.out, hrc.out]
    rfl
  rw [hex.out]
  have H := Lib.hid h
  clear h
  go_enter Try.func34, Try.ntmps34
  go_wp2_with fail
  go_quiet (fail)
  go_wp2_with fail
  go_quiet (fail)
  go_wp2
  go_ret
  exact ⟨rfl, ⟨mv, ov, MSt.setSteps (MSt.setVal (by first | exact (H.out.alloc _).drewN _ | exact ((H.out.alloc _).drewN _).drewN _) ra) _⟩, Below.setCell (Below.setCell (by first | exact below_drewN ((Below.refl _ _).alloc (by omega) _) _ | exact below_drewN (below_drewN ((Below.refl _ _).alloc (by omega) _) _) _) hb _) hb _, by simp [World.setCell]⟩

set_option maxHeartbeats 8000000 in
set_option maxRecDepth 100000 in
theorem next_s15 (B : Bd) (g : Nat) (st : Int) (m : Rs.M) (mv ov : Value)  (i j k : Nat) (n : Int) (w : World) (h : MSt B w g 79 st m mv ov) (hi : i < 32) (hj : j < 32) (hk : k < 32) (hn1 : -1048576 ≤ n) (hn2 : n ≤ 1048575) (hp1 : 0 ≤ m.pc) (hp2 : m.pc ≤ 1048576) (hs1 : 0 ≤ m.steps) (hs2 : m.steps ≤ 1000000000000) :
    Calls Try.prog 34 #[.pointer (some ⟨g, 0, none⟩), iv 15 i j k n] w (StepPost B g 79 st (Rs.exec 15 i j k n m) w) := by
  unfold iv
  have c1 := h.c1
  have c3 := h.c3
  have c4 := h.c4
  have f1 := h.fz 1
  have f3 := h.fz 3
  have f4 := h.fz 4
  have ci := h.cR hi
  have cj := h.cR hj
  have ck := h.cR hk
  have fi := h.fz (5 + i)
  have hlt := h.lt
  have hb := h.base
  obtain ⟨ra, hra⟩ : ∃ ra, Hid (m.regs.getD i 0 = ra) := ⟨_, rfl⟩
  obtain ⟨rb, hrb⟩ : ∃ rb, Hid (m.regs.getD j 0 = rb) := ⟨_, rfl⟩
  obtain ⟨rc, hrc⟩ : ∃ rc, Hid (m.regs.getD k 0 = rc) := ⟨_, rfl⟩
  rw [hra.out] at ci
  rw [hrb.out] at cj
  rw [hrc.out] at ck
  have hRa : Hid (Rs.InR ra) := by unfold Hid; rw [← hra.out]; exact Rs.rget_range h.ok i
  have hRb : Hid (Rs.InR rb) := by unfold Hid; rw [← hrb.out]; exact Rs.rget_range h.ok j
  have hRc : Hid (Rs.InR rc) := by unfold Hid; rw [← hrc.out]; exact Rs.rget_range h.ok k
  have hex : Hid (Rs.exec 15 i j k n m = (Rs.adv (Rs.setReg m i (wrap64 (rb + n))) (m.pc + 1), 6)) := by
    unfold Hid Rs.exec Rs.rget
    simp only [Int.toNat_natCast, hra.out, hrb.out, hrc.out]
    simp [Rs.simp]
  rw [hex.out]
  have hA : Hid (Rs.InR (wrap64 (rb + n))) := by
    unfold Hid
    have := Rs.simp_range (op := 15) (a := ra) (n := n) hRb.out (by unfold Rs.InR; omega)
    simpa [Rs.simp] using this
  have H := Lib.hid h
  clear h
  by_cases hi0 : i = 0
  · subst hi0
    have hset : Hid (Rs.setReg m ((0 : Nat) : Int) (wrap64 (rb + n)) = m) := if_pos rfl
    rw [hset.out]
    go_enter Try.func34, Try.ntmps34
    go_wp2_with fail
    go_quiet (fail)
    go_wp2_with fail
    go_quiet (fail)
    go_wp2
    go_ret
    exact ⟨rfl, ⟨_, ov, MSt.adv (by first | exact (H.out.alloc _).drewN _ | exact ((H.out.alloc _).drewN _).drewN _) _ _ rfl⟩, Below.setCell (Below.setCell (by first | exact below_drewN ((Below.refl _ _).alloc (by omega) _) _ | exact below_drewN (below_drewN ((Below.refl _ _).alloc (by omega) _) _) _) hb _) hb _, by simp [World.setCell]⟩
  · have hset : Hid (Rs.setReg m (i : Int) (wrap64 (rb + n)) = { m with regs := m.regs.set i (wrap64 (rb + n)) }) := by unfold Hid Rs.setReg; rw [if_neg (by omega), Int.toNat_natCast]
    rw [hset.out]
    have hi1 : ((i : Int) != 0) = true := by rw [bne_iff_ne]; omega
    clear hi0
    go_enter Try.func34, Try.ntmps34
    go_wp2_with fail
    go_quiet (fail)
    go_wp2_with fail
    go_quiet (fail)
    go_wp2
    refine wp_still_tl 7 (by kernel_rfl) (by kernel_rfl) ?_
    simp only [List.take_succ_cons, List.take_zero, List.drop_succ_cons, List.drop_zero]
    repeat still_step
    refine wpStill_nil ?_
    show wpList _ _ _ _ _ _
    go_wp2
    go_ret
    exact ⟨rfl, ⟨_, ov, MSt.adv (MSt.setR (by first | exact (H.out.alloc _).drewN _ | exact ((H.out.alloc _).drewN _).drewN _) hi hA.out) _ _ rfl⟩, Below.setCell (Below.setCell (Below.setCell (by first | exact below_drewN ((Below.refl _ _).alloc (by omega) _) _ | exact below_drewN (below_drewN ((Below.refl _ _).alloc (by omega) _) _) _) hb _) hb _) hb _, by simp [World.setCell]⟩

set_option maxHeartbeats 8000000 in
set_option maxRecDepth 100000 in
theorem next_s16 (B : Bd) (g : Nat) (st : Int) (m : Rs.M) (mv ov : Value)  (i j k : Nat) (n : Int) (w : World) (h : MSt B w g 79 st m mv ov) (hi : i < 32) (hj : j < 32) (hk : k < 32) (hn1 : -1048576 ≤ n) (hn2 : n ≤ 1048575) (hp1 : 0 ≤ m.pc) (hp2 : m.pc ≤ 1048576) (hs1 : 0 ≤ m.steps) (hs2 : m.steps ≤ 1000000000000) :
    Calls Try.prog 34 #[.pointer (some ⟨g, 0, none⟩), iv 16 i j k n] w (StepPost B g 79 st (Rs.exec 16 i j k n m) w) := by
  unfold iv
  have c1 := h.c1
  have c3 := h.c3
  have c4 := h.c4
  have f1 := h.fz 1
  have f3 := h.fz 3
  have f4 := h.fz 4
  have ci := h.cR hi
  have cj := h.cR hj
  have ck := h.cR hk
  have fi := h.fz (5 + i)
  have hlt := h.lt
  have hb := h.base
  obtain ⟨ra, hra⟩ : ∃ ra, Hid (m.regs.getD i 0 = ra) := ⟨_, rfl⟩
  obtain ⟨rb, hrb⟩ : ∃ rb, Hid (m.regs.getD j 0 = rb) := ⟨_, rfl⟩
  obtain ⟨rc, hrc⟩ : ∃ rc, Hid (m.regs.getD k 0 = rc) := ⟨_, rfl⟩
  rw [hra.out] at ci
  rw [hrb.out] at cj
  rw [hrc.out] at ck
  have hRa : Hid (Rs.InR ra) := by unfold Hid; rw [← hra.out]; exact Rs.rget_range h.ok i
  have hRb : Hid (Rs.InR rb) := by unfold Hid; rw [← hrb.out]; exact Rs.rget_range h.ok j
  have hRc : Hid (Rs.InR rc) := by unfold Hid; rw [← hrc.out]; exact Rs.rget_range h.ok k
  have hex : Hid (Rs.exec 16 i j k n m = (Rs.adv (Rs.setReg m i (bits .and .i64 rb n)) (m.pc + 1), 6)) := by
    unfold Hid Rs.exec Rs.rget
    simp only [Int.toNat_natCast, hra.out, hrb.out, hrc.out]
    simp [Rs.simp]
  rw [hex.out]
  have hA : Hid (Rs.InR (bits .and .i64 rb n)) := by
    unfold Hid
    have := Rs.simp_range (op := 16) (a := ra) (n := n) hRb.out (by unfold Rs.InR; omega)
    simpa [Rs.simp] using this
  have H := Lib.hid h
  clear h
  by_cases hi0 : i = 0
  · subst hi0
    have hset : Hid (Rs.setReg m ((0 : Nat) : Int) (bits .and .i64 rb n) = m) := if_pos rfl
    rw [hset.out]
    go_enter Try.func34, Try.ntmps34
    go_wp2_with fail
    go_quiet (fail)
    go_wp2_with fail
    go_quiet (fail)
    go_wp2
    go_ret
    exact ⟨rfl, ⟨_, ov, MSt.adv (by first | exact (H.out.alloc _).drewN _ | exact ((H.out.alloc _).drewN _).drewN _) _ _ rfl⟩, Below.setCell (Below.setCell (by first | exact below_drewN ((Below.refl _ _).alloc (by omega) _) _ | exact below_drewN (below_drewN ((Below.refl _ _).alloc (by omega) _) _) _) hb _) hb _, by simp [World.setCell]⟩
  · have hset : Hid (Rs.setReg m (i : Int) (bits .and .i64 rb n) = { m with regs := m.regs.set i (bits .and .i64 rb n) }) := by unfold Hid Rs.setReg; rw [if_neg (by omega), Int.toNat_natCast]
    rw [hset.out]
    have hi1 : ((i : Int) != 0) = true := by rw [bne_iff_ne]; omega
    clear hi0
    go_enter Try.func34, Try.ntmps34
    go_wp2_with fail
    go_quiet (fail)
    go_wp2_with fail
    go_quiet (fail)
    go_wp2
    refine wp_still_tl 7 (by kernel_rfl) (by kernel_rfl) ?_
    simp only [List.take_succ_cons, List.take_zero, List.drop_succ_cons, List.drop_zero]
    repeat still_step
    refine wpStill_nil ?_
    show wpList _ _ _ _ _ _
    go_wp2
    go_ret
    exact ⟨rfl, ⟨_, ov, MSt.adv (MSt.setR (by first | exact (H.out.alloc _).drewN _ | exact ((H.out.alloc _).drewN _).drewN _) hi hA.out) _ _ rfl⟩, Below.setCell (Below.setCell (Below.setCell (by first | exact below_drewN ((Below.refl _ _).alloc (by omega) _) _ | exact below_drewN (below_drewN ((Below.refl _ _).alloc (by omega) _) _) _) hb _) hb _) hb _, by simp [World.setCell]⟩

set_option maxHeartbeats 8000000 in
set_option maxRecDepth 100000 in
theorem next_s17 (B : Bd) (g : Nat) (st : Int) (m : Rs.M) (mv ov : Value)  (i j k : Nat) (n : Int) (w : World) (h : MSt B w g 79 st m mv ov) (hi : i < 32) (hj : j < 32) (hk : k < 32) (hn1 : -1048576 ≤ n) (hn2 : n ≤ 1048575) (hp1 : 0 ≤ m.pc) (hp2 : m.pc ≤ 1048576) (hs1 : 0 ≤ m.steps) (hs2 : m.steps ≤ 1000000000000) :
    Calls Try.prog 34 #[.pointer (some ⟨g, 0, none⟩), iv 17 i j k n] w (StepPost B g 79 st (Rs.exec 17 i j k n m) w) := by
  unfold iv
  have c1 := h.c1
  have c3 := h.c3
  have c4 := h.c4
  have f1 := h.fz 1
  have f3 := h.fz 3
  have f4 := h.fz 4
  have ci := h.cR hi
  have cj := h.cR hj
  have ck := h.cR hk
  have fi := h.fz (5 + i)
  have hlt := h.lt
  have hb := h.base
  obtain ⟨ra, hra⟩ : ∃ ra, Hid (m.regs.getD i 0 = ra) := ⟨_, rfl⟩
  obtain ⟨rb, hrb⟩ : ∃ rb, Hid (m.regs.getD j 0 = rb) := ⟨_, rfl⟩
  obtain ⟨rc, hrc⟩ : ∃ rc, Hid (m.regs.getD k 0 = rc) := ⟨_, rfl⟩
  rw [hra.out] at ci
  rw [hrb.out] at cj
  rw [hrc.out] at ck
  have hRa : Hid (Rs.InR ra) := by unfold Hid; rw [← hra.out]; exact Rs.rget_range h.ok i
  have hRb : Hid (Rs.InR rb) := by unfold Hid; rw [← hrb.out]; exact Rs.rget_range h.ok j
  have hRc : Hid (Rs.InR rc) := by unfold Hid; rw [← hrc.out]; exact Rs.rget_range h.ok k
  have hex : Hid (Rs.exec 17 i j k n m = (Rs.adv (Rs.setReg m i (bits .or .i64 rb n)) (m.pc + 1), 6)) := by
    unfold Hid Rs.exec Rs.rget
    simp only [Int.toNat_natCast, hra.out, hrb.out, hrc.out]
    simp [Rs.simp]
  rw [hex.out]
  have hA : Hid (Rs.InR (bits .or .i64 rb n)) := by
    unfold Hid
    have := Rs.simp_range (op := 17) (a := ra) (n := n) hRb.out (by unfold Rs.InR; omega)
    simpa [Rs.simp] using this
  have H := Lib.hid h
  clear h
  by_cases hi0 : i = 0
  · subst hi0
    have hset : Hid (Rs.setReg m ((0 : Nat) : Int) (bits .or .i64 rb n) = m) := if_pos rfl
    rw [hset.out]
    go_enter Try.func34, Try.ntmps34
    go_wp2_with fail
    go_quiet (fail)
    go_wp2_with fail
    go_quiet (fail)
    go_wp2
    go_ret
    exact ⟨rfl, ⟨_, ov, MSt.adv (by first | exact (H.out.alloc _).drewN _ | exact ((H.out.alloc _).drewN _).drewN _) _ _ rfl⟩, Below.setCell (Below.setCell (by first | exact below_drewN ((Below.refl _ _).alloc (by omega) _) _ | exact below_drewN (below_drewN ((Below.refl _ _).alloc (by omega) _) _) _) hb _) hb _, by simp [World.setCell]⟩
  · have hset : Hid (Rs.setReg m (i : Int) (bits .or .i64 rb n) = { m with regs := m.regs.set i (bits .or .i64 rb n) }) := by unfold Hid Rs.setReg; rw [if_neg (by omega), Int.toNat_natCast]
    rw [hset.out]
    have hi1 : ((i : Int) != 0) = true := by rw [bne_iff_ne]; omega
    clear hi0
    go_enter Try.func34, Try.ntmps34
    go_wp2_with fail
    go_quiet (fail)
    go_wp2_with fail
    go_quiet (fail)
    go_wp2
    refine wp_still_tl 7 (by kernel_rfl) (by kernel_rfl) ?_
    simp only [List.take_succ_cons, List.take_zero, List.drop_succ_cons, List.drop_zero]
    repeat still_step
    refine wpStill_nil ?_
    show wpList _ _ _ _ _ _
    go_wp2
    go_ret
    exact ⟨rfl, ⟨_, ov, MSt.adv (MSt.setR (by first | exact (H.out.alloc _).drewN _ | exact ((H.out.alloc _).drewN _).drewN _) hi hA.out) _ _ rfl⟩, Below.setCell (Below.setCell (Below.setCell (by first | exact below_drewN ((Below.refl _ _).alloc (by omega) _) _ | exact below_drewN (below_drewN ((Below.refl _ _).alloc (by omega) _) _) _) hb _) hb _) hb _, by simp [World.setCell]⟩

set_option maxHeartbeats 8000000 in
set_option maxRecDepth 100000 in
theorem next_s20 (B : Bd) (g : Nat) (st : Int) (m : Rs.M) (mv ov : Value)  (i j k : Nat) (n : Int) (w : World) (h : MSt B w g 79 st m mv ov) (hi : i < 32) (hj : j < 32) (hk : k < 32) (hn1 : -1048576 ≤ n) (hn2 : n ≤ 1048575) (hp1 : 0 ≤ m.pc) (hp2 : m.pc ≤ 1048576) (hs1 : 0 ≤ m.steps) (hs2 : m.steps ≤ 1000000000000) :
    Calls Try.prog 34 #[.pointer (some ⟨g, 0, none⟩), iv 20 i j k n] w (StepPost B g 79 st (Rs.exec 20 i j k n m) w) := by
  unfold iv
  have c1 := h.c1
  have c3 := h.c3
  have c4 := h.c4
  have f1 := h.fz 1
  have f3 := h.fz 3
  have f4 := h.fz 4
  have ci := h.cR hi
  have cj := h.cR hj
  have ck := h.cR hk
  have fi := h.fz (5 + i)
  have hlt := h.lt
  have hb := h.base
  obtain ⟨ra, hra⟩ : ∃ ra, Hid (m.regs.getD i 0 = ra) := ⟨_, rfl⟩
  obtain ⟨rb, hrb⟩ : ∃ rb, Hid (m.regs.getD j 0 = rb) := ⟨_, rfl⟩
  obtain ⟨rc, hrc⟩ : ∃ rc, Hid (m.regs.getD k 0 = rc) := ⟨_, rfl⟩
  rw [hra.out] at ci
  rw [hrb.out] at cj
  rw [hrc.out] at ck
  have hRa : Hid (Rs.InR ra) := by unfold Hid; rw [← hra.out]; exact Rs.rget_range h.ok i
  have hRb : Hid (Rs.InR rb) := by unfold Hid; rw [← hrb.out]; exact Rs.rget_range h.ok j
  have hRc : Hid (Rs.InR rc) := by unfold Hid; rw [← hrc.out]; exact Rs.rget_range h.ok k
  have hex : Hid (Rs.exec 20 i j k n m = (Rs.adv (Rs.setReg m i (n)) (m.pc + 1), 6)) := by
    unfold Hid Rs.exec Rs.rget
    simp only [Int.toNat_natCast, hra.out, hrb.out, hrc.out]
    simp [Rs.simp]
  rw [hex.out]
  have hA : Hid (Rs.InR (n)) := by
    unfold Hid
    have := Rs.simp_range (op := 20) (a := ra) (n := n) hRb.out (by unfold Rs.InR; omega)
    simpa [Rs.simp] using this
  have H := Lib.hid h
  clear h
  by_cases hi0 : i = 0
  · subst hi0
    have hset : Hid (Rs.setReg m ((0 : Nat) : Int) (n) = m) := if_pos rfl
    rw [hset.out]
    go_enter Try.func34, Try.ntmps34
    go_wp2_with fail
    go_quiet (fail)
    go_wp2_with fail
    go_quiet (fail)
    go_wp2
    go_ret
    exact ⟨rfl, ⟨_, ov, MSt.adv (by first | exact (H.out.alloc _).drewN _ | exact ((H.out.alloc _).drewN _).drewN _) _ _ rfl⟩, Below.setCell (Below.setCell (by first | exact below_drewN ((Below.refl _ _).alloc (by omega) _) _ | exact below_drewN (below_drewN ((Below.refl _ _).alloc (by omega) _) _) _) hb _) hb _, by simp [World.setCell]⟩
  · have hset : Hid (Rs.setReg m (i : Int) (n) = { m with regs := m.regs.set i (n) }) := by unfold Hid Rs.setReg; rw [if_neg (by omega), Int.toNat_natCast]
    rw [hset.out]
    have hi1 : ((i : Int) != 0) = true := by rw [bne_iff_ne]; omega
    clear hi0
    go_enter Try.func34, Try.ntmps34
    go_wp2_with fail
    go_quiet (fail)
    go_wp2_with fail
    go_quiet (fail)
    go_wp2
    refine wp_still_tl 7 (by kernel_rfl) (by kernel_rfl) ?_
    simp only [List.take_succ_cons, List.take_zero, List.drop_succ_cons, List.drop_zero]
    repeat still_step
    refine wpStill_nil ?_
    show wpList _ _ _ _ _ _
    go_wp2
    go_ret
    exact ⟨rfl, ⟨_, ov, MSt.adv (MSt.setR (by first | exact (H.out.alloc _).drewN _ | exact ((H.out.alloc _).drewN _).drewN _) hi hA.out) _ _ rfl⟩, Below.setCell (Below.setCell (Below.setCell (by first | exact below_drewN ((Below.refl _ _).alloc (by omega) _) _ | exact below_drewN (below_drewN ((Below.refl _ _).alloc (by omega) _) _) _) hb _) hb _) hb _, by simp [World.setCell]⟩

set_option maxHeartbeats 8000000 in
set_option maxRecDepth 100000 in
theorem next_s21 (B : Bd) (g : Nat) (st : Int) (m : Rs.M) (mv ov : Value)  (i j k : Nat) (n : Int) (w : World) (h : MSt B w g 79 st m mv ov) (hi : i < 32) (hj : j < 32) (hk : k < 32) (hn1 : -1048576 ≤ n) (hn2 : n ≤ 1048575) (hp1 : 0 ≤ m.pc) (hp2 : m.pc ≤ 1048576) (hs1 : 0 ≤ m.steps) (hs2 : m.steps ≤ 1000000000000) :
    Calls Try.prog 34 #[.pointer (some ⟨g, 0, none⟩), iv 21 i j k n] w (StepPost B g 79 st (Rs.exec 21 i j k n m) w) := by
  unfold iv
  have c1 := h.c1
  have c3 := h.c3
  have c4 := h.c4
  have f1 := h.fz 1
  have f3 := h.fz 3
  have f4 := h.fz 4
  have ci := h.cR hi
  have cj := h.cR hj
  have ck := h.cR hk
  have fi := h.fz (5 + i)
  have hlt := h.lt
  have hb := h.base
  obtain ⟨ra, hra⟩ : ∃ ra, Hid (m.regs.getD i 0 = ra) := ⟨_, rfl⟩
  obtain ⟨rb, hrb⟩ : ∃ rb, Hid (m.regs.getD j 0 = rb) := ⟨_, rfl⟩
  obtain ⟨rc, hrc⟩ : ∃ rc, Hid (m.regs.getD k 0 = rc) := ⟨_, rfl⟩
  rw [hra.out] at ci
  rw [hrb.out] at cj
  rw [hrc.out] at ck
  have hRa : Hid (Rs.InR ra) := by unfold Hid; rw [← hra.out]; exact Rs.rget_range h.ok i
  have hRb : Hid (Rs.InR rb) := by unfold Hid; rw [← hrb.out]; exact Rs.rget_range h.ok j
  have hRc : Hid (Rs.InR rc) := by unfold Hid; rw [← hrc.out]; exact Rs.rget_range h.ok k
  have hex : Hid (Rs.exec 21 i j k n m = (Rs.adv (Rs.setReg m i (bits .or .i64 (wrap64 (ra * 65536)) n)) (m.pc + 1), 6)) := by
    unfold Hid Rs.exec Rs.rget
    simp only [Int.toNat_natCast, hra.out, hrb.out, hrc.out]
    simp [Rs.simp]
  rw [hex.out]
  have hA : Hid (Rs.InR (bits .or .i64 (wrap64 (ra * 65536)) n)) := by
    unfold Hid
    have := Rs.simp_range (op := 21) (a := ra) (n := n) hRb.out (by unfold Rs.InR; omega)
    simpa [Rs.simp] using this
  have H := Lib.hid h
  clear h
  by_cases hi0 : i = 0
  · subst hi0
    have hset : Hid (Rs.setReg m ((0 : Nat) : Int) (bits .or .i64 (wrap64 (ra * 65536)) n) = m) := if_pos rfl
    rw [hset.out]
    go_enter Try.func34, Try.ntmps34
    go_wp2_with fail
    go_quiet (fail)
    go_wp2_with fail
    go_quiet (fail)
    go_wp2
    go_ret
    exact ⟨rfl, ⟨_, ov, MSt.adv (by first | exact (H.out.alloc _).drewN _ | exact ((H.out.alloc _).drewN _).drewN _) _ _ rfl⟩, Below.setCell (Below.setCell (by first | exact below_drewN ((Below.refl _ _).alloc (by omega) _) _ | exact below_drewN (below_drewN ((Below.refl _ _).alloc (by omega) _) _) _) hb _) hb _, by simp [World.setCell]⟩
  · have hset : Hid (Rs.setReg m (i : Int) (bits .or .i64 (wrap64 (ra * 65536)) n) = { m with regs := m.regs.set i (bits .or .i64 (wrap64 (ra * 65536)) n) }) := by unfold Hid Rs.setReg; rw [if_neg (by omega), Int.toNat_natCast]
    rw [hset.out]
    have hi1 : ((i : Int) != 0) = true := by rw [bne_iff_ne]; omega
    clear hi0
    go_enter Try.func34, Try.ntmps34
    go_wp2_with fail
    go_quiet (fail)
    go_wp2_with fail
    go_quiet (fail)
    go_wp2
    refine wp_still_tl 7 (by kernel_rfl) (by kernel_rfl) ?_
    simp only [List.take_succ_cons, List.take_zero, List.drop_succ_cons, List.drop_zero]
    repeat still_step
    refine wpStill_nil ?_
    show wpList _ _ _ _ _ _
    go_wp2
    go_ret
    exact ⟨rfl, ⟨_, ov, MSt.adv (MSt.setR (by first | exact (H.out.alloc _).drewN _ | exact ((H.out.alloc _).drewN _).drewN _) hi hA.out) _ _ rfl⟩, Below.setCell (Below.setCell (Below.setCell (by first | exact below_drewN ((Below.refl _ _).alloc (by omega) _) _ | exact below_drewN (below_drewN ((Below.refl _ _).alloc (by omega) _) _) _) hb _) hb _) hb _, by simp [World.setCell]⟩

set_option maxHeartbeats 8000000 in
set_option maxRecDepth 100000 in
theorem next_s18 (B : Bd) (g : Nat) (st : Int) (m : Rs.M) (mv ov : Value) (q : Nat) (hq : q < 64) (i j k : Nat) (w : World) (h : MSt B w g 79 st m mv ov) (hi : i < 32) (hj : j < 32) (hk : k < 32) (hp1 : 0 ≤ m.pc) (hp2 : m.pc ≤ 1048576) (hs1 : 0 ≤ m.steps) (hs2 : m.steps ≤ 1000000000000) :
    Calls Try.prog 34 #[.pointer (some ⟨g, 0, none⟩), iv 18 i j k q] w (StepPost B g 79 st (Rs.exec 18 i j k q m) w) := by
  unfold iv
  have c1 := h.c1
  have c3 := h.c3
  have c4 := h.c4
  have f1 := h.fz 1
  have f3 := h.fz 3
  have f4 := h.fz 4
  have ci := h.cR hi
  have cj := h.cR hj
  have ck := h.cR hk
  have fi := h.fz (5 + i)
  have hlt := h.lt
  have hb := h.base
  obtain ⟨ra, hra⟩ : ∃ ra, Hid (m.regs.getD i 0 = ra) := ⟨_, rfl⟩
  obtain ⟨rb, hrb⟩ : ∃ rb, Hid (m.regs.getD j 0 = rb) := ⟨_, rfl⟩
  obtain ⟨rc, hrc⟩ : ∃ rc, Hid (m.regs.getD k 0 = rc) := ⟨_, rfl⟩
  rw [hra.out] at ci
  rw [hrb.out] at cj
  rw [hrc.out] at ck
  have hRa : Hid (Rs.InR ra) := by unfold Hid; rw [← hra.out]; exact Rs.rget_range h.ok i
  have hRb : Hid (Rs.InR rb) := by unfold Hid; rw [← hrb.out]; exact Rs.rget_range h.ok j
  have hRc : Hid (Rs.InR rc) := by unfold Hid; rw [← hrc.out]; exact Rs.rget_range h.ok k
  have hkw : IntKind.u64.wrap (q : Int) = q := by rw [IntKind.wrap_u64]; omega
  have hex : Hid (Rs.exec 18 i j k q m = (Rs.adv (Rs.setReg m i (wrap64 (rb * 2 ^ q))) (m.pc + 1), 6)) := by
    unfold Hid Rs.exec Rs.rget
    simp only [Int.toNat_natCast, hra.out, hrb.out, hrc.out]
    simp [Rs.simp]
  rw [hex.out]
  have hA : Hid (Rs.InR (wrap64 (rb * 2 ^ q))) := by
    unfold Hid
    have := Rs.simp_range (op := 18) (a := ra) (n := (q : Int)) hRb.out (by unfold Rs.InR; omega)
    simpa [Rs.simp] using this
  have H := Lib.hid h
  clear h
  by_cases hi0 : i = 0
  · subst hi0
    have hset : Hid (Rs.setReg m ((0 : Nat) : Int) (wrap64 (rb * 2 ^ q)) = m) := if_pos rfl
    rw [hset.out]
    go_enter Try.func34, Try.ntmps34
    go_wp2_with fail
    go_quiet (fail)
    go_wp2_with fail
    go_quiet (fail)
    go_wp2
    go_ret
    exact ⟨rfl, ⟨_, ov, MSt.adv (by first | exact (H.out.alloc _).drewN _ | exact ((H.out.alloc _).drewN _).drewN _) _ _ rfl⟩, Below.setCell (Below.setCell (by first | exact below_drewN ((Below.refl _ _).alloc (by omega) _) _ | exact below_drewN (below_drewN ((Below.refl _ _).alloc (by omega) _) _) _) hb _) hb _, by simp [World.setCell]⟩
  · have hset : Hid (Rs.setReg m (i : Int) (wrap64 (rb * 2 ^ q)) = { m with regs := m.regs.set i (wrap64 (rb * 2 ^ q)) }) := by unfold Hid Rs.setReg; rw [if_neg (by omega), Int.toNat_natCast]
    rw [hset.out]
    have hi1 : ((i : Int) != 0) = true := by rw [bne_iff_ne]; omega
    clear hi0
    go_enter Try.func34, Try.ntmps34
    go_wp2_with fail
    go_quiet (fail)
    go_wp2_with fail
    go_quiet (fail)
    go_wp2
    refine wp_still_tl 7 (by kernel_rfl) (by kernel_rfl) ?_
    simp only [List.take_succ_cons, List.take_zero, List.drop_succ_cons, List.drop_zero]
    repeat still_step
    refine wpStill_nil ?_
    show wpList _ _ _ _ _ _
    go_wp2
    go_ret
    exact ⟨rfl, ⟨_, ov, MSt.adv (MSt.setR (by first | exact (H.out.alloc _).drewN _ | exact ((H.out.alloc _).drewN _).drewN _) hi hA.out) _ _ rfl⟩, Below.setCell (Below.setCell (Below.setCell (by first | exact below_drewN ((Below.refl _ _).alloc (by omega) _) _ | exact below_drewN (below_drewN ((Below.refl _ _).alloc (by omega) _) _) _) hb _) hb _) hb _, by simp [World.setCell]⟩

set_option maxHeartbeats 8000000 in
set_option maxRecDepth 100000 in
theorem next_s19 (B : Bd) (g : Nat) (st : Int) (m : Rs.M) (mv ov : Value) (q : Nat) (hq : q < 64) (i j k : Nat) (w : World) (h : MSt B w g 79 st m mv ov) (hi : i < 32) (hj : j < 32) (hk : k < 32) (hp1 : 0 ≤ m.pc) (hp2 : m.pc ≤ 1048576) (hs1 : 0 ≤ m.steps) (hs2 : m.steps ≤ 1000000000000) :
    Calls Try.prog 34 #[.pointer (some ⟨g, 0, none⟩), iv 19 i j k q] w (StepPost B g 79 st (Rs.exec 19 i j k q m) w) := by
  unfold iv
  have c1 := h.c1
  have c3 := h.c3
  have c4 := h.c4
  have f1 := h.fz 1
  have f3 := h.fz 3
  have f4 := h.fz 4
  have ci := h.cR hi
  have cj := h.cR hj
  have ck := h.cR hk
  have fi := h.fz (5 + i)
  have hlt := h.lt
  have hb := h.base
  obtain ⟨ra, hra⟩ : ∃ ra, Hid (m.regs.getD i 0 = ra) := ⟨_, rfl⟩
  obtain ⟨rb, hrb⟩ : ∃ rb, Hid (m.regs.getD j 0 = rb) := ⟨_, rfl⟩
  obtain ⟨rc, hrc⟩ : ∃ rc, Hid (m.regs.getD k 0 = rc) := ⟨_, rfl⟩
  rw [hra.out] at ci
  rw [hrb.out] at cj
  rw [hrc.out] at ck
  have hRa : Hid (Rs.InR ra) := by unfold Hid; rw [← hra.out]; exact Rs.rget_range h.ok i
  have hRb : Hid (Rs.InR rb) := by unfold Hid; rw [← hrb.out]; exact Rs.rget_range h.ok j
  have hRc : Hid (Rs.InR rc) := by unfold Hid; rw [← hrc.out]; exact Rs.rget_range h.ok k
  have hkw : IntKind.u64.wrap (q : Int) = q := by rw [IntKind.wrap_u64]; omega
  have hex : Hid (Rs.exec 19 i j k q m = (Rs.adv (Rs.setReg m i (rb / 2 ^ q)) (m.pc + 1), 6)) := by
    unfold Hid Rs.exec Rs.rget
    simp only [Int.toNat_natCast, hra.out, hrb.out, hrc.out]
    simp [Rs.simp]
  rw [hex.out]
  have hA : Hid (Rs.InR (rb / 2 ^ q)) := by
    unfold Hid
    have := Rs.simp_range (op := 19) (a := ra) (n := (q : Int)) hRb.out (by unfold Rs.InR; omega)
    simpa [Rs.simp] using this
  have H := Lib.hid h
  clear h
  by_cases hi0 : i = 0
  · subst hi0
    have hset : Hid (Rs.setReg m ((0 : Nat) : Int) (rb / 2 ^ q) = m) := if_pos rfl
    rw [hset.out]
    go_enter Try.func34, Try.ntmps34
    go_wp2_with fail
    go_quiet (fail)
    go_wp2_with fail
    go_quiet (fail)
    go_wp2
    go_ret
    exact ⟨rfl, ⟨_, ov, MSt.adv (by first | exact (H.out.alloc _).drewN _ | exact ((H.out.alloc _).drewN _).drewN _) _ _ rfl⟩, Below.setCell (Below.setCell (by first | exact below_drewN ((Below.refl _ _).alloc (by omega) _) _ | exact below_drewN (below_drewN ((Below.refl _ _).alloc (by omega) _) _) _) hb _) hb _, by simp [World.setCell]⟩
  · have hset : Hid (Rs.setReg m (i : Int) (rb / 2 ^ q) = { m with regs := m.regs.set i (rb / 2 ^ q) }) := by unfold Hid Rs.setReg; rw [if_neg (by omega), Int.toNat_natCast]
    rw [hset.out]
    have hi1 : ((i : Int) != 0) = true := by rw [bne_iff_ne]; omega
    clear hi0
    go_enter Try.func34, Try.ntmps34
    go_wp2_with fail
    go_quiet (fail)
    go_wp2_with fail
    go_quiet (fail)
    go_wp2
    refine wp_still_tl 7 (by kernel_rfl) (by kernel_rfl) ?_
    simp only [List.take_succ_cons, List.take_zero, List.drop_succ_cons, List.drop_zero]
    repeat still_step
    refine wpStill_nil ?_
    show wpList _ _ _ _ _ _
    go_wp2
    go_ret
    exact ⟨rfl, ⟨_, ov, MSt.adv (MSt.setR (by first | exact (H.out.alloc _).drewN _ | exact ((H.out.alloc _).drewN _).drewN _) hi hA.out) _ _ rfl⟩, Below.setCell (Below.setCell (Below.setCell (by first | exact below_drewN ((Below.refl _ _).alloc (by omega) _) _ | exact below_drewN (below_drewN ((Below.refl _ _).alloc (by omega) _) _) _) hb _) hb _) hb _, by simp [World.setCell]⟩

set_option maxHeartbeats 8000000 in
set_option maxRecDepth 100000 in
theorem next_b24 (B : Bd) (g : Nat) (st : Int) (m : Rs.M) (mv ov : Value)  (i j k : Nat) (n : Int) (w : World) (h : MSt B w g 79 st m mv ov) (hi : i < 32) (hj : j < 32) (hk : k < 32) (hn1 : -1048576 ≤ n) (hn2 : n ≤ 1048575) (hp1 : 0 ≤ m.pc) (hp2 : m.pc ≤ 1048576) (hs1 : 0 ≤ m.steps) (hs2 : m.steps ≤ 1000000000000) :
    Calls Try.prog 34 #[.pointer (some ⟨g, 0, none⟩), iv 24 i j k n] w (StepPost B g 79 st (Rs.exec 24 i j k n m) w) := by
  unfold iv
  have c1 := h.c1
  have c3 := h.c3
  have c4 := h.c4
  have f1 := h.fz 1
  have f3 := h.fz 3
  have f4 := h.fz 4
  have ci := h.cR hi
  have cj := h.cR hj
  have ck := h.cR hk
  have fi := h.fz (5 + i)
  have hlt := h.lt
  have hb := h.base
  obtain ⟨ra, hra⟩ : ∃ ra, Hid (m.regs.getD i 0 = ra) := ⟨_, rfl⟩
  obtain ⟨rb, hrb⟩ : ∃ rb, Hid (m.regs.getD j 0 = rb) := ⟨_, rfl⟩
  obtain ⟨rc, hrc⟩ : ∃ rc, Hid (m.regs.getD k 0 = rc) := ⟨_, rfl⟩
  rw [hra.out] at ci
  rw [hrb.out] at cj
  rw [hrc.out] at ck
  have hRa : Hid (Rs.InR ra) := by unfold Hid; rw [← hra.out]; exact Rs.rget_range h.ok i
  have hRb : Hid (Rs.InR rb) := by unfold Hid; rw [← hrb.out]; exact Rs.rget_range h.ok j
  have hRc : Hid (Rs.InR rc) := by unfold Hid; rw [← hrc.out]; exact Rs.rget_range h.ok k
  have H := Lib.hid h
  clear h
  by_cases ht : ra = rb
  · have hex : Hid (Rs.exec 24 i j k n m = (Rs.adv m (m.pc + n), 6)) := by
      unfold Hid Rs.exec Rs.rget
      simp only [Int.toNat_natCast, hra.out, hrb.out, hrc.out]
      simp [Rs.takenB, ht]
    rw [hex.out]
    have ht2 : (ra == rb) = true := by rw [beq_iff_eq]; exact ht
    clear ht
    go_enter Try.func34, Try.ntmps34
    go_wp2_with fail
    go_quiet (fail)
    go_wp2_with fail
    go_quiet (fail)
    go_wp2
    go_quiet (fail)
    go_wp2
    go_ret
    exact ⟨rfl, ⟨mv, ov, MSt.adv (by first | exact (H.out.alloc _).drewN _ | exact ((H.out.alloc _).drewN _).drewN _) _ _ rfl⟩, Below.setCell (Below.setCell (by first | exact below_drewN ((Below.refl _ _).alloc (by omega) _) _ | exact below_drewN (below_drewN ((Below.refl _ _).alloc (by omega) _) _) _) hb _) hb _, by simp [World.setCell]⟩
  · have hex : Hid (Rs.exec 24 i j k n m = (Rs.adv m (m.pc + 1), 6)) := by
      unfold Hid Rs.exec Rs.rget
      simp only [Int.toNat_natCast, hra.out, hrb.out, hrc.out]
      simp [Rs.takenB, ht]
    rw [hex.out]
    have ht2 : (ra == rb) = false := by rw [beq_eq_false_iff_ne]; exact ht
    clear ht
    go_enter Try.func34, Try.ntmps34
    go_wp2_with fail
    go_quiet (fail)
    go_wp2_with fail
    go_quiet (fail)
    go_wp2
    go_ret
    exact ⟨rfl, ⟨mv, ov, MSt.adv (by first | exact (H.out.alloc _).drewN _ | exact ((H.out.alloc _).drewN _).drewN _) _ _ rfl⟩, Below.setCell (Below.setCell (by first | exact below_drewN ((Below.refl _ _).alloc (by omega) _) _ | exact below_drewN (below_drewN ((Below.refl _ _).alloc (by omega) _) _) _) hb _) hb _, by simp [World.setCell]⟩

set_option maxHeartbeats 8000000 in
set_option maxRecDepth 100000 in
theorem next_b25 (B : Bd) (g : Nat) (st : Int) (m : Rs.M) (mv ov : Value)  (i j k : Nat) (n : Int) (w : World) (h : MSt B w g 79 st m mv ov) (hi : i < 32) (hj : j < 32) (hk : k < 32) (hn1 : -1048576 ≤ n) (hn2 : n ≤ 1048575) (hp1 : 0 ≤ m.pc) (hp2 : m.pc ≤ 1048576) (hs1 : 0 ≤ m.steps) (hs2 : m.steps ≤ 1000000000000) :
    Calls Try.prog 34 #[.pointer (some ⟨g, 0, none⟩), iv 25 i j k n] w (StepPost B g 79 st (Rs.exec 25 i j k n m) w) := by
  unfold iv
  have c1 := h.c1
  have c3 := h.c3
  have c4 := h.c4
  have f1 := h.fz 1
  have f3 := h.fz 3
  have f4 := h.fz 4
  have ci := h.cR hi
  have cj := h.cR hj
  have ck := h.cR hk
  have fi := h.fz (5 + i)
  have hlt := h.lt
  have hb := h.base
  obtain ⟨ra, hra⟩ : ∃ ra, Hid (m.regs.getD i 0 = ra) := ⟨_, rfl⟩
  obtain ⟨rb, hrb⟩ : ∃ rb, Hid (m.regs.getD j 0 = rb) := ⟨_, rfl⟩
  obtain ⟨rc, hrc⟩ : ∃ rc, Hid (m.regs.getD k 0 = rc) := ⟨_, rfl⟩
  rw [hra.out] at ci
  rw [hrb.out] at cj
  rw [hrc.out] at ck
  have hRa : Hid (Rs.InR ra) := by unfold Hid; rw [← hra.out]; exact Rs.rget_range h.ok i
  have hRb : Hid (Rs.InR rb) := by unfold Hid; rw [← hrb.out]; exact Rs.rget_range h.ok j
  have hRc : Hid (Rs.InR rc) := by unfold Hid; rw [← hrc.out]; exact Rs.rget_range h.ok k
  have H := Lib.hid h
  clear h
  by_cases ht : ra ≠ rb
  · have hex : Hid (Rs.exec 25 i j k n m = (Rs.adv m (m.pc + n), 6)) := by
      unfold Hid Rs.exec Rs.rget
      simp only [Int.toNat_natCast, hra.out, hrb.out, hrc.out]
      simp [Rs.takenB, ht]
    rw [hex.out]
    have ht2 : (ra != rb) = true := by rw [bne_iff_ne]; exact ht
    clear ht
    go_enter Try.func34, Try.ntmps34
    go_wp2_with fail
    go_quiet (fail)
    go_wp2_with fail
    go_quiet (fail)
    go_wp2
    go_quiet (fail)
    go_wp2
    go_ret
    exact ⟨rfl, ⟨mv, ov, MSt.adv (by first | exact (H.out.alloc _).drewN _ | exact ((H.out.alloc _).drewN _).drewN _) _ _ rfl⟩, Below.setCell (Below.setCell (by first | exact below_drewN ((Below.refl _ _).alloc (by omega) _) _ | exact below_drewN (below_drewN ((Below.refl _ _).alloc (by omega) _) _) _) hb _) hb _, by simp [World.setCell]⟩
  · have hex : Hid (Rs.exec 25 i j k n m = (Rs.adv m (m.pc + 1), 6)) := by
      unfold Hid Rs.exec Rs.rget
      simp only [Int.toNat_natCast, hra.out, hrb.out, hrc.out]
      simp [Rs.takenB, ht]
    rw [hex.out]
    have ht2 : (ra != rb) = false := by simpa using ht
    clear ht
    go_enter Try.func34, Try.ntmps34
    go_wp2_with fail
    go_quiet (fail)
    go_wp2_with fail
    go_quiet (fail)
    go_wp2
    go_ret
    exact ⟨rfl, ⟨mv, ov, MSt.adv (by first | exact (H.out.alloc _).drewN _ | exact ((H.out.alloc _).drewN _).drewN _) _ _ rfl⟩, Below.setCell (Below.setCell (by first | exact below_drewN ((Below.refl _ _).alloc (by omega) _) _ | exact below_drewN (below_drewN ((Below.refl _ _).alloc (by omega) _) _) _) hb _) hb _, by simp [World.setCell]⟩

set_option maxHeartbeats 8000000 in
set_option maxRecDepth 100000 in
theorem next_b26 (B : Bd) (g : Nat) (st : Int) (m : Rs.M) (mv ov : Value)  (i j k : Nat) (n : Int) (w : World) (h : MSt B w g 79 st m mv ov) (hi : i < 32) (hj : j < 32) (hk : k < 32) (hn1 : -1048576 ≤ n) (hn2 : n ≤ 1048575) (hp1 : 0 ≤ m.pc) (hp2 : m.pc ≤ 1048576) (hs1 : 0 ≤ m.steps) (hs2 : m.steps ≤ 1000000000000) :
    Calls Try.prog 34 #[.pointer (some ⟨g, 0, none⟩), iv 26 i j k n] w (StepPost B g 79 st (Rs.exec 26 i j k n m) w) := by
  unfold iv
  have c1 := h.c1
  have c3 := h.c3
  have c4 := h.c4
  have f1 := h.fz 1
  have f3 := h.fz 3
  have f4 := h.fz 4
  have ci := h.cR hi
  have cj := h.cR hj
  have ck := h.cR hk
  have fi := h.fz (5 + i)
  have hlt := h.lt
  have hb := h.base
  obtain ⟨ra, hra⟩ : ∃ ra, Hid (m.regs.getD i 0 = ra) := ⟨_, rfl⟩
  obtain ⟨rb, hrb⟩ : ∃ rb, Hid (m.regs.getD j 0 = rb) := ⟨_, rfl⟩
  obtain ⟨rc, hrc⟩ : ∃ rc, Hid (m.regs.getD k 0 = rc) := ⟨_, rfl⟩
  rw [hra.out] at ci
  rw [hrb.out] at cj
  rw [hrc.out] at ck
  have hRa : Hid (Rs.InR ra) := by unfold Hid; rw [← hra.out]; exact Rs.rget_range h.ok i
  have hRb : Hid (Rs.InR rb) := by unfold Hid; rw [← hrb.out]; exact Rs.rget_range h.ok j
  have hRc : Hid (Rs.InR rc) := by unfold Hid; rw [← hrc.out]; exact Rs.rget_range h.ok k
  have H := Lib.hid h
  clear h
  by_cases ht : ra < rb
  · have hex : Hid (Rs.exec 26 i j k n m = (Rs.adv m (m.pc + n), 6)) := by
      unfold Hid Rs.exec Rs.rget
      simp only [Int.toNat_natCast, hra.out, hrb.out, hrc.out]
      simp [Rs.takenB, ht]
    rw [hex.out]
    have ht2 : ra < rb := ht
    clear ht
    go_enter Try.func34, Try.ntmps34
    go_wp2_with fail
    go_quiet (fail)
    go_wp2_with fail
    go_quiet (fail)
    go_wp2
    go_quiet (fail)
    go_wp2
    go_ret
    exact ⟨rfl, ⟨mv, ov, MSt.adv (by first | exact (H.out.alloc _).drewN _ | exact ((H.out.alloc _).drewN _).drewN _) _ _ rfl⟩, Below.setCell (Below.setCell (by first | exact below_drewN ((Below.refl _ _).alloc (by omega) _) _ | exact below_drewN (below_drewN ((Below.refl _ _).alloc (by omega) _) _) _) hb _) hb _, by simp [World.setCell]⟩
  · have hex : Hid (Rs.exec 26 i j k n m = (Rs.adv m (m.pc + 1), 6)) := by
      unfold Hid Rs.exec Rs.rget
      simp only [Int.toNat_natCast, hra.out, hrb.out, hrc.out]
      simp [Rs.takenB, ht]
    rw [hex.out]
    have ht2 : ¬ ra < rb := ht
    clear ht
    go_enter Try.func34, Try.ntmps34
    go_wp2_with fail
    go_quiet (fail)
    go_wp2_with fail
    go_quiet (fail)
    go_wp2
    go_ret
    exact ⟨rfl, ⟨mv, ov, MSt.adv (by first | exact (H.out.alloc _).drewN _ | exact ((H.out.alloc _).drewN _).drewN _) _ _ rfl⟩, Below.setCell (Below.setCell (by first | exact below_drewN ((Below.refl _ _).alloc (by omega) _) _ | exact below_drewN (below_drewN ((Below.refl _ _).alloc (by omega) _) _) _) hb _) hb _, by simp [World.setCell]⟩

set_option maxHeartbeats 8000000 in
set_option maxRecDepth 100000 in
theorem next_b27 (B : Bd) (g : Nat) (st : Int) (m : Rs.M) (mv ov : Value)  (i j k : Nat) (n : Int) (w : World) (h : MSt B w g 79 st m mv ov) (hi : i < 32) (hj : j < 32) (hk : k < 32) (hn1 : -1048576 ≤ n) (hn2 : n ≤ 1048575) (hp1 : 0 ≤ m.pc) (hp2 : m.pc ≤ 1048576) (hs1 : 0 ≤ m.steps) (hs2 : m.steps ≤ 1000000000000) :
    Calls Try.prog 34 #[.pointer (some ⟨g, 0, none⟩), iv 27 i j k n] w (StepPost B g 79 st (Rs.exec 27 i j k n m) w) := by
  unfold iv
  have c1 := h.c1
  have c3 := h.c3
  have c4 := h.c4
  have f1 := h.fz 1
  have f3 := h.fz 3
  have f4 := h.fz 4
  have ci := h.cR hi
  have cj := h.cR hj
  have ck := h.cR hk
  have fi := h.fz (5 + i)
  have hlt := h.lt
  have hb := h.base
  obtain ⟨ra, hra⟩ : ∃ ra, Hid (m.regs.getD i 0 = ra) := ⟨_, rfl⟩
  obtain ⟨rb, hrb⟩ : ∃ rb, Hid (m.regs.getD j 0 = rb) := ⟨_, rfl⟩
  obtain ⟨rc, hrc⟩ : ∃ rc, Hid (m.regs.getD k 0 = rc) := ⟨_, rfl⟩
  rw [hra.out] at ci
  rw [hrb.out] at cj
  rw [hrc.out] at ck
  have hRa : Hid (Rs.InR ra) := by unfold Hid; rw [← hra.out]; exact Rs.rget_range h.ok i
  have hRb : Hid (Rs.InR rb) := by unfold Hid; rw [← hrb.out]; exact Rs.rget_range h.ok j
  have hRc : Hid (Rs.InR rc) := by unfold Hid; rw [← hrc.out]; exact Rs.rget_range h.ok k
  have H := Lib.hid h
  clear h
  by_cases ht : rb ≤ ra
  · have hex : Hid (Rs.exec 27 i j k n m = (Rs.adv m (m.pc + n), 6)) := by
      unfold Hid Rs.exec Rs.rget
      simp only [Int.toNat_natCast, hra.out, hrb.out, hrc.out]
      simp [Rs.takenB, ht]
    rw [hex.out]
    have ht2 : rb ≤ ra := ht
    clear ht
    go_enter Try.func34, Try.ntmps34
    go_wp2_with fail
    go_quiet (fail)
    go_wp2_with fail
    go_quiet (fail)
    go_wp2
    go_quiet (fail)
    go_wp2
    go_ret
    exact ⟨rfl, ⟨mv, ov, MSt.adv (by first | exact (H.out.alloc _).drewN _ | exact ((H.out.alloc _).drewN _).drewN _) _ _ rfl⟩, Below.setCell (Below.setCell (by first | exact below_drewN ((Below.refl _ _).alloc (by omega) _) _ | exact below_drewN (below_drewN ((Below.refl _ _).alloc (by omega) _) _) _) hb _) hb _, by simp [World.setCell]⟩
  · have hex : Hid (Rs.exec 27 i j k n m = (Rs.adv m (m.pc + 1), 6)) := by
      unfold Hid Rs.exec Rs.rget
      simp only [Int.toNat_natCast, hra.out, hrb.out, hrc.out]
      simp [Rs.takenB, ht]
    rw [hex.out]
    have ht2 : ¬ rb ≤ ra := ht
    clear ht
    go_enter Try.func34, Try.ntmps34
    go_wp2_with fail
    go_quiet (fail)
    go_wp2_with fail
    go_quiet (fail)
    go_wp2
    go_ret
    exact ⟨rfl, ⟨mv, ov, MSt.adv (by first | exact (H.out.alloc _).drewN _ | exact ((H.out.alloc _).drewN _).drewN _) _ _ rfl⟩, Below.setCell (Below.setCell (by first | exact below_drewN ((Below.refl _ _).alloc (by omega) _) _ | exact below_drewN (below_drewN ((Below.refl _ _).alloc (by omega) _) _) _) hb _) hb _, by simp [World.setCell]⟩

set_option maxHeartbeats 8000000 in
set_option maxRecDepth 100000 in
theorem next_jal (B : Bd) (g : Nat) (st : Int) (m : Rs.M) (mv ov : Value)  (i j k : Nat) (n : Int) (w : World) (h : MSt B w g 79 st m mv ov) (hi : i < 32) (hj : j < 32) (hk : k < 32) (hn1 : -1048576 ≤ n) (hn2 : n ≤ 1048575) (hp1 : 0 ≤ m.pc) (hp2 : m.pc ≤ 1048576) (hs1 : 0 ≤ m.steps) (hs2 : m.steps ≤ 1000000000000) :
    Calls Try.prog 34 #[.pointer (some ⟨g, 0, none⟩), iv 28 i j k n] w (StepPost B g 79 st (Rs.exec 28 i j k n m) w) := by
  unfold iv
  have c1 := h.c1
  have c3 := h.c3
  have c4 := h.c4
  have f1 := h.fz 1
  have f3 := h.fz 3
  have f4 := h.fz 4
  have ci := h.cR hi
  have cj := h.cR hj
  have ck := h.cR hk
  have fi := h.fz (5 + i)
  have hlt := h.lt
  have hb := h.base
  obtain ⟨ra, hra⟩ : ∃ ra, Hid (m.regs.getD i 0 = ra) := ⟨_, rfl⟩
  obtain ⟨rb, hrb⟩ : ∃ rb, Hid (m.regs.getD j 0 = rb) := ⟨_, rfl⟩
  obtain ⟨rc, hrc⟩ : ∃ rc, Hid (m.regs.getD k 0 = rc) := ⟨_, rfl⟩
  rw [hra.out] at ci
  rw [hrb.out] at cj
  rw [hrc.out] at ck
  have hRa : Hid (Rs.InR ra) := by unfold Hid; rw [← hra.out]; exact Rs.rget_range h.ok i
  have hRb : Hid (Rs.InR rb) := by unfold Hid; rw [← hrb.out]; exact Rs.rget_range h.ok j
  have hRc : Hid (Rs.InR rc) := by unfold Hid; rw [← hrc.out]; exact Rs.rget_range h.ok k
  have hex : Hid (Rs.exec 28 i j k n m = (Rs.adv (Rs.setReg m i (m.pc + 1)) (m.pc + n), 6)) := by
    unfold Hid Rs.exec Rs.rget
    simp only [Int.toNat_natCast, hra.out, hrb.out, hrc.out]
    simp
  rw [hex.out]
  have H := Lib.hid h
  clear h
  by_cases hi0 : i = 0
  · subst hi0
    have hset : Hid (Rs.setReg m ((0 : Nat) : Int) (m.pc + 1) = m) := if_pos rfl
    rw [hset.out]
    go_enter Try.func34, Try.ntmps34
    go_wp2_with fail
    go_quiet (fail)
    go_wp2_with fail
    go_quiet (fail)
    go_wp2
    go_quiet (fail)
    go_wp2
    go_ret
    exact ⟨rfl, ⟨_, ov, MSt.adv (by first | exact (H.out.alloc _).drewN _ | exact ((H.out.alloc _).drewN _).drewN _) _ _ rfl⟩, Below.setCell (Below.setCell (by first | exact below_drewN ((Below.refl _ _).alloc (by omega) _) _ | exact below_drewN (below_drewN ((Below.refl _ _).alloc (by omega) _) _) _) hb _) hb _, by simp [World.setCell]⟩
  · have hset : Hid (Rs.setReg m (i : Int) (m.pc + 1) = { m with regs := m.regs.set i (m.pc + 1) }) := by unfold Hid Rs.setReg; rw [if_neg (by omega), Int.toNat_natCast]
    rw [hset.out]
    have hi1 : ((i : Int) != 0) = true := by rw [bne_iff_ne]; omega
    clear hi0
    go_enter Try.func34, Try.ntmps34
    go_wp2_with fail
    go_quiet (fail)
    go_wp2_with fail
    go_quiet (fail)
    go_wp2
    go_quiet (fail)
    go_wp2
    refine wp_still_tl 7 (by kernel_rfl) (by kernel_rfl) ?_
    simp only [List.take_succ_cons, List.take_zero, List.drop_succ_cons, List.drop_zero]
    repeat still_step
    refine wpStill_nil ?_
    show wpList _ _ _ _ _ _
    go_wp2
    go_ret
    exact ⟨rfl, ⟨_, ov, MSt.adv (MSt.setR (by first | exact (H.out.alloc _).drewN _ | exact ((H.out.alloc _).drewN _).drewN _) hi (by unfold Rs.InR; omega)) _ _ rfl⟩, Below.setCell (Below.setCell (Below.setCell (by first | exact below_drewN ((Below.refl _ _).alloc (by omega) _) _ | exact below_drewN (below_drewN ((Below.refl _ _).alloc (by omega) _) _) _) hb _) hb _) hb _, by simp [World.setCell]⟩

set_option maxHeartbeats 8000000 in
set_option maxRecDepth 100000 in
theorem next_jalr (B : Bd) (g : Nat) (st : Int) (m : Rs.M) (mv ov : Value)  (i j k : Nat) (n : Int) (w : World) (h : MSt B w g 79 st m mv ov) (hi : i < 32) (hj : j < 32) (hk : k < 32) (hn1 : -1048576 ≤ n) (hn2 : n ≤ 1048575) (hp1 : 0 ≤ m.pc) (hp2 : m.pc ≤ 1048576) (hs1 : 0 ≤ m.steps) (hs2 : m.steps ≤ 1000000000000) :
    Calls Try.prog 34 #[.pointer (some ⟨g, 0, none⟩), iv 29 i j k n] w (StepPost B g 79 st (Rs.exec 29 i j k n m) w) := by
  unfold iv
  have c1 := h.c1
  have c3 := h.c3
  have c4 := h.c4
  have f1 := h.fz 1
  have f3 := h.fz 3
  have f4 := h.fz 4
  have ci := h.cR hi
  have cj := h.cR hj
  have ck := h.cR hk
  have fi := h.fz (5 + i)
  have hlt := h.lt
  have hb := h.base
  obtain ⟨ra, hra⟩ : ∃ ra, Hid (m.regs.getD i 0 = ra) := ⟨_, rfl⟩
  obtain ⟨rb, hrb⟩ : ∃ rb, Hid (m.regs.getD j 0 = rb) := ⟨_, rfl⟩
  obtain ⟨rc, hrc⟩ : ∃ rc, Hid (m.regs.getD k 0 = rc) := ⟨_, rfl⟩
  rw [hra.out] at ci
  rw [hrb.out] at cj
  rw [hrc.out] at ck
  have hRa : Hid (Rs.InR ra) := by unfold Hid; rw [← hra.out]; exact Rs.rget_range h.ok i
  have hRb : Hid (Rs.InR rb) := by unfold Hid; rw [← hrb.out]; exact Rs.rget_range h.ok j
  have hRc : Hid (Rs.InR rc) := by unfold Hid; rw [← hrc.out]; exact Rs.rget_range h.ok k
  have hex : Hid (Rs.exec 29 i j k n m = (Rs.adv (Rs.setReg m i (m.pc + 1)) (rb), 6)) := by
    unfold Hid Rs.exec Rs.rget
    simp only [Int.toNat_natCast, hra.out, hrb.out, hrc.out]
    simp
  rw [hex.out]
  have H := Lib.hid h
  clear h
  by_cases hi0 : i = 0
  · subst hi0
    have hset : Hid (Rs.setReg m ((0 : Nat) : Int) (m.pc + 1) = m) := if_pos rfl
    rw [hset.out]
    go_enter Try.func34, Try.ntmps34
    go_wp2_with fail
    go_quiet (fail)
    go_wp2_with fail
    go_quiet (fail)
    go_wp2
    go_ret
    exact ⟨rfl, ⟨_, ov, MSt.adv (by first | exact (H.out.alloc _).drewN _ | exact ((H.out.alloc _).drewN _).drewN _) _ _ rfl⟩, Below.setCell (Below.setCell (by first | exact below_drewN ((Below.refl _ _).alloc (by omega) _) _ | exact below_drewN (below_drewN ((Below.refl _ _).alloc (by omega) _) _) _) hb _) hb _, by simp [World.setCell]⟩
  · have hset : Hid (Rs.setReg m (i : Int) (m.pc + 1) = { m with regs := m.regs.set i (m.pc + 1) }) := by unfold Hid Rs.setReg; rw [if_neg (by omega), Int.toNat_natCast]
    rw [hset.out]
    have hi1 : ((i : Int) != 0) = true := by rw [bne_iff_ne]; omega
    clear hi0
    go_enter Try.func34, Try.ntmps34
    go_wp2_with fail
    go_quiet (fail)
    go_wp2_with fail
    go_quiet (fail)
    go_wp2
    refine wp_still_tl 7 (by kernel_rfl) (by kernel_rfl) ?_
    simp only [List.take_succ_cons, List.take_zero, List.drop_succ_cons, List.drop_zero]
    repeat still_step
    refine wpStill_nil ?_
    show wpList _ _ _ _ _ _
    go_wp2
    go_ret
    exact ⟨rfl, ⟨_, ov, MSt.adv (MSt.setR (by first | exact (H.out.alloc _).drewN _ | exact ((H.out.alloc _).drewN _).drewN _) hi (by unfold Rs.InR; omega)) _ _ rfl⟩, Below.setCell (Below.setCell (Below.setCell (by first | exact below_drewN ((Below.refl _ _).alloc (by omega) _) _ | exact below_drewN (below_drewN ((Below.refl _ _).alloc (by omega) _) _) _) hb _) hb _) hb _, by simp [World.setCell]⟩
end Go.Proofs.Ytaldcgfhlflcpaa
namespace Go.Proofs.Ytaldcgfhlflcpaa
open Go.RowKit
set_option maxRecDepth 100000
set_option linter.unusedVariables false
set_option linter.unusedSimpArgs false
theorem MSt.drw {B : Bd} {g T : Nat} {w : World} {st : Int} {m : Rs.M} {mv ov : Value} (h : MSt B w g T st m mv ov) : MSt B w.drew g T st m mv ov := h.hp rfl
theorem below_drw {B : Nat} {a w : World} (h : Below B a w) : Below B a w.drew := ⟨h.os, h.tape, h.output, h.size, h.block⟩

set_option maxHeartbeats 8000000 in
set_option maxRecDepth 100000 in
theorem next_lw (B : Bd) (g : Nat) (st : Int) (m : Rs.M) (mv ov : Value)  (i j k : Nat) (n : Int) (w : World) (h : MSt B w g 79 st m mv ov) (hi : i < 32) (hj : j < 32) (hk : k < 32) (hn1 : -1048576 ≤ n) (hn2 : n ≤ 1048575) (hp1 : 0 ≤ m.pc) (hp2 : m.pc ≤ 1048576) (hs1 : 0 ≤ m.steps) (hs2 : m.steps ≤ 1000000000000) :
    Calls Try.prog 34 #[.pointer (some ⟨g, 0, none⟩), iv 22 i j k n] w (StepPost B g 79 st (Rs.exec 22 i j k n m) w) := by
  unfold iv
  have c1 := h.c1
  have c3 := h.c3
  have c4 := h.c4
  have f1 := h.fz 1
  have f3 := h.fz 3
  have f4 := h.fz 4
  have ci := h.cR hi
  have cj := h.cR hj
  have ck := h.cR hk
  have fi := h.fz (5 + i)
  have hlt := h.lt
  have hb := h.base
  obtain ⟨ra, hra⟩ : ∃ ra, Hid (m.regs.getD i 0 = ra) := ⟨_, rfl⟩
  obtain ⟨rb, hrb⟩ : ∃ rb, Hid (m.regs.getD j 0 = rb) := ⟨_, rfl⟩
  obtain ⟨rc, hrc⟩ : ∃ rc, Hid (m.regs.getD k 0 = rc) := ⟨_, rfl⟩
  rw [hra.out] at ci
  rw [hrb.out] at cj
  rw [hrc.out] at ck
  have hRa : Hid (Rs.InR ra) := by unfold Hid; rw [← hra.out]; exact Rs.rget_range h.ok i
  have hRb : Hid (Rs.InR rb) := by unfold Hid; rw [← hrb.out]; exact Rs.rget_range h.ok j
  have hRc : Hid (Rs.InR rc) := by unfold Hid; rw [← hrc.out]; exact Rs.rget_range h.ok k
  obtain ⟨am, capm, rfl, hbm⟩ := h.mvForm
  have c37 := h.c37
  have hlen := h.ok.len
  obtain ⟨at', hat⟩ : ∃ z, wrap64 (rb + n) = z := ⟨_, rfl⟩
  have hml : (0 : Int) ≤ (m.mem.length : Int) := by omega
  rcases (by omega : at' < 0 ∨ (0 ≤ at' ∧ (m.mem.length : Int) ≤ at') ∨ (0 ≤ at' ∧ at' < (m.mem.length : Int))) with q1 | ⟨q1, q2⟩ | ⟨q1, q2⟩
  case inr.inr =>
    obtain ⟨q, rfl⟩ : ∃ q : Nat, at' = q := ⟨at'.toNat, by omega⟩
    have hq : q < m.mem.length := by omega
    obtain ⟨bm, rfl, hblt⟩ := hbm (by omega)
    have cq := own_ints h.mem q hq
    have hne : bm ≠ g := fun e => h.ne1 (by rw [e]; rfl)
    have hbb : B ≤ bm := (own_cap h.mem).1
    have hex : Hid (Rs.exec 22 i j k n m = (Rs.adv (Rs.setReg m i (m.mem.getD q 0)) (m.pc + 1), 6)) := by
      unfold Hid Rs.exec Rs.rget
      simp only [Int.toNat_natCast, hra.out, hrb.out, hrc.out]
      have hr : ¬ ((q : Int) < 0 ∨ (m.mem.length : Int) ≤ (q : Int)) := by omega
      simp [hat, hr, hq]
    rw [hex.out]
    have hRm : Hid (Rs.InR (m.mem.getD q 0)) := Rs.mem_range h.ok q
    obtain ⟨mq, hmq⟩ : ∃ z, Hid (m.mem.getD q 0 = z) := ⟨_, rfl⟩
    rw [hmq.out] at cq hRm ⊢
    have H := Lib.hid h
    clear h hbm
    by_cases hi0 : i = 0
    · subst hi0
      have hset : Hid (Rs.setReg m ((0 : Nat) : Int) (mq) = m) := if_pos rfl
      rw [hset.out]
      go_enter Try.func34, Try.ntmps34
      go_wp2_with fail
      go_quiet (fail)
      go_wp2_with fail
      go_quiet (fail)
      go_wp2
      go_ret
      exact ⟨rfl, ⟨_, ov, MSt.adv (by first | exact (H.out.alloc _).drewN _ | exact ((H.out.alloc _).drewN _).drewN _) _ _ rfl⟩, Below.setCell (Below.setCell (by first | exact below_drewN ((Below.refl _ _).alloc (by omega) _) _ | exact below_drewN (below_drewN ((Below.refl _ _).alloc (by omega) _) _) _) hb _) hb _, by simp [World.setCell]⟩
    · have hset : Hid (Rs.setReg m (i : Int) (mq) = { m with regs := m.regs.set i (mq) }) := by unfold Hid Rs.setReg; rw [if_neg (by omega), Int.toNat_natCast]
      rw [hset.out]
      have hi1 : ((i : Int) != 0) = true := by rw [bne_iff_ne]; omega
      clear hi0
      go_enter Try.func34, Try.ntmps34
      go_wp2_with fail
      go_quiet (fail)
      go_wp2_with fail
      go_quiet (fail)
      go_wp2
      refine wp_still_tl 7 (by kernel_rfl) (by kernel_rfl) ?_
      simp only [List.take_succ_cons, List.take_zero, List.drop_succ_cons, List.drop_zero]
      repeat still_step
      refine wpStill_nil ?_
      show wpList _ _ _ _ _ _
      go_wp2
      go_ret
      exact ⟨rfl, ⟨_, ov, MSt.adv (MSt.setR (by first | exact (H.out.alloc _).drewN _ | exact ((H.out.alloc _).drewN _).drewN _) hi hRm.out) _ _ rfl⟩, Below.setCell (Below.setCell (Below.setCell (by first | exact below_drewN ((Below.refl _ _).alloc (by omega) _) _ | exact below_drewN (below_drewN ((Below.refl _ _).alloc (by omega) _) _) _) hb _) hb _) hb _, by simp [World.setCell]⟩
  all_goals
    have hex : Hid (Rs.exec 22 i j k n m = (m, 2)) := by
      unfold Hid Rs.exec Rs.rget
      simp only [Int.toNat_natCast, hra.out, hrb.out, hrc.out]
      have hr : at' < 0 ∨ (m.mem.length : Int) ≤ at' := by omega
      simp [hat, hr]
    rw [hex.out]
    have H := Lib.hid h
    clear h hbm
    go_enter Try.func34, Try.ntmps34
    go_wp2_with fail
    go_quiet (fail)
    go_wp2_with fail
    go_quiet (fail)
    go_wp2
    go_ret
    exact ⟨rfl, ⟨_, ov, (by first | exact (H.out.alloc _).drewN _ | exact ((H.out.alloc _).drewN _).drewN _)⟩, (by first | exact below_drewN ((Below.refl _ _).alloc (by omega) _) _ | exact below_drewN (below_drewN ((Below.refl _ _).alloc (by omega) _) _) _), by simp⟩

set_option maxHeartbeats 8000000 in
set_option maxRecDepth 100000 in
theorem next_sw (B : Bd) (g : Nat) (st : Int) (m : Rs.M) (mv ov : Value)  (i j k : Nat) (n : Int) (w : World) (h : MSt B w g 79 st m mv ov) (hi : i < 32) (hj : j < 32) (hk : k < 32) (hn1 : -1048576 ≤ n) (hn2 : n ≤ 1048575) (hp1 : 0 ≤ m.pc) (hp2 : m.pc ≤ 1048576) (hs1 : 0 ≤ m.steps) (hs2 : m.steps ≤ 1000000000000) :
    Calls Try.prog 34 #[.pointer (some ⟨g, 0, none⟩), iv 23 i j k n] w (StepPost B g 79 st (Rs.exec 23 i j k n m) w) := by
  unfold iv
  have c1 := h.c1
  have c3 := h.c3
  have c4 := h.c4
  have f1 := h.fz 1
  have f3 := h.fz 3
  have f4 := h.fz 4
  have ci := h.cR hi
  have cj := h.cR hj
  have ck := h.cR hk
  have fi := h.fz (5 + i)
  have hlt := h.lt
  have hb := h.base
  obtain ⟨ra, hra⟩ : ∃ ra, Hid (m.regs.getD i 0 = ra) := ⟨_, rfl⟩
  obtain ⟨rb, hrb⟩ : ∃ rb, Hid (m.regs.getD j 0 = rb) := ⟨_, rfl⟩
  obtain ⟨rc, hrc⟩ : ∃ rc, Hid (m.regs.getD k 0 = rc) := ⟨_, rfl⟩
  rw [hra.out] at ci
  rw [hrb.out] at cj
  rw [hrc.out] at ck
  have hRa : Hid (Rs.InR ra) := by unfold Hid; rw [← hra.out]; exact Rs.rget_range h.ok i
  have hRb : Hid (Rs.InR rb) := by unfold Hid; rw [← hrb.out]; exact Rs.rget_range h.ok j
  have hRc : Hid (Rs.InR rc) := by unfold Hid; rw [← hrc.out]; exact Rs.rget_range h.ok k
  obtain ⟨am, capm, rfl, hbm⟩ := h.mvForm
  have c37 := h.c37
  have hlen := h.ok.len
  obtain ⟨at', hat⟩ : ∃ z, wrap64 (rb + n) = z := ⟨_, rfl⟩
  have hml : (0 : Int) ≤ (m.mem.length : Int) := by omega
  rcases (by omega : at' < 0 ∨ (0 ≤ at' ∧ (m.mem.length : Int) ≤ at') ∨ (0 ≤ at' ∧ at' < (m.mem.length : Int))) with q1 | ⟨q1, q2⟩ | ⟨q1, q2⟩
  case inr.inr =>
    obtain ⟨q, rfl⟩ : ∃ q : Nat, at' = q := ⟨at'.toNat, by omega⟩
    have hq : q < m.mem.length := by omega
    obtain ⟨bm, rfl, hblt⟩ := hbm (by omega)
    have cq := own_ints h.mem q hq
    have hne : bm ≠ g := fun e => h.ne1 (by rw [e]; rfl)
    have hbb : B ≤ bm := (own_cap h.mem).1
    have hex : Hid (Rs.exec 23 i j k n m = (Rs.adv { m with mem := m.mem.set q ra } (m.pc + 1), 6)) := by
      unfold Hid Rs.exec Rs.rget
      simp only [Int.toNat_natCast, hra.out, hrb.out, hrc.out]
      have hr : ¬ ((q : Int) < 0 ∨ (m.mem.length : Int) ≤ (q : Int)) := by omega
      simp [hat, hr, hq]
    rw [hex.out]
    have fq := h.mem.frozenAt q
    have H := Lib.hid h
    clear h hbm
    go_enter Try.func34, Try.ntmps34
    go_wp2_with fail
    go_quiet (fail)
    go_wp2_with fail
    go_quiet (fail)
    go_wp2
    go_ret
    exact ⟨rfl, ⟨_, ov, MSt.adv (MSt.setMem (by first | exact (H.out.alloc _).drewN _ | exact ((H.out.alloc _).drewN _).drewN _) q hRa.out) _ _ rfl⟩, Below.setCell (Below.setCell (Below.setCell (by first | exact below_drewN ((Below.refl _ _).alloc (by omega) _) _ | exact below_drewN (below_drewN ((Below.refl _ _).alloc (by omega) _) _) _) hbb _) hb _) hb _, by simp [World.setCell]⟩
  all_goals
    have hex : Hid (Rs.exec 23 i j k n m = (m, 2)) := by
      unfold Hid Rs.exec Rs.rget
      simp only [Int.toNat_natCast, hra.out, hrb.out, hrc.out]
      have hr : at' < 0 ∨ (m.mem.length : Int) ≤ at' := by omega
      simp [hat, hr]
    rw [hex.out]
    have H := Lib.hid h
    clear h hbm
    go_enter Try.func34, Try.ntmps34
    go_wp2_with fail
    go_quiet (fail)
    go_wp2_with fail
    go_quiet (fail)
    go_wp2
    go_ret
    exact ⟨rfl, ⟨_, ov, (by first | exact (H.out.alloc _).drewN _ | exact ((H.out.alloc _).drewN _).drewN _)⟩, (by first | exact below_drewN ((Below.refl _ _).alloc (by omega) _) _ | exact below_drewN (below_drewN ((Below.refl _ _).alloc (by omega) _) _) _), by simp⟩

set_option maxHeartbeats 8000000 in
set_option maxRecDepth 100000 in
theorem next_in (B : Bd) (g : Nat) (st : Int) (m : Rs.M) (mv ov : Value)  (i j k : Nat) (n : Int) (w : World) (h : MSt B w g 79 st m mv ov) (hi : i < 32) (hj : j < 32) (hk : k < 32) (hn1 : -1048576 ≤ n) (hn2 : n ≤ 1048575) (hp1 : 0 ≤ m.pc) (hp2 : m.pc ≤ 1048576) (hs1 : 0 ≤ m.steps) (hs2 : m.steps ≤ 1000000000000) :
    Calls Try.prog 34 #[.pointer (some ⟨g, 0, none⟩), iv 30 i j k n] w (StepPost B g 79 st (Rs.exec 30 i j k n m) w) := by
  unfold iv
  have c1 := h.c1
  have c3 := h.c3
  have c4 := h.c4
  have f1 := h.fz 1
  have f3 := h.fz 3
  have f4 := h.fz 4
  have ci := h.cR hi
  have cj := h.cR hj
  have ck := h.cR hk
  have fi := h.fz (5 + i)
  have hlt := h.lt
  have hb := h.base
  obtain ⟨ra, hra⟩ : ∃ ra, Hid (m.regs.getD i 0 = ra) := ⟨_, rfl⟩
  obtain ⟨rb, hrb⟩ : ∃ rb, Hid (m.regs.getD j 0 = rb) := ⟨_, rfl⟩
  obtain ⟨rc, hrc⟩ : ∃ rc, Hid (m.regs.getD k 0 = rc) := ⟨_, rfl⟩
  rw [hra.out] at ci
  rw [hrb.out] at cj
  rw [hrc.out] at ck
  have hRa : Hid (Rs.InR ra) := by unfold Hid; rw [← hra.out]; exact Rs.rget_range h.ok i
  have hRb : Hid (Rs.InR rb) := by unfold Hid; rw [← hrb.out]; exact Rs.rget_range h.ok j
  have hRc : Hid (Rs.InR rc) := by unfold Hid; rw [← hrc.out]; exact Rs.rget_range h.ok k
  have c38 := h.c38
  have f38 := h.fz 38
  cases hi2 : m.inp with
  | nil =>
    rw [hi2] at c38
    have hex : Hid (Rs.exec 30 i j k n m = (Rs.adv (Rs.setReg m i (-1)) (m.pc + 1), 6)) := by
      unfold Hid Rs.exec Rs.rget
      simp only [Int.toNat_natCast, hra.out, hrb.out, hrc.out]
      simp [hi2]
    rw [hex.out]
    have HI := Lib.hid hi2
    have H := Lib.hid h
    clear h hi2
    by_cases hi0 : i = 0
    · subst hi0
      have hset : Hid (Rs.setReg m ((0 : Nat) : Int) (-1) = m) := if_pos rfl
      rw [hset.out]
      go_enter Try.func34, Try.ntmps34
      go_wp2_with fail
      go_quiet (fail)
      go_wp2_with fail
      go_quiet (fail)
      go_wp2
      go_ret
      exact ⟨rfl, ⟨_, ov, MSt.adv (by first | exact (H.out.alloc _).drewN _ | exact ((H.out.alloc _).drewN _).drewN _) _ _ rfl⟩, Below.setCell (Below.setCell (by first | exact below_drewN ((Below.refl _ _).alloc (by omega) _) _ | exact below_drewN (below_drewN ((Below.refl _ _).alloc (by omega) _) _) _) hb _) hb _, by simp [World.setCell]⟩
    · have hset : Hid (Rs.setReg m (i : Int) (-1) = { m with regs := m.regs.set i (-1) }) := by unfold Hid Rs.setReg; rw [if_neg (by omega), Int.toNat_natCast]
      rw [hset.out]
      have hi1 : ((i : Int) != 0) = true := by rw [bne_iff_ne]; omega
      clear hi0
      go_enter Try.func34, Try.ntmps34
      go_wp2_with fail
      go_quiet (fail)
      go_wp2_with fail
      go_quiet (fail)
      go_wp2
      refine wp_still_tl 7 (by kernel_rfl) (by kernel_rfl) ?_
      simp only [List.take_succ_cons, List.take_zero, List.drop_succ_cons, List.drop_zero]
      repeat still_step
      refine wpStill_nil ?_
      show wpList _ _ _ _ _ _
      go_wp2
      go_ret
      exact ⟨rfl, ⟨_, ov, MSt.adv (MSt.setR (by first | exact (H.out.alloc _).drewN _ | exact ((H.out.alloc _).drewN _).drewN _) hi (by unfold Rs.InR; omega)) _ _ rfl⟩, Below.setCell (Below.setCell (Below.setCell (by first | exact below_drewN ((Below.refl _ _).alloc (by omega) _) _ | exact below_drewN (below_drewN ((Below.refl _ _).alloc (by omega) _) _) _) hb _) hb _) hb _, by simp [World.setCell]⟩
  | cons c l =>
    rw [hi2] at c38
    have hex : Hid (Rs.exec 30 i j k n m = (Rs.adv (Rs.setReg { m with inp := l } i c.toNat) (m.pc + 1), 6)) := by
      unfold Hid Rs.exec Rs.rget
      simp only [Int.toNat_natCast, hra.out, hrb.out, hrc.out]
      simp [hi2]
    rw [hex.out]
    have HI := Lib.hid hi2
    have H := Lib.hid h
    clear h hi2
    by_cases hi0 : i = 0
    · subst hi0
      have hset : Hid (Rs.setReg ({ m with inp := l } : Rs.M) ((0 : Nat) : Int) (c.toNat) = ({ m with inp := l } : Rs.M)) := if_pos rfl
      rw [hset.out]
      go_enter Try.func34, Try.ntmps34
      go_wp2_with fail
      go_quiet (fail)
      go_wp2_with fail
      go_quiet (fail)
      go_wp2
      rw [tail_bytes]
      try rw [head_bytes]
      go_ret
      refine ⟨rfl, ⟨mv, ov, ?_⟩, ?_, ?_⟩
      · refine MSt.adv (MSt.setInp ?_ l) _ _ rfl
        first | exact (H.out.alloc _).drewN _ | exact ((H.out.alloc _).drewN _).drewN _
      · refine Below.setCell (Below.setCell (Below.setCell ?_ hb _) hb _) hb _
        first | exact below_drewN ((Below.refl _ _).alloc (by omega) _) _ | exact below_drewN (below_drewN ((Below.refl _ _).alloc (by omega) _) _) _
      · simp [World.setCell]
    · have hset : Hid (Rs.setReg ({ m with inp := l } : Rs.M) (i : Int) (c.toNat) = { ({ m with inp := l } : Rs.M) with regs := ({ m with inp := l } : Rs.M).regs.set i (c.toNat) }) := by unfold Hid Rs.setReg; rw [if_neg (by omega), Int.toNat_natCast]
      rw [hset.out]
      have hi1 : ((i : Int) != 0) = true := by rw [bne_iff_ne]; omega
      clear hi0
      go_enter Try.func34, Try.ntmps34
      go_wp2_with fail
      go_quiet (fail)
      go_wp2_with fail
      go_quiet (fail)
      go_wp2
      rw [tail_bytes]
      try rw [head_bytes]
      refine wp_still_tl 7 (by kernel_rfl) (by kernel_rfl) ?_
      simp only [List.take_succ_cons, List.take_zero, List.drop_succ_cons, List.drop_zero]
      repeat still_step
      refine wpStill_nil ?_
      show wpList _ _ _ _ _ _
      go_wp2
      go_ret
      refine ⟨rfl, ⟨mv, ov, ?_⟩, ?_, ?_⟩
      · refine MSt.drw (MSt.adv (MSt.setR (MSt.setInp ?_ l) hi (Rs.InR.byte c)) _ _ rfl)
        first | exact (H.out.alloc _).drewN _ | exact ((H.out.alloc _).drewN _).drewN _
      · refine below_drw (Below.setCell (Below.setCell (Below.setCell (Below.setCell ?_ hb _) hb _) hb _) hb _)
        first | exact below_drewN ((Below.refl _ _).alloc (by omega) _) _ | exact below_drewN (below_drewN ((Below.refl _ _).alloc (by omega) _) _) _
      · simp [World.setCell]

set_option maxHeartbeats 8000000 in
set_option maxRecDepth 100000 in
theorem next_out (B : Bd) (g : Nat) (st : Int) (m : Rs.M) (mv ov : Value) (ho : m.out.length ≤ 1000000000000) (i j k : Nat) (n : Int) (w : World) (h : MSt B w g 79 st m mv ov) (hi : i < 32) (hj : j < 32) (hk : k < 32) (hn1 : -1048576 ≤ n) (hn2 : n ≤ 1048575) (hp1 : 0 ≤ m.pc) (hp2 : m.pc ≤ 1048576) (hs1 : 0 ≤ m.steps) (hs2 : m.steps ≤ 1000000000000) :
    Calls Try.prog 34 #[.pointer (some ⟨g, 0, none⟩), iv 31 i j k n] w (StepPost B g 79 st (Rs.exec 31 i j k n m) w) := by
  unfold iv
  have c1 := h.c1
  have c3 := h.c3
  have c4 := h.c4
  have f1 := h.fz 1
  have f3 := h.fz 3
  have f4 := h.fz 4
  have ci := h.cR hi
  have cj := h.cR hj
  have ck := h.cR hk
  have fi := h.fz (5 + i)
  have hlt := h.lt
  have hb := h.base
  obtain ⟨ra, hra⟩ : ∃ ra, Hid (m.regs.getD i 0 = ra) := ⟨_, rfl⟩
  obtain ⟨rb, hrb⟩ : ∃ rb, Hid (m.regs.getD j 0 = rb) := ⟨_, rfl⟩
  obtain ⟨rc, hrc⟩ : ∃ rc, Hid (m.regs.getD k 0 = rc) := ⟨_, rfl⟩
  rw [hra.out] at ci
  rw [hrb.out] at cj
  rw [hrc.out] at ck
  have hRa : Hid (Rs.InR ra) := by unfold Hid; rw [← hra.out]; exact Rs.rget_range h.ok i
  have hRb : Hid (Rs.InR rb) := by unfold Hid; rw [← hrb.out]; exact Rs.rget_range h.ok j
  have hRc : Hid (Rs.InR rc) := by unfold Hid; rw [← hrc.out]; exact Rs.rget_range h.ok k
  have c39 := h.c39
  have f39 := h.fz 39
  rcases (by omega : ra < 0 ∨ (0 ≤ ra ∧ 255 < ra) ∨ (0 ≤ ra ∧ ra ≤ 255)) with q1 | ⟨q1, q2⟩ | ⟨q1, q2⟩
  case inr.inr =>
    obtain ⟨c, hc⟩ : ∃ c : UInt8, Hid (ra = c.toNat ∧ UInt8.ofNat ra.toNat = c) := ⟨UInt8.ofNat ra.toNat, by unfold Hid; refine ⟨?_, rfl⟩; rw [UInt8.toNat_ofNat']; omega⟩
    have hex : Hid (Rs.exec 31 i j k n m = (Rs.adv { m with out := m.out ++ [c] } (m.pc + 1), 6)) := by
      unfold Hid Rs.exec Rs.rget
      simp only [Int.toNat_natCast, hra.out, hrb.out, hrc.out]
      have hr : ¬ (ra < 0 ∨ 255 < ra) := by omega
      simp [hr, hc.out.2]
    rw [hex.out]
    obtain ⟨i0, ha, hz0, hz1, hz2⟩ := info_parts infoB
    have HA := Lib.hid ha
    have HZ0 := Lib.hid hz0
    have HZ1 := Lib.hid hz1
    have HZ2 := Lib.hid hz2
    clear ha hz0 hz1 hz2
    have hne2 := Lib.hid h.ne2
    have hown := Lib.hid h.out
    have HO := Lib.hid ho
    have H := Lib.hid h
    clear h ho
    go_enter Try.func34, Try.ntmps34
    go_wp2_with fail
    go_quiet (fail)
    go_wp2_with fail
    go_quiet (fail)
    go_wp2_with ((at_builtin; refine wpList_append_lies _ rfl (.tmp 268) (.tmp 271) 77 rfl B 5 i0 (.int .u8 0) 1 1 Try.underlying77 HA.out HZ0.out HZ1.out HZ2.out rfl (by decide) ov m.out.length (m.out.map fun x => Value.int .u8 x.toNat) rfl ?a2 ⟨w.heap.size + 1, 0, none⟩ 1 1 [.int .u8 ra] rfl rfl ?a3 ?a4 ?a5 ?a6 ?a7 ?a8 (w.heap.size + 2) ?a9 ?_; (case a2 => exact (own_drewN (hown.out.alloc _) _).alloc _); (case a3 => exact new_cells _ (heap_new (by simp))); (case a4 => simp [Value.oneCell']); (case a5 => decide); (case a6 => (have := HO.out; simp only [maxLen]; omega)); (case a7 => (have := HO.out; omega)); (case a8 => (simp; omega)); (case a9 => simp); intro g2 cap2 w1 hown2 hgr hat hlt2; have HGR := Lib.hid hgr; have HAT := Lib.hid hat; have HOWN2 := Lib.hid hown2; clear hgr hat hown2; obtain ⟨e3, e4, e39, f3, f4, f39, hx0, hs1'⟩ := out_facts (cs := #[.int .i64 i, .int .i64 j, .int .i64 k, .int .i64 n]) H.out hne2.out hown.out hlt HGR.out))
    go_ret
    have hm4 : MSt B (w1.setCell ⟨g, 39, none⟩ (.slice (some ⟨g2, 0, none⟩) (m.out.length + 1) cap2)) g 79 st { m with out := m.out ++ [c] } mv (.slice (some ⟨g2, 0, none⟩) (m.out.length + 1) cap2) := by
      have hgr := HGR.out
      have hown2 := HOWN2.out
      rw [hc.out.1] at hgr hown2
      refine MSt.setOut ((H.out.alloc _).drewN _) _ (by simp; omega) hgr hown2 (fun k hk => ?_)
      simp only [Value.ownBlock] at hk
      injection hk with hk
      rcases HAT.out with h1 | h1
      · exact .inl (h1.trans (by rw [hk]))
      · right; simp; omega
    exact ⟨rfl, ⟨mv, _, hm4.adv _ _ rfl⟩, ((((((below_drewN ((Below.refl _ _).alloc (by omega) _) _).alloc (by simp; omega) _).grown HGR.out (by simp; omega) (fun k hk => (hown.out.lt k hk).1))).setCell hb _).setCell hb _).setCell hb _, by simp [World.setCell]; omega⟩
  all_goals
    have hex : Hid (Rs.exec 31 i j k n m = (m, 5)) := by
      unfold Hid Rs.exec Rs.rget
      simp only [Int.toNat_natCast, hra.out, hrb.out, hrc.out]
      have hr : ra < 0 ∨ 255 < ra := by omega
      simp [hr]
    rw [hex.out]
    have H := Lib.hid h
    clear h
    go_enter Try.func34, Try.ntmps34
    go_wp2_with fail
    go_quiet (fail)
    go_wp2_with fail
    go_quiet (fail)
    go_wp2
    go_ret
    exact ⟨rfl, ⟨_, ov, (by first | exact (H.out.alloc _).drewN _ | exact ((H.out.alloc _).drewN _).drewN _)⟩, (by first | exact below_drewN ((Below.refl _ _).alloc (by omega) _) _ | exact below_drewN (below_drewN ((Below.refl _ _).alloc (by omega) _) _) _), by simp⟩
end Go.Proofs.Ytaldcgfhlflcpaa
namespace Go.Proofs.Ytaldcgfhlflcpaa
open Go.RowKit
set_option maxRecDepth 100000
set_option linter.unusedSimpArgs false
set_option linter.unusedVariables false
theorem next_any (B : Bd) (g : Nat) (st : Int) (m : Rs.M) (mv ov : Value) (x : Int) (w : World) (h : MSt B w g 79 st m mv ov) (hx : Rs.decB x = true) (hp1 : 0 ≤ m.pc) (hp2 : m.pc ≤ 1048576) (hs1 : 0 ≤ m.steps) (hs2 : m.steps ≤ 1000000000000) (ho : m.out.length ≤ 1000000000000) :
    Calls Try.prog 34 #[.pointer (some ⟨g, 0, none⟩), iv (Rs.fO x) (Rs.fA x) (Rs.fB (Rs.fO x) x) (Rs.fC (Rs.fO x) x) (Rs.fN (Rs.fO x) x)] w (StepPost B g 79 st (Rs.execW x m) w) := by
  have hnb := decB_not_bad hx
  obtain ⟨o1, o2⟩ := op_not_bad hnb
  obtain ⟨n1, n2, n3⟩ := n_not_bad hnb
  unfold Rs.execW
  obtain ⟨a1, a2⟩ := Rs.fA_range x
  obtain ⟨b1, b2⟩ := Rs.fB_range (Rs.fO x) x
  obtain ⟨c1, c2⟩ := Rs.fC_range (Rs.fO x) x
  generalize Rs.fN (Rs.fO x) x = n at *
  generalize Rs.fB (Rs.fO x) x = b at *
  generalize Rs.fC (Rs.fO x) x = c at *
  generalize Rs.fA x = a at *
  generalize Rs.fO x = op at *
  obtain ⟨i, rfl⟩ : ∃ i : Nat, a = i := ⟨a.toNat, by omega⟩
  obtain ⟨j, rfl⟩ : ∃ i : Nat, b = i := ⟨b.toNat, by omega⟩
  obtain ⟨k, rfl⟩ : ∃ i : Nat, c = i := ⟨c.toNat, by omega⟩
  rcases (by omega : op = 0 ∨ (1 ≤ op ∧ op ≤ 14) ∨ op = 15 ∨ op = 16 ∨ op = 17 ∨ op = 18 ∨ op = 19 ∨ op = 20 ∨ op = 21 ∨ op = 22 ∨ op = 23 ∨ op = 24 ∨ op = 25 ∨ op = 26 ∨ op = 27 ∨ op = 28 ∨ op = 29 ∨ op = 30 ∨ op = 31) with rfl | ⟨h1, h2⟩ | rfl | rfl | rfl | rfl | rfl | rfl | rfl | rfl | rfl | rfl | rfl | rfl | rfl | rfl | rfl | rfl | rfl
  · exact next_halt B g st m mv ov i j k n w h (by omega) (by omega) (by omega) n1 n2 hp1 hp2 hs1 hs2
  · exact next_abc B g st m mv ov op h1 h2 i j k n w h (by omega) (by omega) (by omega) n1 n2 hp1 hp2 hs1 hs2
  · exact next_s15 B g st m mv ov i j k n w h (by omega) (by omega) (by omega) n1 n2 hp1 hp2 hs1 hs2
  · exact next_s16 B g st m mv ov i j k n w h (by omega) (by omega) (by omega) n1 n2 hp1 hp2 hs1 hs2
  · exact next_s17 B g st m mv ov i j k n w h (by omega) (by omega) (by omega) n1 n2 hp1 hp2 hs1 hs2
  · obtain ⟨q, rfl⟩ : ∃ q : Nat, n = q := ⟨n.toNat, by have := (n3 (by decide)).1; omega⟩
    exact next_s18 B g st m mv ov q (by have := (n3 (by decide)).2; omega) i j k w h (by omega) (by omega) (by omega) hp1 hp2 hs1 hs2
  · obtain ⟨q, rfl⟩ : ∃ q : Nat, n = q := ⟨n.toNat, by have := (n3 (by decide)).1; omega⟩
    exact next_s19 B g st m mv ov q (by have := (n3 (by decide)).2; omega) i j k w h (by omega) (by omega) (by omega) hp1 hp2 hs1 hs2
  · exact next_s20 B g st m mv ov i j k n w h (by omega) (by omega) (by omega) n1 n2 hp1 hp2 hs1 hs2
  · exact next_s21 B g st m mv ov i j k n w h (by omega) (by omega) (by omega) n1 n2 hp1 hp2 hs1 hs2
  · exact next_lw B g st m mv ov i j k n w h (by omega) (by omega) (by omega) n1 n2 hp1 hp2 hs1 hs2
  · exact next_sw B g st m mv ov i j k n w h (by omega) (by omega) (by omega) n1 n2 hp1 hp2 hs1 hs2
  · exact next_b24 B g st m mv ov i j k n w h (by omega) (by omega) (by omega) n1 n2 hp1 hp2 hs1 hs2
  · exact next_b25 B g st m mv ov i j k n w h (by omega) (by omega) (by omega) n1 n2 hp1 hp2 hs1 hs2
  · exact next_b26 B g st m mv ov i j k n w h (by omega) (by omega) (by omega) n1 n2 hp1 hp2 hs1 hs2
  · exact next_b27 B g st m mv ov i j k n w h (by omega) (by omega) (by omega) n1 n2 hp1 hp2 hs1 hs2
  · exact next_jal B g st m mv ov i j k n w h (by omega) (by omega) (by omega) n1 n2 hp1 hp2 hs1 hs2
  · exact next_jalr B g st m mv ov i j k n w h (by omega) (by omega) (by omega) n1 n2 hp1 hp2 hs1 hs2
  · exact next_in B g st m mv ov i j k n w h (by omega) (by omega) (by omega) n1 n2 hp1 hp2 hs1 hs2
  · exact next_out B g st m mv ov ho i j k n w h (by omega) (by omega) (by omega) n1 n2 hp1 hp2 hs1 hs2
end Go.Proofs.Ytaldcgfhlflcpaa
