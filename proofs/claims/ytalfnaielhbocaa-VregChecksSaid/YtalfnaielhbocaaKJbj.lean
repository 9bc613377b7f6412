/- The reference's Check. -/
import Derived.Deep.RegionHeld3
import Derived.Test.YtalfnaielhbocaaKJbh
import Derived.Test.YtalfnaielhbocaaKJbi
import Derived.BigRegion
import Derived.Test.YtalfnaielhbocaaKJam
import Derived.BigQuiet
import Derived.Test.YtalfnaielhbocaaKJax
set_option linter.unusedVariables false
set_option linter.unusedSimpArgs false
set_option linter.unnecessarySimpa false
namespace Go.Proofs.Ytalfnaielhbocaa
open Go.RowKit
set_option linter.unusedVariables false
set_option linter.unusedSimpArgs false
set_option maxRecDepth 100000
namespace Vm
section
variable {w : World} {c : Code}
theorem chk_none {c : Code} (h : manyP c 0 = none) : chk c = 151 := by unfold chk; rw [if_pos (.inl h)]
theorem headB_no {p : Prc} (hh : headB p = false) : (decide (p.params < 0) = true) ∨ (decide (p.params < 0) = false ∧ decide (6 < p.params) = true) ∨ (decide (p.params < 0) = false ∧ decide (6 < p.params) = false ∧ decide (p.holds < 0) = true) ∨ (decide (p.params < 0) = false ∧ decide (6 < p.params) = false ∧ decide (p.holds < 0) = false ∧ decide (1000 < p.holds) = true) ∨
      (decide (p.params < 0) = false ∧ decide (6 < p.params) = false ∧ decide (p.holds < 0) = false ∧ decide (1000 < p.holds) = false ∧ decide (p.regs < p.params) = true) ∨ (decide (p.params < 0) = false ∧ decide (6 < p.params) = false ∧ decide (p.holds < 0) = false ∧ decide (1000 < p.holds) = false ∧ decide (p.regs < p.params) = false ∧ ((p.blocks.length : Int) == 0) = true) := by
  unfold headB at hh
  simp only [Bool.and_eq_false_iff, decide_eq_false_iff_not] at hh
  simp only [decide_eq_true_eq, decide_eq_false_iff_not, beq_iff_eq]
  omega
theorem headB_yes {p : Prc} (hh : headB p = true) : decide (p.params < 0) = false ∧ decide (6 < p.params) = false ∧ decide (p.holds < 0) = false ∧ decide (1000 < p.holds) = false ∧ decide (p.regs < p.params) = false ∧ ((p.blocks.length : Int) == 0) = false := by
  unfold headB at hh
  simp only [Bool.and_eq_true, decide_eq_true_eq] at hh
  simp only [decide_eq_false_iff_not, beq_eq_false_iff_ne]
  omega
set_option maxHeartbeats 16000000 in
theorem rCheck_any (acv : Option Addr) (ncv : Nat) (hcode : CodeAt w (.slice acv c.length ncv) c) (hlen : c.length ≤ 1000000000000000) (hfit : ∀ p ∈ c, PrcFit p) :
    Calls Try.prog 10 #[.agg #[.slice acv c.length ncv]] w (ChkPost w c) := by
  obtain ⟨w1, hw1, hM⟩ := ChM.of w (.slice acv c.length ncv)
  have HW1 := Lib.hid hw1
  have HM := Lib.hid hM
  have HCODE := Lib.hid hcode
  have HFIT := Lib.hid hfit
  have HLEN := Lib.hid hlen
  have hc0 := hM.b0
  have hl0 := hM.size
  clear hw1 hM hcode hfit hlen
  go_enter Try.func10, Try.ntmps10
  go_wp2_with fail
  rw [← HW1.out]
  go_loopg [3, 4, 5, 6] c.length (fun gk s3 s4 s5 s6 wx => ∃ k n : Nat, k ≤ c.length ∧ gk = c.length - k ∧ s3 = .int .i64 n ∧ s4 = .int .i64 k ∧ n ≤ 8193 ∧ Hid (ChM w wx (.slice acv c.length ncv)) ∧ Hid ((n ≤ 4096 → manyP c 0 = manyP (c.drop k) n) ∧ (4096 < n → manyP c 0 = none)))
  case atStart => exact ⟨0, 0, Nat.zero_le _, rfl, rfl, rfl, by decide, HM.out, fun _ => rfl, fun h => absurd h (by decide)⟩
  case round =>
    obtain ⟨k, n, hk, rfl, rfl, rfl, hn, HB, HA⟩ := hrel
    have hbw := HB.out.below
    have hcr := HB.out.b0
    have hlr := HB.out.size
    by_cases hlt : k < c.length
    · obtain ⟨p, hp⟩ : ∃ p, c[k]? = some p := ⟨_, List.getElem?_eq_getElem hlt⟩
      obtain ⟨_, bc, oc, hcv, hbc, hPC⟩ := HCODE.out.at hp
      cases hcv
      obtain ⟨n0, n1, n2, bv, n3, hBR⟩ := hPC
      obtain ⟨ab, capb, hbv⟩ := hBR.len
      subst hbv
      rw [← cell_bel hbw hbc] at n0 n1 n2 n3
      have hbcw : bc < wr.heap.size := Nat.lt_of_lt_of_le hbc hbw.size
      have hg1 : (0 : Int) ≤ k := by omega
      have hg2 : (k : Int) < c.length := by omega
      have hgk : IntKind.i64.wrap ((k : Int) + 1) = k + 1 := by have := HLEN.out; rw [IntKind.wrap_i64]; omega
      obtain ⟨w2, B⟩ := boxed wr #[.int .i64 p.params, .int .i64 p.holds, .int .i64 p.regs, .slice ab p.blocks.length capb] 40
      have HB2 := Lib.hid (HB.out.bel B.below)
      have hbx := B.blk
      have hs2 := B.size
      obtain ⟨q, hq⟩ : ∃ q, q = wr.heap.size := ⟨_, rfl⟩
      rw [← hq] at hbx hs2
      have hq2 : q < w2.heap.size := by omega
      have x2 := cell_of_row w2 q 2 _ _ _ hbx
      have x3 := cell_of_row w2 q 3 _ _ _ hbx
      simp only [List.getElem?_toArray, List.getElem?_cons_zero, List.getElem?_cons_succ] at x2 x3
      have HBX := Lib.hid hbx
      have HBQ := Lib.hid B
      have HBR := Lib.hid hBR
      have HPK := Lib.hid hp
      have hfp := HFIT.out p (List.mem_of_getElem? hp)
      have HFP := Lib.hid hfp
      have hbl := hfp.blocks
      have HBL := Lib.hid hbl
      have HQ := Lib.hid hq
      have HN := Lib.hid hn
      have x2w := x2
      rw [HBQ.out.eq, hq] at x2w
      clear hbx B hBR hp hfp hbl hq hn
      cases hrg : decide ((2000 : Int) < p.regs) with
      | true =>
        have hno : manyP c 0 = none := by
          by_cases h4 : n ≤ 4096
          · rw [HA.out.1 h4]
            exact manyP_no HPK.out (.inl (of_decide_eq_true hrg))
          · exact HA.out.2 (by omega)
        have HCHK := Lib.hid (chk_none hno)
        clear hno
        go_wp2_with fail
        go_ret
        refine ⟨by rw [HCHK.out]; rfl, ?_⟩
        rw [← HBQ.out.eq]
        exact HB2.out.below
      | false =>
        have HRG := Lib.hid (of_decide_eq_false hrg)
        go_wp2_with fail
        rw [← HBQ.out.eq, ← HQ.out]
        go_loopg [3, 6] p.blocks.length (fun gj s3 s6 wx => ∃ j m : Nat, j ≤ p.blocks.length ∧ gj = p.blocks.length - j ∧ s3 = .int .i64 m ∧ s6 = .int .i64 j ∧ m ≤ 8193 ∧ Hid (Below w2.heap.size w2 wx) ∧ Hid ((m ≤ 4096 → n ≤ 4096 ∧ manyB p.blocks n = manyB (p.blocks.drop j) m) ∧ (4096 < m → manyP c 0 = none)))
        case atStart => exact ⟨0, n, Nat.zero_le _, rfl, rfl, rfl, HN.out, Below.refl _ _, fun h => ⟨h, rfl⟩, HA.out.2⟩
        case round =>
          obtain ⟨j, m, hj, rfl, rfl, rfl, hm, HC, HD⟩ := hrel
          have hcw := HC.out.size
          have HBr := HB2.out.bel HC.out
          have hbox := (HC.out.block q (by omega)).trans HBX.out
          have z2 := cell_of_row wr q 2 _ _ _ hbox
          have z3 := cell_of_row wr q 3 _ _ _ hbox
          simp only [List.getElem?_toArray, List.getElem?_cons_zero, List.getElem?_cons_succ] at z2 z3
          have hqr : q < wr.heap.size := by omega
          have HMR := Lib.hid HBr
          have HMM := Lib.hid hm
          by_cases hltj : j < p.blocks.length
          · cases hm4 : decide ((m : Int) ≤ 4096) with
            | false =>
              have hno : manyP c 0 = none := HD.out.2 (by have := of_decide_eq_false hm4; omega)
              have HNO := Lib.hid hno
              have HM4 := Lib.hid (of_decide_eq_false hm4)
              clear hno HBr hbox hm
              go_wp2_with fail
              go_roundg (c.length - (k + 1))
              case measure => omega
              case rel =>
                exact ⟨k + 1, m, by omega, rfl, rfl, by go_num, HMM.out, HMR.out, fun h => absurd h (by have := HM4.out; omega), fun _ => HNO.out⟩
            | true =>
              obtain ⟨hn4, hmb⟩ := HD.out.1 (by have := of_decide_eq_true hm4; omega)
              have HM4 := Lib.hid (of_decide_eq_true hm4)
              have HN4 := Lib.hid hn4
              have HMB := Lib.hid hmb
              obtain ⟨b, hb⟩ : ∃ b, p.blocks[j]? = some b := ⟨_, List.getElem?_eq_getElem hltj⟩
              obtain ⟨_, bb, bo, hbv, hbb, hBC⟩ := HBR.out.at hb
              cases hbv
              obtain ⟨⟨iv, i0, hIR⟩, i1, i2, ⟨av, i3, hSA⟩, i4, i5, i6⟩ := hBC
              obtain ⟨ai, capi, hiv⟩ := hIR.len
              subst hiv
              rw [← cell_bel HBr.below hbb] at i0
              have hbbw : bb < wr.heap.size := Nat.lt_of_lt_of_le hbb HBr.below.size
              have hh1 : (0 : Int) ≤ j := by omega
              have hh2 : (j : Int) < p.blocks.length := by omega
              have hjk : IntKind.i64.wrap ((j : Int) + 1) = j + 1 := by have := HBL.out; rw [IntKind.wrap_i64]; omega
              have hw1 : IntKind.i64.wrap ((m : Int) + 1) = m + 1 := by rw [IntKind.wrap_i64]; omega
              have HBK := Lib.hid hb
              clear hIR hSA hb HBr hbox hm hn4 hmb i1 i2 i3 i4 i5 i6
              cases hov : decide ((4096 : Int) < (b.ins.length : Int)) with
              | true =>
                have hno : manyP c 0 = none := by
                  rw [HA.out.1 HN4.out]
                  refine manyP_no HPK.out (.inr ?_)
                  rw [HMB.out, manyB_over HBK.out (by have := of_decide_eq_true hov; omega)]
                  have := of_decide_eq_true hov
                  omega
                have HCHK := Lib.hid (chk_none hno)
                clear hno
                go_wp2_with fail
                go_ret
                exact ⟨by rw [HCHK.out]; rfl, HMR.out.below⟩
              | false =>
                have HOV := Lib.hid (of_decide_eq_false hov)
                have hw2 : IntKind.i64.wrap ((m : Int) + 1 + (b.ins.length : Int)) = ((m + 1 + b.ins.length : Nat) : Int) := by have := HOV.out; have := HM4.out; rw [IntKind.wrap_i64]; omega
                go_wp2_with fail
                go_roundg (p.blocks.length - (j + 1))
                case measure => omega
                case rel =>
                  refine ⟨j + 1, m + 1 + b.ins.length, by omega, rfl, rfl, by go_num, by have := HOV.out; have := HM4.out; omega, HC.out, ?_, ?_⟩
                  · intro h
                    exact ⟨HN4.out, by rw [HMB.out]; exact manyB_at HBK.out h⟩
                  · intro h
                    rw [HA.out.1 HN4.out]
                    refine manyP_no HPK.out (.inr ?_)
                    rw [HMB.out, manyB_over HBK.out h]
                    exact h
          · obtain rfl : j = p.blocks.length := by omega
            clear hbox HBr hm
            go_wp2_with fail
            go_roundg (c.length - (k + 1))
            case measure => omega
            case rel =>
              refine ⟨k + 1, m, by omega, rfl, rfl, by go_num, HMM.out, HMR.out, ?_, HD.out.2⟩
              intro h
              obtain ⟨hn4, hmb⟩ := HD.out.1 h
              have hmB : manyB p.blocks n = m := by rw [hmb, List.drop_length]; rfl
              rw [HA.out.1 hn4, manyP_at HPK.out (by rw [hmB]; have := HRG.out; omega), hmB]
    · obtain rfl : k = c.length := by omega
      have hsome : n ≤ 4096 → ¬ (manyP c 0 = none) := fun h => by rw [HA.out.1 h, List.drop_length]; exact fun e => nomatch e
      have HSOME := Lib.hid hsome
      clear hsome
      cases hnx : decide ((4096 : Int) < (n : Int)) with
      | true =>
        have HCHK := Lib.hid (chk_none (HA.out.2 (by have := of_decide_eq_true hnx; omega)))
        go_wp2_with fail
        go_ret
        exact ⟨by rw [HCHK.out]; rfl, HB.out.below⟩
      | false =>
      cases hmx : decide ((300 : Int) < (c.length : Int)) with
      | true =>
        have hchk : chk c = 151 := by unfold chk; rw [if_pos (.inr (by have := of_decide_eq_true hmx; omega))]
        have HCHK := Lib.hid hchk
        clear hchk
        go_wp2_with fail
        go_ret
        exact ⟨by rw [HCHK.out]; rfl, HB.out.below⟩
      | false =>
        have hmx' : ¬ (manyP c 0 = none ∨ c.length > 300) := fun e => by
          rcases e with e | e
          · exact HSOME.out (by have := of_decide_eq_false hnx; omega) e
          · have := of_decide_eq_false hmx; omega
        have HCH := Lib.hid (chk_many hmx')
        clear hmx'
        by_cases hc0' : c.length = 0
        · have hchk : chk c = 150 := by rw [HCH.out, if_pos (headC_nil hc0')]
          have HCHK := Lib.hid hchk
          have hz : ((c.length : Int) == 0) = true := by rw [hc0']; rfl
          have HC0 := Lib.hid hc0'
          clear hchk hc0'
          go_wp2_with fail
          go_ret
          exact ⟨by rw [HCHK.out]; rfl, HB.out.below⟩
        · obtain ⟨p, hp⟩ : ∃ p, c[0]? = some p := ⟨_, List.getElem?_eq_getElem (by omega)⟩
          obtain ⟨_, bc, oc, hcv, hbc, hPC⟩ := HCODE.out.at hp
          cases hcv
          obtain ⟨n0, n1, n2, bv, n3, hBR⟩ := hPC
          obtain ⟨ab, capb, hbv⟩ := hBR.len
          subst hbv
          rw [← cell_bel hbw hbc] at n0 n1 n2 n3
          rw [Nat.zero_mul, Nat.add_zero] at n0 n1 n2 n3
          have hbcw : bc < wr.heap.size := Nat.lt_of_lt_of_le hbc hbw.size
          have hg0 : (0 : Int) < c.length := by omega
          have hz : ((c.length : Int) == 0) = false := by rw [beq_eq_false_iff_ne]; omega
          have hhd := headC_at hp
          cases e1 : (p.params != 0) with
          | true =>
            have hchk : chk c = 150 := by
              rw [HCH.out, if_pos]
              rw [hhd, decide_eq_true (by simpa using e1)]
              rfl
            have HCHK := Lib.hid hchk
            clear hchk
            go_wp2_with fail
            go_ret
            exact ⟨by rw [HCHK.out]; rfl, HB.out.below⟩
          | false =>
            cases e2 : (p.holds != 0) with
            | true =>
              have hchk : chk c = 150 := by
                rw [HCH.out, if_pos]
                rw [hhd, decide_eq_true (p := p.holds ≠ 0) (by simpa using e2), Bool.or_true]
              have HCHK := Lib.hid hchk
              clear hchk
              go_wp2_with fail
              go_ret
              exact ⟨by rw [HCHK.out]; rfl, HB.out.below⟩
            | false =>
              have hne : ¬ (headC c = true) := by
                rw [hhd]
                simp at e1 e2 ⊢
                exact ⟨e1, e2⟩
              have HCH2 := Lib.hid (show chk c = if c.all (prcB c) = true then 0 else 150 by rw [HCH.out, if_neg hne])
              clear hne
              go_wp2_with fail
              go_loopg [7, 8, 9, 10, 11] c.length (fun gk s7 s8 s9 s10 s11 wx => ∃ k : Nat, k ≤ c.length ∧ gk = c.length - k ∧ s7 = .int .i64 k ∧ Hid (ChM w wx (.slice (some ⟨bc, oc, none⟩) c.length ncv)) ∧ Hid ((c.take k).all (prcB c) = true))
              case atStart => exact ⟨0, Nat.zero_le _, rfl, rfl, HB.out, rfl⟩
              case round =>
                obtain ⟨j, hj, rfl, rfl, HC, HD⟩ := hrel
                have hbr := HC.out.below
                have hcr2 := HC.out.b0
                have hlr2 := HC.out.size
                by_cases hltj : j < c.length
                · obtain ⟨pj, hpj⟩ : ∃ pj, c[j]? = some pj := ⟨_, List.getElem?_eq_getElem hltj⟩
                  obtain ⟨_, b1, o1, e1', hb1, hPJ⟩ := HCODE.out.at hpj
                  cases e1'
                  obtain ⟨n0', n1', n2', bvj, n3', hBRj⟩ := hPJ
                  obtain ⟨abj, capbj, hbvj⟩ := hBRj.len
                  subst hbvj
                  rw [← cell_bel hbr hbc] at n0' n1' n2' n3'
                  have hbcr : bc < wr.heap.size := Nat.lt_of_lt_of_le hbc hbr.size
                  have hh1 : (0 : Int) ≤ j := by omega
                  have hh2 : (j : Int) < c.length := by omega
                  have hjk : IntKind.i64.wrap ((j : Int) + 1) = j + 1 := by have := HLEN.out; rw [IntKind.wrap_i64]; omega
                  obtain ⟨w3, B3⟩ := boxed wr #[.int .i64 pj.params, .int .i64 pj.holds, .int .i64 pj.regs, .slice abj pj.blocks.length capbj] 40
                  have HB3 := Lib.hid B3
                  have hM3 := HC.out.bel B3.below
                  have HM3 := Lib.hid hM3
                  have hs3 := B3.size
                  have hbx3 := B3.blk
                  obtain ⟨q, hq⟩ : ∃ q, q = wr.heap.size := ⟨_, rfl⟩
                  rw [← hq] at hbx3 hs3
                  have HBX3 := Lib.hid hbx3
                  have HQ := Lib.hid hq
                  have HPJ := Lib.hid hpj
                  have HBRJ := Lib.hid hBRj
                  have hfp := HFIT.out pj (List.mem_of_getElem? hpj)
                  have HFP := Lib.hid hfp
                  have hq3 : q < w3.heap.size := by omega
                  have hwq : w.heap.size < q := by omega
                  have HS3 := Lib.hid hs3
                  clear hBRj hpj B3 hM3 hbx3 hq hfp hs3
                  cases hhead : headB pj with
                  | false =>
                    have hchk : chk c = 150 := by rw [HCH2.out, all_false HPJ.out (by rw [prcB_eq, hhead]; rfl)]; rfl
                    have HCHK := Lib.hid hchk
                    have hcs := headB_no hhead
                    clear hchk hhead
                    rcases hcs with g1 | ⟨g1, g2⟩ | ⟨g1, g2, g3⟩ | ⟨g1, g2, g3, g4⟩ | ⟨g1, g2, g3, g4, g5⟩ | ⟨g1, g2, g3, g4, g5, g6⟩
                    all_goals
                      go_wp2_with fail
                      go_ret
                      refine ⟨by rw [HCHK.out]; rfl, ?_⟩
                      rw [← HB3.out.eq]
                      exact HM3.out.below
                  | true =>
                    obtain ⟨g1, g2, g3, g4, g5, g6⟩ := headB_yes hhead
                    have HHD := Lib.hid hhead
                    clear hhead
                    go_wp2_with fail
                    rw [← HB3.out.eq, ← HQ.out]
                    go_loopg [9, 10, 11] pj.blocks.length (fun gk s9 s10 s11 wx => ∃ k : Nat, k ≤ pj.blocks.length ∧ gk = pj.blocks.length - k ∧ s9 = .int .i64 k ∧ Hid (Below w3.heap.size w3 wx) ∧ Hid ((pj.blocks.take k).all (blkB c pj) = true))
                    case atStart => exact ⟨0, Nat.zero_le _, rfl, rfl, Below.refl _ _, rfl⟩
                    case round =>
                      obtain ⟨k, hk, rfl, rfl, HE, HF⟩ := hrel
                      have hew := HE.out.size
                      have HBr := HM3.out.bel HE.out
                      have hbox := (HE.out.block q hq3).trans HBX3.out
                      have y0 := cell_of_row wr q 0 _ _ _ hbox
                      have y1 := cell_of_row wr q 1 _ _ _ hbox
                      have y2 := cell_of_row wr q 2 _ _ _ hbox
                      have y3 := cell_of_row wr q 3 _ _ _ hbox
                      simp only [List.getElem?_toArray, List.getElem?_cons_zero, List.getElem?_cons_succ] at y0 y1 y2 y3
                      have hqr : q < wr.heap.size := by omega
                      have HMR := Lib.hid HBr
                      have HBOX := Lib.hid hbox
                      by_cases hltk : k < pj.blocks.length
                      · obtain ⟨b, hb⟩ : ∃ b, pj.blocks[k]? = some b := ⟨_, List.getElem?_eq_getElem hltk⟩
                        obtain ⟨_, bb, bo, hbv, hbb, hBC⟩ := HBRJ.out.at hb
                        cases hbv
                        obtain ⟨⟨iv, i0, hIR⟩, i1, i2, ⟨av, i3, hSA⟩, i4, i5, i6⟩ := hBC
                        obtain ⟨ai, capi, hiv⟩ := hIR.len
                        subst hiv
                        obtain ⟨aa, ca, rfl⟩ := hSA.len
                        have hbwr := HBr.below
                        rw [← cell_bel hbwr hbb] at i0 i1 i2 i3 i4 i5 i6
                        have hbbw : bb < wr.heap.size := Nat.lt_of_lt_of_le hbb hbwr.size
                        have hk1 : (0 : Int) ≤ k := by omega
                        have hk2 : (k : Int) < pj.blocks.length := by omega
                        have hkk : IntKind.i64.wrap ((k : Int) + 1) = k + 1 := by have := HFP.out.blocks; rw [IntKind.wrap_i64]; omega
                        obtain ⟨w4, B4⟩ := boxed wr #[.slice ai b.ins.length capi, .int .i64 b.fin.kind, .int .i64 b.fin.reg, .slice aa (ints b.fin.args).length ca, .int .i64 b.fin.to, .int .i64 b.fin.next, .int .i64 b.fin.els] 48
                        have HB4 := Lib.hid B4
                        have hs4 := B4.size
                        have hbx4 := B4.blk
                        obtain ⟨u, hu⟩ : ∃ u, u = wr.heap.size := ⟨_, rfl⟩
                        have hM4 := HBr.bel B4.below
                        have HM4 := Lib.hid hM4
                        have hbox4 := (B4.below.block q hqr).trans hbox
                        have HE4 := Lib.hid (HE.out.trans (B4.below.mono hew))
                        rw [← hu] at hbx4 hs4
                        have HBX4 := Lib.hid hbx4
                        have HBOX4 := Lib.hid hbox4
                        have HU := Lib.hid hu
                        have hu4 : u < w4.heap.size := by omega
                        have hq4 : q < w4.heap.size := by omega
                        have HIR := Lib.hid hIR
                        have HSA := Lib.hid hSA
                        have HBK := Lib.hid hb
                        have hfb := HFP.out.each b (List.mem_of_getElem? hb)
                        have HFB := Lib.hid hfb
                        have HS4 := Lib.hid hs4
                        clear hIR hSA hb B4 hM4 hbx4 hbox4 hu HBr hbwr hfb hbox hs4
                        go_wp2_with fail
                        rw [← HB4.out.eq, ← HU.out]
                        go_loopg [11] b.ins.length (fun gj s11 wx => ∃ i : Nat, i ≤ b.ins.length ∧ gj = b.ins.length - i ∧ s11 = .int .i64 i ∧ Hid (Below w4.heap.size w4 wx) ∧ Hid ((b.ins.take i).all (insB c pj) = true))
                        case atStart => exact ⟨0, Nat.zero_le _, rfl, rfl, Below.refl _ _, rfl⟩
                        case round =>
                          obtain ⟨i, hi, rfl, rfl, HG, HH⟩ := hrel
                          have hgw := HG.out.size
                          have HBr := HM4.out.bel HG.out
                          have hbox := (HG.out.block q hq4).trans HBOX4.out
                          have hbxb := (HG.out.block u hu4).trans HBX4.out
                          have y0 := cell_of_row wr q 0 _ _ _ hbox
                          have y1 := cell_of_row wr q 1 _ _ _ hbox
                          have y2 := cell_of_row wr q 2 _ _ _ hbox
                          have y3 := cell_of_row wr q 3 _ _ _ hbox
                          have z0 := cell_of_row wr u 0 _ _ _ hbxb
                          have z1 := cell_of_row wr u 1 _ _ _ hbxb
                          have z2 := cell_of_row wr u 2 _ _ _ hbxb
                          have z3 := cell_of_row wr u 3 _ _ _ hbxb
                          have z4 := cell_of_row wr u 4 _ _ _ hbxb
                          have z5 := cell_of_row wr u 5 _ _ _ hbxb
                          have z6 := cell_of_row wr u 6 _ _ _ hbxb
                          simp only [List.getElem?_toArray, List.getElem?_cons_zero, List.getElem?_cons_succ] at y0 y1 y2 y3 z0 z1 z2 z3 z4 z5 z6
                          have hqr : q < wr.heap.size := by omega
                          have hur : u < wr.heap.size := by omega
                          have c0 := HBr.b0
                          have hwr := HBr.size
                          have hbwr := HBr.below
                          have HMR := Lib.hid HBr
                          by_cases hlti : i < b.ins.length
                          · obtain ⟨x, hx⟩ : ∃ x, b.ins[i]? = some x := ⟨_, List.getElem?_eq_getElem hlti⟩
                            obtain ⟨_, ib, io, hiv, hib, hIC⟩ := HIR.out.at hx
                            cases hiv
                            obtain ⟨x0, x1, ⟨lv, x2, hSL⟩, x3, x4, x5, ⟨dl, x6, hDT⟩, x7⟩ := hIC
                            obtain ⟨al, cl, rfl⟩ := hSL.len
                            obtain ⟨da, dc, hdl, hdnil⟩ := hDT.inv
                            have hdl2 : dl = .slice da x.const.list.length dc := by simpa using hdl
                            subst hdl2
                            clear hdl hdnil
                            rw [← cell_bel hbwr hib] at x0 x1 x2 x3 x4 x5 x6 x7
                            have hibw : ib < wr.heap.size := Nat.lt_of_lt_of_le hib hbwr.size
                            have hi1 : (0 : Int) ≤ i := by omega
                            have hi2 : (i : Int) < b.ins.length := by omega
                            have hik : IntKind.i64.wrap ((i : Int) + 1) = i + 1 := by have := HFB.out.ins; rw [IntKind.wrap_i64]; omega
                            have hbd : Below w.heap.size w wr.drew := hbwr.drew
                            have hins := rins_any (w := wr.drew) (cv := .slice (some ⟨bc, oc, none⟩) c.length ncv) (c := c) (p := pj) (bv := .slice (some ⟨bb, bo, none⟩) pj.blocks.length capbj) (x := x) (lv := .slice al (ints x.args).length cl) (dl := .slice da x.const.list.length dc)
                              ⟨⟨_, ncv, rfl⟩, HCODE.out.bel hbd, ⟨_, capbj, rfl⟩, hSL.below hbd (Nat.le_refl _), (HFB.out.each x (List.mem_of_getElem? hx)).1, hDT.bel hbd (Nat.le_refl _), (HFB.out.each x (List.mem_of_getElem? hx)).2⟩
                            have HXJ := Lib.hid hx
                            have HFS : Hid (wr.cell? ⟨w.heap.size, 0, none⟩ = some (.slice (some ⟨bc, oc, none⟩) c.length ncv) ∧ wr.cell? ⟨q, 0, none⟩ = some (.int .i64 pj.params) ∧ wr.cell? ⟨q, 1, none⟩ = some (.int .i64 pj.holds) ∧ wr.cell? ⟨q, 2, none⟩ = some (.int .i64 pj.regs) ∧ wr.cell? ⟨q, 3, none⟩ = some (.slice (some ⟨bb, bo, none⟩) pj.blocks.length capbj) ∧ wr.cell? ⟨u, 0, none⟩ = some (.slice (some ⟨ib, io, none⟩) b.ins.length capi) ∧ wr.cell? ⟨ib, io + i * 8, none⟩ = some (.string x.op) ∧ wr.cell? ⟨ib, io + i * 8 + 1, none⟩ = some (.int .i64 x.to) ∧ wr.cell? ⟨ib, io + i * 8 + 2, none⟩ = some (.slice al (ints x.args).length cl) ∧ wr.cell? ⟨ib, io + i * 8 + 3, none⟩ = some (.int .i64 x.const.kind) ∧ wr.cell? ⟨ib, io + i * 8 + 4, none⟩ = some (.int .i64 x.const.int) ∧ wr.cell? ⟨ib, io + i * 8 + 5, none⟩ = some (.string x.const.text) ∧ wr.cell? ⟨ib, io + i * 8 + 6, none⟩ = some (.slice da x.const.list.length dc) ∧ wr.cell? ⟨ib, io + i * 8 + 7, none⟩ = some (.int .i64 x.num)) := ⟨c0, y0, y1, y2, y3, z0, x0, x1, x2, x3, x4, x5, x6, x7⟩
                            clear hSL hDT hx hbox hbxb HBr hbwr hbd
                            unfold procV insV at hins
                            cases hI : insB c pj x with
                            | false =>
                              rw [hI] at hins
                              have HINS := Lib.hid hins
                              have hchk : chk c = 150 := by
                                rw [HCH2.out, all_false HPJ.out (by rw [prcB_eq, all_false HBK.out (by unfold blkB; rw [all_false HXJ.out hI]; rfl), Bool.and_false])]
                                rfl
                              have HCHK := Lib.hid hchk
                              clear hchk hI hins
                              go_wp2_with fail
                              go_region_held3 (fun w' => w'.cell? ⟨w.heap.size, 0, none⟩ = some (.slice (some ⟨bc, oc, none⟩) c.length ncv) ∧ w'.cell? ⟨q, 0, none⟩ = some (.int .i64 pj.params) ∧ w'.cell? ⟨q, 1, none⟩ = some (.int .i64 pj.holds) ∧ w'.cell? ⟨q, 2, none⟩ = some (.int .i64 pj.regs) ∧ w'.cell? ⟨q, 3, none⟩ = some (.slice (some ⟨bb, bo, none⟩) pj.blocks.length capbj) ∧ w'.cell? ⟨u, 0, none⟩ = some (.slice (some ⟨ib, io, none⟩) b.ins.length capi) ∧ w'.cell? ⟨ib, io + i * 8, none⟩ = some (.string x.op) ∧ w'.cell? ⟨ib, io + i * 8 + 1, none⟩ = some (.int .i64 x.to) ∧ w'.cell? ⟨ib, io + i * 8 + 2, none⟩ = some (.slice al (ints x.args).length cl) ∧ w'.cell? ⟨ib, io + i * 8 + 3, none⟩ = some (.int .i64 x.const.kind) ∧ w'.cell? ⟨ib, io + i * 8 + 4, none⟩ = some (.int .i64 x.const.int) ∧ w'.cell? ⟨ib, io + i * 8 + 5, none⟩ = some (.string x.const.text) ∧ w'.cell? ⟨ib, io + i * 8 + 6, none⟩ = some (.slice da x.const.list.length dc) ∧ w'.cell? ⟨ib, io + i * 8 + 7, none⟩ = some (.int .i64 x.num))
                                (first | exact HFS.out | exact HFS5.out)
                                (first | (go_at_call 19; (with_reducible refine HINS.out.mono ?_); rintro e w5 ⟨rfl, hb5⟩; have hbq : Below wr.heap.size wr w5 := ((Below.refl _ _).drew).trans hb5; have HFS5 : Hid (w5.cell? ⟨w.heap.size, 0, none⟩ = some (.slice (some ⟨bc, oc, none⟩) c.length ncv) ∧ w5.cell? ⟨q, 0, none⟩ = some (.int .i64 pj.params) ∧ w5.cell? ⟨q, 1, none⟩ = some (.int .i64 pj.holds) ∧ w5.cell? ⟨q, 2, none⟩ = some (.int .i64 pj.regs) ∧ w5.cell? ⟨q, 3, none⟩ = some (.slice (some ⟨bb, bo, none⟩) pj.blocks.length capbj) ∧ w5.cell? ⟨u, 0, none⟩ = some (.slice (some ⟨ib, io, none⟩) b.ins.length capi) ∧ w5.cell? ⟨ib, io + i * 8, none⟩ = some (.string x.op) ∧ w5.cell? ⟨ib, io + i * 8 + 1, none⟩ = some (.int .i64 x.to) ∧ w5.cell? ⟨ib, io + i * 8 + 2, none⟩ = some (.slice al (ints x.args).length cl) ∧ w5.cell? ⟨ib, io + i * 8 + 3, none⟩ = some (.int .i64 x.const.kind) ∧ w5.cell? ⟨ib, io + i * 8 + 4, none⟩ = some (.int .i64 x.const.int) ∧ w5.cell? ⟨ib, io + i * 8 + 5, none⟩ = some (.string x.const.text) ∧ w5.cell? ⟨ib, io + i * 8 + 6, none⟩ = some (.slice da x.const.list.length dc) ∧ w5.cell? ⟨ib, io + i * 8 + 7, none⟩ = some (.int .i64 x.num)) := ⟨(cell_bel hbq hwr).trans HFS.out.1, (cell_bel hbq hqr).trans HFS.out.2.1, (cell_bel hbq hqr).trans HFS.out.2.2.1, (cell_bel hbq hqr).trans HFS.out.2.2.2.1, (cell_bel hbq hqr).trans HFS.out.2.2.2.2.1, (cell_bel hbq hur).trans HFS.out.2.2.2.2.2.1, (cell_bel hbq hibw).trans HFS.out.2.2.2.2.2.2.1, (cell_bel hbq hibw).trans HFS.out.2.2.2.2.2.2.2.1, (cell_bel hbq hibw).trans HFS.out.2.2.2.2.2.2.2.2.1, (cell_bel hbq hibw).trans HFS.out.2.2.2.2.2.2.2.2.2.1, (cell_bel hbq hibw).trans HFS.out.2.2.2.2.2.2.2.2.2.2.1, (cell_bel hbq hibw).trans HFS.out.2.2.2.2.2.2.2.2.2.2.2.1, (cell_bel hbq hibw).trans HFS.out.2.2.2.2.2.2.2.2.2.2.2.2.1, (cell_bel hbq hibw).trans HFS.out.2.2.2.2.2.2.2.2.2.2.2.2.2⟩; have HB5 := Lib.hid hbq; clear hb5 hbq))
                              have HM5 := Lib.hid (HMR.out.bel HB5.out)
                              have HG5 := Lib.hid (HG.out.trans (HB5.out.mono HG.out.size))
                              go_wp2_with fail
                              go_ret
                              exact ⟨by rw [HCHK.out]; rfl, HM5.out.below⟩
                            | true =>
                              rw [hI] at hins
                              have HINS := Lib.hid hins
                              have HIT := Lib.hid hI
                              clear hI hins
                              go_wp2_with fail
                              go_region_held3 (fun w' => w'.cell? ⟨w.heap.size, 0, none⟩ = some (.slice (some ⟨bc, oc, none⟩) c.length ncv) ∧ w'.cell? ⟨q, 0, none⟩ = some (.int .i64 pj.params) ∧ w'.cell? ⟨q, 1, none⟩ = some (.int .i64 pj.holds) ∧ w'.cell? ⟨q, 2, none⟩ = some (.int .i64 pj.regs) ∧ w'.cell? ⟨q, 3, none⟩ = some (.slice (some ⟨bb, bo, none⟩) pj.blocks.length capbj) ∧ w'.cell? ⟨u, 0, none⟩ = some (.slice (some ⟨ib, io, none⟩) b.ins.length capi) ∧ w'.cell? ⟨ib, io + i * 8, none⟩ = some (.string x.op) ∧ w'.cell? ⟨ib, io + i * 8 + 1, none⟩ = some (.int .i64 x.to) ∧ w'.cell? ⟨ib, io + i * 8 + 2, none⟩ = some (.slice al (ints x.args).length cl) ∧ w'.cell? ⟨ib, io + i * 8 + 3, none⟩ = some (.int .i64 x.const.kind) ∧ w'.cell? ⟨ib, io + i * 8 + 4, none⟩ = some (.int .i64 x.const.int) ∧ w'.cell? ⟨ib, io + i * 8 + 5, none⟩ = some (.string x.const.text) ∧ w'.cell? ⟨ib, io + i * 8 + 6, none⟩ = some (.slice da x.const.list.length dc) ∧ w'.cell? ⟨ib, io + i * 8 + 7, none⟩ = some (.int .i64 x.num))
                                (first | exact HFS.out | exact HFS5.out)
                                (first | (go_at_call 19; (with_reducible refine HINS.out.mono ?_); rintro e w5 ⟨rfl, hb5⟩; have hbq : Below wr.heap.size wr w5 := ((Below.refl _ _).drew).trans hb5; have HFS5 : Hid (w5.cell? ⟨w.heap.size, 0, none⟩ = some (.slice (some ⟨bc, oc, none⟩) c.length ncv) ∧ w5.cell? ⟨q, 0, none⟩ = some (.int .i64 pj.params) ∧ w5.cell? ⟨q, 1, none⟩ = some (.int .i64 pj.holds) ∧ w5.cell? ⟨q, 2, none⟩ = some (.int .i64 pj.regs) ∧ w5.cell? ⟨q, 3, none⟩ = some (.slice (some ⟨bb, bo, none⟩) pj.blocks.length capbj) ∧ w5.cell? ⟨u, 0, none⟩ = some (.slice (some ⟨ib, io, none⟩) b.ins.length capi) ∧ w5.cell? ⟨ib, io + i * 8, none⟩ = some (.string x.op) ∧ w5.cell? ⟨ib, io + i * 8 + 1, none⟩ = some (.int .i64 x.to) ∧ w5.cell? ⟨ib, io + i * 8 + 2, none⟩ = some (.slice al (ints x.args).length cl) ∧ w5.cell? ⟨ib, io + i * 8 + 3, none⟩ = some (.int .i64 x.const.kind) ∧ w5.cell? ⟨ib, io + i * 8 + 4, none⟩ = some (.int .i64 x.const.int) ∧ w5.cell? ⟨ib, io + i * 8 + 5, none⟩ = some (.string x.const.text) ∧ w5.cell? ⟨ib, io + i * 8 + 6, none⟩ = some (.slice da x.const.list.length dc) ∧ w5.cell? ⟨ib, io + i * 8 + 7, none⟩ = some (.int .i64 x.num)) := ⟨(cell_bel hbq hwr).trans HFS.out.1, (cell_bel hbq hqr).trans HFS.out.2.1, (cell_bel hbq hqr).trans HFS.out.2.2.1, (cell_bel hbq hqr).trans HFS.out.2.2.2.1, (cell_bel hbq hqr).trans HFS.out.2.2.2.2.1, (cell_bel hbq hur).trans HFS.out.2.2.2.2.2.1, (cell_bel hbq hibw).trans HFS.out.2.2.2.2.2.2.1, (cell_bel hbq hibw).trans HFS.out.2.2.2.2.2.2.2.1, (cell_bel hbq hibw).trans HFS.out.2.2.2.2.2.2.2.2.1, (cell_bel hbq hibw).trans HFS.out.2.2.2.2.2.2.2.2.2.1, (cell_bel hbq hibw).trans HFS.out.2.2.2.2.2.2.2.2.2.2.1, (cell_bel hbq hibw).trans HFS.out.2.2.2.2.2.2.2.2.2.2.2.1, (cell_bel hbq hibw).trans HFS.out.2.2.2.2.2.2.2.2.2.2.2.2.1, (cell_bel hbq hibw).trans HFS.out.2.2.2.2.2.2.2.2.2.2.2.2.2⟩; have HB5 := Lib.hid hbq; clear hb5 hbq))
                              have HM5 := Lib.hid (HMR.out.bel HB5.out)
                              have HG5 := Lib.hid (HG.out.trans (HB5.out.mono HG.out.size))
                              go_wp2_with fail
                              go_roundg (b.ins.length - (i + 1))
                              case measure => omega
                              case rel => exact ⟨i + 1, by omega, rfl, by go_num, HG5.out, all_take HH.out HXJ.out HIT.out⟩
                          · obtain rfl : i = b.ins.length := by omega
                            have HEND := Lib.hid (rend_any (w := wr) (p := pj) (bv := .slice (some ⟨bb, bo, none⟩) pj.blocks.length capbj) (x := b.fin) (lv := .slice aa (ints b.fin.args).length ca) ⟨⟨_, capbj, rfl⟩, HSA.out.below hbwr (Nat.le_refl _), HFB.out.args⟩)
                            unfold procV finV at HEND
                            have hallj := HH.out
                            rw [List.take_length] at hallj
                            have HALLJ := Lib.hid hallj
                            have HW3R := Lib.hid (HE4.out.trans (HG.out.mono HE4.out.size))
                            clear hbox hbxb HBr hbwr hallj
                            go_wp2_with fail
                            with_reducible refine HEND.out.mono ?_
                            rintro e w5 ⟨rfl, hb5⟩
                            have HM5 := Lib.hid (HMR.out.bel hb5)
                            have HW35 := Lib.hid (HW3R.out.trans (hb5.mono HW3R.out.size))
                            clear hb5
                            cases hF : finB pj b.fin with
                            | false =>
                              have hchk : chk c = 150 := by
                                rw [HCH2.out, all_false HPJ.out (by rw [prcB_eq, all_false HBK.out (by unfold blkB; rw [hF, Bool.and_false]), Bool.and_false])]
                                rfl
                              have HCHK := Lib.hid hchk
                              clear hchk
                              go_wp2_with fail
                              go_ret
                              exact ⟨by rw [HCHK.out]; rfl, HM5.out.below⟩
                            | true =>
                              have HFT := Lib.hid hF
                              clear hF
                              go_wp2_with fail
                              go_roundg (pj.blocks.length - (k + 1))
                              case measure => omega
                              case rel => exact ⟨k + 1, by omega, rfl, by go_num, HW35.out, all_take HF.out HBK.out (by unfold blkB; rw [HALLJ.out, HFT.out]; rfl)⟩
                      · obtain rfl : k = pj.blocks.length := by omega
                        have h := HF.out
                        rw [List.take_length] at h
                        have hpb : prcB c pj = true := by rw [prcB_eq, HHD.out, h]; rfl
                        have HPB := Lib.hid hpb
                        clear hbox HBr hpb h
                        go_wp2_with fail
                        go_roundg (c.length - (j + 1))
                        case measure => omega
                        case rel => exact ⟨j + 1, by omega, rfl, by go_num, HMR.out, all_take HD.out HPJ.out HPB.out⟩
                · obtain rfl : j = c.length := by omega
                  have hall := HD.out
                  rw [List.take_length] at hall
                  have hchk : chk c = 0 := by rw [HCH2.out, if_pos hall]
                  have HCHK := Lib.hid hchk
                  clear hchk hall
                  go_wp2_with fail
                  go_ret
                  exact ⟨by rw [HCHK.out]; rfl, hbr⟩
end
end Vm
end Go.Proofs.Ytalfnaielhbocaa
namespace Go.Proofs.Ytalfnaielhbocaa
open Go.RowKit
set_option linter.unusedVariables false
set_option linter.unusedSimpArgs false
namespace Vm
theorem manyB_few : ∀ (l : List Blk) (n : Nat), manyB l n ≤ 4096 → ∀ b ∈ l, b.ins.length ≤ 4096
  | b :: l, n, h, x, hx => by
    have e : manyB (b :: l) n = if n + 1 + b.ins.length > 4096 then n + 1 + b.ins.length else manyB l (n + 1 + b.ins.length) := rfl
    rw [e] at h
    split at h
    · omega
    · rcases List.mem_cons.1 hx with rfl | hx
      · omega
      · exact manyB_few l _ h x hx
theorem manyP_few : ∀ (c : Code) (n : Nat), manyP c n ≠ none → ∀ p ∈ c, p.regs ≤ 2000 ∧ ∀ b ∈ p.blocks, b.ins.length ≤ 4096
  | q :: c, n, h, p, hp => by
    have e : manyP (q :: c) n = if q.regs > 2000 ∨ manyB q.blocks n > 4096 then none else manyP c (manyB q.blocks n) := rfl
    rw [e] at h
    split at h
    · exact absurd rfl h
    · rename_i hn
      rcases List.mem_cons.1 hp with rfl | hp
      · exact ⟨by omega, fun b hb => manyB_few _ n (by omega) b hb⟩
      · exact manyP_few c _ h p hp
theorem codeOk {c : Code} (h : chk c = 0) (hfit : ∀ p ∈ c, PrcFit p) : CodeOk c := by
  have hm : ¬ (manyP c 0 = none ∨ c.length > 300) := fun e => by
    have : chk c = 151 := by unfold chk; rw [if_pos e]
    rw [this] at h
    cases h
  have h2 := chk_many hm
  rw [h] at h2
  have hh : ¬ (headC c = true) := fun e => by rw [if_pos e] at h2; cases h2
  rw [if_neg hh] at h2
  have ha : c.all (prcB c) = true := by
    cases hc : c.all (prcB c) with
    | true => rfl
    | false => rw [hc] at h2; cases h2
  have hf := manyP_few c 0 (fun e => hm (.inl e))
  refine ⟨fun p hp => List.all_eq_true.1 ha p hp, fun p hp => (hf p hp).1, ?_, fun p hp b hb x hx => (((hfit p hp).each b hb).each x hx).2, fun p hp => (hf p hp).2⟩
  cases c with
  | nil => exact absurd rfl hh
  | cons p l =>
    refine ⟨p, l, rfl, ?_⟩
    have e := headC_at (c := p :: l) (p := p) rfl
    rw [e] at hh
    simp at hh
    exact hh
end Vm
end Go.Proofs.Ytalfnaielhbocaa
namespace Go.Proofs.Ytalfnaielhbocaa
open Go.RowKit
set_option linter.unusedVariables false
set_option linter.unusedSimpArgs false
set_option maxRecDepth 100000
namespace Vm
section
variable {w : World} {cv : Value} {c : Code}
theorem heap_mid (w : World) (a b c : Obj) : (((w.alloc a).alloc b).alloc c).heap[w.heap.size + 1]? = some b := (heap_alloc_old _ _ (by simp)).trans (heap_new (by simp))
theorem heap_low (w : World) (a b c : Obj) : (((w.alloc a).alloc b).alloc c).heap[w.heap.size]? = some a := (heap_alloc_old _ _ (by simp; omega)).trans ((heap_alloc_old _ _ (by simp)).trans (heap_new rfl))
theorem conv_out {w : World} {a : Option Addr} {n cc : Nat} (l : List UInt8) (hn : n = l.length) (h : w.ownsRow 0 5 1 (.slice a n cc) n (bytes l)) (k : Nat) : (convert 65 9 (.slice a n cc)).run Try.prog (w.drewN k) = .ok (.string ⟨l.toArray⟩) (w.drewN k) := by
  subst hn
  have h := own_drewN h k
  rcases own_shape h with ⟨e, e2, e3⟩ | ⟨g, cap, e, h0, h1, h2, h3⟩
  · simp at e
    obtain ⟨rfl, h0, rfl⟩ := e
    have : l = [] := h0
    subst this
    exact run_convert_bytes_nil _ 65 5 Try.underlying65 Try.underlying5 _ _ 9 Try.underlying9
  · simp at e
    obtain ⟨rfl, rfl⟩ := e
    have hmap : (l.map fun b => (b.toNat : Int)).map (fun x => UInt8.ofNat x.toNat) = l := by
      rw [List.map_map]
      conv => rhs; rw [← List.map_id l]
      apply List.map_congr_left
      intro b _
      simp
    have := run_convert_bytes_arg (w.drewN k) 65 5 Try.underlying65 Try.underlying5 g 0 l.length cc (l.map fun b => (b.toNat : Int)) (by simp) (fun i hi => ?_) 9 Try.underlying9
    · rw [this]
      unfold strOfNums
      rw [hmap]
    · rw [Nat.zero_add, h.cellAt i (by omega)]
      simp [bytes, List.getD, List.getElem?_eq_getElem hi]
theorem run_begin {w3 wM : World} {cv : Value} {hb mb m : Nat} {ρ : Nat → Nat} {inp : List UInt8} {steps : Nat} (h : VmO w3 wM ρ (fun _ => .slice none 0 0) m cv (start0 inp) steps 0 hb mb (.slice none 0 0) (.slice none 0 0) (.pointer none) []) :
    MadeIn w3 wM ρ (fun _ => .slice none 0 0) m cv (start0 inp) steps 0 hb mb (.slice none 0 0) (.slice none 0 0) (.pointer none) [] 0 [] false [] (.slice none 0 0) (.pointer none) :=
  ⟨h, World.ownsRow_nil _ _ _ _, (fun b e => by simp [Value.ownBlock] at e), .nil, Nat.zero_le _, (fun c hc => nomatch hc), (fun f hf => nomatch hf), (fun f hf => nomatch hf), fun _ => rfl⟩
theorem keep4 {w : World} {q m i a b c d : Nat} {u0 u1 u2 u3 : Value} (h : m ≠ q) : ((((w.setCell ⟨q, a, none⟩ u0).setCell ⟨q, b, none⟩ u1).setCell ⟨q, c, none⟩ u2).setCell ⟨q, d, none⟩ u3).cell? ⟨m, i, none⟩ = w.cell? ⟨m, i, none⟩ :=
  (cell_set_block _ _ h).trans ((cell_set_block _ _ h).trans ((cell_set_block _ _ h).trans (cell_set_block _ _ h)))
theorem below8 {B : Nat} {w0 w : World} {g : Nat} (h : Below B w0 w) (hg : B ≤ g) (b0 b1 b2 b3 b4 b5 b6 b7 : Value) : Below B w0 ((((((((w.setCell ⟨g, 0, none⟩ b0).setCell ⟨g, 1, none⟩ b1).setCell ⟨g, 2, none⟩ b2).setCell ⟨g, 3, none⟩ b3).setCell ⟨g, 4, none⟩ b4).setCell ⟨g, 5, none⟩ b5).setCell ⟨g, 6, none⟩ b6).setCell ⟨g, 7, none⟩ b7) :=
  (((((((h.setCell (p := ⟨g, 0, none⟩) hg _).setCell (p := ⟨g, 1, none⟩) hg _).setCell (p := ⟨g, 2, none⟩) hg _).setCell (p := ⟨g, 3, none⟩) hg _).setCell (p := ⟨g, 4, none⟩) hg _).setCell (p := ⟨g, 5, none⟩) hg _).setCell (p := ⟨g, 6, none⟩) hg _).setCell (p := ⟨g, 7, none⟩) hg _
theorem drew_at {w : World} {g : Nat} {o : Option Obj} (h : w.heap[g]? = o) : w.drew.heap[g]? = o := h
theorem five_at {w : World} {q g i0 i1 i2 i3 i4 : Nat} {u0 u1 u2 u3 u4 : Value} {o : Option Obj} (hn : g ≠ q) (h : w.heap[g]? = o) : (((((w.setCell ⟨q, i0, none⟩ u0).setCell ⟨q, i1, none⟩ u1).setCell ⟨q, i2, none⟩ u2).setCell ⟨q, i3, none⟩ u3).setCell ⟨q, i4, none⟩ u4).heap[g]? = o := by
  rw [heap_setCell_other _ _ _ _ hn, heap_setCell_other _ _ _ _ hn, heap_setCell_other _ _ _ _ hn, heap_setCell_other _ _ _ _ hn, heap_setCell_other _ _ _ _ hn]
  exact h
theorem run_at {c : Code} {inp : List UInt8} {steps left done : Nat} {s : St} (h1 : steps ≤ 1000000) (he : chk c = 0) (hgo : go c steps (start c inp) = go c left s) (hst : s.e ≠ 0 ∨ s.done = true) (hsum : done + left = steps) : run c inp steps = ⟨s.e, ⟨s.out.toArray⟩, if s.e = 0 then Hp.tellT s.T s.told else none, done⟩ := by
  unfold run
  rw [if_neg (by omega), if_neg (fun h => h he)]
  have e : (steps : Int).toNat = steps := by omega
  rw [e, hgo, go_stop hst]
  have : (steps : Int) - left = done := by omega
  simp only [this]
structure Rn (w3 wx : World) (m : Nat) (cv : Value) (c : Code) (inp : List UInt8) (total gk : Nat) : Prop where
  ex : ∃ s left done n, VmAt w3 wx m cv s left done ∧ done + left = total ∧ go c total (start c inp) = go c left s ∧ Mo c n s ∧ n + left ≤ total + 1 ∧ (s.e = 0 → s.done = false → Cu c s ∧ s.pos = 0 ∧ left < gk)
set_option maxHeartbeats 16000000 in
theorem Run_good (inp : List UInt8) (steps : Nat) (al : Option Addr) (nl cl : Nat) (h1 : steps ≤ 800000) (hck : ChkIs (.slice al nl cl) c w) (he : chk c = 0) (hc : CodeOk c) (hcode : CodeAt w (.slice al nl cl) c) :
    Calls Try.prog 11 #[.agg #[.slice al nl cl], .string ⟨inp.toArray⟩, .int .i64 steps] w (OutPost (run c inp steps) w) := by
  have g1 : decide ((steps : Int) < 0) = false := decide_eq_false (by omega)
  have g2 : decide ((1000000 : Int) < steps) = false := decide_eq_false (by omega)
  have g2' : decide (1000000 < steps) = false := decide_eq_false (by omega)
  obtain ⟨w1, B1⟩ := boxed w #[.slice al nl cl] 24
  obtain ⟨w2, B2⟩ := boxed w1 #[.int .i64 0, .string ⟨#[]⟩, .int .i64 0, .int .i64 0, .string ⟨#[]⟩, .slice none 0 0, .bool false, .int .i64 0] 33
  have hs1 := B1.size
  have hs2 := B2.size
  have hB2 : Below w.heap.size w w2 := B1.below.trans (B2.below.mono B1.below.size)
  have hck2 := hck w2 hB2
  rw [he] at hck2
  have HCK := Lib.hid hck2
  have HCODE := Lib.hid hcode
  have HC0 := Lib.hid hc
  have HB1 := Lib.hid B1
  have HB2 := Lib.hid B2
  have HB := Lib.hid hB2
  clear hck hck2 B1 B2 hB2
  go_enter Try.func11, Try.ntmps11
  go_wp2_with fail
  rw [← HB1.out.eq, ← HB2.out.eq]
  with_reducible refine HCK.out.mono ?_
  rintro e w3 ⟨rfl, hb3⟩
  have hc3 := (hb3.block w.heap.size (by omega)).trans ((HB2.out.below.block w.heap.size (by omega)).trans HB1.out.blk)
  have cc := cell_of_row w3 w.heap.size 0 _ _ _ hc3
  simp only [List.getElem?_toArray, List.getElem?_cons_zero] at cc
  have hl3 : w.heap.size < w3.heap.size := (Array.getElem?_eq_some_iff.1 hc3).1
  have hr3 := (hb3.block w1.heap.size (by omega)).trans HB2.out.blk
  rw [hs1] at hr3
  have HR3 := Lib.hid hr3
  have HB3 := Lib.hid hb3
  have hs3 := hb3.size
  have HF : Hid (w3.cell? ⟨w.heap.size, 0, none⟩ = some (.slice al nl cl)) := cc
  have HNEW : Hid (∀ w, Calls Try.prog 21 #[] w fun e w' => e = .returned (.pointer (some ⟨w.heap.size, 0, none⟩)) ∧ w' = w.alloc (.cells #[.slice none 0 0] 83)) := fun w => new_any w
  have hmm : ∀ w, (Instr.makeMap 62 none).run Try.prog w = .ok (.map (some w.heap.size)) (w.alloc (.map #[] 0)) := fun w => run_makeMap _ w
  clear hb3 hc3 hr3
  go_wp2_with fail
  go_region_held3 (fun w' => w'.cell? ⟨w.heap.size, 0, none⟩ = some (.slice al nl cl))
    (first | exact HF.out | exact alloc_at _ HF.out | exact alloc_at _ (alloc_at _ HF.out) | exact alloc_at _ (alloc_at _ (alloc_at _ HF.out)))
    (first
      | (go_at_call 21; (with_reducible refine (HNEW.out _).mono ?_); rintro e w4 ⟨rfl, rfl⟩))
  all_goals first
    | (obtain ⟨wM, hwM⟩ : ∃ wM, wM = (((w3.alloc (.map #[] 0)).alloc (.cells #[.slice none 0 0] 83)).alloc (.cells #[.slice al nl cl, .pointer (some ⟨(w3.heap.size + 1), 0, none⟩), .map (some w3.heap.size), .string ⟨inp.toArray⟩, .slice none 0 0, .int .i64 4, .int .i64 0, .string ⟨#[]⟩, .int .i64 0, .int .i64 steps, .int .i64 0, .int .i64 0, .slice none 0 0, .slice none 0 0, .int .i64 0, .pointer none, .bool false, .int .i64 0, .int .i64 0, .string ⟨#[]⟩] 69)).drew := ⟨_, rfl⟩; rw [← hwM]; have X0 : ∃ ρ hb mb, VmO w3 wM ρ (fun _ => .slice none 0 0) (w3.heap.size + 1 + 1) (.slice al nl cl) (start0 inp) steps 0 hb mb (.slice none 0 0) (.slice none 0 0) (.pointer none) [] := ⟨_, (w3.heap.size + 1), w3.heap.size, hwM ▸ VmO.init inp steps ((((Below.refl _ _).alloc (Nat.le_refl _) _).alloc (by simp) _).alloc (by simp; omega) _).drew (heap_mid w3 _ _ _) ⟨#[], 0, heap_low w3 _ _ _, rfl⟩ (heap_new (by simp)) (by omega) (by omega) (by omega) (by omega) (by omega) (by omega)⟩)
    | (obtain ⟨wM, hwM⟩ : ∃ wM, wM = (((w3.alloc (.cells #[.slice none 0 0] 83)).alloc (.map #[] 0)).alloc (.cells #[.slice al nl cl, .pointer (some ⟨w3.heap.size, 0, none⟩), .map (some (w3.heap.size + 1)), .string ⟨inp.toArray⟩, .slice none 0 0, .int .i64 4, .int .i64 0, .string ⟨#[]⟩, .int .i64 0, .int .i64 steps, .int .i64 0, .int .i64 0, .slice none 0 0, .slice none 0 0, .int .i64 0, .pointer none, .bool false, .int .i64 0, .int .i64 0, .string ⟨#[]⟩] 69)).drew := ⟨_, rfl⟩; rw [← hwM]; have X0 : ∃ ρ hb mb, VmO w3 wM ρ (fun _ => .slice none 0 0) (w3.heap.size + 1 + 1) (.slice al nl cl) (start0 inp) steps 0 hb mb (.slice none 0 0) (.slice none 0 0) (.pointer none) [] := ⟨_, w3.heap.size, (w3.heap.size + 1), hwM ▸ VmO.init inp steps ((((Below.refl _ _).alloc (Nat.le_refl _) _).alloc (by simp) _).alloc (by simp; omega) _).drew (heap_low w3 _ _ _) ⟨#[], 0, heap_mid w3 _ _ _, rfl⟩ (heap_new (by simp)) (by omega) (by omega) (by omega) (by omega) (by omega) (by omega)⟩)
  all_goals
    obtain ⟨ρ0, hb, mb, X0⟩ := X0
    clear hwM
    have HM0 := made_any (run_begin X0)
    rw [show (((0 : Nat) : Int)) = 0 from rfl] at HM0
    have HM := Lib.hid HM0
    unfold MadePost St.newV Hp.V.val at HM
    dsimp only at HM
    rw [show (((start0 inp).T.length : Nat) : Int) = 0 from rfl] at HM
    clear HM0
    have HC1 := Lib.hid X0.c.below
    clear X0
    go_wp2_with fail
    with_reducible refine HM.out.mono ?_
    rintro e w5 ⟨rfl, ⟨ρ5, H5, X5, hz5⟩, hs5, hk5⟩
    have hcode3 : CodeAt w3 (.slice al nl cl) c := HCODE.out.bel (HB.out.trans (HB3.out.mono HB.out.size))
    have HCODE3 := Lib.hid hcode3
    have HCA0 := call_any X5 HC0.out hcode3 (start_mo c HC0.out inp) ⟨8, 0, ⟨#[]⟩⟩ [] none 0 (World.ownsRow_nil _ _ _ _) (fun b e => by simp [Value.ownBlock] at e)
    rw [show ([] : List Hp.V).length = 0 from rfl] at HCA0
    have HCA := Lib.hid HCA0
    unfold Hp.V.val at HCA
    dsimp only at HCA
    clear HCA0 X5 hz5 hk5 hcode3
    go_wp2_with fail
    with_reducible refine HCA.out.mono ?_
    rintro e w6 hV
    obtain ⟨rfl, hV2⟩ := hV
    have hst : call c ((start0 inp).made 0 [] false []) ⟨8, 0, ⟨#[]⟩⟩ [] = start c inp := rfl
    rw [hst] at hV2
    have hcok := call_ok HC0.out (start_mo c HC0.out inp) (v := ⟨8, 0, ⟨#[]⟩⟩) (a := []) (fun v hv => nomatch hv)
    rw [hst] at hcok
    have hR0 : Rn w3 w6 (w3.heap.size + 1 + 1) (.slice al nl cl) c inp steps (steps + 1) := ⟨⟨_, steps, 0, 1, hV2, by omega, rfl, hcok.1, by omega, fun e1 e2 => ⟨hcok.2 e1 e2 rfl, call_pos e1 e2, by omega⟩⟩⟩
    have HR0 := Lib.hid hR0
    clear hV2 hst hcok hR0
    go_wp2_with fail
    go_loopg [] (steps + 1) (fun gk wx => Hid (Rn w3 wx (w3.heap.size + 1 + 1) (.slice al nl cl) c inp steps gk))
    case atStart => exact HR0.out
    case round =>
      obtain ⟨s, left, done, n, ⟨ρ, H, hb', mb', ov, rv, fv, cbs, X⟩, hsum, hgo, hmo, hnl, hcu⟩ := (hrel : Hid _).out.ex
      have hmr := X.lt
      have c10 : wr.cell? ⟨w3.heap.size + 1 + 1, 10, none⟩ = some (.int .i64 s.e) := X.cell 10
      have c16 : wr.cell? ⟨w3.heap.size + 1 + 1, 16, none⟩ = some (.bool s.done) := X.cell 16
      by_cases hgoon : s.e = 0 ∧ s.done = false
      · obtain ⟨he0, hd0⟩ := hgoon
        obtain ⟨hu, hpos, hlg⟩ := hcu he0 hd0
        have HRUN := Lib.hid (run_any X HC0.out HCODE3.out hmo hu he0 hd0 hpos (by omega) (by omega))
        have HGO := Lib.hid hgo
        rw [hd0] at c16
        have k1 : (s.e == 0) = true := by rw [he0]; rfl
        clear X hgo hmo hu hcu
        go_wp2_with fail
        with_reducible refine HRUN.out.mono ?_
        rintro e w7 hV
        obtain ⟨rfl, s', left', done', n', hV', hsum', hgo', hmo', hnl', hcu'⟩ := hV
        have HN7 : Hid (Rn w3 w7 (w3.heap.size + 1 + 1) (.slice al nl cl) c inp steps left) := ⟨⟨s', left', done', n', hV', by omega, HGO.out.trans hgo', hmo', by omega, hcu'⟩⟩
        clear hV' hgo' hmo' hcu'
        go_wp2_with fail
        go_roundg left
        case measure => omega
        case rel => exact HN7.out
      · have hst : s.e ≠ 0 ∨ s.done = true := by
          by_cases h : s.e = 0
          · refine .inr ?_
            cases hd : s.done with
            | true => rfl
            | false => exact absurd ⟨h, hd⟩ hgoon
          · exact .inl h
        have HRA := Lib.hid (run_at (c := c) (inp := inp) (by omega) he hgo hst hsum)
        have hB7 := X.c.below
        have hrow := X.c.out
        obtain ⟨ao, co, hov⟩ := own_slice hrow
        subst hov
        have hconv := fun k => conv_out s.out rfl hrow k
        have hconv1 : (convert 65 9 (.slice ao s.out.length co)).run Try.prog wr.drew = .ok (.string ⟨s.out.toArray⟩) wr.drew := hconv 1
        have hconv0 : (convert 65 9 (.slice ao s.out.length co)).run Try.prog wr = .ok (.string ⟨s.out.toArray⟩) wr := hconv 0
        have hconvA : ∀ o, (convert 65 9 (.slice ao s.out.length co)).run Try.prog (wr.alloc o).drew = .ok (.string ⟨s.out.toArray⟩) (wr.alloc o).drew := fun o => conv_out s.out rfl (hrow.alloc o) 1
        have c4 : wr.cell? ⟨w3.heap.size + 1 + 1, 4, none⟩ = some (.slice ao s.out.length co) := X.cell 4
        have c8 : wr.cell? ⟨w3.heap.size + 1 + 1, 8, none⟩ = some (.int .i64 done) := X.cell 8
        have hres := (hB7.block (w.heap.size + 1) (by omega)).trans HR3.out
        obtain ⟨z0, z1, z2, z3, z4, z5, z6, z7, zf⟩ := Res8.of hres
        have y0 := zf 0
        have y1 := zf 1
        have y2 := zf 2
        have y3 := zf 3
        have y4 := zf 4
        have y5 := zf 5
        have y6 := zf 6
        have y7 := zf 7
        have hl7 : w.heap.size + 1 < wr.heap.size := by have := hB7.size; omega
        have HRES := Lib.hid hres
        have hBB : Below w.heap.size w wr := (HB.out.trans (HB3.out.mono HB.out.size)).trans (hB7.mono (by omega))
        have HBB := Lib.hid hBB
        have HX := Lib.hid X
        have HMO := Lib.hid hmo
        clear X hrow hconv hB7 hres zf hBB hmo hgo hcu
        by_cases hz : s.e = 0
        · have hd1 : s.done = true := hst.resolve_left (fun h => h hz)
          rw [hd1] at c16
          have k1 : (s.e == 0) = true := by rw [hz]; rfl
          obtain ⟨w7, B7⟩ := boxed wr #[.int .i64 s.e, .string ⟨s.out.toArray⟩, .int .i64 0, .int .i64 0, .string ⟨#[]⟩, .slice none 0 0, .bool false, .int .i64 done] 33
          have hs7 := B7.size
          have X7 := HX.out.bel B7.below
          have m10 : w7.cell? ⟨w3.heap.size + 1 + 1, 10, none⟩ = some (.int .i64 s.e) := X7.cell 10
          have hm7 := X7.lt
          have hres7 := (B7.below.block (w.heap.size + 1) hl7).trans HRES.out
          have hl8 : w.heap.size + 1 < w7.heap.size := by omega
          have hl9 : wr.heap.size < w7.heap.size := by omega
          have hn7 : wr.heap.size ≠ w.heap.size + 1 := by omega
          have hn8 : w.heap.size + 1 ≠ wr.heap.size := by omega
          have HRES7 := Lib.hid hres7
          have HB7 := Lib.hid B7
          rw [hz] at HB7 m10
          have m1 : w7.cell? ⟨w3.heap.size + 1 + 1, 1, none⟩ = some (.pointer (some ⟨hb', 0, none⟩)) := X7.cell 1
          have m17 : w7.cell? ⟨w3.heap.size + 1 + 1, 17, none⟩ = some (.int .i64 s.told.kind) := X7.cell 17
          have m18 : w7.cell? ⟨w3.heap.size + 1 + 1, 18, none⟩ = some (.int .i64 s.told.int) := X7.cell 18
          have m19 : w7.cell? ⟨w3.heap.size + 1 + 1, 19, none⟩ = some (.string s.told.text) := X7.cell 19
          have hmq : w3.heap.size + 1 + 1 ≠ wr.heap.size := by omega
          have HF7 : Hid (w7.cell? ⟨w3.heap.size + 1 + 1, 1, none⟩ = some (.pointer (some ⟨hb', 0, none⟩)) ∧ w7.cell? ⟨w3.heap.size + 1 + 1, 17, none⟩ = some (.int .i64 s.told.kind) ∧ w7.cell? ⟨w3.heap.size + 1 + 1, 17 + 1, none⟩ = some (.int .i64 s.told.int) ∧ w7.cell? ⟨w3.heap.size + 1 + 1, 17 + 2, none⟩ = some (.string s.told.text)) := ⟨m1, m17, m18, m19⟩
          have HF7a : Hid (w7.drew.drew.cell? ⟨w3.heap.size + 1 + 1, 1, none⟩ = some (.pointer (some ⟨hb', 0, none⟩)) ∧ w7.drew.drew.cell? ⟨w3.heap.size + 1 + 1, 17, none⟩ = some (.int .i64 s.told.kind) ∧ w7.drew.drew.cell? ⟨w3.heap.size + 1 + 1, 17 + 1, none⟩ = some (.int .i64 s.told.int) ∧ w7.drew.drew.cell? ⟨w3.heap.size + 1 + 1, 17 + 2, none⟩ = some (.string s.told.text)) := HF7.out
          have HF7b : Hid (w7.drew.cell? ⟨w3.heap.size + 1 + 1, 1, none⟩ = some (.pointer (some ⟨hb', 0, none⟩)) ∧ w7.drew.cell? ⟨w3.heap.size + 1 + 1, 17, none⟩ = some (.int .i64 s.told.kind) ∧ w7.drew.cell? ⟨w3.heap.size + 1 + 1, 17 + 1, none⟩ = some (.int .i64 s.told.int) ∧ w7.drew.cell? ⟨w3.heap.size + 1 + 1, 17 + 2, none⟩ = some (.string s.told.text)) := HF7.out
          have HTL := Lib.hid (Tell_any (w := w7.drew.drew) s.told (X7.drew 2).c.heap HMO.out.wf HMO.out.told)
          unfold Hp.V.val at HTL
          obtain ⟨q0, q1, q2, q3, q4, q5, q6, q7, qf⟩ := Res8.of B7.blk
          have hbq := B7.blk
          have HBQ := Lib.hid hbq
          have X7L := Lib.hid X7
          clear X7 B7 hres7 qf hbq
          go_wp2_with fail
          go_region
          rw [← HB7.out.eq]
          go_wp2_with fail
          go_region_held3 (fun w' => w'.cell? ⟨w3.heap.size + 1 + 1, 1, none⟩ = some (.pointer (some ⟨hb', 0, none⟩)) ∧ w'.cell? ⟨w3.heap.size + 1 + 1, 17, none⟩ = some (.int .i64 s.told.kind) ∧ w'.cell? ⟨w3.heap.size + 1 + 1, 17 + 1, none⟩ = some (.int .i64 s.told.int) ∧ w'.cell? ⟨w3.heap.size + 1 + 1, 17 + 2, none⟩ = some (.string s.told.text))
            (first | with_reducible exact HF7a.out | with_reducible exact HF7.out | with_reducible exact HF7b.out | with_reducible exact HF8.out | with_reducible exact HF9.out _ _ _ _ | with_reducible exact HF10.out _ _ _ _ _)
            (first
              | (go_at_call 25; (with_reducible refine HTL.out.mono ?_); rintro e w8 ⟨d, ad, cd, rfl, hdt, hb8, hde⟩; have hb78 : Below w7.heap.size w7 w8 := (((Below.refl _ _).drew).drew).trans hb8; have HDT := Lib.hid hdt; have HDE := Lib.hid hde; have HB78 := Lib.hid hb78; have X8 := X7L.out.bel hb78; have n1 : w8.cell? ⟨w3.heap.size + 1 + 1, 1, none⟩ = some (.pointer (some ⟨hb', 0, none⟩)) := X8.cell 1; have n17 : w8.cell? ⟨w3.heap.size + 1 + 1, 17, none⟩ = some (.int .i64 s.told.kind) := X8.cell 17; have n18 : w8.cell? ⟨w3.heap.size + 1 + 1, 18, none⟩ = some (.int .i64 s.told.int) := X8.cell 18; have n19 : w8.cell? ⟨w3.heap.size + 1 + 1, 19, none⟩ = some (.string s.told.text) := X8.cell 19; have HF8 := Lib.hid (And.intro n1 (And.intro n17 (And.intro n18 n19))); have HF9 : Hid (∀ u0 u1 u2 u3 : Value, ((((w8.setCell ⟨wr.heap.size, 2, none⟩ u0).setCell ⟨wr.heap.size, 2 + 1, none⟩ u1).setCell ⟨wr.heap.size, 2 + 2, none⟩ u2).setCell ⟨wr.heap.size, 2 + 3, none⟩ u3).cell? ⟨w3.heap.size + 1 + 1, 1, none⟩ = some (.pointer (some ⟨hb', 0, none⟩)) ∧ ((((w8.setCell ⟨wr.heap.size, 2, none⟩ u0).setCell ⟨wr.heap.size, 2 + 1, none⟩ u1).setCell ⟨wr.heap.size, 2 + 2, none⟩ u2).setCell ⟨wr.heap.size, 2 + 3, none⟩ u3).cell? ⟨w3.heap.size + 1 + 1, 17, none⟩ = some (.int .i64 s.told.kind) ∧ ((((w8.setCell ⟨wr.heap.size, 2, none⟩ u0).setCell ⟨wr.heap.size, 2 + 1, none⟩ u1).setCell ⟨wr.heap.size, 2 + 2, none⟩ u2).setCell ⟨wr.heap.size, 2 + 3, none⟩ u3).cell? ⟨w3.heap.size + 1 + 1, 17 + 1, none⟩ = some (.int .i64 s.told.int) ∧ ((((w8.setCell ⟨wr.heap.size, 2, none⟩ u0).setCell ⟨wr.heap.size, 2 + 1, none⟩ u1).setCell ⟨wr.heap.size, 2 + 2, none⟩ u2).setCell ⟨wr.heap.size, 2 + 3, none⟩ u3).cell? ⟨w3.heap.size + 1 + 1, 17 + 2, none⟩ = some (.string s.told.text)) := fun u0 u1 u2 u3 => ⟨(keep4 hmq).trans n1, (keep4 hmq).trans n17, (keep4 hmq).trans n18, (keep4 hmq).trans n19⟩; have HF10 : Hid (∀ u0 u1 u2 u3 u4 : Value, (((((w8.setCell ⟨wr.heap.size, 2, none⟩ u0).setCell ⟨wr.heap.size, 2 + 1, none⟩ u1).setCell ⟨wr.heap.size, 2 + 2, none⟩ u2).setCell ⟨wr.heap.size, 2 + 3, none⟩ u3).setCell ⟨wr.heap.size, 6, none⟩ u4).cell? ⟨w3.heap.size + 1 + 1, 1, none⟩ = some (.pointer (some ⟨hb', 0, none⟩)) ∧ (((((w8.setCell ⟨wr.heap.size, 2, none⟩ u0).setCell ⟨wr.heap.size, 2 + 1, none⟩ u1).setCell ⟨wr.heap.size, 2 + 2, none⟩ u2).setCell ⟨wr.heap.size, 2 + 3, none⟩ u3).setCell ⟨wr.heap.size, 6, none⟩ u4).cell? ⟨w3.heap.size + 1 + 1, 17, none⟩ = some (.int .i64 s.told.kind) ∧ (((((w8.setCell ⟨wr.heap.size, 2, none⟩ u0).setCell ⟨wr.heap.size, 2 + 1, none⟩ u1).setCell ⟨wr.heap.size, 2 + 2, none⟩ u2).setCell ⟨wr.heap.size, 2 + 3, none⟩ u3).setCell ⟨wr.heap.size, 6, none⟩ u4).cell? ⟨w3.heap.size + 1 + 1, 17 + 1, none⟩ = some (.int .i64 s.told.int) ∧ (((((w8.setCell ⟨wr.heap.size, 2, none⟩ u0).setCell ⟨wr.heap.size, 2 + 1, none⟩ u1).setCell ⟨wr.heap.size, 2 + 2, none⟩ u2).setCell ⟨wr.heap.size, 2 + 3, none⟩ u3).setCell ⟨wr.heap.size, 6, none⟩ u4).cell? ⟨w3.heap.size + 1 + 1, 17 + 2, none⟩ = some (.string s.told.text)) := fun u0 u1 u2 u3 u4 => ⟨(cell_set_block _ _ hmq).trans ((keep4 hmq).trans n1), (cell_set_block _ _ hmq).trans ((keep4 hmq).trans n17), (cell_set_block _ _ hmq).trans ((keep4 hmq).trans n18), (cell_set_block _ _ hmq).trans ((keep4 hmq).trans n19)⟩; have hbq8 := (hb78.block wr.heap.size hl9).trans HBQ.out; have HBQ8 := Lib.hid hbq8; obtain ⟨r0, r1, r2, r3, r4, r5, r6, r7, rf⟩ := Res8.of hbq8; have rf2 := rf 2; have rf3 := rf 3; have rf4 := rf 4; have rf5 := rf 5; have rf6 := rf 6; have hres8 := (hb78.block (w.heap.size + 1) hl8).trans HRES7.out; have HRES8 := Lib.hid hres8; obtain ⟨t0, t1, t2, t3, t4, t5, t6, t7, tf⟩ := Res8.of hres8; have tf0 := tf 0; have tf1 := tf 1; have tf2 := tf 2; have tf3 := tf 3; have tf4 := tf 4; have tf5 := tf 5; have tf6 := tf 6; have tf7 := tf 7; have hl88 : w.heap.size + 1 < w8.heap.size := Nat.lt_of_lt_of_le hl8 hb78.size; have hl98 : wr.heap.size < w8.heap.size := Nat.lt_of_lt_of_le hl9 hb78.size; have hm8 := X8.lt; clear hdt hb8 hde hb78 X8 hbq8 rf hres8 tf))
          all_goals
            go_wp2_with fail
            refine bodyPost_ret (res1 rfl _ _ (w.heap.size + 1) 33 _ (0, 0) rfl (out_set _ _ _ _ _ _ _ _ _ _ _ _ _ _ _ _ _ _ (five_at hn8 HRES8.out)) outcomeD outcomeSize) rfl ?_
            rw [HRA.out, if_pos hz, hz]
            have hb8 : Below w.heap.size w w8 := (HBB.out.trans (HB7.out.below.mono HBB.out.size)).trans (HB78.out.mono (by omega))
            have hq : w.heap.size ≤ wr.heap.size := by omega
            refine ⟨d, ad, cd, ?_, ?_, ?_, HDE.out⟩
            · rfl
            · refine HDT.out.same (fun b h1 h2 => ?_) ?_ fun b h1 h2 => ?_
              · have h3 : w7.heap.size ≤ b := h1
                omega
              · simp [World.setCell]
              · have h3 : w7.heap.size ≤ b := h1
                have e1 : b ≠ wr.heap.size := by omega
                have e2 : b ≠ w.heap.size + 1 := by omega
                rw [heap_setCell_other _ _ _ _ e2, heap_setCell_other _ _ _ _ e2, heap_setCell_other _ _ _ _ e2, heap_setCell_other _ _ _ _ e2, heap_setCell_other _ _ _ _ e2, heap_setCell_other _ _ _ _ e2, heap_setCell_other _ _ _ _ e2, heap_setCell_other _ _ _ _ e2, heap_setCell_other _ _ _ _ e1, heap_setCell_other _ _ _ _ e1, heap_setCell_other _ _ _ _ e1, heap_setCell_other _ _ _ _ e1, heap_setCell_other _ _ _ _ e1]
            · exact below8 (((((hb8.setCell (p := ⟨wr.heap.size, 2, none⟩) hq _).setCell (p := ⟨wr.heap.size, 3, none⟩) hq _).setCell (p := ⟨wr.heap.size, 4, none⟩) hq _).setCell (p := ⟨wr.heap.size, 5, none⟩) hq _).setCell (p := ⟨wr.heap.size, 6, none⟩) hq _) (Nat.le_succ _) _ _ _ _ _ _ _ _
        · have k1 : (s.e == 0) = false := beq_eq_false_iff_ne.2 hz
          obtain ⟨w7, B7⟩ := boxed wr #[.int .i64 s.e, .string ⟨s.out.toArray⟩, .int .i64 0, .int .i64 0, .string ⟨#[]⟩, .slice none 0 0, .bool false, .int .i64 done] 33
          have hs7 := B7.size
          have X7 := HX.out.bel B7.below
          have m10 : w7.cell? ⟨w3.heap.size + 1 + 1, 10, none⟩ = some (.int .i64 s.e) := X7.cell 10
          have hm7 := X7.lt
          have hres7 := (B7.below.block (w.heap.size + 1) hl7).trans HRES.out
          have hl8 : w.heap.size + 1 < w7.heap.size := by omega
          have hl9 : wr.heap.size < w7.heap.size := by omega
          have hn7 : wr.heap.size ≠ w.heap.size + 1 := by omega
          have hn8 : w.heap.size + 1 ≠ wr.heap.size := by omega
          have HRES7 := Lib.hid hres7
          have HB7 := Lib.hid B7
          obtain ⟨t0, t1, t2, t3, t4, t5, t6, t7, tf⟩ := Res8.of hres7
          have tf0 := tf 0
          have tf1 := tf 1
          have tf2 := tf 2
          have tf3 := tf 3
          have tf4 := tf 4
          have tf5 := tf 5
          have tf6 := tf 6
          have tf7 := tf 7
          obtain ⟨q0, q1, q2, q3, q4, q5, q6, q7, qf⟩ := Res8.of B7.blk
          clear hres7 tf qf B7 X7
          go_wp2_with fail
          go_region
          rw [← HB7.out.eq]
          go_wp2_with fail
          refine bodyPost_ret (res1 rfl _ _ (w.heap.size + 1) 33 _ (0, 0) rfl (drew_at (out_set _ _ _ _ _ _ _ _ _ _ _ _ _ _ _ _ _ _ HRES7.out)) outcomeD outcomeSize) rfl ?_
          rw [HRA.out, if_neg hz]
          refine ⟨.mk 0 0 ⟨#[]⟩ [], none, 0, ?_, .nil _ _ _, ?_, ?_⟩
          · rfl
          · exact (below8 (HBB.out.trans (HB7.out.below.mono HBB.out.size)) (Nat.le_succ _) _ _ _ _ _ _ _ _).drew
          · rfl
end
end Vm
end Go.Proofs.Ytalfnaielhbocaa
namespace Go.Proofs.Ytalfnaielhbocaa
open Go.RowKit
set_option linter.unusedVariables false
set_option linter.unusedSimpArgs false
namespace Vm
theorem run_far {c : Code} {inp : List UInt8} {steps : Int} (h : steps < 0 ∨ 1000000 < steps) : run c inp steps = ⟨1, ⟨#[]⟩, none, 0⟩ := by
  unfold run
  rw [if_pos h]
theorem run_form {c : Code} {inp : List UInt8} {steps : Int} (h : ¬ (steps < 0 ∨ 1000000 < steps)) (hc : chk c ≠ 0) : run c inp steps = ⟨chk c, ⟨#[]⟩, none, 0⟩ := by
  unfold run
  rw [if_neg h, if_pos hc]
theorem Run_any {w : World} {c : Code} (inp : List UInt8) (steps : Int) (al : Option Addr) (cl : Nat) (h1 : steps ≤ 800000 ∨ 1000000 < steps) (hcode : CodeAt w (.slice al c.length cl) c) (hlen : c.length ≤ 1000000000000000) (hfit : ∀ p ∈ c, PrcFit p) :
    Calls Try.prog 11 #[.agg #[.slice al c.length cl], .string ⟨inp.toArray⟩, .int .i64 steps] w (OutPost (run c inp steps) w) := by
  by_cases hs : steps < 0 ∨ 1000000 < steps
  · rw [run_far hs]
    exact Run_steps _ _ _ _ _ (by omega)
  · by_cases he : chk c = 0
    · obtain ⟨n, rfl⟩ : ∃ n : Nat, steps = n := ⟨steps.toNat, by omega⟩
      exact Run_good inp n al c.length cl (by omega) (chk_is al cl hcode hlen hfit) he (codeOk he hfit) hcode
    · rw [run_form hs he]
      exact Run_form _ _ _ _ _ (by omega) (by omega) (chk_is al cl hcode hlen hfit) he
def code1 (regs : Int) (l : List Ins) (x : Fin) : Code := [⟨0, 0, regs, [⟨l, x⟩]⟩]
def fxA : Code := code1 1 [⟨sConst, 0, [], .mk 1 5 ⟨#[]⟩ [], 0⟩] ⟨2, 0, [], 0, 0, 0⟩
def fxB : Code := code1 1 [] ⟨3, 0, [], 0, 0, 0⟩
def fxC : Code := code1 1 [] ⟨0, 0, [], 0, 0, 0⟩
theorem run_of {c : Code} {inp : List UInt8} {n : Nat} (h : n ≤ 1000000) (hc : chk c = 0) {s : St} {left : Nat} (hg : go c n (start c inp) = (s, left)) : run c inp n = ⟨s.e, ⟨s.out.toArray⟩, if s.e = 0 then Hp.tellT s.T s.told else none, (n : Int) - left⟩ := by
  unfold run
  rw [if_neg (by omega), if_neg (by rw [hc]; decide), Int.toNat_natCast, hg]
theorem tell_int (T : List Hp.Th) (n : Int) (h : isN n = true) : Hp.tellT T ⟨1, n, ⟨#[]⟩⟩ = some (.mk 1 n ⟨#[]⟩ []) := by
  have hm : Hp.may T.length ⟨1, n, ⟨#[]⟩⟩ = true := h
  rw [Hp.tellT, if_pos hm]
  rfl
theorem fxA_run : run fxA [] 10 = ⟨0, ⟨#[]⟩, some (.mk 1 5 ⟨#[]⟩ []), 2⟩ := by
  obtain ⟨s, left, h⟩ : ∃ s left, go fxA 10 (start fxA []) = (s, left) := ⟨_, _, rfl⟩
  have h1 : s.e = 0 := by rw [show s = (go fxA 10 (start fxA [])).1 by rw [h]]; decide +kernel
  have h2 : s.out = [] := by rw [show s = (go fxA 10 (start fxA [])).1 by rw [h]]; decide +kernel
  have h3 : left = 8 := by rw [show left = (go fxA 10 (start fxA [])).2 by rw [h]]; decide +kernel
  have h4 : s.told.kind = 1 ∧ s.told.int = 5 ∧ s.told.text = ⟨#[]⟩ := by rw [show s = (go fxA 10 (start fxA [])).1 by rw [h]]; decide +kernel
  have := run_of (c := fxA) (inp := []) (n := 10) (by decide) (by decide +kernel) h
  rw [show run fxA [] 10 = run fxA [] ((10 : Nat) : Int) from rfl, this, h1, h2, h3]
  have h5 : Hp.tellT s.T s.told = some (.mk 1 5 ⟨#[]⟩ []) := by
    have hv : s.told = ⟨1, 5, ⟨#[]⟩⟩ := by
      revert h4
      generalize s.told = v
      rintro ⟨h1, h2, h3⟩
      obtain ⟨a, b, c⟩ := v
      dsimp only at h1 h2 h3
      rw [h1, h2, h3]
    rw [hv]
    exact tell_int s.T 5 (by decide +kernel)
  rw [if_pos rfl, h5]
  rfl
theorem fxB_run : ∃ o st, run fxB [] 10 = ⟨90, o, none, st⟩ := by
  obtain ⟨s, left, h⟩ : ∃ s left, go fxB 10 (start fxB []) = (s, left) := ⟨_, _, rfl⟩
  have h1 : s.e = 90 := by rw [show s = (go fxB 10 (start fxB [])).1 by rw [h]]; decide +kernel
  have := run_of (c := fxB) (inp := []) (n := 10) (by decide) (by decide +kernel) h
  rw [h1, if_neg (by decide)] at this
  exact ⟨_, _, this⟩
theorem fxC_run : ∃ o st, run fxC [] 10 = ⟨93, o, none, st⟩ := by
  obtain ⟨s, left, h⟩ : ∃ s left, go fxC 10 (start fxC []) = (s, left) := ⟨_, _, rfl⟩
  have h1 : s.e = 93 := by rw [show s = (go fxC 10 (start fxC [])).1 by rw [h]]; decide +kernel
  have := run_of (c := fxC) (inp := []) (n := 10) (by decide) (by decide +kernel) h
  rw [h1, if_neg (by decide)] at this
  exact ⟨_, _, this⟩
end Vm
end Go.Proofs.Ytalfnaielhbocaa
namespace Go.Proofs.Ytalfnaielhbocaa
open Go.RowKit
set_option linter.unusedVariables false
set_option linter.unusedSimpArgs false
set_option maxRecDepth 100000
namespace Vm
theorem codeD : ∃ fs, Try.prog.underlying 24 = some (.struct fs) := ⟨_, Try.underlying24⟩
theorem codeSize : (Try.prog.info? 24).map (·.size) = some 1 := by kernel_rfl
theorem row_one {α : Type} {w : World} {size b : Nat} {x : α} {R : α → Nat → Nat → Prop} (hb : b < w.heap.size) (h : R x b 0) : Row w (.slice (some ⟨b, 0, none⟩) 1 1) size [x] R :=
  ⟨_, 1, rfl, .inr ⟨b, 0, rfl, hb, fun j y hy => by
    cases j with
    | zero =>
      simp at hy
      subst hy
      rw [Nat.zero_mul]
      exact h
    | succ j => simp at hy⟩⟩
set_option maxHeartbeats 4000000 in
theorem one_any (regs : Int) (l : List Ins) (al : Option Addr) (cl : Nat) (x : Fin) (aa : Option Addr) (ca : Nat) (w : World) (hl : Row w (.slice al l.length cl) 8 l (InsC w)) (ha : Sl w (.slice aa x.args.length ca) (ints x.args)) :
    Calls Try.prog 17 #[.int .i64 regs, .slice al l.length cl, finV x (.slice aa x.args.length ca)] w fun e w' => ∃ b, e = .returned (.agg #[.slice (some ⟨b, 0, none⟩) 1 1]) ∧ CodeAt w' (.slice (some ⟨b, 0, none⟩) 1 1) (code1 regs l x) ∧ Below w.heap.size w w' := by
  have HL := Lib.hid hl
  have HA := Lib.hid ha
  clear hl ha
  unfold finV
  go_enter Try.func17, Try.ntmps17
  go_wp2_with fail
  generalize hW2 : (w.alloc (Obj.cells #[.int .i64 x.kind, .int .i64 x.reg, .slice aa x.args.length ca, .int .i64 x.to, .int .i64 x.next, .int .i64 x.els] 45)).alloc (Obj.cells #[.slice (some ⟨w.heap.size + 1 + 1 + 1, 0, none⟩) 1 1] 24) = W2
  have hs2 : W2.heap.size = w.heap.size + 1 + 1 := by rw [← hW2]; simp
  have hb2 : Below w.heap.size w W2 := by rw [← hW2]; exact ((Below.refl _ _).alloc (Nat.le_refl _) _).alloc (by simp) _
  have hc2 : W2.heap[w.heap.size + 1]? = some (.cells #[.slice (some ⟨w.heap.size + 1 + 1 + 1, 0, none⟩) 1 1] 24 (0, 0)) := by rw [← hW2]; exact heap_new (by simp)
  clear hW2
  generalize hW3 : W2.alloc (Obj.cells #[.slice al l.length cl, .int .i64 x.kind, .int .i64 x.reg, .slice aa x.args.length ca, .int .i64 x.to, .int .i64 x.next, .int .i64 x.els] 48) = W3
  have hs3 : W3.heap.size = w.heap.size + 1 + 1 + 1 := by rw [← hW3]; simp [hs2]
  have hb3 : Below W2.heap.size W2 W3 := by rw [← hW3]; exact (Below.refl _ _).alloc (Nat.le_refl _) _
  have hc3 : W3.heap[w.heap.size + 1 + 1]? = some (.cells #[.slice al l.length cl, .int .i64 x.kind, .int .i64 x.reg, .slice aa x.args.length ca, .int .i64 x.to, .int .i64 x.next, .int .i64 x.els] 48 (0, 0)) := by rw [← hW3]; exact heap_new (by rw [hs2])
  clear hW3
  generalize hW4 : W3.alloc (Obj.cells #[.int .i64 0, .int .i64 0, .int .i64 regs, .slice (some ⟨w.heap.size + 1 + 1, 0, none⟩) 1 1] 40) = W4
  have hs4 : W4.heap.size = w.heap.size + 1 + 1 + 1 + 1 := by rw [← hW4]; simp [hs3]
  have hb4 : Below W3.heap.size W3 W4 := by rw [← hW4]; exact (Below.refl _ _).alloc (Nat.le_refl _) _
  have hc4 : W4.heap[w.heap.size + 1 + 1 + 1]? = some (.cells #[.int .i64 0, .int .i64 0, .int .i64 regs, .slice (some ⟨w.heap.size + 1 + 1, 0, none⟩) 1 1] 40 (0, 0)) := by rw [← hW4]; exact heap_new (by rw [hs3])
  clear hW4
  have hb : Below w.heap.size w W4 := (hb2.trans (hb3.mono hb2.size)).trans (hb4.mono (by omega))
  have hq2 : W4.heap[w.heap.size + 1]? = some (.cells #[.slice (some ⟨w.heap.size + 1 + 1 + 1, 0, none⟩) 1 1] 24 (0, 0)) := (hb4.block _ (by omega)).trans ((hb3.block _ (by omega)).trans hc2)
  have hq3 := (hb4.block (w.heap.size + 1 + 1) (by omega)).trans hc3
  refine bodyPost_ret (res1 rfl _ _ (w.heap.size + 1) 24 _ (0, 0) rfl hq2 codeD codeSize) rfl ?_
  refine ⟨w.heap.size + 1 + 1 + 1, rfl, row_one (by omega) ⟨cell_of_row _ _ 0 _ _ _ hc4, cell_of_row _ _ 1 _ _ _ hc4, cell_of_row _ _ 2 _ _ _ hc4, _, cell_of_row _ _ 3 _ _ _ hc4, row_one (by omega) ?_⟩, hb⟩
  exact ⟨⟨_, cell_of_row _ _ 0 _ _ _ hq3, HL.out.mono hb.size fun y _ b o hlt h => h.bel hb hlt⟩, cell_of_row _ _ 1 _ _ _ hq3, cell_of_row _ _ 2 _ _ _ hq3, ⟨_, cell_of_row _ _ 3 _ _ _ hq3, HA.out.below hb (Nat.le_refl _)⟩, cell_of_row _ _ 4 _ _ _ hq3, cell_of_row _ _ 5 _ _ _ hq3, cell_of_row _ _ 6 _ _ _ hq3⟩
theorem lnum_any (n : Int) (w : World) : Calls Try.prog 16 #[.int .i64 n] w fun e w' => e = .returned (.agg #[.int .i64 1, .int .i64 n, .string ⟨#[]⟩, .slice none 0 0]) ∧ Below w.heap.size w w' := by
  go_enter Try.func16, Try.ntmps16
  go_wp2_with fail
  refine bodyPost_ret (res1 rfl _ _ w.heap.size 31 _ (0, 0) rfl (heap_new (by simp)) datumD datumSize) rfl ?_
  exact ⟨rfl, (Below.refl _ _).alloc (Nat.le_refl _) _⟩
end Vm
end Go.Proofs.Ytalfnaielhbocaa
namespace Go.Proofs.Ytalfnaielhbocaa
open Go.RowKit
set_option linter.unusedVariables false
set_option linter.unusedSimpArgs false
set_option maxRecDepth 100000
namespace Vm
theorem fit_leaf (k i : Int) (t : ByteArray) (h : t.size ≤ maxLen) : Dt.Fit (.mk k i t []) := .mk k i t [] h (by simp) (by simp)
theorem fxA_fit : ∀ p ∈ fxA, PrcFit p := by
  intro p hp
  simp [fxA, code1] at hp
  subst hp
  refine ⟨by decide, fun b hb => ?_⟩
  simp at hb
  subst hb
  refine ⟨by decide, by decide, fun x hx => ?_⟩
  simp at hx
  subst hx
  exact ⟨by decide, fit_leaf _ _ _ (by decide)⟩
theorem fx0_fit (x : Fin) (hx : x.args.length ≤ 9223372036854775807) : ∀ p ∈ code1 1 [] x, PrcFit p := by
  intro p hp
  simp [code1] at hp
  subst hp
  refine ⟨by simp, fun b hb => ?_⟩
  simp at hb
  subst hb
  exact ⟨by simp, hx, fun x hx => by simp at hx⟩
theorem sl_nil (w : World) : Sl w (.slice none 0 0) (ints []) := ⟨none, 0, rfl, .inl ⟨rfl, rfl, rfl⟩⟩
theorem row_nil {α : Type} (w : World) (size : Nat) (R : α → Nat → Nat → Prop) : Row w (.slice none 0 0) size ([] : List α) R := ⟨none, 0, rfl, .inl rfl⟩
abbrev outV (e : Int) (o : ByteArray) (k i : Int) (t : ByteArray) (lv : Value) (ok : Bool) (n : Int) : Value := .agg #[.int .i64 e, .string o, .int .i64 k, .int .i64 i, .string t, lv, .bool ok, .int .i64 n]
theorem fx_oneA (w : World) : Calls Try.prog 17 #[.int .i64 1, .slice (some ⟨w.heap.size, 0, none⟩) 1 1, .agg #[.int .i64 2, .int .i64 0, .slice none 0 0, .int .i64 0, .int .i64 0, .int .i64 0]]
    (w.alloc (.cells #[.string ⟨#[99, 111, 110, 115, 116]⟩, .int .i64 0, .slice none 0 0, .int .i64 1, .int .i64 5, .string ⟨#[]⟩, .slice none 0 0, .int .i64 0] 55)) fun e w' => ∃ b, e = .returned (.agg #[.slice (some ⟨b, 0, none⟩) 1 1]) ∧ CodeAt w' (.slice (some ⟨b, 0, none⟩) 1 1) fxA ∧ Below w.heap.size w w' := by
  generalize hW : w.alloc (.cells #[.string ⟨#[99, 111, 110, 115, 116]⟩, .int .i64 0, .slice none 0 0, .int .i64 1, .int .i64 5, .string ⟨#[]⟩, .slice none 0 0, .int .i64 0] 55) = W
  have hs : W.heap.size = w.heap.size + 1 := by rw [← hW]; simp
  have hb : Below w.heap.size w W := by rw [← hW]; exact (Below.refl _ _).alloc (Nat.le_refl _) _
  have hc : W.heap[w.heap.size]? = some (.cells #[.string ⟨#[99, 111, 110, 115, 116]⟩, .int .i64 0, .slice none 0 0, .int .i64 1, .int .i64 5, .string ⟨#[]⟩, .slice none 0 0, .int .i64 0] 55 (0, 0)) := by rw [← hW]; exact heap_new rfl
  clear hW
  have hrow : Row W (.slice (some ⟨w.heap.size, 0, none⟩) 1 1) 8 [(⟨sConst, 0, [], .mk 1 5 ⟨#[]⟩ [], 0⟩ : Ins)] (InsC W) :=
    row_one (by omega) ⟨cell_of_row _ _ 0 _ _ _ hc, cell_of_row _ _ 1 _ _ _ hc, ⟨_, cell_of_row _ _ 2 _ _ _ hc, sl_nil _⟩, cell_of_row _ _ 3 _ _ _ hc, cell_of_row _ _ 4 _ _ _ hc, cell_of_row _ _ 5 _ _ _ hc, ⟨_, cell_of_row _ _ 6 _ _ _ hc, .nil _ _ _⟩, cell_of_row _ _ 7 _ _ _ hc⟩
  refine Calls.mono (one_any 1 [⟨sConst, 0, [], .mk 1 5 ⟨#[]⟩ [], 0⟩] _ 1 ⟨2, 0, [], 0, 0, 0⟩ none 0 W hrow (sl_nil _)) ?_
  rintro e w' ⟨b, rfl, h1, h2⟩
  exact ⟨b, rfl, h1, hb.trans (h2.mono (by omega))⟩
theorem fx_one0 (k : Int) (w : World) : Calls Try.prog 17 #[.int .i64 1, .slice none 0 0, .agg #[.int .i64 k, .int .i64 0, .slice none 0 0, .int .i64 0, .int .i64 0, .int .i64 0]] w fun e w' => ∃ b, e = .returned (.agg #[.slice (some ⟨b, 0, none⟩) 1 1]) ∧ CodeAt w' (.slice (some ⟨b, 0, none⟩) 1 1) (code1 1 [] ⟨k, 0, [], 0, 0, 0⟩) ∧ Below w.heap.size w w' :=
  one_any 1 [] none 0 ⟨k, 0, [], 0, 0, 0⟩ none 0 w (row_nil _ _ _) (sl_nil _)
theorem fx_runA (b : Nat) (w : World) (h : CodeAt w (.slice (some ⟨b, 0, none⟩) 1 1) fxA) : Calls Try.prog 11 #[.agg #[.slice (some ⟨b, 0, none⟩) 1 1], .string ⟨#[]⟩, .int .i64 10] w
    fun e w' => ∃ a c, e = .returned (outV 0 ⟨#[]⟩ 1 5 ⟨#[]⟩ (.slice a 0 c) true 2) ∧ DtAt w' (fun b => w.heap.size ≤ b) (.agg #[.int .i64 1, .int .i64 5, .string ⟨#[]⟩, .slice a 0 c]) (.mk 1 5 ⟨#[]⟩ []) ∧ Below w.heap.size w w' := by
  have hl : fxA.length ≤ 1000000000000000 := by simp [fxA, code1]
  have H := Run_any [] 10 (some ⟨b, 0, none⟩) 1 (.inl (by decide)) h hl fxA_fit
  have e1 : fxA.length = 1 := rfl
  rw [e1] at H
  refine H.mono ?_
  rintro e w' ⟨d, a, c, rfl, hd, hb, hr⟩
  rw [fxA_run] at hr ⊢
  simp only [Option.getD_some] at hr
  subst hr
  exact ⟨a, c, rfl, hd, hb⟩
theorem fx_run0 (x : Fin) (hx : x.args.length ≤ 9223372036854775807) (E : Int) (hr : ∃ o st, run (code1 1 [] x) [] 10 = ⟨E, o, none, st⟩) (b : Nat) (w : World) (h : CodeAt w (.slice (some ⟨b, 0, none⟩) 1 1) (code1 1 [] x)) : Calls Try.prog 11 #[.agg #[.slice (some ⟨b, 0, none⟩) 1 1], .string ⟨#[]⟩, .int .i64 10] w
    fun e w' => ∃ o k i t la ln lc n, e = .returned (outV E o k i t (.slice la ln lc) false n) ∧ Below w.heap.size w w' := by
  obtain ⟨o, st, hr⟩ := hr
  have hl : (code1 1 [] x).length ≤ 1000000000000000 := by simp [code1]
  have H := Run_any [] 10 (some ⟨b, 0, none⟩) 1 (.inl (by decide)) h hl (fx0_fit x hx)
  have e1 : (code1 1 [] x).length = 1 := rfl
  rw [e1] at H
  refine H.mono ?_
  rintro e w' ⟨d, a, c, rfl, hd, hb, hd2⟩
  rw [hr]
  exact ⟨o, _, _, _, _, _, _, st, rfl, hb⟩
theorem chk_nil (w : World) : Calls Try.prog 9 #[.agg #[.slice none 0 0]] w fun e w' => e = .returned (.int .i64 150) ∧ Below w.heap.size w w' :=
  Check_any (c := []) none 0 (row_nil _ _ _) (by decide) (fun p hp => by simp at hp)
abbrev FxS (w : World) (b1 b2 b3 : Nat) (lv : Value) : Prop := w.cell? ⟨b1, 0, none⟩ = some (.int .i64 0) ∧ w.cell? ⟨b1, 6, none⟩ = some (.bool true) ∧ w.cell? ⟨b1, 2, none⟩ = some (.int .i64 1) ∧ w.cell? ⟨b1, 3, none⟩ = some (.int .i64 5) ∧ w.cell? ⟨b1, 4, none⟩ = some (.string ⟨#[]⟩) ∧ w.cell? ⟨b1, 5, none⟩ = some lv ∧ w.cell? ⟨b1, 7, none⟩ = some (.int .i64 2) ∧ w.cell? ⟨b2, 0, none⟩ = some (.int .i64 90) ∧ w.cell? ⟨b3, 0, none⟩ = some (.int .i64 93)
theorem FxS.bel {w w' : World} {b1 b2 b3 : Nat} {lv : Value} (h : FxS w b1 b2 b3 lv) (hb : Below w.heap.size w w') (h1 : b1 < w.heap.size ∧ b2 < w.heap.size ∧ b3 < w.heap.size) : FxS w' b1 b2 b3 lv := by
  obtain ⟨l1, l2, l3⟩ := h1
  obtain ⟨c0, c1, c2, c3, c4, c5, c6, c7, c8⟩ := h
  exact ⟨(cell_bel hb l1).trans c0, (cell_bel hb l1).trans c1, (cell_bel hb l1).trans c2, (cell_bel hb l1).trans c3, (cell_bel hb l1).trans c4, (cell_bel hb l1).trans c5, (cell_bel hb l1).trans c6, (cell_bel hb l2).trans c7, (cell_bel hb l3).trans c8⟩
set_option maxHeartbeats 8000000 in
theorem fixed_any (w : World) : Calls Try.prog 8 #[] w fun e w' => e = .returned (.bool true) ∧ Below w.heap.size w w' := by
  have HFXB : Hid (∃ o st, run (code1 1 [] ⟨3, 0, [], 0, 0, 0⟩) [] 10 = ⟨90, o, none, st⟩) := fxB_run
  have HFXC : Hid (∃ o st, run (code1 1 [] ⟨0, 0, [], 0, 0, 0⟩) [] 10 = ⟨93, o, none, st⟩) := fxC_run
  go_enter Try.func8, Try.ntmps8
  go_wp2_with fail
  with_reducible refine (lnum_any 5 _).mono ?_
  rintro e w1 ⟨rfl, hb1⟩
  have HB1 := Lib.hid hb1
  clear hb1
  go_wp2_with fail
  with_reducible refine (fx_oneA w1).mono ?_
  rintro e w2 ⟨b2, rfl, hc2, hb2⟩
  have HC2 := Lib.hid hc2
  have HB2 := Lib.hid (HB1.out.trans (hb2.mono HB1.out.size))
  clear hb2 hc2
  go_wp2_with fail
  with_reducible refine (fx_runA b2 w2 HC2.out).mono ?_
  rintro e w3 ⟨a3, c3, rfl, hd3, hb3⟩
  have HD3 := Lib.hid hd3
  have HB3 := Lib.hid (HB2.out.trans (hb3.mono HB2.out.size))
  clear hb3 hd3
  obtain ⟨w4, B4⟩ := boxed w3 #[.int .i64 0, .string ⟨#[]⟩, .int .i64 1, .int .i64 5, .string ⟨#[]⟩, .slice a3 0 c3, .bool true, .int .i64 2] 33
  have HX4 := Lib.hid B4
  have HQ4 := Lib.hid B4.below
  have hs4 := B4.size
  clear B4
  go_wp2_with fail
  rw [← HX4.out.eq]
  with_reducible refine (fx_one0 3 w4).mono ?_
  rintro e w5 ⟨b5, rfl, hc5, hb5⟩
  have HC5 := Lib.hid hc5
  have HQ5 := Lib.hid (HQ4.out.trans (hb5.mono HQ4.out.size))
  have HR5 := Lib.hid hb5
  have HL5 : Hid (w3.heap.size + 1 ≤ w5.heap.size) := by have := hb5.size; exact (by omega : w3.heap.size + 1 ≤ w5.heap.size)
  clear hc5 hb5
  go_wp2_with fail
  with_reducible refine (fx_run0 ⟨3, 0, [], 0, 0, 0⟩ (by decide) 90 HFXB.out b5 w5 HC5.out).mono ?_
  rintro e w6 ⟨o6, k6, i6, t6, la6, ln6, lc6, n6, rfl, hb6⟩
  have HQ6 := Lib.hid (HQ5.out.trans (hb6.mono HQ5.out.size))
  have HR6 := Lib.hid (HR5.out.trans (hb6.mono HR5.out.size))
  have HL6 : Hid (w3.heap.size + 1 ≤ w6.heap.size) := Nat.le_trans HL5.out hb6.size
  clear hb6
  obtain ⟨w7, B7⟩ := boxed w6 #[.int .i64 90, .string o6, .int .i64 k6, .int .i64 i6,   .string t6, .slice la6 ln6 lc6, .bool false, .int .i64 n6] 33
  have HX7 := Lib.hid B7
  have HQ7 := Lib.hid (HQ6.out.trans (B7.below.mono HQ6.out.size))
  have hs7 := B7.size
  clear B7
  go_wp2_with fail
  rw [← HX7.out.eq]
  with_reducible refine (fx_one0 0 w7).mono ?_
  rintro e w8 ⟨b8, rfl, hc8, hb8⟩
  have HC8 := Lib.hid hc8
  have HB8 := Lib.hid hb8
  clear hc8 hb8
  go_wp2_with fail
  with_reducible refine (fx_run0 ⟨0, 0, [], 0, 0, 0⟩ (by decide) 93 HFXC.out b8 w8 HC8.out).mono ?_
  rintro e w9 ⟨o9, k9, i9, t9, la9, ln9, lc9, n9, rfl, hb9⟩
  have HB9 := Lib.hid (HB8.out.trans (hb9.mono HB8.out.size))
  have HL9 : Hid (w6.heap.size + 1 ≤ w9.heap.size) := by have := HB9.out.size; exact (by omega : w6.heap.size + 1 ≤ w9.heap.size)
  clear hb9
  obtain ⟨w10, B10⟩ := boxed w9 #[.int .i64 93, .string o9, .int .i64 k9, .int .i64 i9,   .string t9, .slice la9 ln9 lc9, .bool false, .int .i64 n9] 33
  have HX10 := Lib.hid B10
  have HB10 := Lib.hid (HB9.out.trans (B10.below.mono HB9.out.size))
  have hs10 := B10.size
  clear B10
  have HQ10 := Lib.hid (HQ7.out.trans (HB10.out.mono HQ7.out.size))
  have HFS : Hid (FxS w10 w3.heap.size w6.heap.size w9.heap.size (.slice a3 0 c3)) := by
    have l6 := HL6.out
    have l9 := HL9.out
    have q1 : w10.heap[w3.heap.size]? = _ := (HX10.out.below.block _ (by omega)).trans ((HB9.out.block _ (by omega)).trans ((HX7.out.below.block _ (by omega)).trans ((HR6.out.block _ (by omega)).trans HX4.out.blk)))
    have q2 : w10.heap[w6.heap.size]? = _ := (HX10.out.below.block _ (by omega)).trans ((HB9.out.block _ (by omega)).trans HX7.out.blk)
    have q3 := HX10.out.blk
    exact ⟨cell_of_row _ _ 0 _ _ _ q1, cell_of_row _ _ 6 _ _ _ q1, cell_of_row _ _ 2 _ _ _ q1, cell_of_row _ _ 3 _ _ _ q1, cell_of_row _ _ 4 _ _ _ q1, cell_of_row _ _ 5 _ _ _ q1, cell_of_row _ _ 7 _ _ _ q1, cell_of_row _ _ 0 _ _ _ q2, cell_of_row _ _ 0 _ _ _ q3⟩
  have HL10 : Hid (w3.heap.size < w10.heap.size ∧ w6.heap.size < w10.heap.size ∧ w9.heap.size < w10.heap.size) := by
    have := HL6.out
    have := HL9.out
    exact ⟨by omega, by omega, by omega⟩
  have HSH : Hid (Dt.Short (.mk 1 5 ⟨#[]⟩ [])) := Dt.short_of (by simp [Dt.nodes, Dt.nodess])
  have HD10 : Hid (DtAt w10 (fun b => w2.heap.size ≤ b) (.agg #[.int .i64 1, .int .i64 5, .string ⟨#[]⟩, .slice a3 0 c3]) (.mk 1 5 ⟨#[]⟩ [])) := HD3.out.bel HQ10.out (Nat.le_refl _)
  have HB10w := Lib.hid (HB3.out.trans (HQ10.out.mono HB3.out.size))
  clear HX4 HX7 HQ4 HQ5 HR5 HQ6 HR6 HQ7 HB8 HB9 HB10 HQ10 HD3 HL5 HL6 HL9 HC2 HC5 HC8 HB1 HB2 HB3
  go_wp2_with fail
  rw [← HX10.out.eq]
  go_region_held3 (fun w' => w'.cell? ⟨w3.heap.size, 0, none⟩ = some (.int .i64 0) ∧ w'.cell? ⟨w3.heap.size, 6, none⟩ = some (.bool true) ∧ w'.cell? ⟨w3.heap.size, 2, none⟩ = some (.int .i64 1) ∧ w'.cell? ⟨w3.heap.size, 3, none⟩ = some (.int .i64 5) ∧ w'.cell? ⟨w3.heap.size, 4, none⟩ = some (.string ⟨#[]⟩) ∧ w'.cell? ⟨w3.heap.size, 5, none⟩ = some (.slice a3 0 c3) ∧ w'.cell? ⟨w3.heap.size, 7, none⟩ = some (.int .i64 2) ∧ w'.cell? ⟨w6.heap.size, 0, none⟩ = some (.int .i64 90) ∧ w'.cell? ⟨w9.heap.size, 0, none⟩ = some (.int .i64 93))
    (first | with_reducible exact HFS.out | with_reducible exact HF11.out | with_reducible exact HF12.out | with_reducible exact HF13.out | exact HFS.out)
    (first
      | (go_at_call 16; (with_reducible refine (lnum_any 5 _).mono ?_); rintro e w11 ⟨rfl, hb11⟩; have hb11' := (below_drewN (Below.refl w10.heap.size w10) 1).trans hb11; have HB11 := Lib.hid hb11'; have HF11 := Lib.hid (FxS.bel HFS.out hb11' HL10.out); clear hb11 hb11')
      | (go_at_call 15; (with_reducible refine (same_any (.mk 1 5 ⟨#[]⟩ []) (.mk 1 5 ⟨#[]⟩ []) _ _ w11 HSH.out HSH.out ((HD10.out.bel HB11.out (Nat.le_refl _)).mono fun _ _ _ => trivial) (.nil _ _ _)).mono ?_); rintro e w12 ⟨rfl, hb12⟩; have hb12' := HB11.out.trans (hb12.mono HB11.out.size); have HB12 := Lib.hid hb12'; have HF12 := Lib.hid (FxS.bel HFS.out hb12' HL10.out); clear hb12 hb12')
      | (go_at_call 9; (with_reducible refine (chk_nil w12).mono ?_); rintro e w13 ⟨rfl, hb13⟩; have hb13' := HB12.out.trans (hb13.mono HB12.out.size); have HB13 := Lib.hid hb13'; have HF13 := Lib.hid (FxS.bel HFS.out hb13' HL10.out); clear hb13 hb13'))
  go_wp2_with fail
  go_ret
  exact ⟨rfl, HB10w.out.trans (HB13.out.mono HB10w.out.size)⟩
end Vm
end Go.Proofs.Ytalfnaielhbocaa
namespace Go.Proofs.Ytalfnaielhbocaa
open Go.RowKit
set_option linter.unusedVariables false
set_option linter.unusedSimpArgs false
set_option maxRecDepth 100000
namespace Vm
structure LawIn (W : World) (al : Option Addr) (cl : Nat) (c : Code) : Prop where
  at' : CodeAt W (.slice al c.length cl) c
  len : c.length ≤ 1000000000000000
  fit : ∀ p ∈ c, PrcFit p
theorem LawIn.run {W w : World} {al : Option Addr} {cl : Nat} {c : Code} (h : LawIn W al cl c) (hb : Below W.heap.size W w) (l : List UInt8) (n : Int) (hn : n ≤ 800000 ∨ 1000000 < n) :
    Calls Try.prog 11 #[.agg #[.slice al c.length cl], .string ⟨l.toArray⟩, .int .i64 n] w (OutPost (run c l n) w) :=
  Run_any l n al cl hn (h.at'.bel hb) h.len h.fit
structure OutB (w : World) (g : Nat) (o : Out) (d : Dt) (lv : Value) : Prop where
  blk : w.heap[g]? = some (.cells (outCells o.e o.out d lv o.shown.isSome o.steps) 33 (0, 0))
  dt : DtAt w (fun _ => True) (.agg #[.int .i64 d.kind, .int .i64 d.int, .string d.text, lv]) d
theorem OutB.bel {w w' : World} {g : Nat} {o : Out} {d : Dt} {lv : Value} (h : OutB w g o d lv) (hb : Below w.heap.size w w') : OutB w' g o d lv :=
  ⟨(hb.block g (Array.getElem?_eq_some_iff.1 h.blk).1).trans h.blk, h.dt.bel hb (Nat.le_refl _)⟩
theorem OutB.lt {w : World} {g : Nat} {o : Out} {d : Dt} {lv : Value} (h : OutB w g o d lv) : g < w.heap.size := (Array.getElem?_eq_some_iff.1 h.blk).1
theorem OutB.c {w : World} {g : Nat} {o : Out} {d : Dt} {lv : Value} (h : OutB w g o d lv) : Res8 w g (.int .i64 o.e) (.string o.out) (.int .i64 d.kind) (.int .i64 d.int) (.string d.text) lv (.bool o.shown.isSome) (.int .i64 o.steps) := Res8.of h.blk
end Vm
end Go.Proofs.Ytalfnaielhbocaa
