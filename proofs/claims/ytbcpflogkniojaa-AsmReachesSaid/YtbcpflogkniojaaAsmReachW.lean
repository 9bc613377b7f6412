/- AsmReaches, walked. -/
import Derived.Test.YtbcpflogkniojaaAsmRq
import Derived.Deep.DeepCutAuto
namespace Go.Proofs.Ytbcpflogkniojaa
open Go.RowKit
set_option linter.unusedVariables false
set_option linter.unusedSimpArgs false
set_option maxHeartbeats 16000000 in
set_option maxRecDepth 100000 in
theorem reaches_walk (al : Option Addr) (cap : Nat) (l : List As.It) (W : World) (hm : ISl W (.slice al l.length cap) l) (hlen : l.length ≤ 9223372036854775807) :
    Calls Try.prog 4 #[.slice al l.length cap] W fun e W' => e = .returned (.bool true) ∧ Below W.heap.size W W' := by
  have HM := Lib.hid hm
  clear hm
  obtain ⟨i0, hi, hz0, hz1, hz2⟩ := info_parts infoInt
  have HI := Lib.hid hi
  have HZ0 := Lib.hid hz0
  have HZ1 := Lib.hid hz1
  have HZ2 := Lib.hid hz2
  clear hi hz0 hz1 hz2
  by_cases he : As.err l = 0
  case neg =>
    have hq1 : (As.err l == 0) = false := beq_eq_false_iff_ne.2 he
    have hq2 : (As.err l != 0) = true := by rw [bne_iff_ne]; exact he
    have HE := Lib.hid he
    obtain ⟨E, hE⟩ : ∃ E, As.err l = E := ⟨_, rfl⟩
    rw [hE] at hq1 hq2
    have HEE := Lib.hid hE
    clear he hE
    go_enter Try.func4, Try.ntmps4
    go_wp2_with fail
    with_reducible refine (assemble_any al cap l _ HM.out hlen).mono ?_
    intro e w1 h1
    obtain ⟨hb1, rfl⟩ := h1.bad HE.out
    rw [HEE.out]
    have B1 := Lib.hid hb1
    clear h1 hb1
    go_wp2_with fail
    with_reducible refine (fixed_any _).mono ?_
    rintro e w2 ⟨rfl, hb2⟩
    have B2 := Lib.hid (B1.out.trans (hb2.mono B1.out.size))
    clear hb2
    go_wp2_with fail
    with_reducible refine (fixed_any _).mono ?_
    rintro e w3 ⟨rfl, hb3⟩
    have B3 := Lib.hid (B2.out.trans (hb3.mono B2.out.size))
    clear hb3
    go_wp2_with fail
    go_ret
    exact ⟨rfl, B3.out⟩
  case pos =>
    have HE := Lib.hid he
    have HG := Lib.hid (As.good_of he)
    clear he
    have h64 : l.length ≤ 65536 := HG.out.len
    go_enter Try.func4, Try.ntmps4
    go_wp2_with fail
    with_reducible refine (assemble_any al cap l _ HM.out hlen).mono ?_
    intro e w1 h1
    obtain ⟨hb1, ac, ap, cc, cp, rfl, hc, hp⟩ := h1.ok HE.out
    have B1 := Lib.hid hb1
    have HC := Lib.hid hc
    have HP := Lib.hid hp
    have HM1 := Lib.hid (HM.out.below hb1 (Nat.le_refl _))
    clear h1 hb1 hc hp
    go_wp2_with fail
    with_reducible refine (fixed_any _).mono ?_
    rintro e w2 ⟨rfl, hb2⟩
    have HC2 := Lib.hid (HC.out.below hb2 (Nat.le_refl _))
    have HP2 := Lib.hid (HP.out.below hb2 (Nat.le_refl _))
    have HM2 := Lib.hid (HM1.out.below hb2 (Nat.le_refl _))
    have B2 := Lib.hid (B1.out.trans (hb2.mono B1.out.size))
    have hw2 : W.heap.size ≤ w2.heap.size := B2.out.size
    clear hb2 HC HP HM1 B1
    go_wp2_with fail
    go_loopg [6, 7] l.length (fun gk lv i wx => ∃ (k : Nat) (vv : Value), k ≤ l.length ∧ gk = l.length - k ∧ i = .int .i64 k ∧ vv = lv ∧ wx.ownsRow w2.heap.size 3 1 vv (As.labs l k).length (idx (As.labs l k)) ∧ Below w2.heap.size w2 wx)
    case atStart => exact ⟨0, _, Nat.zero_le _, rfl, rfl, rfl, World.ownsRow_lit _ _ _ (Nat.le_refl _) (Nat.zero_le _) rfl, (Below.refl _ _).alloc (Nat.le_refl _) _⟩
    case round =>
      obtain ⟨k, lv, hk, rfl, rfl, rfl, hown, hb⟩ := hrel
      have HO := Lib.hid hown
      have HB := Lib.hid hb
      have hws : w2.heap.size ≤ wr.heap.size := hb.size
      by_cases hlt : k < l.length
      · obtain ⟨x, hx⟩ : ∃ x, l[k]? = some x := ⟨_, List.getElem?_eq_getElem hlt⟩
        have hne : l ≠ [] := by intro e; rw [e] at hlt; simp at hlt
        obtain ⟨bl, off, hal, hbl, hat⟩ := (HM2.out.below hb (Nat.le_refl _)).at hne
        subst hal
        have d0 := (hat k x hx).c0
        have HLS := Lib.hid (As.labs_succ hx)
        have HLL := As.labs_length l k
        have hg1 : (0 : Int) ≤ k := by omega
        have hg2 : (k : Int) < l.length := by omega
        have hgw : IntKind.i64.wrap ((k : Int) + 1) = k + 1 := by rw [IntKind.wrap_i64]; omega
        clear hat hx hown hb
        by_cases hk1 : x.kind = 1
        · rw [hk1] at d0
          go_wp2_with (first | (at_builtin; refine wpList_append_lies _ rfl (.tmp 47) (.tmp 49) 25 rfl w2.heap.size 3 i0 (.int .i64 0) 1 8 Try.underlying25 HI.out HZ0.out HZ1.out HZ2.out rfl (by decide) lv (As.labs l k).length (idx (As.labs l k)) rfl (HO.out.alloc _) ⟨wr.heap.size, 0, none⟩ 1 1 [.int .i64 (k : Nat)] rfl rfl (new_cells _ (heap_new (by simp))) (by simp [Value.oneCell']) (by decide) (by simp only [maxLen]; omega) (by omega) (by simp; omega) (wr.heap.size + 1) (by simp) ?_; intro g5 c5 w5 hown5 hgr5 hat5 hlt5; have HO5 := Lib.hid hown5; have HG5 := Lib.hid hgr5; clear hown5 hgr5 hat5) | fail)
          go_roundg (l.length - (k + 1))
          case measure => omega
          case rel => exact ⟨k + 1, _, by omega, rfl, by go_num, rfl, by rw [HLS.out, if_pos hk1, List.length_append, idx, List.map_append]; exact HO5.out, (HB.out.alloc hws _).grown HG5.out (by simp; omega) (fun q hq => (HO.out.lt q hq).1)⟩
        · have hq := beq_eq_false_iff_ne.2 hk1
          go_wp2_with fail
          go_roundg (l.length - (k + 1))
          case measure => omega
          case rel => exact ⟨k + 1, lv, by omega, rfl, by go_num, rfl, by rw [HLS.out, if_neg hk1, List.append_nil]; exact HO.out, HB.out⟩
      · obtain rfl : k = l.length := by omega
        have hge : (l.length : Int) ≤ l.length := by omega
        obtain ⟨la, lc, rfl, hla⟩ := own_form hown
        have HLA := Lib.hid hla
        clear hown hb hla
        go_wp2_with fail
        obtain ⟨wo, hwo⟩ : ∃ wo : World, wo = wr := ⟨_, rfl⟩
        subst hwo
        go_loopg [8] l.length (fun gk i wx => ∃ k : Nat, k ≤ l.length ∧ gk = l.length - k ∧ i = .int .i64 k ∧ Below wo.heap.size wo wx)
        case atStart => exact ⟨0, Nat.zero_le _, rfl, rfl, Below.refl _ _⟩
        case round =>
          obtain ⟨k, hk, rfl, rfl, hb⟩ := hrel
          have HBB := Lib.hid hb
          have hws : wo.heap.size ≤ wr.heap.size := hb.size
          have HOW := Lib.hid (own_keep21 HO.out hb)
          have HBW := Lib.hid (HB.out.trans (hb.mono HB.out.size))
          by_cases hlt : k < l.length
          · obtain ⟨x, hx⟩ : ∃ x, l[k]? = some x := ⟨_, List.getElem?_eq_getElem hlt⟩
            have hne : l ≠ [] := by intro e; rw [e] at hlt; simp at hlt
            obtain ⟨bl, off, hal, hbl, hat⟩ := (HM2.out.below HBW.out (Nat.le_refl _)).at hne
            subst hal
            obtain ⟨d0, d1, d2, d3, d4, d5, d6, d7⟩ := hat k x hx
            have HAT := Lib.hid hat
            have HX := Lib.hid hx
            have hg1 : (0 : Int) ≤ k := by omega
            have hg2 : (k : Int) < l.length := by omega
            have hgw : IntKind.i64.wrap ((k : Int) + 1) = k + 1 := by rw [IntKind.wrap_i64]; omega
            clear hat hx hb
            by_cases hkk : x.kind ≠ 2 ∧ x.kind ≠ 3
            · have q2 := beq_eq_false_iff_ne.2 hkk.1
              have q3 := beq_eq_false_iff_ne.2 hkk.2
              have n2 : (x.kind != 2) = true := by rw [bne_iff_ne]; exact hkk.1
              have n3 : (x.kind != 3) = true := by rw [bne_iff_ne]; exact hkk.2
              clear hkk
              go_wp2_with fail
              go_roundg (l.length - (k + 1))
              case measure => omega
              case rel => exact ⟨k + 1, by omega, rfl, by go_num, HBB.out⟩
            · have hk23 : x.kind = 2 ∨ x.kind = 3 := by
                rcases Classical.em (x.kind = 2) with h | h
                · exact .inl h
                · rcases Classical.em (x.kind = 3) with h3 | h3
                  · exact .inr h3
                  · exact absurd ⟨h, h3⟩ hkk
              clear hkk
              obtain ⟨t, ht⟩ := HG.out.has x (List.mem_of_getElem? HX.out) (by rcases hk23 with h | h <;> simp [As.names, h])
              have HT := Lib.hid ht
              have htl := As.find_lt ht
              have hPK := As.places0_get hlt
              have hPb := As.pl_le (i := k) (As.longs l) h64
              have hTb := As.pl_le (i := t) (As.longs l) h64
              obtain ⟨P, hP⟩ : ∃ P, Hid (As.pl l (As.longs l) k = P) := ⟨_, rfl⟩
              obtain ⟨T, hT⟩ : ∃ T, Hid (As.pl l (As.longs l) t = T) := ⟨_, rfl⟩
              rw [hP.out] at hPK hPb
              rw [hT.out] at hTb
              have hpl : (nums (As.places0 l)).length = l.length := by rw [nums, List.length_map, As.places0_length]
              have hpn : nums (As.places0 l) ≠ [] := by intro e; rw [e] at hpl; simp at hpl; omega
              obtain ⟨pb, po, hap, hpbl, hpat⟩ := (HP2.out.below HBW.out (Nat.le_refl _)).at hpn
              subst hap
              have epk := hpat k (by rw [hpl]; exact hlt)
              rw [nums_getD hPK] at epk
              have HPAT : Hid (∀ q : Nat, q < l.length → wr.cell? ⟨pb, po + q, none⟩ = some (.int .i64 (As.pl l (As.longs l) q : Nat))) := by
                intro q hq
                have h := hpat q (by rw [hpl]; exact hq)
                rw [nums_getD (As.places0_get hq)] at h
                exact h
              have hLBL := As.labs_length l l.length
              clear ht hPK hpl hpn hpat
              -- which case
              have hway : (x.kind = 3 ∨ (x.kind = 2 ∧ -512 ≤ (T : Int) - P ∧ (T : Int) - P ≤ 511)) ∨ (x.kind = 2 ∧ ((T : Int) - P < -512 ∨ 511 < (T : Int) - P)) := by omega
              rcases hway with hs | ⟨hk2, hfar⟩
              · have hsh := As.reach_short HG.out HX.out HT.out (hs.imp id fun h => ⟨h.1, by rw [hT.out, hP.out]; unfold As.Far; omega⟩)
                rw [hP.out, hT.out] at hsh
                obtain ⟨hs1, hs2, hs3⟩ := hsh
                have hcl : ((As.code l).map (Value.int .u32)).length = (As.code l).length := by simp
                have hcn : (As.code l).map (Value.int .u32) ≠ [] := by intro e; rw [e] at hcl; simp at hcl; omega
                obtain ⟨cb, co, hac, hcbl, hcat⟩ := (HC2.out.below HBW.out (Nat.le_refl _)).at hcn
                subst hac
                have ecp := hcat P (by rw [hcl]; exact hs1)
                rw [getD_u32 _ hs1, hs2] at ecp
                have HBAD := Lib.hid hs3
                have hg7 : (0 : Int) ≤ P := by omega
                have hg8 : (P : Int) < (As.code l).length := by omega
                have hg9 : ¬ (P : Int) < 0 := by omega
                have hgs : IntKind.i64.wrap ((T : Int) - P) = (T : Int) - P := by rw [IntKind.wrap_i64]; omega
                clear hcl hcn hcat hs2 hs3
                obtain ⟨WD, hWD⟩ : ∃ WD, Hid (Rs.enc x.op x.a x.b 0 ((T : Int) - P) = WD) := ⟨_, rfl⟩
                rw [hWD.out] at ecp
                have HDEC : Hid (∀ w, Calls Try.prog 12 #[.int .u32 WD] w fun e w' => e = .returned (.tuple #[.agg #[.int .i64 x.op, .int .i64 x.a, .int .i64 x.b, .int .i64 0, .int .i64 ((T : Int) - P)], .bool true]) ∧ Below w.heap.size w w') := fun w => by rw [← hWD.out]; exact rdecode_enc HBAD.out w
                rcases hs with hk3 | ⟨hk2, hf1, hf2⟩
                · as_aux_lemma =>
                    rw [hk3] at d0
                    go_wp2_with fail
                    go_loopg [9, 10] (As.labs l l.length).length (fun gk tv i wx => ∃ (j n : Nat), j ≤ (As.labs l l.length).length ∧ gk = (As.labs l l.length).length - j ∧ i = .int .i64 j ∧ tv = .int .i64 (As.toN l t j) ∧ wx = wr.drewN n)
                    case atStart => exact ⟨0, 0, Nat.zero_le _, rfl, rfl, rfl, rfl⟩
                    case round =>
                      obtain ⟨j, n, hj, rfl, rfl, rfl, rfl⟩ := hrel
                      by_cases hjl : j < (As.labs l l.length).length
                      · obtain ⟨q, hq⟩ : ∃ q, (As.labs l l.length)[j]? = some q := ⟨_, List.getElem?_eq_getElem hjl⟩
                        obtain ⟨hql, y, hy, hyk⟩ := As.labs_mem.1 (List.mem_of_getElem? hq)
                        obtain ⟨gl, rfl⟩ := HLA.out (by omega)
                        have elj : wr.cell? ⟨gl, j, none⟩ = some (.int .i64 (q : Nat)) := by
                          rw [HOW.out.cellAt j (by omega)]
                          simp [idx, hq]
                        have ely := (HAT.out q y hy).c6
                        have epq := HPAT.out q hql
                        have HST := Lib.hid (As.toN_step HG.out HT.out hq hy)
                        have hg3 : (0 : Int) ≤ j := by omega
                        have hg4 : (j : Int) < (As.labs l l.length).length := by omega
                        have hg5 : (0 : Int) ≤ q := by omega
                        have hg6 : (q : Int) < l.length := by omega
                        have hgw2 : IntKind.i64.wrap ((j : Int) + 1) = j + 1 := by rw [IntKind.wrap_i64]; omega
                        clear hq hy
                        cases hb : (y.label == x.label)
                        · have hne2 : Hid (As.toN l t (j + 1) = As.toN l t j) := by unfold Hid; rw [HST.out, if_neg (by simpa using hb)]
                          go_wp2_with fail
                          go_quiet (fail)
                          go_wp2_with fail
                          go_roundg ((As.labs l l.length).length - (j + 1))
                          case measure => omega
                          case rel => exact ⟨j + 1, _, by omega, rfl, by go_num, by rw [hne2.out], rfl⟩
                        · have hne2 : Hid (As.toN l t (j + 1) = (As.pl l (As.longs l) q : Nat)) := by unfold Hid; rw [HST.out, if_pos (by simpa using hb)]
                          go_wp2_with fail
                          go_quiet (fail)
                          go_wp2_with fail
                          go_roundg ((As.labs l l.length).length - (j + 1))
                          case measure => omega
                          case rel => exact ⟨j + 1, _, by omega, rfl, by go_num, by rw [hne2.out], rfl⟩
                      · obtain rfl : j = (As.labs l l.length).length := by omega
                        have htn := As.toN_full HT.out
                        rw [hT.out] at htn
                        rw [htn]
                        clear htn
                        have hgej : ((As.labs l l.length).length : Int) ≤ (As.labs l l.length).length := by omega
                        go_wp2_with fail
                        with_reducible refine (HDEC.out _).mono ?_
                        rintro e w4 ⟨rfl, hb4⟩
                        have HIT4 := (HAT.out k x HX.out).of (fun j => ((below_drewN (Below.refl wr.heap.size wr) n).trans hb4).cell (p := ⟨bl, j, none⟩) hbl)
                        obtain ⟨e0, e1, e2, e3, e4, e5, e6, e7⟩ := HIT4
                        rw [hk3] at e0
                        have ep4 : w4.cell? ⟨pb, po + k, none⟩ = some (.int .i64 (P : Int)) := (((below_drewN (Below.refl wr.heap.size wr) n).trans hb4).cell (p := ⟨pb, po + k, none⟩) hpbl).trans epk
                        have HB4 := Lib.hid (HBB.out.trans (((below_drewN (Below.refl wr.heap.size wr) n).trans hb4).mono hws))
                        have hlt4 : wr.heap.size ≤ w4.heap.size := hb4.size
                        have hpb4 : pb < w4.heap.size := by omega
                        have hbl4 : bl < w4.heap.size := by omega
                        have hcb4 : cb < w4.heap.size := by omega
                        clear hb4 d0 d1 d2 d3 d4 d5 d6 d7 epk ecp
                        go_wp2_with fail
                        go_quiet (fail)
                        go_wp2_with fail
                        go_roundg (l.length - (k + 1))
                        case measure => omega
                        case rel => exact ⟨k + 1, by omega, rfl, by go_num, below_drewN (HB4.out.alloc (by omega) _) _⟩
                · as_aux_lemma =>
                    rw [hk2] at d0
                    go_wp2_with fail
                    go_loopg [9, 10] (As.labs l l.length).length (fun gk tv i wx => ∃ (j n : Nat), j ≤ (As.labs l l.length).length ∧ gk = (As.labs l l.length).length - j ∧ i = .int .i64 j ∧ tv = .int .i64 (As.toN l t j) ∧ wx = wr.drewN n)
                    case atStart => exact ⟨0, 0, Nat.zero_le _, rfl, rfl, rfl, rfl⟩
                    case round =>
                      obtain ⟨j, n, hj, rfl, rfl, rfl, rfl⟩ := hrel
                      by_cases hjl : j < (As.labs l l.length).length
                      · obtain ⟨q, hq⟩ : ∃ q, (As.labs l l.length)[j]? = some q := ⟨_, List.getElem?_eq_getElem hjl⟩
                        obtain ⟨hql, y, hy, hyk⟩ := As.labs_mem.1 (List.mem_of_getElem? hq)
                        obtain ⟨gl, rfl⟩ := HLA.out (by omega)
                        have elj : wr.cell? ⟨gl, j, none⟩ = some (.int .i64 (q : Nat)) := by
                          rw [HOW.out.cellAt j (by omega)]
                          simp [idx, hq]
                        have ely := (HAT.out q y hy).c6
                        have epq := HPAT.out q hql
                        have HST := Lib.hid (As.toN_step HG.out HT.out hq hy)
                        have hg3 : (0 : Int) ≤ j := by omega
                        have hg4 : (j : Int) < (As.labs l l.length).length := by omega
                        have hg5 : (0 : Int) ≤ q := by omega
                        have hg6 : (q : Int) < l.length := by omega
                        have hgw2 : IntKind.i64.wrap ((j : Int) + 1) = j + 1 := by rw [IntKind.wrap_i64]; omega
                        clear hq hy
                        cases hb : (y.label == x.label)
                        · have hne2 : Hid (As.toN l t (j + 1) = As.toN l t j) := by unfold Hid; rw [HST.out, if_neg (by simpa using hb)]
                          go_wp2_with fail
                          go_quiet (fail)
                          go_wp2_with fail
                          go_roundg ((As.labs l l.length).length - (j + 1))
                          case measure => omega
                          case rel => exact ⟨j + 1, _, by omega, rfl, by go_num, by rw [hne2.out], rfl⟩
                        · have hne2 : Hid (As.toN l t (j + 1) = (As.pl l (As.longs l) q : Nat)) := by unfold Hid; rw [HST.out, if_pos (by simpa using hb)]
                          go_wp2_with fail
                          go_quiet (fail)
                          go_wp2_with fail
                          go_roundg ((As.labs l l.length).length - (j + 1))
                          case measure => omega
                          case rel => exact ⟨j + 1, _, by omega, rfl, by go_num, by rw [hne2.out], rfl⟩
                      · obtain rfl : j = (As.labs l l.length).length := by omega
                        have htn := As.toN_full HT.out
                        rw [hT.out] at htn
                        rw [htn]
                        clear htn
                        have hgej : ((As.labs l l.length).length : Int) ≤ (As.labs l l.length).length := by omega
                        go_wp2_with fail
                        with_reducible refine (HDEC.out _).mono ?_
                        rintro e w4 ⟨rfl, hb4⟩
                        have HIT4 := (HAT.out k x HX.out).of (fun j => ((below_drewN (Below.refl wr.heap.size wr) n).trans hb4).cell (p := ⟨bl, j, none⟩) hbl)
                        obtain ⟨e0, e1, e2, e3, e4, e5, e6, e7⟩ := HIT4
                        rw [hk2] at e0
                        have ep4 : w4.cell? ⟨pb, po + k, none⟩ = some (.int .i64 (P : Int)) := (((below_drewN (Below.refl wr.heap.size wr) n).trans hb4).cell (p := ⟨pb, po + k, none⟩) hpbl).trans epk
                        have HB4 := Lib.hid (HBB.out.trans (((below_drewN (Below.refl wr.heap.size wr) n).trans hb4).mono hws))
                        have hlt4 : wr.heap.size ≤ w4.heap.size := hb4.size
                        have hpb4 : pb < w4.heap.size := by omega
                        have hbl4 : bl < w4.heap.size := by omega
                        have hcb4 : cb < w4.heap.size := by omega
                        clear hb4 d0 d1 d2 d3 d4 d5 d6 d7 epk ecp
                        go_wp2_with fail
                        go_quiet (fail)
                        go_wp2_with fail
                        go_roundg (l.length - (k + 1))
                        case measure => omega
                        case rel => exact ⟨k + 1, by omega, rfl, by go_num, below_drewN (HB4.out.alloc (by omega) _) _⟩
              · have hlg := As.reach_long HG.out HX.out HT.out hk2 (by rw [hT.out, hP.out]; unfold As.Far; omega)
                rw [hP.out, hT.out] at hlg
                obtain ⟨hs1, hs2, hs3, hs4, hs5⟩ := hlg
                have hop := (As.may_2 (HG.out.may x (List.mem_of_getElem? HX.out)) hk2)
                have ho1 := hop.2.1
                have ho2 := hop.2.2.1
                have hcl : ((As.code l).map (Value.int .u32)).length = (As.code l).length := by simp
                have hcn : (As.code l).map (Value.int .u32) ≠ [] := by intro e; rw [e] at hcl; simp at hcl; omega
                obtain ⟨cb, co, hac, hcbl, hcat⟩ := (HC2.out.below HBW.out (Nat.le_refl _)).at hcn
                subst hac
                have ecp := hcat P (by rw [hcl]; omega)
                rw [getD_u32 _ (by omega), hs2] at ecp
                have ecq := hcat (P + 1) (by rw [hcl]; omega)
                rw [getD_u32 _ hs1, hs4] at ecq
                have HBAD := Lib.hid hs3
                have HBAD2 := Lib.hid hs5
                have hg7 : (0 : Int) ≤ P := by omega
                have hg8 : (P : Int) < (As.code l).length := by omega
                have hg8' : (P : Int) + 1 < (As.code l).length := by omega
                have hg9 : ¬ (P : Int) < 0 := by omega
                have hgs : IntKind.i64.wrap ((T : Int) - P) = (T : Int) - P := by rw [IntKind.wrap_i64]; omega
                have hgs1 : IntKind.i64.wrap ((T : Int) - P - 1) = (T : Int) - P - 1 := by rw [IntKind.wrap_i64]; omega
                have hgs2 : IntKind.i64.wrap ((P : Int) + 1) = (P : Int) + 1 := by rw [IntKind.wrap_i64]; omega
                clear hcl hcn hcat hs2 hs3 hs4 hs5 hop
                obtain ⟨WD, hWD⟩ : ∃ WD, Hid (Rs.enc (As.opposite x.op) x.a x.b 0 2 = WD) := ⟨_, rfl⟩
                rw [hWD.out] at ecp
                obtain ⟨WE, hWE⟩ : ∃ WE, Hid (Rs.enc 28 0 0 0 ((T : Int) - P - 1) = WE) := ⟨_, rfl⟩
                rw [hWE.out] at ecq
                obtain ⟨OP, hOP⟩ : ∃ OP, Hid (As.opposite x.op = OP) := ⟨_, rfl⟩
                have HDEC : Hid (∀ w, Calls Try.prog 12 #[.int .u32 WD] w fun e w' => e = .returned (.tuple #[.agg #[.int .i64 OP, .int .i64 x.a, .int .i64 x.b, .int .i64 0, .int .i64 2], .bool true]) ∧ Below w.heap.size w w') := fun w => by rw [← hWD.out, ← hOP.out]; exact rdecode_enc HBAD.out w
                have HDEC2 : Hid (∀ w, Calls Try.prog 12 #[.int .u32 WE] w fun e w' => e = .returned (.tuple #[.agg #[.int .i64 28, .int .i64 0, .int .i64 0, .int .i64 0, .int .i64 ((T : Int) - P - 1)], .bool true]) ∧ Below w.heap.size w w') := fun w => by rw [← hWE.out]; exact rdecode_enc HBAD2.out w
                have HOPV : Hid ((x.op = 24 ∧ OP = 25) ∨ (x.op = 25 ∧ OP = 24) ∨ (x.op = 26 ∧ OP = 27) ∨ (x.op = 27 ∧ OP = 26)) := by
                  unfold Hid
                  rw [← hOP.out]
                  rcases (by omega : x.op = 24 ∨ x.op = 25 ∨ x.op = 26 ∨ x.op = 27) with h | h | h | h
                  all_goals rw [h]; decide
                rw [hk2] at d0
                go_wp2_with fail
                go_loopg [9, 10] (As.labs l l.length).length (fun gk tv i wx => ∃ (j n : Nat), j ≤ (As.labs l l.length).length ∧ gk = (As.labs l l.length).length - j ∧ i = .int .i64 j ∧ tv = .int .i64 (As.toN l t j) ∧ wx = wr.drewN n)
                case atStart => exact ⟨0, 0, Nat.zero_le _, rfl, rfl, rfl, rfl⟩
                case round =>
                  obtain ⟨j, n, hj, rfl, rfl, rfl, rfl⟩ := hrel
                  by_cases hjl : j < (As.labs l l.length).length
                  · obtain ⟨q, hq⟩ : ∃ q, (As.labs l l.length)[j]? = some q := ⟨_, List.getElem?_eq_getElem hjl⟩
                    obtain ⟨hql, y, hy, hyk⟩ := As.labs_mem.1 (List.mem_of_getElem? hq)
                    obtain ⟨gl, rfl⟩ := HLA.out (by omega)
                    have elj : wr.cell? ⟨gl, j, none⟩ = some (.int .i64 (q : Nat)) := by
                      rw [HOW.out.cellAt j (by omega)]
                      simp [idx, hq]
                    have ely := (HAT.out q y hy).c6
                    have epq := HPAT.out q hql
                    have HST := Lib.hid (As.toN_step HG.out HT.out hq hy)
                    have hg3 : (0 : Int) ≤ j := by omega
                    have hg4 : (j : Int) < (As.labs l l.length).length := by omega
                    have hg5 : (0 : Int) ≤ q := by omega
                    have hg6 : (q : Int) < l.length := by omega
                    have hgw2 : IntKind.i64.wrap ((j : Int) + 1) = j + 1 := by rw [IntKind.wrap_i64]; omega
                    clear hq hy
                    cases hb : (y.label == x.label)
                    · have hne2 : Hid (As.toN l t (j + 1) = As.toN l t j) := by unfold Hid; rw [HST.out, if_neg (by simpa using hb)]
                      go_wp2_with fail
                      go_quiet (fail)
                      go_wp2_with fail
                      go_roundg ((As.labs l l.length).length - (j + 1))
                      case measure => omega
                      case rel => exact ⟨j + 1, _, by omega, rfl, by go_num, by rw [hne2.out], rfl⟩
                    · have hne2 : Hid (As.toN l t (j + 1) = (As.pl l (As.longs l) q : Nat)) := by unfold Hid; rw [HST.out, if_pos (by simpa using hb)]
                      go_wp2_with fail
                      go_quiet (fail)
                      go_wp2_with fail
                      go_roundg ((As.labs l l.length).length - (j + 1))
                      case measure => omega
                      case rel => exact ⟨j + 1, _, by omega, rfl, by go_num, by rw [hne2.out], rfl⟩
                  · obtain rfl : j = (As.labs l l.length).length := by omega
                    have htn := As.toN_full HT.out
                    rw [hT.out] at htn
                    rw [htn]
                    clear htn
                    have hgej : ((As.labs l l.length).length : Int) ≤ (As.labs l l.length).length := by omega
                    go_wp2_with fail
                    with_reducible refine (HDEC.out _).mono ?_
                    rintro e w4 ⟨rfl, hb4⟩
                    have hb4' := (below_drewN (Below.refl wr.heap.size wr) n).trans hb4
                    have HIT4 := (HAT.out k x HX.out).of (fun j => hb4'.cell (p := ⟨bl, j, none⟩) hbl)
                    have HITH := Lib.hid HIT4
                    have e0 := HIT4.c0
                    rw [hk2] at e0
                    have ep4 : w4.cell? ⟨pb, po + k, none⟩ = some (.int .i64 (P : Int)) := (hb4'.cell (p := ⟨pb, po + k, none⟩) hpbl).trans epk
                    have ec4 : w4.cell? ⟨cb, co + (P + 1), none⟩ = some (.int .u32 WE) := (hb4'.cell (p := ⟨cb, co + (P + 1), none⟩) hcbl).trans ecq
                    have HB4 := Lib.hid (HBB.out.trans (hb4'.mono hws))
                    have hlt4 : wr.heap.size ≤ w4.heap.size := hb4'.size
                    have hpb4 : pb < w4.heap.size := by omega
                    have hbl4 : bl < w4.heap.size := by omega
                    have hcb4 : cb < w4.heap.size := by omega
                    have hb45 : ∀ (w5 : World), Below (w4.alloc (.cells #[.int .i64 OP, .int .i64 x.a, .int .i64 x.b, .int .i64 0, .int .i64 2] 33)).heap.size (w4.alloc (.cells #[.int .i64 OP, .int .i64 x.a, .int .i64 x.b, .int .i64 0, .int .i64 2] 33)) w5 → Below w4.heap.size w4 w5 ∧ w5.heap[w4.heap.size]? = some (.cells #[.int .i64 OP, .int .i64 x.a, .int .i64 x.b, .int .i64 0, .int .i64 2] 33 (0, 0)) := fun w5 h => ⟨((Below.refl _ _).alloc (Nat.le_refl _) _).trans (h.mono (by simp)), (h.block _ (by simp)).trans (heap_alloc_new w4 _)⟩
                    have HB45 := Lib.hid hb45
                    clear hb45
                    clear hb4 hb4' d0 d1 d2 d3 d4 d5 d6 d7 epk ecp ecq HIT4
                    go_upto_region 28 with fail
                    go_cut [13, 144] (fun s13 s144 wx => s13 = .int .i64 ((T : Int) - P) ∧ s144 = .bool false ∧ wx = w4.alloc (.cells #[.int .i64 OP, .int .i64 x.a, .int .i64 x.b, .int .i64 0, .int .i64 2] 33))
                    case first =>
                      rcases hfar with hfar | hfar
                      · have hz1 : ¬ -512 ≤ (T : Int) - P := by omega
                        go_wp2_with fail
                        go_meet
                        exact ⟨rfl, rfl, rfl⟩
                      · have hz1 : -512 ≤ (T : Int) - P := by omega
                        have hz2 : ¬ (T : Int) - P ≤ 511 := by omega
                        go_wp2_with fail
                        go_meet
                        exact ⟨rfl, rfl, rfl⟩
                    case rest =>
                      as_aux_lemma =>
                        obtain ⟨rfl, rfl, rfl⟩ := hcut
                        go_wp2_with fail
                        with_reducible refine (HDEC2.out _).mono ?_
                        rintro e w5 ⟨rfl, hb5⟩
                        obtain ⟨hb6, hx6⟩ := HB45.out _ hb5
                        have HIT5 := HITH.out.of (fun j => hb6.cell (p := ⟨bl, j, none⟩) hbl4)
                        have f1 := HIT5.c1
                        have f2 := HIT5.c2
                        have f3 := HIT5.c3
                        have x0 := cell_of_row w5 w4.heap.size 0 _ _ _ hx6
                        have x1 := cell_of_row w5 w4.heap.size 1 _ _ _ hx6
                        have x2 := cell_of_row w5 w4.heap.size 2 _ _ _ hx6
                        have x4 := cell_of_row w5 w4.heap.size 4 _ _ _ hx6
                        simp only [List.getElem?_toArray, List.getElem?_cons_zero, List.getElem?_cons_succ] at x0 x1 x2 x4
                        have HB6 := Lib.hid (HB4.out.trans (hb6.mono (by have := HB4.out.size; omega)))
                        have hlt6 : w4.heap.size < w5.heap.size := by have := hb5.size; simp at this; omega
                        have hbl6 : bl < w5.heap.size := by omega
                        obtain ⟨XO, hXO⟩ : ∃ XO, Hid (x.op = XO) := ⟨_, rfl⟩
                        rw [hXO.out] at f1
                        have hov := HOPV.out
                        rw [hXO.out] at hov
                        have ho24 : 24 ≤ OP := by omega
                        have ho27 : OP ≤ 27 := by omega
                        have hx24 : 24 ≤ XO := by omega
                        have hx27 : XO ≤ 27 := by omega
                        obtain ⟨D, hD⟩ : ∃ D, (XO - 24) / 2 = D := ⟨_, rfl⟩
                        have hD2 : (OP - 24) / 2 = D := by omega
                        have hdo1 : (XO - 24).tdiv 2 = D := by rw [Int.tdiv_eq_ediv_of_nonneg (by omega)]; exact hD
                        have hdo2 : (OP - 24).tdiv 2 = D := by rw [Int.tdiv_eq_ediv_of_nonneg (by omega)]; exact hD2
                        have hdw : IntKind.i64.wrap D = D := by rw [IntKind.wrap_i64]; omega
                        have hww1 : IntKind.i64.wrap (XO - 24) = XO - 24 := by rw [IntKind.wrap_i64]; omega
                        have hww2 : IntKind.i64.wrap (OP - 24) = OP - 24 := by rw [IntKind.wrap_i64]; omega
                        have hne : (OP == XO) = false := by rw [beq_eq_false_iff_ne]; omega
                        clear hb5 hb6 hx6 HIT5 e0 ep4 ec4 hov
                        go_wp2_with fail
                        go_quiet (fail)
                        go_wp2_with fail
                        go_roundg (l.length - (k + 1))
                        case measure => omega
                        case rel => exact ⟨k + 1, by omega, rfl, by go_num, below_drewN (HB6.out.alloc HB6.out.size _) _⟩
          · obtain rfl : k = l.length := by omega
            have hge : (l.length : Int) ≤ l.length := by omega
            clear hb
            go_wp2_with fail
            go_ret
            exact ⟨rfl, B2.out.trans (HBW.out.mono hw2)⟩
end Go.Proofs.Ytbcpflogkniojaa
