/- RiscSteps' walk. -/
import Derived.Test.YtembhjfejhnpfaaRiscSame
import Derived.Test.YtembhjfejhnpfaaRiscFixed
import Derived.Test.YtembhjfejhnpfaaRiscLaw
namespace Go.Proofs.Ytembhjfejhnpfaa
open Go.RowKit
set_option linter.unusedVariables false
set_option linter.unusedSimpArgs false
theorem HaltAt.range {w : World} {k : Nat} {st : Int} {m : Rs.M} {mv : Value} (h : HaltAt w k st m mv) : w.rangeAt k 0 (Rs.halt st m mv) := by
  intro j v hj
  rw [Nat.zero_add, h.cell]
  exact hj
theorem own_to_sl {w : World} {B e n : Nat} {v : Value} {xs : List Value} (h : w.ownsRow B e 1 v n xs) : Sl w v xs := by
  have hl := h.1
  rw [Nat.mul_one] at hl
  rcases own_shape h with ⟨rfl, rfl, rfl⟩ | ⟨g, cap, rfl, _⟩
  · exact ⟨none, 0, rfl, .inl ⟨rfl, rfl, rfl⟩⟩
  · exact ⟨some ⟨g, 0, none⟩, cap, by rw [hl], .inr ⟨_, rfl, h.cells rfl⟩⟩
theorem run_is (vc vm : Value) (code mem : List Int) (words : Int) (inp : List UInt8) (steps : Int) (w : World) (hc : Sl w vc (u32s code)) (hm : Sl w vm (i64s mem)) (hcr : ∀ x ∈ code, 0 ≤ x ∧ x < 4294967296) (hmr : ∀ x ∈ mem, Rs.InR x) (hs : steps ≤ 1000000000000) {m : Rs.M} {st : Int} (h : Rs.runI code mem words inp steps = (m, st)) :
    Calls Try.prog 14 #[.agg #[vc, vm, .int .i64 words], .string ⟨inp.toArray⟩, .int .i64 steps] w fun e w' =>
      ∃ a cap, e = .returned (.agg (Rs.halt st m (.slice a m.mem.length cap)).toArray) ∧ Sl w' (.slice a m.mem.length cap) (m.mem.map (Value.int .i64)) ∧ m.regs.length = 32 ∧ Below w.heap.size w w' := by
  refine (run_any vc vm code mem words inp steps w hc hm hcr hmr hs).mono ?_
  rintro e w' ⟨mv, rfl, hown, hb⟩
  have hl := Rs.runI_len code mem words inp steps
  rw [h] at hown hl ⊢
  obtain ⟨a, cap, rfl⟩ := own_sl hown
  exact ⟨a, cap, rfl, own_to_sl hown, hl, hb⟩
namespace Rs
theorem runI_yes {code mem : List Int} {words steps : Int} {inp : List UInt8} (h0 : 0 ≤ words) (h1 : words ≤ 1048576) (h2 : code.length ≤ 1048576) (h3 : (mem.length : Int) ≤ words) (h4 : 0 ≤ steps) : runI code mem words inp steps = go code steps.toNat (start mem words inp) := by
  unfold runI
  rw [if_neg (by unfold noImage; omega)]
  rfl
theorem runI_no {code mem : List Int} {words steps : Int} {inp : List UInt8} (h : noImage code mem words steps) : runI code mem words inp steps = (zero, 7) := if_pos h
end Rs

set_option maxHeartbeats 8000000 in
set_option maxRecDepth 100000 in
theorem steps_walk (vc vm : Value) (code mem : List Int) (words : Int) (inp : List UInt8) (more : Int) (w : World) (hc : Sl w vc (u32s code)) (hm : Sl w vm (i64s mem)) (hcr : ∀ x ∈ code, 0 ≤ x ∧ x < 4294967296) (hmr : ∀ x ∈ mem, Rs.InR x) (hmo : Rs.InR more) :
    Calls Try.prog 6 #[.agg #[vc, vm, .int .i64 words], .string ⟨inp.toArray⟩, .int .i64 more] w fun e w' => e = .returned (.bool true) ∧ Below w.heap.size w w' := by
  have HC := Lib.hid hc
  have HM := Lib.hid hm
  have HCR := Lib.hid hcr
  have HMR := Lib.hid hmr
  obtain ⟨ac, cc, rfl⟩ := hc.len
  obtain ⟨am, cm, rfl⟩ := hm.len
  have hl1 : (u32s code).length = code.length := by simp [u32s]
  have hl2 : (i64s mem).length = mem.length := by simp [i64s]
  rw [hl1] at HC
  rw [hl2] at HM
  rw [hl1, hl2]
  clear hc hm hcr hmr hl1 hl2
  have X0 : Hid ((w.alloc (.cells #[.slice ac code.length cc, .slice am mem.length cm, .int .i64 words] 35)).heap[w.heap.size]? = _) := heap_alloc_new w _
  by_cases hbig : 5000 < words ∧ words ≤ 1048576
  · obtain ⟨a1, a2⟩ := hbig
    go_enter Try.func6, Try.ntmps6
    go_wp2_with fail
    with_reducible refine (fixed_any _).mono ?_
    rintro e w1 ⟨rfl, hb1⟩
    have B1 : Hid (Below w.heap.size w w1) := ((Below.refl _ _).alloc (Nat.le_refl _) _).trans (hb1.mono (by simp))
    clear hb1
    go_wp2_with fail
    go_ret
    exact ⟨rfl, B1.out⟩
  · have hsm : words ≤ 5000 ∨ (5000 < words ∧ 1048576 < words) := by omega
    clear hbig
    obtain ⟨⟨m, st⟩, hr⟩ : ∃ r, Rs.runI code mem words inp 2000 = r := ⟨_, rfl⟩
    have HR := Lib.hid hr
    have hfacts : Hid ((st = 7 ∧ m = Rs.zero) ∨ (st ≠ 7 ∧ 0 ≤ words ∧ words ≤ 5000 ∧ code.length ≤ 1048576 ∧ (mem.length : Int) ≤ words ∧ m.regs.getD 0 0 = 0 ∧ 0 ≤ m.steps ∧ m.steps ≤ 2000 ∧ (m.mem.length : Int) = words ∧ (st = 6 → m.steps = 2000) ∧ Rs.go code 2000 (Rs.start mem words inp) = (m, st))) := by
      by_cases hno : Rs.noImage code mem words 2000
      · left
        rw [Rs.runI_no hno] at hr
        injection hr with h1 h2
        exact ⟨h2.symm, h1.symm⟩
      · right
        unfold Rs.noImage at hno
        rw [Rs.runI_yes (by omega) (by omega) (by omega) (by omega) (by omega)] at hr
        have hg : Rs.go code 2000 (Rs.start mem words inp) = (m, st) := hr
        obtain ⟨g1, g2, g3, g4, g5, g6, g7⟩ := Rs.go_facts code 2000 (Rs.start mem words inp)
        rw [hg] at g1 g2 g3 g4 g5 g6 g7
        have e1 : (Rs.start mem words inp).steps = 0 := rfl
        have e2 : (Rs.start mem words inp).mem.length = words.toNat := by simp [Rs.start]; omega
        simp only [e1, e2] at g2 g3 g4 g6
        exact ⟨g1, by omega, by omega, by omega, by omega, g5 rfl, by omega, by omega, by omega, fun h => by have := g6 h; omega, hg⟩
    clear hr
    have SC := Lib.hid (HC.out.below ((Below.refl w.heap.size w).alloc (Nat.le_refl _) (.cells #[.slice ac code.length cc, .slice am mem.length cm, .int .i64 words] 35)) (Nat.le_refl _))
    have SM := Lib.hid (HM.out.below ((Below.refl w.heap.size w).alloc (Nat.le_refl _) (.cells #[.slice ac code.length cc, .slice am mem.length cm, .int .i64 words] 35)) (Nat.le_refl _))
    go_enter Try.func6, Try.ntmps6
    rcases hsm with h5 | ⟨h5, h6⟩
    all_goals
      go_wp2_with fail
      with_reducible refine (run_is _ _ code mem words inp 2000 _ SC.out SM.out HCR.out HMR.out (by decide) HR.out).mono ?_
      rintro e w1 ⟨aa, ca, rfl, hsl1, hrl, hb1⟩
      have hst := halt_store w1 st m (.slice aa m.mem.length ca) hrl rfl
      have hln := halt_len' (st := st) (mv := (.slice aa m.mem.length ca)) hrl
      have A1 : Hid (HaltAt (w1.alloc (.cells (Rs.halt st m (.slice aa m.mem.length ca)).toArray 39)) w1.heap.size st m (.slice aa m.mem.length ca)) := HaltAt.new w1 hrl
      have X1 : Hid (w1.heap[w.heap.size]? = some (.cells #[.slice ac code.length cc, .slice am mem.length cm, .int .i64 words] 35 (0, 0))) := (hb1.block _ (by simp)).trans X0.out
      have s1 : w.heap.size + 1 ≤ w1.heap.size := by have := hb1.size; simpa using this
      have B1 : Hid (Below w.heap.size w w1) := ((Below.refl _ _).alloc (Nat.le_refl _) _).trans (hb1.mono (by simp))
      have SL1 := Lib.hid hsl1
      have HRL := Lib.hid hrl
      clear hb1 hsl1 hrl
      go_wp2_with fail
      with_reducible refine (fixed_any _).mono ?_
      rintro e w2 ⟨rfl, hb2⟩
      have b12 : Below w1.heap.size w1 w2 := ((Below.refl _ _).alloc (Nat.le_refl _) _).trans (hb2.mono (by simp))
      have A2 : Hid (HaltAt w2 w1.heap.size st m (.slice aa m.mem.length ca)) := A1.out.below hb2 (by simp)
      have X2 : Hid (w2.heap[w.heap.size]? = some (.cells #[.slice ac code.length cc, .slice am mem.length cm, .int .i64 words] 35 (0, 0))) := (b12.block _ (by omega)).trans X1.out
      have s2 : w1.heap.size + 1 ≤ w2.heap.size := by have := hb2.size; simpa using this
      have B2 : Hid (Below w.heap.size w w2) := B1.out.trans (b12.mono B1.out.size)
      have SL2 : Hid (Sl w2 (.slice aa m.mem.length ca) (m.mem.map (Value.int .i64))) := SL1.out.below b12 (Nat.le_refl _)
      clear hb2 b12 A1 X1 B1 SL1 hst hln
      have a0 := A2.out.c0
      have a3 := A2.out.c3
      have a5 := A2.out.cR (i := 0) (by decide)
      have a37 := A2.out.c37
      have x0 := cell_of_row w2 w.heap.size 0 _ _ _ X2.out
      have x1 := cell_of_row w2 w.heap.size 1 _ _ _ X2.out
      have x2 := cell_of_row w2 w.heap.size 2 _ _ _ X2.out
      simp only [List.getElem?_toArray, List.getElem?_cons_zero, List.getElem?_cons_succ] at x0 x1 x2
      rcases hfacts.out with ⟨f1, f2⟩ | ⟨f1, f2, f3, f4, f5, f6, f7, f8, f9, f10, f11⟩
    · have e3 : m.steps = 0 := by rw [f2]; rfl
      have e5 : m.regs.getD 0 0 = 0 := by rw [f2]; rfl
      have el : m.mem.length = 0 := by rw [f2]; rfl
      rw [e3] at a3
      rw [e5] at a5
      rw [el] at a37
      subst f1
      clear f2 e3 e5 el
      go_wp2_with fail
      go_ret
      exact ⟨rfl, B2.out⟩
    · rw [f6] at a5
      have hs7 : (st == 7) = false := by rw [beq_eq_false_iff_ne]; exact f1
      have HG := Lib.hid f11
      by_cases h6 : st = 6
      · rw [f10 h6] at a3
        subst h6
        clear f10 f11
        go_wp2_with fail
        go_ret
        exact ⟨rfl, B2.out⟩
      · have hs6 : (st == 6) = false := by rw [beq_eq_false_iff_ne]; exact h6
        have H6 := Lib.hid h6
        clear f10 f11 f6 f1 h6
        subst f9
        have hml : m.mem.length ≤ 1048576 := by omega
        have HF4 := Lib.hid f4
        have HF5 := Lib.hid f5
        clear f4 f5
        rcases (by omega : more < 0 ∨ (0 ≤ more ∧ 1000 < more) ∨ (0 ≤ more ∧ more ≤ 1000)) with m1 | ⟨m1, m2⟩ | ⟨m1, m2⟩
        · go_wp2_with fail
          go_ret
          exact ⟨rfl, B2.out⟩
        · go_wp2_with fail
          go_ret
          exact ⟨rfl, B2.out⟩
        · have hw1 : IntKind.i64.wrap (m.steps + 1) = m.steps + 1 := by rw [IntKind.wrap_i64]; omega
          have hw2 : IntKind.i64.wrap (m.steps + 1 + more) = m.steps + 1 + more := by rw [IntKind.wrap_i64]; omega
          have HR2 : Hid (Rs.runI code mem m.mem.length inp (m.steps + 1 + more) = (m, st)) := by
            unfold Hid
            rw [Rs.runI_yes (by omega) (by omega) HF4.out HF5.out (by omega)]
            have hg := HG.out
            have := Rs.go_more code 2000 (Rs.start mem m.mem.length inp) (by rw [hg]; exact H6.out) (m.steps + 1 + more).toNat (by rw [hg]; show m.steps - 0 + 1 ≤ _; omega)
            rw [this]; exact hg
          have SC2 := Lib.hid (HC.out.below B2.out (Nat.le_refl _))
          have SM2 := Lib.hid (HM.out.below B2.out (Nat.le_refl _))
          go_wp2_with fail
          with_reducible refine (run_is _ _ code mem m.mem.length inp (m.steps + 1 + more) _ SC2.out SM2.out HCR.out HMR.out (by omega) HR2.out).mono ?_
          rintro e w3 ⟨ab, cb, rfl, hsl3, hrl3, hb3⟩
          have s3 : w2.heap.size ≤ w3.heap.size := hb3.size
          have hst := halt_store w3 st m (.slice ab m.mem.length cb) hrl3 rfl
          have hln := halt_len' (st := st) (mv := (.slice ab m.mem.length cb)) hrl3
          have A3 : Hid (HaltAt (w3.alloc (.cells (Rs.halt st m (.slice ab m.mem.length cb)).toArray 39)) w1.heap.size st m (.slice aa m.mem.length ca)) := (A2.out.below hb3 (by omega)).below ((Below.refl _ _).alloc (Nat.le_refl _) _) (by omega)
          have C3 : Hid (HaltAt (w3.alloc (.cells (Rs.halt st m (.slice ab m.mem.length cb)).toArray 39)) w3.heap.size st m (.slice ab m.mem.length cb)) := HaltAt.new w3 hrl3
          have bb3 : Hid (Below w3.heap.size w3 (w3.alloc (.cells (Rs.halt st m (.slice ab m.mem.length cb)).toArray 39))) := (Below.refl _ _).alloc (Nat.le_refl _) _
          have X3 : Hid (w3.heap[w.heap.size]? = some (.cells #[.slice ac code.length cc, .slice am mem.length cm, .int .i64 m.mem.length] 35 (0, 0))) := (hb3.block _ (by omega)).trans X2.out
          have B3 : Hid (Below w.heap.size w w3) := B2.out.trans (hb3.mono (by omega))
          have SA3 : Hid (Sl (w3.alloc (.cells (Rs.halt st m (.slice ab m.mem.length cb)).toArray 39)) (.slice aa m.mem.length ca) (m.mem.map (Value.int .i64))) := (SL2.out.below hb3 (Nat.le_refl _)).below bb3.out (Nat.le_refl _)
          have SB3 : Hid (Sl (w3.alloc (.cells (Rs.halt st m (.slice ab m.mem.length cb)).toArray 39)) (.slice ab m.mem.length cb) (m.mem.map (Value.int .i64))) := hsl3.below bb3.out (Nat.le_refl _)
          clear hb3 hsl3 hrl3 a0 a3 a5 a37 x0 x1 x2 SL2 X2
          have HD := haltD
          have HSZ : Hid ((Try.prog.info? 39).map (·.size) = some 38) := haltSize
          go_wp2_with (first | (refine wpList_load_mid rfl 39 (.tmp 7) rfl w1.heap.size 0 rfl (Rs.halt st m (.slice aa m.mem.length ca)) HD.choose A3.out.range HD.choose_spec.1 HD.choose_spec.2 (by rw [halt_len' HRL.out]; exact HSZ.out) ?_) | (refine wpList_load_mid rfl 39 (.tmp 8) rfl w3.heap.size 0 rfl (Rs.halt st m (.slice ab m.mem.length cb)) HD.choose C3.out.range HD.choose_spec.1 HD.choose_spec.2 (by rw [halt_len' HRL.out]; exact HSZ.out) ?_))
          with_reducible refine (same_any st m _ _ _ HRL.out hml SA3.out SB3.out).mono ?_
          rintro e w4 ⟨rfl, hb4⟩
          have s4 : w3.heap.size + 1 ≤ w4.heap.size := by have := hb4.size; simpa using this
          have A4 : Hid (HaltAt w4 w1.heap.size st m (.slice aa m.mem.length ca)) := A3.out.below hb4 (by simp; omega)
          have C4 : Hid (HaltAt w4 w3.heap.size st m (.slice ab m.mem.length cb)) := C3.out.below hb4 (by simp)
          have SA4 := Lib.hid (SA3.out.below hb4 (Nat.le_refl _))
          have SB4 := Lib.hid (SB3.out.below hb4 (Nat.le_refl _))
          have b34 : Below w3.heap.size w3 w4 := bb3.out.trans (hb4.mono (by simp))
          have X4 : Hid (w4.heap[w.heap.size]? = some (.cells #[.slice ac code.length cc, .slice am mem.length cm, .int .i64 m.mem.length] 35 (0, 0))) := (b34.block _ (by omega)).trans X3.out
          have B4 : Hid (Below w.heap.size w w4) := B3.out.trans (b34.mono (by omega))
          have a3 := A4.out.c3
          clear hb4 b34 A3 C3 SA3 SB3 X3 hst hln bb3
          by_cases hz : m.steps = 0
          · have hz' : (m.steps == 0) = true := by rw [hz]; rfl
            go_wp2_with (first | (refine wpList_load_mid rfl 39 (.tmp 7) rfl w1.heap.size 0 rfl (Rs.halt st m (.slice aa m.mem.length ca)) HD.choose A4.out.range HD.choose_spec.1 HD.choose_spec.2 (by rw [halt_len' HRL.out]; exact HSZ.out) ?_) | (refine wpList_load_mid rfl 39 (.tmp 8) rfl w3.heap.size 0 rfl (Rs.halt st m (.slice ab m.mem.length cb)) HD.choose C4.out.range HD.choose_spec.1 HD.choose_spec.2 (by rw [halt_len' HRL.out]; exact HSZ.out) ?_))
            with_reducible refine (same_any st m _ _ _ HRL.out hml SA4.out SB4.out).mono ?_
            rintro e w5 ⟨rfl, hb5⟩
            have B5 : Hid (Below w.heap.size w w5) := B4.out.trans (hb5.mono B4.out.size)
            clear hb5
            go_wp2_with fail
            go_ret
            exact ⟨rfl, B5.out⟩
          · have hz' : (m.steps == 0) = false := by rw [beq_eq_false_iff_ne]; exact hz
            have hw3 : IntKind.i64.wrap (m.steps - 1) = m.steps - 1 := by rw [IntKind.wrap_i64]; omega
            obtain ⟨⟨m3, st3⟩, hr3⟩ : ∃ r, Rs.runI code mem m.mem.length inp (m.steps - 1) = r := ⟨_, rfl⟩
            obtain ⟨rfl, hm3⟩ : st3 = 6 ∧ m3.steps = m.steps - 1 := by
              rw [Rs.runI_yes (by omega) (by omega) HF4.out HF5.out (by omega)] at hr3
              have := Rs.go_fewer code (m.steps - 1).toNat 2000 (Rs.start mem m.mem.length inp) (by rw [HG.out]; show (0 : Int) + _ + 1 ≤ m.steps; omega)
              rw [hr3] at this
              exact ⟨this.1, by rw [this.2]; show (0 : Int) + _ = _; omega⟩
            have HR3 := Lib.hid hr3
            have SC4 := Lib.hid (HC.out.below B4.out (Nat.le_refl _))
            have SM4 := Lib.hid (HM.out.below B4.out (Nat.le_refl _))
            have x0 := cell_of_row w4 w.heap.size 0 _ _ _ X4.out
            have x1 := cell_of_row w4 w.heap.size 1 _ _ _ X4.out
            have x2 := cell_of_row w4 w.heap.size 2 _ _ _ X4.out
            simp only [List.getElem?_toArray, List.getElem?_cons_zero, List.getElem?_cons_succ] at x0 x1 x2
            clear hr3
            go_wp2_with fail
            with_reducible refine (run_is _ _ code mem m.mem.length inp (m.steps - 1) _ SC4.out SM4.out HCR.out HMR.out (by omega) HR3.out).mono ?_
            rintro e w5 ⟨ad, cd, rfl, hsl5, hrl5, hb5⟩
            have s5 : w4.heap.size ≤ w5.heap.size := hb5.size
            have hst := halt_store w5 6 m3 (.slice ad m3.mem.length cd) hrl5 rfl
            have hln := halt_len' (st := 6) (mv := .slice ad m3.mem.length cd) hrl5
            have A5 := A4.out.below hb5 (by omega)
            have D5 : HaltAt (w5.alloc (.cells (Rs.halt 6 m3 (.slice ad m3.mem.length cd)).toArray 39)) w5.heap.size 6 m3 (.slice ad m3.mem.length cd) := HaltAt.new w5 hrl5
            have A6 := A5.below ((Below.refl w5.heap.size w5).alloc (Nat.le_refl _) (.cells (Rs.halt 6 m3 (.slice ad m3.mem.length cd)).toArray 39)) (by omega)
            have B5 : Hid (Below w.heap.size w w5) := B4.out.trans (hb5.mono B4.out.size)
            have y0 := D5.c0
            have y3 := D5.c3
            have z3 := A6.c3
            have zz3 := A5.c3
            have e0 : ∀ v, (Rs.halt 6 m3 v)[0]? = some (.int .i64 6) := fun _ => rfl
            have e3 : ∀ v, (Rs.halt 6 m3 v)[3]? = some (.int .i64 (m.steps - 1)) := fun _ => by show some (Value.int .i64 m3.steps) = _; rw [hm3]
            rw [hm3] at y3
            have hne5 : w1.heap.size < w5.heap.size := by omega
            clear hb5 hsl5 hrl5 A5 D5 A6 x0 x1 x2 a3
            go_wp2_with fail
            go_ret
            exact ⟨rfl, B5.out.alloc B5.out.size _⟩
    · have e3 : m.steps = 0 := by rw [f2]; rfl
      have e5 : m.regs.getD 0 0 = 0 := by rw [f2]; rfl
      have el : m.mem.length = 0 := by rw [f2]; rfl
      rw [e3] at a3
      rw [e5] at a5
      rw [el] at a37
      subst f1
      clear f2 e3 e5 el
      go_wp2_with fail
      go_ret
      exact ⟨rfl, B2.out⟩
    · omega
end Go.Proofs.Ytembhjfejhnpfaa
