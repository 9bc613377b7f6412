/- RiscBack's walk. -/
import Derived.Test.YtembhjfejhnpfaaRiscWordsW
import Derived.Test.YtembhjfejhnpfaaRiscLaw
namespace Go.Proofs.Ytembhjfejhnpfaa
open Go.RowKit
set_option linter.unusedVariables false
set_option linter.unusedSimpArgs false
theorem decV_enc {op a b c n : Int} (h : ¬ Rs.Bad op a b c n) : decV (Rs.enc op a b c n) = .agg #[.int .i64 op, .int .i64 a, .int .i64 b, .int .i64 c, .int .i64 n] := by
  obtain ⟨-, -, h1, h2, h3, h4, h5⟩ := Rs.enc_fields h
  unfold decV
  rw [if_pos (Rs.dec_enc h), h1, h2, h3, h4, h5]
  rfl

set_option maxHeartbeats 8000000 in
set_option maxRecDepth 100000 in
theorem back_walk (x0 x1 x2 x3 x4 u : Int) (hu : 0 ≤ u ∧ u < 4294967296) (w : World) :
    Calls Try.prog 4 #[.agg #[.int .i64 x0, .int .i64 x1, .int .i64 x2, .int .i64 x3, .int .i64 x4], .int .u32 u] w fun e w' => e = .returned (.bool true) ∧ Below w.heap.size w w' := by
  obtain ⟨f0, f1, f2, f3, f4, hd, hy, hn⟩ := decV_agg u
  have HD := Lib.hid hd
  have HU := Lib.hid hu
  clear hd hu
  have I0 : Hid ((w.alloc (.cells #[.int .i64 x0, .int .i64 x1, .int .i64 x2, .int .i64 x3, .int .i64 x4] 23)).heap[w.heap.size]? = _) := heap_alloc_new w _
  have tail : Hid (∀ (W E : Int), Rs.encW x0 x1 x2 x3 x4 = W → Rs.encE x0 x1 x2 x3 x4 = E → True) := fun _ _ _ _ => trivial
  clear tail
  by_cases hbad : Rs.Bad x0 x1 x2 x3 x4
  · have HW : Hid (Rs.encW x0 x1 x2 x3 x4 = 0) := if_pos hbad
    have HE : Hid (Rs.encE x0 x1 x2 x3 x4 = 200) := if_pos hbad
    clear hbad
    go_enter Try.func4, Try.ntmps4
    go_wp2_with fail
    with_reducible refine (enc_at x0 x1 x2 x3 x4 0 200 HW.out HE.out _).mono ?_
    rintro e w1 ⟨rfl, hb1⟩
    have B1 : Hid (Below w.heap.size w w1) := ((Below.refl _ _).alloc (Nat.le_refl _) _).trans (hb1.mono (by simp))
    clear hb1 I0
    go_wp2_with fail
    with_reducible refine (fixed_any _).mono ?_
    rintro e w4 ⟨rfl, hb2⟩
    have B4 : Hid (Below w.heap.size w w4) := B1.out.trans (hb2.mono B1.out.size)
    clear hb2
    cases hB : Rs.decB u with
    | true =>
      have HBB := Lib.hid hB
      obtain ⟨rfl, rfl, rfl, rfl, rfl⟩ := hy hB
      have h2 := of_decide_eq_true hB
      have HE2 := Lib.hid h2.1
      have HW2 := Lib.hid h2.2
      clear hB hy hn h2
      generalize Rs.fB (Rs.fO u) u = g2 at *
      generalize Rs.fC (Rs.fO u) u = g3 at *
      generalize Rs.fN (Rs.fO u) u = g4 at *
      generalize Rs.fA u = g1 at *
      generalize Rs.fO u = g0 at *
      go_wp2_with fail
      with_reducible refine (dec_at u HU.out HD.out HBB.out _).mono ?_
      rintro e w5 ⟨rfl, hb5⟩
      have B5 : Hid (Below w.heap.size w w5) := B4.out.trans (hb5.mono B4.out.size)
      clear hb5
      go_wp2_with fail
      with_reducible refine (enc_at g0 g1 g2 g3 g4 u 0 HW2.out HE2.out _).mono ?_
      rintro e w6 ⟨rfl, hb6⟩
      have B6 : Hid (Below w.heap.size w w6) := (B5.out.alloc B5.out.size _).trans (hb6.mono (by have := B5.out.size; simp; omega))
      clear hb6
      go_wp2_with fail
      go_ret
      exact ⟨rfl, B6.out⟩
    | false =>
      have HBB := Lib.hid hB
      obtain ⟨rfl, rfl, rfl, rfl, rfl⟩ := hn hB
      clear hB hy hn
      go_wp2_with fail
      with_reducible refine (dec_at u HU.out HD.out HBB.out _).mono ?_
      rintro e w5 ⟨rfl, hb5⟩
      have B5 : Hid (Below w.heap.size w w5) := B4.out.trans (hb5.mono B4.out.size)
      clear hb5
      go_wp2_with fail
      go_ret
      exact ⟨rfl, B5.out.alloc B5.out.size _⟩
  · have HB := Lib.hid hbad
    have HW : Hid (Rs.encW x0 x1 x2 x3 x4 = Rs.enc x0 x1 x2 x3 x4) := if_neg hbad
    have HE : Hid (Rs.encE x0 x1 x2 x3 x4 = 0) := if_neg hbad
    obtain ⟨W, hWW⟩ : ∃ W, Hid (Rs.enc x0 x1 x2 x3 x4 = W) := ⟨_, rfl⟩
    have HWR : Hid (0 ≤ W ∧ W < 4294967296) := by rw [← hWW.out]; obtain ⟨a, b, -⟩ := Rs.enc_fields hbad; exact ⟨a, b⟩
    have HDW : Hid (decV W = .agg #[.int .i64 x0, .int .i64 x1, .int .i64 x2, .int .i64 x3, .int .i64 x4]) := by rw [← hWW.out]; exact decV_enc hbad
    have HBW : Hid (Rs.decB W = true) := by rw [← hWW.out]; exact Rs.dec_enc hbad
    rw [hWW.out] at HW
    clear hbad
    go_enter Try.func4, Try.ntmps4
    go_wp2_with fail
    with_reducible refine (enc_at x0 x1 x2 x3 x4 W 0 HW.out HE.out _).mono ?_
    rintro e w1 ⟨rfl, hb1⟩
    have J1 : Hid (w1.heap[w.heap.size]? = some (.cells #[.int .i64 x0, .int .i64 x1, .int .i64 x2, .int .i64 x3, .int .i64 x4] 23 (0, 0))) := (hb1.block _ (by simp)).trans I0.out
    have s1 : w.heap.size + 1 ≤ w1.heap.size := by have := hb1.size; simpa using this
    have B1 : Hid (Below w.heap.size w w1) := ((Below.refl _ _).alloc (Nat.le_refl _) _).trans (hb1.mono (by simp))
    clear hb1 I0
    go_wp2_with fail
    with_reducible refine (fixed_any _).mono ?_
    rintro e w2 ⟨rfl, hb2⟩
    have J2 : Hid (w2.heap[w.heap.size]? = some (.cells #[.int .i64 x0, .int .i64 x1, .int .i64 x2, .int .i64 x3, .int .i64 x4] 23 (0, 0))) := (hb2.block _ (by omega)).trans J1.out
    have s2 : w.heap.size + 1 ≤ w2.heap.size := by have := hb2.size; omega
    have B2 : Hid (Below w.heap.size w w2) := B1.out.trans (hb2.mono B1.out.size)
    clear hb2 J1 s1
    go_wp2_with fail
    with_reducible refine (dec_at W HWR.out HDW.out HBW.out _).mono ?_
    rintro e w3 ⟨rfl, hb3⟩
    have J3 : Hid (w3.heap[w.heap.size]? = some (.cells #[.int .i64 x0, .int .i64 x1, .int .i64 x2, .int .i64 x3, .int .i64 x4] 23 (0, 0))) := (hb3.block _ (by omega)).trans J2.out
    have s3 : w.heap.size < w3.heap.size := by have := hb3.size; omega
    obtain ⟨p0, p1, p2, p3, p4⟩ := instr_cells J3.out
    have B3 : Hid (Below w.heap.size w w3) := B2.out.trans (hb3.mono B2.out.size)
    clear hb3 J2 s2
    go_wp2_with fail
    have B4 : Hid (Below w.heap.size w (w3.alloc (.cells #[.int .i64 x0, .int .i64 x1, .int .i64 x2, .int .i64 x3, .int .i64 x4] 23))) := B3.out.alloc B3.out.size _
    generalize hw4 : w3.alloc (.cells #[.int .i64 x0, .int .i64 x1, .int .i64 x2, .int .i64 x3, .int .i64 x4] 23) = w4 at B4 ⊢
    clear p0 p1 p2 p3 p4 hw4 J3 s3
    cases hB : Rs.decB u with
    | true =>
      have HBB := Lib.hid hB
      obtain ⟨rfl, rfl, rfl, rfl, rfl⟩ := hy hB
      have h2 := of_decide_eq_true hB
      have HE2 := Lib.hid h2.1
      have HW2 := Lib.hid h2.2
      clear hB hy hn h2
      generalize Rs.fB (Rs.fO u) u = g2 at *
      generalize Rs.fC (Rs.fO u) u = g3 at *
      generalize Rs.fN (Rs.fO u) u = g4 at *
      generalize Rs.fA u = g1 at *
      generalize Rs.fO u = g0 at *
      with_reducible refine (dec_at u HU.out HD.out HBB.out _).mono ?_
      rintro e w5 ⟨rfl, hb5⟩
      have B5 : Hid (Below w.heap.size w w5) := B4.out.trans (hb5.mono B4.out.size)
      clear hb5
      go_wp2_with fail
      with_reducible refine (enc_at g0 g1 g2 g3 g4 u 0 HW2.out HE2.out _).mono ?_
      rintro e w6 ⟨rfl, hb6⟩
      have B6 : Hid (Below w.heap.size w w6) := (B5.out.alloc B5.out.size _).trans (hb6.mono (by have := B5.out.size; simp; omega))
      clear hb6
      go_wp2_with fail
      go_ret
      exact ⟨rfl, B6.out⟩
    | false =>
      have HBB := Lib.hid hB
      obtain ⟨rfl, rfl, rfl, rfl, rfl⟩ := hn hB
      clear hB hy hn
      with_reducible refine (dec_at u HU.out HD.out HBB.out _).mono ?_
      rintro e w5 ⟨rfl, hb5⟩
      have B5 : Hid (Below w.heap.size w w5) := B4.out.trans (hb5.mono B4.out.size)
      clear hb5
      go_wp2_with fail
      go_ret
      exact ⟨rfl, B5.out.alloc B5.out.size _⟩
end Go.Proofs.Ytembhjfejhnpfaa
