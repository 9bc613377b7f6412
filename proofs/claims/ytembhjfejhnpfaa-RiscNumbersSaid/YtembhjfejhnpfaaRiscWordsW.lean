/- RiscWords' walk. -/
import Derived.Test.YtembhjfejhnpfaaRiscFixed
import Derived.Test.YtembhjfejhnpfaaRiscRDec
namespace Go.Proofs.Ytembhjfejhnpfaa
open Go.RowKit
set_option linter.unusedVariables false
set_option linter.unusedSimpArgs false
theorem decV_agg (u : Int) : ∃ f0 f1 f2 f3 f4 : Int, decV u = .agg #[.int .i64 f0, .int .i64 f1, .int .i64 f2, .int .i64 f3, .int .i64 f4] ∧ (Rs.decB u = true → f0 = Rs.fO u ∧ f1 = Rs.fA u ∧ f2 = Rs.fB (Rs.fO u) u ∧ f3 = Rs.fC (Rs.fO u) u ∧ f4 = Rs.fN (Rs.fO u) u) ∧ (Rs.decB u = false → f0 = 0 ∧ f1 = 0 ∧ f2 = 0 ∧ f3 = 0 ∧ f4 = 0) := by
  unfold decV
  split
  · rename_i h
    exact ⟨_, _, _, _, _, rfl, fun _ => ⟨rfl, rfl, rfl, rfl, rfl⟩, fun h2 => by rw [h] at h2; cases h2⟩
  · rename_i h
    exact ⟨0, 0, 0, 0, 0, rfl, fun h2 => absurd h2 h, fun _ => ⟨rfl, rfl, rfl, rfl, rfl⟩⟩
theorem renc_at (op a b c n W E : Int) (hW : Rs.encW op a b c n = W) (hE : Rs.encE op a b c n = E) (w : World) : Calls Try.prog 9 #[.agg #[.int .i64 op, .int .i64 a, .int .i64 b, .int .i64 c, .int .i64 n]] w fun e w' => e = .returned (.tuple #[.int .u32 W, .int .i64 E]) ∧ Below w.heap.size w w' := by
  subst hW hE
  exact rencode_any op a b c n w
theorem dec_at (u : Int) (h : 0 ≤ u ∧ u < 4294967296) {f0 f1 f2 f3 f4 : Int} {B : Bool} (hd : decV u = .agg #[.int .i64 f0, .int .i64 f1, .int .i64 f2, .int .i64 f3, .int .i64 f4]) (hB : Rs.decB u = B) (w : World) :
    Calls Try.prog 10 #[.int .u32 u] w fun e w' => e = .returned (.tuple #[.agg #[.int .i64 f0, .int .i64 f1, .int .i64 f2, .int .i64 f3, .int .i64 f4], .bool B]) ∧ Below w.heap.size w w' := by
  have := decode_any u w h.1 h.2
  unfold DecPost at this
  rw [hd, hB] at this
  exact this
theorem rdec_at (u : Int) (h : 0 ≤ u ∧ u < 4294967296) {f0 f1 f2 f3 f4 : Int} {B : Bool} (hd : decV u = .agg #[.int .i64 f0, .int .i64 f1, .int .i64 f2, .int .i64 f3, .int .i64 f4]) (hB : Rs.decB u = B) (w : World) :
    Calls Try.prog 11 #[.int .u32 u] w fun e w' => e = .returned (.tuple #[.agg #[.int .i64 f0, .int .i64 f1, .int .i64 f2, .int .i64 f3, .int .i64 f4], .bool B]) ∧ Below w.heap.size w w' := by
  have := rdecode_any u w h.1 h.2
  unfold DecPost at this
  rw [hd, hB] at this
  exact this
/-- A block of an instruction, kept. -/
theorem instr_cells {w : World} {k : Nat} {f0 f1 f2 f3 f4 : Int} {t : TypeId} (h : w.heap[k]? = some (.cells #[.int .i64 f0, .int .i64 f1, .int .i64 f2, .int .i64 f3, .int .i64 f4] t (0, 0))) :
    w.cell? ⟨k, 0, none⟩ = some (.int .i64 f0) ∧ w.cell? ⟨k, 1, none⟩ = some (.int .i64 f1) ∧ w.cell? ⟨k, 2, none⟩ = some (.int .i64 f2) ∧ w.cell? ⟨k, 3, none⟩ = some (.int .i64 f3) ∧ w.cell? ⟨k, 4, none⟩ = some (.int .i64 f4) := by
  refine ⟨?_, ?_, ?_, ?_, ?_⟩ <;> (rw [cell_of_row w k _ _ _ _ h]; rfl)

set_option maxHeartbeats 8000000 in
set_option maxRecDepth 100000 in
theorem words_walk (x0 x1 x2 x3 x4 u : Int) (hu : 0 ≤ u ∧ u < 4294967296) (w : World) :
    Calls Try.prog 3 #[.agg #[.int .i64 x0, .int .i64 x1, .int .i64 x2, .int .i64 x3, .int .i64 x4], .int .u32 u] w fun e w' => e = .returned (.bool true) ∧ Below w.heap.size w w' := by
  obtain ⟨f0, f1, f2, f3, f4, hd, -, -⟩ := decV_agg u
  obtain ⟨B, hB⟩ : ∃ B, Rs.decB u = B := ⟨_, rfl⟩
  obtain ⟨W, hW⟩ : ∃ W, Rs.encW x0 x1 x2 x3 x4 = W := ⟨_, rfl⟩
  obtain ⟨E, hE⟩ : ∃ E, Rs.encE x0 x1 x2 x3 x4 = E := ⟨_, rfl⟩
  have HD := Lib.hid hd
  have HBB := Lib.hid hB
  have HW := Lib.hid hW
  have HE := Lib.hid hE
  have HU := Lib.hid hu
  clear hd hB hW hE hu
  have I0 : Hid ((w.alloc (.cells #[.int .i64 x0, .int .i64 x1, .int .i64 x2, .int .i64 x3, .int .i64 x4] 23)).heap[w.heap.size]? = _) := heap_alloc_new w _
  go_enter Try.func3, Try.ntmps3
  go_wp2_with fail
  with_reducible refine (enc_at x0 x1 x2 x3 x4 W E HW.out HE.out _).mono ?_
  rintro e w1 ⟨rfl, hb1⟩
  have J1 : Hid (w1.heap[w.heap.size]? = some (.cells #[.int .i64 x0, .int .i64 x1, .int .i64 x2, .int .i64 x3, .int .i64 x4] 23 (0, 0))) := (hb1.block _ (by simp)).trans I0.out
  obtain ⟨p0, p1, p2, p3, p4⟩ := instr_cells J1.out
  have B1 : Hid (Below w.heap.size w w1) := ((Below.refl _ _).alloc (Nat.le_refl _) _).trans (hb1.mono (by simp))
  clear hb1
  go_wp2_with fail
  with_reducible refine (renc_at x0 x1 x2 x3 x4 W E HW.out HE.out _).mono ?_
  rintro e w2 ⟨rfl, hb2⟩
  have B2 : Hid (Below w.heap.size w w2) := B1.out.trans (hb2.mono B1.out.size)
  clear hb2 p0 p1 p2 p3 p4 J1 I0
  go_wp2_with fail
  with_reducible refine (dec_at u HU.out HD.out HBB.out _).mono ?_
  rintro e w3 ⟨rfl, hb3⟩
  have B3 : Hid (Below w.heap.size w w3) := B2.out.trans (hb3.mono B2.out.size)
  clear hb3
  go_wp2_with fail
  with_reducible refine (rdec_at u HU.out HD.out HBB.out _).mono ?_
  rintro e w4 ⟨rfl, hb4⟩
  have J4 : Hid (w4.heap[w3.heap.size]? = some (.cells #[.int .i64 f0, .int .i64 f1, .int .i64 f2, .int .i64 f3, .int .i64 f4] 23 (0, 0))) := (hb4.block _ (by simp)).trans (heap_alloc_new w3 _)
  have s4 : w3.heap.size + 1 ≤ w4.heap.size := by have := hb4.size; simpa using this
  have B4 : Hid (Below w.heap.size w w4) := (B3.out.alloc B3.out.size _).trans (hb4.mono (by have := B3.out.size; simp; omega))
  clear hb4
  go_wp2_with fail
  with_reducible refine (fixed_any _).mono ?_
  rintro e w5 ⟨rfl, hb5⟩
  have J5 : Hid (w5.heap[w3.heap.size]? = some (.cells #[.int .i64 f0, .int .i64 f1, .int .i64 f2, .int .i64 f3, .int .i64 f4] 23 (0, 0))) := (hb5.block _ (by simp; omega)).trans ((heap_alloc_old _ _ (by omega)).trans J4.out)
  have K5 : Hid (w5.heap[w4.heap.size]? = some (.cells #[.int .i64 f0, .int .i64 f1, .int .i64 f2, .int .i64 f3, .int .i64 f4] 23 (0, 0))) := (hb5.block _ (by simp)).trans (heap_alloc_new w4 _)
  obtain ⟨p0, p1, p2, p3, p4⟩ := instr_cells J5.out
  obtain ⟨q0, q1, q2, q3, q4⟩ := instr_cells K5.out
  have B5 : Hid (Below w.heap.size w w5) := (B4.out.alloc B4.out.size _).trans (hb5.mono (by have := B4.out.size; simp; omega))
  clear hb5
  go_wp2_with fail
  all_goals
    go_ret
    exact ⟨rfl, B5.out⟩
end Go.Proofs.Ytembhjfejhnpfaa
