/- The reference's Decode. -/
import Derived.Test.YtbcpflogkniojaaQMB
namespace Go.Proofs.Ytbcpflogkniojaa
open Go.RowKit
set_option linter.unusedSimpArgs false
set_option linter.unusedVariables false
theorem rencode_agg (op a b c n : Int) (w : World) : Calls Try.prog 27 #[.agg #[.int .i64 op, .int .i64 a, .int .i64 b, .int .i64 c, .int .i64 n]] w (EncPost op a b c n w) := rencode_any op a b c n w
theorem dec_7 (x : Int) (h : Rs.form (Rs.fO x) = 7) : Rs.decB x = false ∧ decV x = iv 0 0 0 0 0 := by
  have : Rs.decB x = false := decide_eq_false (fun h2 => by rw [(form7_bad h).2] at h2; exact absurd h2.1 (by decide))
  exact ⟨this, if_neg (by rw [this]; simp)⟩
set_option maxHeartbeats 16000000 in
theorem rdecode_any (x : Int) (w : World) (x1 : 0 ≤ x) (x2 : x < 4294967296) : Calls Try.prog 12 #[.int .u32 x] w (DecPost x w) := by
  by_cases hbig : 32 ≤ x / 67108864
  · have hz := Lib.hid (dec_7 x (form7_of (.inr (by unfold Rs.fO; omega))))
    go_enter Try.func12, Try.ntmps12
    go_wp2_with fail
    refine (rows_any _).mono ?_
    rintro e w1 ⟨rb, cap, rfl, hb1, hb2, hrows, hbel⟩
    obtain ⟨hcc, hff⟩ := bcell hbel
    have hz0 : w.heap.size < w1.heap.size := by simp at hb1; omega
    have q0 : w1.cell? ⟨w.heap.size, 0, none⟩ = some (.int .i64 0) := (hcc _ _ (by simp)).trans (by go_simp)
    have q1 : w1.cell? ⟨w.heap.size, 1, none⟩ = some (.int .i64 0) := (hcc _ _ (by simp)).trans (by go_simp)
    have q2 : w1.cell? ⟨w.heap.size, 2, none⟩ = some (.int .i64 0) := (hcc _ _ (by simp)).trans (by go_simp)
    have q3 : w1.cell? ⟨w.heap.size, 3, none⟩ = some (.int .i64 0) := (hcc _ _ (by simp)).trans (by go_simp)
    have q4 : w1.cell? ⟨w.heap.size, 4, none⟩ = some (.int .i64 0) := (hcc _ _ (by simp)).trans (by go_simp)
    have HB := Lib.hid (((Below.refl w.heap.size w).alloc (Nat.le_refl _) _).trans (hbel.mono (by simp)))
    clear hbel hrows hb1
    go_wp2
    refine bodyPost_ret (v := .tuple #[iv 0 0 0 0 0, .bool false]) (by simp [results, Try.results12, go_sem, iv, q0, q1, q2, q3, q4, hz0]) rfl ?_
    unfold DecPost
    rw [hz.out.1, hz.out.2]
    exact ⟨rfl, (((((HB.out.setCell (Nat.le_refl _) _).setCell (Nat.le_refl _) _).setCell (Nat.le_refl _) _).setCell (Nat.le_refl _) _).setCell (Nat.le_refl _) _).alloc (by simp; omega) _⟩
  obtain ⟨k, hk⟩ : ∃ k : Nat, x / 67108864 = k := ⟨(x / 67108864).toNat, by omega⟩
  have hop : Hid ((k : Int) = Rs.fO x) := hk.symm
  have hk32 : k < 32 := by omega
  clear hbig
  obtain ⟨a1, a2⟩ := Rs.fA_range x
  obtain ⟨b1, b2⟩ := Rs.fB_range k x
  obtain ⟨c1, c2⟩ := Rs.fC_range k x
  obtain ⟨n1, n2⟩ := Rs.fN_range k x
  have h7 := Lib.hid (form7_not (op := (k : Int)) (by omega))
  have gA : x / 2097152 % 32 = Rs.fA x := rfl
  rcases Rs.form_8 k with hF | hF | hF | hF | hF | hF | hF | hF
  · have eB : Hid (0 = Rs.fB k x) := by unfold Hid; unfold Rs.fB Rs.hasB; rw [hF]; rfl
    have eC : Hid (0 = Rs.fC k x) := by unfold Hid; unfold Rs.fC Rs.hasC; rw [hF]; rfl
    have hn : Hid ((0 : Int) = Rs.fN k x) := by unfold Hid; exact (Rs.fN_zero (by unfold Rs.nmod; rw [hF]; rfl) x).symm
    have hcl := Lib.hid (dec_close x hop.out rfl eB.out eC.out hn.out)
    skip
    skip
    have e1 : Rs.hasB k = false := by unfold Rs.hasB; rw [hF]; rfl
    have e2 : Rs.hasC k = false := by unfold Rs.hasC; rw [hF]; rfl
    have e3 : Rs.bitsOf k = 0 := by unfold Rs.bitsOf; rw [hF]; rfl
    skip
    go_enter Try.func12, Try.ntmps12
    go_wp2_with fail
    refine (rows_any _).mono ?_
    rintro e w1 ⟨rb, cap, rfl, hb1, hb2, hrows, hbel⟩
    obtain ⟨hcc, hff⟩ := bcell hbel
    obtain ⟨r0, r1, r2, r3, r4, r5⟩ := hrows k hk32
    rw [e1] at r1
    rw [e2] at r2
    rw [e3] at r3
    have hz0 : w.heap.size < w1.heap.size := by simp at hb1; omega
    have q0 : w1.cell? ⟨w.heap.size, 0, none⟩ = some (.int .i64 0) := (hcc _ _ (by simp)).trans (by go_simp)
    have q1 : w1.cell? ⟨w.heap.size, 1, none⟩ = some (.int .i64 0) := (hcc _ _ (by simp)).trans (by go_simp)
    have q2 : w1.cell? ⟨w.heap.size, 2, none⟩ = some (.int .i64 0) := (hcc _ _ (by simp)).trans (by go_simp)
    have q3 : w1.cell? ⟨w.heap.size, 3, none⟩ = some (.int .i64 0) := (hcc _ _ (by simp)).trans (by go_simp)
    have q4 : w1.cell? ⟨w.heap.size, 4, none⟩ = some (.int .i64 0) := (hcc _ _ (by simp)).trans (by go_simp)
    have p0 : w1.frozen? ⟨w.heap.size, 0, none⟩ = false := (hff _ _ (by simp)).trans (by go_simp)
    have p1 : w1.frozen? ⟨w.heap.size, 1, none⟩ = false := (hff _ _ (by simp)).trans (by go_simp)
    have p2 : w1.frozen? ⟨w.heap.size, 2, none⟩ = false := (hff _ _ (by simp)).trans (by go_simp)
    have p3 : w1.frozen? ⟨w.heap.size, 3, none⟩ = false := (hff _ _ (by simp)).trans (by go_simp)
    have p4 : w1.frozen? ⟨w.heap.size, 4, none⟩ = false := (hff _ _ (by simp)).trans (by go_simp)
    have HB := Lib.hid (((Below.refl w.heap.size w).alloc (Nat.le_refl _) _).trans (hbel.mono (by simp)))
    have HF := Lib.hid hF
    clear hbel hrows hb1 e1 e2 e3 hcc hff hF
    go_wp2_with fail
    (with_reducible refine (rencode_agg k (Rs.fA x) (0) (0) (0) _).mono ?_)
    rintro e w2 ⟨rfl, hbel⟩
    obtain ⟨hcc, hff⟩ := bcell hbel
    have hz : w1.heap.size + 1 < w2.heap.size := by have := hbel.size; simp at this; omega
    have hz1 : w1.heap.size < w2.heap.size := by omega
    have hz2 : w.heap.size < w2.heap.size := by omega
    have y0 : w2.cell? ⟨w.heap.size, 0, none⟩ = some (.int .i64 0) := (hcc _ _ (by simp; omega)).trans (by go_simp)
    have y1 : w2.cell? ⟨w.heap.size, 1, none⟩ = some (.int .i64 0) := (hcc _ _ (by simp; omega)).trans (by go_simp)
    have y2 : w2.cell? ⟨w.heap.size, 2, none⟩ = some (.int .i64 0) := (hcc _ _ (by simp; omega)).trans (by go_simp)
    have y3 : w2.cell? ⟨w.heap.size, 3, none⟩ = some (.int .i64 0) := (hcc _ _ (by simp; omega)).trans (by go_simp)
    have y4 : w2.cell? ⟨w.heap.size, 4, none⟩ = some (.int .i64 0) := (hcc _ _ (by simp; omega)).trans (by go_simp)
    have z0 : w2.frozen? ⟨w.heap.size, 0, none⟩ = false := (hff _ _ (by simp; omega)).trans (by go_simp)
    have z1 : w2.frozen? ⟨w.heap.size, 1, none⟩ = false := (hff _ _ (by simp; omega)).trans (by go_simp)
    have z2 : w2.frozen? ⟨w.heap.size, 2, none⟩ = false := (hff _ _ (by simp; omega)).trans (by go_simp)
    have z3 : w2.frozen? ⟨w.heap.size, 3, none⟩ = false := (hff _ _ (by simp; omega)).trans (by go_simp)
    have z4 : w2.frozen? ⟨w.heap.size, 4, none⟩ = false := (hff _ _ (by simp; omega)).trans (by go_simp)
    have HB2 := Lib.hid (((HB.out.alloc (by omega) _).alloc (by simp; omega) _).trans (hbel.mono (by simp; omega)))
    clear hbel
    rcases hcl.out with ⟨⟨p1, p2⟩, p3, p4⟩ | ⟨p1 | ⟨p1, p2⟩, p3, p4⟩
    · rw [p1, p2]
      have P3 := Lib.hid p3
      have P4 := Lib.hid p4
      clear p3 p4 p1 p2
      skip
      go_wp2
      refine bodyPost_ret (v := .tuple #[iv k (Rs.fA x) (0) (0) (0), .bool true]) (by simp [results, Try.results12, go_sem, iv, y0, y1, y2, y3, y4, hz2]) rfl ?_
      unfold DecPost
      rw [P3.out, P4.out]
      exact ⟨rfl, ((((HB2.out.setCell (Nat.le_refl _) _).setCell (Nat.le_refl _) _).setCell (Nat.le_refl _) _).setCell (Nat.le_refl _) _).setCell (Nat.le_refl _) _⟩
    · rw [p1]
      have P3 := Lib.hid p3
      have P4 := Lib.hid p4
      clear p3 p4 p1 
      skip
      go_wp2
      refine bodyPost_ret (v := .tuple #[iv 0 0 0 0 0, .bool false]) (by simp [results, Try.results12, go_sem, iv, y0, y1, y2, y3, y4, hz2]) rfl ?_
      unfold DecPost
      rw [P3.out, P4.out]
      exact ⟨rfl, ((((HB2.out.setCell (Nat.le_refl _) _).setCell (Nat.le_refl _) _).setCell (Nat.le_refl _) _).setCell (Nat.le_refl _) _).setCell (Nat.le_refl _) _⟩
    · rw [p1]
      have P3 := Lib.hid p3
      have P4 := Lib.hid p4
      clear p3 p4 p1 
      have p5 : (Rs.encW k (Rs.fA x) (0) (0) (0) != x) = true := by rw [bne_iff_ne]; exact p2
      go_wp2
      refine bodyPost_ret (v := .tuple #[iv 0 0 0 0 0, .bool false]) (by simp [results, Try.results12, go_sem, iv, y0, y1, y2, y3, y4, hz2]) rfl ?_
      unfold DecPost
      rw [P3.out, P4.out]
      exact ⟨rfl, ((((HB2.out.setCell (Nat.le_refl _) _).setCell (Nat.le_refl _) _).setCell (Nat.le_refl _) _).setCell (Nat.le_refl _) _).setCell (Nat.le_refl _) _⟩
  · have eB : Hid (Rs.fB k x = Rs.fB k x) := by unfold Hid; rfl
    have eC : Hid (Rs.fC k x = Rs.fC k x) := by unfold Hid; rfl
    have hn : Hid ((0 : Int) = Rs.fN k x) := by unfold Hid; exact (Rs.fN_zero (by unfold Rs.nmod; rw [hF]; rfl) x).symm
    have hcl := Lib.hid (dec_close x hop.out rfl eB.out eC.out hn.out)
    have gB : x / 65536 % 32 = Rs.fB k x := (if_pos (show Rs.hasB k = true by unfold Rs.hasB; rw [hF]; rfl)).symm
    have gC : x / 2048 % 32 = Rs.fC k x := (if_pos (show Rs.hasC k = true by unfold Rs.hasC; rw [hF]; rfl)).symm
    have e1 : Rs.hasB k = true := by unfold Rs.hasB; rw [hF]; rfl
    have e2 : Rs.hasC k = true := by unfold Rs.hasC; rw [hF]; rfl
    have e3 : Rs.bitsOf k = 0 := by unfold Rs.bitsOf; rw [hF]; rfl
    skip
    go_enter Try.func12, Try.ntmps12
    go_wp2_with fail
    refine (rows_any _).mono ?_
    rintro e w1 ⟨rb, cap, rfl, hb1, hb2, hrows, hbel⟩
    obtain ⟨hcc, hff⟩ := bcell hbel
    obtain ⟨r0, r1, r2, r3, r4, r5⟩ := hrows k hk32
    rw [e1] at r1
    rw [e2] at r2
    rw [e3] at r3
    have hz0 : w.heap.size < w1.heap.size := by simp at hb1; omega
    have q0 : w1.cell? ⟨w.heap.size, 0, none⟩ = some (.int .i64 0) := (hcc _ _ (by simp)).trans (by go_simp)
    have q1 : w1.cell? ⟨w.heap.size, 1, none⟩ = some (.int .i64 0) := (hcc _ _ (by simp)).trans (by go_simp)
    have q2 : w1.cell? ⟨w.heap.size, 2, none⟩ = some (.int .i64 0) := (hcc _ _ (by simp)).trans (by go_simp)
    have q3 : w1.cell? ⟨w.heap.size, 3, none⟩ = some (.int .i64 0) := (hcc _ _ (by simp)).trans (by go_simp)
    have q4 : w1.cell? ⟨w.heap.size, 4, none⟩ = some (.int .i64 0) := (hcc _ _ (by simp)).trans (by go_simp)
    have p0 : w1.frozen? ⟨w.heap.size, 0, none⟩ = false := (hff _ _ (by simp)).trans (by go_simp)
    have p1 : w1.frozen? ⟨w.heap.size, 1, none⟩ = false := (hff _ _ (by simp)).trans (by go_simp)
    have p2 : w1.frozen? ⟨w.heap.size, 2, none⟩ = false := (hff _ _ (by simp)).trans (by go_simp)
    have p3 : w1.frozen? ⟨w.heap.size, 3, none⟩ = false := (hff _ _ (by simp)).trans (by go_simp)
    have p4 : w1.frozen? ⟨w.heap.size, 4, none⟩ = false := (hff _ _ (by simp)).trans (by go_simp)
    have HB := Lib.hid (((Below.refl w.heap.size w).alloc (Nat.le_refl _) _).trans (hbel.mono (by simp)))
    have HF := Lib.hid hF
    clear hbel hrows hb1 e1 e2 e3 hcc hff hF
    go_wp2_with fail
    (with_reducible refine (rencode_agg k (Rs.fA x) (Rs.fB k x) (Rs.fC k x) (0) _).mono ?_)
    rintro e w2 ⟨rfl, hbel⟩
    obtain ⟨hcc, hff⟩ := bcell hbel
    have hz : w1.heap.size + 1 < w2.heap.size := by have := hbel.size; simp at this; omega
    have hz1 : w1.heap.size < w2.heap.size := by omega
    have hz2 : w.heap.size < w2.heap.size := by omega
    have y0 : w2.cell? ⟨w.heap.size, 0, none⟩ = some (.int .i64 0) := (hcc _ _ (by simp; omega)).trans (by go_simp)
    have y1 : w2.cell? ⟨w.heap.size, 1, none⟩ = some (.int .i64 0) := (hcc _ _ (by simp; omega)).trans (by go_simp)
    have y2 : w2.cell? ⟨w.heap.size, 2, none⟩ = some (.int .i64 0) := (hcc _ _ (by simp; omega)).trans (by go_simp)
    have y3 : w2.cell? ⟨w.heap.size, 3, none⟩ = some (.int .i64 0) := (hcc _ _ (by simp; omega)).trans (by go_simp)
    have y4 : w2.cell? ⟨w.heap.size, 4, none⟩ = some (.int .i64 0) := (hcc _ _ (by simp; omega)).trans (by go_simp)
    have z0 : w2.frozen? ⟨w.heap.size, 0, none⟩ = false := (hff _ _ (by simp; omega)).trans (by go_simp)
    have z1 : w2.frozen? ⟨w.heap.size, 1, none⟩ = false := (hff _ _ (by simp; omega)).trans (by go_simp)
    have z2 : w2.frozen? ⟨w.heap.size, 2, none⟩ = false := (hff _ _ (by simp; omega)).trans (by go_simp)
    have z3 : w2.frozen? ⟨w.heap.size, 3, none⟩ = false := (hff _ _ (by simp; omega)).trans (by go_simp)
    have z4 : w2.frozen? ⟨w.heap.size, 4, none⟩ = false := (hff _ _ (by simp; omega)).trans (by go_simp)
    have HB2 := Lib.hid (((HB.out.alloc (by omega) _).alloc (by simp; omega) _).trans (hbel.mono (by simp; omega)))
    clear hbel
    rcases hcl.out with ⟨⟨p1, p2⟩, p3, p4⟩ | ⟨p1 | ⟨p1, p2⟩, p3, p4⟩
    · rw [p1, p2]
      have P3 := Lib.hid p3
      have P4 := Lib.hid p4
      clear p3 p4 p1 p2
      skip
      go_wp2
      refine bodyPost_ret (v := .tuple #[iv k (Rs.fA x) (Rs.fB k x) (Rs.fC k x) (0), .bool true]) (by simp [results, Try.results12, go_sem, iv, y0, y1, y2, y3, y4, hz2]) rfl ?_
      unfold DecPost
      rw [P3.out, P4.out]
      exact ⟨rfl, ((((HB2.out.setCell (Nat.le_refl _) _).setCell (Nat.le_refl _) _).setCell (Nat.le_refl _) _).setCell (Nat.le_refl _) _).setCell (Nat.le_refl _) _⟩
    · rw [p1]
      have P3 := Lib.hid p3
      have P4 := Lib.hid p4
      clear p3 p4 p1 
      skip
      go_wp2
      refine bodyPost_ret (v := .tuple #[iv 0 0 0 0 0, .bool false]) (by simp [results, Try.results12, go_sem, iv, y0, y1, y2, y3, y4, hz2]) rfl ?_
      unfold DecPost
      rw [P3.out, P4.out]
      exact ⟨rfl, ((((HB2.out.setCell (Nat.le_refl _) _).setCell (Nat.le_refl _) _).setCell (Nat.le_refl _) _).setCell (Nat.le_refl _) _).setCell (Nat.le_refl _) _⟩
    · rw [p1]
      have P3 := Lib.hid p3
      have P4 := Lib.hid p4
      clear p3 p4 p1 
      have p5 : (Rs.encW k (Rs.fA x) (Rs.fB k x) (Rs.fC k x) (0) != x) = true := by rw [bne_iff_ne]; exact p2
      go_wp2
      refine bodyPost_ret (v := .tuple #[iv 0 0 0 0 0, .bool false]) (by simp [results, Try.results12, go_sem, iv, y0, y1, y2, y3, y4, hz2]) rfl ?_
      unfold DecPost
      rw [P3.out, P4.out]
      exact ⟨rfl, ((((HB2.out.setCell (Nat.le_refl _) _).setCell (Nat.le_refl _) _).setCell (Nat.le_refl _) _).setCell (Nat.le_refl _) _).setCell (Nat.le_refl _) _⟩
  · rcases (by omega : x % 65536 ≤ Rs.most k ∨ (Rs.most k < x % 65536 ∧ 0 ≤ Rs.least k) ∨ (Rs.most k < x % 65536 ∧ Rs.least k < 0)) with t1 | ⟨t1, t2⟩ | ⟨t1, t2⟩
    · have eB : Hid (Rs.fB k x = Rs.fB k x) := by unfold Hid; rfl
      have eC : Hid (0 = Rs.fC k x) := by unfold Hid; unfold Rs.fC Rs.hasC; rw [hF]; rfl
      have hnm : Rs.nmod k = 65536 := by unfold Rs.nmod; rw [hF]; rfl
      obtain ⟨m, hm⟩ : ∃ m, x % 65536 = m := ⟨_, rfl⟩
      rw [hm] at t1
      have m1 : 0 ≤ m := by omega
      have m2 : m < 65536 := by omega
      have hn : Hid (m = Rs.fN k x) := by unfold Hid Rs.fN; rw [hnm, hm, if_neg (by omega)]
      have hcl := Lib.hid (dec_close x hop.out rfl eB.out eC.out hn.out)
      have gB : x / 65536 % 32 = Rs.fB k x := (if_pos (show Rs.hasB k = true by unfold Rs.hasB; rw [hF]; rfl)).symm
      skip
      have e1 : Rs.hasB k = true := by unfold Rs.hasB; rw [hF]; rfl
      have e2 : Rs.hasC k = false := by unfold Rs.hasC; rw [hF]; rfl
      have e3 : Rs.bitsOf k = 16 := by unfold Rs.bitsOf; rw [hF]; rfl
      clear hnm
      go_enter Try.func12, Try.ntmps12
      go_wp2_with fail
      refine (rows_any _).mono ?_
      rintro e w1 ⟨rb, cap, rfl, hb1, hb2, hrows, hbel⟩
      obtain ⟨hcc, hff⟩ := bcell hbel
      obtain ⟨r0, r1, r2, r3, r4, r5⟩ := hrows k hk32
      rw [e1] at r1
      rw [e2] at r2
      rw [e3] at r3
      have hz0 : w.heap.size < w1.heap.size := by simp at hb1; omega
      have q0 : w1.cell? ⟨w.heap.size, 0, none⟩ = some (.int .i64 0) := (hcc _ _ (by simp)).trans (by go_simp)
      have q1 : w1.cell? ⟨w.heap.size, 1, none⟩ = some (.int .i64 0) := (hcc _ _ (by simp)).trans (by go_simp)
      have q2 : w1.cell? ⟨w.heap.size, 2, none⟩ = some (.int .i64 0) := (hcc _ _ (by simp)).trans (by go_simp)
      have q3 : w1.cell? ⟨w.heap.size, 3, none⟩ = some (.int .i64 0) := (hcc _ _ (by simp)).trans (by go_simp)
      have q4 : w1.cell? ⟨w.heap.size, 4, none⟩ = some (.int .i64 0) := (hcc _ _ (by simp)).trans (by go_simp)
      have p0 : w1.frozen? ⟨w.heap.size, 0, none⟩ = false := (hff _ _ (by simp)).trans (by go_simp)
      have p1 : w1.frozen? ⟨w.heap.size, 1, none⟩ = false := (hff _ _ (by simp)).trans (by go_simp)
      have p2 : w1.frozen? ⟨w.heap.size, 2, none⟩ = false := (hff _ _ (by simp)).trans (by go_simp)
      have p3 : w1.frozen? ⟨w.heap.size, 3, none⟩ = false := (hff _ _ (by simp)).trans (by go_simp)
      have p4 : w1.frozen? ⟨w.heap.size, 4, none⟩ = false := (hff _ _ (by simp)).trans (by go_simp)
      have HB := Lib.hid (((Below.refl w.heap.size w).alloc (Nat.le_refl _) _).trans (hbel.mono (by simp)))
      have HF := Lib.hid hF
      clear hbel hrows hb1 e1 e2 e3 hcc hff hF
      go_wp2_with fail
      (with_reducible refine (rencode_agg k (Rs.fA x) (Rs.fB k x) (0) (m) _).mono ?_)
      rintro e w2 ⟨rfl, hbel⟩
      obtain ⟨hcc, hff⟩ := bcell hbel
      have hz : w1.heap.size + 1 < w2.heap.size := by have := hbel.size; simp at this; omega
      have hz1 : w1.heap.size < w2.heap.size := by omega
      have hz2 : w.heap.size < w2.heap.size := by omega
      have y0 : w2.cell? ⟨w.heap.size, 0, none⟩ = some (.int .i64 0) := (hcc _ _ (by simp; omega)).trans (by go_simp)
      have y1 : w2.cell? ⟨w.heap.size, 1, none⟩ = some (.int .i64 0) := (hcc _ _ (by simp; omega)).trans (by go_simp)
      have y2 : w2.cell? ⟨w.heap.size, 2, none⟩ = some (.int .i64 0) := (hcc _ _ (by simp; omega)).trans (by go_simp)
      have y3 : w2.cell? ⟨w.heap.size, 3, none⟩ = some (.int .i64 0) := (hcc _ _ (by simp; omega)).trans (by go_simp)
      have y4 : w2.cell? ⟨w.heap.size, 4, none⟩ = some (.int .i64 0) := (hcc _ _ (by simp; omega)).trans (by go_simp)
      have z0 : w2.frozen? ⟨w.heap.size, 0, none⟩ = false := (hff _ _ (by simp; omega)).trans (by go_simp)
      have z1 : w2.frozen? ⟨w.heap.size, 1, none⟩ = false := (hff _ _ (by simp; omega)).trans (by go_simp)
      have z2 : w2.frozen? ⟨w.heap.size, 2, none⟩ = false := (hff _ _ (by simp; omega)).trans (by go_simp)
      have z3 : w2.frozen? ⟨w.heap.size, 3, none⟩ = false := (hff _ _ (by simp; omega)).trans (by go_simp)
      have z4 : w2.frozen? ⟨w.heap.size, 4, none⟩ = false := (hff _ _ (by simp; omega)).trans (by go_simp)
      have HB2 := Lib.hid (((HB.out.alloc (by omega) _).alloc (by simp; omega) _).trans (hbel.mono (by simp; omega)))
      clear hbel
      rcases hcl.out with ⟨⟨p1, p2⟩, p3, p4⟩ | ⟨p1 | ⟨p1, p2⟩, p3, p4⟩
      · rw [p1, p2]
        have P3 := Lib.hid p3
        have P4 := Lib.hid p4
        clear p3 p4 p1 p2
        skip
        go_wp2
        refine bodyPost_ret (v := .tuple #[iv k (Rs.fA x) (Rs.fB k x) (0) (m), .bool true]) (by simp [results, Try.results12, go_sem, iv, y0, y1, y2, y3, y4, hz2]) rfl ?_
        unfold DecPost
        rw [P3.out, P4.out]
        exact ⟨rfl, ((((HB2.out.setCell (Nat.le_refl _) _).setCell (Nat.le_refl _) _).setCell (Nat.le_refl _) _).setCell (Nat.le_refl _) _).setCell (Nat.le_refl _) _⟩
      · rw [p1]
        have P3 := Lib.hid p3
        have P4 := Lib.hid p4
        clear p3 p4 p1 
        skip
        go_wp2
        refine bodyPost_ret (v := .tuple #[iv 0 0 0 0 0, .bool false]) (by simp [results, Try.results12, go_sem, iv, y0, y1, y2, y3, y4, hz2]) rfl ?_
        unfold DecPost
        rw [P3.out, P4.out]
        exact ⟨rfl, ((((HB2.out.setCell (Nat.le_refl _) _).setCell (Nat.le_refl _) _).setCell (Nat.le_refl _) _).setCell (Nat.le_refl _) _).setCell (Nat.le_refl _) _⟩
      · rw [p1]
        have P3 := Lib.hid p3
        have P4 := Lib.hid p4
        clear p3 p4 p1 
        have p5 : (Rs.encW k (Rs.fA x) (Rs.fB k x) (0) (m) != x) = true := by rw [bne_iff_ne]; exact p2
        go_wp2
        refine bodyPost_ret (v := .tuple #[iv 0 0 0 0 0, .bool false]) (by simp [results, Try.results12, go_sem, iv, y0, y1, y2, y3, y4, hz2]) rfl ?_
        unfold DecPost
        rw [P3.out, P4.out]
        exact ⟨rfl, ((((HB2.out.setCell (Nat.le_refl _) _).setCell (Nat.le_refl _) _).setCell (Nat.le_refl _) _).setCell (Nat.le_refl _) _).setCell (Nat.le_refl _) _⟩
    · have eB : Hid (Rs.fB k x = Rs.fB k x) := by unfold Hid; rfl
      have eC : Hid (0 = Rs.fC k x) := by unfold Hid; unfold Rs.fC Rs.hasC; rw [hF]; rfl
      have hnm : Rs.nmod k = 65536 := by unfold Rs.nmod; rw [hF]; rfl
      obtain ⟨m, hm⟩ : ∃ m, x % 65536 = m := ⟨_, rfl⟩
      rw [hm] at t1
      have m1 : 0 ≤ m := by omega
      have m2 : m < 65536 := by omega
      have hn : Hid (m = Rs.fN k x) := by unfold Hid Rs.fN; rw [hnm, hm, if_neg (by omega)]
      have hcl := Lib.hid (dec_close x hop.out rfl eB.out eC.out hn.out)
      have gB : x / 65536 % 32 = Rs.fB k x := (if_pos (show Rs.hasB k = true by unfold Rs.hasB; rw [hF]; rfl)).symm
      skip
      have e1 : Rs.hasB k = true := by unfold Rs.hasB; rw [hF]; rfl
      have e2 : Rs.hasC k = false := by unfold Rs.hasC; rw [hF]; rfl
      have e3 : Rs.bitsOf k = 16 := by unfold Rs.bitsOf; rw [hF]; rfl
      clear hnm
      go_enter Try.func12, Try.ntmps12
      go_wp2_with fail
      refine (rows_any _).mono ?_
      rintro e w1 ⟨rb, cap, rfl, hb1, hb2, hrows, hbel⟩
      obtain ⟨hcc, hff⟩ := bcell hbel
      obtain ⟨r0, r1, r2, r3, r4, r5⟩ := hrows k hk32
      rw [e1] at r1
      rw [e2] at r2
      rw [e3] at r3
      have hz0 : w.heap.size < w1.heap.size := by simp at hb1; omega
      have q0 : w1.cell? ⟨w.heap.size, 0, none⟩ = some (.int .i64 0) := (hcc _ _ (by simp)).trans (by go_simp)
      have q1 : w1.cell? ⟨w.heap.size, 1, none⟩ = some (.int .i64 0) := (hcc _ _ (by simp)).trans (by go_simp)
      have q2 : w1.cell? ⟨w.heap.size, 2, none⟩ = some (.int .i64 0) := (hcc _ _ (by simp)).trans (by go_simp)
      have q3 : w1.cell? ⟨w.heap.size, 3, none⟩ = some (.int .i64 0) := (hcc _ _ (by simp)).trans (by go_simp)
      have q4 : w1.cell? ⟨w.heap.size, 4, none⟩ = some (.int .i64 0) := (hcc _ _ (by simp)).trans (by go_simp)
      have p0 : w1.frozen? ⟨w.heap.size, 0, none⟩ = false := (hff _ _ (by simp)).trans (by go_simp)
      have p1 : w1.frozen? ⟨w.heap.size, 1, none⟩ = false := (hff _ _ (by simp)).trans (by go_simp)
      have p2 : w1.frozen? ⟨w.heap.size, 2, none⟩ = false := (hff _ _ (by simp)).trans (by go_simp)
      have p3 : w1.frozen? ⟨w.heap.size, 3, none⟩ = false := (hff _ _ (by simp)).trans (by go_simp)
      have p4 : w1.frozen? ⟨w.heap.size, 4, none⟩ = false := (hff _ _ (by simp)).trans (by go_simp)
      have HB := Lib.hid (((Below.refl w.heap.size w).alloc (Nat.le_refl _) _).trans (hbel.mono (by simp)))
      have HF := Lib.hid hF
      clear hbel hrows hb1 e1 e2 e3 hcc hff hF
      go_wp2_with fail
      (with_reducible refine (rencode_agg k (Rs.fA x) (Rs.fB k x) (0) (m) _).mono ?_)
      rintro e w2 ⟨rfl, hbel⟩
      obtain ⟨hcc, hff⟩ := bcell hbel
      have hz : w1.heap.size + 1 < w2.heap.size := by have := hbel.size; simp at this; omega
      have hz1 : w1.heap.size < w2.heap.size := by omega
      have hz2 : w.heap.size < w2.heap.size := by omega
      have y0 : w2.cell? ⟨w.heap.size, 0, none⟩ = some (.int .i64 0) := (hcc _ _ (by simp; omega)).trans (by go_simp)
      have y1 : w2.cell? ⟨w.heap.size, 1, none⟩ = some (.int .i64 0) := (hcc _ _ (by simp; omega)).trans (by go_simp)
      have y2 : w2.cell? ⟨w.heap.size, 2, none⟩ = some (.int .i64 0) := (hcc _ _ (by simp; omega)).trans (by go_simp)
      have y3 : w2.cell? ⟨w.heap.size, 3, none⟩ = some (.int .i64 0) := (hcc _ _ (by simp; omega)).trans (by go_simp)
      have y4 : w2.cell? ⟨w.heap.size, 4, none⟩ = some (.int .i64 0) := (hcc _ _ (by simp; omega)).trans (by go_simp)
      have z0 : w2.frozen? ⟨w.heap.size, 0, none⟩ = false := (hff _ _ (by simp; omega)).trans (by go_simp)
      have z1 : w2.frozen? ⟨w.heap.size, 1, none⟩ = false := (hff _ _ (by simp; omega)).trans (by go_simp)
      have z2 : w2.frozen? ⟨w.heap.size, 2, none⟩ = false := (hff _ _ (by simp; omega)).trans (by go_simp)
      have z3 : w2.frozen? ⟨w.heap.size, 3, none⟩ = false := (hff _ _ (by simp; omega)).trans (by go_simp)
      have z4 : w2.frozen? ⟨w.heap.size, 4, none⟩ = false := (hff _ _ (by simp; omega)).trans (by go_simp)
      have HB2 := Lib.hid (((HB.out.alloc (by omega) _).alloc (by simp; omega) _).trans (hbel.mono (by simp; omega)))
      clear hbel
      rcases hcl.out with ⟨⟨p1, p2⟩, p3, p4⟩ | ⟨p1 | ⟨p1, p2⟩, p3, p4⟩
      · rw [p1, p2]
        have P3 := Lib.hid p3
        have P4 := Lib.hid p4
        clear p3 p4 p1 p2
        skip
        go_wp2
        refine bodyPost_ret (v := .tuple #[iv k (Rs.fA x) (Rs.fB k x) (0) (m), .bool true]) (by simp [results, Try.results12, go_sem, iv, y0, y1, y2, y3, y4, hz2]) rfl ?_
        unfold DecPost
        rw [P3.out, P4.out]
        exact ⟨rfl, ((((HB2.out.setCell (Nat.le_refl _) _).setCell (Nat.le_refl _) _).setCell (Nat.le_refl _) _).setCell (Nat.le_refl _) _).setCell (Nat.le_refl _) _⟩
      · rw [p1]
        have P3 := Lib.hid p3
        have P4 := Lib.hid p4
        clear p3 p4 p1 
        skip
        go_wp2
        refine bodyPost_ret (v := .tuple #[iv 0 0 0 0 0, .bool false]) (by simp [results, Try.results12, go_sem, iv, y0, y1, y2, y3, y4, hz2]) rfl ?_
        unfold DecPost
        rw [P3.out, P4.out]
        exact ⟨rfl, ((((HB2.out.setCell (Nat.le_refl _) _).setCell (Nat.le_refl _) _).setCell (Nat.le_refl _) _).setCell (Nat.le_refl _) _).setCell (Nat.le_refl _) _⟩
      · rw [p1]
        have P3 := Lib.hid p3
        have P4 := Lib.hid p4
        clear p3 p4 p1 
        have p5 : (Rs.encW k (Rs.fA x) (Rs.fB k x) (0) (m) != x) = true := by rw [bne_iff_ne]; exact p2
        go_wp2
        refine bodyPost_ret (v := .tuple #[iv 0 0 0 0 0, .bool false]) (by simp [results, Try.results12, go_sem, iv, y0, y1, y2, y3, y4, hz2]) rfl ?_
        unfold DecPost
        rw [P3.out, P4.out]
        exact ⟨rfl, ((((HB2.out.setCell (Nat.le_refl _) _).setCell (Nat.le_refl _) _).setCell (Nat.le_refl _) _).setCell (Nat.le_refl _) _).setCell (Nat.le_refl _) _⟩
    · have eB : Hid (Rs.fB k x = Rs.fB k x) := by unfold Hid; rfl
      have eC : Hid (0 = Rs.fC k x) := by unfold Hid; unfold Rs.fC Rs.hasC; rw [hF]; rfl
      have hnm : Rs.nmod k = 65536 := by unfold Rs.nmod; rw [hF]; rfl
      obtain ⟨m, hm⟩ : ∃ m, x % 65536 = m := ⟨_, rfl⟩
      rw [hm] at t1
      have m1 : 0 ≤ m := by omega
      have m2 : m < 65536 := by omega
      have hn : Hid (m - 65536 = Rs.fN k x) := by unfold Hid Rs.fN; rw [hnm, hm, if_pos ⟨t1, t2⟩]
      have hcl := Lib.hid (dec_close x hop.out rfl eB.out eC.out hn.out)
      have gB : x / 65536 % 32 = Rs.fB k x := (if_pos (show Rs.hasB k = true by unfold Rs.hasB; rw [hF]; rfl)).symm
      skip
      have e1 : Rs.hasB k = true := by unfold Rs.hasB; rw [hF]; rfl
      have e2 : Rs.hasC k = false := by unfold Rs.hasC; rw [hF]; rfl
      have e3 : Rs.bitsOf k = 16 := by unfold Rs.bitsOf; rw [hF]; rfl
      clear hnm
      go_enter Try.func12, Try.ntmps12
      go_wp2_with fail
      refine (rows_any _).mono ?_
      rintro e w1 ⟨rb, cap, rfl, hb1, hb2, hrows, hbel⟩
      obtain ⟨hcc, hff⟩ := bcell hbel
      obtain ⟨r0, r1, r2, r3, r4, r5⟩ := hrows k hk32
      rw [e1] at r1
      rw [e2] at r2
      rw [e3] at r3
      have hz0 : w.heap.size < w1.heap.size := by simp at hb1; omega
      have q0 : w1.cell? ⟨w.heap.size, 0, none⟩ = some (.int .i64 0) := (hcc _ _ (by simp)).trans (by go_simp)
      have q1 : w1.cell? ⟨w.heap.size, 1, none⟩ = some (.int .i64 0) := (hcc _ _ (by simp)).trans (by go_simp)
      have q2 : w1.cell? ⟨w.heap.size, 2, none⟩ = some (.int .i64 0) := (hcc _ _ (by simp)).trans (by go_simp)
      have q3 : w1.cell? ⟨w.heap.size, 3, none⟩ = some (.int .i64 0) := (hcc _ _ (by simp)).trans (by go_simp)
      have q4 : w1.cell? ⟨w.heap.size, 4, none⟩ = some (.int .i64 0) := (hcc _ _ (by simp)).trans (by go_simp)
      have p0 : w1.frozen? ⟨w.heap.size, 0, none⟩ = false := (hff _ _ (by simp)).trans (by go_simp)
      have p1 : w1.frozen? ⟨w.heap.size, 1, none⟩ = false := (hff _ _ (by simp)).trans (by go_simp)
      have p2 : w1.frozen? ⟨w.heap.size, 2, none⟩ = false := (hff _ _ (by simp)).trans (by go_simp)
      have p3 : w1.frozen? ⟨w.heap.size, 3, none⟩ = false := (hff _ _ (by simp)).trans (by go_simp)
      have p4 : w1.frozen? ⟨w.heap.size, 4, none⟩ = false := (hff _ _ (by simp)).trans (by go_simp)
      have HB := Lib.hid (((Below.refl w.heap.size w).alloc (Nat.le_refl _) _).trans (hbel.mono (by simp)))
      have HF := Lib.hid hF
      clear hbel hrows hb1 e1 e2 e3 hcc hff hF
      go_wp2_with fail
      (with_reducible refine (rencode_agg k (Rs.fA x) (Rs.fB k x) (0) (m - 65536) _).mono ?_)
      rintro e w2 ⟨rfl, hbel⟩
      obtain ⟨hcc, hff⟩ := bcell hbel
      have hz : w1.heap.size + 1 < w2.heap.size := by have := hbel.size; simp at this; omega
      have hz1 : w1.heap.size < w2.heap.size := by omega
      have hz2 : w.heap.size < w2.heap.size := by omega
      have y0 : w2.cell? ⟨w.heap.size, 0, none⟩ = some (.int .i64 0) := (hcc _ _ (by simp; omega)).trans (by go_simp)
      have y1 : w2.cell? ⟨w.heap.size, 1, none⟩ = some (.int .i64 0) := (hcc _ _ (by simp; omega)).trans (by go_simp)
      have y2 : w2.cell? ⟨w.heap.size, 2, none⟩ = some (.int .i64 0) := (hcc _ _ (by simp; omega)).trans (by go_simp)
      have y3 : w2.cell? ⟨w.heap.size, 3, none⟩ = some (.int .i64 0) := (hcc _ _ (by simp; omega)).trans (by go_simp)
      have y4 : w2.cell? ⟨w.heap.size, 4, none⟩ = some (.int .i64 0) := (hcc _ _ (by simp; omega)).trans (by go_simp)
      have z0 : w2.frozen? ⟨w.heap.size, 0, none⟩ = false := (hff _ _ (by simp; omega)).trans (by go_simp)
      have z1 : w2.frozen? ⟨w.heap.size, 1, none⟩ = false := (hff _ _ (by simp; omega)).trans (by go_simp)
      have z2 : w2.frozen? ⟨w.heap.size, 2, none⟩ = false := (hff _ _ (by simp; omega)).trans (by go_simp)
      have z3 : w2.frozen? ⟨w.heap.size, 3, none⟩ = false := (hff _ _ (by simp; omega)).trans (by go_simp)
      have z4 : w2.frozen? ⟨w.heap.size, 4, none⟩ = false := (hff _ _ (by simp; omega)).trans (by go_simp)
      have HB2 := Lib.hid (((HB.out.alloc (by omega) _).alloc (by simp; omega) _).trans (hbel.mono (by simp; omega)))
      clear hbel
      rcases hcl.out with ⟨⟨p1, p2⟩, p3, p4⟩ | ⟨p1 | ⟨p1, p2⟩, p3, p4⟩
      · rw [p1, p2]
        have P3 := Lib.hid p3
        have P4 := Lib.hid p4
        clear p3 p4 p1 p2
        skip
        go_wp2
        refine bodyPost_ret (v := .tuple #[iv k (Rs.fA x) (Rs.fB k x) (0) (m - 65536), .bool true]) (by simp [results, Try.results12, go_sem, iv, y0, y1, y2, y3, y4, hz2]) rfl ?_
        unfold DecPost
        rw [P3.out, P4.out]
        exact ⟨rfl, ((((HB2.out.setCell (Nat.le_refl _) _).setCell (Nat.le_refl _) _).setCell (Nat.le_refl _) _).setCell (Nat.le_refl _) _).setCell (Nat.le_refl _) _⟩
      · rw [p1]
        have P3 := Lib.hid p3
        have P4 := Lib.hid p4
        clear p3 p4 p1 
        skip
        go_wp2
        refine bodyPost_ret (v := .tuple #[iv 0 0 0 0 0, .bool false]) (by simp [results, Try.results12, go_sem, iv, y0, y1, y2, y3, y4, hz2]) rfl ?_
        unfold DecPost
        rw [P3.out, P4.out]
        exact ⟨rfl, ((((HB2.out.setCell (Nat.le_refl _) _).setCell (Nat.le_refl _) _).setCell (Nat.le_refl _) _).setCell (Nat.le_refl _) _).setCell (Nat.le_refl _) _⟩
      · rw [p1]
        have P3 := Lib.hid p3
        have P4 := Lib.hid p4
        clear p3 p4 p1 
        have p5 : (Rs.encW k (Rs.fA x) (Rs.fB k x) (0) (m - 65536) != x) = true := by rw [bne_iff_ne]; exact p2
        go_wp2
        refine bodyPost_ret (v := .tuple #[iv 0 0 0 0 0, .bool false]) (by simp [results, Try.results12, go_sem, iv, y0, y1, y2, y3, y4, hz2]) rfl ?_
        unfold DecPost
        rw [P3.out, P4.out]
        exact ⟨rfl, ((((HB2.out.setCell (Nat.le_refl _) _).setCell (Nat.le_refl _) _).setCell (Nat.le_refl _) _).setCell (Nat.le_refl _) _).setCell (Nat.le_refl _) _⟩
  · rcases (by omega : x % 65536 ≤ Rs.most k ∨ (Rs.most k < x % 65536 ∧ 0 ≤ Rs.least k) ∨ (Rs.most k < x % 65536 ∧ Rs.least k < 0)) with t1 | ⟨t1, t2⟩ | ⟨t1, t2⟩
    · have eB : Hid (0 = Rs.fB k x) := by unfold Hid; unfold Rs.fB Rs.hasB; rw [hF]; rfl
      have eC : Hid (0 = Rs.fC k x) := by unfold Hid; unfold Rs.fC Rs.hasC; rw [hF]; rfl
      have hnm : Rs.nmod k = 65536 := by unfold Rs.nmod; rw [hF]; rfl
      obtain ⟨m, hm⟩ : ∃ m, x % 65536 = m := ⟨_, rfl⟩
      rw [hm] at t1
      have m1 : 0 ≤ m := by omega
      have m2 : m < 65536 := by omega
      have hn : Hid (m = Rs.fN k x) := by unfold Hid Rs.fN; rw [hnm, hm, if_neg (by omega)]
      have hcl := Lib.hid (dec_close x hop.out rfl eB.out eC.out hn.out)
      skip
      skip
      have e1 : Rs.hasB k = false := by unfold Rs.hasB; rw [hF]; rfl
      have e2 : Rs.hasC k = false := by unfold Rs.hasC; rw [hF]; rfl
      have e3 : Rs.bitsOf k = 16 := by unfold Rs.bitsOf; rw [hF]; rfl
      clear hnm
      go_enter Try.func12, Try.ntmps12
      go_wp2_with fail
      refine (rows_any _).mono ?_
      rintro e w1 ⟨rb, cap, rfl, hb1, hb2, hrows, hbel⟩
      obtain ⟨hcc, hff⟩ := bcell hbel
      obtain ⟨r0, r1, r2, r3, r4, r5⟩ := hrows k hk32
      rw [e1] at r1
      rw [e2] at r2
      rw [e3] at r3
      have hz0 : w.heap.size < w1.heap.size := by simp at hb1; omega
      have q0 : w1.cell? ⟨w.heap.size, 0, none⟩ = some (.int .i64 0) := (hcc _ _ (by simp)).trans (by go_simp)
      have q1 : w1.cell? ⟨w.heap.size, 1, none⟩ = some (.int .i64 0) := (hcc _ _ (by simp)).trans (by go_simp)
      have q2 : w1.cell? ⟨w.heap.size, 2, none⟩ = some (.int .i64 0) := (hcc _ _ (by simp)).trans (by go_simp)
      have q3 : w1.cell? ⟨w.heap.size, 3, none⟩ = some (.int .i64 0) := (hcc _ _ (by simp)).trans (by go_simp)
      have q4 : w1.cell? ⟨w.heap.size, 4, none⟩ = some (.int .i64 0) := (hcc _ _ (by simp)).trans (by go_simp)
      have p0 : w1.frozen? ⟨w.heap.size, 0, none⟩ = false := (hff _ _ (by simp)).trans (by go_simp)
      have p1 : w1.frozen? ⟨w.heap.size, 1, none⟩ = false := (hff _ _ (by simp)).trans (by go_simp)
      have p2 : w1.frozen? ⟨w.heap.size, 2, none⟩ = false := (hff _ _ (by simp)).trans (by go_simp)
      have p3 : w1.frozen? ⟨w.heap.size, 3, none⟩ = false := (hff _ _ (by simp)).trans (by go_simp)
      have p4 : w1.frozen? ⟨w.heap.size, 4, none⟩ = false := (hff _ _ (by simp)).trans (by go_simp)
      have HB := Lib.hid (((Below.refl w.heap.size w).alloc (Nat.le_refl _) _).trans (hbel.mono (by simp)))
      have HF := Lib.hid hF
      clear hbel hrows hb1 e1 e2 e3 hcc hff hF
      go_wp2_with fail
      (with_reducible refine (rencode_agg k (Rs.fA x) (0) (0) (m) _).mono ?_)
      rintro e w2 ⟨rfl, hbel⟩
      obtain ⟨hcc, hff⟩ := bcell hbel
      have hz : w1.heap.size + 1 < w2.heap.size := by have := hbel.size; simp at this; omega
      have hz1 : w1.heap.size < w2.heap.size := by omega
      have hz2 : w.heap.size < w2.heap.size := by omega
      have y0 : w2.cell? ⟨w.heap.size, 0, none⟩ = some (.int .i64 0) := (hcc _ _ (by simp; omega)).trans (by go_simp)
      have y1 : w2.cell? ⟨w.heap.size, 1, none⟩ = some (.int .i64 0) := (hcc _ _ (by simp; omega)).trans (by go_simp)
      have y2 : w2.cell? ⟨w.heap.size, 2, none⟩ = some (.int .i64 0) := (hcc _ _ (by simp; omega)).trans (by go_simp)
      have y3 : w2.cell? ⟨w.heap.size, 3, none⟩ = some (.int .i64 0) := (hcc _ _ (by simp; omega)).trans (by go_simp)
      have y4 : w2.cell? ⟨w.heap.size, 4, none⟩ = some (.int .i64 0) := (hcc _ _ (by simp; omega)).trans (by go_simp)
      have z0 : w2.frozen? ⟨w.heap.size, 0, none⟩ = false := (hff _ _ (by simp; omega)).trans (by go_simp)
      have z1 : w2.frozen? ⟨w.heap.size, 1, none⟩ = false := (hff _ _ (by simp; omega)).trans (by go_simp)
      have z2 : w2.frozen? ⟨w.heap.size, 2, none⟩ = false := (hff _ _ (by simp; omega)).trans (by go_simp)
      have z3 : w2.frozen? ⟨w.heap.size, 3, none⟩ = false := (hff _ _ (by simp; omega)).trans (by go_simp)
      have z4 : w2.frozen? ⟨w.heap.size, 4, none⟩ = false := (hff _ _ (by simp; omega)).trans (by go_simp)
      have HB2 := Lib.hid (((HB.out.alloc (by omega) _).alloc (by simp; omega) _).trans (hbel.mono (by simp; omega)))
      clear hbel
      rcases hcl.out with ⟨⟨p1, p2⟩, p3, p4⟩ | ⟨p1 | ⟨p1, p2⟩, p3, p4⟩
      · rw [p1, p2]
        have P3 := Lib.hid p3
        have P4 := Lib.hid p4
        clear p3 p4 p1 p2
        skip
        go_wp2
        refine bodyPost_ret (v := .tuple #[iv k (Rs.fA x) (0) (0) (m), .bool true]) (by simp [results, Try.results12, go_sem, iv, y0, y1, y2, y3, y4, hz2]) rfl ?_
        unfold DecPost
        rw [P3.out, P4.out]
        exact ⟨rfl, ((((HB2.out.setCell (Nat.le_refl _) _).setCell (Nat.le_refl _) _).setCell (Nat.le_refl _) _).setCell (Nat.le_refl _) _).setCell (Nat.le_refl _) _⟩
      · rw [p1]
        have P3 := Lib.hid p3
        have P4 := Lib.hid p4
        clear p3 p4 p1 
        skip
        go_wp2
        refine bodyPost_ret (v := .tuple #[iv 0 0 0 0 0, .bool false]) (by simp [results, Try.results12, go_sem, iv, y0, y1, y2, y3, y4, hz2]) rfl ?_
        unfold DecPost
        rw [P3.out, P4.out]
        exact ⟨rfl, ((((HB2.out.setCell (Nat.le_refl _) _).setCell (Nat.le_refl _) _).setCell (Nat.le_refl _) _).setCell (Nat.le_refl _) _).setCell (Nat.le_refl _) _⟩
      · rw [p1]
        have P3 := Lib.hid p3
        have P4 := Lib.hid p4
        clear p3 p4 p1 
        have p5 : (Rs.encW k (Rs.fA x) (0) (0) (m) != x) = true := by rw [bne_iff_ne]; exact p2
        go_wp2
        refine bodyPost_ret (v := .tuple #[iv 0 0 0 0 0, .bool false]) (by simp [results, Try.results12, go_sem, iv, y0, y1, y2, y3, y4, hz2]) rfl ?_
        unfold DecPost
        rw [P3.out, P4.out]
        exact ⟨rfl, ((((HB2.out.setCell (Nat.le_refl _) _).setCell (Nat.le_refl _) _).setCell (Nat.le_refl _) _).setCell (Nat.le_refl _) _).setCell (Nat.le_refl _) _⟩
    · have eB : Hid (0 = Rs.fB k x) := by unfold Hid; unfold Rs.fB Rs.hasB; rw [hF]; rfl
      have eC : Hid (0 = Rs.fC k x) := by unfold Hid; unfold Rs.fC Rs.hasC; rw [hF]; rfl
      have hnm : Rs.nmod k = 65536 := by unfold Rs.nmod; rw [hF]; rfl
      obtain ⟨m, hm⟩ : ∃ m, x % 65536 = m := ⟨_, rfl⟩
      rw [hm] at t1
      have m1 : 0 ≤ m := by omega
      have m2 : m < 65536 := by omega
      have hn : Hid (m = Rs.fN k x) := by unfold Hid Rs.fN; rw [hnm, hm, if_neg (by omega)]
      have hcl := Lib.hid (dec_close x hop.out rfl eB.out eC.out hn.out)
      skip
      skip
      have e1 : Rs.hasB k = false := by unfold Rs.hasB; rw [hF]; rfl
      have e2 : Rs.hasC k = false := by unfold Rs.hasC; rw [hF]; rfl
      have e3 : Rs.bitsOf k = 16 := by unfold Rs.bitsOf; rw [hF]; rfl
      clear hnm
      go_enter Try.func12, Try.ntmps12
      go_wp2_with fail
      refine (rows_any _).mono ?_
      rintro e w1 ⟨rb, cap, rfl, hb1, hb2, hrows, hbel⟩
      obtain ⟨hcc, hff⟩ := bcell hbel
      obtain ⟨r0, r1, r2, r3, r4, r5⟩ := hrows k hk32
      rw [e1] at r1
      rw [e2] at r2
      rw [e3] at r3
      have hz0 : w.heap.size < w1.heap.size := by simp at hb1; omega
      have q0 : w1.cell? ⟨w.heap.size, 0, none⟩ = some (.int .i64 0) := (hcc _ _ (by simp)).trans (by go_simp)
      have q1 : w1.cell? ⟨w.heap.size, 1, none⟩ = some (.int .i64 0) := (hcc _ _ (by simp)).trans (by go_simp)
      have q2 : w1.cell? ⟨w.heap.size, 2, none⟩ = some (.int .i64 0) := (hcc _ _ (by simp)).trans (by go_simp)
      have q3 : w1.cell? ⟨w.heap.size, 3, none⟩ = some (.int .i64 0) := (hcc _ _ (by simp)).trans (by go_simp)
      have q4 : w1.cell? ⟨w.heap.size, 4, none⟩ = some (.int .i64 0) := (hcc _ _ (by simp)).trans (by go_simp)
      have p0 : w1.frozen? ⟨w.heap.size, 0, none⟩ = false := (hff _ _ (by simp)).trans (by go_simp)
      have p1 : w1.frozen? ⟨w.heap.size, 1, none⟩ = false := (hff _ _ (by simp)).trans (by go_simp)
      have p2 : w1.frozen? ⟨w.heap.size, 2, none⟩ = false := (hff _ _ (by simp)).trans (by go_simp)
      have p3 : w1.frozen? ⟨w.heap.size, 3, none⟩ = false := (hff _ _ (by simp)).trans (by go_simp)
      have p4 : w1.frozen? ⟨w.heap.size, 4, none⟩ = false := (hff _ _ (by simp)).trans (by go_simp)
      have HB := Lib.hid (((Below.refl w.heap.size w).alloc (Nat.le_refl _) _).trans (hbel.mono (by simp)))
      have HF := Lib.hid hF
      clear hbel hrows hb1 e1 e2 e3 hcc hff hF
      go_wp2_with fail
      (with_reducible refine (rencode_agg k (Rs.fA x) (0) (0) (m) _).mono ?_)
      rintro e w2 ⟨rfl, hbel⟩
      obtain ⟨hcc, hff⟩ := bcell hbel
      have hz : w1.heap.size + 1 < w2.heap.size := by have := hbel.size; simp at this; omega
      have hz1 : w1.heap.size < w2.heap.size := by omega
      have hz2 : w.heap.size < w2.heap.size := by omega
      have y0 : w2.cell? ⟨w.heap.size, 0, none⟩ = some (.int .i64 0) := (hcc _ _ (by simp; omega)).trans (by go_simp)
      have y1 : w2.cell? ⟨w.heap.size, 1, none⟩ = some (.int .i64 0) := (hcc _ _ (by simp; omega)).trans (by go_simp)
      have y2 : w2.cell? ⟨w.heap.size, 2, none⟩ = some (.int .i64 0) := (hcc _ _ (by simp; omega)).trans (by go_simp)
      have y3 : w2.cell? ⟨w.heap.size, 3, none⟩ = some (.int .i64 0) := (hcc _ _ (by simp; omega)).trans (by go_simp)
      have y4 : w2.cell? ⟨w.heap.size, 4, none⟩ = some (.int .i64 0) := (hcc _ _ (by simp; omega)).trans (by go_simp)
      have z0 : w2.frozen? ⟨w.heap.size, 0, none⟩ = false := (hff _ _ (by simp; omega)).trans (by go_simp)
      have z1 : w2.frozen? ⟨w.heap.size, 1, none⟩ = false := (hff _ _ (by simp; omega)).trans (by go_simp)
      have z2 : w2.frozen? ⟨w.heap.size, 2, none⟩ = false := (hff _ _ (by simp; omega)).trans (by go_simp)
      have z3 : w2.frozen? ⟨w.heap.size, 3, none⟩ = false := (hff _ _ (by simp; omega)).trans (by go_simp)
      have z4 : w2.frozen? ⟨w.heap.size, 4, none⟩ = false := (hff _ _ (by simp; omega)).trans (by go_simp)
      have HB2 := Lib.hid (((HB.out.alloc (by omega) _).alloc (by simp; omega) _).trans (hbel.mono (by simp; omega)))
      clear hbel
      rcases hcl.out with ⟨⟨p1, p2⟩, p3, p4⟩ | ⟨p1 | ⟨p1, p2⟩, p3, p4⟩
      · rw [p1, p2]
        have P3 := Lib.hid p3
        have P4 := Lib.hid p4
        clear p3 p4 p1 p2
        skip
        go_wp2
        refine bodyPost_ret (v := .tuple #[iv k (Rs.fA x) (0) (0) (m), .bool true]) (by simp [results, Try.results12, go_sem, iv, y0, y1, y2, y3, y4, hz2]) rfl ?_
        unfold DecPost
        rw [P3.out, P4.out]
        exact ⟨rfl, ((((HB2.out.setCell (Nat.le_refl _) _).setCell (Nat.le_refl _) _).setCell (Nat.le_refl _) _).setCell (Nat.le_refl _) _).setCell (Nat.le_refl _) _⟩
      · rw [p1]
        have P3 := Lib.hid p3
        have P4 := Lib.hid p4
        clear p3 p4 p1 
        skip
        go_wp2
        refine bodyPost_ret (v := .tuple #[iv 0 0 0 0 0, .bool false]) (by simp [results, Try.results12, go_sem, iv, y0, y1, y2, y3, y4, hz2]) rfl ?_
        unfold DecPost
        rw [P3.out, P4.out]
        exact ⟨rfl, ((((HB2.out.setCell (Nat.le_refl _) _).setCell (Nat.le_refl _) _).setCell (Nat.le_refl _) _).setCell (Nat.le_refl _) _).setCell (Nat.le_refl _) _⟩
      · rw [p1]
        have P3 := Lib.hid p3
        have P4 := Lib.hid p4
        clear p3 p4 p1 
        have p5 : (Rs.encW k (Rs.fA x) (0) (0) (m) != x) = true := by rw [bne_iff_ne]; exact p2
        go_wp2
        refine bodyPost_ret (v := .tuple #[iv 0 0 0 0 0, .bool false]) (by simp [results, Try.results12, go_sem, iv, y0, y1, y2, y3, y4, hz2]) rfl ?_
        unfold DecPost
        rw [P3.out, P4.out]
        exact ⟨rfl, ((((HB2.out.setCell (Nat.le_refl _) _).setCell (Nat.le_refl _) _).setCell (Nat.le_refl _) _).setCell (Nat.le_refl _) _).setCell (Nat.le_refl _) _⟩
    · have eB : Hid (0 = Rs.fB k x) := by unfold Hid; unfold Rs.fB Rs.hasB; rw [hF]; rfl
      have eC : Hid (0 = Rs.fC k x) := by unfold Hid; unfold Rs.fC Rs.hasC; rw [hF]; rfl
      have hnm : Rs.nmod k = 65536 := by unfold Rs.nmod; rw [hF]; rfl
      obtain ⟨m, hm⟩ : ∃ m, x % 65536 = m := ⟨_, rfl⟩
      rw [hm] at t1
      have m1 : 0 ≤ m := by omega
      have m2 : m < 65536 := by omega
      have hn : Hid (m - 65536 = Rs.fN k x) := by unfold Hid Rs.fN; rw [hnm, hm, if_pos ⟨t1, t2⟩]
      have hcl := Lib.hid (dec_close x hop.out rfl eB.out eC.out hn.out)
      skip
      skip
      have e1 : Rs.hasB k = false := by unfold Rs.hasB; rw [hF]; rfl
      have e2 : Rs.hasC k = false := by unfold Rs.hasC; rw [hF]; rfl
      have e3 : Rs.bitsOf k = 16 := by unfold Rs.bitsOf; rw [hF]; rfl
      clear hnm
      go_enter Try.func12, Try.ntmps12
      go_wp2_with fail
      refine (rows_any _).mono ?_
      rintro e w1 ⟨rb, cap, rfl, hb1, hb2, hrows, hbel⟩
      obtain ⟨hcc, hff⟩ := bcell hbel
      obtain ⟨r0, r1, r2, r3, r4, r5⟩ := hrows k hk32
      rw [e1] at r1
      rw [e2] at r2
      rw [e3] at r3
      have hz0 : w.heap.size < w1.heap.size := by simp at hb1; omega
      have q0 : w1.cell? ⟨w.heap.size, 0, none⟩ = some (.int .i64 0) := (hcc _ _ (by simp)).trans (by go_simp)
      have q1 : w1.cell? ⟨w.heap.size, 1, none⟩ = some (.int .i64 0) := (hcc _ _ (by simp)).trans (by go_simp)
      have q2 : w1.cell? ⟨w.heap.size, 2, none⟩ = some (.int .i64 0) := (hcc _ _ (by simp)).trans (by go_simp)
      have q3 : w1.cell? ⟨w.heap.size, 3, none⟩ = some (.int .i64 0) := (hcc _ _ (by simp)).trans (by go_simp)
      have q4 : w1.cell? ⟨w.heap.size, 4, none⟩ = some (.int .i64 0) := (hcc _ _ (by simp)).trans (by go_simp)
      have p0 : w1.frozen? ⟨w.heap.size, 0, none⟩ = false := (hff _ _ (by simp)).trans (by go_simp)
      have p1 : w1.frozen? ⟨w.heap.size, 1, none⟩ = false := (hff _ _ (by simp)).trans (by go_simp)
      have p2 : w1.frozen? ⟨w.heap.size, 2, none⟩ = false := (hff _ _ (by simp)).trans (by go_simp)
      have p3 : w1.frozen? ⟨w.heap.size, 3, none⟩ = false := (hff _ _ (by simp)).trans (by go_simp)
      have p4 : w1.frozen? ⟨w.heap.size, 4, none⟩ = false := (hff _ _ (by simp)).trans (by go_simp)
      have HB := Lib.hid (((Below.refl w.heap.size w).alloc (Nat.le_refl _) _).trans (hbel.mono (by simp)))
      have HF := Lib.hid hF
      clear hbel hrows hb1 e1 e2 e3 hcc hff hF
      go_wp2_with fail
      (with_reducible refine (rencode_agg k (Rs.fA x) (0) (0) (m - 65536) _).mono ?_)
      rintro e w2 ⟨rfl, hbel⟩
      obtain ⟨hcc, hff⟩ := bcell hbel
      have hz : w1.heap.size + 1 < w2.heap.size := by have := hbel.size; simp at this; omega
      have hz1 : w1.heap.size < w2.heap.size := by omega
      have hz2 : w.heap.size < w2.heap.size := by omega
      have y0 : w2.cell? ⟨w.heap.size, 0, none⟩ = some (.int .i64 0) := (hcc _ _ (by simp; omega)).trans (by go_simp)
      have y1 : w2.cell? ⟨w.heap.size, 1, none⟩ = some (.int .i64 0) := (hcc _ _ (by simp; omega)).trans (by go_simp)
      have y2 : w2.cell? ⟨w.heap.size, 2, none⟩ = some (.int .i64 0) := (hcc _ _ (by simp; omega)).trans (by go_simp)
      have y3 : w2.cell? ⟨w.heap.size, 3, none⟩ = some (.int .i64 0) := (hcc _ _ (by simp; omega)).trans (by go_simp)
      have y4 : w2.cell? ⟨w.heap.size, 4, none⟩ = some (.int .i64 0) := (hcc _ _ (by simp; omega)).trans (by go_simp)
      have z0 : w2.frozen? ⟨w.heap.size, 0, none⟩ = false := (hff _ _ (by simp; omega)).trans (by go_simp)
      have z1 : w2.frozen? ⟨w.heap.size, 1, none⟩ = false := (hff _ _ (by simp; omega)).trans (by go_simp)
      have z2 : w2.frozen? ⟨w.heap.size, 2, none⟩ = false := (hff _ _ (by simp; omega)).trans (by go_simp)
      have z3 : w2.frozen? ⟨w.heap.size, 3, none⟩ = false := (hff _ _ (by simp; omega)).trans (by go_simp)
      have z4 : w2.frozen? ⟨w.heap.size, 4, none⟩ = false := (hff _ _ (by simp; omega)).trans (by go_simp)
      have HB2 := Lib.hid (((HB.out.alloc (by omega) _).alloc (by simp; omega) _).trans (hbel.mono (by simp; omega)))
      clear hbel
      rcases hcl.out with ⟨⟨p1, p2⟩, p3, p4⟩ | ⟨p1 | ⟨p1, p2⟩, p3, p4⟩
      · rw [p1, p2]
        have P3 := Lib.hid p3
        have P4 := Lib.hid p4
        clear p3 p4 p1 p2
        skip
        go_wp2
        refine bodyPost_ret (v := .tuple #[iv k (Rs.fA x) (0) (0) (m - 65536), .bool true]) (by simp [results, Try.results12, go_sem, iv, y0, y1, y2, y3, y4, hz2]) rfl ?_
        unfold DecPost
        rw [P3.out, P4.out]
        exact ⟨rfl, ((((HB2.out.setCell (Nat.le_refl _) _).setCell (Nat.le_refl _) _).setCell (Nat.le_refl _) _).setCell (Nat.le_refl _) _).setCell (Nat.le_refl _) _⟩
      · rw [p1]
        have P3 := Lib.hid p3
        have P4 := Lib.hid p4
        clear p3 p4 p1 
        skip
        go_wp2
        refine bodyPost_ret (v := .tuple #[iv 0 0 0 0 0, .bool false]) (by simp [results, Try.results12, go_sem, iv, y0, y1, y2, y3, y4, hz2]) rfl ?_
        unfold DecPost
        rw [P3.out, P4.out]
        exact ⟨rfl, ((((HB2.out.setCell (Nat.le_refl _) _).setCell (Nat.le_refl _) _).setCell (Nat.le_refl _) _).setCell (Nat.le_refl _) _).setCell (Nat.le_refl _) _⟩
      · rw [p1]
        have P3 := Lib.hid p3
        have P4 := Lib.hid p4
        clear p3 p4 p1 
        have p5 : (Rs.encW k (Rs.fA x) (0) (0) (m - 65536) != x) = true := by rw [bne_iff_ne]; exact p2
        go_wp2
        refine bodyPost_ret (v := .tuple #[iv 0 0 0 0 0, .bool false]) (by simp [results, Try.results12, go_sem, iv, y0, y1, y2, y3, y4, hz2]) rfl ?_
        unfold DecPost
        rw [P3.out, P4.out]
        exact ⟨rfl, ((((HB2.out.setCell (Nat.le_refl _) _).setCell (Nat.le_refl _) _).setCell (Nat.le_refl _) _).setCell (Nat.le_refl _) _).setCell (Nat.le_refl _) _⟩
  · rcases (by omega : x % 1024 ≤ Rs.most k ∨ (Rs.most k < x % 1024 ∧ 0 ≤ Rs.least k) ∨ (Rs.most k < x % 1024 ∧ Rs.least k < 0)) with t1 | ⟨t1, t2⟩ | ⟨t1, t2⟩
    · have eB : Hid (Rs.fB k x = Rs.fB k x) := by unfold Hid; rfl
      have eC : Hid (0 = Rs.fC k x) := by unfold Hid; unfold Rs.fC Rs.hasC; rw [hF]; rfl
      have hnm : Rs.nmod k = 1024 := by unfold Rs.nmod; rw [hF]; rfl
      obtain ⟨m, hm⟩ : ∃ m, x % 1024 = m := ⟨_, rfl⟩
      rw [hm] at t1
      have m1 : 0 ≤ m := by omega
      have m2 : m < 1024 := by omega
      have hn : Hid (m = Rs.fN k x) := by unfold Hid Rs.fN; rw [hnm, hm, if_neg (by omega)]
      have hcl := Lib.hid (dec_close x hop.out rfl eB.out eC.out hn.out)
      have gB : x / 65536 % 32 = Rs.fB k x := (if_pos (show Rs.hasB k = true by unfold Rs.hasB; rw [hF]; rfl)).symm
      skip
      have e1 : Rs.hasB k = true := by unfold Rs.hasB; rw [hF]; rfl
      have e2 : Rs.hasC k = false := by unfold Rs.hasC; rw [hF]; rfl
      have e3 : Rs.bitsOf k = 10 := by unfold Rs.bitsOf; rw [hF]; rfl
      clear hnm
      go_enter Try.func12, Try.ntmps12
      go_wp2_with fail
      refine (rows_any _).mono ?_
      rintro e w1 ⟨rb, cap, rfl, hb1, hb2, hrows, hbel⟩
      obtain ⟨hcc, hff⟩ := bcell hbel
      obtain ⟨r0, r1, r2, r3, r4, r5⟩ := hrows k hk32
      rw [e1] at r1
      rw [e2] at r2
      rw [e3] at r3
      have hz0 : w.heap.size < w1.heap.size := by simp at hb1; omega
      have q0 : w1.cell? ⟨w.heap.size, 0, none⟩ = some (.int .i64 0) := (hcc _ _ (by simp)).trans (by go_simp)
      have q1 : w1.cell? ⟨w.heap.size, 1, none⟩ = some (.int .i64 0) := (hcc _ _ (by simp)).trans (by go_simp)
      have q2 : w1.cell? ⟨w.heap.size, 2, none⟩ = some (.int .i64 0) := (hcc _ _ (by simp)).trans (by go_simp)
      have q3 : w1.cell? ⟨w.heap.size, 3, none⟩ = some (.int .i64 0) := (hcc _ _ (by simp)).trans (by go_simp)
      have q4 : w1.cell? ⟨w.heap.size, 4, none⟩ = some (.int .i64 0) := (hcc _ _ (by simp)).trans (by go_simp)
      have p0 : w1.frozen? ⟨w.heap.size, 0, none⟩ = false := (hff _ _ (by simp)).trans (by go_simp)
      have p1 : w1.frozen? ⟨w.heap.size, 1, none⟩ = false := (hff _ _ (by simp)).trans (by go_simp)
      have p2 : w1.frozen? ⟨w.heap.size, 2, none⟩ = false := (hff _ _ (by simp)).trans (by go_simp)
      have p3 : w1.frozen? ⟨w.heap.size, 3, none⟩ = false := (hff _ _ (by simp)).trans (by go_simp)
      have p4 : w1.frozen? ⟨w.heap.size, 4, none⟩ = false := (hff _ _ (by simp)).trans (by go_simp)
      have HB := Lib.hid (((Below.refl w.heap.size w).alloc (Nat.le_refl _) _).trans (hbel.mono (by simp)))
      have HF := Lib.hid hF
      clear hbel hrows hb1 e1 e2 e3 hcc hff hF
      go_wp2_with fail
      (with_reducible refine (rencode_agg k (Rs.fA x) (Rs.fB k x) (0) (m) _).mono ?_)
      rintro e w2 ⟨rfl, hbel⟩
      obtain ⟨hcc, hff⟩ := bcell hbel
      have hz : w1.heap.size + 1 < w2.heap.size := by have := hbel.size; simp at this; omega
      have hz1 : w1.heap.size < w2.heap.size := by omega
      have hz2 : w.heap.size < w2.heap.size := by omega
      have y0 : w2.cell? ⟨w.heap.size, 0, none⟩ = some (.int .i64 0) := (hcc _ _ (by simp; omega)).trans (by go_simp)
      have y1 : w2.cell? ⟨w.heap.size, 1, none⟩ = some (.int .i64 0) := (hcc _ _ (by simp; omega)).trans (by go_simp)
      have y2 : w2.cell? ⟨w.heap.size, 2, none⟩ = some (.int .i64 0) := (hcc _ _ (by simp; omega)).trans (by go_simp)
      have y3 : w2.cell? ⟨w.heap.size, 3, none⟩ = some (.int .i64 0) := (hcc _ _ (by simp; omega)).trans (by go_simp)
      have y4 : w2.cell? ⟨w.heap.size, 4, none⟩ = some (.int .i64 0) := (hcc _ _ (by simp; omega)).trans (by go_simp)
      have z0 : w2.frozen? ⟨w.heap.size, 0, none⟩ = false := (hff _ _ (by simp; omega)).trans (by go_simp)
      have z1 : w2.frozen? ⟨w.heap.size, 1, none⟩ = false := (hff _ _ (by simp; omega)).trans (by go_simp)
      have z2 : w2.frozen? ⟨w.heap.size, 2, none⟩ = false := (hff _ _ (by simp; omega)).trans (by go_simp)
      have z3 : w2.frozen? ⟨w.heap.size, 3, none⟩ = false := (hff _ _ (by simp; omega)).trans (by go_simp)
      have z4 : w2.frozen? ⟨w.heap.size, 4, none⟩ = false := (hff _ _ (by simp; omega)).trans (by go_simp)
      have HB2 := Lib.hid (((HB.out.alloc (by omega) _).alloc (by simp; omega) _).trans (hbel.mono (by simp; omega)))
      clear hbel
      rcases hcl.out with ⟨⟨p1, p2⟩, p3, p4⟩ | ⟨p1 | ⟨p1, p2⟩, p3, p4⟩
      · rw [p1, p2]
        have P3 := Lib.hid p3
        have P4 := Lib.hid p4
        clear p3 p4 p1 p2
        skip
        go_wp2
        refine bodyPost_ret (v := .tuple #[iv k (Rs.fA x) (Rs.fB k x) (0) (m), .bool true]) (by simp [results, Try.results12, go_sem, iv, y0, y1, y2, y3, y4, hz2]) rfl ?_
        unfold DecPost
        rw [P3.out, P4.out]
        exact ⟨rfl, ((((HB2.out.setCell (Nat.le_refl _) _).setCell (Nat.le_refl _) _).setCell (Nat.le_refl _) _).setCell (Nat.le_refl _) _).setCell (Nat.le_refl _) _⟩
      · rw [p1]
        have P3 := Lib.hid p3
        have P4 := Lib.hid p4
        clear p3 p4 p1 
        skip
        go_wp2
        refine bodyPost_ret (v := .tuple #[iv 0 0 0 0 0, .bool false]) (by simp [results, Try.results12, go_sem, iv, y0, y1, y2, y3, y4, hz2]) rfl ?_
        unfold DecPost
        rw [P3.out, P4.out]
        exact ⟨rfl, ((((HB2.out.setCell (Nat.le_refl _) _).setCell (Nat.le_refl _) _).setCell (Nat.le_refl _) _).setCell (Nat.le_refl _) _).setCell (Nat.le_refl _) _⟩
      · rw [p1]
        have P3 := Lib.hid p3
        have P4 := Lib.hid p4
        clear p3 p4 p1 
        have p5 : (Rs.encW k (Rs.fA x) (Rs.fB k x) (0) (m) != x) = true := by rw [bne_iff_ne]; exact p2
        go_wp2
        refine bodyPost_ret (v := .tuple #[iv 0 0 0 0 0, .bool false]) (by simp [results, Try.results12, go_sem, iv, y0, y1, y2, y3, y4, hz2]) rfl ?_
        unfold DecPost
        rw [P3.out, P4.out]
        exact ⟨rfl, ((((HB2.out.setCell (Nat.le_refl _) _).setCell (Nat.le_refl _) _).setCell (Nat.le_refl _) _).setCell (Nat.le_refl _) _).setCell (Nat.le_refl _) _⟩
    · have eB : Hid (Rs.fB k x = Rs.fB k x) := by unfold Hid; rfl
      have eC : Hid (0 = Rs.fC k x) := by unfold Hid; unfold Rs.fC Rs.hasC; rw [hF]; rfl
      have hnm : Rs.nmod k = 1024 := by unfold Rs.nmod; rw [hF]; rfl
      obtain ⟨m, hm⟩ : ∃ m, x % 1024 = m := ⟨_, rfl⟩
      rw [hm] at t1
      have m1 : 0 ≤ m := by omega
      have m2 : m < 1024 := by omega
      have hn : Hid (m = Rs.fN k x) := by unfold Hid Rs.fN; rw [hnm, hm, if_neg (by omega)]
      have hcl := Lib.hid (dec_close x hop.out rfl eB.out eC.out hn.out)
      have gB : x / 65536 % 32 = Rs.fB k x := (if_pos (show Rs.hasB k = true by unfold Rs.hasB; rw [hF]; rfl)).symm
      skip
      have e1 : Rs.hasB k = true := by unfold Rs.hasB; rw [hF]; rfl
      have e2 : Rs.hasC k = false := by unfold Rs.hasC; rw [hF]; rfl
      have e3 : Rs.bitsOf k = 10 := by unfold Rs.bitsOf; rw [hF]; rfl
      clear hnm
      go_enter Try.func12, Try.ntmps12
      go_wp2_with fail
      refine (rows_any _).mono ?_
      rintro e w1 ⟨rb, cap, rfl, hb1, hb2, hrows, hbel⟩
      obtain ⟨hcc, hff⟩ := bcell hbel
      obtain ⟨r0, r1, r2, r3, r4, r5⟩ := hrows k hk32
      rw [e1] at r1
      rw [e2] at r2
      rw [e3] at r3
      have hz0 : w.heap.size < w1.heap.size := by simp at hb1; omega
      have q0 : w1.cell? ⟨w.heap.size, 0, none⟩ = some (.int .i64 0) := (hcc _ _ (by simp)).trans (by go_simp)
      have q1 : w1.cell? ⟨w.heap.size, 1, none⟩ = some (.int .i64 0) := (hcc _ _ (by simp)).trans (by go_simp)
      have q2 : w1.cell? ⟨w.heap.size, 2, none⟩ = some (.int .i64 0) := (hcc _ _ (by simp)).trans (by go_simp)
      have q3 : w1.cell? ⟨w.heap.size, 3, none⟩ = some (.int .i64 0) := (hcc _ _ (by simp)).trans (by go_simp)
      have q4 : w1.cell? ⟨w.heap.size, 4, none⟩ = some (.int .i64 0) := (hcc _ _ (by simp)).trans (by go_simp)
      have p0 : w1.frozen? ⟨w.heap.size, 0, none⟩ = false := (hff _ _ (by simp)).trans (by go_simp)
      have p1 : w1.frozen? ⟨w.heap.size, 1, none⟩ = false := (hff _ _ (by simp)).trans (by go_simp)
      have p2 : w1.frozen? ⟨w.heap.size, 2, none⟩ = false := (hff _ _ (by simp)).trans (by go_simp)
      have p3 : w1.frozen? ⟨w.heap.size, 3, none⟩ = false := (hff _ _ (by simp)).trans (by go_simp)
      have p4 : w1.frozen? ⟨w.heap.size, 4, none⟩ = false := (hff _ _ (by simp)).trans (by go_simp)
      have HB := Lib.hid (((Below.refl w.heap.size w).alloc (Nat.le_refl _) _).trans (hbel.mono (by simp)))
      have HF := Lib.hid hF
      clear hbel hrows hb1 e1 e2 e3 hcc hff hF
      go_wp2_with fail
      (with_reducible refine (rencode_agg k (Rs.fA x) (Rs.fB k x) (0) (m) _).mono ?_)
      rintro e w2 ⟨rfl, hbel⟩
      obtain ⟨hcc, hff⟩ := bcell hbel
      have hz : w1.heap.size + 1 < w2.heap.size := by have := hbel.size; simp at this; omega
      have hz1 : w1.heap.size < w2.heap.size := by omega
      have hz2 : w.heap.size < w2.heap.size := by omega
      have y0 : w2.cell? ⟨w.heap.size, 0, none⟩ = some (.int .i64 0) := (hcc _ _ (by simp; omega)).trans (by go_simp)
      have y1 : w2.cell? ⟨w.heap.size, 1, none⟩ = some (.int .i64 0) := (hcc _ _ (by simp; omega)).trans (by go_simp)
      have y2 : w2.cell? ⟨w.heap.size, 2, none⟩ = some (.int .i64 0) := (hcc _ _ (by simp; omega)).trans (by go_simp)
      have y3 : w2.cell? ⟨w.heap.size, 3, none⟩ = some (.int .i64 0) := (hcc _ _ (by simp; omega)).trans (by go_simp)
      have y4 : w2.cell? ⟨w.heap.size, 4, none⟩ = some (.int .i64 0) := (hcc _ _ (by simp; omega)).trans (by go_simp)
      have z0 : w2.frozen? ⟨w.heap.size, 0, none⟩ = false := (hff _ _ (by simp; omega)).trans (by go_simp)
      have z1 : w2.frozen? ⟨w.heap.size, 1, none⟩ = false := (hff _ _ (by simp; omega)).trans (by go_simp)
      have z2 : w2.frozen? ⟨w.heap.size, 2, none⟩ = false := (hff _ _ (by simp; omega)).trans (by go_simp)
      have z3 : w2.frozen? ⟨w.heap.size, 3, none⟩ = false := (hff _ _ (by simp; omega)).trans (by go_simp)
      have z4 : w2.frozen? ⟨w.heap.size, 4, none⟩ = false := (hff _ _ (by simp; omega)).trans (by go_simp)
      have HB2 := Lib.hid (((HB.out.alloc (by omega) _).alloc (by simp; omega) _).trans (hbel.mono (by simp; omega)))
      clear hbel
      rcases hcl.out with ⟨⟨p1, p2⟩, p3, p4⟩ | ⟨p1 | ⟨p1, p2⟩, p3, p4⟩
      · rw [p1, p2]
        have P3 := Lib.hid p3
        have P4 := Lib.hid p4
        clear p3 p4 p1 p2
        skip
        go_wp2
        refine bodyPost_ret (v := .tuple #[iv k (Rs.fA x) (Rs.fB k x) (0) (m), .bool true]) (by simp [results, Try.results12, go_sem, iv, y0, y1, y2, y3, y4, hz2]) rfl ?_
        unfold DecPost
        rw [P3.out, P4.out]
        exact ⟨rfl, ((((HB2.out.setCell (Nat.le_refl _) _).setCell (Nat.le_refl _) _).setCell (Nat.le_refl _) _).setCell (Nat.le_refl _) _).setCell (Nat.le_refl _) _⟩
      · rw [p1]
        have P3 := Lib.hid p3
        have P4 := Lib.hid p4
        clear p3 p4 p1 
        skip
        go_wp2
        refine bodyPost_ret (v := .tuple #[iv 0 0 0 0 0, .bool false]) (by simp [results, Try.results12, go_sem, iv, y0, y1, y2, y3, y4, hz2]) rfl ?_
        unfold DecPost
        rw [P3.out, P4.out]
        exact ⟨rfl, ((((HB2.out.setCell (Nat.le_refl _) _).setCell (Nat.le_refl _) _).setCell (Nat.le_refl _) _).setCell (Nat.le_refl _) _).setCell (Nat.le_refl _) _⟩
      · rw [p1]
        have P3 := Lib.hid p3
        have P4 := Lib.hid p4
        clear p3 p4 p1 
        have p5 : (Rs.encW k (Rs.fA x) (Rs.fB k x) (0) (m) != x) = true := by rw [bne_iff_ne]; exact p2
        go_wp2
        refine bodyPost_ret (v := .tuple #[iv 0 0 0 0 0, .bool false]) (by simp [results, Try.results12, go_sem, iv, y0, y1, y2, y3, y4, hz2]) rfl ?_
        unfold DecPost
        rw [P3.out, P4.out]
        exact ⟨rfl, ((((HB2.out.setCell (Nat.le_refl _) _).setCell (Nat.le_refl _) _).setCell (Nat.le_refl _) _).setCell (Nat.le_refl _) _).setCell (Nat.le_refl _) _⟩
    · have eB : Hid (Rs.fB k x = Rs.fB k x) := by unfold Hid; rfl
      have eC : Hid (0 = Rs.fC k x) := by unfold Hid; unfold Rs.fC Rs.hasC; rw [hF]; rfl
      have hnm : Rs.nmod k = 1024 := by unfold Rs.nmod; rw [hF]; rfl
      obtain ⟨m, hm⟩ : ∃ m, x % 1024 = m := ⟨_, rfl⟩
      rw [hm] at t1
      have m1 : 0 ≤ m := by omega
      have m2 : m < 1024 := by omega
      have hn : Hid (m - 1024 = Rs.fN k x) := by unfold Hid Rs.fN; rw [hnm, hm, if_pos ⟨t1, t2⟩]
      have hcl := Lib.hid (dec_close x hop.out rfl eB.out eC.out hn.out)
      have gB : x / 65536 % 32 = Rs.fB k x := (if_pos (show Rs.hasB k = true by unfold Rs.hasB; rw [hF]; rfl)).symm
      skip
      have e1 : Rs.hasB k = true := by unfold Rs.hasB; rw [hF]; rfl
      have e2 : Rs.hasC k = false := by unfold Rs.hasC; rw [hF]; rfl
      have e3 : Rs.bitsOf k = 10 := by unfold Rs.bitsOf; rw [hF]; rfl
      clear hnm
      go_enter Try.func12, Try.ntmps12
      go_wp2_with fail
      refine (rows_any _).mono ?_
      rintro e w1 ⟨rb, cap, rfl, hb1, hb2, hrows, hbel⟩
      obtain ⟨hcc, hff⟩ := bcell hbel
      obtain ⟨r0, r1, r2, r3, r4, r5⟩ := hrows k hk32
      rw [e1] at r1
      rw [e2] at r2
      rw [e3] at r3
      have hz0 : w.heap.size < w1.heap.size := by simp at hb1; omega
      have q0 : w1.cell? ⟨w.heap.size, 0, none⟩ = some (.int .i64 0) := (hcc _ _ (by simp)).trans (by go_simp)
      have q1 : w1.cell? ⟨w.heap.size, 1, none⟩ = some (.int .i64 0) := (hcc _ _ (by simp)).trans (by go_simp)
      have q2 : w1.cell? ⟨w.heap.size, 2, none⟩ = some (.int .i64 0) := (hcc _ _ (by simp)).trans (by go_simp)
      have q3 : w1.cell? ⟨w.heap.size, 3, none⟩ = some (.int .i64 0) := (hcc _ _ (by simp)).trans (by go_simp)
      have q4 : w1.cell? ⟨w.heap.size, 4, none⟩ = some (.int .i64 0) := (hcc _ _ (by simp)).trans (by go_simp)
      have p0 : w1.frozen? ⟨w.heap.size, 0, none⟩ = false := (hff _ _ (by simp)).trans (by go_simp)
      have p1 : w1.frozen? ⟨w.heap.size, 1, none⟩ = false := (hff _ _ (by simp)).trans (by go_simp)
      have p2 : w1.frozen? ⟨w.heap.size, 2, none⟩ = false := (hff _ _ (by simp)).trans (by go_simp)
      have p3 : w1.frozen? ⟨w.heap.size, 3, none⟩ = false := (hff _ _ (by simp)).trans (by go_simp)
      have p4 : w1.frozen? ⟨w.heap.size, 4, none⟩ = false := (hff _ _ (by simp)).trans (by go_simp)
      have HB := Lib.hid (((Below.refl w.heap.size w).alloc (Nat.le_refl _) _).trans (hbel.mono (by simp)))
      have HF := Lib.hid hF
      clear hbel hrows hb1 e1 e2 e3 hcc hff hF
      go_wp2_with fail
      (with_reducible refine (rencode_agg k (Rs.fA x) (Rs.fB k x) (0) (m - 1024) _).mono ?_)
      rintro e w2 ⟨rfl, hbel⟩
      obtain ⟨hcc, hff⟩ := bcell hbel
      have hz : w1.heap.size + 1 < w2.heap.size := by have := hbel.size; simp at this; omega
      have hz1 : w1.heap.size < w2.heap.size := by omega
      have hz2 : w.heap.size < w2.heap.size := by omega
      have y0 : w2.cell? ⟨w.heap.size, 0, none⟩ = some (.int .i64 0) := (hcc _ _ (by simp; omega)).trans (by go_simp)
      have y1 : w2.cell? ⟨w.heap.size, 1, none⟩ = some (.int .i64 0) := (hcc _ _ (by simp; omega)).trans (by go_simp)
      have y2 : w2.cell? ⟨w.heap.size, 2, none⟩ = some (.int .i64 0) := (hcc _ _ (by simp; omega)).trans (by go_simp)
      have y3 : w2.cell? ⟨w.heap.size, 3, none⟩ = some (.int .i64 0) := (hcc _ _ (by simp; omega)).trans (by go_simp)
      have y4 : w2.cell? ⟨w.heap.size, 4, none⟩ = some (.int .i64 0) := (hcc _ _ (by simp; omega)).trans (by go_simp)
      have z0 : w2.frozen? ⟨w.heap.size, 0, none⟩ = false := (hff _ _ (by simp; omega)).trans (by go_simp)
      have z1 : w2.frozen? ⟨w.heap.size, 1, none⟩ = false := (hff _ _ (by simp; omega)).trans (by go_simp)
      have z2 : w2.frozen? ⟨w.heap.size, 2, none⟩ = false := (hff _ _ (by simp; omega)).trans (by go_simp)
      have z3 : w2.frozen? ⟨w.heap.size, 3, none⟩ = false := (hff _ _ (by simp; omega)).trans (by go_simp)
      have z4 : w2.frozen? ⟨w.heap.size, 4, none⟩ = false := (hff _ _ (by simp; omega)).trans (by go_simp)
      have HB2 := Lib.hid (((HB.out.alloc (by omega) _).alloc (by simp; omega) _).trans (hbel.mono (by simp; omega)))
      clear hbel
      rcases hcl.out with ⟨⟨p1, p2⟩, p3, p4⟩ | ⟨p1 | ⟨p1, p2⟩, p3, p4⟩
      · rw [p1, p2]
        have P3 := Lib.hid p3
        have P4 := Lib.hid p4
        clear p3 p4 p1 p2
        skip
        go_wp2
        refine bodyPost_ret (v := .tuple #[iv k (Rs.fA x) (Rs.fB k x) (0) (m - 1024), .bool true]) (by simp [results, Try.results12, go_sem, iv, y0, y1, y2, y3, y4, hz2]) rfl ?_
        unfold DecPost
        rw [P3.out, P4.out]
        exact ⟨rfl, ((((HB2.out.setCell (Nat.le_refl _) _).setCell (Nat.le_refl _) _).setCell (Nat.le_refl _) _).setCell (Nat.le_refl _) _).setCell (Nat.le_refl _) _⟩
      · rw [p1]
        have P3 := Lib.hid p3
        have P4 := Lib.hid p4
        clear p3 p4 p1 
        skip
        go_wp2
        refine bodyPost_ret (v := .tuple #[iv 0 0 0 0 0, .bool false]) (by simp [results, Try.results12, go_sem, iv, y0, y1, y2, y3, y4, hz2]) rfl ?_
        unfold DecPost
        rw [P3.out, P4.out]
        exact ⟨rfl, ((((HB2.out.setCell (Nat.le_refl _) _).setCell (Nat.le_refl _) _).setCell (Nat.le_refl _) _).setCell (Nat.le_refl _) _).setCell (Nat.le_refl _) _⟩
      · rw [p1]
        have P3 := Lib.hid p3
        have P4 := Lib.hid p4
        clear p3 p4 p1 
        have p5 : (Rs.encW k (Rs.fA x) (Rs.fB k x) (0) (m - 1024) != x) = true := by rw [bne_iff_ne]; exact p2
        go_wp2
        refine bodyPost_ret (v := .tuple #[iv 0 0 0 0 0, .bool false]) (by simp [results, Try.results12, go_sem, iv, y0, y1, y2, y3, y4, hz2]) rfl ?_
        unfold DecPost
        rw [P3.out, P4.out]
        exact ⟨rfl, ((((HB2.out.setCell (Nat.le_refl _) _).setCell (Nat.le_refl _) _).setCell (Nat.le_refl _) _).setCell (Nat.le_refl _) _).setCell (Nat.le_refl _) _⟩
  · rcases (by omega : x % 2097152 ≤ Rs.most k ∨ (Rs.most k < x % 2097152 ∧ 0 ≤ Rs.least k) ∨ (Rs.most k < x % 2097152 ∧ Rs.least k < 0)) with t1 | ⟨t1, t2⟩ | ⟨t1, t2⟩
    · have eB : Hid (0 = Rs.fB k x) := by unfold Hid; unfold Rs.fB Rs.hasB; rw [hF]; rfl
      have eC : Hid (0 = Rs.fC k x) := by unfold Hid; unfold Rs.fC Rs.hasC; rw [hF]; rfl
      have hnm : Rs.nmod k = 2097152 := by unfold Rs.nmod; rw [hF]; rfl
      obtain ⟨m, hm⟩ : ∃ m, x % 2097152 = m := ⟨_, rfl⟩
      rw [hm] at t1
      have m1 : 0 ≤ m := by omega
      have m2 : m < 2097152 := by omega
      have hn : Hid (m = Rs.fN k x) := by unfold Hid Rs.fN; rw [hnm, hm, if_neg (by omega)]
      have hcl := Lib.hid (dec_close x hop.out rfl eB.out eC.out hn.out)
      skip
      skip
      have e1 : Rs.hasB k = false := by unfold Rs.hasB; rw [hF]; rfl
      have e2 : Rs.hasC k = false := by unfold Rs.hasC; rw [hF]; rfl
      have e3 : Rs.bitsOf k = 21 := by unfold Rs.bitsOf; rw [hF]; rfl
      clear hnm
      go_enter Try.func12, Try.ntmps12
      go_wp2_with fail
      refine (rows_any _).mono ?_
      rintro e w1 ⟨rb, cap, rfl, hb1, hb2, hrows, hbel⟩
      obtain ⟨hcc, hff⟩ := bcell hbel
      obtain ⟨r0, r1, r2, r3, r4, r5⟩ := hrows k hk32
      rw [e1] at r1
      rw [e2] at r2
      rw [e3] at r3
      have hz0 : w.heap.size < w1.heap.size := by simp at hb1; omega
      have q0 : w1.cell? ⟨w.heap.size, 0, none⟩ = some (.int .i64 0) := (hcc _ _ (by simp)).trans (by go_simp)
      have q1 : w1.cell? ⟨w.heap.size, 1, none⟩ = some (.int .i64 0) := (hcc _ _ (by simp)).trans (by go_simp)
      have q2 : w1.cell? ⟨w.heap.size, 2, none⟩ = some (.int .i64 0) := (hcc _ _ (by simp)).trans (by go_simp)
      have q3 : w1.cell? ⟨w.heap.size, 3, none⟩ = some (.int .i64 0) := (hcc _ _ (by simp)).trans (by go_simp)
      have q4 : w1.cell? ⟨w.heap.size, 4, none⟩ = some (.int .i64 0) := (hcc _ _ (by simp)).trans (by go_simp)
      have p0 : w1.frozen? ⟨w.heap.size, 0, none⟩ = false := (hff _ _ (by simp)).trans (by go_simp)
      have p1 : w1.frozen? ⟨w.heap.size, 1, none⟩ = false := (hff _ _ (by simp)).trans (by go_simp)
      have p2 : w1.frozen? ⟨w.heap.size, 2, none⟩ = false := (hff _ _ (by simp)).trans (by go_simp)
      have p3 : w1.frozen? ⟨w.heap.size, 3, none⟩ = false := (hff _ _ (by simp)).trans (by go_simp)
      have p4 : w1.frozen? ⟨w.heap.size, 4, none⟩ = false := (hff _ _ (by simp)).trans (by go_simp)
      have HB := Lib.hid (((Below.refl w.heap.size w).alloc (Nat.le_refl _) _).trans (hbel.mono (by simp)))
      have HF := Lib.hid hF
      clear hbel hrows hb1 e1 e2 e3 hcc hff hF
      go_wp2_with fail
      (with_reducible refine (rencode_agg k (Rs.fA x) (0) (0) (m) _).mono ?_)
      rintro e w2 ⟨rfl, hbel⟩
      obtain ⟨hcc, hff⟩ := bcell hbel
      have hz : w1.heap.size + 1 < w2.heap.size := by have := hbel.size; simp at this; omega
      have hz1 : w1.heap.size < w2.heap.size := by omega
      have hz2 : w.heap.size < w2.heap.size := by omega
      have y0 : w2.cell? ⟨w.heap.size, 0, none⟩ = some (.int .i64 0) := (hcc _ _ (by simp; omega)).trans (by go_simp)
      have y1 : w2.cell? ⟨w.heap.size, 1, none⟩ = some (.int .i64 0) := (hcc _ _ (by simp; omega)).trans (by go_simp)
      have y2 : w2.cell? ⟨w.heap.size, 2, none⟩ = some (.int .i64 0) := (hcc _ _ (by simp; omega)).trans (by go_simp)
      have y3 : w2.cell? ⟨w.heap.size, 3, none⟩ = some (.int .i64 0) := (hcc _ _ (by simp; omega)).trans (by go_simp)
      have y4 : w2.cell? ⟨w.heap.size, 4, none⟩ = some (.int .i64 0) := (hcc _ _ (by simp; omega)).trans (by go_simp)
      have z0 : w2.frozen? ⟨w.heap.size, 0, none⟩ = false := (hff _ _ (by simp; omega)).trans (by go_simp)
      have z1 : w2.frozen? ⟨w.heap.size, 1, none⟩ = false := (hff _ _ (by simp; omega)).trans (by go_simp)
      have z2 : w2.frozen? ⟨w.heap.size, 2, none⟩ = false := (hff _ _ (by simp; omega)).trans (by go_simp)
      have z3 : w2.frozen? ⟨w.heap.size, 3, none⟩ = false := (hff _ _ (by simp; omega)).trans (by go_simp)
      have z4 : w2.frozen? ⟨w.heap.size, 4, none⟩ = false := (hff _ _ (by simp; omega)).trans (by go_simp)
      have HB2 := Lib.hid (((HB.out.alloc (by omega) _).alloc (by simp; omega) _).trans (hbel.mono (by simp; omega)))
      clear hbel
      rcases hcl.out with ⟨⟨p1, p2⟩, p3, p4⟩ | ⟨p1 | ⟨p1, p2⟩, p3, p4⟩
      · rw [p1, p2]
        have P3 := Lib.hid p3
        have P4 := Lib.hid p4
        clear p3 p4 p1 p2
        skip
        go_wp2
        refine bodyPost_ret (v := .tuple #[iv k (Rs.fA x) (0) (0) (m), .bool true]) (by simp [results, Try.results12, go_sem, iv, y0, y1, y2, y3, y4, hz2]) rfl ?_
        unfold DecPost
        rw [P3.out, P4.out]
        exact ⟨rfl, ((((HB2.out.setCell (Nat.le_refl _) _).setCell (Nat.le_refl _) _).setCell (Nat.le_refl _) _).setCell (Nat.le_refl _) _).setCell (Nat.le_refl _) _⟩
      · rw [p1]
        have P3 := Lib.hid p3
        have P4 := Lib.hid p4
        clear p3 p4 p1 
        skip
        go_wp2
        refine bodyPost_ret (v := .tuple #[iv 0 0 0 0 0, .bool false]) (by simp [results, Try.results12, go_sem, iv, y0, y1, y2, y3, y4, hz2]) rfl ?_
        unfold DecPost
        rw [P3.out, P4.out]
        exact ⟨rfl, ((((HB2.out.setCell (Nat.le_refl _) _).setCell (Nat.le_refl _) _).setCell (Nat.le_refl _) _).setCell (Nat.le_refl _) _).setCell (Nat.le_refl _) _⟩
      · rw [p1]
        have P3 := Lib.hid p3
        have P4 := Lib.hid p4
        clear p3 p4 p1 
        have p5 : (Rs.encW k (Rs.fA x) (0) (0) (m) != x) = true := by rw [bne_iff_ne]; exact p2
        go_wp2
        refine bodyPost_ret (v := .tuple #[iv 0 0 0 0 0, .bool false]) (by simp [results, Try.results12, go_sem, iv, y0, y1, y2, y3, y4, hz2]) rfl ?_
        unfold DecPost
        rw [P3.out, P4.out]
        exact ⟨rfl, ((((HB2.out.setCell (Nat.le_refl _) _).setCell (Nat.le_refl _) _).setCell (Nat.le_refl _) _).setCell (Nat.le_refl _) _).setCell (Nat.le_refl _) _⟩
    · have eB : Hid (0 = Rs.fB k x) := by unfold Hid; unfold Rs.fB Rs.hasB; rw [hF]; rfl
      have eC : Hid (0 = Rs.fC k x) := by unfold Hid; unfold Rs.fC Rs.hasC; rw [hF]; rfl
      have hnm : Rs.nmod k = 2097152 := by unfold Rs.nmod; rw [hF]; rfl
      obtain ⟨m, hm⟩ : ∃ m, x % 2097152 = m := ⟨_, rfl⟩
      rw [hm] at t1
      have m1 : 0 ≤ m := by omega
      have m2 : m < 2097152 := by omega
      have hn : Hid (m = Rs.fN k x) := by unfold Hid Rs.fN; rw [hnm, hm, if_neg (by omega)]
      have hcl := Lib.hid (dec_close x hop.out rfl eB.out eC.out hn.out)
      skip
      skip
      have e1 : Rs.hasB k = false := by unfold Rs.hasB; rw [hF]; rfl
      have e2 : Rs.hasC k = false := by unfold Rs.hasC; rw [hF]; rfl
      have e3 : Rs.bitsOf k = 21 := by unfold Rs.bitsOf; rw [hF]; rfl
      clear hnm
      go_enter Try.func12, Try.ntmps12
      go_wp2_with fail
      refine (rows_any _).mono ?_
      rintro e w1 ⟨rb, cap, rfl, hb1, hb2, hrows, hbel⟩
      obtain ⟨hcc, hff⟩ := bcell hbel
      obtain ⟨r0, r1, r2, r3, r4, r5⟩ := hrows k hk32
      rw [e1] at r1
      rw [e2] at r2
      rw [e3] at r3
      have hz0 : w.heap.size < w1.heap.size := by simp at hb1; omega
      have q0 : w1.cell? ⟨w.heap.size, 0, none⟩ = some (.int .i64 0) := (hcc _ _ (by simp)).trans (by go_simp)
      have q1 : w1.cell? ⟨w.heap.size, 1, none⟩ = some (.int .i64 0) := (hcc _ _ (by simp)).trans (by go_simp)
      have q2 : w1.cell? ⟨w.heap.size, 2, none⟩ = some (.int .i64 0) := (hcc _ _ (by simp)).trans (by go_simp)
      have q3 : w1.cell? ⟨w.heap.size, 3, none⟩ = some (.int .i64 0) := (hcc _ _ (by simp)).trans (by go_simp)
      have q4 : w1.cell? ⟨w.heap.size, 4, none⟩ = some (.int .i64 0) := (hcc _ _ (by simp)).trans (by go_simp)
      have p0 : w1.frozen? ⟨w.heap.size, 0, none⟩ = false := (hff _ _ (by simp)).trans (by go_simp)
      have p1 : w1.frozen? ⟨w.heap.size, 1, none⟩ = false := (hff _ _ (by simp)).trans (by go_simp)
      have p2 : w1.frozen? ⟨w.heap.size, 2, none⟩ = false := (hff _ _ (by simp)).trans (by go_simp)
      have p3 : w1.frozen? ⟨w.heap.size, 3, none⟩ = false := (hff _ _ (by simp)).trans (by go_simp)
      have p4 : w1.frozen? ⟨w.heap.size, 4, none⟩ = false := (hff _ _ (by simp)).trans (by go_simp)
      have HB := Lib.hid (((Below.refl w.heap.size w).alloc (Nat.le_refl _) _).trans (hbel.mono (by simp)))
      have HF := Lib.hid hF
      clear hbel hrows hb1 e1 e2 e3 hcc hff hF
      go_wp2_with fail
      (with_reducible refine (rencode_agg k (Rs.fA x) (0) (0) (m) _).mono ?_)
      rintro e w2 ⟨rfl, hbel⟩
      obtain ⟨hcc, hff⟩ := bcell hbel
      have hz : w1.heap.size + 1 < w2.heap.size := by have := hbel.size; simp at this; omega
      have hz1 : w1.heap.size < w2.heap.size := by omega
      have hz2 : w.heap.size < w2.heap.size := by omega
      have y0 : w2.cell? ⟨w.heap.size, 0, none⟩ = some (.int .i64 0) := (hcc _ _ (by simp; omega)).trans (by go_simp)
      have y1 : w2.cell? ⟨w.heap.size, 1, none⟩ = some (.int .i64 0) := (hcc _ _ (by simp; omega)).trans (by go_simp)
      have y2 : w2.cell? ⟨w.heap.size, 2, none⟩ = some (.int .i64 0) := (hcc _ _ (by simp; omega)).trans (by go_simp)
      have y3 : w2.cell? ⟨w.heap.size, 3, none⟩ = some (.int .i64 0) := (hcc _ _ (by simp; omega)).trans (by go_simp)
      have y4 : w2.cell? ⟨w.heap.size, 4, none⟩ = some (.int .i64 0) := (hcc _ _ (by simp; omega)).trans (by go_simp)
      have z0 : w2.frozen? ⟨w.heap.size, 0, none⟩ = false := (hff _ _ (by simp; omega)).trans (by go_simp)
      have z1 : w2.frozen? ⟨w.heap.size, 1, none⟩ = false := (hff _ _ (by simp; omega)).trans (by go_simp)
      have z2 : w2.frozen? ⟨w.heap.size, 2, none⟩ = false := (hff _ _ (by simp; omega)).trans (by go_simp)
      have z3 : w2.frozen? ⟨w.heap.size, 3, none⟩ = false := (hff _ _ (by simp; omega)).trans (by go_simp)
      have z4 : w2.frozen? ⟨w.heap.size, 4, none⟩ = false := (hff _ _ (by simp; omega)).trans (by go_simp)
      have HB2 := Lib.hid (((HB.out.alloc (by omega) _).alloc (by simp; omega) _).trans (hbel.mono (by simp; omega)))
      clear hbel
      rcases hcl.out with ⟨⟨p1, p2⟩, p3, p4⟩ | ⟨p1 | ⟨p1, p2⟩, p3, p4⟩
      · rw [p1, p2]
        have P3 := Lib.hid p3
        have P4 := Lib.hid p4
        clear p3 p4 p1 p2
        skip
        go_wp2
        refine bodyPost_ret (v := .tuple #[iv k (Rs.fA x) (0) (0) (m), .bool true]) (by simp [results, Try.results12, go_sem, iv, y0, y1, y2, y3, y4, hz2]) rfl ?_
        unfold DecPost
        rw [P3.out, P4.out]
        exact ⟨rfl, ((((HB2.out.setCell (Nat.le_refl _) _).setCell (Nat.le_refl _) _).setCell (Nat.le_refl _) _).setCell (Nat.le_refl _) _).setCell (Nat.le_refl _) _⟩
      · rw [p1]
        have P3 := Lib.hid p3
        have P4 := Lib.hid p4
        clear p3 p4 p1 
        skip
        go_wp2
        refine bodyPost_ret (v := .tuple #[iv 0 0 0 0 0, .bool false]) (by simp [results, Try.results12, go_sem, iv, y0, y1, y2, y3, y4, hz2]) rfl ?_
        unfold DecPost
        rw [P3.out, P4.out]
        exact ⟨rfl, ((((HB2.out.setCell (Nat.le_refl _) _).setCell (Nat.le_refl _) _).setCell (Nat.le_refl _) _).setCell (Nat.le_refl _) _).setCell (Nat.le_refl _) _⟩
      · rw [p1]
        have P3 := Lib.hid p3
        have P4 := Lib.hid p4
        clear p3 p4 p1 
        have p5 : (Rs.encW k (Rs.fA x) (0) (0) (m) != x) = true := by rw [bne_iff_ne]; exact p2
        go_wp2
        refine bodyPost_ret (v := .tuple #[iv 0 0 0 0 0, .bool false]) (by simp [results, Try.results12, go_sem, iv, y0, y1, y2, y3, y4, hz2]) rfl ?_
        unfold DecPost
        rw [P3.out, P4.out]
        exact ⟨rfl, ((((HB2.out.setCell (Nat.le_refl _) _).setCell (Nat.le_refl _) _).setCell (Nat.le_refl _) _).setCell (Nat.le_refl _) _).setCell (Nat.le_refl _) _⟩
    · have eB : Hid (0 = Rs.fB k x) := by unfold Hid; unfold Rs.fB Rs.hasB; rw [hF]; rfl
      have eC : Hid (0 = Rs.fC k x) := by unfold Hid; unfold Rs.fC Rs.hasC; rw [hF]; rfl
      have hnm : Rs.nmod k = 2097152 := by unfold Rs.nmod; rw [hF]; rfl
      obtain ⟨m, hm⟩ : ∃ m, x % 2097152 = m := ⟨_, rfl⟩
      rw [hm] at t1
      have m1 : 0 ≤ m := by omega
      have m2 : m < 2097152 := by omega
      have hn : Hid (m - 2097152 = Rs.fN k x) := by unfold Hid Rs.fN; rw [hnm, hm, if_pos ⟨t1, t2⟩]
      have hcl := Lib.hid (dec_close x hop.out rfl eB.out eC.out hn.out)
      skip
      skip
      have e1 : Rs.hasB k = false := by unfold Rs.hasB; rw [hF]; rfl
      have e2 : Rs.hasC k = false := by unfold Rs.hasC; rw [hF]; rfl
      have e3 : Rs.bitsOf k = 21 := by unfold Rs.bitsOf; rw [hF]; rfl
      clear hnm
      go_enter Try.func12, Try.ntmps12
      go_wp2_with fail
      refine (rows_any _).mono ?_
      rintro e w1 ⟨rb, cap, rfl, hb1, hb2, hrows, hbel⟩
      obtain ⟨hcc, hff⟩ := bcell hbel
      obtain ⟨r0, r1, r2, r3, r4, r5⟩ := hrows k hk32
      rw [e1] at r1
      rw [e2] at r2
      rw [e3] at r3
      have hz0 : w.heap.size < w1.heap.size := by simp at hb1; omega
      have q0 : w1.cell? ⟨w.heap.size, 0, none⟩ = some (.int .i64 0) := (hcc _ _ (by simp)).trans (by go_simp)
      have q1 : w1.cell? ⟨w.heap.size, 1, none⟩ = some (.int .i64 0) := (hcc _ _ (by simp)).trans (by go_simp)
      have q2 : w1.cell? ⟨w.heap.size, 2, none⟩ = some (.int .i64 0) := (hcc _ _ (by simp)).trans (by go_simp)
      have q3 : w1.cell? ⟨w.heap.size, 3, none⟩ = some (.int .i64 0) := (hcc _ _ (by simp)).trans (by go_simp)
      have q4 : w1.cell? ⟨w.heap.size, 4, none⟩ = some (.int .i64 0) := (hcc _ _ (by simp)).trans (by go_simp)
      have p0 : w1.frozen? ⟨w.heap.size, 0, none⟩ = false := (hff _ _ (by simp)).trans (by go_simp)
      have p1 : w1.frozen? ⟨w.heap.size, 1, none⟩ = false := (hff _ _ (by simp)).trans (by go_simp)
      have p2 : w1.frozen? ⟨w.heap.size, 2, none⟩ = false := (hff _ _ (by simp)).trans (by go_simp)
      have p3 : w1.frozen? ⟨w.heap.size, 3, none⟩ = false := (hff _ _ (by simp)).trans (by go_simp)
      have p4 : w1.frozen? ⟨w.heap.size, 4, none⟩ = false := (hff _ _ (by simp)).trans (by go_simp)
      have HB := Lib.hid (((Below.refl w.heap.size w).alloc (Nat.le_refl _) _).trans (hbel.mono (by simp)))
      have HF := Lib.hid hF
      clear hbel hrows hb1 e1 e2 e3 hcc hff hF
      go_wp2_with fail
      (with_reducible refine (rencode_agg k (Rs.fA x) (0) (0) (m - 2097152) _).mono ?_)
      rintro e w2 ⟨rfl, hbel⟩
      obtain ⟨hcc, hff⟩ := bcell hbel
      have hz : w1.heap.size + 1 < w2.heap.size := by have := hbel.size; simp at this; omega
      have hz1 : w1.heap.size < w2.heap.size := by omega
      have hz2 : w.heap.size < w2.heap.size := by omega
      have y0 : w2.cell? ⟨w.heap.size, 0, none⟩ = some (.int .i64 0) := (hcc _ _ (by simp; omega)).trans (by go_simp)
      have y1 : w2.cell? ⟨w.heap.size, 1, none⟩ = some (.int .i64 0) := (hcc _ _ (by simp; omega)).trans (by go_simp)
      have y2 : w2.cell? ⟨w.heap.size, 2, none⟩ = some (.int .i64 0) := (hcc _ _ (by simp; omega)).trans (by go_simp)
      have y3 : w2.cell? ⟨w.heap.size, 3, none⟩ = some (.int .i64 0) := (hcc _ _ (by simp; omega)).trans (by go_simp)
      have y4 : w2.cell? ⟨w.heap.size, 4, none⟩ = some (.int .i64 0) := (hcc _ _ (by simp; omega)).trans (by go_simp)
      have z0 : w2.frozen? ⟨w.heap.size, 0, none⟩ = false := (hff _ _ (by simp; omega)).trans (by go_simp)
      have z1 : w2.frozen? ⟨w.heap.size, 1, none⟩ = false := (hff _ _ (by simp; omega)).trans (by go_simp)
      have z2 : w2.frozen? ⟨w.heap.size, 2, none⟩ = false := (hff _ _ (by simp; omega)).trans (by go_simp)
      have z3 : w2.frozen? ⟨w.heap.size, 3, none⟩ = false := (hff _ _ (by simp; omega)).trans (by go_simp)
      have z4 : w2.frozen? ⟨w.heap.size, 4, none⟩ = false := (hff _ _ (by simp; omega)).trans (by go_simp)
      have HB2 := Lib.hid (((HB.out.alloc (by omega) _).alloc (by simp; omega) _).trans (hbel.mono (by simp; omega)))
      clear hbel
      rcases hcl.out with ⟨⟨p1, p2⟩, p3, p4⟩ | ⟨p1 | ⟨p1, p2⟩, p3, p4⟩
      · rw [p1, p2]
        have P3 := Lib.hid p3
        have P4 := Lib.hid p4
        clear p3 p4 p1 p2
        skip
        go_wp2
        refine bodyPost_ret (v := .tuple #[iv k (Rs.fA x) (0) (0) (m - 2097152), .bool true]) (by simp [results, Try.results12, go_sem, iv, y0, y1, y2, y3, y4, hz2]) rfl ?_
        unfold DecPost
        rw [P3.out, P4.out]
        exact ⟨rfl, ((((HB2.out.setCell (Nat.le_refl _) _).setCell (Nat.le_refl _) _).setCell (Nat.le_refl _) _).setCell (Nat.le_refl _) _).setCell (Nat.le_refl _) _⟩
      · rw [p1]
        have P3 := Lib.hid p3
        have P4 := Lib.hid p4
        clear p3 p4 p1 
        skip
        go_wp2
        refine bodyPost_ret (v := .tuple #[iv 0 0 0 0 0, .bool false]) (by simp [results, Try.results12, go_sem, iv, y0, y1, y2, y3, y4, hz2]) rfl ?_
        unfold DecPost
        rw [P3.out, P4.out]
        exact ⟨rfl, ((((HB2.out.setCell (Nat.le_refl _) _).setCell (Nat.le_refl _) _).setCell (Nat.le_refl _) _).setCell (Nat.le_refl _) _).setCell (Nat.le_refl _) _⟩
      · rw [p1]
        have P3 := Lib.hid p3
        have P4 := Lib.hid p4
        clear p3 p4 p1 
        have p5 : (Rs.encW k (Rs.fA x) (0) (0) (m - 2097152) != x) = true := by rw [bne_iff_ne]; exact p2
        go_wp2
        refine bodyPost_ret (v := .tuple #[iv 0 0 0 0 0, .bool false]) (by simp [results, Try.results12, go_sem, iv, y0, y1, y2, y3, y4, hz2]) rfl ?_
        unfold DecPost
        rw [P3.out, P4.out]
        exact ⟨rfl, ((((HB2.out.setCell (Nat.le_refl _) _).setCell (Nat.le_refl _) _).setCell (Nat.le_refl _) _).setCell (Nat.le_refl _) _).setCell (Nat.le_refl _) _⟩
  · have eB : Hid (Rs.fB k x = Rs.fB k x) := by unfold Hid; rfl
    have eC : Hid (0 = Rs.fC k x) := by unfold Hid; unfold Rs.fC Rs.hasC; rw [hF]; rfl
    have hn : Hid ((0 : Int) = Rs.fN k x) := by unfold Hid; exact (Rs.fN_zero (by unfold Rs.nmod; rw [hF]; rfl) x).symm
    have hcl := Lib.hid (dec_close x hop.out rfl eB.out eC.out hn.out)
    have gB : x / 65536 % 32 = Rs.fB k x := (if_pos (show Rs.hasB k = true by unfold Rs.hasB; rw [hF]; rfl)).symm
    skip
    have e1 : Rs.hasB k = true := by unfold Rs.hasB; rw [hF]; rfl
    have e2 : Rs.hasC k = false := by unfold Rs.hasC; rw [hF]; rfl
    have e3 : Rs.bitsOf k = 0 := by unfold Rs.bitsOf; rw [hF]; rfl
    skip
    go_enter Try.func12, Try.ntmps12
    go_wp2_with fail
    refine (rows_any _).mono ?_
    rintro e w1 ⟨rb, cap, rfl, hb1, hb2, hrows, hbel⟩
    obtain ⟨hcc, hff⟩ := bcell hbel
    obtain ⟨r0, r1, r2, r3, r4, r5⟩ := hrows k hk32
    rw [e1] at r1
    rw [e2] at r2
    rw [e3] at r3
    have hz0 : w.heap.size < w1.heap.size := by simp at hb1; omega
    have q0 : w1.cell? ⟨w.heap.size, 0, none⟩ = some (.int .i64 0) := (hcc _ _ (by simp)).trans (by go_simp)
    have q1 : w1.cell? ⟨w.heap.size, 1, none⟩ = some (.int .i64 0) := (hcc _ _ (by simp)).trans (by go_simp)
    have q2 : w1.cell? ⟨w.heap.size, 2, none⟩ = some (.int .i64 0) := (hcc _ _ (by simp)).trans (by go_simp)
    have q3 : w1.cell? ⟨w.heap.size, 3, none⟩ = some (.int .i64 0) := (hcc _ _ (by simp)).trans (by go_simp)
    have q4 : w1.cell? ⟨w.heap.size, 4, none⟩ = some (.int .i64 0) := (hcc _ _ (by simp)).trans (by go_simp)
    have p0 : w1.frozen? ⟨w.heap.size, 0, none⟩ = false := (hff _ _ (by simp)).trans (by go_simp)
    have p1 : w1.frozen? ⟨w.heap.size, 1, none⟩ = false := (hff _ _ (by simp)).trans (by go_simp)
    have p2 : w1.frozen? ⟨w.heap.size, 2, none⟩ = false := (hff _ _ (by simp)).trans (by go_simp)
    have p3 : w1.frozen? ⟨w.heap.size, 3, none⟩ = false := (hff _ _ (by simp)).trans (by go_simp)
    have p4 : w1.frozen? ⟨w.heap.size, 4, none⟩ = false := (hff _ _ (by simp)).trans (by go_simp)
    have HB := Lib.hid (((Below.refl w.heap.size w).alloc (Nat.le_refl _) _).trans (hbel.mono (by simp)))
    have HF := Lib.hid hF
    clear hbel hrows hb1 e1 e2 e3 hcc hff hF
    go_wp2_with fail
    (with_reducible refine (rencode_agg k (Rs.fA x) (Rs.fB k x) (0) (0) _).mono ?_)
    rintro e w2 ⟨rfl, hbel⟩
    obtain ⟨hcc, hff⟩ := bcell hbel
    have hz : w1.heap.size + 1 < w2.heap.size := by have := hbel.size; simp at this; omega
    have hz1 : w1.heap.size < w2.heap.size := by omega
    have hz2 : w.heap.size < w2.heap.size := by omega
    have y0 : w2.cell? ⟨w.heap.size, 0, none⟩ = some (.int .i64 0) := (hcc _ _ (by simp; omega)).trans (by go_simp)
    have y1 : w2.cell? ⟨w.heap.size, 1, none⟩ = some (.int .i64 0) := (hcc _ _ (by simp; omega)).trans (by go_simp)
    have y2 : w2.cell? ⟨w.heap.size, 2, none⟩ = some (.int .i64 0) := (hcc _ _ (by simp; omega)).trans (by go_simp)
    have y3 : w2.cell? ⟨w.heap.size, 3, none⟩ = some (.int .i64 0) := (hcc _ _ (by simp; omega)).trans (by go_simp)
    have y4 : w2.cell? ⟨w.heap.size, 4, none⟩ = some (.int .i64 0) := (hcc _ _ (by simp; omega)).trans (by go_simp)
    have z0 : w2.frozen? ⟨w.heap.size, 0, none⟩ = false := (hff _ _ (by simp; omega)).trans (by go_simp)
    have z1 : w2.frozen? ⟨w.heap.size, 1, none⟩ = false := (hff _ _ (by simp; omega)).trans (by go_simp)
    have z2 : w2.frozen? ⟨w.heap.size, 2, none⟩ = false := (hff _ _ (by simp; omega)).trans (by go_simp)
    have z3 : w2.frozen? ⟨w.heap.size, 3, none⟩ = false := (hff _ _ (by simp; omega)).trans (by go_simp)
    have z4 : w2.frozen? ⟨w.heap.size, 4, none⟩ = false := (hff _ _ (by simp; omega)).trans (by go_simp)
    have HB2 := Lib.hid (((HB.out.alloc (by omega) _).alloc (by simp; omega) _).trans (hbel.mono (by simp; omega)))
    clear hbel
    rcases hcl.out with ⟨⟨p1, p2⟩, p3, p4⟩ | ⟨p1 | ⟨p1, p2⟩, p3, p4⟩
    · rw [p1, p2]
      have P3 := Lib.hid p3
      have P4 := Lib.hid p4
      clear p3 p4 p1 p2
      skip
      go_wp2
      refine bodyPost_ret (v := .tuple #[iv k (Rs.fA x) (Rs.fB k x) (0) (0), .bool true]) (by simp [results, Try.results12, go_sem, iv, y0, y1, y2, y3, y4, hz2]) rfl ?_
      unfold DecPost
      rw [P3.out, P4.out]
      exact ⟨rfl, ((((HB2.out.setCell (Nat.le_refl _) _).setCell (Nat.le_refl _) _).setCell (Nat.le_refl _) _).setCell (Nat.le_refl _) _).setCell (Nat.le_refl _) _⟩
    · rw [p1]
      have P3 := Lib.hid p3
      have P4 := Lib.hid p4
      clear p3 p4 p1 
      skip
      go_wp2
      refine bodyPost_ret (v := .tuple #[iv 0 0 0 0 0, .bool false]) (by simp [results, Try.results12, go_sem, iv, y0, y1, y2, y3, y4, hz2]) rfl ?_
      unfold DecPost
      rw [P3.out, P4.out]
      exact ⟨rfl, ((((HB2.out.setCell (Nat.le_refl _) _).setCell (Nat.le_refl _) _).setCell (Nat.le_refl _) _).setCell (Nat.le_refl _) _).setCell (Nat.le_refl _) _⟩
    · rw [p1]
      have P3 := Lib.hid p3
      have P4 := Lib.hid p4
      clear p3 p4 p1 
      have p5 : (Rs.encW k (Rs.fA x) (Rs.fB k x) (0) (0) != x) = true := by rw [bne_iff_ne]; exact p2
      go_wp2
      refine bodyPost_ret (v := .tuple #[iv 0 0 0 0 0, .bool false]) (by simp [results, Try.results12, go_sem, iv, y0, y1, y2, y3, y4, hz2]) rfl ?_
      unfold DecPost
      rw [P3.out, P4.out]
      exact ⟨rfl, ((((HB2.out.setCell (Nat.le_refl _) _).setCell (Nat.le_refl _) _).setCell (Nat.le_refl _) _).setCell (Nat.le_refl _) _).setCell (Nat.le_refl _) _⟩
  · exact absurd hF h7.out
end Go.Proofs.Ytbcpflogkniojaa
