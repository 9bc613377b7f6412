/- The reference's Encode. -/
import Derived.Test.YtbcpflogkniojaaQRiscRows
import Derived.Test.YtbcpflogkniojaaQRiscEnc
namespace Go.Proofs.Ytbcpflogkniojaa
open Go.RowKit
set_option linter.unusedSimpArgs false
set_option linter.unusedVariables false

theorem bcell {W w1 : World} (hb : Below W.heap.size W w1) : (∀ b o, b < W.heap.size → w1.cell? ⟨b, o, none⟩ = W.cell? ⟨b, o, none⟩) ∧ (∀ b o, b < W.heap.size → w1.frozen? ⟨b, o, none⟩ = W.frozen? ⟨b, o, none⟩) :=
  ⟨fun b o h => hb.cell (p := ⟨b, o, none⟩) h, fun b o h => hb.frozen (p := ⟨b, o, none⟩) h⟩

def Rs.rreg (n : Int) (has : Bool) : Bool := if has = true then Rs.isReg n else n == 0
theorem rreg_any (n : Int) (has : Bool) (w : World) : Calls Try.prog 39 #[.int .i64 n, .bool has] w fun e w' => e = .returned (.bool (Rs.rreg n has)) ∧ w = w' := by
  cases has
  · have hr : Hid (Rs.rreg n false = (n == 0)) := rfl
    go_enter Try.func39, Try.ntmps39
    go_wp2
    go_ret
    rw [hr.out]; exact ⟨rfl, rfl⟩
  · have hr0 : Hid (Rs.rreg n true = Rs.isReg n) := rfl
    rcases (by omega : n < 0 ∨ (0 ≤ n ∧ n ≤ 31) ∨ (0 ≤ n ∧ 31 < n)) with h | ⟨h, h2⟩ | ⟨h, h2⟩
    · have hr : Hid (Rs.isReg n = false) := decide_eq_false (by omega)
      go_enter Try.func39, Try.ntmps39
      go_wp2
      go_ret
      rw [hr0.out, hr.out]; exact ⟨rfl, rfl⟩
    · have hr : Hid (Rs.isReg n = true) := decide_eq_true (by omega)
      go_enter Try.func39, Try.ntmps39
      go_wp2
      go_ret
      rw [hr0.out, hr.out]; exact ⟨by simp [h2], rfl⟩
    · have hr : Hid (Rs.isReg n = false) := decide_eq_false (by omega)
      go_enter Try.func39, Try.ntmps39
      go_wp2
      go_ret
      rw [hr0.out, hr.out]; exact ⟨by simp; omega, rfl⟩
theorem rreg_bc {op a b c n : Int} (h7 : Rs.form op ≠ 7) : (Rs.Bad op a b c n ↔ (Rs.rreg a true = false ∨ Rs.rreg b (Rs.hasB op) = false ∨ Rs.rreg c (Rs.hasC op) = false ∨ n < Rs.least op ∨ Rs.most op < n)) := by
  have e : ∀ (x : Int) (v : Bool), Rs.rreg x v = false ↔ (if v = true then Rs.isReg x = false else x ≠ 0) := by
    intro x v
    cases v
    · simp [Rs.rreg]
    · simp [Rs.rreg]
  have hz : Rs.isReg 0 = true := by decide
  have q : ∀ x : Int, x ≠ 0 ↔ (Rs.isReg x = false ∨ x ≠ 0) := fun x => ⟨.inr, fun h => h.elim (fun h e => by rw [e, hz] at h; cases h) id⟩
  simp only [e, if_true]
  unfold Rs.Bad Rs.hasB Rs.hasC
  by_cases hB : Rs.form op = 0 ∨ Rs.form op = 3 ∨ Rs.form op = 5
  · have h1 : (!(Rs.form op == 0 || Rs.form op == 3 || Rs.form op == 5)) = false := by rcases hB with h | h | h <;> rw [h] <;> decide
    have h2 : (Rs.form op == 1) = false := by simp; omega
    have h3 : Rs.form op ≠ 1 := by omega
    rw [h1, h2, q b, q c]
    simp [h7, hB, h3]
    grind
  · have h1 : (!(Rs.form op == 0 || Rs.form op == 3 || Rs.form op == 5)) = true := by simpa [not_or, and_assoc] using hB
    rw [h1]
    by_cases hC : Rs.form op = 1
    · simp [h7, hB, hC]
    · have h2 : (Rs.form op == 1) = false := by simpa using hC
      rw [h2, q c]
      simp [h7, hB, hC]
      grind
theorem bad_cases {op a b c n : Int} (h7 : Rs.form op ≠ 7) (h : Rs.Bad op a b c n) : Rs.rreg a true = false ∨ (Rs.rreg a true = true ∧ Rs.rreg b (Rs.hasB op) = false) ∨ (Rs.rreg a true = true ∧ Rs.rreg b (Rs.hasB op) = true ∧ Rs.rreg c (Rs.hasC op) = false) ∨
    (Rs.rreg a true = true ∧ Rs.rreg b (Rs.hasB op) = true ∧ Rs.rreg c (Rs.hasC op) = true ∧ n < Rs.least op) ∨ (Rs.rreg a true = true ∧ Rs.rreg b (Rs.hasB op) = true ∧ Rs.rreg c (Rs.hasC op) = true ∧ Rs.least op ≤ n ∧ Rs.most op < n) := by
  rw [rreg_bc h7] at h
  cases ha : Rs.rreg a true
  · exact .inl rfl
  · cases hb : Rs.rreg b (Rs.hasB op)
    · exact .inr (.inl ⟨rfl, rfl⟩)
    · cases hc : Rs.rreg c (Rs.hasC op)
      · exact .inr (.inr (.inl ⟨rfl, rfl, rfl⟩))
      · rw [ha, hb, hc] at h
        by_cases hn : n < Rs.least op
        · exact .inr (.inr (.inr (.inl ⟨rfl, rfl, rfl, hn⟩)))
        · refine .inr (.inr (.inr (.inr ⟨rfl, rfl, rfl, Int.not_lt.1 hn, ?_⟩)))
          simp at h
          omega
theorem good_cases {op a b c n : Int} (h7 : Rs.form op ≠ 7) (h : ¬ Rs.Bad op a b c n) : Rs.rreg a true = true ∧ Rs.rreg b (Rs.hasB op) = true ∧ Rs.rreg c (Rs.hasC op) = true ∧ Rs.least op ≤ n ∧ n ≤ Rs.most op := by
  rw [rreg_bc h7] at h
  simp only [not_or, Bool.not_eq_false, Int.not_lt] at h
  exact h
theorem rreg_range {n : Int} {v : Bool} (h : Rs.rreg n v = true) : 0 ≤ n ∧ n ≤ 31 := by
  cases v
  · simp [Rs.rreg] at h; omega
  · exact of_decide_eq_true h

def EncPost (op a b c n : Int) (w : World) (e : Ending) (w' : World) : Prop :=
  e = .returned (.tuple #[.int .u32 (Rs.encW op a b c n), .int .i64 (Rs.encE op a b c n)]) ∧ Below w.heap.size w w'

theorem form7_bad {op a b c n : Int} (h : Rs.form op = 7) : Rs.encW op a b c n = 0 ∧ Rs.encE op a b c n = 200 := ⟨if_pos (.inl h), if_pos (.inl h)⟩
theorem form7_of {op : Int} (h : op < 0 ∨ 31 < op) : Rs.form op = 7 := by
  unfold Rs.form
  rw [if_neg (by omega), if_neg (by omega), if_neg (by omega), if_neg (by omega), if_neg (by omega), if_neg (by omega), if_neg (by omega)]
theorem form7_not {op : Int} (h : 0 ≤ op ∧ op ≤ 31) : Rs.form op ≠ 7 := by
  unfold Rs.form
  repeat' split
  all_goals omega

theorem Rs.ends_range : ∀ k : Nat, k < 32 → (-1048576 ≤ Rs.least k ∧ Rs.most k ≤ 1048575) ∧
    (Rs.least k < 0 → (Rs.bitsOf k = 16 ∧ Rs.nmod k = 65536 ∧ -32768 ≤ Rs.least k) ∨ (Rs.bitsOf k = 10 ∧ Rs.nmod k = 1024 ∧ -512 ≤ Rs.least k) ∨ (Rs.bitsOf k = 21 ∧ Rs.nmod k = 2097152 ∧ -1048576 ≤ Rs.least k)) ∧ Rs.most k < Rs.nmod k := by decide +kernel
theorem Rs.n_range {k : Nat} {n : Int} (hk : k < 32) (h1 : Rs.least k ≤ n) (h2 : n ≤ Rs.most k) : (-1048576 ≤ n ∧ n ≤ 1048575) ∧
    (n < 0 → (Rs.bitsOf k = 16 ∧ Rs.nmod k = 65536 ∧ -32768 ≤ n) ∨ (Rs.bitsOf k = 10 ∧ Rs.nmod k = 1024 ∧ -512 ≤ n) ∨ (Rs.bitsOf k = 21 ∧ Rs.nmod k = 2097152 ∧ -1048576 ≤ n)) ∧ (0 ≤ n → n % Rs.nmod k = n) := by
  obtain ⟨⟨e1, e2⟩, e3, e4⟩ := Rs.ends_range k hk
  refine ⟨by omega, fun h => ?_, fun h => Int.emod_eq_of_lt h (by omega)⟩
  rcases e3 (by omega) with ⟨p, q, r⟩ | ⟨p, q, r⟩ | ⟨p, q, r⟩
  · exact .inl ⟨p, q, by omega⟩
  · exact .inr (.inl ⟨p, q, by omega⟩)
  · exact .inr (.inr ⟨p, q, by omega⟩)
set_option maxHeartbeats 8000000 in
theorem rencode_good (k : Nat) (a b c n : Int) (w : World) (hk : k < 32) (hbad : ¬ Rs.Bad k a b c n) : Calls Try.prog 27 #[.agg #[.int .i64 k, .int .i64 a, .int .i64 b, .int .i64 c, .int .i64 n]] w (EncPost k a b c n w) := by
  have h7 := Lib.hid (form7_not (op := k) (by omega))
  have hEW : Hid (Rs.encW k a b c n = Rs.enc k a b c n) := if_neg hbad
  have hEE : Hid (Rs.encE k a b c n = 0) := if_neg hbad
  obtain ⟨q1, q2, q3, q4, q5⟩ := good_cases h7.out hbad
  obtain ⟨a1, a2⟩ := rreg_range q1
  obtain ⟨b1, b2⟩ := rreg_range q2
  obtain ⟨c1, c2⟩ := rreg_range q3
  clear hbad
  have HN := Lib.hid (Rs.n_range hk q4 q5)
  have q4' : ¬ n < Rs.least k := by omega
  have q5' : ¬ Rs.most k < n := by omega
  obtain ⟨n1, n2⟩ := HN.out.1
  have k1 : (0 : Int) ≤ k := by omega
  have k2 : (k : Int) ≤ 31 := by omega
  rcases (by omega : 0 ≤ n ∨ n < 0) with hn | hn
  · go_enter Try.func27, Try.ntmps27
    go_wp2_with fail
    refine (rows_any _).mono ?_
    rintro e w1 ⟨rb, cap, rfl, hb1, hb2, hrows, hbel⟩
    obtain ⟨hc, hf⟩ := bcell hbel
    obtain ⟨r0, r1, r2, r3, r4, r5⟩ := hrows k hk
    have hz : w.heap.size + 1 < w1.heap.size := by simp at hb1; omega
    have hz2 : w.heap.size < w1.heap.size := by omega
    have HB := Lib.hid (((Below.refl w.heap.size w).alloc (Nat.le_refl _) _).trans (hbel.mono (by simp)))
    clear hbel hrows hb1
    go_wp2_with ((go_at_call 39; (with_reducible refine (rreg_any _ _ _).mono ?_); rintro e w' ⟨rfl, hw⟩; obtain rfl := hw))
    go_ret2
    unfold EncPost
    rw [hEW.out, hEE.out]
    refine ⟨Rs.ret2_u32 ?_, HB.out.alloc (Nat.le_of_lt hz2) _⟩
    unfold Rs.enc
    rw [HN.out.2.2 hn]
  · rcases HN.out.2.1 hn with ⟨hb, hm, hlo⟩ | ⟨hb, hm, hlo⟩ | ⟨hb, hm, hlo⟩
    all_goals
      go_enter Try.func27, Try.ntmps27
      go_wp2_with fail
      refine (rows_any _).mono ?_
      rintro e w1 ⟨rb, cap, rfl, hb1, hb2, hrows, hbel⟩
      obtain ⟨hc, hf⟩ := bcell hbel
      obtain ⟨r0, r1, r2, r3, r4, r5⟩ := hrows k hk
      have hz : w.heap.size + 1 < w1.heap.size := by simp at hb1; omega
      have hz2 : w.heap.size < w1.heap.size := by omega
      have HB := Lib.hid (((Below.refl w.heap.size w).alloc (Nat.le_refl _) _).trans (hbel.mono (by simp)))
      clear hbel hrows hb1
      rw [hb] at r3
      have HM := Lib.hid hm
      clear hb hm
      go_wp2_with ((go_at_call 39; (with_reducible refine (rreg_any _ _ _).mono ?_); rintro e w' ⟨rfl, hw⟩; obtain rfl := hw))
      go_ret2
      unfold EncPost
      rw [hEW.out, hEE.out]
      refine ⟨Rs.ret2_u32 ?_, HB.out.alloc (Nat.le_of_lt hz2) _⟩
      unfold Rs.enc
      rw [HM.out]
      omega
set_option maxHeartbeats 8000000 in
theorem rencode_any (op a b c n : Int) (w : World) : Calls Try.prog 27 #[iv op a b c n] w (EncPost op a b c n w) := by
  unfold iv
  rcases (by omega : op < 0 ∨ 31 < op ∨ (0 ≤ op ∧ op ≤ 31)) with h | h | h
  · have hz := Lib.hid (form7_bad (a := a) (b := b) (c := c) (n := n) (form7_of (.inl h)))
    go_enter Try.func27, Try.ntmps27
    go_wp2_with fail
    refine (rows_any _).mono ?_
    rintro e w1 ⟨rb, cap, rfl, hb1, hb2, hrows, hbel⟩
    obtain ⟨hc, hf⟩ := bcell hbel
    have HB := Lib.hid hbel
    clear hbel hrows
    go_wp2
    go_ret2
    unfold EncPost
    rw [hz.out.1, hz.out.2]
    exact ⟨rfl, ((Below.refl _ _).alloc (Nat.le_refl _) _).trans (HB.out.mono (by simp))⟩
  · have hz := Lib.hid (form7_bad (a := a) (b := b) (c := c) (n := n) (form7_of (.inr h)))
    go_enter Try.func27, Try.ntmps27
    go_wp2_with fail
    refine (rows_any _).mono ?_
    rintro e w1 ⟨rb, cap, rfl, hb1, hb2, hrows, hbel⟩
    obtain ⟨hc, hf⟩ := bcell hbel
    have HB := Lib.hid hbel
    clear hbel hrows
    have h2 : ¬ op < 0 := by omega
    go_wp2
    all_goals
      go_ret2
      unfold EncPost
      rw [hz.out.1, hz.out.2]
      exact ⟨rfl, ((Below.refl _ _).alloc (Nat.le_refl _) _).trans (HB.out.mono (by simp))⟩
  · obtain ⟨k, rfl⟩ : ∃ k : Nat, op = k := ⟨op.toNat, by omega⟩
    have hk : k < 32 := by omega
    have hlo : (0 : Int) ≤ k := by omega
    have h7 := Lib.hid (form7_not h)
    by_cases hbad : Rs.Bad k a b c n
    · have hEW : Hid (Rs.encW k a b c n = 0) := if_pos hbad
      have hEE : Hid (Rs.encE k a b c n = 200) := if_pos hbad
      rcases bad_cases h7.out hbad with q1 | ⟨q1, q2⟩ | ⟨q1, q2, q3⟩ | ⟨q1, q2, q3, q4⟩ | ⟨q1, q2, q3, q4, q5⟩
      all_goals
        clear hbad
        try (have q4' : ¬ n < Rs.least k := by omega)
        go_enter Try.func27, Try.ntmps27
        go_wp2_with fail
        refine (rows_any _).mono ?_
        rintro e w1 ⟨rb, cap, rfl, hb1, hb2, hrows, hbel⟩
        obtain ⟨hc, hf⟩ := bcell hbel
        obtain ⟨r0, r1, r2, r3, r4, r5⟩ := hrows k hk
        have hz : w.heap.size + 1 < w1.heap.size := by simp at hb1; omega
        have hz2 : w.heap.size < w1.heap.size := by omega
        have HB := Lib.hid (((Below.refl w.heap.size w).alloc (Nat.le_refl _) _).trans (hbel.mono (by simp)))
        clear hbel hrows hb1
        go_wp2_with ((go_at_call 39; (with_reducible refine (rreg_any _ _ _).mono ?_); rintro e w' ⟨rfl, hw⟩; obtain rfl := hw))
        all_goals go_ret2
        all_goals
          unfold EncPost
          rw [hEW.out, hEE.out]
          exact ⟨rfl, HB.out.alloc (Nat.le_of_lt hz2) _⟩
    · exact rencode_good k a b c n w hk hbad
end Go.Proofs.Ytbcpflogkniojaa
