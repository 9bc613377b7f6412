/- The reference's Encode. -/
import Derived.Test.YtaldcgfhlflcpaaAJae
import Derived.Test.YtaldcgfhlflcpaaAJaf
set_option linter.unusedVariables false
set_option linter.unusedSimpArgs false
set_option linter.unnecessarySimpa false
namespace Go.Proofs.Ytaldcgfhlflcpaa
open Go.RowKit
set_option maxRecDepth 100000
set_option linter.unusedSimpArgs false
set_option linter.unusedVariables false

theorem bcell {W w1 : World} (hb : Below W.heap.size W w1) : (∀ b o, b < W.heap.size → w1.cell? ⟨b, o, none⟩ = W.cell? ⟨b, o, none⟩) ∧ (∀ b o, b < W.heap.size → w1.frozen? ⟨b, o, none⟩ = W.frozen? ⟨b, o, none⟩) :=
  ⟨fun b o h => hb.cell (p := ⟨b, o, none⟩) h, fun b o h => hb.frozen (p := ⟨b, o, none⟩) h⟩

def Rs.rreg (n : Int) (has : Bool) : Bool := if has = true then Rs.isReg n else n == 0
theorem rreg_any (n : Int) (has : Bool) (w : World) : Calls Try.prog 47 #[.int .i64 n, .bool has] w fun e w' => e = .returned (.bool (Rs.rreg n has)) ∧ w = w' := by
  cases has
  · have hr : Hid (Rs.rreg n false = (n == 0)) := rfl
    go_enter Try.func47, Try.ntmps47
    go_wp2
    go_ret
    rw [hr.out]; exact ⟨rfl, rfl⟩
  · have hr0 : Hid (Rs.rreg n true = Rs.isReg n) := rfl
    rcases (by omega : n < 0 ∨ (0 ≤ n ∧ n ≤ 31) ∨ (0 ≤ n ∧ 31 < n)) with h | ⟨h, h2⟩ | ⟨h, h2⟩
    · have hr : Hid (Rs.isReg n = false) := decide_eq_false (by omega)
      go_enter Try.func47, Try.ntmps47
      go_wp2
      go_ret
      rw [hr0.out, hr.out]; exact ⟨rfl, rfl⟩
    · have hr : Hid (Rs.isReg n = true) := decide_eq_true (by omega)
      go_enter Try.func47, Try.ntmps47
      go_wp2
      go_ret
      rw [hr0.out, hr.out]; exact ⟨by simp [h2], rfl⟩
    · have hr : Hid (Rs.isReg n = false) := decide_eq_false (by omega)
      go_enter Try.func47, Try.ntmps47
      go_wp2
      go_ret
      rw [hr0.out, hr.out]; exact ⟨by simp; omega, rfl⟩
theorem rreg_bc {op a b c n : Int} (h7 : Rs.form op ≠ 7) : (Rs.Bad op a b c n ↔ (Rs.rreg a true = false ∨ Rs.rreg b (Rs.hasB op) = false ∨ Rs.rreg c (Rs.hasC op) = false ∨ n < Rs.least op ∨ Rs.most op < n)) := by
  have e : ∀ (x : Int) (v : Bool), Rs.rreg x v = false ↔ (if v = true then Rs.isReg x = false else x ≠ 0) := by
    intro x v
    cases v
    · simp [Rs.rreg]
    · simp [Rs.rreg]
  have hz : Rs.isReg 0 = true := by decide
  have q : ∀ x : Int, x ≠ 0 ↔ (Rs.isReg x = false ∨ x ≠ 0) := fun x => ⟨.inr, fun h => h.elim (fun h e => by rw [e, hz] at h; cases h) id⟩
  simp only [e, if_true]
  unfold Rs.Bad Rs.hasB Rs.hasC
  by_cases hB : Rs.form op = 0 ∨ Rs.form op = 3 ∨ Rs.form op = 5
  · have h1 : (!(Rs.form op == 0 || Rs.form op == 3 || Rs.form op == 5)) = false := by rcases hB with h | h | h <;> rw [h] <;> decide
    have h2 : (Rs.form op == 1) = false := by simp; omega
    have h3 : Rs.form op ≠ 1 := by omega
    rw [h1, h2, q b, q c]
    simp [h7, hB, h3]
    grind
  · have h1 : (!(Rs.form op == 0 || Rs.form op == 3 || Rs.form op == 5)) = true := by simpa [not_or, and_assoc] using hB
    rw [h1]
    by_cases hC : Rs.form op = 1
    · simp [h7, hB, hC]
    · have h2 : (Rs.form op == 1) = false := by simpa using hC
      rw [h2, q c]
      simp [h7, hB, hC]
      grind
theorem bad_cases {op a b c n : Int} (h7 : Rs.form op ≠ 7) (h : Rs.Bad op a b c n) : Rs.rreg a true = false ∨ (Rs.rreg a true = true ∧ Rs.rreg b (Rs.hasB op) = false) ∨ (Rs.rreg a true = true ∧ Rs.rreg b (Rs.hasB op) = true ∧ Rs.rreg c (Rs.hasC op) = false) ∨
    (Rs.rreg a true = true ∧ Rs.rreg b (Rs.hasB op) = true ∧ Rs.rreg c (Rs.hasC op) = true ∧ n < Rs.least op) ∨ (Rs.rreg a true = true ∧ Rs.rreg b (Rs.hasB op) = true ∧ Rs.rreg c (Rs.hasC op) = true ∧ Rs.least op ≤ n ∧ Rs.most op < n) := by
  rw [rreg_bc h7] at h
  cases ha : Rs.rreg a true
  · exact .inl rfl
  · cases hb : Rs.rreg b (Rs.hasB op)
    · exact .inr (.inl ⟨rfl, rfl⟩)
    · cases hc : Rs.rreg c (Rs.hasC op)
      · exact .inr (.inr (.inl ⟨rfl, rfl, rfl⟩))
      · rw [ha, hb, hc] at h
        by_cases hn : n < Rs.least op
        · exact .inr (.inr (.inr (.inl ⟨rfl, rfl, rfl, hn⟩)))
        · refine .inr (.inr (.inr (.inr ⟨rfl, rfl, rfl, Int.not_lt.1 hn, ?_⟩)))
          simp at h
          omega
theorem good_cases {op a b c n : Int} (h7 : Rs.form op ≠ 7) (h : ¬ Rs.Bad op a b c n) : Rs.rreg a true = true ∧ Rs.rreg b (Rs.hasB op) = true ∧ Rs.rreg c (Rs.hasC op) = true ∧ Rs.least op ≤ n ∧ n ≤ Rs.most op := by
  rw [rreg_bc h7] at h
  simp only [not_or, Bool.not_eq_false, Int.not_lt] at h
  exact h
theorem rreg_range {n : Int} {v : Bool} (h : Rs.rreg n v = true) : 0 ≤ n ∧ n ≤ 31 := by
  cases v
  · simp [Rs.rreg] at h; omega
  · exact of_decide_eq_true h

def EncPost (op a b c n : Int) (w : World) (e : Ending) (w' : World) : Prop :=
  e = .returned (.tuple #[.int .u32 (Rs.encW op a b c n), .int .i64 (Rs.encE op a b c n)]) ∧ Below w.heap.size w w'

theorem form7_bad {op a b c n : Int} (h : Rs.form op = 7) : Rs.encW op a b c n = 0 ∧ Rs.encE op a b c n = 200 := ⟨if_pos (.inl h), if_pos (.inl h)⟩
theorem form7_of {op : Int} (h : op < 0 ∨ 31 < op) : Rs.form op = 7 := by
  unfold Rs.form
  rw [if_neg (by omega), if_neg (by omega), if_neg (by omega), if_neg (by omega), if_neg (by omega), if_neg (by omega), if_neg (by omega)]
theorem form7_not {op : Int} (h : 0 ≤ op ∧ op ≤ 31) : Rs.form op ≠ 7 := by
  unfold Rs.form
  repeat' split
  all_goals omega

theorem Rs.ends_range : ∀ k : Nat, k < 32 → (-1048576 ≤ Rs.least k ∧ Rs.most k ≤ 1048575) ∧
    (Rs.least k < 0 → (Rs.bitsOf k = 16 ∧ Rs.nmod k = 65536 ∧ -32768 ≤ Rs.least k) ∨ (Rs.bitsOf k = 10 ∧ Rs.nmod k = 1024 ∧ -512 ≤ Rs.least k) ∨ (Rs.bitsOf k = 21 ∧ Rs.nmod k = 2097152 ∧ -1048576 ≤ Rs.least k)) ∧ Rs.most k < Rs.nmod k := by decide +kernel
theorem Rs.n_range {k : Nat} {n : Int} (hk : k < 32) (h1 : Rs.least k ≤ n) (h2 : n ≤ Rs.most k) : (-1048576 ≤ n ∧ n ≤ 1048575) ∧
    (n < 0 → (Rs.bitsOf k = 16 ∧ Rs.nmod k = 65536 ∧ -32768 ≤ n) ∨ (Rs.bitsOf k = 10 ∧ Rs.nmod k = 1024 ∧ -512 ≤ n) ∨ (Rs.bitsOf k = 21 ∧ Rs.nmod k = 2097152 ∧ -1048576 ≤ n)) ∧ (0 ≤ n → n % Rs.nmod k = n) := by
  obtain ⟨⟨e1, e2⟩, e3, e4⟩ := Rs.ends_range k hk
  refine ⟨by omega, fun h => ?_, fun h => Int.emod_eq_of_lt h (by omega)⟩
  rcases e3 (by omega) with ⟨p, q, r⟩ | ⟨p, q, r⟩ | ⟨p, q, r⟩
  · exact .inl ⟨p, q, by omega⟩
  · exact .inr (.inl ⟨p, q, by omega⟩)
  · exact .inr (.inr ⟨p, q, by omega⟩)
set_option maxHeartbeats 8000000 in
theorem rencode_good (k : Nat) (a b c n : Int) (w : World) (hk : k < 32) (hbad : ¬ Rs.Bad k a b c n) : Calls Try.prog 41 #[.agg #[.int .i64 k, .int .i64 a, .int .i64 b, .int .i64 c, .int .i64 n]] w (EncPost k a b c n w) := by
  have h7 := Lib.hid (form7_not (op := k) (by omega))
  have hEW : Hid (Rs.encW k a b c n = Rs.enc k a b c n) := if_neg hbad
  have hEE : Hid (Rs.encE k a b c n = 0) := if_neg hbad
  obtain ⟨q1, q2, q3, q4, q5⟩ := good_cases h7.out hbad
  obtain ⟨a1, a2⟩ := rreg_range q1
  obtain ⟨b1, b2⟩ := rreg_range q2
  obtain ⟨c1, c2⟩ := rreg_range q3
  clear hbad
  have HN := Lib.hid (Rs.n_range hk q4 q5)
  have q4' : ¬ n < Rs.least k := by omega
  have q5' : ¬ Rs.most k < n := by omega
  obtain ⟨n1, n2⟩ := HN.out.1
  have k1 : (0 : Int) ≤ k := by omega
  have k2 : (k : Int) ≤ 31 := by omega
  rcases (by omega : 0 ≤ n ∨ n < 0) with hn | hn
  · go_enter Try.func41, Try.ntmps41
    go_wp2_with fail
    refine (rows_any _).mono ?_
    rintro e w1 ⟨rb, cap, rfl, hb1, hb2, hrows, hbel⟩
    obtain ⟨hc, hf⟩ := bcell hbel
    obtain ⟨r0, r1, r2, r3, r4, r5⟩ := hrows k hk
    have hz : w.heap.size + 1 < w1.heap.size := by simp at hb1; omega
    have hz2 : w.heap.size < w1.heap.size := by omega
    have HB := Lib.hid (((Below.refl w.heap.size w).alloc (Nat.le_refl _) _).trans (hbel.mono (by simp)))
    clear hbel hrows hb1
    go_wp2_with ((go_at_call 47; (with_reducible refine (rreg_any _ _ _).mono ?_); rintro e w' ⟨rfl, hw⟩; obtain rfl := hw))
    go_ret2
    unfold EncPost
    rw [hEW.out, hEE.out]
    refine ⟨Rs.ret2_u32 ?_, HB.out.alloc (Nat.le_of_lt hz2) _⟩
    unfold Rs.enc
    rw [HN.out.2.2 hn]
  · rcases HN.out.2.1 hn with ⟨hb, hm, hlo⟩ | ⟨hb, hm, hlo⟩ | ⟨hb, hm, hlo⟩
    all_goals
      go_enter Try.func41, Try.ntmps41
      go_wp2_with fail
      refine (rows_any _).mono ?_
      rintro e w1 ⟨rb, cap, rfl, hb1, hb2, hrows, hbel⟩
      obtain ⟨hc, hf⟩ := bcell hbel
      obtain ⟨r0, r1, r2, r3, r4, r5⟩ := hrows k hk
      have hz : w.heap.size + 1 < w1.heap.size := by simp at hb1; omega
      have hz2 : w.heap.size < w1.heap.size := by omega
      have HB := Lib.hid (((Below.refl w.heap.size w).alloc (Nat.le_refl _) _).trans (hbel.mono (by simp)))
      clear hbel hrows hb1
      rw [hb] at r3
      have HM := Lib.hid hm
      clear hb hm
      go_wp2_with ((go_at_call 47; (with_reducible refine (rreg_any _ _ _).mono ?_); rintro e w' ⟨rfl, hw⟩; obtain rfl := hw))
      go_ret2
      unfold EncPost
      rw [hEW.out, hEE.out]
      refine ⟨Rs.ret2_u32 ?_, HB.out.alloc (Nat.le_of_lt hz2) _⟩
      unfold Rs.enc
      rw [HM.out]
      omega
set_option maxHeartbeats 8000000 in
theorem rencode_any (op a b c n : Int) (w : World) : Calls Try.prog 41 #[iv op a b c n] w (EncPost op a b c n w) := by
  unfold iv
  rcases (by omega : op < 0 ∨ 31 < op ∨ (0 ≤ op ∧ op ≤ 31)) with h | h | h
  · have hz := Lib.hid (form7_bad (a := a) (b := b) (c := c) (n := n) (form7_of (.inl h)))
    go_enter Try.func41, Try.ntmps41
    go_wp2_with fail
    refine (rows_any _).mono ?_
    rintro e w1 ⟨rb, cap, rfl, hb1, hb2, hrows, hbel⟩
    obtain ⟨hc, hf⟩ := bcell hbel
    have HB := Lib.hid hbel
    clear hbel hrows
    go_wp2
    go_ret2
    unfold EncPost
    rw [hz.out.1, hz.out.2]
    exact ⟨rfl, ((Below.refl _ _).alloc (Nat.le_refl _) _).trans (HB.out.mono (by simp))⟩
  · have hz := Lib.hid (form7_bad (a := a) (b := b) (c := c) (n := n) (form7_of (.inr h)))
    go_enter Try.func41, Try.ntmps41
    go_wp2_with fail
    refine (rows_any _).mono ?_
    rintro e w1 ⟨rb, cap, rfl, hb1, hb2, hrows, hbel⟩
    obtain ⟨hc, hf⟩ := bcell hbel
    have HB := Lib.hid hbel
    clear hbel hrows
    have h2 : ¬ op < 0 := by omega
    go_wp2
    all_goals
      go_ret2
      unfold EncPost
      rw [hz.out.1, hz.out.2]
      exact ⟨rfl, ((Below.refl _ _).alloc (Nat.le_refl _) _).trans (HB.out.mono (by simp))⟩
  · obtain ⟨k, rfl⟩ : ∃ k : Nat, op = k := ⟨op.toNat, by omega⟩
    have hk : k < 32 := by omega
    have hlo : (0 : Int) ≤ k := by omega
    have h7 := Lib.hid (form7_not h)
    by_cases hbad : Rs.Bad k a b c n
    · have hEW : Hid (Rs.encW k a b c n = 0) := if_pos hbad
      have hEE : Hid (Rs.encE k a b c n = 200) := if_pos hbad
      rcases bad_cases h7.out hbad with q1 | ⟨q1, q2⟩ | ⟨q1, q2, q3⟩ | ⟨q1, q2, q3, q4⟩ | ⟨q1, q2, q3, q4, q5⟩
      all_goals
        clear hbad
        try (have q4' : ¬ n < Rs.least k := by omega)
        go_enter Try.func41, Try.ntmps41
        go_wp2_with fail
        refine (rows_any _).mono ?_
        rintro e w1 ⟨rb, cap, rfl, hb1, hb2, hrows, hbel⟩
        obtain ⟨hc, hf⟩ := bcell hbel
        obtain ⟨r0, r1, r2, r3, r4, r5⟩ := hrows k hk
        have hz : w.heap.size + 1 < w1.heap.size := by simp at hb1; omega
        have hz2 : w.heap.size < w1.heap.size := by omega
        have HB := Lib.hid (((Below.refl w.heap.size w).alloc (Nat.le_refl _) _).trans (hbel.mono (by simp)))
        clear hbel hrows hb1
        go_wp2_with ((go_at_call 47; (with_reducible refine (rreg_any _ _ _).mono ?_); rintro e w' ⟨rfl, hw⟩; obtain rfl := hw))
        all_goals go_ret2
        all_goals
          unfold EncPost
          rw [hEW.out, hEE.out]
          exact ⟨rfl, HB.out.alloc (Nat.le_of_lt hz2) _⟩
    · exact rencode_good k a b c n w hk hbad
end Go.Proofs.Ytaldcgfhlflcpaa
namespace Go.Proofs.Ytaldcgfhlflcpaa
open Go.RowKit
set_option maxRecDepth 100000
set_option linter.unusedSimpArgs false
set_option linter.unusedVariables false
namespace Rs
def fN (op x : Int) : Int := if most op < x % nmod op ∧ least op < 0 then x % nmod op - nmod op else x % nmod op
def fA (x : Int) : Int := x / 2097152 % 32
def fB (op x : Int) : Int := if hasB op = true then x / 65536 % 32 else 0
def fC (op x : Int) : Int := if hasC op = true then x / 2048 % 32 else 0
def fO (x : Int) : Int := x / 67108864
def decB (x : Int) : Bool := decide (encE (fO x) (fA x) (fB (fO x) x) (fC (fO x) x) (fN (fO x) x) = 0 ∧ encW (fO x) (fA x) (fB (fO x) x) (fC (fO x) x) (fN (fO x) x) = x)
end Rs
def decV (x : Int) : Value := if Rs.decB x = true then iv (Rs.fO x) (Rs.fA x) (Rs.fB (Rs.fO x) x) (Rs.fC (Rs.fO x) x) (Rs.fN (Rs.fO x) x) else iv 0 0 0 0 0
def DecPost (x : Int) (w : World) (e : Ending) (w' : World) : Prop := e = .returned (.tuple #[decV x, .bool (Rs.decB x)]) ∧ Below w.heap.size w w'
theorem Rs.fA_range (x : Int) : 0 ≤ Rs.fA x ∧ Rs.fA x ≤ 31 := by unfold Rs.fA; omega
theorem Rs.fB_range (op x : Int) : 0 ≤ Rs.fB op x ∧ Rs.fB op x ≤ 31 := by unfold Rs.fB; split <;> omega
theorem Rs.fC_range (op x : Int) : 0 ≤ Rs.fC op x ∧ Rs.fC op x ≤ 31 := by unfold Rs.fC; split <;> omega
theorem Rs.nmod_pos (op : Int) : Rs.nmod op = 65536 ∨ Rs.nmod op = 1024 ∨ Rs.nmod op = 2097152 ∨ Rs.nmod op = 1 := by
  unfold Rs.nmod
  repeat' split
  all_goals simp
theorem Rs.fN_range (op x : Int) : -2097152 ≤ Rs.fN op x ∧ Rs.fN op x ≤ 2097152 := by
  unfold Rs.fN
  rcases Rs.nmod_pos op with h | h | h | h <;> rw [h] <;> split <;> omega
theorem Rs.fN_zero {op : Int} (h : Rs.nmod op = 1) (x : Int) : Rs.fN op x = 0 := by
  have h2 : Rs.least op < 0 → Rs.nmod op ≠ 1 := by
    intro hl
    unfold Rs.least at hl
    unfold Rs.nmod
    repeat' split at hl
    all_goals first | omega | skip
    all_goals (rename_i h0 h1; simp [h0, h1])
  unfold Rs.fN
  rw [h]
  split
  · rename_i hh; exact absurd h (h2 hh.2)
  · omega
theorem dec_close (x : Int) {op a b c n : Int} (hop : op = Rs.fO x) (ha : a = Rs.fA x) (hb : b = Rs.fB op x) (hc : c = Rs.fC op x) (hn : n = Rs.fN op x) :
    ((Rs.encE op a b c n = 0 ∧ Rs.encW op a b c n = x) ∧ Rs.decB x = true ∧ decV x = iv op a b c n) ∨ ((Rs.encE op a b c n = 200 ∨ (Rs.encE op a b c n = 0 ∧ Rs.encW op a b c n ≠ x)) ∧ Rs.decB x = false ∧ decV x = iv 0 0 0 0 0) := by
  subst hb hc hn ha hop
  by_cases h : Rs.decB x = true
  · exact .inl ⟨of_decide_eq_true h, h, if_pos h⟩
  · refine .inr ⟨?_, by simpa using h, if_neg h⟩
    have h2 := of_decide_eq_false (by simpa using h : Rs.decB x = false)
    have h3 : ∀ o a b c n, Rs.encE o a b c n = 200 ∨ Rs.encE o a b c n = 0 := by
      intro o a b c n
      unfold Rs.encE
      split <;> simp
    rcases h3 (Rs.fO x) (Rs.fA x) (Rs.fB (Rs.fO x) x) (Rs.fC (Rs.fO x) x) (Rs.fN (Rs.fO x) x) with h4 | h4
    · exact .inl h4
    · exact .inr ⟨h4, fun h5 => h2 ⟨h4, h5⟩⟩
end Go.Proofs.Ytaldcgfhlflcpaa
namespace Go.Proofs.Ytaldcgfhlflcpaa
open Go.RowKit
set_option maxRecDepth 100000
set_option linter.unusedSimpArgs false
set_option linter.unusedVariables false
theorem rencode_agg (op a b c n : Int) (w : World) : Calls Try.prog 41 #[.agg #[.int .i64 op, .int .i64 a, .int .i64 b, .int .i64 c, .int .i64 n]] w (EncPost op a b c n w) := rencode_any op a b c n w
theorem dec_7 (x : Int) (h : Rs.form (Rs.fO x) = 7) : Rs.decB x = false ∧ decV x = iv 0 0 0 0 0 := by
  have : Rs.decB x = false := decide_eq_false (fun h2 => by rw [(form7_bad h).2] at h2; exact absurd h2.1 (by decide))
  exact ⟨this, if_neg (by rw [this]; simp)⟩
set_option maxHeartbeats 16000000 in
theorem rdecode_any (x : Int) (w : World) (x1 : 0 ≤ x) (x2 : x < 4294967296) : Calls Try.prog 33 #[.int .u32 x] w (DecPost x w) := by
  by_cases hbig : 32 ≤ x / 67108864
  · have hz := Lib.hid (dec_7 x (form7_of (.inr (by unfold Rs.fO; omega))))
    go_enter Try.func33, Try.ntmps33
    go_wp2_with fail
    refine (rows_any _).mono ?_
    rintro e w1 ⟨rb, cap, rfl, hb1, hb2, hrows, hbel⟩
    obtain ⟨hcc, hff⟩ := bcell hbel
    have hz0 : w.heap.size < w1.heap.size := by simp at hb1; omega
    have q0 : w1.cell? ⟨w.heap.size, 0, none⟩ = some (.int .i64 0) := (hcc _ _ (by simp)).trans (by go_simp)
    have q1 : w1.cell? ⟨w.heap.size, 1, none⟩ = some (.int .i64 0) := (hcc _ _ (by simp)).trans (by go_simp)
    have q2 : w1.cell? ⟨w.heap.size, 2, none⟩ = some (.int .i64 0) := (hcc _ _ (by simp)).trans (by go_simp)
    have q3 : w1.cell? ⟨w.heap.size, 3, none⟩ = some (.int .i64 0) := (hcc _ _ (by simp)).trans (by go_simp)
    have q4 : w1.cell? ⟨w.heap.size, 4, none⟩ = some (.int .i64 0) := (hcc _ _ (by simp)).trans (by go_simp)
    have HB := Lib.hid (((Below.refl w.heap.size w).alloc (Nat.le_refl _) _).trans (hbel.mono (by simp)))
    clear hbel hrows hb1
    go_wp2
    refine bodyPost_ret (v := .tuple #[iv 0 0 0 0 0, .bool false]) (by simp [results, Try.results33, go_sem, iv, q0, q1, q2, q3, q4, hz0]) rfl ?_
    unfold DecPost
    rw [hz.out.1, hz.out.2]
    exact ⟨rfl, (((((HB.out.setCell (Nat.le_refl _) _).setCell (Nat.le_refl _) _).setCell (Nat.le_refl _) _).setCell (Nat.le_refl _) _).setCell (Nat.le_refl _) _).alloc (by simp; omega) _⟩
  obtain ⟨k, hk⟩ : ∃ k : Nat, x / 67108864 = k := ⟨(x / 67108864).toNat, by omega⟩
  have hop : Hid ((k : Int) = Rs.fO x) := hk.symm
  have hk32 : k < 32 := by omega
  clear hbig
  obtain ⟨a1, a2⟩ := Rs.fA_range x
  obtain ⟨b1, b2⟩ := Rs.fB_range k x
  obtain ⟨c1, c2⟩ := Rs.fC_range k x
  obtain ⟨n1, n2⟩ := Rs.fN_range k x
  have h7 := Lib.hid (form7_not (op := (k : Int)) (by omega))
  have gA : x / 2097152 % 32 = Rs.fA x := rfl
  rcases Rs.form_8 k with hF | hF | hF | hF | hF | hF | hF | hF
  · have eB : Hid (0 = Rs.fB k x) := by unfold Hid; unfold Rs.fB Rs.hasB; rw [hF]; rfl
    have eC : Hid (0 = Rs.fC k x) := by unfold Hid; unfold Rs.fC Rs.hasC; rw [hF]; rfl
    have hn : Hid ((0 : Int) = Rs.fN k x) := by unfold Hid; exact (Rs.fN_zero (by unfold Rs.nmod; rw [hF]; rfl) x).symm
    have hcl := Lib.hid (dec_close x hop.out rfl eB.out eC.out hn.out)
    skip
    skip
    have e1 : Rs.hasB k = false := by unfold Rs.hasB; rw [hF]; rfl
    have e2 : Rs.hasC k = false := by unfold Rs.hasC; rw [hF]; rfl
    have e3 : Rs.bitsOf k = 0 := by unfold Rs.bitsOf; rw [hF]; rfl
    skip
    go_enter Try.func33, Try.ntmps33
    go_wp2_with fail
    refine (rows_any _).mono ?_
    rintro e w1 ⟨rb, cap, rfl, hb1, hb2, hrows, hbel⟩
    obtain ⟨hcc, hff⟩ := bcell hbel
    obtain ⟨r0, r1, r2, r3, r4, r5⟩ := hrows k hk32
    rw [e1] at r1
    rw [e2] at r2
    rw [e3] at r3
    have hz0 : w.heap.size < w1.heap.size := by simp at hb1; omega
    have q0 : w1.cell? ⟨w.heap.size, 0, none⟩ = some (.int .i64 0) := (hcc _ _ (by simp)).trans (by go_simp)
    have q1 : w1.cell? ⟨w.heap.size, 1, none⟩ = some (.int .i64 0) := (hcc _ _ (by simp)).trans (by go_simp)
    have q2 : w1.cell? ⟨w.heap.size, 2, none⟩ = some (.int .i64 0) := (hcc _ _ (by simp)).trans (by go_simp)
    have q3 : w1.cell? ⟨w.heap.size, 3, none⟩ = some (.int .i64 0) := (hcc _ _ (by simp)).trans (by go_simp)
    have q4 : w1.cell? ⟨w.heap.size, 4, none⟩ = some (.int .i64 0) := (hcc _ _ (by simp)).trans (by go_simp)
    have p0 : w1.frozen? ⟨w.heap.size, 0, none⟩ = false := (hff _ _ (by simp)).trans (by go_simp)
    have p1 : w1.frozen? ⟨w.heap.size, 1, none⟩ = false := (hff _ _ (by simp)).trans (by go_simp)
    have p2 : w1.frozen? ⟨w.heap.size, 2, none⟩ = false := (hff _ _ (by simp)).trans (by go_simp)
    have p3 : w1.frozen? ⟨w.heap.size, 3, none⟩ = false := (hff _ _ (by simp)).trans (by go_simp)
    have p4 : w1.frozen? ⟨w.heap.size, 4, none⟩ = false := (hff _ _ (by simp)).trans (by go_simp)
    have HB := Lib.hid (((Below.refl w.heap.size w).alloc (Nat.le_refl _) _).trans (hbel.mono (by simp)))
    have HF := Lib.hid hF
    clear hbel hrows hb1 e1 e2 e3 hcc hff hF
    go_wp2_with fail
    (with_reducible refine (rencode_agg k (Rs.fA x) (0) (0) (0) _).mono ?_)
    rintro e w2 ⟨rfl, hbel⟩
    obtain ⟨hcc, hff⟩ := bcell hbel
    have hz : w1.heap.size + 1 < w2.heap.size := by have := hbel.size; simp at this; omega
    have hz1 : w1.heap.size < w2.heap.size := by omega
    have hz2 : w.heap.size < w2.heap.size := by omega
    have y0 : w2.cell? ⟨w.heap.size, 0, none⟩ = some (.int .i64 0) := (hcc _ _ (by simp; omega)).trans (by go_simp)
    have y1 : w2.cell? ⟨w.heap.size, 1, none⟩ = some (.int .i64 0) := (hcc _ _ (by simp; omega)).trans (by go_simp)
    have y2 : w2.cell? ⟨w.heap.size, 2, none⟩ = some (.int .i64 0) := (hcc _ _ (by simp; omega)).trans (by go_simp)
    have y3 : w2.cell? ⟨w.heap.size, 3, none⟩ = some (.int .i64 0) := (hcc _ _ (by simp; omega)).trans (by go_simp)
    have y4 : w2.cell? ⟨w.heap.size, 4, none⟩ = some (.int .i64 0) := (hcc _ _ (by simp; omega)).trans (by go_simp)
    have z0 : w2.frozen? ⟨w.heap.size, 0, none⟩ = false := (hff _ _ (by simp; omega)).trans (by go_simp)
    have z1 : w2.frozen? ⟨w.heap.size, 1, none⟩ = false := (hff _ _ (by simp; omega)).trans (by go_simp)
    have z2 : w2.frozen? ⟨w.heap.size, 2, none⟩ = false := (hff _ _ (by simp; omega)).trans (by go_simp)
    have z3 : w2.frozen? ⟨w.heap.size, 3, none⟩ = false := (hff _ _ (by simp; omega)).trans (by go_simp)
    have z4 : w2.frozen? ⟨w.heap.size, 4, none⟩ = false := (hff _ _ (by simp; omega)).trans (by go_simp)
    have HB2 := Lib.hid (((HB.out.alloc (by omega) _).alloc (by simp; omega) _).trans (hbel.mono (by simp; omega)))
    clear hbel
    rcases hcl.out with ⟨⟨p1, p2⟩, p3, p4⟩ | ⟨p1 | ⟨p1, p2⟩, p3, p4⟩
    · rw [p1, p2]
      have P3 := Lib.hid p3
      have P4 := Lib.hid p4
      clear p3 p4 p1 p2
      skip
      go_wp2
      refine bodyPost_ret (v := .tuple #[iv k (Rs.fA x) (0) (0) (0), .bool true]) (by simp [results, Try.results33, go_sem, iv, y0, y1, y2, y3, y4, hz2]) rfl ?_
      unfold DecPost
      rw [P3.out, P4.out]
      exact ⟨rfl, ((((HB2.out.setCell (Nat.le_refl _) _).setCell (Nat.le_refl _) _).setCell (Nat.le_refl _) _).setCell (Nat.le_refl _) _).setCell (Nat.le_refl _) _⟩
    · rw [p1]
      have P3 := Lib.hid p3
      have P4 := Lib.hid p4
      clear p3 p4 p1 
      skip
      go_wp2
      refine bodyPost_ret (v := .tuple #[iv 0 0 0 0 0, .bool false]) (by simp [results, Try.results33, go_sem, iv, y0, y1, y2, y3, y4, hz2]) rfl ?_
      unfold DecPost
      rw [P3.out, P4.out]
      exact ⟨rfl, ((((HB2.out.setCell (Nat.le_refl _) _).setCell (Nat.le_refl _) _).setCell (Nat.le_refl _) _).setCell (Nat.le_refl _) _).setCell (Nat.le_refl _) _⟩
    · rw [p1]
      have P3 := Lib.hid p3
      have P4 := Lib.hid p4
      clear p3 p4 p1 
      have p5 : (Rs.encW k (Rs.fA x) (0) (0) (0) != x) = true := by rw [bne_iff_ne]; exact p2
      go_wp2
      refine bodyPost_ret (v := .tuple #[iv 0 0 0 0 0, .bool false]) (by simp [results, Try.results33, go_sem, iv, y0, y1, y2, y3, y4, hz2]) rfl ?_
      unfold DecPost
      rw [P3.out, P4.out]
      exact ⟨rfl, ((((HB2.out.setCell (Nat.le_refl _) _).setCell (Nat.le_refl _) _).setCell (Nat.le_refl _) _).setCell (Nat.le_refl _) _).setCell (Nat.le_refl _) _⟩
  · have eB : Hid (Rs.fB k x = Rs.fB k x) := by unfold Hid; rfl
    have eC : Hid (Rs.fC k x = Rs.fC k x) := by unfold Hid; rfl
    have hn : Hid ((0 : Int) = Rs.fN k x) := by unfold Hid; exact (Rs.fN_zero (by unfold Rs.nmod; rw [hF]; rfl) x).symm
    have hcl := Lib.hid (dec_close x hop.out rfl eB.out eC.out hn.out)
    have gB : x / 65536 % 32 = Rs.fB k x := (if_pos (show Rs.hasB k = true by unfold Rs.hasB; rw [hF]; rfl)).symm
    have gC : x / 2048 % 32 = Rs.fC k x := (if_pos (show Rs.hasC k = true by unfold Rs.hasC; rw [hF]; rfl)).symm
    have e1 : Rs.hasB k = true := by unfold Rs.hasB; rw [hF]; rfl
    have e2 : Rs.hasC k = true := by unfold Rs.hasC; rw [hF]; rfl
    have e3 : Rs.bitsOf k = 0 := by unfold Rs.bitsOf; rw [hF]; rfl
    skip
    go_enter Try.func33, Try.ntmps33
    go_wp2_with fail
    refine (rows_any _).mono ?_
    rintro e w1 ⟨rb, cap, rfl, hb1, hb2, hrows, hbel⟩
    obtain ⟨hcc, hff⟩ := bcell hbel
    obtain ⟨r0, r1, r2, r3, r4, r5⟩ := hrows k hk32
    rw [e1] at r1
    rw [e2] at r2
    rw [e3] at r3
    have hz0 : w.heap.size < w1.heap.size := by simp at hb1; omega
    have q0 : w1.cell? ⟨w.heap.size, 0, none⟩ = some (.int .i64 0) := (hcc _ _ (by simp)).trans (by go_simp)
    have q1 : w1.cell? ⟨w.heap.size, 1, none⟩ = some (.int .i64 0) := (hcc _ _ (by simp)).trans (by go_simp)
    have q2 : w1.cell? ⟨w.heap.size, 2, none⟩ = some (.int .i64 0) := (hcc _ _ (by simp)).trans (by go_simp)
    have q3 : w1.cell? ⟨w.heap.size, 3, none⟩ = some (.int .i64 0) := (hcc _ _ (by simp)).trans (by go_simp)
    have q4 : w1.cell? ⟨w.heap.size, 4, none⟩ = some (.int .i64 0) := (hcc _ _ (by simp)).trans (by go_simp)
    have p0 : w1.frozen? ⟨w.heap.size, 0, none⟩ = false := (hff _ _ (by simp)).trans (by go_simp)
    have p1 : w1.frozen? ⟨w.heap.size, 1, none⟩ = false := (hff _ _ (by simp)).trans (by go_simp)
    have p2 : w1.frozen? ⟨w.heap.size, 2, none⟩ = false := (hff _ _ (by simp)).trans (by go_simp)
    have p3 : w1.frozen? ⟨w.heap.size, 3, none⟩ = false := (hff _ _ (by simp)).trans (by go_simp)
    have p4 : w1.frozen? ⟨w.heap.size, 4, none⟩ = false := (hff _ _ (by simp)).trans (by go_simp)
    have HB := Lib.hid (((Below.refl w.heap.size w).alloc (Nat.le_refl _) _).trans (hbel.mono (by simp)))
    have HF := Lib.hid hF
    clear hbel hrows hb1 e1 e2 e3 hcc hff hF
    go_wp2_with fail
    (with_reducible refine (rencode_agg k (Rs.fA x) (Rs.fB k x) (Rs.fC k x) (0) _).mono ?_)
    rintro e w2 ⟨rfl, hbel⟩
    obtain ⟨hcc, hff⟩ := bcell hbel
    have hz : w1.heap.size + 1 < w2.heap.size := by have := hbel.size; simp at this; omega
    have hz1 : w1.heap.size < w2.heap.size := by omega
    have hz2 : w.heap.size < w2.heap.size := by omega
    have y0 : w2.cell? ⟨w.heap.size, 0, none⟩ = some (.int .i64 0) := (hcc _ _ (by simp; omega)).trans (by go_simp)
    have y1 : w2.cell? ⟨w.heap.size, 1, none⟩ = some (.int .i64 0) := (hcc _ _ (by simp; omega)).trans (by go_simp)
    have y2 : w2.cell? ⟨w.heap.size, 2, none⟩ = some (.int .i64 0) := (hcc _ _ (by simp; omega)).trans (by go_simp)
    have y3 : w2.cell? ⟨w.heap.size, 3, none⟩ = some (.int .i64 0) := (hcc _ _ (by simp; omega)).trans (by go_simp)
    have y4 : w2.cell? ⟨w.heap.size, 4, none⟩ = some (.int .i64 0) := (hcc _ _ (by simp; omega)).trans (by go_simp)
    have z0 : w2.frozen? ⟨w.heap.size, 0, none⟩ = false := (hff _ _ (by simp; omega)).trans (by go_simp)
    have z1 : w2.frozen? ⟨w.heap.size, 1, none⟩ = false := (hff _ _ (by simp; omega)).trans (by go_simp)
    have z2 : w2.frozen? ⟨w.heap.size, 2, none⟩ = false := (hff _ _ (by simp; omega)).trans (by go_simp)
    have z3 : w2.frozen? ⟨w.heap.size, 3, none⟩ = false := (hff _ _ (by simp; omega)).trans (by go_simp)
    have z4 : w2.frozen? ⟨w.heap.size, 4, none⟩ = false := (hff _ _ (by simp; omega)).trans (by go_simp)
    have HB2 := Lib.hid (((HB.out.alloc (by omega) _).alloc (by simp; omega) _).trans (hbel.mono (by simp; omega)))
    clear hbel
    rcases hcl.out with ⟨⟨p1, p2⟩, p3, p4⟩ | ⟨p1 | ⟨p1, p2⟩, p3, p4⟩
    · rw [p1, p2]
      have P3 := Lib.hid p3
      have P4 := Lib.hid p4
      clear p3 p4 p1 p2
      skip
      go_wp2
      refine bodyPost_ret (v := .tuple #[iv k (Rs.fA x) (Rs.fB k x) (Rs.fC k x) (0), .bool true]) (by simp [results, Try.results33, go_sem, iv, y0, y1, y2, y3, y4, hz2]) rfl ?_
      unfold DecPost
      rw [P3.out, P4.out]
      exact ⟨rfl, ((((HB2.out.setCell (Nat.le_refl _) _).setCell (Nat.le_refl _) _).setCell (Nat.le_refl _) _).setCell (Nat.le_refl _) _).setCell (Nat.le_refl _) _⟩
    · rw [p1]
      have P3 := Lib.hid p3
      have P4 := Lib.hid p4
      clear p3 p4 p1 
      skip
      go_wp2
      refine bodyPost_ret (v := .tuple #[iv 0 0 0 0 0, .bool false]) (by simp [results, Try.results33, go_sem, iv, y0, y1, y2, y3, y4, hz2]) rfl ?_
      unfold DecPost
      rw [P3.out, P4.out]
      exact ⟨rfl, ((((HB2.out.setCell (Nat.le_refl _) _).setCell (Nat.le_refl _) _).setCell (Nat.le_refl _) _).setCell (Nat.le_refl _) _).setCell (Nat.le_refl _) _⟩
    · rw [p1]
      have P3 := Lib.hid p3
      have P4 := Lib.hid p4
      clear p3 p4 p1 
      have p5 : (Rs.encW k (Rs.fA x) (Rs.fB k x) (Rs.fC k x) (0) != x) = true := by rw [bne_iff_ne]; exact p2
      go_wp2
      refine bodyPost_ret (v := .tuple #[iv 0 0 0 0 0, .bool false]) (by simp [results, Try.results33, go_sem, iv, y0, y1, y2, y3, y4, hz2]) rfl ?_
      unfold DecPost
      rw [P3.out, P4.out]
      exact ⟨rfl, ((((HB2.out.setCell (Nat.le_refl _) _).setCell (Nat.le_refl _) _).setCell (Nat.le_refl _) _).setCell (Nat.le_refl _) _).setCell (Nat.le_refl _) _⟩
  · rcases (by omega : x % 65536 ≤ Rs.most k ∨ (Rs.most k < x % 65536 ∧ 0 ≤ Rs.least k) ∨ (Rs.most k < x % 65536 ∧ Rs.least k < 0)) with t1 | ⟨t1, t2⟩ | ⟨t1, t2⟩
    · have eB : Hid (Rs.fB k x = Rs.fB k x) := by unfold Hid; rfl
      have eC : Hid (0 = Rs.fC k x) := by unfold Hid; unfold Rs.fC Rs.hasC; rw [hF]; rfl
      have hnm : Rs.nmod k = 65536 := by unfold Rs.nmod; rw [hF]; rfl
      obtain ⟨m, hm⟩ : ∃ m, x % 65536 = m := ⟨_, rfl⟩
      rw [hm] at t1
      have m1 : 0 ≤ m := by omega
      have m2 : m < 65536 := by omega
      have hn : Hid (m = Rs.fN k x) := by unfold Hid Rs.fN; rw [hnm, hm, if_neg (by omega)]
      have hcl := Lib.hid (dec_close x hop.out rfl eB.out eC.out hn.out)
      have gB : x / 65536 % 32 = Rs.fB k x := (if_pos (show Rs.hasB k = true by unfold Rs.hasB; rw [hF]; rfl)).symm
      skip
      have e1 : Rs.hasB k = true := by unfold Rs.hasB; rw [hF]; rfl
      have e2 : Rs.hasC k = false := by unfold Rs.hasC; rw [hF]; rfl
      have e3 : Rs.bitsOf k = 16 := by unfold Rs.bitsOf; rw [hF]; rfl
      clear hnm
      go_enter Try.func33, Try.ntmps33
      go_wp2_with fail
      refine (rows_any _).mono ?_
      rintro e w1 ⟨rb, cap, rfl, hb1, hb2, hrows, hbel⟩
      obtain ⟨hcc, hff⟩ := bcell hbel
      obtain ⟨r0, r1, r2, r3, r4, r5⟩ := hrows k hk32
      rw [e1] at r1
      rw [e2] at r2
      rw [e3] at r3
      have hz0 : w.heap.size < w1.heap.size := by simp at hb1; omega
      have q0 : w1.cell? ⟨w.heap.size, 0, none⟩ = some (.int .i64 0) := (hcc _ _ (by simp)).trans (by go_simp)
      have q1 : w1.cell? ⟨w.heap.size, 1, none⟩ = some (.int .i64 0) := (hcc _ _ (by simp)).trans (by go_simp)
      have q2 : w1.cell? ⟨w.heap.size, 2, none⟩ = some (.int .i64 0) := (hcc _ _ (by simp)).trans (by go_simp)
      have q3 : w1.cell? ⟨w.heap.size, 3, none⟩ = some (.int .i64 0) := (hcc _ _ (by simp)).trans (by go_simp)
      have q4 : w1.cell? ⟨w.heap.size, 4, none⟩ = some (.int .i64 0) := (hcc _ _ (by simp)).trans (by go_simp)
      have p0 : w1.frozen? ⟨w.heap.size, 0, none⟩ = false := (hff _ _ (by simp)).trans (by go_simp)
      have p1 : w1.frozen? ⟨w.heap.size, 1, none⟩ = false := (hff _ _ (by simp)).trans (by go_simp)
      have p2 : w1.frozen? ⟨w.heap.size, 2, none⟩ = false := (hff _ _ (by simp)).trans (by go_simp)
      have p3 : w1.frozen? ⟨w.heap.size, 3, none⟩ = false := (hff _ _ (by simp)).trans (by go_simp)
      have p4 : w1.frozen? ⟨w.heap.size, 4, none⟩ = false := (hff _ _ (by simp)).trans (by go_simp)
      have HB := Lib.hid (((Below.refl w.heap.size w).alloc (Nat.le_refl _) _).trans (hbel.mono (by simp)))
      have HF := Lib.hid hF
      clear hbel hrows hb1 e1 e2 e3 hcc hff hF
      go_wp2_with fail
      (with_reducible refine (rencode_agg k (Rs.fA x) (Rs.fB k x) (0) (m) _).mono ?_)
      rintro e w2 ⟨rfl, hbel⟩
      obtain ⟨hcc, hff⟩ := bcell hbel
      have hz : w1.heap.size + 1 < w2.heap.size := by have := hbel.size; simp at this; omega
      have hz1 : w1.heap.size < w2.heap.size := by omega
      have hz2 : w.heap.size < w2.heap.size := by omega
      have y0 : w2.cell? ⟨w.heap.size, 0, none⟩ = some (.int .i64 0) := (hcc _ _ (by simp; omega)).trans (by go_simp)
      have y1 : w2.cell? ⟨w.heap.size, 1, none⟩ = some (.int .i64 0) := (hcc _ _ (by simp; omega)).trans (by go_simp)
      have y2 : w2.cell? ⟨w.heap.size, 2, none⟩ = some (.int .i64 0) := (hcc _ _ (by simp; omega)).trans (by go_simp)
      have y3 : w2.cell? ⟨w.heap.size, 3, none⟩ = some (.int .i64 0) := (hcc _ _ (by simp; omega)).trans (by go_simp)
      have y4 : w2.cell? ⟨w.heap.size, 4, none⟩ = some (.int .i64 0) := (hcc _ _ (by simp; omega)).trans (by go_simp)
      have z0 : w2.frozen? ⟨w.heap.size, 0, none⟩ = false := (hff _ _ (by simp; omega)).trans (by go_simp)
      have z1 : w2.frozen? ⟨w.heap.size, 1, none⟩ = false := (hff _ _ (by simp; omega)).trans (by go_simp)
      have z2 : w2.frozen? ⟨w.heap.size, 2, none⟩ = false := (hff _ _ (by simp; omega)).trans (by go_simp)
      have z3 : w2.frozen? ⟨w.heap.size, 3, none⟩ = false := (hff _ _ (by simp; omega)).trans (by go_simp)
      have z4 : w2.frozen? ⟨w.heap.size, 4, none⟩ = false := (hff _ _ (by simp; omega)).trans (by go_simp)
      have HB2 := Lib.hid (((HB.out.alloc (by omega) _).alloc (by simp; omega) _).trans (hbel.mono (by simp; omega)))
      clear hbel
      rcases hcl.out with ⟨⟨p1, p2⟩, p3, p4⟩ | ⟨p1 | ⟨p1, p2⟩, p3, p4⟩
      · rw [p1, p2]
        have P3 := Lib.hid p3
        have P4 := Lib.hid p4
        clear p3 p4 p1 p2
        skip
        go_wp2
        refine bodyPost_ret (v := .tuple #[iv k (Rs.fA x) (Rs.fB k x) (0) (m), .bool true]) (by simp [results, Try.results33, go_sem, iv, y0, y1, y2, y3, y4, hz2]) rfl ?_
        unfold DecPost
        rw [P3.out, P4.out]
        exact ⟨rfl, ((((HB2.out.setCell (Nat.le_refl _) _).setCell (Nat.le_refl _) _).setCell (Nat.le_refl _) _).setCell (Nat.le_refl _) _).setCell (Nat.le_refl _) _⟩
      · rw [p1]
        have P3 := Lib.hid p3
        have P4 := Lib.hid p4
        clear p3 p4 p1 
        skip
        go_wp2
        refine bodyPost_ret (v := .tuple #[iv 0 0 0 0 0, .bool false]) (by simp [results, Try.results33, go_sem, iv, y0, y1, y2, y3, y4, hz2]) rfl ?_
        unfold DecPost
        rw [P3.out, P4.out]
        exact ⟨rfl, ((((HB2.out.setCell (Nat.le_refl _) _).setCell (Nat.le_refl _) _).setCell (Nat.le_refl _) _).setCell (Nat.le_refl _) _).setCell (Nat.le_refl _) _⟩
      · rw [p1]
        have P3 := Lib.hid p3
        have P4 := Lib.hid p4
        clear p3 p4 p1 
        have p5 : (Rs.encW k (Rs.fA x) (Rs.fB k x) (0) (m) != x) = true := by rw [bne_iff_ne]; exact p2
        go_wp2
        refine bodyPost_ret (v := .tuple #[iv 0 0 0 0 0, .bool false]) (by simp [results, Try.results33, go_sem, iv, y0, y1, y2, y3, y4, hz2]) rfl ?_
        unfold DecPost
        rw [P3.out, P4.out]
        exact ⟨rfl, ((((HB2.out.setCell (Nat.le_refl _) _).setCell (Nat.le_refl _) _).setCell (Nat.le_refl _) _).setCell (Nat.le_refl _) _).setCell (Nat.le_refl _) _⟩
    · have eB : Hid (Rs.fB k x = Rs.fB k x) := by unfold Hid; rfl
      have eC : Hid (0 = Rs.fC k x) := by unfold Hid; unfold Rs.fC Rs.hasC; rw [hF]; rfl
      have hnm : Rs.nmod k = 65536 := by unfold Rs.nmod; rw [hF]; rfl
      obtain ⟨m, hm⟩ : ∃ m, x % 65536 = m := ⟨_, rfl⟩
      rw [hm] at t1
      have m1 : 0 ≤ m := by omega
      have m2 : m < 65536 := by omega
      have hn : Hid (m = Rs.fN k x) := by unfold Hid Rs.fN; rw [hnm, hm, if_neg (by omega)]
      have hcl := Lib.hid (dec_close x hop.out rfl eB.out eC.out hn.out)
      have gB : x / 65536 % 32 = Rs.fB k x := (if_pos (show Rs.hasB k = true by unfold Rs.hasB; rw [hF]; rfl)).symm
      skip
      have e1 : Rs.hasB k = true := by unfold Rs.hasB; rw [hF]; rfl
      have e2 : Rs.hasC k = false := by unfold Rs.hasC; rw [hF]; rfl
      have e3 : Rs.bitsOf k = 16 := by unfold Rs.bitsOf; rw [hF]; rfl
      clear hnm
      go_enter Try.func33, Try.ntmps33
      go_wp2_with fail
      refine (rows_any _).mono ?_
      rintro e w1 ⟨rb, cap, rfl, hb1, hb2, hrows, hbel⟩
      obtain ⟨hcc, hff⟩ := bcell hbel
      obtain ⟨r0, r1, r2, r3, r4, r5⟩ := hrows k hk32
      rw [e1] at r1
      rw [e2] at r2
      rw [e3] at r3
      have hz0 : w.heap.size < w1.heap.size := by simp at hb1; omega
      have q0 : w1.cell? ⟨w.heap.size, 0, none⟩ = some (.int .i64 0) := (hcc _ _ (by simp)).trans (by go_simp)
      have q1 : w1.cell? ⟨w.heap.size, 1, none⟩ = some (.int .i64 0) := (hcc _ _ (by simp)).trans (by go_simp)
      have q2 : w1.cell? ⟨w.heap.size, 2, none⟩ = some (.int .i64 0) := (hcc _ _ (by simp)).trans (by go_simp)
      have q3 : w1.cell? ⟨w.heap.size, 3, none⟩ = some (.int .i64 0) := (hcc _ _ (by simp)).trans (by go_simp)
      have q4 : w1.cell? ⟨w.heap.size, 4, none⟩ = some (.int .i64 0) := (hcc _ _ (by simp)).trans (by go_simp)
      have p0 : w1.frozen? ⟨w.heap.size, 0, none⟩ = false := (hff _ _ (by simp)).trans (by go_simp)
      have p1 : w1.frozen? ⟨w.heap.size, 1, none⟩ = false := (hff _ _ (by simp)).trans (by go_simp)
      have p2 : w1.frozen? ⟨w.heap.size, 2, none⟩ = false := (hff _ _ (by simp)).trans (by go_simp)
      have p3 : w1.frozen? ⟨w.heap.size, 3, none⟩ = false := (hff _ _ (by simp)).trans (by go_simp)
      have p4 : w1.frozen? ⟨w.heap.size, 4, none⟩ = false := (hff _ _ (by simp)).trans (by go_simp)
      have HB := Lib.hid (((Below.refl w.heap.size w).alloc (Nat.le_refl _) _).trans (hbel.mono (by simp)))
      have HF := Lib.hid hF
      clear hbel hrows hb1 e1 e2 e3 hcc hff hF
      go_wp2_with fail
      (with_reducible refine (rencode_agg k (Rs.fA x) (Rs.fB k x) (0) (m) _).mono ?_)
      rintro e w2 ⟨rfl, hbel⟩
      obtain ⟨hcc, hff⟩ := bcell hbel
      have hz : w1.heap.size + 1 < w2.heap.size := by have := hbel.size; simp at this; omega
      have hz1 : w1.heap.size < w2.heap.size := by omega
      have hz2 : w.heap.size < w2.heap.size := by omega
      have y0 : w2.cell? ⟨w.heap.size, 0, none⟩ = some (.int .i64 0) := (hcc _ _ (by simp; omega)).trans (by go_simp)
      have y1 : w2.cell? ⟨w.heap.size, 1, none⟩ = some (.int .i64 0) := (hcc _ _ (by simp; omega)).trans (by go_simp)
      have y2 : w2.cell? ⟨w.heap.size, 2, none⟩ = some (.int .i64 0) := (hcc _ _ (by simp; omega)).trans (by go_simp)
      have y3 : w2.cell? ⟨w.heap.size, 3, none⟩ = some (.int .i64 0) := (hcc _ _ (by simp; omega)).trans (by go_simp)
      have y4 : w2.cell? ⟨w.heap.size, 4, none⟩ = some (.int .i64 0) := (hcc _ _ (by simp; omega)).trans (by go_simp)
      have z0 : w2.frozen? ⟨w.heap.size, 0, none⟩ = false := (hff _ _ (by simp; omega)).trans (by go_simp)
      have z1 : w2.frozen? ⟨w.heap.size, 1, none⟩ = false := (hff _ _ (by simp; omega)).trans (by go_simp)
      have z2 : w2.frozen? ⟨w.heap.size, 2, none⟩ = false := (hff _ _ (by simp; omega)).trans (by go_simp)
      have z3 : w2.frozen? ⟨w.heap.size, 3, none⟩ = false := (hff _ _ (by simp; omega)).trans (by go_simp)
      have z4 : w2.frozen? ⟨w.heap.size, 4, none⟩ = false := (hff _ _ (by simp; omega)).trans (by go_simp)
      have HB2 := Lib.hid (((HB.out.alloc (by omega) _).alloc (by simp; omega) _).trans (hbel.mono (by simp; omega)))
      clear hbel
      rcases hcl.out with ⟨⟨p1, p2⟩, p3, p4⟩ | ⟨p1 | ⟨p1, p2⟩, p3, p4⟩
      · rw [p1, p2]
        have P3 := Lib.hid p3
        have P4 := Lib.hid p4
        clear p3 p4 p1 p2
        skip
        go_wp2
        refine bodyPost_ret (v := .tuple #[iv k (Rs.fA x) (Rs.fB k x) (0) (m), .bool true]) (by simp [results, Try.results33, go_sem, iv, y0, y1, y2, y3, y4, hz2]) rfl ?_
        unfold DecPost
        rw [P3.out, P4.out]
        exact ⟨rfl, ((((HB2.out.setCell (Nat.le_refl _) _).setCell (Nat.le_refl _) _).setCell (Nat.le_refl _) _).setCell (Nat.le_refl _) _).setCell (Nat.le_refl _) _⟩
      · rw [p1]
        have P3 := Lib.hid p3
        have P4 := Lib.hid p4
        clear p3 p4 p1 
        skip
        go_wp2
        refine bodyPost_ret (v := .tuple #[iv 0 0 0 0 0, .bool false]) (by simp [results, Try.results33, go_sem, iv, y0, y1, y2, y3, y4, hz2]) rfl ?_
        unfold DecPost
        rw [P3.out, P4.out]
        exact ⟨rfl, ((((HB2.out.setCell (Nat.le_refl _) _).setCell (Nat.le_refl _) _).setCell (Nat.le_refl _) _).setCell (Nat.le_refl _) _).setCell (Nat.le_refl _) _⟩
      · rw [p1]
        have P3 := Lib.hid p3
        have P4 := Lib.hid p4
        clear p3 p4 p1 
        have p5 : (Rs.encW k (Rs.fA x) (Rs.fB k x) (0) (m) != x) = true := by rw [bne_iff_ne]; exact p2
        go_wp2
        refine bodyPost_ret (v := .tuple #[iv 0 0 0 0 0, .bool false]) (by simp [results, Try.results33, go_sem, iv, y0, y1, y2, y3, y4, hz2]) rfl ?_
        unfold DecPost
        rw [P3.out, P4.out]
        exact ⟨rfl, ((((HB2.out.setCell (Nat.le_refl _) _).setCell (Nat.le_refl _) _).setCell (Nat.le_refl _) _).setCell (Nat.le_refl _) _).setCell (Nat.le_refl _) _⟩
    · have eB : Hid (Rs.fB k x = Rs.fB k x) := by unfold Hid; rfl
      have eC : Hid (0 = Rs.fC k x) := by unfold Hid; unfold Rs.fC Rs.hasC; rw [hF]; rfl
      have hnm : Rs.nmod k = 65536 := by unfold Rs.nmod; rw [hF]; rfl
      obtain ⟨m, hm⟩ : ∃ m, x % 65536 = m := ⟨_, rfl⟩
      rw [hm] at t1
      have m1 : 0 ≤ m := by omega
      have m2 : m < 65536 := by omega
      have hn : Hid (m - 65536 = Rs.fN k x) := by unfold Hid Rs.fN; rw [hnm, hm, if_pos ⟨t1, t2⟩]
      have hcl := Lib.hid (dec_close x hop.out rfl eB.out eC.out hn.out)
      have gB : x / 65536 % 32 = Rs.fB k x := (if_pos (show Rs.hasB k = true by unfold Rs.hasB; rw [hF]; rfl)).symm
      skip
      have e1 : Rs.hasB k = true := by unfold Rs.hasB; rw [hF]; rfl
      have e2 : Rs.hasC k = false := by unfold Rs.hasC; rw [hF]; rfl
      have e3 : Rs.bitsOf k = 16 := by unfold Rs.bitsOf; rw [hF]; rfl
      clear hnm
      go_enter Try.func33, Try.ntmps33
      go_wp2_with fail
      refine (rows_any _).mono ?_
      rintro e w1 ⟨rb, cap, rfl, hb1, hb2, hrows, hbel⟩
      obtain ⟨hcc, hff⟩ := bcell hbel
      obtain ⟨r0, r1, r2, r3, r4, r5⟩ := hrows k hk32
      rw [e1] at r1
      rw [e2] at r2
      rw [e3] at r3
      have hz0 : w.heap.size < w1.heap.size := by simp at hb1; omega
      have q0 : w1.cell? ⟨w.heap.size, 0, none⟩ = some (.int .i64 0) := (hcc _ _ (by simp)).trans (by go_simp)
      have q1 : w1.cell? ⟨w.heap.size, 1, none⟩ = some (.int .i64 0) := (hcc _ _ (by simp)).trans (by go_simp)
      have q2 : w1.cell? ⟨w.heap.size, 2, none⟩ = some (.int .i64 0) := (hcc _ _ (by simp)).trans (by go_simp)
      have q3 : w1.cell? ⟨w.heap.size, 3, none⟩ = some (.int .i64 0) := (hcc _ _ (by simp)).trans (by go_simp)
      have q4 : w1.cell? ⟨w.heap.size, 4, none⟩ = some (.int .i64 0) := (hcc _ _ (by simp)).trans (by go_simp)
      have p0 : w1.frozen? ⟨w.heap.size, 0, none⟩ = false := (hff _ _ (by simp)).trans (by go_simp)
      have p1 : w1.frozen? ⟨w.heap.size, 1, none⟩ = false := (hff _ _ (by simp)).trans (by go_simp)
      have p2 : w1.frozen? ⟨w.heap.size, 2, none⟩ = false := (hff _ _ (by simp)).trans (by go_simp)
      have p3 : w1.frozen? ⟨w.heap.size, 3, none⟩ = false := (hff _ _ (by simp)).trans (by go_simp)
      have p4 : w1.frozen? ⟨w.heap.size, 4, none⟩ = false := (hff _ _ (by simp)).trans (by go_simp)
      have HB := Lib.hid (((Below.refl w.heap.size w).alloc (Nat.le_refl _) _).trans (hbel.mono (by simp)))
      have HF := Lib.hid hF
      clear hbel hrows hb1 e1 e2 e3 hcc hff hF
      go_wp2_with fail
      (with_reducible refine (rencode_agg k (Rs.fA x) (Rs.fB k x) (0) (m - 65536) _).mono ?_)
      rintro e w2 ⟨rfl, hbel⟩
      obtain ⟨hcc, hff⟩ := bcell hbel
      have hz : w1.heap.size + 1 < w2.heap.size := by have := hbel.size; simp at this; omega
      have hz1 : w1.heap.size < w2.heap.size := by omega
      have hz2 : w.heap.size < w2.heap.size := by omega
      have y0 : w2.cell? ⟨w.heap.size, 0, none⟩ = some (.int .i64 0) := (hcc _ _ (by simp; omega)).trans (by go_simp)
      have y1 : w2.cell? ⟨w.heap.size, 1, none⟩ = some (.int .i64 0) := (hcc _ _ (by simp; omega)).trans (by go_simp)
      have y2 : w2.cell? ⟨w.heap.size, 2, none⟩ = some (.int .i64 0) := (hcc _ _ (by simp; omega)).trans (by go_simp)
      have y3 : w2.cell? ⟨w.heap.size, 3, none⟩ = some (.int .i64 0) := (hcc _ _ (by simp; omega)).trans (by go_simp)
      have y4 : w2.cell? ⟨w.heap.size, 4, none⟩ = some (.int .i64 0) := (hcc _ _ (by simp; omega)).trans (by go_simp)
      have z0 : w2.frozen? ⟨w.heap.size, 0, none⟩ = false := (hff _ _ (by simp; omega)).trans (by go_simp)
      have z1 : w2.frozen? ⟨w.heap.size, 1, none⟩ = false := (hff _ _ (by simp; omega)).trans (by go_simp)
      have z2 : w2.frozen? ⟨w.heap.size, 2, none⟩ = false := (hff _ _ (by simp; omega)).trans (by go_simp)
      have z3 : w2.frozen? ⟨w.heap.size, 3, none⟩ = false := (hff _ _ (by simp; omega)).trans (by go_simp)
      have z4 : w2.frozen? ⟨w.heap.size, 4, none⟩ = false := (hff _ _ (by simp; omega)).trans (by go_simp)
      have HB2 := Lib.hid (((HB.out.alloc (by omega) _).alloc (by simp; omega) _).trans (hbel.mono (by simp; omega)))
      clear hbel
      rcases hcl.out with ⟨⟨p1, p2⟩, p3, p4⟩ | ⟨p1 | ⟨p1, p2⟩, p3, p4⟩
      · rw [p1, p2]
        have P3 := Lib.hid p3
        have P4 := Lib.hid p4
        clear p3 p4 p1 p2
        skip
        go_wp2
        refine bodyPost_ret (v := .tuple #[iv k (Rs.fA x) (Rs.fB k x) (0) (m - 65536), .bool true]) (by simp [results, Try.results33, go_sem, iv, y0, y1, y2, y3, y4, hz2]) rfl ?_
        unfold DecPost
        rw [P3.out, P4.out]
        exact ⟨rfl, ((((HB2.out.setCell (Nat.le_refl _) _).setCell (Nat.le_refl _) _).setCell (Nat.le_refl _) _).setCell (Nat.le_refl _) _).setCell (Nat.le_refl _) _⟩
      · rw [p1]
        have P3 := Lib.hid p3
        have P4 := Lib.hid p4
        clear p3 p4 p1 
        skip
        go_wp2
        refine bodyPost_ret (v := .tuple #[iv 0 0 0 0 0, .bool false]) (by simp [results, Try.results33, go_sem, iv, y0, y1, y2, y3, y4, hz2]) rfl ?_
        unfold DecPost
        rw [P3.out, P4.out]
        exact ⟨rfl, ((((HB2.out.setCell (Nat.le_refl _) _).setCell (Nat.le_refl _) _).setCell (Nat.le_refl _) _).setCell (Nat.le_refl _) _).setCell (Nat.le_refl _) _⟩
      · rw [p1]
        have P3 := Lib.hid p3
        have P4 := Lib.hid p4
        clear p3 p4 p1 
        have p5 : (Rs.encW k (Rs.fA x) (Rs.fB k x) (0) (m - 65536) != x) = true := by rw [bne_iff_ne]; exact p2
        go_wp2
        refine bodyPost_ret (v := .tuple #[iv 0 0 0 0 0, .bool false]) (by simp [results, Try.results33, go_sem, iv, y0, y1, y2, y3, y4, hz2]) rfl ?_
        unfold DecPost
        rw [P3.out, P4.out]
        exact ⟨rfl, ((((HB2.out.setCell (Nat.le_refl _) _).setCell (Nat.le_refl _) _).setCell (Nat.le_refl _) _).setCell (Nat.le_refl _) _).setCell (Nat.le_refl _) _⟩
  · rcases (by omega : x % 65536 ≤ Rs.most k ∨ (Rs.most k < x % 65536 ∧ 0 ≤ Rs.least k) ∨ (Rs.most k < x % 65536 ∧ Rs.least k < 0)) with t1 | ⟨t1, t2⟩ | ⟨t1, t2⟩
    · have eB : Hid (0 = Rs.fB k x) := by unfold Hid; unfold Rs.fB Rs.hasB; rw [hF]; rfl
      have eC : Hid (0 = Rs.fC k x) := by unfold Hid; unfold Rs.fC Rs.hasC; rw [hF]; rfl
      have hnm : Rs.nmod k = 65536 := by unfold Rs.nmod; rw [hF]; rfl
      obtain ⟨m, hm⟩ : ∃ m, x % 65536 = m := ⟨_, rfl⟩
      rw [hm] at t1
      have m1 : 0 ≤ m := by omega
      have m2 : m < 65536 := by omega
      have hn : Hid (m = Rs.fN k x) := by unfold Hid Rs.fN; rw [hnm, hm, if_neg (by omega)]
      have hcl := Lib.hid (dec_close x hop.out rfl eB.out eC.out hn.out)
      skip
      skip
      have e1 : Rs.hasB k = false := by unfold Rs.hasB; rw [hF]; rfl
      have e2 : Rs.hasC k = false := by unfold Rs.hasC; rw [hF]; rfl
      have e3 : Rs.bitsOf k = 16 := by unfold Rs.bitsOf; rw [hF]; rfl
      clear hnm
      go_enter Try.func33, Try.ntmps33
      go_wp2_with fail
      refine (rows_any _).mono ?_
      rintro e w1 ⟨rb, cap, rfl, hb1, hb2, hrows, hbel⟩
      obtain ⟨hcc, hff⟩ := bcell hbel
      obtain ⟨r0, r1, r2, r3, r4, r5⟩ := hrows k hk32
      rw [e1] at r1
      rw [e2] at r2
      rw [e3] at r3
      have hz0 : w.heap.size < w1.heap.size := by simp at hb1; omega
      have q0 : w1.cell? ⟨w.heap.size, 0, none⟩ = some (.int .i64 0) := (hcc _ _ (by simp)).trans (by go_simp)
      have q1 : w1.cell? ⟨w.heap.size, 1, none⟩ = some (.int .i64 0) := (hcc _ _ (by simp)).trans (by go_simp)
      have q2 : w1.cell? ⟨w.heap.size, 2, none⟩ = some (.int .i64 0) := (hcc _ _ (by simp)).trans (by go_simp)
      have q3 : w1.cell? ⟨w.heap.size, 3, none⟩ = some (.int .i64 0) := (hcc _ _ (by simp)).trans (by go_simp)
      have q4 : w1.cell? ⟨w.heap.size, 4, none⟩ = some (.int .i64 0) := (hcc _ _ (by simp)).trans (by go_simp)
      have p0 : w1.frozen? ⟨w.heap.size, 0, none⟩ = false := (hff _ _ (by simp)).trans (by go_simp)
      have p1 : w1.frozen? ⟨w.heap.size, 1, none⟩ = false := (hff _ _ (by simp)).trans (by go_simp)
      have p2 : w1.frozen? ⟨w.heap.size, 2, none⟩ = false := (hff _ _ (by simp)).trans (by go_simp)
      have p3 : w1.frozen? ⟨w.heap.size, 3, none⟩ = false := (hff _ _ (by simp)).trans (by go_simp)
      have p4 : w1.frozen? ⟨w.heap.size, 4, none⟩ = false := (hff _ _ (by simp)).trans (by go_simp)
      have HB := Lib.hid (((Below.refl w.heap.size w).alloc (Nat.le_refl _) _).trans (hbel.mono (by simp)))
      have HF := Lib.hid hF
      clear hbel hrows hb1 e1 e2 e3 hcc hff hF
      go_wp2_with fail
      (with_reducible refine (rencode_agg k (Rs.fA x) (0) (0) (m) _).mono ?_)
      rintro e w2 ⟨rfl, hbel⟩
      obtain ⟨hcc, hff⟩ := bcell hbel
      have hz : w1.heap.size + 1 < w2.heap.size := by have := hbel.size; simp at this; omega
      have hz1 : w1.heap.size < w2.heap.size := by omega
      have hz2 : w.heap.size < w2.heap.size := by omega
      have y0 : w2.cell? ⟨w.heap.size, 0, none⟩ = some (.int .i64 0) := (hcc _ _ (by simp; omega)).trans (by go_simp)
      have y1 : w2.cell? ⟨w.heap.size, 1, none⟩ = some (.int .i64 0) := (hcc _ _ (by simp; omega)).trans (by go_simp)
      have y2 : w2.cell? ⟨w.heap.size, 2, none⟩ = some (.int .i64 0) := (hcc _ _ (by simp; omega)).trans (by go_simp)
      have y3 : w2.cell? ⟨w.heap.size, 3, none⟩ = some (.int .i64 0) := (hcc _ _ (by simp; omega)).trans (by go_simp)
      have y4 : w2.cell? ⟨w.heap.size, 4, none⟩ = some (.int .i64 0) := (hcc _ _ (by simp; omega)).trans (by go_simp)
      have z0 : w2.frozen? ⟨w.heap.size, 0, none⟩ = false := (hff _ _ (by simp; omega)).trans (by go_simp)
      have z1 : w2.frozen? ⟨w.heap.size, 1, none⟩ = false := (hff _ _ (by simp; omega)).trans (by go_simp)
      have z2 : w2.frozen? ⟨w.heap.size, 2, none⟩ = false := (hff _ _ (by simp; omega)).trans (by go_simp)
      have z3 : w2.frozen? ⟨w.heap.size, 3, none⟩ = false := (hff _ _ (by simp; omega)).trans (by go_simp)
      have z4 : w2.frozen? ⟨w.heap.size, 4, none⟩ = false := (hff _ _ (by simp; omega)).trans (by go_simp)
      have HB2 := Lib.hid (((HB.out.alloc (by omega) _).alloc (by simp; omega) _).trans (hbel.mono (by simp; omega)))
      clear hbel
      rcases hcl.out with ⟨⟨p1, p2⟩, p3, p4⟩ | ⟨p1 | ⟨p1, p2⟩, p3, p4⟩
      · rw [p1, p2]
        have P3 := Lib.hid p3
        have P4 := Lib.hid p4
        clear p3 p4 p1 p2
        skip
        go_wp2
        refine bodyPost_ret (v := .tuple #[iv k (Rs.fA x) (0) (0) (m), .bool true]) (by simp [results, Try.results33, go_sem, iv, y0, y1, y2, y3, y4, hz2]) rfl ?_
        unfold DecPost
        rw [P3.out, P4.out]
        exact ⟨rfl, ((((HB2.out.setCell (Nat.le_refl _) _).setCell (Nat.le_refl _) _).setCell (Nat.le_refl _) _).setCell (Nat.le_refl _) _).setCell (Nat.le_refl _) _⟩
      · rw [p1]
        have P3 := Lib.hid p3
        have P4 := Lib.hid p4
        clear p3 p4 p1 
        skip
        go_wp2
        refine bodyPost_ret (v := .tuple #[iv 0 0 0 0 0, .bool false]) (by simp [results, Try.results33, go_sem, iv, y0, y1, y2, y3, y4, hz2]) rfl ?_
        unfold DecPost
        rw [P3.out, P4.out]
        exact ⟨rfl, ((((HB2.out.setCell (Nat.le_refl _) _).setCell (Nat.le_refl _) _).setCell (Nat.le_refl _) _).setCell (Nat.le_refl _) _).setCell (Nat.le_refl _) _⟩
      · rw [p1]
        have P3 := Lib.hid p3
        have P4 := Lib.hid p4
        clear p3 p4 p1 
        have p5 : (Rs.encW k (Rs.fA x) (0) (0) (m) != x) = true := by rw [bne_iff_ne]; exact p2
        go_wp2
        refine bodyPost_ret (v := .tuple #[iv 0 0 0 0 0, .bool false]) (by simp [results, Try.results33, go_sem, iv, y0, y1, y2, y3, y4, hz2]) rfl ?_
        unfold DecPost
        rw [P3.out, P4.out]
        exact ⟨rfl, ((((HB2.out.setCell (Nat.le_refl _) _).setCell (Nat.le_refl _) _).setCell (Nat.le_refl _) _).setCell (Nat.le_refl _) _).setCell (Nat.le_refl _) _⟩
    · have eB : Hid (0 = Rs.fB k x) := by unfold Hid; unfold Rs.fB Rs.hasB; rw [hF]; rfl
      have eC : Hid (0 = Rs.fC k x) := by unfold Hid; unfold Rs.fC Rs.hasC; rw [hF]; rfl
      have hnm : Rs.nmod k = 65536 := by unfold Rs.nmod; rw [hF]; rfl
      obtain ⟨m, hm⟩ : ∃ m, x % 65536 = m := ⟨_, rfl⟩
      rw [hm] at t1
      have m1 : 0 ≤ m := by omega
      have m2 : m < 65536 := by omega
      have hn : Hid (m = Rs.fN k x) := by unfold Hid Rs.fN; rw [hnm, hm, if_neg (by omega)]
      have hcl := Lib.hid (dec_close x hop.out rfl eB.out eC.out hn.out)
      skip
      skip
      have e1 : Rs.hasB k = false := by unfold Rs.hasB; rw [hF]; rfl
      have e2 : Rs.hasC k = false := by unfold Rs.hasC; rw [hF]; rfl
      have e3 : Rs.bitsOf k = 16 := by unfold Rs.bitsOf; rw [hF]; rfl
      clear hnm
      go_enter Try.func33, Try.ntmps33
      go_wp2_with fail
      refine (rows_any _).mono ?_
      rintro e w1 ⟨rb, cap, rfl, hb1, hb2, hrows, hbel⟩
      obtain ⟨hcc, hff⟩ := bcell hbel
      obtain ⟨r0, r1, r2, r3, r4, r5⟩ := hrows k hk32
      rw [e1] at r1
      rw [e2] at r2
      rw [e3] at r3
      have hz0 : w.heap.size < w1.heap.size := by simp at hb1; omega
      have q0 : w1.cell? ⟨w.heap.size, 0, none⟩ = some (.int .i64 0) := (hcc _ _ (by simp)).trans (by go_simp)
      have q1 : w1.cell? ⟨w.heap.size, 1, none⟩ = some (.int .i64 0) := (hcc _ _ (by simp)).trans (by go_simp)
      have q2 : w1.cell? ⟨w.heap.size, 2, none⟩ = some (.int .i64 0) := (hcc _ _ (by simp)).trans (by go_simp)
      have q3 : w1.cell? ⟨w.heap.size, 3, none⟩ = some (.int .i64 0) := (hcc _ _ (by simp)).trans (by go_simp)
      have q4 : w1.cell? ⟨w.heap.size, 4, none⟩ = some (.int .i64 0) := (hcc _ _ (by simp)).trans (by go_simp)
      have p0 : w1.frozen? ⟨w.heap.size, 0, none⟩ = false := (hff _ _ (by simp)).trans (by go_simp)
      have p1 : w1.frozen? ⟨w.heap.size, 1, none⟩ = false := (hff _ _ (by simp)).trans (by go_simp)
      have p2 : w1.frozen? ⟨w.heap.size, 2, none⟩ = false := (hff _ _ (by simp)).trans (by go_simp)
      have p3 : w1.frozen? ⟨w.heap.size, 3, none⟩ = false := (hff _ _ (by simp)).trans (by go_simp)
      have p4 : w1.frozen? ⟨w.heap.size, 4, none⟩ = false := (hff _ _ (by simp)).trans (by go_simp)
      have HB := Lib.hid (((Below.refl w.heap.size w).alloc (Nat.le_refl _) _).trans (hbel.mono (by simp)))
      have HF := Lib.hid hF
      clear hbel hrows hb1 e1 e2 e3 hcc hff hF
      go_wp2_with fail
      (with_reducible refine (rencode_agg k (Rs.fA x) (0) (0) (m) _).mono ?_)
      rintro e w2 ⟨rfl, hbel⟩
      obtain ⟨hcc, hff⟩ := bcell hbel
      have hz : w1.heap.size + 1 < w2.heap.size := by have := hbel.size; simp at this; omega
      have hz1 : w1.heap.size < w2.heap.size := by omega
      have hz2 : w.heap.size < w2.heap.size := by omega
      have y0 : w2.cell? ⟨w.heap.size, 0, none⟩ = some (.int .i64 0) := (hcc _ _ (by simp; omega)).trans (by go_simp)
      have y1 : w2.cell? ⟨w.heap.size, 1, none⟩ = some (.int .i64 0) := (hcc _ _ (by simp; omega)).trans (by go_simp)
      have y2 : w2.cell? ⟨w.heap.size, 2, none⟩ = some (.int .i64 0) := (hcc _ _ (by simp; omega)).trans (by go_simp)
      have y3 : w2.cell? ⟨w.heap.size, 3, none⟩ = some (.int .i64 0) := (hcc _ _ (by simp; omega)).trans (by go_simp)
      have y4 : w2.cell? ⟨w.heap.size, 4, none⟩ = some (.int .i64 0) := (hcc _ _ (by simp; omega)).trans (by go_simp)
      have z0 : w2.frozen? ⟨w.heap.size, 0, none⟩ = false := (hff _ _ (by simp; omega)).trans (by go_simp)
      have z1 : w2.frozen? ⟨w.heap.size, 1, none⟩ = false := (hff _ _ (by simp; omega)).trans (by go_simp)
      have z2 : w2.frozen? ⟨w.heap.size, 2, none⟩ = false := (hff _ _ (by simp; omega)).trans (by go_simp)
      have z3 : w2.frozen? ⟨w.heap.size, 3, none⟩ = false := (hff _ _ (by simp; omega)).trans (by go_simp)
      have z4 : w2.frozen? ⟨w.heap.size, 4, none⟩ = false := (hff _ _ (by simp; omega)).trans (by go_simp)
      have HB2 := Lib.hid (((HB.out.alloc (by omega) _).alloc (by simp; omega) _).trans (hbel.mono (by simp; omega)))
      clear hbel
      rcases hcl.out with ⟨⟨p1, p2⟩, p3, p4⟩ | ⟨p1 | ⟨p1, p2⟩, p3, p4⟩
      · rw [p1, p2]
        have P3 := Lib.hid p3
        have P4 := Lib.hid p4
        clear p3 p4 p1 p2
        skip
        go_wp2
        refine bodyPost_ret (v := .tuple #[iv k (Rs.fA x) (0) (0) (m), .bool true]) (by simp [results, Try.results33, go_sem, iv, y0, y1, y2, y3, y4, hz2]) rfl ?_
        unfold DecPost
        rw [P3.out, P4.out]
        exact ⟨rfl, ((((HB2.out.setCell (Nat.le_refl _) _).setCell (Nat.le_refl _) _).setCell (Nat.le_refl _) _).setCell (Nat.le_refl _) _).setCell (Nat.le_refl _) _⟩
      · rw [p1]
        have P3 := Lib.hid p3
        have P4 := Lib.hid p4
        clear p3 p4 p1 
        skip
        go_wp2
        refine bodyPost_ret (v := .tuple #[iv 0 0 0 0 0, .bool false]) (by simp [results, Try.results33, go_sem, iv, y0, y1, y2, y3, y4, hz2]) rfl ?_
        unfold DecPost
        rw [P3.out, P4.out]
        exact ⟨rfl, ((((HB2.out.setCell (Nat.le_refl _) _).setCell (Nat.le_refl _) _).setCell (Nat.le_refl _) _).setCell (Nat.le_refl _) _).setCell (Nat.le_refl _) _⟩
      · rw [p1]
        have P3 := Lib.hid p3
        have P4 := Lib.hid p4
        clear p3 p4 p1 
        have p5 : (Rs.encW k (Rs.fA x) (0) (0) (m) != x) = true := by rw [bne_iff_ne]; exact p2
        go_wp2
        refine bodyPost_ret (v := .tuple #[iv 0 0 0 0 0, .bool false]) (by simp [results, Try.results33, go_sem, iv, y0, y1, y2, y3, y4, hz2]) rfl ?_
        unfold DecPost
        rw [P3.out, P4.out]
        exact ⟨rfl, ((((HB2.out.setCell (Nat.le_refl _) _).setCell (Nat.le_refl _) _).setCell (Nat.le_refl _) _).setCell (Nat.le_refl _) _).setCell (Nat.le_refl _) _⟩
    · have eB : Hid (0 = Rs.fB k x) := by unfold Hid; unfold Rs.fB Rs.hasB; rw [hF]; rfl
      have eC : Hid (0 = Rs.fC k x) := by unfold Hid; unfold Rs.fC Rs.hasC; rw [hF]; rfl
      have hnm : Rs.nmod k = 65536 := by unfold Rs.nmod; rw [hF]; rfl
      obtain ⟨m, hm⟩ : ∃ m, x % 65536 = m := ⟨_, rfl⟩
      rw [hm] at t1
      have m1 : 0 ≤ m := by omega
      have m2 : m < 65536 := by omega
      have hn : Hid (m - 65536 = Rs.fN k x) := by unfold Hid Rs.fN; rw [hnm, hm, if_pos ⟨t1, t2⟩]
      have hcl := Lib.hid (dec_close x hop.out rfl eB.out eC.out hn.out)
      skip
      skip
      have e1 : Rs.hasB k = false := by unfold Rs.hasB; rw [hF]; rfl
      have e2 : Rs.hasC k = false := by unfold Rs.hasC; rw [hF]; rfl
      have e3 : Rs.bitsOf k = 16 := by unfold Rs.bitsOf; rw [hF]; rfl
      clear hnm
      go_enter Try.func33, Try.ntmps33
      go_wp2_with fail
      refine (rows_any _).mono ?_
      rintro e w1 ⟨rb, cap, rfl, hb1, hb2, hrows, hbel⟩
      obtain ⟨hcc, hff⟩ := bcell hbel
      obtain ⟨r0, r1, r2, r3, r4, r5⟩ := hrows k hk32
      rw [e1] at r1
      rw [e2] at r2
      rw [e3] at r3
      have hz0 : w.heap.size < w1.heap.size := by simp at hb1; omega
      have q0 : w1.cell? ⟨w.heap.size, 0, none⟩ = some (.int .i64 0) := (hcc _ _ (by simp)).trans (by go_simp)
      have q1 : w1.cell? ⟨w.heap.size, 1, none⟩ = some (.int .i64 0) := (hcc _ _ (by simp)).trans (by go_simp)
      have q2 : w1.cell? ⟨w.heap.size, 2, none⟩ = some (.int .i64 0) := (hcc _ _ (by simp)).trans (by go_simp)
      have q3 : w1.cell? ⟨w.heap.size, 3, none⟩ = some (.int .i64 0) := (hcc _ _ (by simp)).trans (by go_simp)
      have q4 : w1.cell? ⟨w.heap.size, 4, none⟩ = some (.int .i64 0) := (hcc _ _ (by simp)).trans (by go_simp)
      have p0 : w1.frozen? ⟨w.heap.size, 0, none⟩ = false := (hff _ _ (by simp)).trans (by go_simp)
      have p1 : w1.frozen? ⟨w.heap.size, 1, none⟩ = false := (hff _ _ (by simp)).trans (by go_simp)
      have p2 : w1.frozen? ⟨w.heap.size, 2, none⟩ = false := (hff _ _ (by simp)).trans (by go_simp)
      have p3 : w1.frozen? ⟨w.heap.size, 3, none⟩ = false := (hff _ _ (by simp)).trans (by go_simp)
      have p4 : w1.frozen? ⟨w.heap.size, 4, none⟩ = false := (hff _ _ (by simp)).trans (by go_simp)
      have HB := Lib.hid (((Below.refl w.heap.size w).alloc (Nat.le_refl _) _).trans (hbel.mono (by simp)))
      have HF := Lib.hid hF
      clear hbel hrows hb1 e1 e2 e3 hcc hff hF
      go_wp2_with fail
      (with_reducible refine (rencode_agg k (Rs.fA x) (0) (0) (m - 65536) _).mono ?_)
      rintro e w2 ⟨rfl, hbel⟩
      obtain ⟨hcc, hff⟩ := bcell hbel
      have hz : w1.heap.size + 1 < w2.heap.size := by have := hbel.size; simp at this; omega
      have hz1 : w1.heap.size < w2.heap.size := by omega
      have hz2 : w.heap.size < w2.heap.size := by omega
      have y0 : w2.cell? ⟨w.heap.size, 0, none⟩ = some (.int .i64 0) := (hcc _ _ (by simp; omega)).trans (by go_simp)
      have y1 : w2.cell? ⟨w.heap.size, 1, none⟩ = some (.int .i64 0) := (hcc _ _ (by simp; omega)).trans (by go_simp)
      have y2 : w2.cell? ⟨w.heap.size, 2, none⟩ = some (.int .i64 0) := (hcc _ _ (by simp; omega)).trans (by go_simp)
      have y3 : w2.cell? ⟨w.heap.size, 3, none⟩ = some (.int .i64 0) := (hcc _ _ (by simp; omega)).trans (by go_simp)
      have y4 : w2.cell? ⟨w.heap.size, 4, none⟩ = some (.int .i64 0) := (hcc _ _ (by simp; omega)).trans (by go_simp)
      have z0 : w2.frozen? ⟨w.heap.size, 0, none⟩ = false := (hff _ _ (by simp; omega)).trans (by go_simp)
      have z1 : w2.frozen? ⟨w.heap.size, 1, none⟩ = false := (hff _ _ (by simp; omega)).trans (by go_simp)
      have z2 : w2.frozen? ⟨w.heap.size, 2, none⟩ = false := (hff _ _ (by simp; omega)).trans (by go_simp)
      have z3 : w2.frozen? ⟨w.heap.size, 3, none⟩ = false := (hff _ _ (by simp; omega)).trans (by go_simp)
      have z4 : w2.frozen? ⟨w.heap.size, 4, none⟩ = false := (hff _ _ (by simp; omega)).trans (by go_simp)
      have HB2 := Lib.hid (((HB.out.alloc (by omega) _).alloc (by simp; omega) _).trans (hbel.mono (by simp; omega)))
      clear hbel
      rcases hcl.out with ⟨⟨p1, p2⟩, p3, p4⟩ | ⟨p1 | ⟨p1, p2⟩, p3, p4⟩
      · rw [p1, p2]
        have P3 := Lib.hid p3
        have P4 := Lib.hid p4
        clear p3 p4 p1 p2
        skip
        go_wp2
        refine bodyPost_ret (v := .tuple #[iv k (Rs.fA x) (0) (0) (m - 65536), .bool true]) (by simp [results, Try.results33, go_sem, iv, y0, y1, y2, y3, y4, hz2]) rfl ?_
        unfold DecPost
        rw [P3.out, P4.out]
        exact ⟨rfl, ((((HB2.out.setCell (Nat.le_refl _) _).setCell (Nat.le_refl _) _).setCell (Nat.le_refl _) _).setCell (Nat.le_refl _) _).setCell (Nat.le_refl _) _⟩
      · rw [p1]
        have P3 := Lib.hid p3
        have P4 := Lib.hid p4
        clear p3 p4 p1 
        skip
        go_wp2
        refine bodyPost_ret (v := .tuple #[iv 0 0 0 0 0, .bool false]) (by simp [results, Try.results33, go_sem, iv, y0, y1, y2, y3, y4, hz2]) rfl ?_
        unfold DecPost
        rw [P3.out, P4.out]
        exact ⟨rfl, ((((HB2.out.setCell (Nat.le_refl _) _).setCell (Nat.le_refl _) _).setCell (Nat.le_refl _) _).setCell (Nat.le_refl _) _).setCell (Nat.le_refl _) _⟩
      · rw [p1]
        have P3 := Lib.hid p3
        have P4 := Lib.hid p4
        clear p3 p4 p1 
        have p5 : (Rs.encW k (Rs.fA x) (0) (0) (m - 65536) != x) = true := by rw [bne_iff_ne]; exact p2
        go_wp2
        refine bodyPost_ret (v := .tuple #[iv 0 0 0 0 0, .bool false]) (by simp [results, Try.results33, go_sem, iv, y0, y1, y2, y3, y4, hz2]) rfl ?_
        unfold DecPost
        rw [P3.out, P4.out]
        exact ⟨rfl, ((((HB2.out.setCell (Nat.le_refl _) _).setCell (Nat.le_refl _) _).setCell (Nat.le_refl _) _).setCell (Nat.le_refl _) _).setCell (Nat.le_refl _) _⟩
  · rcases (by omega : x % 1024 ≤ Rs.most k ∨ (Rs.most k < x % 1024 ∧ 0 ≤ Rs.least k) ∨ (Rs.most k < x % 1024 ∧ Rs.least k < 0)) with t1 | ⟨t1, t2⟩ | ⟨t1, t2⟩
    · have eB : Hid (Rs.fB k x = Rs.fB k x) := by unfold Hid; rfl
      have eC : Hid (0 = Rs.fC k x) := by unfold Hid; unfold Rs.fC Rs.hasC; rw [hF]; rfl
      have hnm : Rs.nmod k = 1024 := by unfold Rs.nmod; rw [hF]; rfl
      obtain ⟨m, hm⟩ : ∃ m, x % 1024 = m := ⟨_, rfl⟩
      rw [hm] at t1
      have m1 : 0 ≤ m := by omega
      have m2 : m < 1024 := by omega
      have hn : Hid (m = Rs.fN k x) := by unfold Hid Rs.fN; rw [hnm, hm, if_neg (by omega)]
      have hcl := Lib.hid (dec_close x hop.out rfl eB.out eC.out hn.out)
      have gB : x / 65536 % 32 = Rs.fB k x := (if_pos (show Rs.hasB k = true by unfold Rs.hasB; rw [hF]; rfl)).symm
      skip
      have e1 : Rs.hasB k = true := by unfold Rs.hasB; rw [hF]; rfl
      have e2 : Rs.hasC k = false := by unfold Rs.hasC; rw [hF]; rfl
      have e3 : Rs.bitsOf k = 10 := by unfold Rs.bitsOf; rw [hF]; rfl
      clear hnm
      go_enter Try.func33, Try.ntmps33
      go_wp2_with fail
      refine (rows_any _).mono ?_
      rintro e w1 ⟨rb, cap, rfl, hb1, hb2, hrows, hbel⟩
      obtain ⟨hcc, hff⟩ := bcell hbel
      obtain ⟨r0, r1, r2, r3, r4, r5⟩ := hrows k hk32
      rw [e1] at r1
      rw [e2] at r2
      rw [e3] at r3
      have hz0 : w.heap.size < w1.heap.size := by simp at hb1; omega
      have q0 : w1.cell? ⟨w.heap.size, 0, none⟩ = some (.int .i64 0) := (hcc _ _ (by simp)).trans (by go_simp)
      have q1 : w1.cell? ⟨w.heap.size, 1, none⟩ = some (.int .i64 0) := (hcc _ _ (by simp)).trans (by go_simp)
      have q2 : w1.cell? ⟨w.heap.size, 2, none⟩ = some (.int .i64 0) := (hcc _ _ (by simp)).trans (by go_simp)
      have q3 : w1.cell? ⟨w.heap.size, 3, none⟩ = some (.int .i64 0) := (hcc _ _ (by simp)).trans (by go_simp)
      have q4 : w1.cell? ⟨w.heap.size, 4, none⟩ = some (.int .i64 0) := (hcc _ _ (by simp)).trans (by go_simp)
      have p0 : w1.frozen? ⟨w.heap.size, 0, none⟩ = false := (hff _ _ (by simp)).trans (by go_simp)
      have p1 : w1.frozen? ⟨w.heap.size, 1, none⟩ = false := (hff _ _ (by simp)).trans (by go_simp)
      have p2 : w1.frozen? ⟨w.heap.size, 2, none⟩ = false := (hff _ _ (by simp)).trans (by go_simp)
      have p3 : w1.frozen? ⟨w.heap.size, 3, none⟩ = false := (hff _ _ (by simp)).trans (by go_simp)
      have p4 : w1.frozen? ⟨w.heap.size, 4, none⟩ = false := (hff _ _ (by simp)).trans (by go_simp)
      have HB := Lib.hid (((Below.refl w.heap.size w).alloc (Nat.le_refl _) _).trans (hbel.mono (by simp)))
      have HF := Lib.hid hF
      clear hbel hrows hb1 e1 e2 e3 hcc hff hF
      go_wp2_with fail
      (with_reducible refine (rencode_agg k (Rs.fA x) (Rs.fB k x) (0) (m) _).mono ?_)
      rintro e w2 ⟨rfl, hbel⟩
      obtain ⟨hcc, hff⟩ := bcell hbel
      have hz : w1.heap.size + 1 < w2.heap.size := by have := hbel.size; simp at this; omega
      have hz1 : w1.heap.size < w2.heap.size := by omega
      have hz2 : w.heap.size < w2.heap.size := by omega
      have y0 : w2.cell? ⟨w.heap.size, 0, none⟩ = some (.int .i64 0) := (hcc _ _ (by simp; omega)).trans (by go_simp)
      have y1 : w2.cell? ⟨w.heap.size, 1, none⟩ = some (.int .i64 0) := (hcc _ _ (by simp; omega)).trans (by go_simp)
      have y2 : w2.cell? ⟨w.heap.size, 2, none⟩ = some (.int .i64 0) := (hcc _ _ (by simp; omega)).trans (by go_simp)
      have y3 : w2.cell? ⟨w.heap.size, 3, none⟩ = some (.int .i64 0) := (hcc _ _ (by simp; omega)).trans (by go_simp)
      have y4 : w2.cell? ⟨w.heap.size, 4, none⟩ = some (.int .i64 0) := (hcc _ _ (by simp; omega)).trans (by go_simp)
      have z0 : w2.frozen? ⟨w.heap.size, 0, none⟩ = false := (hff _ _ (by simp; omega)).trans (by go_simp)
      have z1 : w2.frozen? ⟨w.heap.size, 1, none⟩ = false := (hff _ _ (by simp; omega)).trans (by go_simp)
      have z2 : w2.frozen? ⟨w.heap.size, 2, none⟩ = false := (hff _ _ (by simp; omega)).trans (by go_simp)
      have z3 : w2.frozen? ⟨w.heap.size, 3, none⟩ = false := (hff _ _ (by simp; omega)).trans (by go_simp)
      have z4 : w2.frozen? ⟨w.heap.size, 4, none⟩ = false := (hff _ _ (by simp; omega)).trans (by go_simp)
      have HB2 := Lib.hid (((HB.out.alloc (by omega) _).alloc (by simp; omega) _).trans (hbel.mono (by simp; omega)))
      clear hbel
      rcases hcl.out with ⟨⟨p1, p2⟩, p3, p4⟩ | ⟨p1 | ⟨p1, p2⟩, p3, p4⟩
      · rw [p1, p2]
        have P3 := Lib.hid p3
        have P4 := Lib.hid p4
        clear p3 p4 p1 p2
        skip
        go_wp2
        refine bodyPost_ret (v := .tuple #[iv k (Rs.fA x) (Rs.fB k x) (0) (m), .bool true]) (by simp [results, Try.results33, go_sem, iv, y0, y1, y2, y3, y4, hz2]) rfl ?_
        unfold DecPost
        rw [P3.out, P4.out]
        exact ⟨rfl, ((((HB2.out.setCell (Nat.le_refl _) _).setCell (Nat.le_refl _) _).setCell (Nat.le_refl _) _).setCell (Nat.le_refl _) _).setCell (Nat.le_refl _) _⟩
      · rw [p1]
        have P3 := Lib.hid p3
        have P4 := Lib.hid p4
        clear p3 p4 p1 
        skip
        go_wp2
        refine bodyPost_ret (v := .tuple #[iv 0 0 0 0 0, .bool false]) (by simp [results, Try.results33, go_sem, iv, y0, y1, y2, y3, y4, hz2]) rfl ?_
        unfold DecPost
        rw [P3.out, P4.out]
        exact ⟨rfl, ((((HB2.out.setCell (Nat.le_refl _) _).setCell (Nat.le_refl _) _).setCell (Nat.le_refl _) _).setCell (Nat.le_refl _) _).setCell (Nat.le_refl _) _⟩
      · rw [p1]
        have P3 := Lib.hid p3
        have P4 := Lib.hid p4
        clear p3 p4 p1 
        have p5 : (Rs.encW k (Rs.fA x) (Rs.fB k x) (0) (m) != x) = true := by rw [bne_iff_ne]; exact p2
        go_wp2
        refine bodyPost_ret (v := .tuple #[iv 0 0 0 0 0, .bool false]) (by simp [results, Try.results33, go_sem, iv, y0, y1, y2, y3, y4, hz2]) rfl ?_
        unfold DecPost
        rw [P3.out, P4.out]
        exact ⟨rfl, ((((HB2.out.setCell (Nat.le_refl _) _).setCell (Nat.le_refl _) _).setCell (Nat.le_refl _) _).setCell (Nat.le_refl _) _).setCell (Nat.le_refl _) _⟩
    · have eB : Hid (Rs.fB k x = Rs.fB k x) := by unfold Hid; rfl
      have eC : Hid (0 = Rs.fC k x) := by unfold Hid; unfold Rs.fC Rs.hasC; rw [hF]; rfl
      have hnm : Rs.nmod k = 1024 := by unfold Rs.nmod; rw [hF]; rfl
      obtain ⟨m, hm⟩ : ∃ m, x % 1024 = m := ⟨_, rfl⟩
      rw [hm] at t1
      have m1 : 0 ≤ m := by omega
      have m2 : m < 1024 := by omega
      have hn : Hid (m = Rs.fN k x) := by unfold Hid Rs.fN; rw [hnm, hm, if_neg (by omega)]
      have hcl := Lib.hid (dec_close x hop.out rfl eB.out eC.out hn.out)
      have gB : x / 65536 % 32 = Rs.fB k x := (if_pos (show Rs.hasB k = true by unfold Rs.hasB; rw [hF]; rfl)).symm
      skip
      have e1 : Rs.hasB k = true := by unfold Rs.hasB; rw [hF]; rfl
      have e2 : Rs.hasC k = false := by unfold Rs.hasC; rw [hF]; rfl
      have e3 : Rs.bitsOf k = 10 := by unfold Rs.bitsOf; rw [hF]; rfl
      clear hnm
      go_enter Try.func33, Try.ntmps33
      go_wp2_with fail
      refine (rows_any _).mono ?_
      rintro e w1 ⟨rb, cap, rfl, hb1, hb2, hrows, hbel⟩
      obtain ⟨hcc, hff⟩ := bcell hbel
      obtain ⟨r0, r1, r2, r3, r4, r5⟩ := hrows k hk32
      rw [e1] at r1
      rw [e2] at r2
      rw [e3] at r3
      have hz0 : w.heap.size < w1.heap.size := by simp at hb1; omega
      have q0 : w1.cell? ⟨w.heap.size, 0, none⟩ = some (.int .i64 0) := (hcc _ _ (by simp)).trans (by go_simp)
      have q1 : w1.cell? ⟨w.heap.size, 1, none⟩ = some (.int .i64 0) := (hcc _ _ (by simp)).trans (by go_simp)
      have q2 : w1.cell? ⟨w.heap.size, 2, none⟩ = some (.int .i64 0) := (hcc _ _ (by simp)).trans (by go_simp)
      have q3 : w1.cell? ⟨w.heap.size, 3, none⟩ = some (.int .i64 0) := (hcc _ _ (by simp)).trans (by go_simp)
      have q4 : w1.cell? ⟨w.heap.size, 4, none⟩ = some (.int .i64 0) := (hcc _ _ (by simp)).trans (by go_simp)
      have p0 : w1.frozen? ⟨w.heap.size, 0, none⟩ = false := (hff _ _ (by simp)).trans (by go_simp)
      have p1 : w1.frozen? ⟨w.heap.size, 1, none⟩ = false := (hff _ _ (by simp)).trans (by go_simp)
      have p2 : w1.frozen? ⟨w.heap.size, 2, none⟩ = false := (hff _ _ (by simp)).trans (by go_simp)
      have p3 : w1.frozen? ⟨w.heap.size, 3, none⟩ = false := (hff _ _ (by simp)).trans (by go_simp)
      have p4 : w1.frozen? ⟨w.heap.size, 4, none⟩ = false := (hff _ _ (by simp)).trans (by go_simp)
      have HB := Lib.hid (((Below.refl w.heap.size w).alloc (Nat.le_refl _) _).trans (hbel.mono (by simp)))
      have HF := Lib.hid hF
      clear hbel hrows hb1 e1 e2 e3 hcc hff hF
      go_wp2_with fail
      (with_reducible refine (rencode_agg k (Rs.fA x) (Rs.fB k x) (0) (m) _).mono ?_)
      rintro e w2 ⟨rfl, hbel⟩
      obtain ⟨hcc, hff⟩ := bcell hbel
      have hz : w1.heap.size + 1 < w2.heap.size := by have := hbel.size; simp at this; omega
      have hz1 : w1.heap.size < w2.heap.size := by omega
      have hz2 : w.heap.size < w2.heap.size := by omega
      have y0 : w2.cell? ⟨w.heap.size, 0, none⟩ = some (.int .i64 0) := (hcc _ _ (by simp; omega)).trans (by go_simp)
      have y1 : w2.cell? ⟨w.heap.size, 1, none⟩ = some (.int .i64 0) := (hcc _ _ (by simp; omega)).trans (by go_simp)
      have y2 : w2.cell? ⟨w.heap.size, 2, none⟩ = some (.int .i64 0) := (hcc _ _ (by simp; omega)).trans (by go_simp)
      have y3 : w2.cell? ⟨w.heap.size, 3, none⟩ = some (.int .i64 0) := (hcc _ _ (by simp; omega)).trans (by go_simp)
      have y4 : w2.cell? ⟨w.heap.size, 4, none⟩ = some (.int .i64 0) := (hcc _ _ (by simp; omega)).trans (by go_simp)
      have z0 : w2.frozen? ⟨w.heap.size, 0, none⟩ = false := (hff _ _ (by simp; omega)).trans (by go_simp)
      have z1 : w2.frozen? ⟨w.heap.size, 1, none⟩ = false := (hff _ _ (by simp; omega)).trans (by go_simp)
      have z2 : w2.frozen? ⟨w.heap.size, 2, none⟩ = false := (hff _ _ (by simp; omega)).trans (by go_simp)
      have z3 : w2.frozen? ⟨w.heap.size, 3, none⟩ = false := (hff _ _ (by simp; omega)).trans (by go_simp)
      have z4 : w2.frozen? ⟨w.heap.size, 4, none⟩ = false := (hff _ _ (by simp; omega)).trans (by go_simp)
      have HB2 := Lib.hid (((HB.out.alloc (by omega) _).alloc (by simp; omega) _).trans (hbel.mono (by simp; omega)))
      clear hbel
      rcases hcl.out with ⟨⟨p1, p2⟩, p3, p4⟩ | ⟨p1 | ⟨p1, p2⟩, p3, p4⟩
      · rw [p1, p2]
        have P3 := Lib.hid p3
        have P4 := Lib.hid p4
        clear p3 p4 p1 p2
        skip
        go_wp2
        refine bodyPost_ret (v := .tuple #[iv k (Rs.fA x) (Rs.fB k x) (0) (m), .bool true]) (by simp [results, Try.results33, go_sem, iv, y0, y1, y2, y3, y4, hz2]) rfl ?_
        unfold DecPost
        rw [P3.out, P4.out]
        exact ⟨rfl, ((((HB2.out.setCell (Nat.le_refl _) _).setCell (Nat.le_refl _) _).setCell (Nat.le_refl _) _).setCell (Nat.le_refl _) _).setCell (Nat.le_refl _) _⟩
      · rw [p1]
        have P3 := Lib.hid p3
        have P4 := Lib.hid p4
        clear p3 p4 p1 
        skip
        go_wp2
        refine bodyPost_ret (v := .tuple #[iv 0 0 0 0 0, .bool false]) (by simp [results, Try.results33, go_sem, iv, y0, y1, y2, y3, y4, hz2]) rfl ?_
        unfold DecPost
        rw [P3.out, P4.out]
        exact ⟨rfl, ((((HB2.out.setCell (Nat.le_refl _) _).setCell (Nat.le_refl _) _).setCell (Nat.le_refl _) _).setCell (Nat.le_refl _) _).setCell (Nat.le_refl _) _⟩
      · rw [p1]
        have P3 := Lib.hid p3
        have P4 := Lib.hid p4
        clear p3 p4 p1 
        have p5 : (Rs.encW k (Rs.fA x) (Rs.fB k x) (0) (m) != x) = true := by rw [bne_iff_ne]; exact p2
        go_wp2
        refine bodyPost_ret (v := .tuple #[iv 0 0 0 0 0, .bool false]) (by simp [results, Try.results33, go_sem, iv, y0, y1, y2, y3, y4, hz2]) rfl ?_
        unfold DecPost
        rw [P3.out, P4.out]
        exact ⟨rfl, ((((HB2.out.setCell (Nat.le_refl _) _).setCell (Nat.le_refl _) _).setCell (Nat.le_refl _) _).setCell (Nat.le_refl _) _).setCell (Nat.le_refl _) _⟩
    · have eB : Hid (Rs.fB k x = Rs.fB k x) := by unfold Hid; rfl
      have eC : Hid (0 = Rs.fC k x) := by unfold Hid; unfold Rs.fC Rs.hasC; rw [hF]; rfl
      have hnm : Rs.nmod k = 1024 := by unfold Rs.nmod; rw [hF]; rfl
      obtain ⟨m, hm⟩ : ∃ m, x % 1024 = m := ⟨_, rfl⟩
      rw [hm] at t1
      have m1 : 0 ≤ m := by omega
      have m2 : m < 1024 := by omega
      have hn : Hid (m - 1024 = Rs.fN k x) := by unfold Hid Rs.fN; rw [hnm, hm, if_pos ⟨t1, t2⟩]
      have hcl := Lib.hid (dec_close x hop.out rfl eB.out eC.out hn.out)
      have gB : x / 65536 % 32 = Rs.fB k x := (if_pos (show Rs.hasB k = true by unfold Rs.hasB; rw [hF]; rfl)).symm
      skip
      have e1 : Rs.hasB k = true := by unfold Rs.hasB; rw [hF]; rfl
      have e2 : Rs.hasC k = false := by unfold Rs.hasC; rw [hF]; rfl
      have e3 : Rs.bitsOf k = 10 := by unfold Rs.bitsOf; rw [hF]; rfl
      clear hnm
      go_enter Try.func33, Try.ntmps33
      go_wp2_with fail
      refine (rows_any _).mono ?_
      rintro e w1 ⟨rb, cap, rfl, hb1, hb2, hrows, hbel⟩
      obtain ⟨hcc, hff⟩ := bcell hbel
      obtain ⟨r0, r1, r2, r3, r4, r5⟩ := hrows k hk32
      rw [e1] at r1
      rw [e2] at r2
      rw [e3] at r3
      have hz0 : w.heap.size < w1.heap.size := by simp at hb1; omega
      have q0 : w1.cell? ⟨w.heap.size, 0, none⟩ = some (.int .i64 0) := (hcc _ _ (by simp)).trans (by go_simp)
      have q1 : w1.cell? ⟨w.heap.size, 1, none⟩ = some (.int .i64 0) := (hcc _ _ (by simp)).trans (by go_simp)
      have q2 : w1.cell? ⟨w.heap.size, 2, none⟩ = some (.int .i64 0) := (hcc _ _ (by simp)).trans (by go_simp)
      have q3 : w1.cell? ⟨w.heap.size, 3, none⟩ = some (.int .i64 0) := (hcc _ _ (by simp)).trans (by go_simp)
      have q4 : w1.cell? ⟨w.heap.size, 4, none⟩ = some (.int .i64 0) := (hcc _ _ (by simp)).trans (by go_simp)
      have p0 : w1.frozen? ⟨w.heap.size, 0, none⟩ = false := (hff _ _ (by simp)).trans (by go_simp)
      have p1 : w1.frozen? ⟨w.heap.size, 1, none⟩ = false := (hff _ _ (by simp)).trans (by go_simp)
      have p2 : w1.frozen? ⟨w.heap.size, 2, none⟩ = false := (hff _ _ (by simp)).trans (by go_simp)
      have p3 : w1.frozen? ⟨w.heap.size, 3, none⟩ = false := (hff _ _ (by simp)).trans (by go_simp)
      have p4 : w1.frozen? ⟨w.heap.size, 4, none⟩ = false := (hff _ _ (by simp)).trans (by go_simp)
      have HB := Lib.hid (((Below.refl w.heap.size w).alloc (Nat.le_refl _) _).trans (hbel.mono (by simp)))
      have HF := Lib.hid hF
      clear hbel hrows hb1 e1 e2 e3 hcc hff hF
      go_wp2_with fail
      (with_reducible refine (rencode_agg k (Rs.fA x) (Rs.fB k x) (0) (m - 1024) _).mono ?_)
      rintro e w2 ⟨rfl, hbel⟩
      obtain ⟨hcc, hff⟩ := bcell hbel
      have hz : w1.heap.size + 1 < w2.heap.size := by have := hbel.size; simp at this; omega
      have hz1 : w1.heap.size < w2.heap.size := by omega
      have hz2 : w.heap.size < w2.heap.size := by omega
      have y0 : w2.cell? ⟨w.heap.size, 0, none⟩ = some (.int .i64 0) := (hcc _ _ (by simp; omega)).trans (by go_simp)
      have y1 : w2.cell? ⟨w.heap.size, 1, none⟩ = some (.int .i64 0) := (hcc _ _ (by simp; omega)).trans (by go_simp)
      have y2 : w2.cell? ⟨w.heap.size, 2, none⟩ = some (.int .i64 0) := (hcc _ _ (by simp; omega)).trans (by go_simp)
      have y3 : w2.cell? ⟨w.heap.size, 3, none⟩ = some (.int .i64 0) := (hcc _ _ (by simp; omega)).trans (by go_simp)
      have y4 : w2.cell? ⟨w.heap.size, 4, none⟩ = some (.int .i64 0) := (hcc _ _ (by simp; omega)).trans (by go_simp)
      have z0 : w2.frozen? ⟨w.heap.size, 0, none⟩ = false := (hff _ _ (by simp; omega)).trans (by go_simp)
      have z1 : w2.frozen? ⟨w.heap.size, 1, none⟩ = false := (hff _ _ (by simp; omega)).trans (by go_simp)
      have z2 : w2.frozen? ⟨w.heap.size, 2, none⟩ = false := (hff _ _ (by simp; omega)).trans (by go_simp)
      have z3 : w2.frozen? ⟨w.heap.size, 3, none⟩ = false := (hff _ _ (by simp; omega)).trans (by go_simp)
      have z4 : w2.frozen? ⟨w.heap.size, 4, none⟩ = false := (hff _ _ (by simp; omega)).trans (by go_simp)
      have HB2 := Lib.hid (((HB.out.alloc (by omega) _).alloc (by simp; omega) _).trans (hbel.mono (by simp; omega)))
      clear hbel
      rcases hcl.out with ⟨⟨p1, p2⟩, p3, p4⟩ | ⟨p1 | ⟨p1, p2⟩, p3, p4⟩
      · rw [p1, p2]
        have P3 := Lib.hid p3
        have P4 := Lib.hid p4
        clear p3 p4 p1 p2
        skip
        go_wp2
        refine bodyPost_ret (v := .tuple #[iv k (Rs.fA x) (Rs.fB k x) (0) (m - 1024), .bool true]) (by simp [results, Try.results33, go_sem, iv, y0, y1, y2, y3, y4, hz2]) rfl ?_
        unfold DecPost
        rw [P3.out, P4.out]
        exact ⟨rfl, ((((HB2.out.setCell (Nat.le_refl _) _).setCell (Nat.le_refl _) _).setCell (Nat.le_refl _) _).setCell (Nat.le_refl _) _).setCell (Nat.le_refl _) _⟩
      · rw [p1]
        have P3 := Lib.hid p3
        have P4 := Lib.hid p4
        clear p3 p4 p1 
        skip
        go_wp2
        refine bodyPost_ret (v := .tuple #[iv 0 0 0 0 0, .bool false]) (by simp [results, Try.results33, go_sem, iv, y0, y1, y2, y3, y4, hz2]) rfl ?_
        unfold DecPost
        rw [P3.out, P4.out]
        exact ⟨rfl, ((((HB2.out.setCell (Nat.le_refl _) _).setCell (Nat.le_refl _) _).setCell (Nat.le_refl _) _).setCell (Nat.le_refl _) _).setCell (Nat.le_refl _) _⟩
      · rw [p1]
        have P3 := Lib.hid p3
        have P4 := Lib.hid p4
        clear p3 p4 p1 
        have p5 : (Rs.encW k (Rs.fA x) (Rs.fB k x) (0) (m - 1024) != x) = true := by rw [bne_iff_ne]; exact p2
        go_wp2
        refine bodyPost_ret (v := .tuple #[iv 0 0 0 0 0, .bool false]) (by simp [results, Try.results33, go_sem, iv, y0, y1, y2, y3, y4, hz2]) rfl ?_
        unfold DecPost
        rw [P3.out, P4.out]
        exact ⟨rfl, ((((HB2.out.setCell (Nat.le_refl _) _).setCell (Nat.le_refl _) _).setCell (Nat.le_refl _) _).setCell (Nat.le_refl _) _).setCell (Nat.le_refl _) _⟩
  · rcases (by omega : x % 2097152 ≤ Rs.most k ∨ (Rs.most k < x % 2097152 ∧ 0 ≤ Rs.least k) ∨ (Rs.most k < x % 2097152 ∧ Rs.least k < 0)) with t1 | ⟨t1, t2⟩ | ⟨t1, t2⟩
    · have eB : Hid (0 = Rs.fB k x) := by unfold Hid; unfold Rs.fB Rs.hasB; rw [hF]; rfl
      have eC : Hid (0 = Rs.fC k x) := by unfold Hid; unfold Rs.fC Rs.hasC; rw [hF]; rfl
      have hnm : Rs.nmod k = 2097152 := by unfold Rs.nmod; rw [hF]; rfl
      obtain ⟨m, hm⟩ : ∃ m, x % 2097152 = m := ⟨_, rfl⟩
      rw [hm] at t1
      have m1 : 0 ≤ m := by omega
      have m2 : m < 2097152 := by omega
      have hn : Hid (m = Rs.fN k x) := by unfold Hid Rs.fN; rw [hnm, hm, if_neg (by omega)]
      have hcl := Lib.hid (dec_close x hop.out rfl eB.out eC.out hn.out)
      skip
      skip
      have e1 : Rs.hasB k = false := by unfold Rs.hasB; rw [hF]; rfl
      have e2 : Rs.hasC k = false := by unfold Rs.hasC; rw [hF]; rfl
      have e3 : Rs.bitsOf k = 21 := by unfold Rs.bitsOf; rw [hF]; rfl
      clear hnm
      go_enter Try.func33, Try.ntmps33
      go_wp2_with fail
      refine (rows_any _).mono ?_
      rintro e w1 ⟨rb, cap, rfl, hb1, hb2, hrows, hbel⟩
      obtain ⟨hcc, hff⟩ := bcell hbel
      obtain ⟨r0, r1, r2, r3, r4, r5⟩ := hrows k hk32
      rw [e1] at r1
      rw [e2] at r2
      rw [e3] at r3
      have hz0 : w.heap.size < w1.heap.size := by simp at hb1; omega
      have q0 : w1.cell? ⟨w.heap.size, 0, none⟩ = some (.int .i64 0) := (hcc _ _ (by simp)).trans (by go_simp)
      have q1 : w1.cell? ⟨w.heap.size, 1, none⟩ = some (.int .i64 0) := (hcc _ _ (by simp)).trans (by go_simp)
      have q2 : w1.cell? ⟨w.heap.size, 2, none⟩ = some (.int .i64 0) := (hcc _ _ (by simp)).trans (by go_simp)
      have q3 : w1.cell? ⟨w.heap.size, 3, none⟩ = some (.int .i64 0) := (hcc _ _ (by simp)).trans (by go_simp)
      have q4 : w1.cell? ⟨w.heap.size, 4, none⟩ = some (.int .i64 0) := (hcc _ _ (by simp)).trans (by go_simp)
      have p0 : w1.frozen? ⟨w.heap.size, 0, none⟩ = false := (hff _ _ (by simp)).trans (by go_simp)
      have p1 : w1.frozen? ⟨w.heap.size, 1, none⟩ = false := (hff _ _ (by simp)).trans (by go_simp)
      have p2 : w1.frozen? ⟨w.heap.size, 2, none⟩ = false := (hff _ _ (by simp)).trans (by go_simp)
      have p3 : w1.frozen? ⟨w.heap.size, 3, none⟩ = false := (hff _ _ (by simp)).trans (by go_simp)
      have p4 : w1.frozen? ⟨w.heap.size, 4, none⟩ = false := (hff _ _ (by simp)).trans (by go_simp)
      have HB := Lib.hid (((Below.refl w.heap.size w).alloc (Nat.le_refl _) _).trans (hbel.mono (by simp)))
      have HF := Lib.hid hF
      clear hbel hrows hb1 e1 e2 e3 hcc hff hF
      go_wp2_with fail
      (with_reducible refine (rencode_agg k (Rs.fA x) (0) (0) (m) _).mono ?_)
      rintro e w2 ⟨rfl, hbel⟩
      obtain ⟨hcc, hff⟩ := bcell hbel
      have hz : w1.heap.size + 1 < w2.heap.size := by have := hbel.size; simp at this; omega
      have hz1 : w1.heap.size < w2.heap.size := by omega
      have hz2 : w.heap.size < w2.heap.size := by omega
      have y0 : w2.cell? ⟨w.heap.size, 0, none⟩ = some (.int .i64 0) := (hcc _ _ (by simp; omega)).trans (by go_simp)
      have y1 : w2.cell? ⟨w.heap.size, 1, none⟩ = some (.int .i64 0) := (hcc _ _ (by simp; omega)).trans (by go_simp)
      have y2 : w2.cell? ⟨w.heap.size, 2, none⟩ = some (.int .i64 0) := (hcc _ _ (by simp; omega)).trans (by go_simp)
      have y3 : w2.cell? ⟨w.heap.size, 3, none⟩ = some (.int .i64 0) := (hcc _ _ (by simp; omega)).trans (by go_simp)
      have y4 : w2.cell? ⟨w.heap.size, 4, none⟩ = some (.int .i64 0) := (hcc _ _ (by simp; omega)).trans (by go_simp)
      have z0 : w2.frozen? ⟨w.heap.size, 0, none⟩ = false := (hff _ _ (by simp; omega)).trans (by go_simp)
      have z1 : w2.frozen? ⟨w.heap.size, 1, none⟩ = false := (hff _ _ (by simp; omega)).trans (by go_simp)
      have z2 : w2.frozen? ⟨w.heap.size, 2, none⟩ = false := (hff _ _ (by simp; omega)).trans (by go_simp)
      have z3 : w2.frozen? ⟨w.heap.size, 3, none⟩ = false := (hff _ _ (by simp; omega)).trans (by go_simp)
      have z4 : w2.frozen? ⟨w.heap.size, 4, none⟩ = false := (hff _ _ (by simp; omega)).trans (by go_simp)
      have HB2 := Lib.hid (((HB.out.alloc (by omega) _).alloc (by simp; omega) _).trans (hbel.mono (by simp; omega)))
      clear hbel
      rcases hcl.out with ⟨⟨p1, p2⟩, p3, p4⟩ | ⟨p1 | ⟨p1, p2⟩, p3, p4⟩
      · rw [p1, p2]
        have P3 := Lib.hid p3
        have P4 := Lib.hid p4
        clear p3 p4 p1 p2
        skip
        go_wp2
        refine bodyPost_ret (v := .tuple #[iv k (Rs.fA x) (0) (0) (m), .bool true]) (by simp [results, Try.results33, go_sem, iv, y0, y1, y2, y3, y4, hz2]) rfl ?_
        unfold DecPost
        rw [P3.out, P4.out]
        exact ⟨rfl, ((((HB2.out.setCell (Nat.le_refl _) _).setCell (Nat.le_refl _) _).setCell (Nat.le_refl _) _).setCell (Nat.le_refl _) _).setCell (Nat.le_refl _) _⟩
      · rw [p1]
        have P3 := Lib.hid p3
        have P4 := Lib.hid p4
        clear p3 p4 p1 
        skip
        go_wp2
        refine bodyPost_ret (v := .tuple #[iv 0 0 0 0 0, .bool false]) (by simp [results, Try.results33, go_sem, iv, y0, y1, y2, y3, y4, hz2]) rfl ?_
        unfold DecPost
        rw [P3.out, P4.out]
        exact ⟨rfl, ((((HB2.out.setCell (Nat.le_refl _) _).setCell (Nat.le_refl _) _).setCell (Nat.le_refl _) _).setCell (Nat.le_refl _) _).setCell (Nat.le_refl _) _⟩
      · rw [p1]
        have P3 := Lib.hid p3
        have P4 := Lib.hid p4
        clear p3 p4 p1 
        have p5 : (Rs.encW k (Rs.fA x) (0) (0) (m) != x) = true := by rw [bne_iff_ne]; exact p2
        go_wp2
        refine bodyPost_ret (v := .tuple #[iv 0 0 0 0 0, .bool false]) (by simp [results, Try.results33, go_sem, iv, y0, y1, y2, y3, y4, hz2]) rfl ?_
        unfold DecPost
        rw [P3.out, P4.out]
        exact ⟨rfl, ((((HB2.out.setCell (Nat.le_refl _) _).setCell (Nat.le_refl _) _).setCell (Nat.le_refl _) _).setCell (Nat.le_refl _) _).setCell (Nat.le_refl _) _⟩
    · have eB : Hid (0 = Rs.fB k x) := by unfold Hid; unfold Rs.fB Rs.hasB; rw [hF]; rfl
      have eC : Hid (0 = Rs.fC k x) := by unfold Hid; unfold Rs.fC Rs.hasC; rw [hF]; rfl
      have hnm : Rs.nmod k = 2097152 := by unfold Rs.nmod; rw [hF]; rfl
      obtain ⟨m, hm⟩ : ∃ m, x % 2097152 = m := ⟨_, rfl⟩
      rw [hm] at t1
      have m1 : 0 ≤ m := by omega
      have m2 : m < 2097152 := by omega
      have hn : Hid (m = Rs.fN k x) := by unfold Hid Rs.fN; rw [hnm, hm, if_neg (by omega)]
      have hcl := Lib.hid (dec_close x hop.out rfl eB.out eC.out hn.out)
      skip
      skip
      have e1 : Rs.hasB k = false := by unfold Rs.hasB; rw [hF]; rfl
      have e2 : Rs.hasC k = false := by unfold Rs.hasC; rw [hF]; rfl
      have e3 : Rs.bitsOf k = 21 := by unfold Rs.bitsOf; rw [hF]; rfl
      clear hnm
      go_enter Try.func33, Try.ntmps33
      go_wp2_with fail
      refine (rows_any _).mono ?_
      rintro e w1 ⟨rb, cap, rfl, hb1, hb2, hrows, hbel⟩
      obtain ⟨hcc, hff⟩ := bcell hbel
      obtain ⟨r0, r1, r2, r3, r4, r5⟩ := hrows k hk32
      rw [e1] at r1
      rw [e2] at r2
      rw [e3] at r3
      have hz0 : w.heap.size < w1.heap.size := by simp at hb1; omega
      have q0 : w1.cell? ⟨w.heap.size, 0, none⟩ = some (.int .i64 0) := (hcc _ _ (by simp)).trans (by go_simp)
      have q1 : w1.cell? ⟨w.heap.size, 1, none⟩ = some (.int .i64 0) := (hcc _ _ (by simp)).trans (by go_simp)
      have q2 : w1.cell? ⟨w.heap.size, 2, none⟩ = some (.int .i64 0) := (hcc _ _ (by simp)).trans (by go_simp)
      have q3 : w1.cell? ⟨w.heap.size, 3, none⟩ = some (.int .i64 0) := (hcc _ _ (by simp)).trans (by go_simp)
      have q4 : w1.cell? ⟨w.heap.size, 4, none⟩ = some (.int .i64 0) := (hcc _ _ (by simp)).trans (by go_simp)
      have p0 : w1.frozen? ⟨w.heap.size, 0, none⟩ = false := (hff _ _ (by simp)).trans (by go_simp)
      have p1 : w1.frozen? ⟨w.heap.size, 1, none⟩ = false := (hff _ _ (by simp)).trans (by go_simp)
      have p2 : w1.frozen? ⟨w.heap.size, 2, none⟩ = false := (hff _ _ (by simp)).trans (by go_simp)
      have p3 : w1.frozen? ⟨w.heap.size, 3, none⟩ = false := (hff _ _ (by simp)).trans (by go_simp)
      have p4 : w1.frozen? ⟨w.heap.size, 4, none⟩ = false := (hff _ _ (by simp)).trans (by go_simp)
      have HB := Lib.hid (((Below.refl w.heap.size w).alloc (Nat.le_refl _) _).trans (hbel.mono (by simp)))
      have HF := Lib.hid hF
      clear hbel hrows hb1 e1 e2 e3 hcc hff hF
      go_wp2_with fail
      (with_reducible refine (rencode_agg k (Rs.fA x) (0) (0) (m) _).mono ?_)
      rintro e w2 ⟨rfl, hbel⟩
      obtain ⟨hcc, hff⟩ := bcell hbel
      have hz : w1.heap.size + 1 < w2.heap.size := by have := hbel.size; simp at this; omega
      have hz1 : w1.heap.size < w2.heap.size := by omega
      have hz2 : w.heap.size < w2.heap.size := by omega
      have y0 : w2.cell? ⟨w.heap.size, 0, none⟩ = some (.int .i64 0) := (hcc _ _ (by simp; omega)).trans (by go_simp)
      have y1 : w2.cell? ⟨w.heap.size, 1, none⟩ = some (.int .i64 0) := (hcc _ _ (by simp; omega)).trans (by go_simp)
      have y2 : w2.cell? ⟨w.heap.size, 2, none⟩ = some (.int .i64 0) := (hcc _ _ (by simp; omega)).trans (by go_simp)
      have y3 : w2.cell? ⟨w.heap.size, 3, none⟩ = some (.int .i64 0) := (hcc _ _ (by simp; omega)).trans (by go_simp)
      have y4 : w2.cell? ⟨w.heap.size, 4, none⟩ = some (.int .i64 0) := (hcc _ _ (by simp; omega)).trans (by go_simp)
      have z0 : w2.frozen? ⟨w.heap.size, 0, none⟩ = false := (hff _ _ (by simp; omega)).trans (by go_simp)
      have z1 : w2.frozen? ⟨w.heap.size, 1, none⟩ = false := (hff _ _ (by simp; omega)).trans (by go_simp)
      have z2 : w2.frozen? ⟨w.heap.size, 2, none⟩ = false := (hff _ _ (by simp; omega)).trans (by go_simp)
      have z3 : w2.frozen? ⟨w.heap.size, 3, none⟩ = false := (hff _ _ (by simp; omega)).trans (by go_simp)
      have z4 : w2.frozen? ⟨w.heap.size, 4, none⟩ = false := (hff _ _ (by simp; omega)).trans (by go_simp)
      have HB2 := Lib.hid (((HB.out.alloc (by omega) _).alloc (by simp; omega) _).trans (hbel.mono (by simp; omega)))
      clear hbel
      rcases hcl.out with ⟨⟨p1, p2⟩, p3, p4⟩ | ⟨p1 | ⟨p1, p2⟩, p3, p4⟩
      · rw [p1, p2]
        have P3 := Lib.hid p3
        have P4 := Lib.hid p4
        clear p3 p4 p1 p2
        skip
        go_wp2
        refine bodyPost_ret (v := .tuple #[iv k (Rs.fA x) (0) (0) (m), .bool true]) (by simp [results, Try.results33, go_sem, iv, y0, y1, y2, y3, y4, hz2]) rfl ?_
        unfold DecPost
        rw [P3.out, P4.out]
        exact ⟨rfl, ((((HB2.out.setCell (Nat.le_refl _) _).setCell (Nat.le_refl _) _).setCell (Nat.le_refl _) _).setCell (Nat.le_refl _) _).setCell (Nat.le_refl _) _⟩
      · rw [p1]
        have P3 := Lib.hid p3
        have P4 := Lib.hid p4
        clear p3 p4 p1 
        skip
        go_wp2
        refine bodyPost_ret (v := .tuple #[iv 0 0 0 0 0, .bool false]) (by simp [results, Try.results33, go_sem, iv, y0, y1, y2, y3, y4, hz2]) rfl ?_
        unfold DecPost
        rw [P3.out, P4.out]
        exact ⟨rfl, ((((HB2.out.setCell (Nat.le_refl _) _).setCell (Nat.le_refl _) _).setCell (Nat.le_refl _) _).setCell (Nat.le_refl _) _).setCell (Nat.le_refl _) _⟩
      · rw [p1]
        have P3 := Lib.hid p3
        have P4 := Lib.hid p4
        clear p3 p4 p1 
        have p5 : (Rs.encW k (Rs.fA x) (0) (0) (m) != x) = true := by rw [bne_iff_ne]; exact p2
        go_wp2
        refine bodyPost_ret (v := .tuple #[iv 0 0 0 0 0, .bool false]) (by simp [results, Try.results33, go_sem, iv, y0, y1, y2, y3, y4, hz2]) rfl ?_
        unfold DecPost
        rw [P3.out, P4.out]
        exact ⟨rfl, ((((HB2.out.setCell (Nat.le_refl _) _).setCell (Nat.le_refl _) _).setCell (Nat.le_refl _) _).setCell (Nat.le_refl _) _).setCell (Nat.le_refl _) _⟩
    · have eB : Hid (0 = Rs.fB k x) := by unfold Hid; unfold Rs.fB Rs.hasB; rw [hF]; rfl
      have eC : Hid (0 = Rs.fC k x) := by unfold Hid; unfold Rs.fC Rs.hasC; rw [hF]; rfl
      have hnm : Rs.nmod k = 2097152 := by unfold Rs.nmod; rw [hF]; rfl
      obtain ⟨m, hm⟩ : ∃ m, x % 2097152 = m := ⟨_, rfl⟩
      rw [hm] at t1
      have m1 : 0 ≤ m := by omega
      have m2 : m < 2097152 := by omega
      have hn : Hid (m - 2097152 = Rs.fN k x) := by unfold Hid Rs.fN; rw [hnm, hm, if_pos ⟨t1, t2⟩]
      have hcl := Lib.hid (dec_close x hop.out rfl eB.out eC.out hn.out)
      skip
      skip
      have e1 : Rs.hasB k = false := by unfold Rs.hasB; rw [hF]; rfl
      have e2 : Rs.hasC k = false := by unfold Rs.hasC; rw [hF]; rfl
      have e3 : Rs.bitsOf k = 21 := by unfold Rs.bitsOf; rw [hF]; rfl
      clear hnm
      go_enter Try.func33, Try.ntmps33
      go_wp2_with fail
      refine (rows_any _).mono ?_
      rintro e w1 ⟨rb, cap, rfl, hb1, hb2, hrows, hbel⟩
      obtain ⟨hcc, hff⟩ := bcell hbel
      obtain ⟨r0, r1, r2, r3, r4, r5⟩ := hrows k hk32
      rw [e1] at r1
      rw [e2] at r2
      rw [e3] at r3
      have hz0 : w.heap.size < w1.heap.size := by simp at hb1; omega
      have q0 : w1.cell? ⟨w.heap.size, 0, none⟩ = some (.int .i64 0) := (hcc _ _ (by simp)).trans (by go_simp)
      have q1 : w1.cell? ⟨w.heap.size, 1, none⟩ = some (.int .i64 0) := (hcc _ _ (by simp)).trans (by go_simp)
      have q2 : w1.cell? ⟨w.heap.size, 2, none⟩ = some (.int .i64 0) := (hcc _ _ (by simp)).trans (by go_simp)
      have q3 : w1.cell? ⟨w.heap.size, 3, none⟩ = some (.int .i64 0) := (hcc _ _ (by simp)).trans (by go_simp)
      have q4 : w1.cell? ⟨w.heap.size, 4, none⟩ = some (.int .i64 0) := (hcc _ _ (by simp)).trans (by go_simp)
      have p0 : w1.frozen? ⟨w.heap.size, 0, none⟩ = false := (hff _ _ (by simp)).trans (by go_simp)
      have p1 : w1.frozen? ⟨w.heap.size, 1, none⟩ = false := (hff _ _ (by simp)).trans (by go_simp)
      have p2 : w1.frozen? ⟨w.heap.size, 2, none⟩ = false := (hff _ _ (by simp)).trans (by go_simp)
      have p3 : w1.frozen? ⟨w.heap.size, 3, none⟩ = false := (hff _ _ (by simp)).trans (by go_simp)
      have p4 : w1.frozen? ⟨w.heap.size, 4, none⟩ = false := (hff _ _ (by simp)).trans (by go_simp)
      have HB := Lib.hid (((Below.refl w.heap.size w).alloc (Nat.le_refl _) _).trans (hbel.mono (by simp)))
      have HF := Lib.hid hF
      clear hbel hrows hb1 e1 e2 e3 hcc hff hF
      go_wp2_with fail
      (with_reducible refine (rencode_agg k (Rs.fA x) (0) (0) (m - 2097152) _).mono ?_)
      rintro e w2 ⟨rfl, hbel⟩
      obtain ⟨hcc, hff⟩ := bcell hbel
      have hz : w1.heap.size + 1 < w2.heap.size := by have := hbel.size; simp at this; omega
      have hz1 : w1.heap.size < w2.heap.size := by omega
      have hz2 : w.heap.size < w2.heap.size := by omega
      have y0 : w2.cell? ⟨w.heap.size, 0, none⟩ = some (.int .i64 0) := (hcc _ _ (by simp; omega)).trans (by go_simp)
      have y1 : w2.cell? ⟨w.heap.size, 1, none⟩ = some (.int .i64 0) := (hcc _ _ (by simp; omega)).trans (by go_simp)
      have y2 : w2.cell? ⟨w.heap.size, 2, none⟩ = some (.int .i64 0) := (hcc _ _ (by simp; omega)).trans (by go_simp)
      have y3 : w2.cell? ⟨w.heap.size, 3, none⟩ = some (.int .i64 0) := (hcc _ _ (by simp; omega)).trans (by go_simp)
      have y4 : w2.cell? ⟨w.heap.size, 4, none⟩ = some (.int .i64 0) := (hcc _ _ (by simp; omega)).trans (by go_simp)
      have z0 : w2.frozen? ⟨w.heap.size, 0, none⟩ = false := (hff _ _ (by simp; omega)).trans (by go_simp)
      have z1 : w2.frozen? ⟨w.heap.size, 1, none⟩ = false := (hff _ _ (by simp; omega)).trans (by go_simp)
      have z2 : w2.frozen? ⟨w.heap.size, 2, none⟩ = false := (hff _ _ (by simp; omega)).trans (by go_simp)
      have z3 : w2.frozen? ⟨w.heap.size, 3, none⟩ = false := (hff _ _ (by simp; omega)).trans (by go_simp)
      have z4 : w2.frozen? ⟨w.heap.size, 4, none⟩ = false := (hff _ _ (by simp; omega)).trans (by go_simp)
      have HB2 := Lib.hid (((HB.out.alloc (by omega) _).alloc (by simp; omega) _).trans (hbel.mono (by simp; omega)))
      clear hbel
      rcases hcl.out with ⟨⟨p1, p2⟩, p3, p4⟩ | ⟨p1 | ⟨p1, p2⟩, p3, p4⟩
      · rw [p1, p2]
        have P3 := Lib.hid p3
        have P4 := Lib.hid p4
        clear p3 p4 p1 p2
        skip
        go_wp2
        refine bodyPost_ret (v := .tuple #[iv k (Rs.fA x) (0) (0) (m - 2097152), .bool true]) (by simp [results, Try.results33, go_sem, iv, y0, y1, y2, y3, y4, hz2]) rfl ?_
        unfold DecPost
        rw [P3.out, P4.out]
        exact ⟨rfl, ((((HB2.out.setCell (Nat.le_refl _) _).setCell (Nat.le_refl _) _).setCell (Nat.le_refl _) _).setCell (Nat.le_refl _) _).setCell (Nat.le_refl _) _⟩
      · rw [p1]
        have P3 := Lib.hid p3
        have P4 := Lib.hid p4
        clear p3 p4 p1 
        skip
        go_wp2
        refine bodyPost_ret (v := .tuple #[iv 0 0 0 0 0, .bool false]) (by simp [results, Try.results33, go_sem, iv, y0, y1, y2, y3, y4, hz2]) rfl ?_
        unfold DecPost
        rw [P3.out, P4.out]
        exact ⟨rfl, ((((HB2.out.setCell (Nat.le_refl _) _).setCell (Nat.le_refl _) _).setCell (Nat.le_refl _) _).setCell (Nat.le_refl _) _).setCell (Nat.le_refl _) _⟩
      · rw [p1]
        have P3 := Lib.hid p3
        have P4 := Lib.hid p4
        clear p3 p4 p1 
        have p5 : (Rs.encW k (Rs.fA x) (0) (0) (m - 2097152) != x) = true := by rw [bne_iff_ne]; exact p2
        go_wp2
        refine bodyPost_ret (v := .tuple #[iv 0 0 0 0 0, .bool false]) (by simp [results, Try.results33, go_sem, iv, y0, y1, y2, y3, y4, hz2]) rfl ?_
        unfold DecPost
        rw [P3.out, P4.out]
        exact ⟨rfl, ((((HB2.out.setCell (Nat.le_refl _) _).setCell (Nat.le_refl _) _).setCell (Nat.le_refl _) _).setCell (Nat.le_refl _) _).setCell (Nat.le_refl _) _⟩
  · have eB : Hid (Rs.fB k x = Rs.fB k x) := by unfold Hid; rfl
    have eC : Hid (0 = Rs.fC k x) := by unfold Hid; unfold Rs.fC Rs.hasC; rw [hF]; rfl
    have hn : Hid ((0 : Int) = Rs.fN k x) := by unfold Hid; exact (Rs.fN_zero (by unfold Rs.nmod; rw [hF]; rfl) x).symm
    have hcl := Lib.hid (dec_close x hop.out rfl eB.out eC.out hn.out)
    have gB : x / 65536 % 32 = Rs.fB k x := (if_pos (show Rs.hasB k = true by unfold Rs.hasB; rw [hF]; rfl)).symm
    skip
    have e1 : Rs.hasB k = true := by unfold Rs.hasB; rw [hF]; rfl
    have e2 : Rs.hasC k = false := by unfold Rs.hasC; rw [hF]; rfl
    have e3 : Rs.bitsOf k = 0 := by unfold Rs.bitsOf; rw [hF]; rfl
    skip
    go_enter Try.func33, Try.ntmps33
    go_wp2_with fail
    refine (rows_any _).mono ?_
    rintro e w1 ⟨rb, cap, rfl, hb1, hb2, hrows, hbel⟩
    obtain ⟨hcc, hff⟩ := bcell hbel
    obtain ⟨r0, r1, r2, r3, r4, r5⟩ := hrows k hk32
    rw [e1] at r1
    rw [e2] at r2
    rw [e3] at r3
    have hz0 : w.heap.size < w1.heap.size := by simp at hb1; omega
    have q0 : w1.cell? ⟨w.heap.size, 0, none⟩ = some (.int .i64 0) := (hcc _ _ (by simp)).trans (by go_simp)
    have q1 : w1.cell? ⟨w.heap.size, 1, none⟩ = some (.int .i64 0) := (hcc _ _ (by simp)).trans (by go_simp)
    have q2 : w1.cell? ⟨w.heap.size, 2, none⟩ = some (.int .i64 0) := (hcc _ _ (by simp)).trans (by go_simp)
    have q3 : w1.cell? ⟨w.heap.size, 3, none⟩ = some (.int .i64 0) := (hcc _ _ (by simp)).trans (by go_simp)
    have q4 : w1.cell? ⟨w.heap.size, 4, none⟩ = some (.int .i64 0) := (hcc _ _ (by simp)).trans (by go_simp)
    have p0 : w1.frozen? ⟨w.heap.size, 0, none⟩ = false := (hff _ _ (by simp)).trans (by go_simp)
    have p1 : w1.frozen? ⟨w.heap.size, 1, none⟩ = false := (hff _ _ (by simp)).trans (by go_simp)
    have p2 : w1.frozen? ⟨w.heap.size, 2, none⟩ = false := (hff _ _ (by simp)).trans (by go_simp)
    have p3 : w1.frozen? ⟨w.heap.size, 3, none⟩ = false := (hff _ _ (by simp)).trans (by go_simp)
    have p4 : w1.frozen? ⟨w.heap.size, 4, none⟩ = false := (hff _ _ (by simp)).trans (by go_simp)
    have HB := Lib.hid (((Below.refl w.heap.size w).alloc (Nat.le_refl _) _).trans (hbel.mono (by simp)))
    have HF := Lib.hid hF
    clear hbel hrows hb1 e1 e2 e3 hcc hff hF
    go_wp2_with fail
    (with_reducible refine (rencode_agg k (Rs.fA x) (Rs.fB k x) (0) (0) _).mono ?_)
    rintro e w2 ⟨rfl, hbel⟩
    obtain ⟨hcc, hff⟩ := bcell hbel
    have hz : w1.heap.size + 1 < w2.heap.size := by have := hbel.size; simp at this; omega
    have hz1 : w1.heap.size < w2.heap.size := by omega
    have hz2 : w.heap.size < w2.heap.size := by omega
    have y0 : w2.cell? ⟨w.heap.size, 0, none⟩ = some (.int .i64 0) := (hcc _ _ (by simp; omega)).trans (by go_simp)
    have y1 : w2.cell? ⟨w.heap.size, 1, none⟩ = some (.int .i64 0) := (hcc _ _ (by simp; omega)).trans (by go_simp)
    have y2 : w2.cell? ⟨w.heap.size, 2, none⟩ = some (.int .i64 0) := (hcc _ _ (by simp; omega)).trans (by go_simp)
    have y3 : w2.cell? ⟨w.heap.size, 3, none⟩ = some (.int .i64 0) := (hcc _ _ (by simp; omega)).trans (by go_simp)
    have y4 : w2.cell? ⟨w.heap.size, 4, none⟩ = some (.int .i64 0) := (hcc _ _ (by simp; omega)).trans (by go_simp)
    have z0 : w2.frozen? ⟨w.heap.size, 0, none⟩ = false := (hff _ _ (by simp; omega)).trans (by go_simp)
    have z1 : w2.frozen? ⟨w.heap.size, 1, none⟩ = false := (hff _ _ (by simp; omega)).trans (by go_simp)
    have z2 : w2.frozen? ⟨w.heap.size, 2, none⟩ = false := (hff _ _ (by simp; omega)).trans (by go_simp)
    have z3 : w2.frozen? ⟨w.heap.size, 3, none⟩ = false := (hff _ _ (by simp; omega)).trans (by go_simp)
    have z4 : w2.frozen? ⟨w.heap.size, 4, none⟩ = false := (hff _ _ (by simp; omega)).trans (by go_simp)
    have HB2 := Lib.hid (((HB.out.alloc (by omega) _).alloc (by simp; omega) _).trans (hbel.mono (by simp; omega)))
    clear hbel
    rcases hcl.out with ⟨⟨p1, p2⟩, p3, p4⟩ | ⟨p1 | ⟨p1, p2⟩, p3, p4⟩
    · rw [p1, p2]
      have P3 := Lib.hid p3
      have P4 := Lib.hid p4
      clear p3 p4 p1 p2
      skip
      go_wp2
      refine bodyPost_ret (v := .tuple #[iv k (Rs.fA x) (Rs.fB k x) (0) (0), .bool true]) (by simp [results, Try.results33, go_sem, iv, y0, y1, y2, y3, y4, hz2]) rfl ?_
      unfold DecPost
      rw [P3.out, P4.out]
      exact ⟨rfl, ((((HB2.out.setCell (Nat.le_refl _) _).setCell (Nat.le_refl _) _).setCell (Nat.le_refl _) _).setCell (Nat.le_refl _) _).setCell (Nat.le_refl _) _⟩
    · rw [p1]
      have P3 := Lib.hid p3
      have P4 := Lib.hid p4
      clear p3 p4 p1 
      skip
      go_wp2
      refine bodyPost_ret (v := .tuple #[iv 0 0 0 0 0, .bool false]) (by simp [results, Try.results33, go_sem, iv, y0, y1, y2, y3, y4, hz2]) rfl ?_
      unfold DecPost
      rw [P3.out, P4.out]
      exact ⟨rfl, ((((HB2.out.setCell (Nat.le_refl _) _).setCell (Nat.le_refl _) _).setCell (Nat.le_refl _) _).setCell (Nat.le_refl _) _).setCell (Nat.le_refl _) _⟩
    · rw [p1]
      have P3 := Lib.hid p3
      have P4 := Lib.hid p4
      clear p3 p4 p1 
      have p5 : (Rs.encW k (Rs.fA x) (Rs.fB k x) (0) (0) != x) = true := by rw [bne_iff_ne]; exact p2
      go_wp2
      refine bodyPost_ret (v := .tuple #[iv 0 0 0 0 0, .bool false]) (by simp [results, Try.results33, go_sem, iv, y0, y1, y2, y3, y4, hz2]) rfl ?_
      unfold DecPost
      rw [P3.out, P4.out]
      exact ⟨rfl, ((((HB2.out.setCell (Nat.le_refl _) _).setCell (Nat.le_refl _) _).setCell (Nat.le_refl _) _).setCell (Nat.le_refl _) _).setCell (Nat.le_refl _) _⟩
  · exact absurd hF h7.out
end Go.Proofs.Ytaldcgfhlflcpaa
