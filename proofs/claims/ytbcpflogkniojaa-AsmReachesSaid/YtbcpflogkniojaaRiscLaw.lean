/- Plain laws of words and runs. -/
import Derived.Test.YtbcpflogkniojaaRiscRunP
import Derived.Test.YtbcpflogkniojaaRiscREnc
namespace Go.Proofs.Ytbcpflogkniojaa
open Go.RowKit
set_option linter.unusedSimpArgs false
set_option linter.unusedVariables false
namespace Rs
theorem parts0 : ∀ k : Fin 32, form ((k : Nat) : Int) = 0 → nmod ((k : Nat) : Int) = 1 ∧ hasB ((k : Nat) : Int) = false ∧ hasC ((k : Nat) : Int) = false ∧ least ((k : Nat) : Int) = 0 ∧ most ((k : Nat) : Int) = 0 := by decide +kernel
theorem parts1 : ∀ k : Fin 32, form ((k : Nat) : Int) = 1 → nmod ((k : Nat) : Int) = 1 ∧ hasB ((k : Nat) : Int) = true ∧ hasC ((k : Nat) : Int) = true ∧ least ((k : Nat) : Int) = 0 ∧ most ((k : Nat) : Int) = 0 := by decide +kernel
theorem parts2 : ∀ k : Fin 32, form ((k : Nat) : Int) = 2 → nmod ((k : Nat) : Int) = 65536 ∧ hasB ((k : Nat) : Int) = true ∧ hasC ((k : Nat) : Int) = false ∧ ((least ((k : Nat) : Int) = -32768 ∧ most ((k : Nat) : Int) = 32767) ∨ (least ((k : Nat) : Int) = 0 ∧ most ((k : Nat) : Int) ≤ 65535)) := by decide +kernel
theorem parts3 : ∀ k : Fin 32, form ((k : Nat) : Int) = 3 → nmod ((k : Nat) : Int) = 65536 ∧ hasB ((k : Nat) : Int) = false ∧ hasC ((k : Nat) : Int) = false ∧ ((least ((k : Nat) : Int) = -32768 ∧ most ((k : Nat) : Int) = 32767) ∨ (least ((k : Nat) : Int) = 0 ∧ most ((k : Nat) : Int) ≤ 65535)) := by decide +kernel
theorem parts4 : ∀ k : Fin 32, form ((k : Nat) : Int) = 4 → nmod ((k : Nat) : Int) = 1024 ∧ hasB ((k : Nat) : Int) = true ∧ hasC ((k : Nat) : Int) = false ∧ least ((k : Nat) : Int) = -512 ∧ most ((k : Nat) : Int) = 511 := by decide +kernel
theorem parts5 : ∀ k : Fin 32, form ((k : Nat) : Int) = 5 → nmod ((k : Nat) : Int) = 2097152 ∧ hasB ((k : Nat) : Int) = false ∧ hasC ((k : Nat) : Int) = false ∧ least ((k : Nat) : Int) = -1048576 ∧ most ((k : Nat) : Int) = 1048575 := by decide +kernel
theorem parts6 : ∀ k : Fin 32, form ((k : Nat) : Int) = 6 → nmod ((k : Nat) : Int) = 1 ∧ hasB ((k : Nat) : Int) = true ∧ hasC ((k : Nat) : Int) = false ∧ least ((k : Nat) : Int) = 0 ∧ most ((k : Nat) : Int) = 0 := by decide +kernel
theorem form_parts {op : Int} : (form op = 0 → nmod op = 1 ∧ hasB op = false ∧ hasC op = false ∧ least op = 0 ∧ most op = 0) ∧
    (form op = 1 → nmod op = 1 ∧ hasB op = true ∧ hasC op = true ∧ least op = 0 ∧ most op = 0) ∧
    (form op = 2 → nmod op = 65536 ∧ hasB op = true ∧ hasC op = false ∧ ((least op = -32768 ∧ most op = 32767) ∨ (least op = 0 ∧ most op ≤ 65535))) ∧
    (form op = 3 → nmod op = 65536 ∧ hasB op = false ∧ hasC op = false ∧ ((least op = -32768 ∧ most op = 32767) ∨ (least op = 0 ∧ most op ≤ 65535))) ∧
    (form op = 4 → nmod op = 1024 ∧ hasB op = true ∧ hasC op = false ∧ least op = -512 ∧ most op = 511) ∧
    (form op = 5 → nmod op = 2097152 ∧ hasB op = false ∧ hasC op = false ∧ least op = -1048576 ∧ most op = 1048575) ∧
    (form op = 6 → nmod op = 1 ∧ hasB op = true ∧ hasC op = false ∧ least op = 0 ∧ most op = 0) := by
  by_cases h : form op = 7
  · rw [h]; simp
  · obtain ⟨h1, h2⟩ := form_range op h
    obtain ⟨k, rfl⟩ : ∃ k : Nat, op = k := ⟨op.toNat, by omega⟩
    have hk : k < 32 := by omega
    exact ⟨parts0 ⟨k, hk⟩, parts1 ⟨k, hk⟩, parts2 ⟨k, hk⟩, parts3 ⟨k, hk⟩, parts4 ⟨k, hk⟩, parts5 ⟨k, hk⟩, parts6 ⟨k, hk⟩⟩
/-- What is encoded is decoded to the same. -/
theorem enc_fields {op a b c n : Int} (h : ¬ Bad op a b c n) : 0 ≤ enc op a b c n ∧ enc op a b c n < 4294967296 ∧ fO (enc op a b c n) = op ∧ fA (enc op a b c n) = a ∧ fB op (enc op a b c n) = b ∧ fC op (enc op a b c n) = c ∧ fN op (enc op a b c n) = n := by
  have h' := h
  unfold Bad at h'
  simp only [not_or, Bool.not_eq_false, Int.not_lt] at h'
  obtain ⟨h7, ha, hb, hc, hB, hC, hn1, hn2⟩ := h'
  replace hB : form op = 0 ∨ form op = 3 ∨ form op = 5 → b = 0 := fun h => by by_cases hb : b = 0; exact hb; exact absurd ⟨h, hb⟩ hB
  replace hC : form op ≠ 1 → c = 0 := fun h => by by_cases hc : c = 0; exact hc; exact absurd ⟨h, hc⟩ hC
  obtain ⟨o1, o2⟩ := form_range op h7
  obtain ⟨a1, a2⟩ := isReg_range ha
  obtain ⟨b1, b2⟩ := isReg_range hb
  obtain ⟨c1, c2⟩ := isReg_range hc
  obtain ⟨p0, p1, p2, p3, p4, p5, p6⟩ := @form_parts op
  have key : ∀ (N : Int) (B C : Bool), nmod op = N → hasB op = B → hasC op = C → (B = false → b = 0) → (C = false → c = 0) →
      (N = 1 ∨ N = 65536 ∨ N = 1024 ∨ (N = 2097152 ∧ b = 0 ∧ B = false)) → (N = 1 ∨ C = false) →
      ((least op = 0 ∧ most op < N) ∨ (least op < 0 ∧ -N ≤ 2 * least op ∧ 2 * most op + 2 = N)) →
      0 ≤ enc op a b c n ∧ enc op a b c n < 4294967296 ∧ fO (enc op a b c n) = op ∧ fA (enc op a b c n) = a ∧ fB op (enc op a b c n) = b ∧ fC op (enc op a b c n) = c ∧ fN op (enc op a b c n) = n := by
    intro N B C hN hBb hCc hb0 hc0 hNs hNC hr
    unfold fO fA fB fC fN
    rw [hBb, hCc, hN]
    unfold enc
    rw [hN]
    have hx : n % N = if n < 0 then n + N else n := by
      rcases hNs with rfl | rfl | rfl | ⟨rfl, -, -⟩ <;> split <;> omega
    have hcz : N ≠ 1 → c = 0 := fun h => hc0 (hNC.resolve_left h)
    have hm : (op * 67108864 + a * 2097152 + b * 65536 + c * 2048 + n % N) % N = n % N := by
      rcases hNs with rfl | rfl | rfl | ⟨rfl, h1, -⟩ <;> omega
    have hm0 : 0 ≤ n % N ∧ n % N < N := by rcases hNs with rfl | rfl | rfl | ⟨rfl, -, -⟩ <;> omega
    rw [hm]
    refine ⟨?_, ?_, ?_, ?_, ?_, ?_, ?_⟩
    · omega
    · rcases hNs with rfl | rfl | rfl | ⟨rfl, h1, -⟩ <;> omega
    · rcases hNs with rfl | rfl | rfl | ⟨rfl, h1, -⟩ <;> omega
    · rcases hNs with rfl | rfl | rfl | ⟨rfl, h1, -⟩ <;> omega
    · cases B
      · rw [hb0 rfl]; rfl
      · rw [if_pos rfl]
        rcases hNs with rfl | rfl | rfl | ⟨rfl, h1, h2⟩
        · omega
        · omega
        · omega
        · cases h2
    · cases C
      · rw [hc0 rfl]; rfl
      · rw [if_pos rfl]
        rcases hNC with rfl | h2
        · omega
        · cases h2
    · rw [hx]
      split <;> split <;> omega
  rcases form_8 op with hf | hf | hf | hf | hf | hf | hf | hf
  · obtain ⟨q1, q2, q3, q4, q5⟩ := p0 hf
    exact key _ _ _ q1 q2 q3 (fun _ => hB (.inl hf)) (fun _ => hC (by omega)) (.inl rfl) (.inl rfl) (.inl ⟨q4, by omega⟩)
  · obtain ⟨q1, q2, q3, q4, q5⟩ := p1 hf
    exact key _ _ _ q1 q2 q3 (fun h => by cases h) (fun h => by cases h) (.inl rfl) (.inl rfl) (.inl ⟨q4, by omega⟩)
  · obtain ⟨q1, q2, q3, q4⟩ := p2 hf
    exact key _ _ _ q1 q2 q3 (fun h => by cases h) (fun _ => hC (by omega)) (.inr (.inl rfl)) (.inr rfl) (by omega)
  · obtain ⟨q1, q2, q3, q4⟩ := p3 hf
    exact key _ _ _ q1 q2 q3 (fun _ => hB (.inr (.inl hf))) (fun _ => hC (by omega)) (.inr (.inl rfl)) (.inr rfl) (by omega)
  · obtain ⟨q1, q2, q3, q4⟩ := p4 hf
    exact key _ _ _ q1 q2 q3 (fun h => by cases h) (fun _ => hC (by omega)) (.inr (.inr (.inl rfl))) (.inr rfl) (by omega)
  · obtain ⟨q1, q2, q3, q4⟩ := p5 hf
    have hb0 : b = 0 := hB (.inr (.inr hf))
    exact key _ _ _ q1 q2 q3 (fun _ => hb0) (fun _ => hC (by omega)) (.inr (.inr (.inr ⟨rfl, hb0, rfl⟩))) (.inr rfl) (by omega)
  · obtain ⟨q1, q2, q3, q4, q5⟩ := p6 hf
    exact key _ _ _ q1 q2 q3 (fun h => by cases h) (fun _ => hC (by omega)) (.inl rfl) (.inl rfl) (.inl ⟨q4, by omega⟩)
  · exact absurd hf h7
theorem dec_enc {op a b c n : Int} (h : ¬ Bad op a b c n) : decB (enc op a b c n) = true := by
  obtain ⟨-, -, h1, h2, h3, h4, h5⟩ := enc_fields h
  unfold decB
  rw [h1, h2, h3, h4, h5]
  exact decide_eq_true ⟨if_neg h, if_neg h⟩
theorem execW_enc {op a b c n : Int} (h : ¬ Bad op a b c n) (m : M) : execW (enc op a b c n) m = exec op a b c n m := by
  obtain ⟨-, -, h1, h2, h3, h4, h5⟩ := enc_fields h
  unfold execW
  rw [h1, h2, h3, h4, h5]
/-- What any step does. -/
theorem setReg_facts (m : M) (r v : Int) : (setReg m r v).steps = m.steps ∧ (setReg m r v).mem = m.mem ∧ (setReg m r v).regs.length = m.regs.length ∧ (m.regs.getD 0 0 = 0 → 0 ≤ r → (setReg m r v).regs.getD 0 0 = 0) := by
  unfold setReg
  split
  · exact ⟨rfl, rfl, rfl, fun h _ => h⟩
  · refine ⟨rfl, rfl, by simp, fun h hr => ?_⟩
    obtain ⟨k, hk⟩ : ∃ k, r.toNat = k + 1 := ⟨r.toNat - 1, by omega⟩
    rw [hk]
    cases hm : m.regs with
    | nil => rfl
    | cons x l => rw [hm] at h; simpa using h
theorem exec_facts (op a b c n : Int) (m : M) (ha : 0 ≤ a) : (exec op a b c n m).2 ≠ 7 ∧ m.steps ≤ (exec op a b c n m).1.steps ∧ (exec op a b c n m).1.steps ≤ m.steps + 1 ∧ (exec op a b c n m).1.mem.length = m.mem.length ∧ (m.regs.getD 0 0 = 0 → (exec op a b c n m).1.regs.getD 0 0 = 0) ∧ (0 ≤ (exec op a b c n m).2 ∧ (exec op a b c n m).2 ≤ 6) := by
  have key : ∀ r, exec op a b c n m = r → r.2 ≠ 7 ∧ m.steps ≤ r.1.steps ∧ r.1.steps ≤ m.steps + 1 ∧ r.1.mem.length = m.mem.length ∧ (m.regs.getD 0 0 = 0 → r.1.regs.getD 0 0 = 0) ∧ (0 ≤ r.2 ∧ r.2 ≤ 6) := by
    intro r hr
    unfold exec at hr
    dsimp only at hr
    repeat' split at hr
    all_goals subst hr
    all_goals refine ⟨by simp, by simp [adv, setReg_facts] <;> omega, by simp [adv, setReg_facts] <;> omega, by simp [adv, setReg_facts], fun h0 => ?_, by simp⟩
    all_goals first
      | exact h0
      | exact (setReg_facts _ _ _).2.2.2 h0 ha
  exact key _ rfl
theorem execW_facts (x : Int) (m : M) : (execW x m).2 ≠ 7 ∧ m.steps ≤ (execW x m).1.steps ∧ (execW x m).1.steps ≤ m.steps + 1 ∧ (execW x m).1.mem.length = m.mem.length ∧ (m.regs.getD 0 0 = 0 → (execW x m).1.regs.getD 0 0 = 0) ∧ (0 ≤ (execW x m).2 ∧ (execW x m).2 ≤ 6) :=
  exec_facts _ _ _ _ _ _ (fA_range x).1
theorem execW_steps {x : Int} {m : M} (h : (execW x m).2 = 6) : (execW x m).1.steps = m.steps + 1 := (exec_steps h).1
theorem go_facts (code : List Int) : ∀ (k : Nat) (m : M), (go code k m).2 ≠ 7 ∧ m.steps ≤ (go code k m).1.steps ∧ (go code k m).1.steps ≤ m.steps + k ∧ (go code k m).1.mem.length = m.mem.length ∧ (m.regs.getD 0 0 = 0 → (go code k m).1.regs.getD 0 0 = 0) ∧ ((go code k m).2 = 6 → (go code k m).1.steps = m.steps + k) ∧ (0 ≤ (go code k m).2 ∧ (go code k m).2 ≤ 6)
  | 0, m => ⟨by simp [go], by simp [go], by simp [go], rfl, fun h => h, fun _ => by simp [go], by simp [go]⟩
  | k + 1, m => by
    unfold go
    split
    · exact ⟨by simp, Int.le_refl _, by simp; omega, rfl, fun h => h, fun h => by simp at h, by simp⟩
    · split
      · exact ⟨by simp, Int.le_refl _, by simp; omega, rfl, fun h => h, fun h => by simp at h, by simp⟩
      · obtain ⟨f1, f2, f3, f4, f5, f7⟩ := execW_facts (code.getD m.pc.toNat 0) m
        split
        · rename_i h6
          obtain ⟨g1, g2, g3, g4, g5, g6, g7⟩ := go_facts code k (execW (code.getD m.pc.toNat 0) m).1
          have h8 := execW_steps h6
          exact ⟨g1, by omega, by push_cast; omega, by rw [g4, f4], fun h => g5 (f5 h), fun h => by have := g6 h; push_cast; omega, g7⟩
        · rename_i h6
          exact ⟨f1, f2, by push_cast; omega, f4, f5, fun h => absurd h h6, f7⟩
/-- With more steps than were taken a run ends the same. -/
theorem go_more (code : List Int) : ∀ (k : Nat) (m : M), (go code k m).2 ≠ 6 → ∀ j : Nat, (go code k m).1.steps - m.steps + 1 ≤ j → go code j m = go code k m
  | 0, m, h => absurd rfl h
  | k + 1, m, h => by
    intro j hj
    have hf := (go_facts code (k + 1) m).2.1
    obtain ⟨i, rfl⟩ : ∃ i, j = i + 1 := ⟨j - 1, by omega⟩
    unfold go at h hj ⊢
    by_cases h1 : m.pc < 0 ∨ (code.length : Int) ≤ m.pc
    · rw [if_pos h1, if_pos h1]
    · rw [if_neg h1] at h hj
      rw [if_neg h1, if_neg h1]
      by_cases h2 : decB (code.getD m.pc.toNat 0) = false
      · rw [if_pos h2, if_pos h2]
      · rw [if_neg h2] at h hj
        rw [if_neg h2, if_neg h2]
        by_cases h3 : (execW (code.getD m.pc.toNat 0) m).2 = 6
        · rw [if_pos h3] at h hj
          rw [if_pos h3, if_pos h3]
          have h8 := execW_steps h3
          exact go_more code k _ h i (by push_cast at hj; omega)
        · rw [if_neg h3, if_neg h3]
/-- With fewer it is told so. -/
theorem go_fewer (code : List Int) : ∀ (j : Nat) (k : Nat) (m : M), m.steps + j + 1 ≤ (go code k m).1.steps → (go code j m).2 = 6 ∧ (go code j m).1.steps = m.steps + j
  | 0, k, m, h => ⟨rfl, by simp [go]⟩
  | j + 1, k, m, h => by
    have hf := (go_facts code k m).2.2.1
    obtain ⟨i, rfl⟩ : ∃ i, k = i + 1 := ⟨k - 1, by omega⟩
    unfold go at h ⊢
    by_cases h1 : m.pc < 0 ∨ (code.length : Int) ≤ m.pc
    · rw [if_pos h1] at h
      simp at h; omega
    · rw [if_neg h1] at h ⊢
      by_cases h2 : decB (code.getD m.pc.toNat 0) = false
      · rw [if_pos h2] at h
        simp at h; omega
      · rw [if_neg h2] at h ⊢
        by_cases h3 : (execW (code.getD m.pc.toNat 0) m).2 = 6
        · rw [if_pos h3] at h ⊢
          have h8 := execW_steps h3
          have := go_fewer code j i (execW (code.getD m.pc.toNat 0) m).1 (by push_cast at h; omega)
          rw [h8] at this
          exact ⟨this.1, by rw [this.2]; push_cast; omega⟩
        · rw [if_neg h3] at h
          have := (execW_facts (code.getD m.pc.toNat 0) m).2.2.1
          push_cast at h; omega
end Rs
end Go.Proofs.Ytbcpflogkniojaa
