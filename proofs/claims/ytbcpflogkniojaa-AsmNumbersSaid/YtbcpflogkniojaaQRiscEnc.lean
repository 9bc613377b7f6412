/- Encode's contract. -/
import Derived.Test.YtbcpflogkniojaaQRiscEncB
namespace Go.Proofs.Ytbcpflogkniojaa
open Go.RowKit
set_option linter.unusedSimpArgs false
set_option linter.unusedVariables false

set_option maxHeartbeats 8000000 in
theorem encode_any (op a b c n : Int) (w : World) : Calls Try.prog 30 #[iv op a b c n] w fun e w' => e = .returned (.tuple #[.int .u32 (Rs.encW op a b c n), .int .i64 (Rs.encE op a b c n)]) ∧ Below w.heap.size w w' := by
  by_cases hbad : Rs.Bad op a b c n
  · exact encode_bad op a b c n w hbad
  unfold iv
  have hW : Hid (Rs.encW op a b c n = Rs.enc op a b c n) := if_neg hbad
  have hE : Hid (Rs.encE op a b c n = 0) := if_neg hbad
  rw [hW.out, hE.out]
  have hnb := hbad
  unfold Rs.Bad at hnb
  simp only [not_or, not_and, Bool.not_eq_false, Classical.not_not, Int.not_lt] at hnb
  obtain ⟨h7, ha, hb, hc, hbz, hcz, hn1, hn2⟩ := hnb
  have ho := Lib.hid (Rs.form_range op h7)
  have har := Lib.hid (Rs.isReg_range ha)
  have hbr := Lib.hid (Rs.isReg_range hb)
  have hcr := Lib.hid (Rs.isReg_range hc)
  have e1 : Hid (op % 4294967296 * 67108864 % 4294967296 = op * 67108864) := by unfold Hid; have := ho.out; omega
  have e2 : Hid (a % 4294967296 * 2097152 % 4294967296 = a * 2097152) := by unfold Hid; have := har.out; omega
  have e3 : Hid (b % 4294967296 * 65536 % 4294967296 = b * 65536) := by unfold Hid; have := hbr.out; omega
  have e4 : Hid (c % 4294967296 * 2048 % 4294967296 = c * 2048) := by unfold Hid; have := hcr.out; omega
  clear hbad
  rcases Rs.form_8 op with hF | hF | hF | hF | hF | hF | hF | hF
  case inr.inr.inr.inr.inr.inr.inr => exact absurd hF h7
  case inl =>
    have hnm := Lib.hid (Rs.nmod_0 hF n)
    obtain rfl : n = 0 := Rs.n_zero_0 hF hn1 hn2
    go_enter Try.func30, Try.ntmps30
    go_wp2_with (first | (go_at_call 41; refine (form_any _ _).mono ?_; rintro e w' ⟨rfl, hw⟩; obtain rfl := hw) | (go_at_call 42; refine (ends_any _ _).mono ?_; rintro e w' ⟨rfl, hw⟩; obtain rfl := hw)  | (go_at_call 43; refine (isReg_any _ _).mono ?_; rintro e w' ⟨rfl, hw⟩; obtain rfl := hw))
    go_ret2
    refine ⟨Rs.ret2_u32 ?_, (Below.refl _ _).alloc (Nat.le_refl _) _⟩
    have ho := ho.out; have har := har.out; have hbr := hbr.out; have hcr := hcr.out; have hnm := hnm.out
    rw [e1.out, e2.out, Rs.or_a ho har, Rs.or32_0 (op * 67108864 + a * 2097152) (by omega) (by omega), Rs.or32_0 (op * 67108864 + a * 2097152) (by omega) (by omega)]; unfold Rs.enc; rw [hnm]; try omega
  case inr.inl =>
    have hnm := Lib.hid (Rs.nmod_1 hF n)
    obtain rfl : n = 0 := Rs.n_zero_1 hF hn1 hn2
    go_enter Try.func30, Try.ntmps30
    go_wp2_with (first | (go_at_call 41; refine (form_any _ _).mono ?_; rintro e w' ⟨rfl, hw⟩; obtain rfl := hw) | (go_at_call 42; refine (ends_any _ _).mono ?_; rintro e w' ⟨rfl, hw⟩; obtain rfl := hw)  | (go_at_call 43; refine (isReg_any _ _).mono ?_; rintro e w' ⟨rfl, hw⟩; obtain rfl := hw))
    go_ret2
    refine ⟨Rs.ret2_u32 ?_, (Below.refl _ _).alloc (Nat.le_refl _) _⟩
    have ho := ho.out; have har := har.out; have hbr := hbr.out; have hcr := hcr.out; have hnm := hnm.out
    rw [e1.out, e2.out, Rs.or_a ho har, e3.out, Rs.or_b ho har hbr, e4.out, Rs.or_c ho har hbr hcr]; unfold Rs.enc; rw [hnm]; try omega
  case inr.inr.inl =>
    have hnm := Lib.hid (Rs.nmod_2 hF n)
    skip
    go_enter Try.func30, Try.ntmps30
    go_wp2_with (first | (go_at_call 41; refine (form_any _ _).mono ?_; rintro e w' ⟨rfl, hw⟩; obtain rfl := hw) | (go_at_call 42; refine (ends_any _ _).mono ?_; rintro e w' ⟨rfl, hw⟩; obtain rfl := hw)  | (go_at_call 43; refine (isReg_any _ _).mono ?_; rintro e w' ⟨rfl, hw⟩; obtain rfl := hw))
    go_ret2
    refine ⟨Rs.ret2_u32 ?_, (Below.refl _ _).alloc (Nat.le_refl _) _⟩
    have ho := ho.out; have har := har.out; have hbr := hbr.out; have hcr := hcr.out; have hnm := hnm.out
    rw [e1.out, e2.out, Rs.or_a ho har, e3.out, Rs.or_b ho har hbr, Rs.or32_0 (op * 67108864 + a * 2097152 + b * 65536) (by omega) (by omega), Rs.wrap16, Rs.or_n16 ho har hbr]; unfold Rs.enc; rw [hnm]; try omega
  case inr.inr.inr.inl =>
    have hnm := Lib.hid (Rs.nmod_3 hF n)
    skip
    go_enter Try.func30, Try.ntmps30
    go_wp2_with (first | (go_at_call 41; refine (form_any _ _).mono ?_; rintro e w' ⟨rfl, hw⟩; obtain rfl := hw) | (go_at_call 42; refine (ends_any _ _).mono ?_; rintro e w' ⟨rfl, hw⟩; obtain rfl := hw)  | (go_at_call 43; refine (isReg_any _ _).mono ?_; rintro e w' ⟨rfl, hw⟩; obtain rfl := hw))
    go_ret2
    refine ⟨Rs.ret2_u32 ?_, (Below.refl _ _).alloc (Nat.le_refl _) _⟩
    have ho := ho.out; have har := har.out; have hbr := hbr.out; have hcr := hcr.out; have hnm := hnm.out
    rw [e1.out, e2.out, Rs.or_a ho har, Rs.or32_0 (op * 67108864 + a * 2097152) (by omega) (by omega), Rs.or32_0 (op * 67108864 + a * 2097152) (by omega) (by omega), Rs.wrap16, Rs.or_n16z ho har]; unfold Rs.enc; rw [hnm]; try omega
  case inr.inr.inr.inr.inl =>
    have hnm := Lib.hid (Rs.nmod_4 hF n)
    skip
    go_enter Try.func30, Try.ntmps30
    go_wp2_with (first | (go_at_call 41; refine (form_any _ _).mono ?_; rintro e w' ⟨rfl, hw⟩; obtain rfl := hw) | (go_at_call 42; refine (ends_any _ _).mono ?_; rintro e w' ⟨rfl, hw⟩; obtain rfl := hw)  | (go_at_call 43; refine (isReg_any _ _).mono ?_; rintro e w' ⟨rfl, hw⟩; obtain rfl := hw))
    go_ret2
    refine ⟨Rs.ret2_u32 ?_, (Below.refl _ _).alloc (Nat.le_refl _) _⟩
    have ho := ho.out; have har := har.out; have hbr := hbr.out; have hcr := hcr.out; have hnm := hnm.out
    rw [e1.out, e2.out, Rs.or_a ho har, e3.out, Rs.or_b ho har hbr, Rs.or32_0 (op * 67108864 + a * 2097152 + b * 65536) (by omega) (by omega), Rs.and10, Rs.or_n10 ho har hbr]; unfold Rs.enc; rw [hnm]; try omega
  case inr.inr.inr.inr.inr.inl =>
    have hnm := Lib.hid (Rs.nmod_5 hF n)
    skip
    go_enter Try.func30, Try.ntmps30
    go_wp2_with (first | (go_at_call 41; refine (form_any _ _).mono ?_; rintro e w' ⟨rfl, hw⟩; obtain rfl := hw) | (go_at_call 42; refine (ends_any _ _).mono ?_; rintro e w' ⟨rfl, hw⟩; obtain rfl := hw)  | (go_at_call 43; refine (isReg_any _ _).mono ?_; rintro e w' ⟨rfl, hw⟩; obtain rfl := hw))
    go_ret2
    refine ⟨Rs.ret2_u32 ?_, (Below.refl _ _).alloc (Nat.le_refl _) _⟩
    have ho := ho.out; have har := har.out; have hbr := hbr.out; have hcr := hcr.out; have hnm := hnm.out
    rw [e1.out, e2.out, Rs.or_a ho har, Rs.or32_0 (op * 67108864 + a * 2097152) (by omega) (by omega), Rs.or32_0 (op * 67108864 + a * 2097152) (by omega) (by omega), Rs.and21, Rs.or_n21 ho har]; unfold Rs.enc; rw [hnm]; try omega
  case inr.inr.inr.inr.inr.inr.inl =>
    have hnm := Lib.hid (Rs.nmod_6 hF n)
    obtain rfl : n = 0 := Rs.n_zero_6 hF hn1 hn2
    go_enter Try.func30, Try.ntmps30
    go_wp2_with (first | (go_at_call 41; refine (form_any _ _).mono ?_; rintro e w' ⟨rfl, hw⟩; obtain rfl := hw) | (go_at_call 42; refine (ends_any _ _).mono ?_; rintro e w' ⟨rfl, hw⟩; obtain rfl := hw)  | (go_at_call 43; refine (isReg_any _ _).mono ?_; rintro e w' ⟨rfl, hw⟩; obtain rfl := hw))
    go_ret2
    refine ⟨Rs.ret2_u32 ?_, (Below.refl _ _).alloc (Nat.le_refl _) _⟩
    have ho := ho.out; have har := har.out; have hbr := hbr.out; have hcr := hcr.out; have hnm := hnm.out
    rw [e1.out, e2.out, Rs.or_a ho har, e3.out, Rs.or_b ho har hbr, Rs.or32_0 (op * 67108864 + a * 2097152 + b * 65536) (by omega) (by omega)]; unfold Rs.enc; rw [hnm]; try omega
end Go.Proofs.Ytbcpflogkniojaa
