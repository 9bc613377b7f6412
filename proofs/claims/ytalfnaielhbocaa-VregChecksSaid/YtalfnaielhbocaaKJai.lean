/- The heap's may. -/
import Derived.BigQuiet
import Derived.Deep.QuietTactic
import Derived.Test.YtalfnaielhbocaaKJac
import Derived.Test.YtalfnaielhbocaaKJag
import Derived.Test.YtalfnaielhbocaaKJah
set_option linter.unusedVariables false
set_option linter.unusedSimpArgs false
set_option linter.unnecessarySimpa false
namespace Go.Proofs.Ytalfnaielhbocaa
open Go.RowKit
set_option maxRecDepth 100000
set_option linter.unusedVariables false
set_option linter.unusedSimpArgs false
set_option maxHeartbeats 4000000 in
theorem may_sym (h n c : Nat) (a : Option Addr) (i : Int) (t : ByteArray) (w : World) (hc : w.cell? ⟨h, 0, none⟩ = some (.slice a n c)) (hh : h < w.heap.size) (ht : t.size ≤ maxLen) : Calls Try.prog 40 #[.pointer (some ⟨h, 0, none⟩), .agg #[.int .i64 3, .int .i64 i, .string t]] w fun e w' => e = .returned (.bool (Hp.may n ⟨3, i, t⟩)) ∧ Below w.heap.size w w' := by
  have HR : Hid (Hp.may n ⟨3, i, t⟩ = (decide (i = 0) && Nm.nameB t)) := rfl
  have HT := Lib.hid ht
  by_cases hi : i = 0
  · subst hi
    go_enter Try.func40, Try.ntmps40
    go_wp2_with fail
    with_reducible refine (dname_any t HT.out _).mono ?_
    rintro e w' ⟨rfl, hw⟩
    obtain rfl := hw
    go_wp2_with fail
    go_ret
    exact ⟨by rw [HR.out]; rfl, ((Below.refl _ _).alloc (Nat.le_refl _) _).alloc (by simp) _⟩
  · have q := beq_eq_false_iff_ne.2 hi
    have HD : Hid (decide (i = 0) = false) := decide_eq_false hi
    go_enter Try.func40, Try.ntmps40
    go_wp2_with fail
    go_ret
    exact ⟨by rw [HR.out, HD.out]; rfl, ((Below.refl _ _).alloc (Nat.le_refl _) _).alloc (by simp) _⟩
theorem text_nil {t : ByteArray} : t.toList = [] ↔ t = ⟨#[]⟩ := by
  rw [Lib.toList_data]
  constructor
  · intro h
    cases t with
    | mk d => congr; exact Array.toList_eq_nil_iff.1 h
  · intro h; rw [h]
set_option maxHeartbeats 4000000 in
theorem may_int (h n c : Nat) (a : Option Addr) (i : Int) (t : ByteArray) (w : World) (hc : w.cell? ⟨h, 0, none⟩ = some (.slice a n c)) (hh : h < w.heap.size) : Calls Try.prog 40 #[.pointer (some ⟨h, 0, none⟩), .agg #[.int .i64 1, .int .i64 i, .string t]] w fun e w' => e = .returned (.bool (Hp.may n ⟨1, i, t⟩)) ∧ Below w.heap.size w w' := by
  have HR : Hid (Hp.may n ⟨1, i, t⟩ = (decide (t = ⟨#[]⟩) && isN i)) := rfl
  cases hn : isN i
  · have HA : Hid ((intA i).2 = 10) := by unfold Hid intA; rw [hn]; rfl
    have HN := Lib.hid hn
    clear hn
    go_enter Try.func40, Try.ntmps40
    go_wp2_with fail
    with_reducible refine (int_any i _).mono ?_
    rintro e w' ⟨rfl, hw⟩
    obtain rfl := hw
    rw [HA.out]
    go_wp2_with fail
    go_ret
    exact ⟨by rw [HR.out, HN.out]; simp, ((Below.refl _ _).alloc (Nat.le_refl _) _).alloc (by simp) _⟩
  · have HA : Hid ((intA i).2 = 0) := by unfold Hid intA; rw [hn]; rfl
    have HN := Lib.hid hn
    clear hn
    by_cases ht : t = ⟨#[]⟩
    · subst ht
      go_enter Try.func40, Try.ntmps40
      go_wp2_with fail
      with_reducible refine (int_any i _).mono ?_
      rintro e w' ⟨rfl, hw⟩
      obtain rfl := hw
      rw [HA.out]
      go_wp2_with fail
      go_ret
      exact ⟨by rw [HR.out, HN.out]; rfl, ((Below.refl _ _).alloc (Nat.le_refl _) _).alloc (by simp) _⟩
    · have b1 : t.toList.isEmpty = false := by rw [List.isEmpty_eq_false_iff]; exact fun e => ht (text_nil.1 e)
      have b2 : ¬ t.toList = [] := fun e => ht (text_nil.1 e)
      have HD : Hid (decide (t = ⟨#[]⟩) = false) := decide_eq_false ht
      clear ht
      go_enter Try.func40, Try.ntmps40
      go_wp2_with fail
      with_reducible refine (int_any i _).mono ?_
      rintro e w' ⟨rfl, hw⟩
      obtain rfl := hw
      rw [HA.out]
      go_wp2_with fail
      go_ret
      exact ⟨by rw [HR.out, HD.out]; first | rfl | simp [b1], ((Below.refl _ _).alloc (Nat.le_refl _) _).alloc (by simp) _⟩
end Go.Proofs.Ytalfnaielhbocaa
namespace Go.Proofs.Ytalfnaielhbocaa
open Go.RowKit
set_option maxRecDepth 100000
set_option linter.unusedVariables false
set_option linter.unusedSimpArgs false
set_option maxHeartbeats 4000000 in
theorem may_bare (h n c : Nat) (a : Option Addr) (k i : Int) (hk : k = 4 ∨ k = 5 ∨ k = 6 ∨ k = 7) (t : ByteArray) (w : World) (hc : w.cell? ⟨h, 0, none⟩ = some (.slice a n c)) (hh : h < w.heap.size) : Calls Try.prog 40 #[.pointer (some ⟨h, 0, none⟩), .agg #[.int .i64 k, .int .i64 i, .string t]] w fun e w' => e = .returned (.bool (Hp.may n ⟨k, i, t⟩)) ∧ Below w.heap.size w w' := by
  have HR : Hid (Hp.may n ⟨k, i, t⟩ = (decide (t = ⟨#[]⟩) && decide (i = 0))) := by
    unfold Hid Hp.may
    rcases hk with rfl | rfl | rfl | rfl <;> rfl
  by_cases hi : i = 0
  · subst hi
    by_cases ht : t = ⟨#[]⟩
    · subst ht
      rcases hk with rfl | rfl | rfl | rfl
      all_goals
        go_enter Try.func40, Try.ntmps40
        go_wp2_with fail
        go_ret
        exact ⟨by rw [HR.out]; rfl, ((Below.refl _ _).alloc (Nat.le_refl _) _).alloc (by simp) _⟩
    · have b1 : t.toList.isEmpty = false := by rw [List.isEmpty_eq_false_iff]; exact fun e => ht (text_nil.1 e)
      have b2 : ¬ t.toList = [] := fun e => ht (text_nil.1 e)
      have HD : Hid (decide (t = ⟨#[]⟩) = false) := decide_eq_false ht
      clear ht
      rcases hk with rfl | rfl | rfl | rfl
      all_goals
        go_enter Try.func40, Try.ntmps40
        go_wp2_with fail
        go_ret
        exact ⟨by rw [HR.out, HD.out]; first | rfl | simp [b1], ((Below.refl _ _).alloc (Nat.le_refl _) _).alloc (by simp) _⟩
  · have q := beq_eq_false_iff_ne.2 hi
    have HD : Hid (decide (i = 0) = false) := decide_eq_false hi
    rcases hk with rfl | rfl | rfl | rfl
    all_goals
      go_enter Try.func40, Try.ntmps40
      go_wp2_with fail
      go_ret
      exact ⟨by rw [HR.out, HD.out]; first | rfl | simp, ((Below.refl _ _).alloc (Nat.le_refl _) _).alloc (by simp) _⟩
end Go.Proofs.Ytalfnaielhbocaa
namespace Go.Proofs.Ytalfnaielhbocaa
open Go.RowKit
set_option maxRecDepth 100000
set_option linter.unusedVariables false
set_option linter.unusedSimpArgs false
set_option maxHeartbeats 4000000 in
theorem may_else (h n c : Nat) (a : Option Addr) (k i : Int) (hk : k < 0 ∨ 8 < k) (t : ByteArray) (w : World) (hc : w.cell? ⟨h, 0, none⟩ = some (.slice a n c)) (hh : h < w.heap.size) : Calls Try.prog 40 #[.pointer (some ⟨h, 0, none⟩), .agg #[.int .i64 k, .int .i64 i, .string t]] w fun e w' => e = .returned (.bool (Hp.may n ⟨k, i, t⟩)) ∧ Below w.heap.size w w' := by
  have HR : Hid (Hp.may n ⟨k, i, t⟩ = false) := by
    unfold Hid Hp.may
    dsimp only
    rw [if_neg (by omega), if_neg (by omega), if_neg (by omega), if_neg (by omega), if_neg (by omega), if_neg (by omega), Bool.and_false]
  have q0 : (k == 0) = false := by rw [beq_eq_false_iff_ne]; omega
  have q1 : (k == 1) = false := by rw [beq_eq_false_iff_ne]; omega
  have q2 : (k == 2) = false := by rw [beq_eq_false_iff_ne]; omega
  have q3 : (k == 3) = false := by rw [beq_eq_false_iff_ne]; omega
  have q8 : (k == 8) = false := by rw [beq_eq_false_iff_ne]; omega
  by_cases hi : i = 0
  · subst hi
    by_cases ht : t = ⟨#[]⟩
    · subst ht
      rcases (by omega : k < 0 ∨ (0 ≤ k ∧ 9 ≤ k)) with g | ⟨g, g2⟩
      · have z1 : ¬ 0 ≤ k := by omega
        go_enter Try.func40, Try.ntmps40
        go_wp2_with fail
        go_ret
        exact ⟨by rw [HR.out]; rfl, ((Below.refl _ _).alloc (Nat.le_refl _) _).alloc (by simp) _⟩
      · have z2 : ¬ k < 9 := by omega
        go_enter Try.func40, Try.ntmps40
        go_wp2_with fail
        go_ret
        exact ⟨by rw [HR.out]; rfl, ((Below.refl _ _).alloc (Nat.le_refl _) _).alloc (by simp) _⟩
    · have b1 : t.toList.isEmpty = false := by rw [List.isEmpty_eq_false_iff]; exact fun e => ht (text_nil.1 e)
      have b2 : ¬ t.toList = [] := fun e => ht (text_nil.1 e)
      clear ht
      go_enter Try.func40, Try.ntmps40
      go_wp2_with fail
      go_ret
      exact ⟨by rw [HR.out]; first | rfl | simp [b1], ((Below.refl _ _).alloc (Nat.le_refl _) _).alloc (by simp) _⟩
  · have q := beq_eq_false_iff_ne.2 hi
    go_enter Try.func40, Try.ntmps40
    go_wp2_with fail
    go_ret
    exact ⟨by rw [HR.out]; first | rfl | simp, ((Below.refl _ _).alloc (Nat.le_refl _) _).alloc (by simp) _⟩
end Go.Proofs.Ytalfnaielhbocaa
namespace Go.Proofs.Ytalfnaielhbocaa
open Go.RowKit
set_option maxRecDepth 100000
set_option linter.unusedVariables false
set_option linter.unusedSimpArgs false
set_option maxHeartbeats 4000000 in
theorem may_thing (h n c : Nat) (a : Option Addr) (i : Int) (t : ByteArray) (w : World) (hc : w.cell? ⟨h, 0, none⟩ = some (.slice a n c)) (hh : h < w.heap.size) : Calls Try.prog 40 #[.pointer (some ⟨h, 0, none⟩), .agg #[.int .i64 8, .int .i64 i, .string t]] w fun e w' => e = .returned (.bool (Hp.may n ⟨8, i, t⟩)) ∧ Below w.heap.size w w' := by
  have HR : Hid (Hp.may n ⟨8, i, t⟩ = (decide (t = ⟨#[]⟩) && (decide (0 ≤ i) && decide (i < n)))) := rfl
  by_cases ht : t = ⟨#[]⟩
  · subst ht
    rcases (by omega : i < 0 ∨ (0 ≤ i ∧ (n : Int) ≤ i) ∨ (0 ≤ i ∧ i < n)) with g | ⟨g, g2⟩ | ⟨g, g2⟩
    · have z1 : decide (0 ≤ i) = false := by simp; omega
      have HZ := Lib.hid z1
      go_enter Try.func40, Try.ntmps40
      go_wp2_with fail
      go_quiet (fail)
      go_wp2_with fail
      go_ret
      exact ⟨by rw [HR.out, HZ.out]; first | rfl | simp, below_drewN (((Below.refl _ _).alloc (Nat.le_refl _) _).alloc (by simp) _) _⟩
    · have z1 : decide (0 ≤ i) = true := by simp; omega
      have z2 : decide (i < (n : Int)) = false := by simp; omega
      have HZ := Lib.hid z1
      have HY := Lib.hid z2
      go_enter Try.func40, Try.ntmps40
      go_wp2_with fail
      go_quiet (fail)
      go_wp2_with fail
      go_ret
      exact ⟨by rw [HR.out, HZ.out, HY.out]; first | rfl | simp, below_drewN (((Below.refl _ _).alloc (Nat.le_refl _) _).alloc (by simp) _) _⟩
    · have z1 : decide (0 ≤ i) = true := by simp; omega
      have z2 : decide (i < (n : Int)) = true := by simp; omega
      have HZ := Lib.hid z1
      have HY := Lib.hid z2
      go_enter Try.func40, Try.ntmps40
      go_wp2_with fail
      go_quiet (fail)
      go_wp2_with fail
      go_ret
      exact ⟨by rw [HR.out, HZ.out, HY.out]; first | rfl | simp, below_drewN (((Below.refl _ _).alloc (Nat.le_refl _) _).alloc (by simp) _) _⟩
  · have b1 : t.toList.isEmpty = false := by rw [List.isEmpty_eq_false_iff]; exact fun e => ht (text_nil.1 e)
    have b2 : ¬ t.toList = [] := fun e => ht (text_nil.1 e)
    have HD : Hid (decide (t = ⟨#[]⟩) = false) := decide_eq_false ht
    clear ht
    go_enter Try.func40, Try.ntmps40
    go_wp2_with fail
    go_quiet (fail)
    go_wp2_with fail
    go_ret
    exact ⟨by rw [HR.out, HD.out]; first | rfl | simp [b1], below_drewN (((Below.refl _ _).alloc (Nat.le_refl _) _).alloc (by simp) _) _⟩
end Go.Proofs.Ytalfnaielhbocaa
namespace Go.Proofs.Ytalfnaielhbocaa
open Go.RowKit
set_option maxRecDepth 100000
set_option linter.unusedVariables false
set_option linter.unusedSimpArgs false
theorem i64_and1 (n : Int) : bits .and .i64 n 1 = n % 2 := by
  have h7 : (BitVec.ofInt 64 1).toNat = 2 ^ 1 - 1 := by decide
  have key : (BitVec.ofInt 64 n &&& BitVec.ofInt 64 1).toNat = (n % ((2 ^ 64 : Nat) : Int)).toNat % 2 ^ 1 := by
    rw [BitVec.toNat_and, BitVec.toNat_ofInt, h7, Nat.and_two_pow_sub_one_eq_mod]
  show IntKind.i64.wrap ((BitVec.ofInt 64 n &&& BitVec.ofInt 64 1).toNat : Nat) = n % 2
  rw [key, IntKind.wrap_i64]
  omega
theorem i64_and255 (n : Int) : bits .and .i64 n 255 = n % 256 := by
  have h7 : (BitVec.ofInt 64 255).toNat = 2 ^ 8 - 1 := by decide
  have key : (BitVec.ofInt 64 n &&& BitVec.ofInt 64 255).toNat = (n % ((2 ^ 64 : Nat) : Int)).toNat % 2 ^ 8 := by
    rw [BitVec.toNat_and, BitVec.toNat_ofInt, h7, Nat.and_two_pow_sub_one_eq_mod]
  show IntKind.i64.wrap ((BitVec.ofInt 64 n &&& BitVec.ofInt 64 255).toNat : Nat) = n % 256
  rw [key, IntKind.wrap_i64]
  omega
set_option maxHeartbeats 4000000 in
theorem may_bool (h n c : Nat) (a : Option Addr) (i : Int) (t : ByteArray) (w : World) (hc : w.cell? ⟨h, 0, none⟩ = some (.slice a n c)) (hh : h < w.heap.size) : Calls Try.prog 40 #[.pointer (some ⟨h, 0, none⟩), .agg #[.int .i64 0, .int .i64 i, .string t]] w fun e w' => e = .returned (.bool (Hp.may n ⟨0, i, t⟩)) ∧ Below w.heap.size w w' := by
  have HR : Hid (Hp.may n ⟨0, i, t⟩ = (decide (t = ⟨#[]⟩) && (i == i % 2))) := by
    have e : (decide (i = 0) || decide (i = 1)) = (i == i % 2) := by rw [Bool.eq_iff_iff]; simp; omega
    unfold Hid
    rw [← e]
    rfl
  have ha := i64_and1 i
  cases hq : (i == i % 2)
  · have HQ := Lib.hid hq
    go_enter Try.func40, Try.ntmps40
    go_wp2_with fail
    go_ret
    exact ⟨by rw [HR.out, HQ.out]; first | rfl | simp, ((Below.refl _ _).alloc (Nat.le_refl _) _).alloc (by simp) _⟩
  · have HQ := Lib.hid hq
    by_cases ht : t = ⟨#[]⟩
    · subst ht
      go_enter Try.func40, Try.ntmps40
      go_wp2_with fail
      go_ret
      exact ⟨by rw [HR.out, HQ.out]; first | rfl | simp, ((Below.refl _ _).alloc (Nat.le_refl _) _).alloc (by simp) _⟩
    · have b1 : t.toList.isEmpty = false := by rw [List.isEmpty_eq_false_iff]; exact fun e => ht (text_nil.1 e)
      have b2 : ¬ t.toList = [] := fun e => ht (text_nil.1 e)
      have HD : Hid (decide (t = ⟨#[]⟩) = false) := decide_eq_false ht
      clear ht
      go_enter Try.func40, Try.ntmps40
      go_wp2_with fail
      go_ret
      exact ⟨by rw [HR.out, HD.out]; first | rfl | simp [b1], ((Below.refl _ _).alloc (Nat.le_refl _) _).alloc (by simp) _⟩
set_option maxHeartbeats 4000000 in
theorem may_char (h n c : Nat) (a : Option Addr) (i : Int) (t : ByteArray) (w : World) (hc : w.cell? ⟨h, 0, none⟩ = some (.slice a n c)) (hh : h < w.heap.size) : Calls Try.prog 40 #[.pointer (some ⟨h, 0, none⟩), .agg #[.int .i64 2, .int .i64 i, .string t]] w fun e w' => e = .returned (.bool (Hp.may n ⟨2, i, t⟩)) ∧ Below w.heap.size w w' := by
  have HR : Hid (Hp.may n ⟨2, i, t⟩ = (decide (t = ⟨#[]⟩) && (i == i % 256))) := by
    have e : (decide (0 ≤ i) && decide (i ≤ 255)) = (i == i % 256) := by rw [Bool.eq_iff_iff]; simp; omega
    unfold Hid
    rw [← e]
    rfl
  have ha := i64_and255 i
  cases hq : (i == i % 256)
  · have HQ := Lib.hid hq
    go_enter Try.func40, Try.ntmps40
    go_wp2_with fail
    go_ret
    exact ⟨by rw [HR.out, HQ.out]; first | rfl | simp, ((Below.refl _ _).alloc (Nat.le_refl _) _).alloc (by simp) _⟩
  · have HQ := Lib.hid hq
    by_cases ht : t = ⟨#[]⟩
    · subst ht
      go_enter Try.func40, Try.ntmps40
      go_wp2_with fail
      go_ret
      exact ⟨by rw [HR.out, HQ.out]; first | rfl | simp, ((Below.refl _ _).alloc (Nat.le_refl _) _).alloc (by simp) _⟩
    · have b1 : t.toList.isEmpty = false := by rw [List.isEmpty_eq_false_iff]; exact fun e => ht (text_nil.1 e)
      have b2 : ¬ t.toList = [] := fun e => ht (text_nil.1 e)
      have HD : Hid (decide (t = ⟨#[]⟩) = false) := decide_eq_false ht
      clear ht
      go_enter Try.func40, Try.ntmps40
      go_wp2_with fail
      go_ret
      exact ⟨by rw [HR.out, HD.out]; first | rfl | simp [b1], ((Below.refl _ _).alloc (Nat.le_refl _) _).alloc (by simp) _⟩
end Go.Proofs.Ytalfnaielhbocaa
namespace Go.Proofs.Ytalfnaielhbocaa
open Go.RowKit
set_option maxRecDepth 100000
set_option linter.unusedVariables false
set_option linter.unusedSimpArgs false
theorem may_any (h n c : Nat) (a : Option Addr) (v : Hp.V) (ht : v.text.size ≤ maxLen) (w : World) (hc : w.cell? ⟨h, 0, none⟩ = some (.slice a n c)) (hh : h < w.heap.size) : Calls Try.prog 40 #[.pointer (some ⟨h, 0, none⟩), v.val] w fun e w' => e = .returned (.bool (Hp.may n v)) ∧ Below w.heap.size w w' := by
  obtain ⟨k, i, t⟩ := v
  rcases (by omega : k = 0 ∨ k = 1 ∨ k = 2 ∨ k = 3 ∨ (k = 4 ∨ k = 5 ∨ k = 6 ∨ k = 7) ∨ k = 8 ∨ (k < 0 ∨ 8 < k)) with rfl | rfl | rfl | rfl | hk | rfl | hk
  · exact may_bool h n c a i t w hc hh
  · exact may_int h n c a i t w hc hh
  · exact may_char h n c a i t w hc hh
  · exact may_sym h n c a i t w hc hh ht
  · exact may_bare h n c a k i hk t w hc hh
  · exact may_thing h n c a i t w hc hh
  · exact may_else h n c a k i hk t w hc hh
end Go.Proofs.Ytalfnaielhbocaa
