/- The heap's may. -/
import Derived.BigQuiet
import Derived.Deep.QuietTactic
import Derived.Test.YtkplkgdfphbldaaGreatHJae
import Derived.Test.YtkplkgdfphbldaaGreatHJah
import Derived.Test.YtkplkgdfphbldaaGreatHJai
import Derived.Test.YtkplkgdfphbldaaGreatHJas
namespace Go.Proofs.YtkplkgdfphbldaaGreat
open Go.RowKit
open Go.Lib (hid)
set_option linter.unusedVariables false
set_option linter.unusedSimpArgs false
set_option linter.unnecessarySimpa false
set_option maxRecDepth 100000
theorem text_nil {t : ByteArray} : t.toList = [] ↔ t = ⟨#[]⟩ := by
 rw [Lib.toList_data]
 constructor
 ·intro h
  cases t with
  | mk d => congr; exact Array.toList_eq_nil_iff.1 h
 ·intro h; rw [h]
theorem i64_and1 (n : Int) : bits .and .i64 n 1 = n % 2 := by
 have h7 : (BitVec.ofInt 64 1).toNat = 2 ^ 1 - 1 := by decide
 have key : (BitVec.ofInt 64 n &&& BitVec.ofInt 64 1).toNat = (n % ((2 ^ 64 : Nat) : Int)).toNat % 2 ^ 1 := by
  rw [BitVec.toNat_and, BitVec.toNat_ofInt, h7, Nat.and_two_pow_sub_one_eq_mod]
 show IntKind.i64.wrap ((BitVec.ofInt 64 n &&& BitVec.ofInt 64 1).toNat : Nat) = n % 2
 rw [key, IntKind.wrap_i64]
 omega
theorem i64_and255 (n : Int) : bits .and .i64 n 255 = n % 256 := by
 have h7 : (BitVec.ofInt 64 255).toNat = 2 ^ 8 - 1 := by decide
 have key : (BitVec.ofInt 64 n &&& BitVec.ofInt 64 255).toNat = (n % ((2 ^ 64 : Nat) : Int)).toNat % 2 ^ 8 := by
  rw [BitVec.toNat_and, BitVec.toNat_ofInt, h7, Nat.and_two_pow_sub_one_eq_mod]
 show IntKind.i64.wrap ((BitVec.ofInt 64 n &&& BitVec.ofInt 64 255).toNat : Nat) = n % 256
 rw [key, IntKind.wrap_i64]
 omega
set_option maxHeartbeats 4000000 in
theorem rmay_text (h : Nat) (n : Nat) (k i : Int) (t : ByteArray) (hk : k ≠ 3) (ht : t ≠ ⟨#[]⟩) (w : World) : Calls Tryz.prog 75 #[.pointer (some ⟨h, 0, none⟩), .agg #[.int .i64 k, .int .i64 i, .string t]] w fun e w' => e = .returned (.bool (Hp.may n ⟨k, i, t⟩)) ∧ Below w.heap.size w w' := by
 have HR : Hid (Hp.may n ⟨k, i, t⟩ = false) := by
  unfold Hid Hp.may
  dsimp only
  rw [if_neg hk, decide_eq_false ht, Bool.false_and]
 have q1 : (k != 3) = true := by rw [bne_iff_ne]; exact hk
 have q2 := beq_eq_false_iff_ne.2 hk
 have b1 : t.toList.isEmpty = false := by rw [List.isEmpty_eq_false_iff]; exact fun e => ht (text_nil.1 e)
 have b2 : ¬ t.toList = [] := fun e => ht (text_nil.1 e)
 clear ht
 go_enter Tryz.func75, Tryz.ntmps75
 go_wp2_with fail
 go_ret
 exact ⟨by rw [HR.out]; rfl, (Below.refl _ _).alloc (Nat.le_refl _) _⟩
set_option maxHeartbeats 4000000 in
theorem rmay_bool (h n c : Nat) (a : Option Addr) (i : Int) (w : World) (hc : w.cell? ⟨h, 0, none⟩ = some (.slice a n c)) (hh : h < w.heap.size) : Calls Tryz.prog 75 #[.pointer (some ⟨h, 0, none⟩), .agg #[.int .i64 0, .int .i64 i, .string ⟨#[]⟩]] w fun e w' => e = .returned (.bool (Hp.may n ⟨0, i, ⟨#[]⟩⟩)) ∧ Below w.heap.size w w' := by
 have HR : Hid (Hp.may n ⟨0, i, ⟨#[]⟩⟩ = (decide (i = 0) || decide (i = 1))) := rfl
 by_cases hi : i = 0
 ·subst hi
  go_enter Tryz.func75, Tryz.ntmps75
  go_wp2_with fail
  go_ret
  exact ⟨by rw [HR.out]; rfl, (Below.refl _ _).alloc (Nat.le_refl _) _⟩
 ·have q := beq_eq_false_iff_ne.2 hi
  have HD : Hid (decide (i = 0) = false) := decide_eq_false hi
  go_enter Tryz.func75, Tryz.ntmps75
  go_wp2_with fail
  go_ret
  exact ⟨by rw [HR.out, HD.out]; rfl, (Below.refl _ _).alloc (Nat.le_refl _) _⟩
set_option maxHeartbeats 4000000 in
theorem rmay_bare (h n c : Nat) (a : Option Addr) (k i : Int) (hk : k = 4 ∨ k = 5 ∨ k = 6 ∨ k = 7) (w : World) (hc : w.cell? ⟨h, 0, none⟩ = some (.slice a n c)) (hh : h < w.heap.size) : Calls Tryz.prog 75 #[.pointer (some ⟨h, 0, none⟩), .agg #[.int .i64 k, .int .i64 i, .string ⟨#[]⟩]] w fun e w' => e = .returned (.bool (Hp.may n ⟨k, i, ⟨#[]⟩⟩)) ∧ Below w.heap.size w w' := by
 have HR : Hid (Hp.may n ⟨k, i, ⟨#[]⟩⟩ = (i == 0)) := by
  unfold Hid Hp.may
  rcases hk with rfl | rfl | rfl | rfl <;> rfl
 rcases hk with rfl | rfl | rfl | rfl
 all_goals
  go_enter Tryz.func75, Tryz.ntmps75
  go_wp2_with fail
  go_ret
  exact ⟨by rw [HR.out]; rfl, (Below.refl _ _).alloc (Nat.le_refl _) _⟩
set_option maxHeartbeats 4000000 in
theorem rmay_char (h n c : Nat) (a : Option Addr) (i : Int) (w : World) (hc : w.cell? ⟨h, 0, none⟩ = some (.slice a n c)) (hh : h < w.heap.size) : Calls Tryz.prog 75 #[.pointer (some ⟨h, 0, none⟩), .agg #[.int .i64 2, .int .i64 i, .string ⟨#[]⟩]] w fun e w' => e = .returned (.bool (Hp.may n ⟨2, i, ⟨#[]⟩⟩)) ∧ Below w.heap.size w w' := by
 have HR : Hid (Hp.may n ⟨2, i, ⟨#[]⟩⟩ = (decide (0 ≤ i) && decide (i ≤ 255))) := rfl
 by_cases hi : 0 ≤ i
 ·have z : decide (0 ≤ i) = true := decide_eq_true hi
  have HZ := hid z
  go_enter Tryz.func75, Tryz.ntmps75
  go_wp2_with fail
  go_ret
  exact ⟨by rw [HR.out, HZ.out]; rfl, (Below.refl _ _).alloc (Nat.le_refl _) _⟩
 ·have z : decide (0 ≤ i) = false := decide_eq_false hi
  have HZ := hid z
  go_enter Tryz.func75, Tryz.ntmps75
  go_wp2_with fail
  go_ret
  exact ⟨by rw [HR.out, HZ.out]; rfl, (Below.refl _ _).alloc (Nat.le_refl _) _⟩
set_option maxHeartbeats 4000000 in
theorem rmay_sym (h n c : Nat) (a : Option Addr) (i : Int) (t : ByteArray) (ht : t.size ≤ maxLen) (w : World) (hc : w.cell? ⟨h, 0, none⟩ = some (.slice a n c)) (hh : h < w.heap.size) : Calls Tryz.prog 75 #[.pointer (some ⟨h, 0, none⟩), .agg #[.int .i64 3, .int .i64 i, .string t]] w fun e w' => e = .returned (.bool (Hp.may n ⟨3, i, t⟩)) ∧ Below w.heap.size w w' := by
 have HR : Hid (Hp.may n ⟨3, i, t⟩ = (decide (i = 0) && Nm.nameB t)) := rfl
 have HT := hid ht
 by_cases hi : i = 0
 ·subst hi
  go_enter Tryz.func75, Tryz.ntmps75
  go_wp2_with fail
  with_reducible refine (rname_any t HT.out _).mono ?_
  rintro e w' ⟨rfl, hw⟩
  obtain rfl := hw
  go_wp2_with fail
  go_ret
  exact ⟨by rw [HR.out]; rfl, (Below.refl _ _).alloc (Nat.le_refl _) _⟩
 ·have q := beq_eq_false_iff_ne.2 hi
  have HD : Hid (decide (i = 0) = false) := decide_eq_false hi
  go_enter Tryz.func75, Tryz.ntmps75
  go_wp2_with fail
  go_ret
  exact ⟨by rw [HR.out, HD.out]; rfl, (Below.refl _ _).alloc (Nat.le_refl _) _⟩
set_option maxHeartbeats 4000000 in
theorem rmay_thing (h n c : Nat) (a : Option Addr) (i : Int) (w : World) (hc : w.cell? ⟨h, 0, none⟩ = some (.slice a n c)) (hh : h < w.heap.size) : Calls Tryz.prog 75 #[.pointer (some ⟨h, 0, none⟩), .agg #[.int .i64 8, .int .i64 i, .string ⟨#[]⟩]] w fun e w' => e = .returned (.bool (Hp.may n ⟨8, i, ⟨#[]⟩⟩)) ∧ Below w.heap.size w w' := by
 have HR : Hid (Hp.may n ⟨8, i, ⟨#[]⟩⟩ = (decide (0 ≤ i) && decide (i < n))) := rfl
 rcases (by omega : i < 0 ∨ (0 ≤ i ∧ (n : Int) ≤ i) ∨ (0 ≤ i ∧ i < n)) with g | ⟨g, g2⟩ | ⟨g, g2⟩
 ·have z1 : decide (0 ≤ i) = false := by simp; omega
  have HZ := hid z1
  go_enter Tryz.func75, Tryz.ntmps75
  go_wp2_with fail
  go_quiet (fail)
  go_wp2_with fail
  go_ret
  exact ⟨by rw [HR.out, HZ.out]; first | rfl | simp, below_drewN ((Below.refl _ _).alloc (Nat.le_refl _) _) _⟩
 ·have z1 : decide (0 ≤ i) = true := by simp; omega
  have z2 : decide (i < (n : Int)) = false := by simp; omega
  have HZ := hid z1
  have HY := hid z2
  go_enter Tryz.func75, Tryz.ntmps75
  go_wp2_with fail
  go_quiet (fail)
  go_wp2_with fail
  go_ret
  exact ⟨by rw [HR.out, HZ.out, HY.out]; first | rfl | simp, below_drewN ((Below.refl _ _).alloc (Nat.le_refl _) _) _⟩
 ·have z1 : decide (0 ≤ i) = true := by simp; omega
  have z2 : decide (i < (n : Int)) = true := by simp; omega
  have HZ := hid z1
  have HY := hid z2
  go_enter Tryz.func75, Tryz.ntmps75
  go_wp2_with fail
  go_quiet (fail)
  go_wp2_with fail
  go_ret
  exact ⟨by rw [HR.out, HZ.out, HY.out]; first | rfl | simp, below_drewN ((Below.refl _ _).alloc (Nat.le_refl _) _) _⟩
set_option maxHeartbeats 4000000 in
theorem rmay_int (h : Nat) (n : Nat) (i : Int) (w : World) : Calls Tryz.prog 75 #[.pointer (some ⟨h, 0, none⟩), .agg #[.int .i64 1, .int .i64 i, .string ⟨#[]⟩]] w fun e w' => e = .returned (.bool (Hp.may n ⟨1, i, ⟨#[]⟩⟩)) ∧ Below w.heap.size w w' := by
 have HR : Hid (Hp.may n ⟨1, i, ⟨#[]⟩⟩ = isN i) := rfl
 go_enter Tryz.func75, Tryz.ntmps75
 go_wp2_with fail
 with_reducible refine (wis_any i _).mono ?_
 rintro e w' ⟨rfl, hw⟩
 subst hw
 go_wp2_with fail
 go_ret
 exact ⟨by rw [HR.out]; rfl, (Below.refl _ _).alloc (Nat.le_refl _) _⟩
set_option maxHeartbeats 4000000 in
theorem rmay_else (h : Nat) (n : Nat) (k i : Int) (hk : k < 0 ∨ 8 < k) (w : World) : Calls Tryz.prog 75 #[.pointer (some ⟨h, 0, none⟩), .agg #[.int .i64 k, .int .i64 i, .string ⟨#[]⟩]] w fun e w' => e = .returned (.bool (Hp.may n ⟨k, i, ⟨#[]⟩⟩)) ∧ Below w.heap.size w w' := by
 have HR : Hid (Hp.may n ⟨k, i, ⟨#[]⟩⟩ = false) := by
  unfold Hid Hp.may
  dsimp only
  rw [if_neg (by omega), if_neg (by omega), if_neg (by omega), if_neg (by omega), if_neg (by omega), if_neg (by omega), Bool.and_false]
 have q0 : (k == 0) = false := beq_eq_false_iff_ne.2 (by omega)
 have q1 : (k == 1) = false := beq_eq_false_iff_ne.2 (by omega)
 have q2 : (k == 2) = false := beq_eq_false_iff_ne.2 (by omega)
 have q3 : (k == 3) = false := beq_eq_false_iff_ne.2 (by omega)
 have q4 : (k == 4) = false := beq_eq_false_iff_ne.2 (by omega)
 have q5 : (k == 5) = false := beq_eq_false_iff_ne.2 (by omega)
 have q6 : (k == 6) = false := beq_eq_false_iff_ne.2 (by omega)
 have q7 : (k == 7) = false := beq_eq_false_iff_ne.2 (by omega)
 have q8 : (k == 8) = false := beq_eq_false_iff_ne.2 (by omega)
 have p3 : (k != 3) = true := by rw [bne_iff_ne]; omega
 clear hk
 go_enter Tryz.func75, Tryz.ntmps75
 go_wp2_with fail
 go_ret
 exact ⟨by rw [HR.out]; rfl, (Below.refl _ _).alloc (Nat.le_refl _) _⟩
theorem rmay_any (h n c : Nat) (a : Option Addr) (v : Hp.V) (ht : v.text.size ≤ maxLen) (w : World) (hc : w.cell? ⟨h, 0, none⟩ = some (.slice a n c)) (hh : h < w.heap.size) : Calls Tryz.prog 75 #[.pointer (some ⟨h, 0, none⟩), v.val] w fun e w' => e = .returned (.bool (Hp.may n v)) ∧ Below w.heap.size w w' := by
 obtain ⟨k, i, t⟩ := v
 by_cases h3 : k = 3
 ·subst h3
  exact rmay_sym h n c a i t ht w hc hh
 by_cases h0 : t = ⟨#[]⟩
 ·subst h0
  rcases (by omega : k = 0 ∨ k = 1 ∨ k = 2 ∨ (k = 4 ∨ k = 5 ∨ k = 6 ∨ k = 7) ∨ k = 8 ∨ (k < 0 ∨ 8 < k)) with rfl | rfl | rfl | hk | rfl | hk
  ·exact rmay_bool h n c a i w hc hh
  ·exact rmay_int h n i w
  ·exact rmay_char h n c a i w hc hh
  ·exact rmay_bare h n c a k i hk w hc hh
  ·exact rmay_thing h n c a i w hc hh
  ·exact rmay_else h n k i hk w
 ·exact rmay_text h n k i t h3 h0 w
end Go.Proofs.YtkplkgdfphbldaaGreat
