/- The reference's form. -/
import Derived.Test.YthbnhneibpoooaaQMP
set_option linter.unusedVariables false
set_option linter.unusedSimpArgs false
set_option linter.unnecessarySimpa false
namespace Go.Proofs.Ythbnhneibpoooaa
open Go.RowKit
set_option linter.unusedVariables false
set_option linter.unusedSimpArgs false
set_option linter.unnecessarySimpa false
theorem isN_dec (i : Int) : isN i = (decide (-1152921504606846976 ≤ i) && decide (i < 1152921504606846976)) := by
  rw [Bool.eq_iff_iff, isN_iff]
  simp
  omega
set_option maxHeartbeats 4000000 in
theorem rform0 (i : Int) (t : ByteArray) (a : Option Addr) (l : List Dt) (c : Nat) (w : World) : Calls Try.prog 87 #[.agg #[.int .i64 0, .int .i64 i, .string t, .slice a l.length c]] w (FormPost (Dt.formB 0 i t l) w) := by
  unfold FormPost
  generalize hb : Dt.formB 0 i t l = b
  have hb := Lib.hid hb
  by_cases ht : t = ⟨#[]⟩
  · subst ht
    by_cases hl : l = []
    · subst hl
      by_cases h0 : i = 0
      · subst h0
        have HB : Hid (true = b) := Lib.hid (by rw [← hb.out]; simp [Dt.formB])
        clear hb
        go_enter Try.func87, Try.ntmps87
        go_wp2_with fail
        go_ret
        exact ⟨by rw [← HB.out]; rfl, (Below.refl _ _).alloc (Nat.le_refl _) _⟩
      · have j0 : (i == 0) = false := beq_eq_false_iff_ne.2 h0
        have HB : Hid ((i == 1) = b) := Lib.hid (by rw [← hb.out]; simp [Dt.formB, h0]; rfl)
        clear hb
        clear h0
        go_enter Try.func87, Try.ntmps87
        go_wp2_with fail
        go_ret
        exact ⟨by rw [← HB.out]; rfl, (Below.refl _ _).alloc (Nat.le_refl _) _⟩
    · obtain ⟨l1, l2, l3⟩ := list_facts hl
      have l4 : (l.length == 0) = false := beq_eq_false_iff_ne.2 l2
      by_cases h0 : i = 0
      · subst h0
        have HB : Hid (false = b) := Lib.hid (by rw [← hb.out]; simp [Dt.formB, hl])
        clear hb
        clear l3 hl
        go_enter Try.func87, Try.ntmps87
        go_wp2_with fail
        go_ret
        exact ⟨by rw [← HB.out]; rfl, (Below.refl _ _).alloc (Nat.le_refl _) _⟩
      · have j0 : (i == 0) = false := beq_eq_false_iff_ne.2 h0
        have HB : Hid (false = b) := Lib.hid (by rw [← hb.out]; simp [Dt.formB, hl])
        clear hb
        clear l3 hl h0
        go_enter Try.func87, Try.ntmps87
        go_wp2_with fail
        go_ret
        exact ⟨by rw [← HB.out]; rfl, (Below.refl _ _).alloc (Nat.le_refl _) _⟩
  · obtain ⟨k1, k2, k3⟩ := text_facts ht
    by_cases h0 : i = 0
    · subst h0
      have HB : Hid (false = b) := Lib.hid (by rw [← hb.out]; simp [Dt.formB, ht])
      clear hb
      clear k3 ht
      go_enter Try.func87, Try.ntmps87
      go_wp2_with fail
      go_ret
      exact ⟨by rw [← HB.out]; rfl, (Below.refl _ _).alloc (Nat.le_refl _) _⟩
    · have j0 : (i == 0) = false := beq_eq_false_iff_ne.2 h0
      have HB : Hid (false = b) := Lib.hid (by rw [← hb.out]; simp [Dt.formB, ht])
      clear hb
      clear k3 ht h0
      go_enter Try.func87, Try.ntmps87
      go_wp2_with fail
      go_ret
      exact ⟨by rw [← HB.out]; rfl, (Below.refl _ _).alloc (Nat.le_refl _) _⟩
set_option maxHeartbeats 4000000 in
theorem rform1 (i : Int) (t : ByteArray) (a : Option Addr) (l : List Dt) (c : Nat) (w : World) : Calls Try.prog 87 #[.agg #[.int .i64 1, .int .i64 i, .string t, .slice a l.length c]] w (FormPost (Dt.formB 1 i t l) w) := by
  unfold FormPost
  generalize hb : Dt.formB 1 i t l = b
  have hb := Lib.hid hb
  by_cases ht : t = ⟨#[]⟩
  · subst ht
    by_cases hl : l = []
    · subst hl
      by_cases h0 : i = 0
      · subst h0
        have HB : Hid (true = b) := Lib.hid (by rw [← hb.out]; decide +kernel)
        clear hb
        go_enter Try.func87, Try.ntmps87
        go_wp2_with fail
        go_ret
        exact ⟨by rw [← HB.out]; rfl, (Below.refl _ _).alloc (Nat.le_refl _) _⟩
      · have j0 : (i == 0) = false := beq_eq_false_iff_ne.2 h0
        cases q1 : decide (-1152921504606846976 ≤ i) <;> cases q2 : decide (i < 1152921504606846976)
        all_goals
          have HB : Hid ((decide (-1152921504606846976 ≤ i) && decide (i < 1152921504606846976)) = b) := Lib.hid (by rw [← hb.out]; simp [Dt.formB, isN_dec])
          rw [q1, q2] at HB
          clear hb h0
          go_enter Try.func87, Try.ntmps87
          go_wp2_with fail
          go_ret
          exact ⟨by rw [← HB.out]; rfl, (Below.refl _ _).alloc (Nat.le_refl _) _⟩
    · obtain ⟨l1, l2, l3⟩ := list_facts hl
      have l4 : (l.length == 0) = false := beq_eq_false_iff_ne.2 l2
      by_cases h0 : i = 0
      · subst h0
        have HB : Hid (false = b) := Lib.hid (by rw [← hb.out]; simp [Dt.formB, hl])
        clear hb
        clear l3 hl
        go_enter Try.func87, Try.ntmps87
        go_wp2_with fail
        go_ret
        exact ⟨by rw [← HB.out]; rfl, (Below.refl _ _).alloc (Nat.le_refl _) _⟩
      · have j0 : (i == 0) = false := beq_eq_false_iff_ne.2 h0
        have HB : Hid (false = b) := Lib.hid (by rw [← hb.out]; simp [Dt.formB, hl])
        clear hb
        clear l3 hl h0
        go_enter Try.func87, Try.ntmps87
        go_wp2_with fail
        go_ret
        exact ⟨by rw [← HB.out]; rfl, (Below.refl _ _).alloc (Nat.le_refl _) _⟩
  · obtain ⟨k1, k2, k3⟩ := text_facts ht
    by_cases h0 : i = 0
    · subst h0
      have HB : Hid (false = b) := Lib.hid (by rw [← hb.out]; simp [Dt.formB, ht])
      clear hb
      clear k3 ht
      go_enter Try.func87, Try.ntmps87
      go_wp2_with fail
      go_ret
      exact ⟨by rw [← HB.out]; rfl, (Below.refl _ _).alloc (Nat.le_refl _) _⟩
    · have j0 : (i == 0) = false := beq_eq_false_iff_ne.2 h0
      have HB : Hid (false = b) := Lib.hid (by rw [← hb.out]; simp [Dt.formB, ht])
      clear hb
      clear k3 ht h0
      go_enter Try.func87, Try.ntmps87
      go_wp2_with fail
      go_ret
      exact ⟨by rw [← HB.out]; rfl, (Below.refl _ _).alloc (Nat.le_refl _) _⟩
set_option maxHeartbeats 4000000 in
theorem rform2 (i : Int) (t : ByteArray) (a : Option Addr) (l : List Dt) (c : Nat) (w : World) : Calls Try.prog 87 #[.agg #[.int .i64 2, .int .i64 i, .string t, .slice a l.length c]] w (FormPost (Dt.formB 2 i t l) w) := by
  unfold FormPost
  generalize hb : Dt.formB 2 i t l = b
  have hb := Lib.hid hb
  by_cases ht : t = ⟨#[]⟩
  · subst ht
    by_cases hl : l = []
    · subst hl
      by_cases h0 : i = 0
      · subst h0
        have HB : Hid (true = b) := Lib.hid (by rw [← hb.out]; decide +kernel)
        clear hb
        go_enter Try.func87, Try.ntmps87
        go_wp2_with fail
        go_ret
        exact ⟨by rw [← HB.out]; rfl, (Below.refl _ _).alloc (Nat.le_refl _) _⟩
      · have j0 : (i == 0) = false := beq_eq_false_iff_ne.2 h0
        cases q1 : decide (0 ≤ i) <;> cases q2 : decide (i ≤ 255)
        all_goals
          have HB : Hid ((decide (0 ≤ i) && decide (i ≤ 255)) = b) := Lib.hid (by rw [← hb.out]; simp [Dt.formB])
          rw [q1, q2] at HB
          clear hb h0
          go_enter Try.func87, Try.ntmps87
          go_wp2_with fail
          go_ret
          exact ⟨by rw [← HB.out]; rfl, (Below.refl _ _).alloc (Nat.le_refl _) _⟩
    · obtain ⟨l1, l2, l3⟩ := list_facts hl
      have l4 : (l.length == 0) = false := beq_eq_false_iff_ne.2 l2
      by_cases h0 : i = 0
      · subst h0
        have HB : Hid (false = b) := Lib.hid (by rw [← hb.out]; simp [Dt.formB, hl])
        clear hb
        clear l3 hl
        go_enter Try.func87, Try.ntmps87
        go_wp2_with fail
        go_ret
        exact ⟨by rw [← HB.out]; rfl, (Below.refl _ _).alloc (Nat.le_refl _) _⟩
      · have j0 : (i == 0) = false := beq_eq_false_iff_ne.2 h0
        have HB : Hid (false = b) := Lib.hid (by rw [← hb.out]; simp [Dt.formB, hl])
        clear hb
        clear l3 hl h0
        go_enter Try.func87, Try.ntmps87
        go_wp2_with fail
        go_ret
        exact ⟨by rw [← HB.out]; rfl, (Below.refl _ _).alloc (Nat.le_refl _) _⟩
  · obtain ⟨k1, k2, k3⟩ := text_facts ht
    by_cases h0 : i = 0
    · subst h0
      have HB : Hid (false = b) := Lib.hid (by rw [← hb.out]; simp [Dt.formB, ht])
      clear hb
      clear k3 ht
      go_enter Try.func87, Try.ntmps87
      go_wp2_with fail
      go_ret
      exact ⟨by rw [← HB.out]; rfl, (Below.refl _ _).alloc (Nat.le_refl _) _⟩
    · have j0 : (i == 0) = false := beq_eq_false_iff_ne.2 h0
      have HB : Hid (false = b) := Lib.hid (by rw [← hb.out]; simp [Dt.formB, ht])
      clear hb
      clear k3 ht h0
      go_enter Try.func87, Try.ntmps87
      go_wp2_with fail
      go_ret
      exact ⟨by rw [← HB.out]; rfl, (Below.refl _ _).alloc (Nat.le_refl _) _⟩
set_option maxHeartbeats 4000000 in
theorem rform3 (i : Int) (t : ByteArray) (a : Option Addr) (l : List Dt) (c : Nat) (w : World) : Calls Try.prog 87 #[.agg #[.int .i64 3, .int .i64 i, .string t, .slice a l.length c]] w (FormPost (Dt.formB 3 i t l) w) := by
  unfold FormPost
  generalize hb : Dt.formB 3 i t l = b
  have hb := Lib.hid hb
  by_cases ht : t = ⟨#[]⟩
  · subst ht
    by_cases h0 : i = 0
    · subst h0
      by_cases hl : l = []
      · subst hl
        have HB : Hid (true = b) := Lib.hid (by rw [← hb.out]; decide +kernel)
        clear hb
        go_enter Try.func87, Try.ntmps87
        go_wp2_with fail
        go_ret
        exact ⟨by rw [← HB.out]; rfl, (Below.refl _ _).alloc (Nat.le_refl _) _⟩
      · obtain ⟨l1, l2, l3⟩ := list_facts hl
        have l4 : (l.length == 0) = false := beq_eq_false_iff_ne.2 l2
        have HB : Hid (false = b) := Lib.hid (by rw [← hb.out]; simp [Dt.formB, hl])
        clear hb
        clear l3 hl
        go_enter Try.func87, Try.ntmps87
        go_wp2_with fail
        go_ret
        exact ⟨by rw [← HB.out]; rfl, (Below.refl _ _).alloc (Nat.le_refl _) _⟩
    · have j0 : (i == 0) = false := beq_eq_false_iff_ne.2 h0
      have HB : Hid (false = b) := Lib.hid (by rw [← hb.out]; simp [Dt.formB, h0])
      clear hb
      clear h0
      go_enter Try.func87, Try.ntmps87
      go_wp2_with fail
      go_ret
      exact ⟨by rw [← HB.out]; rfl, (Below.refl _ _).alloc (Nat.le_refl _) _⟩
  · obtain ⟨k1, k2, k3⟩ := text_facts ht
    by_cases h0 : i = 0
    · subst h0
      by_cases hl : l = []
      · subst hl
        have HB : Hid ((decide ((t.size : Int) ≤ 4096)) = b) := Lib.hid (by rw [← hb.out]; simp [Dt.formB]; omega)
        clear hb
        clear k3 ht
        go_enter Try.func87, Try.ntmps87
        go_wp2_with fail
        go_ret
        exact ⟨by rw [← HB.out]; rfl, (Below.refl _ _).alloc (Nat.le_refl _) _⟩
      · obtain ⟨l1, l2, l3⟩ := list_facts hl
        have l4 : (l.length == 0) = false := beq_eq_false_iff_ne.2 l2
        have HB : Hid (false = b) := Lib.hid (by rw [← hb.out]; simp [Dt.formB, hl])
        clear hb
        clear l3 hl k3 ht
        go_enter Try.func87, Try.ntmps87
        go_wp2_with fail
        go_ret
        exact ⟨by rw [← HB.out]; rfl, (Below.refl _ _).alloc (Nat.le_refl _) _⟩
    · have j0 : (i == 0) = false := beq_eq_false_iff_ne.2 h0
      have HB : Hid (false = b) := Lib.hid (by rw [← hb.out]; simp [Dt.formB, h0])
      clear hb
      clear h0 k3 ht
      go_enter Try.func87, Try.ntmps87
      go_wp2_with fail
      go_ret
      exact ⟨by rw [← HB.out]; rfl, (Below.refl _ _).alloc (Nat.le_refl _) _⟩
set_option maxHeartbeats 4000000 in
theorem rform4 (i : Int) (t : ByteArray) (a : Option Addr) (l : List Dt) (c : Nat) (w : World) (hts : t.size ≤ maxLen) : Calls Try.prog 87 #[.agg #[.int .i64 4, .int .i64 i, .string t, .slice a l.length c]] w (FormPost (Dt.formB 4 i t l) w) := by
  have HN : Hid (∀ w1, Calls Try.prog 62 #[.string t] w1 fun e w' => e = .returned (.bool (Nm.nameB t)) ∧ w1 = w') := fun w1 => rname_any t hts w1
  clear hts
  unfold FormPost
  generalize hb : Dt.formB 4 i t l = b
  have hb := Lib.hid hb
  by_cases ht : t = ⟨#[]⟩
  · subst ht
    by_cases h0 : i = 0
    · subst h0
      by_cases hl : l = []
      · subst hl
        have HB : Hid (Nm.nameB ⟨#[]⟩ = b) := Lib.hid (by rw [← hb.out]; simp [Dt.formB])
        clear hb
        go_enter Try.func87, Try.ntmps87
        go_wp2_with fail
        with_reducible refine (HN.out _).mono ?_
        rintro e w2 ⟨rfl, rfl⟩
        go_wp2_with fail
        go_ret
        exact ⟨by rw [← HB.out]; rfl, (Below.refl _ _).alloc (Nat.le_refl _) _⟩
      · obtain ⟨l1, l2, l3⟩ := list_facts hl
        have l4 : (l.length == 0) = false := beq_eq_false_iff_ne.2 l2
        have HB : Hid (false = b) := Lib.hid (by rw [← hb.out]; simp [Dt.formB, hl])
        clear hb
        clear l3 hl
        go_enter Try.func87, Try.ntmps87
        go_wp2_with fail
        go_ret
        exact ⟨by rw [← HB.out]; rfl, (Below.refl _ _).alloc (Nat.le_refl _) _⟩
    · have j0 : (i == 0) = false := beq_eq_false_iff_ne.2 h0
      have HB : Hid (false = b) := Lib.hid (by rw [← hb.out]; simp [Dt.formB, h0])
      clear hb
      clear h0
      go_enter Try.func87, Try.ntmps87
      go_wp2_with fail
      go_ret
      exact ⟨by rw [← HB.out]; rfl, (Below.refl _ _).alloc (Nat.le_refl _) _⟩
  · obtain ⟨k1, k2, k3⟩ := text_facts ht
    by_cases h0 : i = 0
    · subst h0
      by_cases hl : l = []
      · subst hl
        have HB : Hid (Nm.nameB t = b) := Lib.hid (by rw [← hb.out]; simp [Dt.formB])
        clear hb
        clear k3 ht
        go_enter Try.func87, Try.ntmps87
        go_wp2_with fail
        with_reducible refine (HN.out _).mono ?_
        rintro e w2 ⟨rfl, rfl⟩
        go_wp2_with fail
        go_ret
        exact ⟨by rw [← HB.out]; rfl, (Below.refl _ _).alloc (Nat.le_refl _) _⟩
      · obtain ⟨l1, l2, l3⟩ := list_facts hl
        have l4 : (l.length == 0) = false := beq_eq_false_iff_ne.2 l2
        have HB : Hid (false = b) := Lib.hid (by rw [← hb.out]; simp [Dt.formB, hl])
        clear hb
        clear l3 hl k3 ht
        go_enter Try.func87, Try.ntmps87
        go_wp2_with fail
        go_ret
        exact ⟨by rw [← HB.out]; rfl, (Below.refl _ _).alloc (Nat.le_refl _) _⟩
    · have j0 : (i == 0) = false := beq_eq_false_iff_ne.2 h0
      have HB : Hid (false = b) := Lib.hid (by rw [← hb.out]; simp [Dt.formB, h0])
      clear hb
      clear h0 k3 ht
      go_enter Try.func87, Try.ntmps87
      go_wp2_with fail
      go_ret
      exact ⟨by rw [← HB.out]; rfl, (Below.refl _ _).alloc (Nat.le_refl _) _⟩
set_option maxHeartbeats 4000000 in
theorem rform5 (i : Int) (t : ByteArray) (a : Option Addr) (l : List Dt) (c : Nat) (w : World) : Calls Try.prog 87 #[.agg #[.int .i64 5, .int .i64 i, .string t, .slice a l.length c]] w (FormPost (Dt.formB 5 i t l) w) := by
  unfold FormPost
  generalize hb : Dt.formB 5 i t l = b
  have hb := Lib.hid hb
  by_cases ht : t = ⟨#[]⟩
  · subst ht
    by_cases h0 : i = 0
    · subst h0
      have HB : Hid (true = b) := Lib.hid (by rw [← hb.out]; simp [Dt.formB])
      clear hb
      go_enter Try.func87, Try.ntmps87
      go_wp2_with fail
      go_ret
      exact ⟨by rw [← HB.out]; rfl, (Below.refl _ _).alloc (Nat.le_refl _) _⟩
    · have j0 : (i == 0) = false := beq_eq_false_iff_ne.2 h0
      have HB : Hid (false = b) := Lib.hid (by rw [← hb.out]; simp [Dt.formB, h0])
      clear hb
      clear h0
      go_enter Try.func87, Try.ntmps87
      go_wp2_with fail
      go_ret
      exact ⟨by rw [← HB.out]; rfl, (Below.refl _ _).alloc (Nat.le_refl _) _⟩
  · obtain ⟨k1, k2, k3⟩ := text_facts ht
    by_cases h0 : i = 0
    · subst h0
      have HB : Hid (false = b) := Lib.hid (by rw [← hb.out]; simp [Dt.formB, ht])
      clear hb
      clear k3 ht
      go_enter Try.func87, Try.ntmps87
      go_wp2_with fail
      go_ret
      exact ⟨by rw [← HB.out]; rfl, (Below.refl _ _).alloc (Nat.le_refl _) _⟩
    · have j0 : (i == 0) = false := beq_eq_false_iff_ne.2 h0
      have HB : Hid (false = b) := Lib.hid (by rw [← hb.out]; simp [Dt.formB, ht])
      clear hb
      clear k3 ht h0
      go_enter Try.func87, Try.ntmps87
      go_wp2_with fail
      go_ret
      exact ⟨by rw [← HB.out]; rfl, (Below.refl _ _).alloc (Nat.le_refl _) _⟩
set_option maxHeartbeats 4000000 in
theorem rform7 (i : Int) (t : ByteArray) (a : Option Addr) (l : List Dt) (c : Nat) (w : World) : Calls Try.prog 87 #[.agg #[.int .i64 7, .int .i64 i, .string t, .slice a l.length c]] w (FormPost (Dt.formB 7 i t l) w) := by
  unfold FormPost
  generalize hb : Dt.formB 7 i t l = b
  have hb := Lib.hid hb
  by_cases ht : t = ⟨#[]⟩
  · subst ht
    by_cases h0 : i = 0
    · subst h0
      have HB : Hid (true = b) := Lib.hid (by rw [← hb.out]; simp [Dt.formB])
      clear hb
      go_enter Try.func87, Try.ntmps87
      go_wp2_with fail
      go_ret
      exact ⟨by rw [← HB.out]; rfl, (Below.refl _ _).alloc (Nat.le_refl _) _⟩
    · have j0 : (i == 0) = false := beq_eq_false_iff_ne.2 h0
      have HB : Hid (false = b) := Lib.hid (by rw [← hb.out]; simp [Dt.formB, h0])
      clear hb
      clear h0
      go_enter Try.func87, Try.ntmps87
      go_wp2_with fail
      go_ret
      exact ⟨by rw [← HB.out]; rfl, (Below.refl _ _).alloc (Nat.le_refl _) _⟩
  · obtain ⟨k1, k2, k3⟩ := text_facts ht
    by_cases h0 : i = 0
    · subst h0
      have HB : Hid (false = b) := Lib.hid (by rw [← hb.out]; simp [Dt.formB, ht])
      clear hb
      clear k3 ht
      go_enter Try.func87, Try.ntmps87
      go_wp2_with fail
      go_ret
      exact ⟨by rw [← HB.out]; rfl, (Below.refl _ _).alloc (Nat.le_refl _) _⟩
    · have j0 : (i == 0) = false := beq_eq_false_iff_ne.2 h0
      have HB : Hid (false = b) := Lib.hid (by rw [← hb.out]; simp [Dt.formB, ht])
      clear hb
      clear k3 ht h0
      go_enter Try.func87, Try.ntmps87
      go_wp2_with fail
      go_ret
      exact ⟨by rw [← HB.out]; rfl, (Below.refl _ _).alloc (Nat.le_refl _) _⟩
set_option maxHeartbeats 4000000 in
theorem rform6 (i : Int) (t : ByteArray) (a : Option Addr) (l : List Dt) (c : Nat) (w : World) (hlm : l.length ≤ 9223372036854775807) (hd : DtAt w (fun _ => True) (.agg #[.int .i64 6, .int .i64 i, .string t, .slice a l.length c]) (.mk 6 i t l)) : Calls Try.prog 87 #[.agg #[.int .i64 6, .int .i64 i, .string t, .slice a l.length c]] w (FormPost (Dt.formB 6 i t l) w) := by
  have HD := Lib.hid hd
  have HLM := Lib.hid hlm
  clear hd hlm
  unfold FormPost
  generalize hb : Dt.formB 6 i t l = b
  have hb := Lib.hid hb
  by_cases ht : t = ⟨#[]⟩
  · subst ht
    by_cases h0 : i = 0
    · subst h0
      by_cases hl2 : 2 ≤ l.length
      · obtain ⟨m, hm⟩ : ∃ m, l.length = m + 1 := ⟨l.length - 1, by omega⟩
        obtain ⟨b0, o0, rfl, hb0, hlast⟩ := HD.out.last hm
        have HB0 : Hid ((decide (Dt.lastKind l ≠ 5) && decide (Dt.lastKind l ≠ 6)) = b) := Lib.hid (by rw [← hb.out]; simp [Dt.formB, hl2])
        have gw : wrap64 (m : Int) = m := wrap64_small (by have := HLM.out; omega)
        have h3 : decide ((2 : Int) ≤ (m : Int) + 1) = true := decide_eq_true (by omega)
        have h4 : 1 ≤ m := by omega
        have g1 : (0 : Int) ≤ m := by omega
        have g2 : (m : Int) < m + 1 := by omega
        rw [hm]
        generalize Dt.lastKind l = lk at *
        cases e5 : (lk != 5) <;> cases e6 : (lk != 6)
        all_goals
          have HB : Hid (((lk != 5) && (lk != 6)) = b) := Lib.hid (by rw [← HB0.out]; by_cases q5 : lk = 5 <;> by_cases q6 : lk = 6 <;> simp [q5, q6])
          rw [e5, e6] at HB
          clear hb hl2 hm HLM
          go_enter Try.func87, Try.ntmps87
          go_wp2_with fail
          go_ret
          exact ⟨by rw [← HB.out]; rfl, (Below.refl _ _).alloc (Nat.le_refl _) _⟩
      · have HB : Hid (false = b) := Lib.hid (by rw [← hb.out]; simp [Dt.formB]; omega)
        have h3 : decide ((2 : Int) ≤ (l.length : Int)) = false := decide_eq_false (by omega)
        have h4 : decide (2 ≤ l.length) = false := decide_eq_false (by omega)
        have h5 : ¬ 2 ≤ l.length := hl2
        clear hb hl2
        go_enter Try.func87, Try.ntmps87
        go_wp2_with fail
        go_ret
        exact ⟨by rw [← HB.out]; rfl, (Below.refl _ _).alloc (Nat.le_refl _) _⟩
    · have j0 : (i == 0) = false := beq_eq_false_iff_ne.2 h0
      have HB : Hid (false = b) := Lib.hid (by rw [← hb.out]; simp [Dt.formB, h0])
      clear hb
      clear h0
      go_enter Try.func87, Try.ntmps87
      go_wp2_with fail
      go_ret
      exact ⟨by rw [← HB.out]; rfl, (Below.refl _ _).alloc (Nat.le_refl _) _⟩
  · obtain ⟨k1, k2, k3⟩ := text_facts ht
    by_cases h0 : i = 0
    · subst h0
      have HB : Hid (false = b) := Lib.hid (by rw [← hb.out]; simp [Dt.formB, ht])
      clear hb
      clear k3 ht
      go_enter Try.func87, Try.ntmps87
      go_wp2_with fail
      go_ret
      exact ⟨by rw [← HB.out]; rfl, (Below.refl _ _).alloc (Nat.le_refl _) _⟩
    · have j0 : (i == 0) = false := beq_eq_false_iff_ne.2 h0
      have HB : Hid (false = b) := Lib.hid (by rw [← hb.out]; simp [Dt.formB, ht])
      clear hb
      clear k3 ht h0
      go_enter Try.func87, Try.ntmps87
      go_wp2_with fail
      go_ret
      exact ⟨by rw [← HB.out]; rfl, (Below.refl _ _).alloc (Nat.le_refl _) _⟩
set_option maxHeartbeats 4000000 in
theorem rformx (k : Int) (hk : k < 0 ∨ 7 < k) (i : Int) (t : ByteArray) (a : Option Addr) (l : List Dt) (c : Nat) (w : World) : Calls Try.prog 87 #[.agg #[.int .i64 k, .int .i64 i, .string t, .slice a l.length c]] w (FormPost (Dt.formB k i t l) w) := by
  have hkk : ¬ k = 0 ∧ ¬ k = 1 ∧ ¬ k = 2 ∧ ¬ k = 3 ∧ ¬ k = 4 ∧ ¬ k = 5 ∧ ¬ k = 7 ∧ ¬ k = 6 := by omega
  unfold FormPost
  generalize hb : Dt.formB k i t l = b
  have hb := Lib.hid hb
  have HB : Hid (false = b) := Lib.hid (by rw [← hb.out]; simp [Dt.formB, hkk])
  have m0 : (k == 0) = false := beq_eq_false_iff_ne.2 (by omega)
  have m1 : (k == 1) = false := beq_eq_false_iff_ne.2 (by omega)
  have m2 : (k == 2) = false := beq_eq_false_iff_ne.2 (by omega)
  have m3 : (k == 3) = false := beq_eq_false_iff_ne.2 (by omega)
  have m4 : (k == 4) = false := beq_eq_false_iff_ne.2 (by omega)
  have m5 : (k == 5) = false := beq_eq_false_iff_ne.2 (by omega)
  have m6 : (k == 6) = false := beq_eq_false_iff_ne.2 (by omega)
  have m7 : (k == 7) = false := beq_eq_false_iff_ne.2 (by omega)
  clear hb hkk hk
  by_cases ht : t = ⟨#[]⟩
  · subst ht
    by_cases h0 : i = 0
    · subst h0
      go_enter Try.func87, Try.ntmps87
      go_wp2_with fail
      go_ret
      exact ⟨by rw [← HB.out]; rfl, (Below.refl _ _).alloc (Nat.le_refl _) _⟩
    · have j0 : (i == 0) = false := beq_eq_false_iff_ne.2 h0
      clear h0
      go_enter Try.func87, Try.ntmps87
      go_wp2_with fail
      go_ret
      exact ⟨by rw [← HB.out]; rfl, (Below.refl _ _).alloc (Nat.le_refl _) _⟩
  · obtain ⟨k1, k2, k3⟩ := text_facts ht
    clear k3 ht
    by_cases h0 : i = 0
    · subst h0
      go_enter Try.func87, Try.ntmps87
      go_wp2_with fail
      go_ret
      exact ⟨by rw [← HB.out]; rfl, (Below.refl _ _).alloc (Nat.le_refl _) _⟩
    · have j0 : (i == 0) = false := beq_eq_false_iff_ne.2 h0
      clear h0
      go_enter Try.func87, Try.ntmps87
      go_wp2_with fail
      go_ret
      exact ⟨by rw [← HB.out]; rfl, (Below.refl _ _).alloc (Nat.le_refl _) _⟩
/-- The reference's form of any datum. -/
theorem rform_any (k i : Int) (t : ByteArray) (ht : t.size ≤ maxLen) (a : Option Addr) (l : List Dt) (hlm : l.length ≤ 9223372036854775807) (c : Nat) (w : World) (hd : DtAt w (fun _ => True) (.agg #[.int .i64 k, .int .i64 i, .string t, .slice a l.length c]) (.mk k i t l)) : Calls Try.prog 87 #[.agg #[.int .i64 k, .int .i64 i, .string t, .slice a l.length c]] w (FormPost (Dt.formB k i t l) w) := by
  rcases (by omega : k = 0 ∨ k = 1 ∨ k = 2 ∨ k = 3 ∨ k = 4 ∨ k = 5 ∨ k = 6 ∨ k = 7 ∨ (k < 0 ∨ 7 < k)) with rfl | rfl | rfl | rfl | rfl | rfl | rfl | rfl | hk
  · exact rform0 i t a l c w
  · exact rform1 i t a l c w
  · exact rform2 i t a l c w
  · exact rform3 i t a l c w
  · exact rform4 i t a l c w ht
  · exact rform5 i t a l c w
  · exact rform6 i t a l c w hlm hd
  · exact rform7 i t a l c w
  · exact rformx k hk i t a l c w
end Go.Proofs.Ythbnhneibpoooaa
