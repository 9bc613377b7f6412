/- May a datum's own fields be? Plainly; data.form. -/
import Derived.Test.YthbnhneibpoooaaQML
set_option linter.unusedVariables false
set_option linter.unusedSimpArgs false
set_option linter.unnecessarySimpa false
namespace Go.Proofs.Ythbnhneibpoooaa
open Go.RowKit
set_option linter.unusedVariables false
set_option linter.unusedSimpArgs false
set_option linter.unnecessarySimpa false
namespace Dt
/-- The last one's kind; 0: there is none. -/
def lastKind (l : List Dt) : Int := match l.getLast? with | some x => x.kind | none => 0
def formB (k i : Int) (t : ByteArray) (l : List Dt) : Bool :=
  if k = 0 then decide (t = ⟨#[]⟩) && decide (l = []) && (decide (i = 0) || decide (i = 1))
  else if k = 1 then decide (t = ⟨#[]⟩) && decide (l = []) && isN i
  else if k = 2 then decide (t = ⟨#[]⟩) && decide (l = []) && (decide (0 ≤ i) && decide (i ≤ 255))
  else if k = 3 then decide (i = 0) && decide (l = []) && decide (t.size ≤ 4096)
  else if k = 4 then decide (i = 0) && decide (l = []) && Nm.nameB t
  else if k = 5 ∨ k = 7 then decide (i = 0) && decide (t = ⟨#[]⟩)
  else if k = 6 then decide (i = 0) && decide (t = ⟨#[]⟩) && (decide (2 ≤ l.length) && decide (lastKind l ≠ 5) && decide (lastKind l ≠ 6))
  else false
end Dt
theorem ditems_any (k i : Int) (t : ByteArray) (a : Option Addr) (n c : Nat) (w : World) : Calls Try.prog 84 #[.agg #[.int .i64 k, .int .i64 i, .string t, .slice a n c]] w fun e w' => e = .returned (.bool (decide (5 ≤ k) && decide (k ≤ 7))) ∧ Below w.heap.size w w' := by
  cases h1 : decide (5 ≤ k) <;> cases h2 : decide (k ≤ 7)
  all_goals
    go_enter Try.func84, Try.ntmps84
    go_wp2_with fail
    go_ret
    exact ⟨rfl, (Below.refl _ _).alloc (Nat.le_refl _) _⟩
theorem ritems_any (k i : Int) (t : ByteArray) (a : Option Addr) (n c : Nat) (w : World) : Calls Try.prog 86 #[.agg #[.int .i64 k, .int .i64 i, .string t, .slice a n c]] w fun e w' => e = .returned (.bool (decide (5 ≤ k) && decide (k ≤ 7))) ∧ Below w.heap.size w w' := by
  have e : (decide (5 ≤ k) && decide (k ≤ 7)) = ((k == 5) || (k == 6) || (k == 7)) := by rw [Bool.eq_iff_iff]; simp; omega
  rw [e]
  cases h1 : (k == 5) <;> cases h2 : (k == 6) <;> cases h3 : (k == 7)
  all_goals
    go_enter Try.func86, Try.ntmps86
    go_wp2_with fail
    go_ret
    exact ⟨rfl, (Below.refl _ _).alloc (Nat.le_refl _) _⟩
def FormPost (b : Bool) (w : World) (e : Ending) (w' : World) : Prop := e = .returned (.bool b) ∧ Below w.heap.size w w'
theorem text_facts {t : ByteArray} (ht : ¬ t = ⟨#[]⟩) : t.toList.isEmpty = false ∧ ¬ t.toList = [] ∧ decide (t = ⟨#[]⟩) = false :=
  ⟨by rw [List.isEmpty_eq_false_iff]; exact fun e => ht (text_nil.1 e), fun e => ht (text_nil.1 e), decide_eq_false ht⟩
theorem list_facts {l : List Dt} (hl : ¬ l = []) : 0 < l.length ∧ ¬ l.length = 0 ∧ decide (l = []) = false := ⟨List.length_pos_iff.2 hl, fun e => hl (List.eq_nil_of_length_eq_zero e), decide_eq_false hl⟩
set_option maxHeartbeats 4000000 in
theorem dform0 (i : Int) (t : ByteArray) (a : Option Addr) (l : List Dt) (c : Nat) (w : World) : Calls Try.prog 85 #[.agg #[.int .i64 0, .int .i64 i, .string t, .slice a l.length c]] w (FormPost (Dt.formB 0 i t l) w) := by
  have ha := i64_and1 i
  have e1 : (decide (i = 0) || decide (i = 1)) = !(i != i % 2) := by rw [Bool.eq_iff_iff]; simp; omega
  have HR : Hid (Dt.formB 0 i t l = (decide (t = ⟨#[]⟩) && decide (l = []) && !(i != i % 2))) := by
    unfold Hid
    rw [← e1]
    simp [Dt.formB]
  clear e1
  have HI : Hid (∀ w1, Calls Try.prog 84 #[.agg #[.int .i64 0, .int .i64 i, .string t, .slice a l.length c]] w1 fun e w' => e = .returned (.bool false) ∧ Below w1.heap.size w1 w') := fun w1 => ditems_any 0 i t a l.length c w1
  unfold FormPost
  rw [HR.out]
  generalize hb : (decide (t = ⟨#[]⟩) && decide (l = []) && !(i != i % 2)) = b
  cases h1 : (i != i % 2)
  · by_cases ht : t = ⟨#[]⟩
    · subst ht
      by_cases hl : l = []
      · subst hl
        have HB : Hid (true = b) := by rw [← hb, h1]; rfl
        clear hb
        go_enter Try.func85, Try.ntmps85
        go_wp2_with fail
        go_ret
        exact ⟨by rw [← HB.out]; rfl, (Below.refl _ _).alloc (Nat.le_refl _) _⟩
      · obtain ⟨k1, k2, k3⟩ := list_facts hl
        have HB : Hid (false = b) := by rw [← hb, k3]; rfl
        clear hb k3 hl
        go_enter Try.func85, Try.ntmps85
        go_wp2_with fail
        with_reducible refine (HI.out _).mono ?_
        rintro e w2 ⟨rfl, hb2⟩
        have HB2 := Lib.hid hb2
        clear hb2
        go_wp2_with fail
        go_ret
        exact ⟨by rw [← HB.out]; rfl, ((Below.refl _ _).alloc (Nat.le_refl _) _).trans (HB2.out.mono (by simp))⟩
    · obtain ⟨k1, k2, k3⟩ := text_facts ht
      have HB : Hid (false = b) := by rw [← hb, k3]; rfl
      clear hb k3 ht
      go_enter Try.func85, Try.ntmps85
      go_wp2_with fail
      go_ret
      exact ⟨by rw [← HB.out]; rfl, (Below.refl _ _).alloc (Nat.le_refl _) _⟩
  · have HB : Hid (false = b) := Lib.hid (by rw [← hb, h1]; simp)
    clear hb
    go_enter Try.func85, Try.ntmps85
    go_wp2_with fail
    go_ret
    exact ⟨by rw [← HB.out]; rfl, (Below.refl _ _).alloc (Nat.le_refl _) _⟩
set_option maxHeartbeats 4000000 in
theorem dform2 (i : Int) (t : ByteArray) (a : Option Addr) (l : List Dt) (c : Nat) (w : World) : Calls Try.prog 85 #[.agg #[.int .i64 2, .int .i64 i, .string t, .slice a l.length c]] w (FormPost (Dt.formB 2 i t l) w) := by
  have ha := i64_and255 i
  have e1 : (decide (0 ≤ i) && decide (i ≤ 255)) = !(i != i % 256) := by rw [Bool.eq_iff_iff]; simp; omega
  have HR : Hid (Dt.formB 2 i t l = (decide (t = ⟨#[]⟩) && decide (l = []) && !(i != i % 256))) := by
    unfold Hid
    rw [← e1]
    simp [Dt.formB]
  clear e1
  have HI : Hid (∀ w1, Calls Try.prog 84 #[.agg #[.int .i64 2, .int .i64 i, .string t, .slice a l.length c]] w1 fun e w' => e = .returned (.bool false) ∧ Below w1.heap.size w1 w') := fun w1 => ditems_any 2 i t a l.length c w1
  unfold FormPost
  rw [HR.out]
  generalize hb : (decide (t = ⟨#[]⟩) && decide (l = []) && !(i != i % 256)) = b
  cases h1 : (i != i % 256)
  · by_cases ht : t = ⟨#[]⟩
    · subst ht
      by_cases hl : l = []
      · subst hl
        have HB : Hid (true = b) := by rw [← hb, h1]; rfl
        clear hb
        go_enter Try.func85, Try.ntmps85
        go_wp2_with fail
        go_ret
        exact ⟨by rw [← HB.out]; rfl, (Below.refl _ _).alloc (Nat.le_refl _) _⟩
      · obtain ⟨k1, k2, k3⟩ := list_facts hl
        have HB : Hid (false = b) := by rw [← hb, k3]; rfl
        clear hb k3 hl
        go_enter Try.func85, Try.ntmps85
        go_wp2_with fail
        with_reducible refine (HI.out _).mono ?_
        rintro e w2 ⟨rfl, hb2⟩
        have HB2 := Lib.hid hb2
        clear hb2
        go_wp2_with fail
        go_ret
        exact ⟨by rw [← HB.out]; rfl, ((Below.refl _ _).alloc (Nat.le_refl _) _).trans (HB2.out.mono (by simp))⟩
    · obtain ⟨k1, k2, k3⟩ := text_facts ht
      have HB : Hid (false = b) := by rw [← hb, k3]; rfl
      clear hb k3 ht
      go_enter Try.func85, Try.ntmps85
      go_wp2_with fail
      go_ret
      exact ⟨by rw [← HB.out]; rfl, (Below.refl _ _).alloc (Nat.le_refl _) _⟩
  · have HB : Hid (false = b) := Lib.hid (by rw [← hb, h1]; simp)
    clear hb
    go_enter Try.func85, Try.ntmps85
    go_wp2_with fail
    go_ret
    exact ⟨by rw [← HB.out]; rfl, (Below.refl _ _).alloc (Nat.le_refl _) _⟩
set_option maxHeartbeats 4000000 in
theorem dform1 (i : Int) (t : ByteArray) (a : Option Addr) (l : List Dt) (c : Nat) (w : World) : Calls Try.prog 85 #[.agg #[.int .i64 1, .int .i64 i, .string t, .slice a l.length c]] w (FormPost (Dt.formB 1 i t l) w) := by
  have e1 : isN i = !(i != min (max i (-1152921504606846976)) 1152921504606846975) := by rw [Bool.eq_iff_iff, isN_iff]; simp; omega
  have HR : Hid (Dt.formB 1 i t l = (decide (t = ⟨#[]⟩) && decide (l = []) && !(i != min (max i (-1152921504606846976)) 1152921504606846975))) := by
    unfold Hid
    rw [← e1]
    simp [Dt.formB]
  clear e1
  have HI : Hid (∀ w1, Calls Try.prog 84 #[.agg #[.int .i64 1, .int .i64 i, .string t, .slice a l.length c]] w1 fun e w' => e = .returned (.bool false) ∧ Below w1.heap.size w1 w') := fun w1 => ditems_any 1 i t a l.length c w1
  unfold FormPost
  rw [HR.out]
  generalize hb : (decide (t = ⟨#[]⟩) && decide (l = []) && !(i != min (max i (-1152921504606846976)) 1152921504606846975)) = b
  cases h1 : (i != min (max i (-1152921504606846976)) 1152921504606846975)
  · by_cases ht : t = ⟨#[]⟩
    · subst ht
      by_cases hl : l = []
      · subst hl
        have HB : Hid (true = b) := by rw [← hb, h1]; rfl
        clear hb
        go_enter Try.func85, Try.ntmps85
        go_wp2_with fail
        go_ret
        exact ⟨by rw [← HB.out]; rfl, (Below.refl _ _).alloc (Nat.le_refl _) _⟩
      · obtain ⟨k1, k2, k3⟩ := list_facts hl
        have HB : Hid (false = b) := by rw [← hb, k3]; rfl
        clear hb k3 hl
        go_enter Try.func85, Try.ntmps85
        go_wp2_with fail
        with_reducible refine (HI.out _).mono ?_
        rintro e w2 ⟨rfl, hb2⟩
        have HB2 := Lib.hid hb2
        clear hb2
        go_wp2_with fail
        go_ret
        exact ⟨by rw [← HB.out]; rfl, ((Below.refl _ _).alloc (Nat.le_refl _) _).trans (HB2.out.mono (by simp))⟩
    · obtain ⟨k1, k2, k3⟩ := text_facts ht
      have HB : Hid (false = b) := by rw [← hb, k3]; rfl
      clear hb k3 ht
      go_enter Try.func85, Try.ntmps85
      go_wp2_with fail
      go_ret
      exact ⟨by rw [← HB.out]; rfl, (Below.refl _ _).alloc (Nat.le_refl _) _⟩
  · have HB : Hid (false = b) := Lib.hid (by rw [← hb, h1]; simp)
    clear hb
    go_enter Try.func85, Try.ntmps85
    go_wp2_with fail
    go_ret
    exact ⟨by rw [← HB.out]; rfl, (Below.refl _ _).alloc (Nat.le_refl _) _⟩
end Go.Proofs.Ythbnhneibpoooaa
/- data.form, all of it. -/
namespace Go.Proofs.Ythbnhneibpoooaa
open Go.RowKit
set_option linter.unusedVariables false
set_option linter.unusedSimpArgs false
set_option linter.unnecessarySimpa false
set_option maxHeartbeats 4000000 in
theorem dform4 (i : Int) (t : ByteArray) (ht : t.size ≤ maxLen) (a : Option Addr) (l : List Dt) (c : Nat) (w : World) : Calls Try.prog 85 #[.agg #[.int .i64 4, .int .i64 i, .string t, .slice a l.length c]] w (FormPost (Dt.formB 4 i t l) w) := by
  have HR : Hid (Dt.formB 4 i t l = (decide (i = 0) && decide (l = []) && Nm.nameB t)) := by
    unfold Hid
    simp [Dt.formB]
  have HI : Hid (∀ w1, Calls Try.prog 84 #[.agg #[.int .i64 4, .int .i64 i, .string t, .slice a l.length c]] w1 fun e w' => e = .returned (.bool false) ∧ Below w1.heap.size w1 w') := fun w1 => ditems_any 4 i t a l.length c w1
  have HN : Hid (∀ w1, Calls Try.prog 65 #[.string t] w1 fun e w' => e = .returned (.bool (Nm.nameB t)) ∧ w1 = w') := fun w1 => dname_any t ht w1
  unfold FormPost
  rw [HR.out]
  generalize hb : (decide (i = 0) && decide (l = []) && Nm.nameB t) = b
  clear ht
  by_cases h1 : i = 0
  · subst h1
    by_cases hl : l = []
    · subst hl
      have HB : Hid (Nm.nameB t = b) := by rw [← hb]; exact Lib.hid rfl
      clear hb
      go_enter Try.func85, Try.ntmps85
      go_wp2_with fail
      with_reducible refine (HN.out _).mono ?_
      rintro e w2 ⟨rfl, rfl⟩
      go_wp2_with fail
      go_ret
      exact ⟨by rw [← HB.out]; rfl, (Below.refl _ _).alloc (Nat.le_refl _) _⟩
    · obtain ⟨k1, k2, k3⟩ := list_facts hl
      have HB : Hid (false = b) := by rw [← hb, k3]; rfl
      clear hb k3 hl
      go_enter Try.func85, Try.ntmps85
      go_wp2_with fail
      with_reducible refine (HI.out _).mono ?_
      rintro e w2 ⟨rfl, hb2⟩
      have HB2 := Lib.hid hb2
      clear hb2
      go_wp2_with fail
      go_ret
      exact ⟨by rw [← HB.out]; rfl, ((Below.refl _ _).alloc (Nat.le_refl _) _).trans (HB2.out.mono (by simp))⟩
  · have k1 : (i != 0) = true := by simp [h1]
    have HB : Hid (false = b) := Lib.hid (by rw [← hb, decide_eq_false h1]; simp)
    clear hb h1
    go_enter Try.func85, Try.ntmps85
    go_wp2_with fail
    go_ret
    exact ⟨by rw [← HB.out]; rfl, (Below.refl _ _).alloc (Nat.le_refl _) _⟩
set_option maxHeartbeats 4000000 in
theorem dform5 (i : Int) (t : ByteArray) (a : Option Addr) (l : List Dt) (c : Nat) (w : World) : Calls Try.prog 85 #[.agg #[.int .i64 5, .int .i64 i, .string t, .slice a l.length c]] w (FormPost (Dt.formB 5 i t l) w) := by
  have HR : Hid (Dt.formB 5 i t l = (decide (i = 0) && decide (t = ⟨#[]⟩))) := by
    unfold Hid
    simp [Dt.formB]
  have HI : Hid (∀ w1, Calls Try.prog 84 #[.agg #[.int .i64 5, .int .i64 i, .string t, .slice a l.length c]] w1 fun e w' => e = .returned (.bool true) ∧ Below w1.heap.size w1 w') := fun w1 => ditems_any 5 i t a l.length c w1
  unfold FormPost
  rw [HR.out]
  generalize hb : (decide (i = 0) && decide (t = ⟨#[]⟩)) = b
  by_cases h1 : i = 0
  · subst h1
    by_cases ht : t = ⟨#[]⟩
    · subst ht
      have HB : Hid (true = b) := by rw [← hb]; exact Lib.hid rfl
      clear hb
      by_cases hl : l = []
      · subst hl
        go_enter Try.func85, Try.ntmps85
        go_wp2_with fail
        go_ret
        exact ⟨by rw [← HB.out]; rfl, (Below.refl _ _).alloc (Nat.le_refl _) _⟩
      · obtain ⟨k1, k2, k3⟩ := list_facts hl
        have hc0 : ∀ w2 : World, Below (w.alloc (.cells #[.int .i64 5, .int .i64 0, .string ⟨#[]⟩, .slice a l.length c] 48)).heap.size (w.alloc (.cells #[.int .i64 5, .int .i64 0, .string ⟨#[]⟩, .slice a l.length c] 48)) w2 → w2.cell? ⟨w.heap.size, 0, none⟩ = some (.int .i64 5) := fun w2 hb => (hb.cell (p := ⟨w.heap.size, 0, none⟩) (by simp)).trans (new4 w _ _ _ _ _).1
        have HC0 := Lib.hid hc0
        clear k3 hl hc0
        go_enter Try.func85, Try.ntmps85
        go_wp2_with fail
        with_reducible refine (HI.out _).mono ?_
        rintro e w2 ⟨rfl, hb2⟩
        have c0 := HC0.out w2 hb2
        have HB2 := Lib.hid hb2
        clear hb2
        go_wp2_with fail
        go_ret
        exact ⟨by rw [← HB.out]; rfl, ((Below.refl _ _).alloc (Nat.le_refl _) _).trans (HB2.out.mono (by simp))⟩
    · obtain ⟨k1, k2, k3⟩ := text_facts ht
      have HB : Hid (false = b) := by rw [← hb, k3]; rfl
      clear hb k3 ht
      go_enter Try.func85, Try.ntmps85
      go_wp2_with fail
      go_ret
      exact ⟨by rw [← HB.out]; rfl, (Below.refl _ _).alloc (Nat.le_refl _) _⟩
  · have k1 : (i != 0) = true := by simp [h1]
    have HB : Hid (false = b) := Lib.hid (by rw [← hb, decide_eq_false h1]; simp)
    clear hb h1
    go_enter Try.func85, Try.ntmps85
    go_wp2_with fail
    go_ret
    exact ⟨by rw [← HB.out]; rfl, (Below.refl _ _).alloc (Nat.le_refl _) _⟩
set_option maxHeartbeats 4000000 in
theorem dform7 (i : Int) (t : ByteArray) (a : Option Addr) (l : List Dt) (c : Nat) (w : World) : Calls Try.prog 85 #[.agg #[.int .i64 7, .int .i64 i, .string t, .slice a l.length c]] w (FormPost (Dt.formB 7 i t l) w) := by
  have HR : Hid (Dt.formB 7 i t l = (decide (i = 0) && decide (t = ⟨#[]⟩))) := by
    unfold Hid
    simp [Dt.formB]
  have HI : Hid (∀ w1, Calls Try.prog 84 #[.agg #[.int .i64 7, .int .i64 i, .string t, .slice a l.length c]] w1 fun e w' => e = .returned (.bool true) ∧ Below w1.heap.size w1 w') := fun w1 => ditems_any 7 i t a l.length c w1
  unfold FormPost
  rw [HR.out]
  generalize hb : (decide (i = 0) && decide (t = ⟨#[]⟩)) = b
  by_cases h1 : i = 0
  · subst h1
    by_cases ht : t = ⟨#[]⟩
    · subst ht
      have HB : Hid (true = b) := by rw [← hb]; exact Lib.hid rfl
      clear hb
      by_cases hl : l = []
      · subst hl
        go_enter Try.func85, Try.ntmps85
        go_wp2_with fail
        go_ret
        exact ⟨by rw [← HB.out]; rfl, (Below.refl _ _).alloc (Nat.le_refl _) _⟩
      · obtain ⟨k1, k2, k3⟩ := list_facts hl
        have hc0 : ∀ w2 : World, Below (w.alloc (.cells #[.int .i64 7, .int .i64 0, .string ⟨#[]⟩, .slice a l.length c] 48)).heap.size (w.alloc (.cells #[.int .i64 7, .int .i64 0, .string ⟨#[]⟩, .slice a l.length c] 48)) w2 → w2.cell? ⟨w.heap.size, 0, none⟩ = some (.int .i64 7) := fun w2 hb => (hb.cell (p := ⟨w.heap.size, 0, none⟩) (by simp)).trans (new4 w _ _ _ _ _).1
        have HC0 := Lib.hid hc0
        clear k3 hl hc0
        go_enter Try.func85, Try.ntmps85
        go_wp2_with fail
        with_reducible refine (HI.out _).mono ?_
        rintro e w2 ⟨rfl, hb2⟩
        have c0 := HC0.out w2 hb2
        have HB2 := Lib.hid hb2
        clear hb2
        go_wp2_with fail
        go_ret
        exact ⟨by rw [← HB.out]; rfl, ((Below.refl _ _).alloc (Nat.le_refl _) _).trans (HB2.out.mono (by simp))⟩
    · obtain ⟨k1, k2, k3⟩ := text_facts ht
      have HB : Hid (false = b) := by rw [← hb, k3]; rfl
      clear hb k3 ht
      go_enter Try.func85, Try.ntmps85
      go_wp2_with fail
      go_ret
      exact ⟨by rw [← HB.out]; rfl, (Below.refl _ _).alloc (Nat.le_refl _) _⟩
  · have k1 : (i != 0) = true := by simp [h1]
    have HB : Hid (false = b) := Lib.hid (by rw [← hb, decide_eq_false h1]; simp)
    clear hb h1
    go_enter Try.func85, Try.ntmps85
    go_wp2_with fail
    go_ret
    exact ⟨by rw [← HB.out]; rfl, (Below.refl _ _).alloc (Nat.le_refl _) _⟩
set_option maxHeartbeats 4000000 in
theorem dformx (k : Int) (hk : k < 0 ∨ 7 < k) (i : Int) (t : ByteArray) (a : Option Addr) (l : List Dt) (c : Nat) (w : World) : Calls Try.prog 85 #[.agg #[.int .i64 k, .int .i64 i, .string t, .slice a l.length c]] w (FormPost (Dt.formB k i t l) w) := by
  have HR : Hid (Dt.formB k i t l = false) := by
    unfold Hid
    have : ¬ k = 0 ∧ ¬ k = 1 ∧ ¬ k = 2 ∧ ¬ k = 3 ∧ ¬ k = 4 ∧ ¬ k = 5 ∧ ¬ k = 7 ∧ ¬ k = 6 := by omega
    simp [Dt.formB, this]
  have HI : Hid (∀ w1, Calls Try.prog 84 #[.agg #[.int .i64 k, .int .i64 i, .string t, .slice a l.length c]] w1 fun e w' => e = .returned (.bool false) ∧ Below w1.heap.size w1 w') := fun w1 => by
    have := ditems_any k i t a l.length c w1
    rw [show (decide (5 ≤ k) && decide (k ≤ 7)) = false by rw [Bool.and_eq_false_iff]; simp; omega] at this
    exact this
  unfold FormPost
  rw [HR.out]
  have j0 : (k == 0) = false := beq_eq_false_iff_ne.2 (by omega)
  have j1 : (k == 1) = false := beq_eq_false_iff_ne.2 (by omega)
  have j2 : (k == 2) = false := beq_eq_false_iff_ne.2 (by omega)
  have j3 : (k == 3) = false := beq_eq_false_iff_ne.2 (by omega)
  have j4 : (k == 4) = false := beq_eq_false_iff_ne.2 (by omega)
  have j6 : (k == 6) = false := beq_eq_false_iff_ne.2 (by omega)
  have hor : decide (0 ≤ k) = false ∨ (decide (0 ≤ k) = true ∧ decide (k < 8) = false) := by
    simp only [decide_eq_true_eq, decide_eq_false_iff_not]
    omega
  clear hk
  by_cases h1 : i = 0
  · subst h1
    by_cases ht : t = ⟨#[]⟩
    · subst ht
      by_cases hl : l = []
      · subst hl
        rcases hor with v1 | ⟨v1, v2⟩
        all_goals
          go_enter Try.func85, Try.ntmps85
          go_wp2_with fail
          go_ret
          exact ⟨rfl, (Below.refl _ _).alloc (Nat.le_refl _) _⟩
      · obtain ⟨k1, k2, k3⟩ := list_facts hl
        clear k3 hl hor
        go_enter Try.func85, Try.ntmps85
        go_wp2_with fail
        with_reducible refine (HI.out _).mono ?_
        rintro e w2 ⟨rfl, hb2⟩
        have HB2 := Lib.hid hb2
        clear hb2
        go_wp2_with fail
        go_ret
        exact ⟨rfl, ((Below.refl _ _).alloc (Nat.le_refl _) _).trans (HB2.out.mono (by simp))⟩
    · obtain ⟨k1, k2, k3⟩ := text_facts ht
      clear k3 ht hor
      go_enter Try.func85, Try.ntmps85
      go_wp2_with fail
      go_ret
      exact ⟨rfl, (Below.refl _ _).alloc (Nat.le_refl _) _⟩
  · have k1 : (i != 0) = true := by simp [h1]
    clear h1 hor
    go_enter Try.func85, Try.ntmps85
    go_wp2_with fail
    go_ret
    exact ⟨rfl, (Below.refl _ _).alloc (Nat.le_refl _) _⟩
end Go.Proofs.Ythbnhneibpoooaa
/- data.form of a string, of a dotted list. -/
namespace Go.Proofs.Ythbnhneibpoooaa
open Go.RowKit
set_option linter.unusedVariables false
set_option linter.unusedSimpArgs false
set_option linter.unnecessarySimpa false
theorem wrap64_small {m : Nat} (h : m ≤ 9223372036854775807) : wrap64 (m : Int) = m := by
  unfold wrap64
  omega
theorem cut_ne {t : ByteArray} (h : ¬ t.size ≤ 4096) : ¬ t.toList = (t.extract 0 4096).toList := by
  intro e
  have := congrArg List.length e
  rw [ByteArray.toList_eq, ByteArray.toList_eq] at this
  simp at this
  omega
set_option maxHeartbeats 4000000 in
theorem dform3 (i : Int) (t : ByteArray) (ht : t.size ≤ maxLen) (a : Option Addr) (l : List Dt) (c : Nat) (w : World) : Calls Try.prog 85 #[.agg #[.int .i64 3, .int .i64 i, .string t, .slice a l.length c]] w (FormPost (Dt.formB 3 i t l) w) := by
  have HR : Hid (Dt.formB 3 i t l = (decide (i = 0) && decide (l = []) && decide (t.size ≤ 4096))) := by
    unfold Hid
    simp [Dt.formB]
  have HI : Hid (∀ w1, Calls Try.prog 84 #[.agg #[.int .i64 3, .int .i64 i, .string t, .slice a l.length c]] w1 fun e w' => e = .returned (.bool false) ∧ Below w1.heap.size w1 w') := fun w1 => ditems_any 3 i t a l.length c w1
  unfold FormPost
  rw [HR.out]
  generalize hb : (decide (i = 0) && decide (l = []) && decide (t.size ≤ 4096)) = b
  unfold maxLen at ht
  by_cases h1 : i = 0
  · subst h1
    by_cases h2 : t.size ≤ 4096
    · have m1 : min (t.size : Int) 4096 = t.size := by omega
      by_cases hl : l = []
      · subst hl
        have HB : Hid (true = b) := by rw [← hb, decide_eq_true h2]; exact Lib.hid rfl
        clear hb h2
        go_enter Try.func85, Try.ntmps85
        go_wp2_with fail
        go_ret
        exact ⟨by rw [← HB.out]; rfl, (Below.refl _ _).alloc (Nat.le_refl _) _⟩
      · obtain ⟨k1, k2, k3⟩ := list_facts hl
        have HB : Hid (false = b) := by rw [← hb, k3]; rfl
        clear hb k3 hl h2
        go_enter Try.func85, Try.ntmps85
        go_wp2_with fail
        with_reducible refine (HI.out _).mono ?_
        rintro e w2 ⟨rfl, hb2⟩
        have HB2 := Lib.hid hb2
        clear hb2
        go_wp2_with fail
        go_ret
        exact ⟨by rw [← HB.out]; rfl, ((Below.refl _ _).alloc (Nat.le_refl _) _).trans (HB2.out.mono (by simp))⟩
    · have m1 : min (t.size : Int) 4096 = 4096 := by omega
      have HB : Hid (false = b) := Lib.hid (by rw [← hb, decide_eq_false h2]; simp)
      have HH := Lib.hid h2
      have h3 : (4096 : Int) ≤ t.size := by omega
      have n1 : ¬ t.toList = (t.extract 0 4096).toList := cut_ne h2
      have n2 : (t.toList == (t.extract 0 4096).toList) = false := beq_eq_false_iff_ne.2 n1
      clear hb h2
      go_enter Try.func85, Try.ntmps85
      go_wp2_with fail
      go_ret
      exact ⟨by rw [← HB.out]; rfl, (Below.refl _ _).alloc (Nat.le_refl _) _⟩
  · have k1 : (i != 0) = true := by simp [h1]
    have HB : Hid (false = b) := Lib.hid (by rw [← hb, decide_eq_false h1]; simp)
    clear hb h1
    by_cases h2 : t.size ≤ 4096
    · have m1 : min (t.size : Int) 4096 = t.size := by omega
      go_enter Try.func85, Try.ntmps85
      go_wp2_with fail
      go_ret
      exact ⟨by rw [← HB.out]; rfl, (Below.refl _ _).alloc (Nat.le_refl _) _⟩
    · have m1 : min (t.size : Int) 4096 = 4096 := by omega
      have h3 : (4096 : Int) ≤ t.size := by omega
      go_enter Try.func85, Try.ntmps85
      go_wp2_with fail
      go_ret
      exact ⟨by rw [← HB.out]; rfl, (Below.refl _ _).alloc (Nat.le_refl _) _⟩
/-- The last datum of a row in memory. -/
theorem DtAt.last {w : World} {S : Nat → Prop} {k i : Int} {t : ByteArray} {a : Option Addr} {c m : Nat} {l : List Dt} (h : DtAt w S (.agg #[.int .i64 k, .int .i64 i, .string t, .slice a l.length c]) (.mk k i t l)) (hl : l.length = m + 1) :
    ∃ b off, a = some ⟨b, off, none⟩ ∧ b < w.heap.size ∧ w.cell? ⟨b, off + m * 4, none⟩ = some (.int .i64 (Dt.lastKind l)) := by
  obtain ⟨a', c', hv, h0 | ⟨b, off, ha, hb, _, hat⟩⟩ := h.inv
  · simp only [Dt.list_mk] at h0
    rw [h0.2.2] at hl
    simp at hl
  · simp only [Dt.list_mk, Dt.kind_mk, Dt.int_mk, Dt.text_mk] at hv hat
    obtain rfl : a = a' := by simpa using (by simpa using hv : a = a' ∧ c = c').1
    obtain ⟨x, hx⟩ : ∃ x, l[m]? = some x := ⟨_, List.getElem?_eq_getElem (by omega)⟩
    obtain ⟨_, h1, _⟩ := hat m x hx
    refine ⟨b, off, ha, hb, ?_⟩
    rw [h1]
    have : l.getLast? = some x := by
      rw [List.getLast?_eq_getElem?, hl]
      exact hx
    simp [Dt.lastKind, this]
set_option maxHeartbeats 4000000 in
theorem dform6 (i : Int) (t : ByteArray) (a : Option Addr) (l : List Dt) (hlm : l.length ≤ 9223372036854775807) (c : Nat) (w : World) (hd : DtAt w (fun _ => True) (.agg #[.int .i64 6, .int .i64 i, .string t, .slice a l.length c]) (.mk 6 i t l)) : Calls Try.prog 85 #[.agg #[.int .i64 6, .int .i64 i, .string t, .slice a l.length c]] w (FormPost (Dt.formB 6 i t l) w) := by
  have HR : Hid (Dt.formB 6 i t l = (decide (i = 0) && decide (t = ⟨#[]⟩) && (decide (2 ≤ l.length) && decide (Dt.lastKind l ≠ 5) && decide (Dt.lastKind l ≠ 6)))) := by
    unfold Hid
    simp [Dt.formB]
  have HI : Hid (∀ w1, Calls Try.prog 84 #[.agg #[.int .i64 6, .int .i64 i, .string t, .slice a l.length c]] w1 fun e w' => e = .returned (.bool true) ∧ Below w1.heap.size w1 w') := fun w1 => ditems_any 6 i t a l.length c w1
  have HD := Lib.hid hd
  have HLM := Lib.hid hlm
  clear hlm
  unfold FormPost
  rw [HR.out]
  generalize hb : (decide (i = 0) && decide (t = ⟨#[]⟩) && (decide (2 ≤ l.length) && decide (Dt.lastKind l ≠ 5) && decide (Dt.lastKind l ≠ 6))) = b
  clear hd
  by_cases h1 : i = 0
  · subst h1
    by_cases ht : t = ⟨#[]⟩
    · subst ht
      have hb' : (decide (2 ≤ l.length) && decide (Dt.lastKind l ≠ 5) && decide (Dt.lastKind l ≠ 6)) = b := by rw [← hb]; simp
      clear hb HR
      by_cases hl : l = []
      · subst hl
        have HB : Hid (false = b) := by rw [← hb']; exact Lib.hid rfl
        clear hb'
        go_enter Try.func85, Try.ntmps85
        go_wp2_with fail
        go_ret
        exact ⟨by rw [← HB.out]; rfl, (Below.refl _ _).alloc (Nat.le_refl _) _⟩
      · obtain ⟨k1, k2, k3⟩ := list_facts hl
        obtain ⟨m, hm⟩ : ∃ m, l.length = m + 1 := ⟨l.length - 1, by omega⟩
        obtain ⟨b0, o0, rfl, hb0, hlast⟩ := HD.out.last hm
        have hbw := (Below.refl w.heap.size w).alloc (Nat.le_refl _) (.cells #[.int .i64 6, .int .i64 0, .string ⟨#[]⟩, .slice (some ⟨b0, o0, none⟩) (m + 1) c] 48)
        rw [hm] at hb' HI ⊢
        generalize Dt.lastKind l = lk at *
        have hc : ∀ w2 : World, Below (w.alloc (.cells #[.int .i64 6, .int .i64 0, .string ⟨#[]⟩, .slice (some ⟨b0, o0, none⟩) (m + 1) c] 48)).heap.size (w.alloc (.cells #[.int .i64 6, .int .i64 0, .string ⟨#[]⟩, .slice (some ⟨b0, o0, none⟩) (m + 1) c] 48)) w2 → w2.cell? ⟨w.heap.size, 0, none⟩ = some (.int .i64 6) ∧ w2.cell? ⟨w.heap.size, 3, none⟩ = some (.slice (some ⟨b0, o0, none⟩) (m + 1) c) ∧ w2.cell? ⟨b0, o0 + m * 4, none⟩ = some (.int .i64 lk) := fun w2 hb =>
          ⟨(hb.cell (p := ⟨w.heap.size, 0, none⟩) (by simp)).trans (new4 w _ _ _ _ _).1, (hb.cell (p := ⟨w.heap.size, 3, none⟩) (by simp)).trans (new4 w _ _ _ _ _).2.2.2, (hb.cell (p := ⟨b0, o0 + m * 4, none⟩) (by simp; omega)).trans ((hbw.cell (p := ⟨b0, o0 + m * 4, none⟩) hb0).trans hlast)⟩
        have HC := Lib.hid hc
        have g1 : (0 : Int) ≤ m := by omega
        have g2 : (m : Int) < m + 1 := by omega
        by_cases h2 : m = 0
        · subst h2
          have HB : Hid (false = b) := by rw [← hb']; exact Lib.hid rfl
          clear hc hbw hlast hb' k1 k2 k3 hl hm
          go_enter Try.func85, Try.ntmps85
          go_wp2_with fail
          with_reducible refine (HI.out _).mono ?_
          rintro e w2 ⟨rfl, hb2⟩
          obtain ⟨c0, c3, c4⟩ := HC.out w2 hb2
          have HB2 := Lib.hid hb2
          clear hb2 c4
          go_wp2_with fail
          go_ret
          exact ⟨by rw [← HB.out]; rfl, ((Below.refl _ _).alloc (Nat.le_refl _) _).trans (HB2.out.mono (by simp))⟩
        · have h3 : decide (1 < ((m : Int) + 1)) = true := decide_eq_true (by omega)
          have h3' : decide (1 < m + 1) = true := decide_eq_true (by omega)
          have h3'' : 0 < m := by omega
          have gw : wrap64 (m : Int) = m := wrap64_small (by have := HLM.out; omega)
          cases e5 : (lk != 5) <;> cases e6 : (lk != 6)
          all_goals
            have HB : Hid (((lk != 5) && (lk != 6)) = b) := by
              rw [← hb']
              have : decide (2 ≤ m + 1) = true := decide_eq_true (by omega)
              rw [this]
              show _ = _
              by_cases q5 : lk = 5 <;> by_cases q6 : lk = 6 <;> simp [q5, q6]
            rw [e5, e6] at HB
            clear hc hbw hlast hb' k1 k2 k3 hl hm h2
            go_enter Try.func85, Try.ntmps85
            go_wp2_with fail
            with_reducible refine (HI.out _).mono ?_
            rintro e w2 ⟨rfl, hb2⟩
            obtain ⟨c0, c3, c4⟩ := HC.out w2 hb2
            have HB2 := Lib.hid hb2
            clear hb2
            go_wp2_with fail
            go_ret
            exact ⟨by rw [← HB.out]; rfl, ((Below.refl _ _).alloc (Nat.le_refl _) _).trans (HB2.out.mono (by simp))⟩
    · obtain ⟨k1, k2, k3⟩ := text_facts ht
      have HB : Hid (false = b) := by rw [← hb, k3]; rfl
      clear hb k3 ht
      go_enter Try.func85, Try.ntmps85
      go_wp2_with fail
      go_ret
      exact ⟨by rw [← HB.out]; rfl, (Below.refl _ _).alloc (Nat.le_refl _) _⟩
  · have k1 : (i != 0) = true := by simp [h1]
    have HB : Hid (false = b) := Lib.hid (by rw [← hb, decide_eq_false h1]; simp)
    clear hb h1
    go_enter Try.func85, Try.ntmps85
    go_wp2_with fail
    go_ret
    exact ⟨by rw [← HB.out]; rfl, (Below.refl _ _).alloc (Nat.le_refl _) _⟩
/-- data.form of any datum. -/
theorem dform_any (k i : Int) (t : ByteArray) (ht : t.size ≤ maxLen) (a : Option Addr) (l : List Dt) (hlm : l.length ≤ 9223372036854775807) (c : Nat) (w : World) (hd : DtAt w (fun _ => True) (.agg #[.int .i64 k, .int .i64 i, .string t, .slice a l.length c]) (.mk k i t l)) : Calls Try.prog 85 #[.agg #[.int .i64 k, .int .i64 i, .string t, .slice a l.length c]] w (FormPost (Dt.formB k i t l) w) := by
  rcases (by omega : k = 0 ∨ k = 1 ∨ k = 2 ∨ k = 3 ∨ k = 4 ∨ k = 5 ∨ k = 6 ∨ k = 7 ∨ (k < 0 ∨ 7 < k)) with rfl | rfl | rfl | rfl | rfl | rfl | rfl | rfl | hk
  · exact dform0 i t a l c w
  · exact dform1 i t a l c w
  · exact dform2 i t a l c w
  · exact dform3 i t ht a l c w
  · exact dform4 i t ht a l c w
  · exact dform5 i t a l c w
  · exact dform6 i t a l hlm c w hd
  · exact dform7 i t a l c w
  · exact dformx k hk i t a l c w
end Go.Proofs.Ythbnhneibpoooaa
