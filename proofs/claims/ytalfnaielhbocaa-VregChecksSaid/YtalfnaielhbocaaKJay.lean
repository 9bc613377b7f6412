/- data.form of a string, of a dotted list. -/
import Derived.Test.YtalfnaielhbocaaKJax
set_option linter.unusedVariables false
set_option linter.unusedSimpArgs false
set_option linter.unnecessarySimpa false
namespace Go.Proofs.Ytalfnaielhbocaa
open Go.RowKit
set_option maxRecDepth 100000
set_option linter.unusedVariables false
set_option linter.unusedSimpArgs false
set_option linter.unnecessarySimpa false
theorem wrap64_small {m : Nat} (h : m ≤ 9223372036854775807) : wrap64 (m : Int) = m := by
  unfold wrap64
  omega
theorem cut_ne {t : ByteArray} (h : ¬ t.size ≤ 4096) : ¬ t.toList = (t.extract 0 4096).toList := by
  intro e
  have := congrArg List.length e
  rw [ByteArray.toList_eq, ByteArray.toList_eq] at this
  simp at this
  omega
set_option maxHeartbeats 4000000 in
theorem dform3 (i : Int) (t : ByteArray) (ht : t.size ≤ maxLen) (a : Option Addr) (l : List Dt) (c : Nat) (w : World) : Calls Try.prog 90 #[.agg #[.int .i64 3, .int .i64 i, .string t, .slice a l.length c]] w (FormPost (Dt.formB 3 i t l) w) := by
  have HR : Hid (Dt.formB 3 i t l = (decide (i = 0) && decide (l = []) && decide (t.size ≤ 4096))) := by
    unfold Hid
    simp [Dt.formB]
  have HI : Hid (∀ w1, Calls Try.prog 89 #[.agg #[.int .i64 3, .int .i64 i, .string t, .slice a l.length c]] w1 fun e w' => e = .returned (.bool false) ∧ Below w1.heap.size w1 w') := fun w1 => ditems_any 3 i t a l.length c w1
  unfold FormPost
  rw [HR.out]
  generalize hb : (decide (i = 0) && decide (l = []) && decide (t.size ≤ 4096)) = b
  unfold maxLen at ht
  by_cases h1 : i = 0
  · subst h1
    by_cases h2 : t.size ≤ 4096
    · have m1 : min (t.size : Int) 4096 = t.size := by omega
      by_cases hl : l = []
      · subst hl
        have HB : Hid (true = b) := by rw [← hb, decide_eq_true h2]; exact Lib.hid rfl
        clear hb h2
        go_enter Try.func90, Try.ntmps90
        go_wp2_with fail
        go_ret
        exact ⟨by rw [← HB.out]; rfl, (Below.refl _ _).alloc (Nat.le_refl _) _⟩
      · obtain ⟨k1, k2, k3⟩ := list_facts hl
        have HB : Hid (false = b) := by rw [← hb, k3]; rfl
        clear hb k3 hl h2
        go_enter Try.func90, Try.ntmps90
        go_wp2_with fail
        with_reducible refine (HI.out _).mono ?_
        rintro e w2 ⟨rfl, hb2⟩
        have HB2 := Lib.hid hb2
        clear hb2
        go_wp2_with fail
        go_ret
        exact ⟨by rw [← HB.out]; rfl, ((Below.refl _ _).alloc (Nat.le_refl _) _).trans (HB2.out.mono (by simp))⟩
    · have m1 : min (t.size : Int) 4096 = 4096 := by omega
      have HB : Hid (false = b) := Lib.hid (by rw [← hb, decide_eq_false h2]; simp)
      have HH := Lib.hid h2
      have h3 : (4096 : Int) ≤ t.size := by omega
      have n1 : ¬ t.toList = (t.extract 0 4096).toList := cut_ne h2
      have n2 : (t.toList == (t.extract 0 4096).toList) = false := beq_eq_false_iff_ne.2 n1
      clear hb h2
      go_enter Try.func90, Try.ntmps90
      go_wp2_with fail
      go_ret
      exact ⟨by rw [← HB.out]; rfl, (Below.refl _ _).alloc (Nat.le_refl _) _⟩
  · have k1 : (i != 0) = true := by simp [h1]
    have HB : Hid (false = b) := Lib.hid (by rw [← hb, decide_eq_false h1]; simp)
    clear hb h1
    by_cases h2 : t.size ≤ 4096
    · have m1 : min (t.size : Int) 4096 = t.size := by omega
      go_enter Try.func90, Try.ntmps90
      go_wp2_with fail
      go_ret
      exact ⟨by rw [← HB.out]; rfl, (Below.refl _ _).alloc (Nat.le_refl _) _⟩
    · have m1 : min (t.size : Int) 4096 = 4096 := by omega
      have h3 : (4096 : Int) ≤ t.size := by omega
      go_enter Try.func90, Try.ntmps90
      go_wp2_with fail
      go_ret
      exact ⟨by rw [← HB.out]; rfl, (Below.refl _ _).alloc (Nat.le_refl _) _⟩
theorem DtAt.last {w : World} {S : Nat → Prop} {k i : Int} {t : ByteArray} {a : Option Addr} {c m : Nat} {l : List Dt} (h : DtAt w S (.agg #[.int .i64 k, .int .i64 i, .string t, .slice a l.length c]) (.mk k i t l)) (hl : l.length = m + 1) :
    ∃ b off, a = some ⟨b, off, none⟩ ∧ b < w.heap.size ∧ w.cell? ⟨b, off + m * 4, none⟩ = some (.int .i64 (Dt.lastKind l)) := by
  obtain ⟨a', c', hv, h0 | ⟨b, off, ha, hb, _, hat⟩⟩ := h.inv
  · simp only [Dt.list_mk] at h0
    rw [h0.2.2] at hl
    simp at hl
  · simp only [Dt.list_mk, Dt.kind_mk, Dt.int_mk, Dt.text_mk] at hv hat
    obtain rfl : a = a' := by simpa using (by simpa using hv : a = a' ∧ c = c').1
    obtain ⟨x, hx⟩ : ∃ x, l[m]? = some x := ⟨_, List.getElem?_eq_getElem (by omega)⟩
    obtain ⟨_, h1, _⟩ := hat m x hx
    refine ⟨b, off, ha, hb, ?_⟩
    rw [h1]
    have : l.getLast? = some x := by
      rw [List.getLast?_eq_getElem?, hl]
      exact hx
    simp [Dt.lastKind, this]
set_option maxHeartbeats 4000000 in
theorem dform6 (i : Int) (t : ByteArray) (a : Option Addr) (l : List Dt) (hlm : l.length ≤ 9223372036854775807) (c : Nat) (w : World) (hd : DtAt w (fun _ => True) (.agg #[.int .i64 6, .int .i64 i, .string t, .slice a l.length c]) (.mk 6 i t l)) : Calls Try.prog 90 #[.agg #[.int .i64 6, .int .i64 i, .string t, .slice a l.length c]] w (FormPost (Dt.formB 6 i t l) w) := by
  have HR : Hid (Dt.formB 6 i t l = (decide (i = 0) && decide (t = ⟨#[]⟩) && (decide (2 ≤ l.length) && decide (Dt.lastKind l ≠ 5) && decide (Dt.lastKind l ≠ 6)))) := by
    unfold Hid
    simp [Dt.formB]
  have HI : Hid (∀ w1, Calls Try.prog 89 #[.agg #[.int .i64 6, .int .i64 i, .string t, .slice a l.length c]] w1 fun e w' => e = .returned (.bool true) ∧ Below w1.heap.size w1 w') := fun w1 => ditems_any 6 i t a l.length c w1
  have HD := Lib.hid hd
  have HLM := Lib.hid hlm
  clear hlm
  unfold FormPost
  rw [HR.out]
  generalize hb : (decide (i = 0) && decide (t = ⟨#[]⟩) && (decide (2 ≤ l.length) && decide (Dt.lastKind l ≠ 5) && decide (Dt.lastKind l ≠ 6))) = b
  clear hd
  by_cases h1 : i = 0
  · subst h1
    by_cases ht : t = ⟨#[]⟩
    · subst ht
      have hb' : (decide (2 ≤ l.length) && decide (Dt.lastKind l ≠ 5) && decide (Dt.lastKind l ≠ 6)) = b := by rw [← hb]; simp
      clear hb HR
      by_cases hl : l = []
      · subst hl
        have HB : Hid (false = b) := by rw [← hb']; exact Lib.hid rfl
        clear hb'
        go_enter Try.func90, Try.ntmps90
        go_wp2_with fail
        go_ret
        exact ⟨by rw [← HB.out]; rfl, (Below.refl _ _).alloc (Nat.le_refl _) _⟩
      · obtain ⟨k1, k2, k3⟩ := list_facts hl
        obtain ⟨m, hm⟩ : ∃ m, l.length = m + 1 := ⟨l.length - 1, by omega⟩
        obtain ⟨b0, o0, rfl, hb0, hlast⟩ := HD.out.last hm
        have hbw := (Below.refl w.heap.size w).alloc (Nat.le_refl _) (.cells #[.int .i64 6, .int .i64 0, .string ⟨#[]⟩, .slice (some ⟨b0, o0, none⟩) (m + 1) c] 31)
        rw [hm] at hb' HI ⊢
        generalize Dt.lastKind l = lk at *
        have hc : ∀ w2 : World, Below (w.alloc (.cells #[.int .i64 6, .int .i64 0, .string ⟨#[]⟩, .slice (some ⟨b0, o0, none⟩) (m + 1) c] 31)).heap.size (w.alloc (.cells #[.int .i64 6, .int .i64 0, .string ⟨#[]⟩, .slice (some ⟨b0, o0, none⟩) (m + 1) c] 31)) w2 → w2.cell? ⟨w.heap.size, 0, none⟩ = some (.int .i64 6) ∧ w2.cell? ⟨w.heap.size, 3, none⟩ = some (.slice (some ⟨b0, o0, none⟩) (m + 1) c) ∧ w2.cell? ⟨b0, o0 + m * 4, none⟩ = some (.int .i64 lk) := fun w2 hb =>
          ⟨(hb.cell (p := ⟨w.heap.size, 0, none⟩) (by simp)).trans (new4 w _ _ _ _ _).1, (hb.cell (p := ⟨w.heap.size, 3, none⟩) (by simp)).trans (new4 w _ _ _ _ _).2.2.2, (hb.cell (p := ⟨b0, o0 + m * 4, none⟩) (by simp; omega)).trans ((hbw.cell (p := ⟨b0, o0 + m * 4, none⟩) hb0).trans hlast)⟩
        have HC := Lib.hid hc
        have g1 : (0 : Int) ≤ m := by omega
        have g2 : (m : Int) < m + 1 := by omega
        by_cases h2 : m = 0
        · subst h2
          have HB : Hid (false = b) := by rw [← hb']; exact Lib.hid rfl
          clear hc hbw hlast hb' k1 k2 k3 hl hm
          go_enter Try.func90, Try.ntmps90
          go_wp2_with fail
          with_reducible refine (HI.out _).mono ?_
          rintro e w2 ⟨rfl, hb2⟩
          obtain ⟨c0, c3, c4⟩ := HC.out w2 hb2
          have HB2 := Lib.hid hb2
          clear hb2 c4
          go_wp2_with fail
          go_ret
          exact ⟨by rw [← HB.out]; rfl, ((Below.refl _ _).alloc (Nat.le_refl _) _).trans (HB2.out.mono (by simp))⟩
        · have h3 : decide (1 < ((m : Int) + 1)) = true := decide_eq_true (by omega)
          have h3' : decide (1 < m + 1) = true := decide_eq_true (by omega)
          have h3'' : 0 < m := by omega
          have gw : wrap64 (m : Int) = m := wrap64_small (by have := HLM.out; omega)
          cases e5 : (lk != 5) <;> cases e6 : (lk != 6)
          all_goals
            have HB : Hid (((lk != 5) && (lk != 6)) = b) := by
              rw [← hb']
              have : decide (2 ≤ m + 1) = true := decide_eq_true (by omega)
              rw [this]
              show _ = _
              by_cases q5 : lk = 5 <;> by_cases q6 : lk = 6 <;> simp [q5, q6]
            rw [e5, e6] at HB
            clear hc hbw hlast hb' k1 k2 k3 hl hm h2
            go_enter Try.func90, Try.ntmps90
            go_wp2_with fail
            with_reducible refine (HI.out _).mono ?_
            rintro e w2 ⟨rfl, hb2⟩
            obtain ⟨c0, c3, c4⟩ := HC.out w2 hb2
            have HB2 := Lib.hid hb2
            clear hb2
            go_wp2_with fail
            go_ret
            exact ⟨by rw [← HB.out]; rfl, ((Below.refl _ _).alloc (Nat.le_refl _) _).trans (HB2.out.mono (by simp))⟩
    · obtain ⟨k1, k2, k3⟩ := text_facts ht
      have HB : Hid (false = b) := by rw [← hb, k3]; rfl
      clear hb k3 ht
      go_enter Try.func90, Try.ntmps90
      go_wp2_with fail
      go_ret
      exact ⟨by rw [← HB.out]; rfl, (Below.refl _ _).alloc (Nat.le_refl _) _⟩
  · have k1 : (i != 0) = true := by simp [h1]
    have HB : Hid (false = b) := Lib.hid (by rw [← hb, decide_eq_false h1]; simp)
    clear hb h1
    go_enter Try.func90, Try.ntmps90
    go_wp2_with fail
    go_ret
    exact ⟨by rw [← HB.out]; rfl, (Below.refl _ _).alloc (Nat.le_refl _) _⟩
theorem dform_any (k i : Int) (t : ByteArray) (ht : t.size ≤ maxLen) (a : Option Addr) (l : List Dt) (hlm : l.length ≤ 9223372036854775807) (c : Nat) (w : World) (hd : DtAt w (fun _ => True) (.agg #[.int .i64 k, .int .i64 i, .string t, .slice a l.length c]) (.mk k i t l)) : Calls Try.prog 90 #[.agg #[.int .i64 k, .int .i64 i, .string t, .slice a l.length c]] w (FormPost (Dt.formB k i t l) w) := by
  rcases (by omega : k = 0 ∨ k = 1 ∨ k = 2 ∨ k = 3 ∨ k = 4 ∨ k = 5 ∨ k = 6 ∨ k = 7 ∨ (k < 0 ∨ 7 < k)) with rfl | rfl | rfl | rfl | rfl | rfl | rfl | rfl | hk
  · exact dform0 i t a l c w
  · exact dform1 i t a l c w
  · exact dform2 i t a l c w
  · exact dform3 i t ht a l c w
  · exact dform4 i t ht a l c w
  · exact dform5 i t a l c w
  · exact dform6 i t a l hlm c w hd
  · exact dform7 i t a l c w
  · exact dformx k hk i t a l c w
end Go.Proofs.Ytalfnaielhbocaa
namespace Go.Proofs.Ytalfnaielhbocaa
open Go.RowKit
set_option maxRecDepth 100000
set_option linter.unusedVariables false
set_option linter.unusedSimpArgs false
set_option linter.unnecessarySimpa false
theorem isN_dec (i : Int) : isN i = (decide (-1152921504606846976 ≤ i) && decide (i < 1152921504606846976)) := by
  rw [Bool.eq_iff_iff, isN_iff]
  simp
  omega
set_option maxHeartbeats 4000000 in
theorem rform0 (i : Int) (t : ByteArray) (a : Option Addr) (l : List Dt) (c : Nat) (w : World) : Calls Try.prog 76 #[.agg #[.int .i64 0, .int .i64 i, .string t, .slice a l.length c]] w (FormPost (Dt.formB 0 i t l) w) := by
  unfold FormPost
  generalize hb : Dt.formB 0 i t l = b
  have hb := Lib.hid hb
  by_cases ht : t = ⟨#[]⟩
  · subst ht
    by_cases hl : l = []
    · subst hl
      by_cases h0 : i = 0
      · subst h0
        have HB : Hid (true = b) := Lib.hid (by rw [← hb.out]; simp [Dt.formB])
        clear hb
        go_enter Try.func76, Try.ntmps76
        go_wp2_with fail
        go_ret
        exact ⟨by rw [← HB.out]; rfl, (Below.refl _ _).alloc (Nat.le_refl _) _⟩
      · have j0 : (i == 0) = false := beq_eq_false_iff_ne.2 h0
        have HB : Hid ((i == 1) = b) := Lib.hid (by rw [← hb.out]; simp [Dt.formB, h0]; rfl)
        clear hb
        clear h0
        go_enter Try.func76, Try.ntmps76
        go_wp2_with fail
        go_ret
        exact ⟨by rw [← HB.out]; rfl, (Below.refl _ _).alloc (Nat.le_refl _) _⟩
    · obtain ⟨l1, l2, l3⟩ := list_facts hl
      have l4 : (l.length == 0) = false := beq_eq_false_iff_ne.2 l2
      by_cases h0 : i = 0
      · subst h0
        have HB : Hid (false = b) := Lib.hid (by rw [← hb.out]; simp [Dt.formB, hl])
        clear hb
        clear l3 hl
        go_enter Try.func76, Try.ntmps76
        go_wp2_with fail
        go_ret
        exact ⟨by rw [← HB.out]; rfl, (Below.refl _ _).alloc (Nat.le_refl _) _⟩
      · have j0 : (i == 0) = false := beq_eq_false_iff_ne.2 h0
        have HB : Hid (false = b) := Lib.hid (by rw [← hb.out]; simp [Dt.formB, hl])
        clear hb
        clear l3 hl h0
        go_enter Try.func76, Try.ntmps76
        go_wp2_with fail
        go_ret
        exact ⟨by rw [← HB.out]; rfl, (Below.refl _ _).alloc (Nat.le_refl _) _⟩
  · obtain ⟨k1, k2, k3⟩ := text_facts ht
    by_cases h0 : i = 0
    · subst h0
      have HB : Hid (false = b) := Lib.hid (by rw [← hb.out]; simp [Dt.formB, ht])
      clear hb
      clear k3 ht
      go_enter Try.func76, Try.ntmps76
      go_wp2_with fail
      go_ret
      exact ⟨by rw [← HB.out]; rfl, (Below.refl _ _).alloc (Nat.le_refl _) _⟩
    · have j0 : (i == 0) = false := beq_eq_false_iff_ne.2 h0
      have HB : Hid (false = b) := Lib.hid (by rw [← hb.out]; simp [Dt.formB, ht])
      clear hb
      clear k3 ht h0
      go_enter Try.func76, Try.ntmps76
      go_wp2_with fail
      go_ret
      exact ⟨by rw [← HB.out]; rfl, (Below.refl _ _).alloc (Nat.le_refl _) _⟩
set_option maxHeartbeats 4000000 in
theorem rform1 (i : Int) (t : ByteArray) (a : Option Addr) (l : List Dt) (c : Nat) (w : World) : Calls Try.prog 76 #[.agg #[.int .i64 1, .int .i64 i, .string t, .slice a l.length c]] w (FormPost (Dt.formB 1 i t l) w) := by
  unfold FormPost
  generalize hb : Dt.formB 1 i t l = b
  have hb := Lib.hid hb
  by_cases ht : t = ⟨#[]⟩
  · subst ht
    by_cases hl : l = []
    · subst hl
      by_cases h0 : i = 0
      · subst h0
        have HB : Hid (true = b) := Lib.hid (by rw [← hb.out]; decide +kernel)
        clear hb
        go_enter Try.func76, Try.ntmps76
        go_wp2_with fail
        go_ret
        exact ⟨by rw [← HB.out]; rfl, (Below.refl _ _).alloc (Nat.le_refl _) _⟩
      · have j0 : (i == 0) = false := beq_eq_false_iff_ne.2 h0
        cases q1 : decide (-1152921504606846976 ≤ i) <;> cases q2 : decide (i < 1152921504606846976)
        all_goals
          have HB : Hid ((decide (-1152921504606846976 ≤ i) && decide (i < 1152921504606846976)) = b) := Lib.hid (by rw [← hb.out]; simp [Dt.formB, isN_dec])
          rw [q1, q2] at HB
          clear hb h0
          go_enter Try.func76, Try.ntmps76
          go_wp2_with fail
          go_ret
          exact ⟨by rw [← HB.out]; rfl, (Below.refl _ _).alloc (Nat.le_refl _) _⟩
    · obtain ⟨l1, l2, l3⟩ := list_facts hl
      have l4 : (l.length == 0) = false := beq_eq_false_iff_ne.2 l2
      by_cases h0 : i = 0
      · subst h0
        have HB : Hid (false = b) := Lib.hid (by rw [← hb.out]; simp [Dt.formB, hl])
        clear hb
        clear l3 hl
        go_enter Try.func76, Try.ntmps76
        go_wp2_with fail
        go_ret
        exact ⟨by rw [← HB.out]; rfl, (Below.refl _ _).alloc (Nat.le_refl _) _⟩
      · have j0 : (i == 0) = false := beq_eq_false_iff_ne.2 h0
        have HB : Hid (false = b) := Lib.hid (by rw [← hb.out]; simp [Dt.formB, hl])
        clear hb
        clear l3 hl h0
        go_enter Try.func76, Try.ntmps76
        go_wp2_with fail
        go_ret
        exact ⟨by rw [← HB.out]; rfl, (Below.refl _ _).alloc (Nat.le_refl _) _⟩
  · obtain ⟨k1, k2, k3⟩ := text_facts ht
    by_cases h0 : i = 0
    · subst h0
      have HB : Hid (false = b) := Lib.hid (by rw [← hb.out]; simp [Dt.formB, ht])
      clear hb
      clear k3 ht
      go_enter Try.func76, Try.ntmps76
      go_wp2_with fail
      go_ret
      exact ⟨by rw [← HB.out]; rfl, (Below.refl _ _).alloc (Nat.le_refl _) _⟩
    · have j0 : (i == 0) = false := beq_eq_false_iff_ne.2 h0
      have HB : Hid (false = b) := Lib.hid (by rw [← hb.out]; simp [Dt.formB, ht])
      clear hb
      clear k3 ht h0
      go_enter Try.func76, Try.ntmps76
      go_wp2_with fail
      go_ret
      exact ⟨by rw [← HB.out]; rfl, (Below.refl _ _).alloc (Nat.le_refl _) _⟩
set_option maxHeartbeats 4000000 in
theorem rform2 (i : Int) (t : ByteArray) (a : Option Addr) (l : List Dt) (c : Nat) (w : World) : Calls Try.prog 76 #[.agg #[.int .i64 2, .int .i64 i, .string t, .slice a l.length c]] w (FormPost (Dt.formB 2 i t l) w) := by
  unfold FormPost
  generalize hb : Dt.formB 2 i t l = b
  have hb := Lib.hid hb
  by_cases ht : t = ⟨#[]⟩
  · subst ht
    by_cases hl : l = []
    · subst hl
      by_cases h0 : i = 0
      · subst h0
        have HB : Hid (true = b) := Lib.hid (by rw [← hb.out]; decide +kernel)
        clear hb
        go_enter Try.func76, Try.ntmps76
        go_wp2_with fail
        go_ret
        exact ⟨by rw [← HB.out]; rfl, (Below.refl _ _).alloc (Nat.le_refl _) _⟩
      · have j0 : (i == 0) = false := beq_eq_false_iff_ne.2 h0
        cases q1 : decide (0 ≤ i) <;> cases q2 : decide (i ≤ 255)
        all_goals
          have HB : Hid ((decide (0 ≤ i) && decide (i ≤ 255)) = b) := Lib.hid (by rw [← hb.out]; simp [Dt.formB])
          rw [q1, q2] at HB
          clear hb h0
          go_enter Try.func76, Try.ntmps76
          go_wp2_with fail
          go_ret
          exact ⟨by rw [← HB.out]; rfl, (Below.refl _ _).alloc (Nat.le_refl _) _⟩
    · obtain ⟨l1, l2, l3⟩ := list_facts hl
      have l4 : (l.length == 0) = false := beq_eq_false_iff_ne.2 l2
      by_cases h0 : i = 0
      · subst h0
        have HB : Hid (false = b) := Lib.hid (by rw [← hb.out]; simp [Dt.formB, hl])
        clear hb
        clear l3 hl
        go_enter Try.func76, Try.ntmps76
        go_wp2_with fail
        go_ret
        exact ⟨by rw [← HB.out]; rfl, (Below.refl _ _).alloc (Nat.le_refl _) _⟩
      · have j0 : (i == 0) = false := beq_eq_false_iff_ne.2 h0
        have HB : Hid (false = b) := Lib.hid (by rw [← hb.out]; simp [Dt.formB, hl])
        clear hb
        clear l3 hl h0
        go_enter Try.func76, Try.ntmps76
        go_wp2_with fail
        go_ret
        exact ⟨by rw [← HB.out]; rfl, (Below.refl _ _).alloc (Nat.le_refl _) _⟩
  · obtain ⟨k1, k2, k3⟩ := text_facts ht
    by_cases h0 : i = 0
    · subst h0
      have HB : Hid (false = b) := Lib.hid (by rw [← hb.out]; simp [Dt.formB, ht])
      clear hb
      clear k3 ht
      go_enter Try.func76, Try.ntmps76
      go_wp2_with fail
      go_ret
      exact ⟨by rw [← HB.out]; rfl, (Below.refl _ _).alloc (Nat.le_refl _) _⟩
    · have j0 : (i == 0) = false := beq_eq_false_iff_ne.2 h0
      have HB : Hid (false = b) := Lib.hid (by rw [← hb.out]; simp [Dt.formB, ht])
      clear hb
      clear k3 ht h0
      go_enter Try.func76, Try.ntmps76
      go_wp2_with fail
      go_ret
      exact ⟨by rw [← HB.out]; rfl, (Below.refl _ _).alloc (Nat.le_refl _) _⟩
set_option maxHeartbeats 4000000 in
theorem rform3 (i : Int) (t : ByteArray) (a : Option Addr) (l : List Dt) (c : Nat) (w : World) : Calls Try.prog 76 #[.agg #[.int .i64 3, .int .i64 i, .string t, .slice a l.length c]] w (FormPost (Dt.formB 3 i t l) w) := by
  unfold FormPost
  generalize hb : Dt.formB 3 i t l = b
  have hb := Lib.hid hb
  by_cases ht : t = ⟨#[]⟩
  · subst ht
    by_cases h0 : i = 0
    · subst h0
      by_cases hl : l = []
      · subst hl
        have HB : Hid (true = b) := Lib.hid (by rw [← hb.out]; decide +kernel)
        clear hb
        go_enter Try.func76, Try.ntmps76
        go_wp2_with fail
        go_ret
        exact ⟨by rw [← HB.out]; rfl, (Below.refl _ _).alloc (Nat.le_refl _) _⟩
      · obtain ⟨l1, l2, l3⟩ := list_facts hl
        have l4 : (l.length == 0) = false := beq_eq_false_iff_ne.2 l2
        have HB : Hid (false = b) := Lib.hid (by rw [← hb.out]; simp [Dt.formB, hl])
        clear hb
        clear l3 hl
        go_enter Try.func76, Try.ntmps76
        go_wp2_with fail
        go_ret
        exact ⟨by rw [← HB.out]; rfl, (Below.refl _ _).alloc (Nat.le_refl _) _⟩
    · have j0 : (i == 0) = false := beq_eq_false_iff_ne.2 h0
      have HB : Hid (false = b) := Lib.hid (by rw [← hb.out]; simp [Dt.formB, h0])
      clear hb
      clear h0
      go_enter Try.func76, Try.ntmps76
      go_wp2_with fail
      go_ret
      exact ⟨by rw [← HB.out]; rfl, (Below.refl _ _).alloc (Nat.le_refl _) _⟩
  · obtain ⟨k1, k2, k3⟩ := text_facts ht
    by_cases h0 : i = 0
    · subst h0
      by_cases hl : l = []
      · subst hl
        have HB : Hid ((decide ((t.size : Int) ≤ 4096)) = b) := Lib.hid (by rw [← hb.out]; simp [Dt.formB]; omega)
        clear hb
        clear k3 ht
        go_enter Try.func76, Try.ntmps76
        go_wp2_with fail
        go_ret
        exact ⟨by rw [← HB.out]; rfl, (Below.refl _ _).alloc (Nat.le_refl _) _⟩
      · obtain ⟨l1, l2, l3⟩ := list_facts hl
        have l4 : (l.length == 0) = false := beq_eq_false_iff_ne.2 l2
        have HB : Hid (false = b) := Lib.hid (by rw [← hb.out]; simp [Dt.formB, hl])
        clear hb
        clear l3 hl k3 ht
        go_enter Try.func76, Try.ntmps76
        go_wp2_with fail
        go_ret
        exact ⟨by rw [← HB.out]; rfl, (Below.refl _ _).alloc (Nat.le_refl _) _⟩
    · have j0 : (i == 0) = false := beq_eq_false_iff_ne.2 h0
      have HB : Hid (false = b) := Lib.hid (by rw [← hb.out]; simp [Dt.formB, h0])
      clear hb
      clear h0 k3 ht
      go_enter Try.func76, Try.ntmps76
      go_wp2_with fail
      go_ret
      exact ⟨by rw [← HB.out]; rfl, (Below.refl _ _).alloc (Nat.le_refl _) _⟩
set_option maxHeartbeats 4000000 in
theorem rform4 (i : Int) (t : ByteArray) (a : Option Addr) (l : List Dt) (c : Nat) (w : World) (hts : t.size ≤ maxLen) : Calls Try.prog 76 #[.agg #[.int .i64 4, .int .i64 i, .string t, .slice a l.length c]] w (FormPost (Dt.formB 4 i t l) w) := by
  have HN : Hid (∀ w1, Calls Try.prog 88 #[.string t] w1 fun e w' => e = .returned (.bool (Nm.nameB t)) ∧ w1 = w') := fun w1 => rname_any t hts w1
  clear hts
  unfold FormPost
  generalize hb : Dt.formB 4 i t l = b
  have hb := Lib.hid hb
  by_cases ht : t = ⟨#[]⟩
  · subst ht
    by_cases h0 : i = 0
    · subst h0
      by_cases hl : l = []
      · subst hl
        have HB : Hid (Nm.nameB ⟨#[]⟩ = b) := Lib.hid (by rw [← hb.out]; simp [Dt.formB])
        clear hb
        go_enter Try.func76, Try.ntmps76
        go_wp2_with fail
        with_reducible refine (HN.out _).mono ?_
        rintro e w2 ⟨rfl, rfl⟩
        go_wp2_with fail
        go_ret
        exact ⟨by rw [← HB.out]; rfl, (Below.refl _ _).alloc (Nat.le_refl _) _⟩
      · obtain ⟨l1, l2, l3⟩ := list_facts hl
        have l4 : (l.length == 0) = false := beq_eq_false_iff_ne.2 l2
        have HB : Hid (false = b) := Lib.hid (by rw [← hb.out]; simp [Dt.formB, hl])
        clear hb
        clear l3 hl
        go_enter Try.func76, Try.ntmps76
        go_wp2_with fail
        go_ret
        exact ⟨by rw [← HB.out]; rfl, (Below.refl _ _).alloc (Nat.le_refl _) _⟩
    · have j0 : (i == 0) = false := beq_eq_false_iff_ne.2 h0
      have HB : Hid (false = b) := Lib.hid (by rw [← hb.out]; simp [Dt.formB, h0])
      clear hb
      clear h0
      go_enter Try.func76, Try.ntmps76
      go_wp2_with fail
      go_ret
      exact ⟨by rw [← HB.out]; rfl, (Below.refl _ _).alloc (Nat.le_refl _) _⟩
  · obtain ⟨k1, k2, k3⟩ := text_facts ht
    by_cases h0 : i = 0
    · subst h0
      by_cases hl : l = []
      · subst hl
        have HB : Hid (Nm.nameB t = b) := Lib.hid (by rw [← hb.out]; simp [Dt.formB])
        clear hb
        clear k3 ht
        go_enter Try.func76, Try.ntmps76
        go_wp2_with fail
        with_reducible refine (HN.out _).mono ?_
        rintro e w2 ⟨rfl, rfl⟩
        go_wp2_with fail
        go_ret
        exact ⟨by rw [← HB.out]; rfl, (Below.refl _ _).alloc (Nat.le_refl _) _⟩
      · obtain ⟨l1, l2, l3⟩ := list_facts hl
        have l4 : (l.length == 0) = false := beq_eq_false_iff_ne.2 l2
        have HB : Hid (false = b) := Lib.hid (by rw [← hb.out]; simp [Dt.formB, hl])
        clear hb
        clear l3 hl k3 ht
        go_enter Try.func76, Try.ntmps76
        go_wp2_with fail
        go_ret
        exact ⟨by rw [← HB.out]; rfl, (Below.refl _ _).alloc (Nat.le_refl _) _⟩
    · have j0 : (i == 0) = false := beq_eq_false_iff_ne.2 h0
      have HB : Hid (false = b) := Lib.hid (by rw [← hb.out]; simp [Dt.formB, h0])
      clear hb
      clear h0 k3 ht
      go_enter Try.func76, Try.ntmps76
      go_wp2_with fail
      go_ret
      exact ⟨by rw [← HB.out]; rfl, (Below.refl _ _).alloc (Nat.le_refl _) _⟩
set_option maxHeartbeats 4000000 in
theorem rform5 (i : Int) (t : ByteArray) (a : Option Addr) (l : List Dt) (c : Nat) (w : World) : Calls Try.prog 76 #[.agg #[.int .i64 5, .int .i64 i, .string t, .slice a l.length c]] w (FormPost (Dt.formB 5 i t l) w) := by
  unfold FormPost
  generalize hb : Dt.formB 5 i t l = b
  have hb := Lib.hid hb
  by_cases ht : t = ⟨#[]⟩
  · subst ht
    by_cases h0 : i = 0
    · subst h0
      have HB : Hid (true = b) := Lib.hid (by rw [← hb.out]; simp [Dt.formB])
      clear hb
      go_enter Try.func76, Try.ntmps76
      go_wp2_with fail
      go_ret
      exact ⟨by rw [← HB.out]; rfl, (Below.refl _ _).alloc (Nat.le_refl _) _⟩
    · have j0 : (i == 0) = false := beq_eq_false_iff_ne.2 h0
      have HB : Hid (false = b) := Lib.hid (by rw [← hb.out]; simp [Dt.formB, h0])
      clear hb
      clear h0
      go_enter Try.func76, Try.ntmps76
      go_wp2_with fail
      go_ret
      exact ⟨by rw [← HB.out]; rfl, (Below.refl _ _).alloc (Nat.le_refl _) _⟩
  · obtain ⟨k1, k2, k3⟩ := text_facts ht
    by_cases h0 : i = 0
    · subst h0
      have HB : Hid (false = b) := Lib.hid (by rw [← hb.out]; simp [Dt.formB, ht])
      clear hb
      clear k3 ht
      go_enter Try.func76, Try.ntmps76
      go_wp2_with fail
      go_ret
      exact ⟨by rw [← HB.out]; rfl, (Below.refl _ _).alloc (Nat.le_refl _) _⟩
    · have j0 : (i == 0) = false := beq_eq_false_iff_ne.2 h0
      have HB : Hid (false = b) := Lib.hid (by rw [← hb.out]; simp [Dt.formB, ht])
      clear hb
      clear k3 ht h0
      go_enter Try.func76, Try.ntmps76
      go_wp2_with fail
      go_ret
      exact ⟨by rw [← HB.out]; rfl, (Below.refl _ _).alloc (Nat.le_refl _) _⟩
set_option maxHeartbeats 4000000 in
theorem rform7 (i : Int) (t : ByteArray) (a : Option Addr) (l : List Dt) (c : Nat) (w : World) : Calls Try.prog 76 #[.agg #[.int .i64 7, .int .i64 i, .string t, .slice a l.length c]] w (FormPost (Dt.formB 7 i t l) w) := by
  unfold FormPost
  generalize hb : Dt.formB 7 i t l = b
  have hb := Lib.hid hb
  by_cases ht : t = ⟨#[]⟩
  · subst ht
    by_cases h0 : i = 0
    · subst h0
      have HB : Hid (true = b) := Lib.hid (by rw [← hb.out]; simp [Dt.formB])
      clear hb
      go_enter Try.func76, Try.ntmps76
      go_wp2_with fail
      go_ret
      exact ⟨by rw [← HB.out]; rfl, (Below.refl _ _).alloc (Nat.le_refl _) _⟩
    · have j0 : (i == 0) = false := beq_eq_false_iff_ne.2 h0
      have HB : Hid (false = b) := Lib.hid (by rw [← hb.out]; simp [Dt.formB, h0])
      clear hb
      clear h0
      go_enter Try.func76, Try.ntmps76
      go_wp2_with fail
      go_ret
      exact ⟨by rw [← HB.out]; rfl, (Below.refl _ _).alloc (Nat.le_refl _) _⟩
  · obtain ⟨k1, k2, k3⟩ := text_facts ht
    by_cases h0 : i = 0
    · subst h0
      have HB : Hid (false = b) := Lib.hid (by rw [← hb.out]; simp [Dt.formB, ht])
      clear hb
      clear k3 ht
      go_enter Try.func76, Try.ntmps76
      go_wp2_with fail
      go_ret
      exact ⟨by rw [← HB.out]; rfl, (Below.refl _ _).alloc (Nat.le_refl _) _⟩
    · have j0 : (i == 0) = false := beq_eq_false_iff_ne.2 h0
      have HB : Hid (false = b) := Lib.hid (by rw [← hb.out]; simp [Dt.formB, ht])
      clear hb
      clear k3 ht h0
      go_enter Try.func76, Try.ntmps76
      go_wp2_with fail
      go_ret
      exact ⟨by rw [← HB.out]; rfl, (Below.refl _ _).alloc (Nat.le_refl _) _⟩
set_option maxHeartbeats 4000000 in
theorem rform6 (i : Int) (t : ByteArray) (a : Option Addr) (l : List Dt) (c : Nat) (w : World) (hlm : l.length ≤ 9223372036854775807) (hd : DtAt w (fun _ => True) (.agg #[.int .i64 6, .int .i64 i, .string t, .slice a l.length c]) (.mk 6 i t l)) : Calls Try.prog 76 #[.agg #[.int .i64 6, .int .i64 i, .string t, .slice a l.length c]] w (FormPost (Dt.formB 6 i t l) w) := by
  have HD := Lib.hid hd
  have HLM := Lib.hid hlm
  clear hd hlm
  unfold FormPost
  generalize hb : Dt.formB 6 i t l = b
  have hb := Lib.hid hb
  by_cases ht : t = ⟨#[]⟩
  · subst ht
    by_cases h0 : i = 0
    · subst h0
      by_cases hl2 : 2 ≤ l.length
      · obtain ⟨m, hm⟩ : ∃ m, l.length = m + 1 := ⟨l.length - 1, by omega⟩
        obtain ⟨b0, o0, rfl, hb0, hlast⟩ := HD.out.last hm
        have HB0 : Hid ((decide (Dt.lastKind l ≠ 5) && decide (Dt.lastKind l ≠ 6)) = b) := Lib.hid (by rw [← hb.out]; simp [Dt.formB, hl2])
        have gw : wrap64 (m : Int) = m := wrap64_small (by have := HLM.out; omega)
        have h3 : decide ((2 : Int) ≤ (m : Int) + 1) = true := decide_eq_true (by omega)
        have h4 : 1 ≤ m := by omega
        have g1 : (0 : Int) ≤ m := by omega
        have g2 : (m : Int) < m + 1 := by omega
        rw [hm]
        generalize Dt.lastKind l = lk at *
        cases e5 : (lk != 5) <;> cases e6 : (lk != 6)
        all_goals
          have HB : Hid (((lk != 5) && (lk != 6)) = b) := Lib.hid (by rw [← HB0.out]; by_cases q5 : lk = 5 <;> by_cases q6 : lk = 6 <;> simp [q5, q6])
          rw [e5, e6] at HB
          clear hb hl2 hm HLM
          go_enter Try.func76, Try.ntmps76
          go_wp2_with fail
          go_ret
          exact ⟨by rw [← HB.out]; rfl, (Below.refl _ _).alloc (Nat.le_refl _) _⟩
      · have HB : Hid (false = b) := Lib.hid (by rw [← hb.out]; simp [Dt.formB]; omega)
        have h3 : decide ((2 : Int) ≤ (l.length : Int)) = false := decide_eq_false (by omega)
        have h4 : decide (2 ≤ l.length) = false := decide_eq_false (by omega)
        have h5 : ¬ 2 ≤ l.length := hl2
        clear hb hl2
        go_enter Try.func76, Try.ntmps76
        go_wp2_with fail
        go_ret
        exact ⟨by rw [← HB.out]; rfl, (Below.refl _ _).alloc (Nat.le_refl _) _⟩
    · have j0 : (i == 0) = false := beq_eq_false_iff_ne.2 h0
      have HB : Hid (false = b) := Lib.hid (by rw [← hb.out]; simp [Dt.formB, h0])
      clear hb
      clear h0
      go_enter Try.func76, Try.ntmps76
      go_wp2_with fail
      go_ret
      exact ⟨by rw [← HB.out]; rfl, (Below.refl _ _).alloc (Nat.le_refl _) _⟩
  · obtain ⟨k1, k2, k3⟩ := text_facts ht
    by_cases h0 : i = 0
    · subst h0
      have HB : Hid (false = b) := Lib.hid (by rw [← hb.out]; simp [Dt.formB, ht])
      clear hb
      clear k3 ht
      go_enter Try.func76, Try.ntmps76
      go_wp2_with fail
      go_ret
      exact ⟨by rw [← HB.out]; rfl, (Below.refl _ _).alloc (Nat.le_refl _) _⟩
    · have j0 : (i == 0) = false := beq_eq_false_iff_ne.2 h0
      have HB : Hid (false = b) := Lib.hid (by rw [← hb.out]; simp [Dt.formB, ht])
      clear hb
      clear k3 ht h0
      go_enter Try.func76, Try.ntmps76
      go_wp2_with fail
      go_ret
      exact ⟨by rw [← HB.out]; rfl, (Below.refl _ _).alloc (Nat.le_refl _) _⟩
set_option maxHeartbeats 4000000 in
theorem rformx (k : Int) (hk : k < 0 ∨ 7 < k) (i : Int) (t : ByteArray) (a : Option Addr) (l : List Dt) (c : Nat) (w : World) : Calls Try.prog 76 #[.agg #[.int .i64 k, .int .i64 i, .string t, .slice a l.length c]] w (FormPost (Dt.formB k i t l) w) := by
  have hkk : ¬ k = 0 ∧ ¬ k = 1 ∧ ¬ k = 2 ∧ ¬ k = 3 ∧ ¬ k = 4 ∧ ¬ k = 5 ∧ ¬ k = 7 ∧ ¬ k = 6 := by omega
  unfold FormPost
  generalize hb : Dt.formB k i t l = b
  have hb := Lib.hid hb
  have HB : Hid (false = b) := Lib.hid (by rw [← hb.out]; simp [Dt.formB, hkk])
  have m0 : (k == 0) = false := beq_eq_false_iff_ne.2 (by omega)
  have m1 : (k == 1) = false := beq_eq_false_iff_ne.2 (by omega)
  have m2 : (k == 2) = false := beq_eq_false_iff_ne.2 (by omega)
  have m3 : (k == 3) = false := beq_eq_false_iff_ne.2 (by omega)
  have m4 : (k == 4) = false := beq_eq_false_iff_ne.2 (by omega)
  have m5 : (k == 5) = false := beq_eq_false_iff_ne.2 (by omega)
  have m6 : (k == 6) = false := beq_eq_false_iff_ne.2 (by omega)
  have m7 : (k == 7) = false := beq_eq_false_iff_ne.2 (by omega)
  clear hb hkk hk
  by_cases ht : t = ⟨#[]⟩
  · subst ht
    by_cases h0 : i = 0
    · subst h0
      go_enter Try.func76, Try.ntmps76
      go_wp2_with fail
      go_ret
      exact ⟨by rw [← HB.out]; rfl, (Below.refl _ _).alloc (Nat.le_refl _) _⟩
    · have j0 : (i == 0) = false := beq_eq_false_iff_ne.2 h0
      clear h0
      go_enter Try.func76, Try.ntmps76
      go_wp2_with fail
      go_ret
      exact ⟨by rw [← HB.out]; rfl, (Below.refl _ _).alloc (Nat.le_refl _) _⟩
  · obtain ⟨k1, k2, k3⟩ := text_facts ht
    clear k3 ht
    by_cases h0 : i = 0
    · subst h0
      go_enter Try.func76, Try.ntmps76
      go_wp2_with fail
      go_ret
      exact ⟨by rw [← HB.out]; rfl, (Below.refl _ _).alloc (Nat.le_refl _) _⟩
    · have j0 : (i == 0) = false := beq_eq_false_iff_ne.2 h0
      clear h0
      go_enter Try.func76, Try.ntmps76
      go_wp2_with fail
      go_ret
      exact ⟨by rw [← HB.out]; rfl, (Below.refl _ _).alloc (Nat.le_refl _) _⟩
theorem rform_any (k i : Int) (t : ByteArray) (ht : t.size ≤ maxLen) (a : Option Addr) (l : List Dt) (hlm : l.length ≤ 9223372036854775807) (c : Nat) (w : World) (hd : DtAt w (fun _ => True) (.agg #[.int .i64 k, .int .i64 i, .string t, .slice a l.length c]) (.mk k i t l)) : Calls Try.prog 76 #[.agg #[.int .i64 k, .int .i64 i, .string t, .slice a l.length c]] w (FormPost (Dt.formB k i t l) w) := by
  rcases (by omega : k = 0 ∨ k = 1 ∨ k = 2 ∨ k = 3 ∨ k = 4 ∨ k = 5 ∨ k = 6 ∨ k = 7 ∨ (k < 0 ∨ 7 < k)) with rfl | rfl | rfl | rfl | rfl | rfl | rfl | rfl | hk
  · exact rform0 i t a l c w
  · exact rform1 i t a l c w
  · exact rform2 i t a l c w
  · exact rform3 i t a l c w
  · exact rform4 i t a l c w ht
  · exact rform5 i t a l c w
  · exact rform6 i t a l c w hlm hd
  · exact rform7 i t a l c w
  · exact rformx k hk i t a l c w
end Go.Proofs.Ytalfnaielhbocaa
namespace Go.Proofs.Ytalfnaielhbocaa
open Go.RowKit
set_option maxRecDepth 100000
set_option linter.unusedVariables false
set_option linter.unusedSimpArgs false
set_option linter.unnecessarySimpa false
namespace Dt
mutual
def chk : Dt → Nat → Nat → Nat × Int
  | mk k i t l, deep, seen =>
    if seen = 4096 then (seen, 22)
    else if (decide (5 ≤ k) && decide (k ≤ 7)) && decide (deep = 32) then (seen + 1, 21)
    else if formB k i t l then chks l (deep + 1) (seen + 1)
    else (seen + 1, 20)
def chks : List Dt → Nat → Nat → Nat × Int
  | [], _, seen => (seen, 0)
  | x :: l, deep, seen => if (chk x deep seen).2 = 0 then chks l deep (chk x deep seen).1 else chk x deep seen
end
theorem chks_app : ∀ (l r : List Dt) (d s : Nat), chks (l ++ r) d s = if (chks l d s).2 = 0 then chks r d (chks l d s).1 else chks l d s
  | [], r, d, s => by simp [chks]
  | x :: l, r, d, s => by
    rw [List.cons_append, chks, chks]
    by_cases h : (chk x d s).2 = 0
    · rw [if_pos h, if_pos h, chks_app l r d]
    · rw [if_neg h, if_neg h, if_neg h]
theorem chks_step {l : List Dt} {k d s sk : Nat} {x : Dt} (hx : l[k]? = some x) (h : chks (l.take k) d s = (sk, 0)) (h0 : (chk x d sk).2 = 0) : chks (l.take (k + 1)) d s = ((chk x d sk).1, 0) := by
  rw [List.take_add_one, hx, chks_app, h]
  simp [chks, h0]
theorem chks_stop {l : List Dt} {k d s sk : Nat} {x : Dt} (hx : l[k]? = some x) (h : chks (l.take k) d s = (sk, 0)) (h0 : ¬ (chk x d sk).2 = 0) : chks l d s = chk x d sk := by
  have hk : k < l.length := (List.getElem?_eq_some_iff.1 hx).1
  have e : l = l.take k ++ (x :: l.drop (k + 1)) := by
    have h1 : l[k] = x := (List.getElem?_eq_some_iff.1 hx).2
    rw [← h1, ← List.drop_eq_getElem_cons hk, List.take_append_drop]
  rw [e, chks_app, h]
  simp [chks, h0]
mutual
theorem chk_le : ∀ (x : Dt) (d s : Nat), s ≤ 4096 → s ≤ (chk x d s).1 ∧ (chk x d s).1 ≤ 4096 ∧ ((chk x d s).2 = 0 → s + x.nodes ≤ (chk x d s).1)
  | mk k i t l, d, s, hs => by
    rw [chk]
    split
    · exact ⟨by simp, by simp; omega, fun h => by simp at h⟩
    · split
      · exact ⟨by simp, by simp; omega, fun h => by simp at h⟩
      · split
        · have := chks_le l (d + 1) (s + 1) (by omega)
          refine ⟨by omega, this.2.1, fun h => ?_⟩
          have h2 := this.2.2 h
          rw [nodes]
          omega
        · exact ⟨by simp, by simp; omega, fun h => by simp at h⟩
theorem chks_le : ∀ (l : List Dt) (d s : Nat), s ≤ 4096 → s ≤ (chks l d s).1 ∧ (chks l d s).1 ≤ 4096 ∧ ((chks l d s).2 = 0 → s + nodess l ≤ (chks l d s).1)
  | [], d, s, hs => by simp [chks, nodess, hs]
  | x :: l, d, s, hs => by
    rw [chks]
    have h1 := chk_le x d s hs
    split
    · rename_i h0
      have h2 := chks_le l d (chk x d s).1 h1.2.1
      refine ⟨by omega, h2.2.1, fun h => ?_⟩
      have := h2.2.2 h
      have := h1.2.2 h0
      rw [nodess]
      omega
    · rename_i h0
      exact ⟨h1.1, h1.2.1, fun h => absurd h h0⟩
end
theorem form_items {k i : Int} {t : ByteArray} {l : List Dt} (h : formB k i t l = true) (hl : l ≠ []) : (decide (5 ≤ k) && decide (k ≤ 7)) = true := by
  rcases (by omega : k = 0 ∨ k = 1 ∨ k = 2 ∨ k = 3 ∨ k = 4 ∨ k = 5 ∨ k = 6 ∨ k = 7 ∨ (k < 0 ∨ 7 < k)) with rfl | rfl | rfl | rfl | rfl | rfl | rfl | rfl | hk
  all_goals first
    | rfl
    | (simp [formB, hl] at h)
    | skip
  have hkk : ¬ k = 0 ∧ ¬ k = 1 ∧ ¬ k = 2 ∧ ¬ k = 3 ∧ ¬ k = 4 ∧ ¬ k = 5 ∧ ¬ k = 7 ∧ ¬ k = 6 := by omega
  simp [formB, hkk] at h
inductive Fit : Dt → Prop
  | mk (k i : Int) (t : ByteArray) (l : List Dt) (ht : t.size ≤ maxLen) (hl : l.length ≤ 9223372036854775807) (h : ∀ (j : Nat) (x : Dt), l[j]? = some x → Fit x) : Fit (.mk k i t l)
theorem Fit.of {d x : Dt} (h : Fit d) (hx : x ∈ d.list) : Fit x := by
  cases h with
  | mk k i t l ht hl h =>
    obtain ⟨j, hj⟩ := List.getElem?_of_mem hx
    exact h j x hj
end Dt
def CkAt (w : World) (cb : Nat) (seen : Nat) : Prop := w.heap[cb]? = some (.cells #[.int .i64 seen] 135 (0, 0))
def CkPost (r : Nat × Int) (cb : Nat) (w : World) (e : Ending) (w' : World) : Prop := e = .returned (.int .i64 r.2) ∧ CkAt w' cb r.1 ∧ Save cb w w'
theorem CkAt.cells {w : World} {cb seen : Nat} (H : CkAt w cb seen) : w.cell? ⟨cb, 0, none⟩ = some (.int .i64 seen) ∧ w.frozen? ⟨cb, 0, none⟩ = false ∧ cb < w.heap.size :=
  ⟨cell_of_row w cb 0 _ _ _ H, frozen_of_row w _ 0 _ _ H, (Array.getElem?_eq_some_iff.1 H).1⟩
theorem CkAt.bel {w w' : World} {cb seen N : Nat} (H : CkAt w cb seen) (hb : Below N w w') (hN : w.heap.size ≤ N) : CkAt w' cb seen := (hb.block cb (by have := H.cells.2.2; omega)).trans H
theorem CkAt.set {w : World} {cb seen seen' : Nat} (H : CkAt w cb seen) : CkAt (w.setCell ⟨cb, 0, none⟩ (.int .i64 seen')) cb seen' := heap_setCell_same _ cb 0 _ _ _ H
structure Ck (w wx : World) (cb seen B : Nat) (k i : Int) (t : ByteArray) (a : Option Addr) (l : List Dt) (c : Nat) : Prop where
  at' : CkAt wx cb seen
  save : Save cb w wx
  box : Cell4 w.heap.size (.int .i64 k) (.int .i64 i) (.string t) (.slice a l.length c) wx
  dat : DtAt wx (fun b => b < B) (.agg #[.int .i64 k, .int .i64 i, .string t, .slice a l.length c]) (.mk k i t l)
  size : w.heap.size < wx.heap.size
theorem Ck.bel {w wx w2 : World} {cb seen B : Nat} {k i : Int} {t : ByteArray} {a : Option Addr} {l : List Dt} {c : Nat} (H : Ck w wx cb seen B k i t a l c) (hb : Below wx.heap.size wx w2) : Ck w w2 cb seen B k i t a l c := by
  have hs := H.size
  have hz := hb.size
  exact ⟨H.at'.bel hb (Nat.le_refl _), H.save.trans (Save.of hb), H.box.below hb (by omega), H.dat.bel hb (Nat.le_refl _), by omega⟩
theorem Ck.save' {w wx w2 : World} {cb seen seen2 B : Nat} {k i : Int} {t : ByteArray} {a : Option Addr} {l : List Dt} {c : Nat} (H : Ck w wx cb seen B k i t a l c) (hlt : cb < w.heap.size) (hB : B ≤ cb) (hs : Save cb wx w2) (h2 : CkAt w2 cb seen2) : Ck w w2 cb seen2 B k i t a l c := by
  have hz := H.size
  exact ⟨h2, H.save.trans hs, H.box.save hs hz (by omega), H.dat.save hs (by omega), Nat.lt_of_lt_of_le hz hs.size⟩
theorem Ck.first {w : World} {cb seen B : Nat} {k i : Int} {t : ByteArray} {a : Option Addr} {l : List Dt} {c : Nat} (H : CkAt w cb seen) (hB : B ≤ cb) (hd : DtAt w (fun b => b < B) (.agg #[.int .i64 k, .int .i64 i, .string t, .slice a l.length c]) (.mk k i t l)) :
    Ck w ((w.setCell ⟨cb, 0, none⟩ (.int .i64 ((seen : Int) + 1))).alloc (.cells #[.int .i64 k, .int .i64 i, .string t, .slice a l.length c] 31)) cb (seen + 1) B k i t a l c := by
  have hs : (w.setCell ⟨cb, 0, none⟩ (.int .i64 ((seen : Int) + 1))).heap.size = w.heap.size := by simp [World.setCell]
  have hS : Save cb w (w.setCell ⟨cb, 0, none⟩ (.int .i64 ((seen : Int) + 1))) := (Save.of (Below.refl _ _)).set _
  have hb : Below (w.setCell ⟨cb, 0, none⟩ (.int .i64 ((seen : Int) + 1))).heap.size (w.setCell ⟨cb, 0, none⟩ (.int .i64 ((seen : Int) + 1))) ((w.setCell ⟨cb, 0, none⟩ (.int .i64 ((seen : Int) + 1))).alloc (.cells #[.int .i64 k, .int .i64 i, .string t, .slice a l.length c] 31)) := (Below.refl _ _).alloc (Nat.le_refl _) _
  refine ⟨(H.set (seen' := seen + 1)).bel hb (Nat.le_refl _), hS.trans (Save.of hb), ?_, (hd.save hS (by omega)).bel hb (Nat.le_refl _), ?_⟩
  · have := new4 (w.setCell ⟨cb, 0, none⟩ (.int .i64 ((seen : Int) + 1))) (.int .i64 k) (.int .i64 i) (.string t) (.slice a l.length c) 31
    rw [hs] at this
    exact this
  · have := hb.size
    simp
set_option maxHeartbeats 8000000 in
set_option maxRecDepth 100000 in
theorem dchk_step (B cb : Nat) (k i : Int) (t : ByteArray) (l : List Dt) (deep seen : Nat) (v : Value) (w : World) (hB : B ≤ cb) (hC : CkAt w cb seen) (hdp : deep ≤ 32) (hsn : seen ≤ 4096) (hd : DtAt w (fun b => b < B) v (.mk k i t l)) (hf : Dt.Fit (.mk k i t l))
    (IH : ∀ x ∈ l, ∀ (vx : Value) (w1 : World) (deep' seen' : Nat), deep' ≤ 32 → seen' ≤ 4096 → DtAt w1 (fun b => b < B) vx x → CkAt w1 cb seen' → Calls Try.prog 77 #[.pointer (some ⟨cb, 0, none⟩), vx, .int .i64 deep'] w1 (CkPost (Dt.chk x deep' seen') cb w1)) :
    Calls Try.prog 77 #[.pointer (some ⟨cb, 0, none⟩), v, .int .i64 deep] w (CkPost (Dt.chk (.mk k i t l) deep seen) cb w) := by
  obtain ⟨a, c, rfl, _⟩ := hd.inv
  simp only [Dt.kind_mk, Dt.int_mk, Dt.text_mk, Dt.list_mk] at hd ⊢
  obtain ⟨ht, hl⟩ : t.size ≤ maxLen ∧ l.length ≤ 9223372036854775807 := by cases hf; exact ⟨by assumption, by assumption⟩
  obtain ⟨c0, f0, hlt⟩ := hC.cells
  rw [Dt.chk]
  by_cases h0 : seen = 4096
  · subst h0
    rw [if_pos rfl]
    have HC := Lib.hid hC
    clear hd hf IH hC ht hl
    go_enter Try.func77, Try.ntmps77
    go_wp2_with fail
    go_ret
    exact ⟨rfl, HC.out.bel ((Below.refl _ _).alloc (Nat.le_refl _) _) (Nat.le_refl _), Save.of ((Below.refl _ _).alloc (Nat.le_refl _) _)⟩
  · rw [if_neg h0]
    have g1 : ((seen : Int) == 4096) = false := beq_eq_false_iff_ne.2 (by omega)
    have g2 : (seen : Int) ≤ 4096 := by omega
    have g3 : (0 : Int) ≤ seen := by omega
    have HK := Lib.hid (Ck.first hC hB hd)
    have HF : Hid (∀ w1 : World, DtAt w1 (fun b => b < B) (.agg #[.int .i64 k, .int .i64 i, .string t, .slice a l.length c]) (.mk k i t l) → Calls Try.prog 90 #[.agg #[.int .i64 k, .int .i64 i, .string t, .slice a l.length c]] w1 (FormPost (Dt.formB k i t l) w1)) := fun w1 h1 => dform_any k i t ht a l hl c w1 (h1.mono fun _ _ _ => trivial)
    have HI : Hid (∀ w1 : World, Calls Try.prog 89 #[.agg #[.int .i64 k, .int .i64 i, .string t, .slice a l.length c]] w1 fun e w' => e = .returned (.bool (decide (5 ≤ k) && decide (k ≤ 7))) ∧ Below w1.heap.size w1 w') := fun w1 => ditems_any k i t a l.length c w1
    have HIH := Lib.hid IH
    have HN : Hid (seen ≠ 4096) := h0
    have HSN := Lib.hid hsn
    unfold FormPost at HF
    clear hd hf IH hC ht hl h0 hsn
    generalize hit : (decide (5 ≤ k) && decide (k ≤ 7)) = it at *
    by_cases h1 : (it && decide (deep = 32)) = true
    · rw [if_pos h1]
      rw [Bool.and_eq_true, decide_eq_true_eq] at h1
      obtain ⟨rfl, rfl⟩ := h1
      clear hit
      go_enter Try.func77, Try.ntmps77
      go_wp2_with fail
      with_reducible refine (HI.out _).mono ?_
      rintro e w2 ⟨rfl, hb2⟩
      have HK2 := Lib.hid (HK.out.bel hb2)
      clear hb2
      go_wp2_with fail
      go_ret
      exact ⟨rfl, HK2.out.at', HK2.out.save⟩
    · rw [if_neg h1]
      have hor : it = false ∨ (it = true ∧ ((deep : Int) == 32) = false ∧ deep < 32) := by
        cases it with
        | false => exact .inl rfl
        | true =>
          have h2 : ¬ deep = 32 := by simpa using h1
          exact .inr ⟨rfl, beq_eq_false_iff_ne.2 (by omega), by omega⟩
      have HOR := Lib.hid hor
      have HIT := Lib.hid hit
      clear h1 hit hor
      cases hfb : Dt.formB k i t l with
      | false =>
        rw [hfb] at HF
        clear hfb
        rcases HOR.out with rfl | ⟨rfl, v1, _⟩
        all_goals
          go_enter Try.func77, Try.ntmps77
          go_wp2_with fail
          with_reducible refine (HI.out _).mono ?_
          rintro e w2 ⟨rfl, hb2⟩
          have HK2 := Lib.hid (HK.out.bel hb2)
          obtain ⟨q0, q1, q2, q3⟩ := HK2.out.box
          clear hb2
          go_wp2_with fail
          with_reducible refine (HF.out _ HK2.out.dat).mono ?_
          rintro e w3 ⟨rfl, hb3⟩
          have HK3 := Lib.hid (HK2.out.bel hb3)
          clear hb3
          go_wp2_with fail
          go_ret
          exact ⟨rfl, HK3.out.at', HK3.out.save⟩
      | true =>
        have HL : Hid (l ≠ [] → deep < 32) := fun hne => by
          rcases HOR.out with e | ⟨_, _, h⟩
          · have := Dt.form_items hfb hne
            rw [HIT.out, e] at this
            cases this
          · exact h
        rw [hfb] at HF
        clear hfb
        rw [if_pos rfl]
        rcases HOR.out with rfl | ⟨rfl, v1, _⟩
        all_goals
          go_enter Try.func77, Try.ntmps77
          go_wp2_with fail
          with_reducible refine (HI.out _).mono ?_
          rintro e w2 ⟨rfl, hb2⟩
          have HK2 := Lib.hid (HK.out.bel hb2)
          obtain ⟨q0, q1, q2, q3⟩ := HK2.out.box
          clear hb2
          go_wp2_with fail
          with_reducible refine (HF.out _ HK2.out.dat).mono ?_
          rintro e w3 ⟨rfl, hb3⟩
          have HK3 := Lib.hid (HK2.out.bel hb3)
          obtain ⟨p0, p1, p2, p3⟩ := HK3.out.box
          clear hb3 q0 q1 q2 q3
          go_wp2_with fail
          clear p0 p1 p2 p3
          go_loopg [34] l.length (fun gk s34 wx => ∃ (n sk : Nat), n ≤ l.length ∧ gk = l.length - n ∧ s34 = .int .i64 n ∧ Hid (Ck w wx cb sk B k i t a l c) ∧ Hid (Dt.chks (l.take n) (deep + 1) (seen + 1) = (sk, 0)))
          case atStart => exact ⟨0, _, Nat.zero_le _, rfl, rfl, HK3.out, rfl⟩
          case round =>
            obtain ⟨n, sk, hn, rfl, rfl, HKR, HT⟩ := hrel
            by_cases hlt2 : n < l.length
            · obtain ⟨x, hx⟩ : ∃ x, l[n]? = some x := ⟨_, List.getElem?_eq_getElem hlt2⟩
              have hsk := Dt.chks_le (l.take n) (deep + 1) (seen + 1) (by have := HSN.out; have := HN.out; omega)
              rw [HT.out] at hsk
              obtain ⟨hsk1, hsk2, hsk3⟩ := hsk
              have hnk : n ≤ sk := by
                have h4 := hsk3 rfl
                have h5 := Dt.nodess_len (l.take n)
                simp [Nat.min_eq_left hn] at h5
                omega
              have hdp2 : deep + 1 ≤ 32 := by have := HL.out (fun e => by rw [e] at hx; simp at hx); omega
              obtain ⟨ad, cd, hv, h0 | ⟨b1, o1, ha1, hb1, _, hat⟩⟩ := HKR.out.dat.inv
              · simp only [Dt.list_mk] at h0
                rw [h0.2.2] at hx; simp at hx
              simp only [Dt.kind_mk, Dt.int_mk, Dt.text_mk, Dt.list_mk] at hv hat
              obtain rfl : a = ad := by simpa using (by simpa using hv : a = ad ∧ c = cd).1
              subst ha1
              obtain ⟨lx, d0, d1, d2, d3, hdx⟩ := hat n x hx
              obtain ⟨ax, cx, rfl⟩ := hdx.slice
              have hg1 : (0 : Int) ≤ n := by omega
              have hg2 : (n : Int) < l.length := by omega
              have hgw : IntKind.i64.wrap ((n : Int) + 1) = n + 1 := by rw [IntKind.wrap_i64]; omega
              have hgd : IntKind.i64.wrap ((deep : Int) + 1) = deep + 1 := by rw [IntKind.wrap_i64]; omega
              have hbA := (Below.refl wr.heap.size wr).alloc (Nat.le_refl _) (.cells #[.int .i64 x.kind, .int .i64 x.int, .string x.text, .slice ax x.list.length cx] 31)
              have HKA := Lib.hid (HKR.out.bel hbA)
              have hcall := HIH.out x (List.mem_of_getElem? hx) _ _ (deep + 1) sk hdp2 hsk2 (hdx.bel hbA (Nat.le_refl _)) HKA.out.at'
              have HCALL : Hid (Calls Try.prog 77 #[.pointer (some ⟨cb, 0, none⟩), .agg #[.int .i64 x.kind, .int .i64 x.int, .string x.text, .slice ax x.list.length cx], .int .i64 ((deep : Int) + 1)] (wr.alloc (.cells #[.int .i64 x.kind, .int .i64 x.int, .string x.text, .slice ax x.list.length cx] 31)) (CkPost (Dt.chk x (deep + 1) sk) cb (wr.alloc (.cells #[.int .i64 x.kind, .int .i64 x.int, .string x.text, .slice ax x.list.length cx] 31)))) := hcall
              have HX := Lib.hid hx
              clear hat hdx hbA hcall hx hv hsk1 hsk2 hsk3
              by_cases hz : (Dt.chk x (deep + 1) sk).2 = 0
              · have HZ := Lib.hid hz
                have HT2 := Lib.hid (Dt.chks_step HX.out HT.out hz)
                generalize Dt.chk x (deep + 1) sk = rr at *
                obtain ⟨r1, r2⟩ := rr
                dsimp only at *
                subst hz
                go_wp2_with fail
                with_reducible refine (HCALL.out).mono ?_
                rintro e w5 ⟨rfl, hC5, hS5⟩
                have HK5 := Lib.hid (HKA.out.save' hlt hB hS5 hC5)
                clear hC5 hS5
                go_wp2_with fail
                go_roundg (l.length - (n + 1))
                case measure => omega
                case rel => exact ⟨n + 1, _, by omega, rfl, by go_num, HK5.out, HT2.out⟩
              · have HT2 := Lib.hid (Dt.chks_stop HX.out HT.out hz)
                generalize Dt.chk x (deep + 1) sk = rr at *
                obtain ⟨r1, r2⟩ := rr
                dsimp only at *
                have z1 : (r2 != 0) = true := by simpa using hz
                clear hz
                go_wp2_with fail
                with_reducible refine (HCALL.out).mono ?_
                rintro e w5 ⟨rfl, hC5, hS5⟩
                have HK5 := Lib.hid (HKA.out.save' hlt hB hS5 hC5)
                clear hC5 hS5
                go_wp2_with fail
                go_ret
                rw [HT2.out]
                exact ⟨rfl, HK5.out.at', HK5.out.save⟩
            · obtain rfl : l.length = n := by omega
              go_wp2_with fail
              go_ret
              have hT := HT.out
              rw [List.take_length] at hT
              rw [hT]
              exact ⟨rfl, HKR.out.at', HKR.out.save⟩
end Go.Proofs.Ytalfnaielhbocaa
namespace Go.Proofs.Ytalfnaielhbocaa
open Go.RowKit
set_option maxRecDepth 100000
set_option linter.unusedVariables false
set_option linter.unusedSimpArgs false
set_option linter.unnecessarySimpa false
theorem dchk_n (B cb : Nat) (hB : B ≤ cb) : ∀ (n : Nat) (d : Dt) (v : Value) (deep seen : Nat) (w : World), d.depth ≤ n → deep ≤ 32 → seen ≤ 4096 → DtAt w (fun b => b < B) v d → Dt.Fit d → CkAt w cb seen → Calls Try.prog 77 #[.pointer (some ⟨cb, 0, none⟩), v, .int .i64 deep] w (CkPost (Dt.chk d deep seen) cb w)
  | 0, d, v, deep, seen, w, hn, _, _, _, _, _ => by
    rw [Dt.depth_list] at hn
    omega
  | n + 1, d, v, deep, seen, w, hn, h1, h2, h3, h4, h5 => by
    rw [Dt.depth_list] at hn
    obtain ⟨k, i, t, l⟩ := d
    refine dchk_step B cb k i t l deep seen v w hB h5 h1 h2 h3 h4 fun x hx vx w1 deep' seen' g1 g2 g3 g4 => dchk_n B cb hB n x vx deep' seen' w1 ?_ g1 g2 g3 (h4.of hx) g4
    have := Dt.depth_mem _ x hx
    simp only [Dt.list_mk] at hn
    omega
theorem ck_new (w : World) (o : Obj) (t : TypeId) : CkAt ((w.alloc o).alloc (.cells #[.int .i64 0] 135)) (w.heap.size + 1) 0 := heap_new (by simp)
def Dt.chkE (d : Dt) : Int := (Dt.chk d 0 0).2
theorem dcheck_any (d : Dt) (v : Value) (w : World) (hd : DtAt w (fun b => b < w.heap.size) v d) (hf : Dt.Fit d) : Calls Try.prog 68 #[v] w fun e w' => e = .returned (.int .i64 d.chkE) ∧ Below w.heap.size w w' := by
  have HC : Hid (∀ (cb : Nat) (w1 : World), w.heap.size ≤ cb → Below w.heap.size w w1 → CkAt w1 cb 0 → Calls Try.prog 77 #[.pointer (some ⟨cb, 0, none⟩), v, .int .i64 0] w1 (CkPost (Dt.chk d 0 0) cb w1)) := fun cb w1 h1 h2 h3 => dchk_n w.heap.size cb h1 d.depth d v 0 0 w1 (Nat.le_refl _) (by omega) (by omega) (hd.bel h2 (Nat.le_refl _)) hf h3
  obtain ⟨a, c, rfl, _⟩ := hd.inv
  unfold Dt.chkE
  clear hd hf
  go_enter Try.func68, Try.ntmps68
  go_wp2_with fail
  with_reducible refine (HC.out (w.heap.size + 1) _ (by omega) (((Below.refl _ _).alloc (Nat.le_refl _) _).alloc (by simp) _) (ck_new _ _ 0)).mono ?_
  rintro e w2 ⟨rfl, _, hs⟩
  have HS := Lib.hid hs
  clear hs
  go_wp2_with fail
  go_ret
  exact ⟨rfl, (((Below.refl _ _).alloc (Nat.le_refl _) _).alloc (by simp) _).trans (HS.out.below (by omega) (by simp; omega))⟩
end Go.Proofs.Ytalfnaielhbocaa
namespace Go.Proofs.Ytalfnaielhbocaa
open Go.RowKit
set_option maxRecDepth 100000
set_option linter.unusedVariables false
set_option linter.unusedSimpArgs false
set_option linter.unnecessarySimpa false
def RkPost (r : Nat × Int) (w : World) (e : Ending) (w' : World) : Prop := e = .returned (.tuple #[.int .i64 r.1, .int .i64 r.2]) ∧ Below w.heap.size w w'
set_option maxHeartbeats 8000000 in
set_option maxRecDepth 100000 in
theorem rchk_step (k i : Int) (t : ByteArray) (l : List Dt) (deep seen : Nat) (v : Value) (w : World) (hdp : deep ≤ 32) (hsn : seen ≤ 4096) (hd : DtAt w (fun _ => True) v (.mk k i t l)) (hf : Dt.Fit (.mk k i t l))
    (IH : ∀ x ∈ l, ∀ (vx : Value) (w1 : World) (deep' seen' : Nat), deep' ≤ 32 → seen' ≤ 4096 → DtAt w1 (fun _ => True) vx x → Calls Try.prog 63 #[vx, .int .i64 deep', .int .i64 seen'] w1 (RkPost (Dt.chk x deep' seen') w1)) :
    Calls Try.prog 63 #[v, .int .i64 deep, .int .i64 seen] w (RkPost (Dt.chk (.mk k i t l) deep seen) w) := by
  obtain ⟨a, c, rfl, _⟩ := hd.inv
  simp only [Dt.kind_mk, Dt.int_mk, Dt.text_mk, Dt.list_mk] at hd ⊢
  obtain ⟨ht, hl⟩ : t.size ≤ maxLen ∧ l.length ≤ 9223372036854775807 := by cases hf; exact ⟨by assumption, by assumption⟩
  rw [Dt.chk]
  by_cases h0 : seen = 4096
  · subst h0
    rw [if_pos rfl]
    clear hd hf IH ht hl
    go_enter Try.func63, Try.ntmps63
    go_wp2_with fail
    go_ret2
    exact ⟨rfl, (Below.refl _ _).alloc (Nat.le_refl _) _⟩
  · rw [if_neg h0]
    have g1 : ((seen : Int) == 4096) = false := beq_eq_false_iff_ne.2 (by omega)
    have g2 : (seen : Int) ≤ 4096 := by omega
    have g3 : (0 : Int) ≤ seen := by omega
    have HB1 := Lib.hid ((Below.refl w.heap.size w).alloc (Nat.le_refl _) (.cells #[.int .i64 k, .int .i64 i, .string t, .slice a l.length c] 31))
    have HX1 := Lib.hid (show Cell4 w.heap.size _ _ _ _ _ from new4 w (.int .i64 k) (.int .i64 i) (.string t) (.slice a l.length c) 31)
    have HD := Lib.hid hd
    have HF : Hid (∀ w1 : World, Below w.heap.size w w1 → Calls Try.prog 76 #[.agg #[.int .i64 k, .int .i64 i, .string t, .slice a l.length c]] w1 (FormPost (Dt.formB k i t l) w1)) := fun w1 h1 => rform_any k i t ht a l hl c w1 (hd.bel h1 (Nat.le_refl _))
    have HI : Hid (∀ w1 : World, Calls Try.prog 75 #[.agg #[.int .i64 k, .int .i64 i, .string t, .slice a l.length c]] w1 fun e w' => e = .returned (.bool (decide (5 ≤ k) && decide (k ≤ 7))) ∧ Below w1.heap.size w1 w') := fun w1 => ritems_any k i t a l.length c w1
    have HIH := Lib.hid IH
    have HN : Hid (seen ≠ 4096) := h0
    have HSN := Lib.hid hsn
    unfold FormPost at HF
    clear hd hf IH ht hl h0 hsn
    generalize hit : (decide (5 ≤ k) && decide (k ≤ 7)) = it at *
    by_cases h1 : (it && decide (deep = 32)) = true
    · rw [if_pos h1]
      rw [Bool.and_eq_true, decide_eq_true_eq] at h1
      obtain ⟨rfl, rfl⟩ := h1
      clear hit
      go_enter Try.func63, Try.ntmps63
      go_wp2_with fail
      with_reducible refine (HI.out _).mono ?_
      rintro e w2 ⟨rfl, hb2⟩
      have HB2 := Lib.hid (HB1.out.trans (hb2.mono HB1.out.size))
      clear hb2
      go_wp2_with fail
      go_ret2
      exact ⟨rfl, HB2.out⟩
    · rw [if_neg h1]
      have hor : it = false ∨ (it = true ∧ ((deep : Int) == 32) = false ∧ deep < 32) := by
        cases it with
        | false => exact .inl rfl
        | true =>
          have h2 : ¬ deep = 32 := by simpa using h1
          exact .inr ⟨rfl, beq_eq_false_iff_ne.2 (by omega), by omega⟩
      have HOR := Lib.hid hor
      have HIT := Lib.hid hit
      clear h1 hit hor
      cases hfb : Dt.formB k i t l with
      | false =>
        rw [hfb] at HF
        clear hfb
        rcases HOR.out with rfl | ⟨rfl, v1, _⟩
        all_goals
          go_enter Try.func63, Try.ntmps63
          go_wp2_with fail
          with_reducible refine (HI.out _).mono ?_
          rintro e w2 ⟨rfl, hb2⟩
          have HB2 := Lib.hid (HB1.out.trans (hb2.mono HB1.out.size))
          obtain ⟨q0, q1, q2, q3⟩ := HX1.out.below hb2 (by simp)
          clear hb2
          go_wp2_with fail
          with_reducible refine (HF.out _ HB2.out).mono ?_
          rintro e w3 ⟨rfl, hb3⟩
          have HB3 := Lib.hid (HB2.out.trans (hb3.mono HB2.out.size))
          clear hb3
          go_wp2_with fail
          go_ret2
          exact ⟨rfl, HB3.out⟩
      | true =>
        have HL : Hid (l ≠ [] → deep < 32) := fun hne => by
          rcases HOR.out with e | ⟨_, _, h⟩
          · have := Dt.form_items hfb hne
            rw [HIT.out, e] at this
            cases this
          · exact h
        rw [hfb] at HF
        clear hfb
        rw [if_pos rfl]
        rcases HOR.out with rfl | ⟨rfl, v1, _⟩
        all_goals
          go_enter Try.func63, Try.ntmps63
          go_wp2_with fail
          with_reducible refine (HI.out _).mono ?_
          rintro e w2 ⟨rfl, hb2⟩
          have HB2 := Lib.hid (HB1.out.trans (hb2.mono HB1.out.size))
          have HX2 := Lib.hid (HX1.out.below hb2 (by simp))
          obtain ⟨q0, q1, q2, q3⟩ := HX2.out
          have hs2 : w.heap.size < w2.heap.size := by have := hb2.size; simp at this; omega
          clear hb2
          go_wp2_with fail
          with_reducible refine (HF.out _ HB2.out).mono ?_
          rintro e w3 ⟨rfl, hb3⟩
          have HB3 := Lib.hid (HB2.out.trans (hb3.mono HB2.out.size))
          have HX3 := Lib.hid (HX2.out.below hb3 hs2)
          have hs3 : w.heap.size < w3.heap.size := Nat.lt_of_lt_of_le hs2 hb3.size
          clear hb3 q0 q1 q2 q3
          go_wp2_with fail
          go_loopg [2, 8, 9] l.length (fun gk s2 s8 s9 wx => ∃ (n sk : Nat), n ≤ l.length ∧ gk = l.length - n ∧ s9 = .int .i64 n ∧ s8 = .int .i64 0 ∧ s2 = .int .i64 sk ∧ Hid (Below w.heap.size w wx ∧ Cell4 w.heap.size (.int .i64 k) (.int .i64 i) (.string t) (.slice a l.length c) wx ∧ w.heap.size < wx.heap.size) ∧ Hid (Dt.chks (l.take n) (deep + 1) (seen + 1) = (sk, 0)))
          case atStart => exact ⟨0, seen + 1, Nat.zero_le _, rfl, rfl, rfl, by go_num, ⟨HB3.out, HX3.out, hs3⟩, rfl⟩
          case round =>
            obtain ⟨n, sk, hn, rfl, rfl, rfl, rfl, HKR, HT⟩ := hrel
            obtain ⟨q0, q1, q2, q3⟩ := HKR.out.2.1
            by_cases hlt2 : n < l.length
            · obtain ⟨x, hx⟩ : ∃ x, l[n]? = some x := ⟨_, List.getElem?_eq_getElem hlt2⟩
              have hsk := Dt.chks_le (l.take n) (deep + 1) (seen + 1) (by have := HSN.out; have := HN.out; omega)
              rw [HT.out] at hsk
              obtain ⟨hsk1, hsk2, hsk3⟩ := hsk
              have hnk : n ≤ sk := by
                have h4 := hsk3 rfl
                have h5 := Dt.nodess_len (l.take n)
                simp [Nat.min_eq_left hn] at h5
                omega
              have hdp2 : deep + 1 ≤ 32 := by have := HL.out (fun e => by rw [e] at hx; simp at hx); omega
              obtain ⟨ad, cd, hv, h0 | ⟨b1, o1, ha1, hb1, _, hat⟩⟩ := (HD.out.bel HKR.out.1 (Nat.le_refl _)).inv
              · simp only [Dt.list_mk] at h0
                rw [h0.2.2] at hx; simp at hx
              simp only [Dt.kind_mk, Dt.int_mk, Dt.text_mk, Dt.list_mk] at hv hat
              obtain rfl : a = ad := by simpa using (by simpa using hv : a = ad ∧ c = cd).1
              subst ha1
              obtain ⟨lx, d0, d1, d2, d3, hdx⟩ := hat n x hx
              obtain ⟨ax, cx, rfl⟩ := hdx.slice
              have hg1 : (0 : Int) ≤ n := by omega
              have hg2 : (n : Int) < l.length := by omega
              have hgw : IntKind.i64.wrap ((n : Int) + 1) = n + 1 := by rw [IntKind.wrap_i64]; omega
              have hgd : IntKind.i64.wrap ((deep : Int) + 1) = deep + 1 := by rw [IntKind.wrap_i64]; omega
              have hcall := HIH.out x (List.mem_of_getElem? hx) _ _ (deep + 1) sk hdp2 hsk2 hdx
              have HCALL : Hid (Calls Try.prog 63 #[.agg #[.int .i64 x.kind, .int .i64 x.int, .string x.text, .slice ax x.list.length cx], .int .i64 ((deep : Int) + 1), .int .i64 sk] wr (RkPost (Dt.chk x (deep + 1) sk) wr)) := hcall
              have HX := Lib.hid hx
              clear hat hdx hcall hx hv hsk1 hsk2 hsk3
              by_cases hz : (Dt.chk x (deep + 1) sk).2 = 0
              · have HZ := Lib.hid hz
                have HT2 := Lib.hid (Dt.chks_step HX.out HT.out hz)
                generalize Dt.chk x (deep + 1) sk = rr at *
                obtain ⟨r1, r2⟩ := rr
                dsimp only at *
                subst hz
                go_wp2_with fail
                with_reducible refine (HCALL.out).mono ?_
                rintro e w5 ⟨rfl, hb5⟩
                have HK5 : Hid (Below w.heap.size w w5 ∧ Cell4 w.heap.size (.int .i64 k) (.int .i64 i) (.string t) (.slice (some ⟨b1, o1, none⟩) l.length c) w5 ∧ w.heap.size < w5.heap.size) := ⟨HKR.out.1.trans (hb5.mono HKR.out.1.size), HKR.out.2.1.below hb5 HKR.out.2.2, Nat.lt_of_lt_of_le HKR.out.2.2 hb5.size⟩
                clear hb5
                go_wp2_with fail
                go_roundg (l.length - (n + 1))
                case measure => omega
                case rel => exact ⟨n + 1, _, by omega, rfl, by go_num, rfl, rfl, HK5.out, HT2.out⟩
              · have HT2 := Lib.hid (Dt.chks_stop HX.out HT.out hz)
                generalize Dt.chk x (deep + 1) sk = rr at *
                obtain ⟨r1, r2⟩ := rr
                dsimp only at *
                have z1 : (r2 != 0) = true := by simpa using hz
                clear hz
                go_wp2_with fail
                with_reducible refine (HCALL.out).mono ?_
                rintro e w5 ⟨rfl, hb5⟩
                have HB5 := Lib.hid (HKR.out.1.trans (hb5.mono HKR.out.1.size))
                clear hb5
                go_wp2_with fail
                go_ret2
                rw [HT2.out]
                exact ⟨rfl, HB5.out⟩
            · obtain rfl : l.length = n := by omega
              go_wp2_with fail
              go_ret2
              have hT := HT.out
              rw [List.take_length] at hT
              rw [hT]
              exact ⟨rfl, HKR.out.1⟩
theorem rchk_n : ∀ (n : Nat) (d : Dt) (v : Value) (deep seen : Nat) (w : World), d.depth ≤ n → deep ≤ 32 → seen ≤ 4096 → DtAt w (fun _ => True) v d → Dt.Fit d → Calls Try.prog 63 #[v, .int .i64 deep, .int .i64 seen] w (RkPost (Dt.chk d deep seen) w)
  | 0, d, v, deep, seen, w, hn, _, _, _, _ => by
    rw [Dt.depth_list] at hn
    omega
  | n + 1, d, v, deep, seen, w, hn, h1, h2, h3, h4 => by
    rw [Dt.depth_list] at hn
    obtain ⟨k, i, t, l⟩ := d
    refine rchk_step k i t l deep seen v w h1 h2 h3 h4 fun x hx vx w1 deep' seen' g1 g2 g3 => rchk_n n x vx deep' seen' w1 ?_ g1 g2 g3 (h4.of hx)
    have := Dt.depth_mem _ x hx
    simp only [Dt.list_mk] at hn
    omega
theorem rcheck_any (d : Dt) (v : Value) (w : World) (hd : DtAt w (fun _ => True) v d) (hf : Dt.Fit d) : Calls Try.prog 47 #[v] w fun e w' => e = .returned (.int .i64 d.chkE) ∧ Below w.heap.size w w' := by
  have HC : Hid (∀ (w1 : World), Below w.heap.size w w1 → Calls Try.prog 63 #[v, .int .i64 0, .int .i64 0] w1 (RkPost (Dt.chk d 0 0) w1)) := fun w1 h2 => rchk_n d.depth d v 0 0 w1 (Nat.le_refl _) (by omega) (by omega) (hd.bel h2 (Nat.le_refl _)) hf
  obtain ⟨a, c, rfl, _⟩ := hd.inv
  unfold Dt.chkE
  clear hd hf
  go_enter Try.func47, Try.ntmps47
  go_wp2_with fail
  with_reducible refine (HC.out _ ((Below.refl _ _).alloc (Nat.le_refl _) _)).mono ?_
  rintro e w2 ⟨rfl, hb⟩
  have HB := Lib.hid hb
  clear hb
  go_wp2_with fail
  go_ret
  exact ⟨rfl, ((Below.refl _ _).alloc (Nat.le_refl _) _).trans (HB.out.mono (by simp))⟩
end Go.Proofs.Ytalfnaielhbocaa
namespace Go.Proofs.Ytalfnaielhbocaa
open Go.RowKit
set_option maxRecDepth 100000
set_option linter.unusedVariables false
set_option linter.unusedSimpArgs false
set_option linter.unnecessarySimpa false
section
variable {w0 w : World} {h : Nat} {T : List Hp.Th} {L : List (Nat × Obj)}
theorem Lw.store {b : Nat} {l : List Hp.V} {t : TypeId} (H : Lw w0 w h T ((b, .cells (Hp.flatV l).toArray t (0, 0)) :: L)) (j : Nat) (v : Hp.V) (hj : j < l.length) :
    Lw w0 (((w.setCell ⟨b, j * 3, none⟩ (.int .i64 v.kind)).setCell ⟨b, j * 3 + 1, none⟩ (.int .i64 v.int)).setCell ⟨b, j * 3 + 2, none⟩ (.string v.text)) h T ((b, .cells (Hp.flatV (l.set j v)).toArray t (0, 0)) :: L) := by
  have h1 := ((H.set (j * 3) (.int .i64 v.kind)).set (j * 3 + 1) (.int .i64 v.int)).set (j * 3 + 2) (.string v.text)
  rw [← Hp.flatV_set l j v hj]
  simpa using h1
theorem Lw.part {b : Nat} {l : List Hp.V} {t : TypeId} (H : Lw w0 w h T L) (hx : (b, .cells (Hp.flatV l).toArray t (0, 0)) ∈ L) {j : Nat} {v : Hp.V} (hv : l[j]? = some v) :
    w.cell? ⟨b, j * 3, none⟩ = some (.int .i64 v.kind) ∧ w.cell? ⟨b, j * 3 + 1, none⟩ = some (.int .i64 v.int) ∧ w.cell? ⟨b, j * 3 + 2, none⟩ = some (.string v.text) ∧ (∀ i, w.frozen? ⟨b, i, none⟩ = false) ∧ b < w.heap.size := by
  obtain ⟨f0, f1, f2⟩ := Hp.flatV_at l j v hv
  have hb := (H.find hx).1
  refine ⟨?_, ?_, ?_, fun i => frozen_of_row w b i _ _ hb, (H.find hx).2.1⟩
  · rw [cell_of_row w b _ _ _ _ hb]; simpa using f0
  · rw [cell_of_row w b _ _ _ _ hb]; simpa using f1
  · rw [cell_of_row w b _ _ _ _ hb]; simpa using f2
end
end Go.Proofs.Ytalfnaielhbocaa
namespace Go.Proofs.Ytalfnaielhbocaa
open Go.RowKit
set_option maxRecDepth 100000
set_option linter.unusedVariables false
set_option linter.unusedSimpArgs false
set_option linter.unnecessarySimpa false
namespace Hp
def sizeOk (kind : Int) (l : List V) : Bool := if kind = 0 then decide (l.length = 2) else if kind = 3 then decide (l.length = 1) else if kind = 1 then decide (l.length ≤ 1000) else if kind = 2 then decide (l.length ≤ 1000) && !(l.any fun v => decide (v.kind ≠ 2)) else decide (kind = 4)
def makeOk (T : List Th) (kind : Int) (l : List V) : Bool := l.all (may T.length) && sizeOk kind l
end Hp
theorem make1_any (v : Hp.V) (w : World) : Calls Try.prog 52 #[v.val] w fun e w' => e = .returned (.bool (decide (v.kind ≠ 2))) ∧ Below w.heap.size w w' := by
  unfold Hp.V.val
  by_cases h : v.kind = 2
  · have g1 : (v.kind != 2) = false := by simp [h]
    have e : decide (v.kind ≠ 2) = false := by simp [h]
    rw [e]
    clear h e
    go_enter Try.func52, Try.ntmps52
    go_wp2_with fail
    go_ret
    exact ⟨rfl, (Below.refl _ _).alloc (Nat.le_refl _) _⟩
  · have g1 : (v.kind != 2) = true := by simp [h]
    have e : decide (v.kind ≠ 2) = true := by simp [h]
    rw [e]
    clear h e
    go_enter Try.func52, Try.ntmps52
    go_wp2_with fail
    go_ret
    exact ⟨rfl, (Below.refl _ _).alloc (Nat.le_refl _) _⟩
structure MakeIn (w : World) (h : Nat) (O : Nat → Prop) (T : List Hp.Th) (av : Value) (l : List Hp.V) : Prop where
  st : HSt w 83 h O T
  vs : VSl w av l
  len : l.length ≤ 1000000
  tx : ∀ x ∈ l, x.text.size ≤ maxLen
theorem MakeIn.bel {w w' : World} {h : Nat} {O : Nat → Prop} {T : List Hp.Th} {av : Value} {l : List Hp.V} (H : MakeIn w h O T av l) (hb : Below w.heap.size w w') : MakeIn w' h O T av l := ⟨H.st.below hb (Nat.le_refl _), H.vs.below hb (Nat.le_refl _), H.len, H.tx⟩
theorem MakeIn.contains {w : World} {h : Nat} {O : Nat → Prop} {T : List Hp.Th} {av : Value} {l : List Hp.V} (H : MakeIn w h O T av l) (b : Bool) (hb : (l.any fun v => decide (v.kind ≠ 2)) = b) : Makes w 51 #[av, .func (.func 52) #[] #[]] (.bool b) := by
  subst hb
  intro w1 hb
  exact contains_any 52 #[] (fun v => decide (v.kind ≠ 2)) (fun _ _ => rfl) av l w1 (H.bel hb).vs H.len fun W x hx _ => by simpa using make1_any x W
theorem zer_res {w w1 : World} (hb : Below (w.alloc (.cells #[.int .i64 0, .int .i64 0, .string ⟨#[]⟩] 64)).heap.size (w.alloc (.cells #[.int .i64 0, .int .i64 0, .string ⟨#[]⟩] 64)) w1) : w1.heap[w.heap.size]? = some (.cells #[.int .i64 0, .int .i64 0, .string ⟨#[]⟩] 64 (0, 0)) ∧ Below w.heap.size w w1 ∧ w.heap.size < w1.heap.size := by
  refine ⟨(hb.block _ (by simp)).trans (heap_alloc_new w _), ((Below.refl _ _).alloc (Nat.le_refl _) _).trans (hb.mono (by simp)), ?_⟩
  have := hb.size
  simp at this
  omega
structure Zer3 (w : World) (g : Nat) : Prop where
  c0 : w.cell? ⟨g, 0, none⟩ = some (.int .i64 0)
  c1 : w.cell? ⟨g, 1, none⟩ = some (.int .i64 0)
  c2 : w.cell? ⟨g, 2, none⟩ = some (.string ⟨#[]⟩)
  f0 : w.frozen? ⟨g, 0, none⟩ = false
  f1 : w.frozen? ⟨g, 1, none⟩ = false
  f2 : w.frozen? ⟨g, 2, none⟩ = false
theorem Zer3.of {w : World} {g : Nat} {t : TypeId} (h : w.heap[g]? = some (.cells #[.int .i64 0, .int .i64 0, .string ⟨#[]⟩] t (0, 0))) : Zer3 w g :=
  ⟨cell_of_row w _ 0 _ _ _ h, cell_of_row w _ 1 _ _ _ h, cell_of_row w _ 2 _ _ _ h, frozen_of_row w _ 0 _ _ h, frozen_of_row w _ 1 _ _ h, frozen_of_row w _ 2 _ _ h⟩
def MakeNo (w : World) (e : Ending) (w' : World) : Prop := e = .returned (.tuple #[.agg #[.int .i64 0, .int .i64 0, .string ⟨#[]⟩], .int .i64 1]) ∧ Below w.heap.size w w'
set_option maxHeartbeats 4000000 in
set_option maxRecDepth 100000 in
theorem make_k1 {w : World} {h : Nat} {O : Nat → Prop} {T : List Hp.Th} {av : Value} {l : List Hp.V} (H : MakeIn w h O T av l) (kind : Int) (hk : kind < 0) (hA : l.all (Hp.may T.length) = true) : Calls Try.prog 36 #[.pointer (some ⟨h, 0, none⟩), .int .i64 kind, av] w (MakeNo w) := by
  have HM := Lib.hid H
  have hall := all_st H.st H.vs H.len H.tx
  have HALL := Lib.hid hall
  obtain ⟨a, c, rfl⟩ := H.vs.len
  clear H hall
  rw [hA] at HALL
  have k0 : (kind == 0) = false := beq_eq_false_iff_ne.2 (by omega)
  have k1 : (kind == 3) = false := beq_eq_false_iff_ne.2 (by omega)
  have k2 : (kind == 1) = false := beq_eq_false_iff_ne.2 (by omega)
  have k3 : (kind == 2) = false := beq_eq_false_iff_ne.2 (by omega)
  have k5 : decide (kind < 0) = true := decide_eq_true hk
  clear hA hk
  unfold MakeNo
  unfold Makes at HALL
  go_enter Try.func36, Try.ntmps36
  go_wp2_with fail
  with_reducible refine (HALL.out _ ((Below.refl _ _).alloc (Nat.le_refl _) _)).mono ?_
  rintro e w2 ⟨rfl, hb2⟩
  obtain ⟨hz2, hw2, hs2⟩ := zer_res hb2
  obtain ⟨z0, z1, z2, y0, y1, y2⟩ := Zer3.of hz2
  have HZ2 := Lib.hid hz2
  have HW2 := Lib.hid hw2
  clear hb2 hz2 hw2
  go_wp2_with fail
  refine bodyPost_ret (res2 rfl _ _ w.heap.size 64 _ (0, 0) rfl (three_set _ _ _ _ _ _ _ _ _ HZ2.out) valD valSize) rfl ?_
  exact ⟨rfl, below_three HW2.out (Nat.le_refl _) _ _ _⟩
set_option maxHeartbeats 4000000 in
set_option maxRecDepth 100000 in
theorem make_k2 {w : World} {h : Nat} {O : Nat → Prop} {T : List Hp.Th} {av : Value} {l : List Hp.V} (H : MakeIn w h O T av l) (kind : Int) (hk : 4 < kind) (hA : l.all (Hp.may T.length) = true) : Calls Try.prog 36 #[.pointer (some ⟨h, 0, none⟩), .int .i64 kind, av] w (MakeNo w) := by
  have HM := Lib.hid H
  have hall := all_st H.st H.vs H.len H.tx
  have HALL := Lib.hid hall
  obtain ⟨a, c, rfl⟩ := H.vs.len
  clear H hall
  rw [hA] at HALL
  have k0 : (kind == 0) = false := beq_eq_false_iff_ne.2 (by omega)
  have k1 : (kind == 3) = false := beq_eq_false_iff_ne.2 (by omega)
  have k2 : (kind == 1) = false := beq_eq_false_iff_ne.2 (by omega)
  have k3 : (kind == 2) = false := beq_eq_false_iff_ne.2 (by omega)
  have k5 : decide (kind < 0) = false := decide_eq_false (by omega)
  have k6 : decide (5 ≤ kind) = true := decide_eq_true (by omega)
  clear hA hk
  unfold MakeNo
  unfold Makes at HALL
  go_enter Try.func36, Try.ntmps36
  go_wp2_with fail
  with_reducible refine (HALL.out _ ((Below.refl _ _).alloc (Nat.le_refl _) _)).mono ?_
  rintro e w2 ⟨rfl, hb2⟩
  obtain ⟨hz2, hw2, hs2⟩ := zer_res hb2
  obtain ⟨z0, z1, z2, y0, y1, y2⟩ := Zer3.of hz2
  have HZ2 := Lib.hid hz2
  have HW2 := Lib.hid hw2
  clear hb2 hz2 hw2
  go_wp2_with fail
  refine bodyPost_ret (res2 rfl _ _ w.heap.size 64 _ (0, 0) rfl (three_set _ _ _ _ _ _ _ _ _ HZ2.out) valD valSize) rfl ?_
  exact ⟨rfl, below_three HW2.out (Nat.le_refl _) _ _ _⟩
set_option maxHeartbeats 4000000 in
set_option maxRecDepth 100000 in
theorem make_k3 {w : World} {h : Nat} {O : Nat → Prop} {T : List Hp.Th} {av : Value} {l : List Hp.V} (H : MakeIn w h O T av l) (kind : Int) (hk : kind < 0 ∨ 4 < kind) (hA : l.all (Hp.may T.length) = false) : Calls Try.prog 36 #[.pointer (some ⟨h, 0, none⟩), .int .i64 kind, av] w (MakeNo w) := by
  have HM := Lib.hid H
  have hall := all_st H.st H.vs H.len H.tx
  have HALL := Lib.hid hall
  obtain ⟨a, c, rfl⟩ := H.vs.len
  clear H hall
  rw [hA] at HALL
  have k0 : (kind == 0) = false := beq_eq_false_iff_ne.2 (by omega)
  have k1 : (kind == 3) = false := beq_eq_false_iff_ne.2 (by omega)
  have k2 : (kind == 1) = false := beq_eq_false_iff_ne.2 (by omega)
  have k3 : (kind == 2) = false := beq_eq_false_iff_ne.2 (by omega)
  clear hA hk
  unfold MakeNo
  unfold Makes at HALL
  go_enter Try.func36, Try.ntmps36
  go_wp2_with fail
  with_reducible refine (HALL.out _ ((Below.refl _ _).alloc (Nat.le_refl _) _)).mono ?_
  rintro e w2 ⟨rfl, hb2⟩
  obtain ⟨hz2, hw2, hs2⟩ := zer_res hb2
  obtain ⟨z0, z1, z2, y0, y1, y2⟩ := Zer3.of hz2
  have HZ2 := Lib.hid hz2
  have HW2 := Lib.hid hw2
  clear hb2 hz2 hw2
  go_wp2_with fail
  refine bodyPost_ret (res2 rfl _ _ w.heap.size 64 _ (0, 0) rfl (three_set _ _ _ _ _ _ _ _ _ HZ2.out) valD valSize) rfl ?_
  exact ⟨rfl, below_three HW2.out (Nat.le_refl _) _ _ _⟩
set_option maxHeartbeats 4000000 in
set_option maxRecDepth 100000 in
theorem make_00 {w : World} {h : Nat} {O : Nat → Prop} {T : List Hp.Th} {av : Value} {l : List Hp.V} (H : MakeIn w h O T av l) (hA : l.all (Hp.may T.length) = false) : Calls Try.prog 36 #[.pointer (some ⟨h, 0, none⟩), .int .i64 0, av] w (MakeNo w) := by
  have HM := Lib.hid H
  have hall := all_st H.st H.vs H.len H.tx
  have HALL := Lib.hid hall
  obtain ⟨a, c, rfl⟩ := H.vs.len
  clear H hall
  rw [hA] at HALL
  clear hA
  unfold MakeNo
  unfold Makes at HALL
  go_enter Try.func36, Try.ntmps36
  go_wp2_with fail
  with_reducible refine (HALL.out _ ((Below.refl _ _).alloc (Nat.le_refl _) _)).mono ?_
  rintro e w2 ⟨rfl, hb2⟩
  obtain ⟨hz2, hw2, hs2⟩ := zer_res hb2
  obtain ⟨z0, z1, z2, y0, y1, y2⟩ := Zer3.of hz2
  have HZ2 := Lib.hid hz2
  have HW2 := Lib.hid hw2
  clear hb2 hz2 hw2
  go_wp2_with fail
  refine bodyPost_ret (res2 rfl _ _ w.heap.size 64 _ (0, 0) rfl (three_set _ _ _ _ _ _ _ _ _ HZ2.out) valD valSize) rfl ?_
  exact ⟨rfl, below_three HW2.out (Nat.le_refl _) _ _ _⟩
set_option maxHeartbeats 4000000 in
set_option maxRecDepth 100000 in
theorem make_30 {w : World} {h : Nat} {O : Nat → Prop} {T : List Hp.Th} {av : Value} {l : List Hp.V} (H : MakeIn w h O T av l) (hA : l.all (Hp.may T.length) = false) : Calls Try.prog 36 #[.pointer (some ⟨h, 0, none⟩), .int .i64 3, av] w (MakeNo w) := by
  have HM := Lib.hid H
  have hall := all_st H.st H.vs H.len H.tx
  have HALL := Lib.hid hall
  obtain ⟨a, c, rfl⟩ := H.vs.len
  clear H hall
  rw [hA] at HALL
  clear hA
  unfold MakeNo
  unfold Makes at HALL
  go_enter Try.func36, Try.ntmps36
  go_wp2_with fail
  with_reducible refine (HALL.out _ ((Below.refl _ _).alloc (Nat.le_refl _) _)).mono ?_
  rintro e w2 ⟨rfl, hb2⟩
  obtain ⟨hz2, hw2, hs2⟩ := zer_res hb2
  obtain ⟨z0, z1, z2, y0, y1, y2⟩ := Zer3.of hz2
  have HZ2 := Lib.hid hz2
  have HW2 := Lib.hid hw2
  clear hb2 hz2 hw2
  go_wp2_with fail
  refine bodyPost_ret (res2 rfl _ _ w.heap.size 64 _ (0, 0) rfl (three_set _ _ _ _ _ _ _ _ _ HZ2.out) valD valSize) rfl ?_
  exact ⟨rfl, below_three HW2.out (Nat.le_refl _) _ _ _⟩
set_option maxHeartbeats 4000000 in
set_option maxRecDepth 100000 in
theorem make_10 {w : World} {h : Nat} {O : Nat → Prop} {T : List Hp.Th} {av : Value} {l : List Hp.V} (H : MakeIn w h O T av l) (hA : l.all (Hp.may T.length) = false) : Calls Try.prog 36 #[.pointer (some ⟨h, 0, none⟩), .int .i64 1, av] w (MakeNo w) := by
  have HM := Lib.hid H
  have hall := all_st H.st H.vs H.len H.tx
  have HALL := Lib.hid hall
  obtain ⟨a, c, rfl⟩ := H.vs.len
  clear H hall
  rw [hA] at HALL
  clear hA
  unfold MakeNo
  unfold Makes at HALL
  go_enter Try.func36, Try.ntmps36
  go_wp2_with fail
  with_reducible refine (HALL.out _ ((Below.refl _ _).alloc (Nat.le_refl _) _)).mono ?_
  rintro e w2 ⟨rfl, hb2⟩
  obtain ⟨hz2, hw2, hs2⟩ := zer_res hb2
  obtain ⟨z0, z1, z2, y0, y1, y2⟩ := Zer3.of hz2
  have HZ2 := Lib.hid hz2
  have HW2 := Lib.hid hw2
  clear hb2 hz2 hw2
  go_wp2_with fail
  refine bodyPost_ret (res2 rfl _ _ w.heap.size 64 _ (0, 0) rfl (three_set _ _ _ _ _ _ _ _ _ HZ2.out) valD valSize) rfl ?_
  exact ⟨rfl, below_three HW2.out (Nat.le_refl _) _ _ _⟩
set_option maxHeartbeats 4000000 in
set_option maxRecDepth 100000 in
theorem make_20 {w : World} {h : Nat} {O : Nat → Prop} {T : List Hp.Th} {av : Value} {l : List Hp.V} (H : MakeIn w h O T av l) (hA : l.all (Hp.may T.length) = false) : Calls Try.prog 36 #[.pointer (some ⟨h, 0, none⟩), .int .i64 2, av] w (MakeNo w) := by
  have HM := Lib.hid H
  have hall := all_st H.st H.vs H.len H.tx
  have HALL := Lib.hid hall
  obtain ⟨a, c, rfl⟩ := H.vs.len
  clear H hall
  rw [hA] at HALL
  clear hA
  unfold MakeNo
  unfold Makes at HALL
  go_enter Try.func36, Try.ntmps36
  go_wp2_with fail
  with_reducible refine (HALL.out _ ((Below.refl _ _).alloc (Nat.le_refl _) _)).mono ?_
  rintro e w2 ⟨rfl, hb2⟩
  obtain ⟨hz2, hw2, hs2⟩ := zer_res hb2
  obtain ⟨z0, z1, z2, y0, y1, y2⟩ := Zer3.of hz2
  have HZ2 := Lib.hid hz2
  have HW2 := Lib.hid hw2
  clear hb2 hz2 hw2
  go_wp2_with fail
  refine bodyPost_ret (res2 rfl _ _ w.heap.size 64 _ (0, 0) rfl (three_set _ _ _ _ _ _ _ _ _ HZ2.out) valD valSize) rfl ?_
  exact ⟨rfl, below_three HW2.out (Nat.le_refl _) _ _ _⟩
set_option maxHeartbeats 4000000 in
set_option maxRecDepth 100000 in
theorem make_40 {w : World} {h : Nat} {O : Nat → Prop} {T : List Hp.Th} {av : Value} {l : List Hp.V} (H : MakeIn w h O T av l) (hA : l.all (Hp.may T.length) = false) : Calls Try.prog 36 #[.pointer (some ⟨h, 0, none⟩), .int .i64 4, av] w (MakeNo w) := by
  have HM := Lib.hid H
  have hall := all_st H.st H.vs H.len H.tx
  have HALL := Lib.hid hall
  obtain ⟨a, c, rfl⟩ := H.vs.len
  clear H hall
  rw [hA] at HALL
  clear hA
  unfold MakeNo
  unfold Makes at HALL
  go_enter Try.func36, Try.ntmps36
  go_wp2_with fail
  with_reducible refine (HALL.out _ ((Below.refl _ _).alloc (Nat.le_refl _) _)).mono ?_
  rintro e w2 ⟨rfl, hb2⟩
  obtain ⟨hz2, hw2, hs2⟩ := zer_res hb2
  obtain ⟨z0, z1, z2, y0, y1, y2⟩ := Zer3.of hz2
  have HZ2 := Lib.hid hz2
  have HW2 := Lib.hid hw2
  clear hb2 hz2 hw2
  go_wp2_with fail
  refine bodyPost_ret (res2 rfl _ _ w.heap.size 64 _ (0, 0) rfl (three_set _ _ _ _ _ _ _ _ _ HZ2.out) valD valSize) rfl ?_
  exact ⟨rfl, below_three HW2.out (Nat.le_refl _) _ _ _⟩
set_option maxHeartbeats 4000000 in
set_option maxRecDepth 100000 in
theorem make_01 {w : World} {h : Nat} {O : Nat → Prop} {T : List Hp.Th} {av : Value} {l : List Hp.V} (H : MakeIn w h O T av l) (hA : l.all (Hp.may T.length) = true) (hn : l.length ≠ 2) : Calls Try.prog 36 #[.pointer (some ⟨h, 0, none⟩), .int .i64 0, av] w (MakeNo w) := by
  have HM := Lib.hid H
  have hall := all_st H.st H.vs H.len H.tx
  have HALL := Lib.hid hall
  obtain ⟨a, c, rfl⟩ := H.vs.len
  clear H hall
  rw [hA] at HALL
  have k1 : ((l.length : Int) == 2) = false := beq_eq_false_iff_ne.2 (by omega)
  clear hA hn
  unfold MakeNo
  unfold Makes at HALL
  go_enter Try.func36, Try.ntmps36
  go_wp2_with fail
  with_reducible refine (HALL.out _ ((Below.refl _ _).alloc (Nat.le_refl _) _)).mono ?_
  rintro e w2 ⟨rfl, hb2⟩
  obtain ⟨hz2, hw2, hs2⟩ := zer_res hb2
  obtain ⟨z0, z1, z2, y0, y1, y2⟩ := Zer3.of hz2
  have HZ2 := Lib.hid hz2
  have HW2 := Lib.hid hw2
  clear hb2 hz2 hw2
  go_wp2_with fail
  refine bodyPost_ret (res2 rfl _ _ w.heap.size 64 _ (0, 0) rfl (three_set _ _ _ _ _ _ _ _ _ HZ2.out) valD valSize) rfl ?_
  exact ⟨rfl, below_three HW2.out (Nat.le_refl _) _ _ _⟩
set_option maxHeartbeats 4000000 in
set_option maxRecDepth 100000 in
theorem make_31 {w : World} {h : Nat} {O : Nat → Prop} {T : List Hp.Th} {av : Value} {l : List Hp.V} (H : MakeIn w h O T av l) (hA : l.all (Hp.may T.length) = true) (hn : l.length ≠ 1) : Calls Try.prog 36 #[.pointer (some ⟨h, 0, none⟩), .int .i64 3, av] w (MakeNo w) := by
  have HM := Lib.hid H
  have hall := all_st H.st H.vs H.len H.tx
  have HALL := Lib.hid hall
  obtain ⟨a, c, rfl⟩ := H.vs.len
  clear H hall
  rw [hA] at HALL
  have k1 : ((l.length : Int) == 1) = false := beq_eq_false_iff_ne.2 (by omega)
  clear hA hn
  unfold MakeNo
  unfold Makes at HALL
  go_enter Try.func36, Try.ntmps36
  go_wp2_with fail
  with_reducible refine (HALL.out _ ((Below.refl _ _).alloc (Nat.le_refl _) _)).mono ?_
  rintro e w2 ⟨rfl, hb2⟩
  obtain ⟨hz2, hw2, hs2⟩ := zer_res hb2
  obtain ⟨z0, z1, z2, y0, y1, y2⟩ := Zer3.of hz2
  have HZ2 := Lib.hid hz2
  have HW2 := Lib.hid hw2
  clear hb2 hz2 hw2
  go_wp2_with fail
  refine bodyPost_ret (res2 rfl _ _ w.heap.size 64 _ (0, 0) rfl (three_set _ _ _ _ _ _ _ _ _ HZ2.out) valD valSize) rfl ?_
  exact ⟨rfl, below_three HW2.out (Nat.le_refl _) _ _ _⟩
set_option maxHeartbeats 4000000 in
set_option maxRecDepth 100000 in
theorem make_11 {w : World} {h : Nat} {O : Nat → Prop} {T : List Hp.Th} {av : Value} {l : List Hp.V} (H : MakeIn w h O T av l) (hA : l.all (Hp.may T.length) = true) (hn : 1000 < l.length) : Calls Try.prog 36 #[.pointer (some ⟨h, 0, none⟩), .int .i64 1, av] w (MakeNo w) := by
  have HM := Lib.hid H
  have hall := all_st H.st H.vs H.len H.tx
  have HALL := Lib.hid hall
  obtain ⟨a, c, rfl⟩ := H.vs.len
  clear H hall
  rw [hA] at HALL
  have k1 : decide ((l.length : Int) ≤ 1000) = false := decide_eq_false (by omega)
  clear hA hn
  unfold MakeNo
  unfold Makes at HALL
  go_enter Try.func36, Try.ntmps36
  go_wp2_with fail
  with_reducible refine (HALL.out _ ((Below.refl _ _).alloc (Nat.le_refl _) _)).mono ?_
  rintro e w2 ⟨rfl, hb2⟩
  obtain ⟨hz2, hw2, hs2⟩ := zer_res hb2
  obtain ⟨z0, z1, z2, y0, y1, y2⟩ := Zer3.of hz2
  have HZ2 := Lib.hid hz2
  have HW2 := Lib.hid hw2
  clear hb2 hz2 hw2
  go_wp2_with fail
  refine bodyPost_ret (res2 rfl _ _ w.heap.size 64 _ (0, 0) rfl (three_set _ _ _ _ _ _ _ _ _ HZ2.out) valD valSize) rfl ?_
  exact ⟨rfl, below_three HW2.out (Nat.le_refl _) _ _ _⟩
set_option maxHeartbeats 4000000 in
set_option maxRecDepth 100000 in
theorem make_21 {w : World} {h : Nat} {O : Nat → Prop} {T : List Hp.Th} {av : Value} {l : List Hp.V} (H : MakeIn w h O T av l) (hA : l.all (Hp.may T.length) = true) (hn : 1000 < l.length) : Calls Try.prog 36 #[.pointer (some ⟨h, 0, none⟩), .int .i64 2, av] w (MakeNo w) := by
  have HM := Lib.hid H
  have hall := all_st H.st H.vs H.len H.tx
  have HALL := Lib.hid hall
  obtain ⟨a, c, rfl⟩ := H.vs.len
  clear H hall
  rw [hA] at HALL
  have k1 : decide ((l.length : Int) ≤ 1000) = false := decide_eq_false (by omega)
  clear hA hn
  unfold MakeNo
  unfold Makes at HALL
  go_enter Try.func36, Try.ntmps36
  go_wp2_with fail
  with_reducible refine (HALL.out _ ((Below.refl _ _).alloc (Nat.le_refl _) _)).mono ?_
  rintro e w2 ⟨rfl, hb2⟩
  obtain ⟨hz2, hw2, hs2⟩ := zer_res hb2
  obtain ⟨z0, z1, z2, y0, y1, y2⟩ := Zer3.of hz2
  have HZ2 := Lib.hid hz2
  have HW2 := Lib.hid hw2
  clear hb2 hz2 hw2
  go_wp2_with fail
  refine bodyPost_ret (res2 rfl _ _ w.heap.size 64 _ (0, 0) rfl (three_set _ _ _ _ _ _ _ _ _ HZ2.out) valD valSize) rfl ?_
  exact ⟨rfl, below_three HW2.out (Nat.le_refl _) _ _ _⟩
set_option maxHeartbeats 4000000 in
set_option maxRecDepth 100000 in
theorem make_22 {w : World} {h : Nat} {O : Nat → Prop} {T : List Hp.Th} {av : Value} {l : List Hp.V} (H : MakeIn w h O T av l) (hA : l.all (Hp.may T.length) = true) (hn : l.length ≤ 1000) (hC : (l.any fun v => decide (v.kind ≠ 2)) = true) : Calls Try.prog 36 #[.pointer (some ⟨h, 0, none⟩), .int .i64 2, av] w (MakeNo w) := by
  have HM := Lib.hid H
  have hall := all_st H.st H.vs H.len H.tx
  have HALL := Lib.hid hall
  obtain ⟨a, c, rfl⟩ := H.vs.len
  clear H hall
  rw [hA] at HALL
  have HCT := Lib.hid (HM.out.contains _ hC)
  unfold Makes at HCT
  have k1 : decide ((l.length : Int) ≤ 1000) = true := decide_eq_true (by omega)
  clear hA hn hC
  unfold MakeNo
  unfold Makes at HALL
  go_enter Try.func36, Try.ntmps36
  go_wp2_with fail
  with_reducible refine (HALL.out _ ((Below.refl _ _).alloc (Nat.le_refl _) _)).mono ?_
  rintro e w2 ⟨rfl, hb2⟩
  obtain ⟨hz2, hw2, hs2⟩ := zer_res hb2
  obtain ⟨z0, z1, z2, y0, y1, y2⟩ := Zer3.of hz2
  have HZ2 := Lib.hid hz2
  have HW2 := Lib.hid hw2
  clear hb2 hz2 hw2
  go_wp2_with fail
  with_reducible refine (HCT.out _ HW2.out).mono ?_
  rintro e w3 ⟨rfl, hb3⟩
  have hz3 := (hb3.block w.heap.size hs2).trans HZ2.out
  have hs3 : w.heap.size < w3.heap.size := Nat.lt_of_lt_of_le hs2 hb3.size
  obtain ⟨q0, q1, q2, p0, p1, p2⟩ := Zer3.of hz3
  have HZ3 := Lib.hid hz3
  have HW3 := Lib.hid (HW2.out.trans (hb3.mono (Nat.le_of_lt hs2)))
  clear hb3 hz3
  go_wp2_with fail
  refine bodyPost_ret (res2 rfl _ _ w.heap.size 64 _ (0, 0) rfl (three_set _ _ _ _ _ _ _ _ _ HZ3.out) valD valSize) rfl ?_
  exact ⟨rfl, below_three HW3.out (Nat.le_refl _) _ _ _⟩
set_option maxHeartbeats 4000000 in
set_option maxRecDepth 100000 in
theorem make_y0 {w : World} {h : Nat} {O : Nat → Prop} {T : List Hp.Th} {av : Value} {l : List Hp.V} (H : MakeIn w h O T av l) (hT : T.length ≤ 1000000) (hA : l.all (Hp.may T.length) = true) (hn : l.length = 2) : Calls Try.prog 36 #[.pointer (some ⟨h, 0, none⟩), .int .i64 0, av] w (DoPost 83 h O ⟨8, T.length, ⟨#[]⟩⟩ 0 (T ++ [⟨0, l⟩]) w) := by
  have HM := Lib.hid H
  have hall := all_st H.st H.vs H.len H.tx
  have HALL := Lib.hid hall
  have HCL : Hid (∀ (w1 : World), Below w.heap.size w w1 → Calls Try.prog 48 #[av] w1 (CloneV l w1)) := fun w1 hb => clone_any av l w1 (H.bel hb).vs H.len
  have HADD : Hid (∀ (pv : Value) (B : Nat) (w1 : World), Below w.heap.size w w1 → w1.ownsRow B 64 3 pv l.length (Hp.flatV l) → w.heap.size ≤ B → B ≤ w1.heap.size → Calls Try.prog 53 #[.pointer (some ⟨h, 0, none⟩), .int .i64 0, pv] w1 (AddPost 83 h B O T ⟨0, l⟩ w1)) := by
    intro pv B w1 hb ho hB1 hB2
    exact add_any h O T B ⟨0, l⟩ pv w1 (H.bel hb).st ho (fun b hb => Nat.lt_of_lt_of_le (H.st.lt b hb) hB1) hB2 hT
  have HOL : Hid (∀ b, O b → b < w.heap.size) := fun b e => H.st.lt b e
  obtain ⟨a, c, rfl⟩ := H.vs.len
  clear H hall
  rw [hA] at HALL
  have k1 : ((l.length : Int) == 2) = true := by rw [hn]; rfl
  clear hA hn
  unfold DoPost
  unfold AddPost at HADD
  unfold CloneV at HCL
  unfold Makes at HALL
  unfold Hp.V.val at *
  dsimp only at *
  go_enter Try.func36, Try.ntmps36
  go_wp2_with fail
  with_reducible refine (HALL.out _ ((Below.refl _ _).alloc (Nat.le_refl _) _)).mono ?_
  rintro e w2 ⟨rfl, hb2⟩
  obtain ⟨hz2, hw2, hs2⟩ := zer_res hb2
  obtain ⟨z0, z1, z2, y0, y1, y2⟩ := Zer3.of hz2
  have HZ2 := Lib.hid hz2
  have HW2 := Lib.hid hw2
  clear hb2 hz2 hw2
  go_wp2_with fail
  with_reducible refine (HCL.out _ HW2.out).mono ?_
  rintro e w4 ⟨a4, c4, rfl, hown, hb4⟩
  have HO := Lib.hid hown
  have hz4 := (hb4.block w.heap.size hs2).trans HZ2.out
  have hs4 : w2.heap.size ≤ w4.heap.size := hb4.size
  have HZ4 := Lib.hid hz4
  have HW4 := Lib.hid (HW2.out.trans (hb4.mono (Nat.le_of_lt hs2)))
  clear hown hb4 hz4
  go_wp2_with fail
  with_reducible refine (HADD.out _ w2.heap.size w4 HW4.out HO.out (Nat.le_of_lt hs2) hs4).mono ?_
  rintro e w5 ⟨O', rfl, hst, hg⟩
  have hnO : ¬ O w.heap.size := fun e => by have := HOL.out _ e; omega
  have hnO' : ¬ O' w.heap.size := fun e => by
    rcases hg.own _ e with e | e
    · exact hnO e
    · omega
  have hz5 := (hg.block w.heap.size (by omega) hnO).trans HZ4.out
  obtain ⟨v0, v1, v2, x0, x1, x2⟩ := Zer3.of hz5
  have HZ5 := Lib.hid hz5
  have HE := Lib.hid (fun x y z => ret_end hst ((hg.pre HW4.out).grow (by omega)) hnO' (g := w.heap.size) (Nat.le_refl _) x y z)
  clear hg hst hz5 hnO hnO'
  go_wp2_with fail
  refine bodyPost_ret (res2 rfl _ _ w.heap.size 64 _ (0, 0) rfl (three_set _ _ _ _ _ _ _ _ _ HZ5.out) valD valSize) rfl ?_
  exact ⟨O', by simp, HE.out _ _ _⟩
set_option maxHeartbeats 4000000 in
set_option maxRecDepth 100000 in
theorem make_y3 {w : World} {h : Nat} {O : Nat → Prop} {T : List Hp.Th} {av : Value} {l : List Hp.V} (H : MakeIn w h O T av l) (hT : T.length ≤ 1000000) (hA : l.all (Hp.may T.length) = true) (hn : l.length = 1) : Calls Try.prog 36 #[.pointer (some ⟨h, 0, none⟩), .int .i64 3, av] w (DoPost 83 h O ⟨8, T.length, ⟨#[]⟩⟩ 0 (T ++ [⟨3, l⟩]) w) := by
  have HM := Lib.hid H
  have hall := all_st H.st H.vs H.len H.tx
  have HALL := Lib.hid hall
  have HCL : Hid (∀ (w1 : World), Below w.heap.size w w1 → Calls Try.prog 48 #[av] w1 (CloneV l w1)) := fun w1 hb => clone_any av l w1 (H.bel hb).vs H.len
  have HADD : Hid (∀ (pv : Value) (B : Nat) (w1 : World), Below w.heap.size w w1 → w1.ownsRow B 64 3 pv l.length (Hp.flatV l) → w.heap.size ≤ B → B ≤ w1.heap.size → Calls Try.prog 53 #[.pointer (some ⟨h, 0, none⟩), .int .i64 3, pv] w1 (AddPost 83 h B O T ⟨3, l⟩ w1)) := by
    intro pv B w1 hb ho hB1 hB2
    exact add_any h O T B ⟨3, l⟩ pv w1 (H.bel hb).st ho (fun b hb => Nat.lt_of_lt_of_le (H.st.lt b hb) hB1) hB2 hT
  have HOL : Hid (∀ b, O b → b < w.heap.size) := fun b e => H.st.lt b e
  obtain ⟨a, c, rfl⟩ := H.vs.len
  clear H hall
  rw [hA] at HALL
  have k1 : ((l.length : Int) == 1) = true := by rw [hn]; rfl
  clear hA hn
  unfold DoPost
  unfold AddPost at HADD
  unfold CloneV at HCL
  unfold Makes at HALL
  unfold Hp.V.val at *
  dsimp only at *
  go_enter Try.func36, Try.ntmps36
  go_wp2_with fail
  with_reducible refine (HALL.out _ ((Below.refl _ _).alloc (Nat.le_refl _) _)).mono ?_
  rintro e w2 ⟨rfl, hb2⟩
  obtain ⟨hz2, hw2, hs2⟩ := zer_res hb2
  obtain ⟨z0, z1, z2, y0, y1, y2⟩ := Zer3.of hz2
  have HZ2 := Lib.hid hz2
  have HW2 := Lib.hid hw2
  clear hb2 hz2 hw2
  go_wp2_with fail
  with_reducible refine (HCL.out _ HW2.out).mono ?_
  rintro e w4 ⟨a4, c4, rfl, hown, hb4⟩
  have HO := Lib.hid hown
  have hz4 := (hb4.block w.heap.size hs2).trans HZ2.out
  have hs4 : w2.heap.size ≤ w4.heap.size := hb4.size
  have HZ4 := Lib.hid hz4
  have HW4 := Lib.hid (HW2.out.trans (hb4.mono (Nat.le_of_lt hs2)))
  clear hown hb4 hz4
  go_wp2_with fail
  with_reducible refine (HADD.out _ w2.heap.size w4 HW4.out HO.out (Nat.le_of_lt hs2) hs4).mono ?_
  rintro e w5 ⟨O', rfl, hst, hg⟩
  have hnO : ¬ O w.heap.size := fun e => by have := HOL.out _ e; omega
  have hnO' : ¬ O' w.heap.size := fun e => by
    rcases hg.own _ e with e | e
    · exact hnO e
    · omega
  have hz5 := (hg.block w.heap.size (by omega) hnO).trans HZ4.out
  obtain ⟨v0, v1, v2, x0, x1, x2⟩ := Zer3.of hz5
  have HZ5 := Lib.hid hz5
  have HE := Lib.hid (fun x y z => ret_end hst ((hg.pre HW4.out).grow (by omega)) hnO' (g := w.heap.size) (Nat.le_refl _) x y z)
  clear hg hst hz5 hnO hnO'
  go_wp2_with fail
  refine bodyPost_ret (res2 rfl _ _ w.heap.size 64 _ (0, 0) rfl (three_set _ _ _ _ _ _ _ _ _ HZ5.out) valD valSize) rfl ?_
  exact ⟨O', by simp, HE.out _ _ _⟩
set_option maxHeartbeats 4000000 in
set_option maxRecDepth 100000 in
theorem make_y1 {w : World} {h : Nat} {O : Nat → Prop} {T : List Hp.Th} {av : Value} {l : List Hp.V} (H : MakeIn w h O T av l) (hT : T.length ≤ 1000000) (hA : l.all (Hp.may T.length) = true) (hn : l.length ≤ 1000) : Calls Try.prog 36 #[.pointer (some ⟨h, 0, none⟩), .int .i64 1, av] w (DoPost 83 h O ⟨8, T.length, ⟨#[]⟩⟩ 0 (T ++ [⟨1, l⟩]) w) := by
  have HM := Lib.hid H
  have hall := all_st H.st H.vs H.len H.tx
  have HALL := Lib.hid hall
  have HCL : Hid (∀ (w1 : World), Below w.heap.size w w1 → Calls Try.prog 48 #[av] w1 (CloneV l w1)) := fun w1 hb => clone_any av l w1 (H.bel hb).vs H.len
  have HADD : Hid (∀ (pv : Value) (B : Nat) (w1 : World), Below w.heap.size w w1 → w1.ownsRow B 64 3 pv l.length (Hp.flatV l) → w.heap.size ≤ B → B ≤ w1.heap.size → Calls Try.prog 53 #[.pointer (some ⟨h, 0, none⟩), .int .i64 1, pv] w1 (AddPost 83 h B O T ⟨1, l⟩ w1)) := by
    intro pv B w1 hb ho hB1 hB2
    exact add_any h O T B ⟨1, l⟩ pv w1 (H.bel hb).st ho (fun b hb => Nat.lt_of_lt_of_le (H.st.lt b hb) hB1) hB2 hT
  have HOL : Hid (∀ b, O b → b < w.heap.size) := fun b e => H.st.lt b e
  obtain ⟨a, c, rfl⟩ := H.vs.len
  clear H hall
  rw [hA] at HALL
  have k1 : decide ((l.length : Int) ≤ 1000) = true := decide_eq_true (by omega)
  clear hA hn
  unfold DoPost
  unfold AddPost at HADD
  unfold CloneV at HCL
  unfold Makes at HALL
  unfold Hp.V.val at *
  dsimp only at *
  go_enter Try.func36, Try.ntmps36
  go_wp2_with fail
  with_reducible refine (HALL.out _ ((Below.refl _ _).alloc (Nat.le_refl _) _)).mono ?_
  rintro e w2 ⟨rfl, hb2⟩
  obtain ⟨hz2, hw2, hs2⟩ := zer_res hb2
  obtain ⟨z0, z1, z2, y0, y1, y2⟩ := Zer3.of hz2
  have HZ2 := Lib.hid hz2
  have HW2 := Lib.hid hw2
  clear hb2 hz2 hw2
  go_wp2_with fail
  with_reducible refine (HCL.out _ HW2.out).mono ?_
  rintro e w4 ⟨a4, c4, rfl, hown, hb4⟩
  have HO := Lib.hid hown
  have hz4 := (hb4.block w.heap.size hs2).trans HZ2.out
  have hs4 : w2.heap.size ≤ w4.heap.size := hb4.size
  have HZ4 := Lib.hid hz4
  have HW4 := Lib.hid (HW2.out.trans (hb4.mono (Nat.le_of_lt hs2)))
  clear hown hb4 hz4
  go_wp2_with fail
  with_reducible refine (HADD.out _ w2.heap.size w4 HW4.out HO.out (Nat.le_of_lt hs2) hs4).mono ?_
  rintro e w5 ⟨O', rfl, hst, hg⟩
  have hnO : ¬ O w.heap.size := fun e => by have := HOL.out _ e; omega
  have hnO' : ¬ O' w.heap.size := fun e => by
    rcases hg.own _ e with e | e
    · exact hnO e
    · omega
  have hz5 := (hg.block w.heap.size (by omega) hnO).trans HZ4.out
  obtain ⟨v0, v1, v2, x0, x1, x2⟩ := Zer3.of hz5
  have HZ5 := Lib.hid hz5
  have HE := Lib.hid (fun x y z => ret_end hst ((hg.pre HW4.out).grow (by omega)) hnO' (g := w.heap.size) (Nat.le_refl _) x y z)
  clear hg hst hz5 hnO hnO'
  go_wp2_with fail
  refine bodyPost_ret (res2 rfl _ _ w.heap.size 64 _ (0, 0) rfl (three_set _ _ _ _ _ _ _ _ _ HZ5.out) valD valSize) rfl ?_
  exact ⟨O', by simp, HE.out _ _ _⟩
set_option maxHeartbeats 4000000 in
set_option maxRecDepth 100000 in
theorem make_y2 {w : World} {h : Nat} {O : Nat → Prop} {T : List Hp.Th} {av : Value} {l : List Hp.V} (H : MakeIn w h O T av l) (hT : T.length ≤ 1000000) (hA : l.all (Hp.may T.length) = true) (hn : l.length ≤ 1000) (hC : (l.any fun v => decide (v.kind ≠ 2)) = false) : Calls Try.prog 36 #[.pointer (some ⟨h, 0, none⟩), .int .i64 2, av] w (DoPost 83 h O ⟨8, T.length, ⟨#[]⟩⟩ 0 (T ++ [⟨2, l⟩]) w) := by
  have HM := Lib.hid H
  have hall := all_st H.st H.vs H.len H.tx
  have HALL := Lib.hid hall
  have HCL : Hid (∀ (w1 : World), Below w.heap.size w w1 → Calls Try.prog 48 #[av] w1 (CloneV l w1)) := fun w1 hb => clone_any av l w1 (H.bel hb).vs H.len
  have HADD : Hid (∀ (pv : Value) (B : Nat) (w1 : World), Below w.heap.size w w1 → w1.ownsRow B 64 3 pv l.length (Hp.flatV l) → w.heap.size ≤ B → B ≤ w1.heap.size → Calls Try.prog 53 #[.pointer (some ⟨h, 0, none⟩), .int .i64 2, pv] w1 (AddPost 83 h B O T ⟨2, l⟩ w1)) := by
    intro pv B w1 hb ho hB1 hB2
    exact add_any h O T B ⟨2, l⟩ pv w1 (H.bel hb).st ho (fun b hb => Nat.lt_of_lt_of_le (H.st.lt b hb) hB1) hB2 hT
  have HOL : Hid (∀ b, O b → b < w.heap.size) := fun b e => H.st.lt b e
  obtain ⟨a, c, rfl⟩ := H.vs.len
  clear H hall
  rw [hA] at HALL
  have HCT := Lib.hid (HM.out.contains _ hC)
  unfold Makes at HCT
  have k1 : decide ((l.length : Int) ≤ 1000) = true := decide_eq_true (by omega)
  clear hA hn hC
  unfold DoPost
  unfold AddPost at HADD
  unfold CloneV at HCL
  unfold Makes at HALL
  unfold Hp.V.val at *
  dsimp only at *
  go_enter Try.func36, Try.ntmps36
  go_wp2_with fail
  with_reducible refine (HALL.out _ ((Below.refl _ _).alloc (Nat.le_refl _) _)).mono ?_
  rintro e w2 ⟨rfl, hb2⟩
  obtain ⟨hz2, hw2, hs2⟩ := zer_res hb2
  obtain ⟨z0, z1, z2, y0, y1, y2⟩ := Zer3.of hz2
  have HZ2 := Lib.hid hz2
  have HW2 := Lib.hid hw2
  clear hb2 hz2 hw2
  go_wp2_with fail
  with_reducible refine (HCT.out _ HW2.out).mono ?_
  rintro e w3 ⟨rfl, hb3⟩
  have hz3 := (hb3.block w.heap.size hs2).trans HZ2.out
  have hs3 : w.heap.size < w3.heap.size := Nat.lt_of_lt_of_le hs2 hb3.size
  obtain ⟨q0, q1, q2, p0, p1, p2⟩ := Zer3.of hz3
  have HZ3 := Lib.hid hz3
  have HW3 := Lib.hid (HW2.out.trans (hb3.mono (Nat.le_of_lt hs2)))
  clear hb3 hz3
  go_wp2_with fail
  with_reducible refine (HCL.out _ HW3.out).mono ?_
  rintro e w4 ⟨a4, c4, rfl, hown, hb4⟩
  have HO := Lib.hid hown
  have hz4 := (hb4.block w.heap.size hs3).trans HZ3.out
  have hs4 : w3.heap.size ≤ w4.heap.size := hb4.size
  have HZ4 := Lib.hid hz4
  have HW4 := Lib.hid (HW3.out.trans (hb4.mono (Nat.le_of_lt hs3)))
  clear hown hb4 hz4
  go_wp2_with fail
  with_reducible refine (HADD.out _ w3.heap.size w4 HW4.out HO.out (Nat.le_of_lt hs3) hs4).mono ?_
  rintro e w5 ⟨O', rfl, hst, hg⟩
  have hnO : ¬ O w.heap.size := fun e => by have := HOL.out _ e; omega
  have hnO' : ¬ O' w.heap.size := fun e => by
    rcases hg.own _ e with e | e
    · exact hnO e
    · omega
  have hz5 := (hg.block w.heap.size (by omega) hnO).trans HZ4.out
  obtain ⟨v0, v1, v2, x0, x1, x2⟩ := Zer3.of hz5
  have HZ5 := Lib.hid hz5
  have HE := Lib.hid (fun x y z => ret_end hst ((hg.pre HW4.out).grow (by omega)) hnO' (g := w.heap.size) (Nat.le_refl _) x y z)
  clear hg hst hz5 hnO hnO'
  go_wp2_with fail
  refine bodyPost_ret (res2 rfl _ _ w.heap.size 64 _ (0, 0) rfl (three_set _ _ _ _ _ _ _ _ _ HZ5.out) valD valSize) rfl ?_
  exact ⟨O', by simp, HE.out _ _ _⟩
set_option maxHeartbeats 4000000 in
set_option maxRecDepth 100000 in
theorem make_y4 {w : World} {h : Nat} {O : Nat → Prop} {T : List Hp.Th} {av : Value} {l : List Hp.V} (H : MakeIn w h O T av l) (hT : T.length ≤ 1000000) (hA : l.all (Hp.may T.length) = true)  : Calls Try.prog 36 #[.pointer (some ⟨h, 0, none⟩), .int .i64 4, av] w (DoPost 83 h O ⟨8, T.length, ⟨#[]⟩⟩ 0 (T ++ [⟨4, l⟩]) w) := by
  have HM := Lib.hid H
  have hall := all_st H.st H.vs H.len H.tx
  have HALL := Lib.hid hall
  have HCL : Hid (∀ (w1 : World), Below w.heap.size w w1 → Calls Try.prog 48 #[av] w1 (CloneV l w1)) := fun w1 hb => clone_any av l w1 (H.bel hb).vs H.len
  have HADD : Hid (∀ (pv : Value) (B : Nat) (w1 : World), Below w.heap.size w w1 → w1.ownsRow B 64 3 pv l.length (Hp.flatV l) → w.heap.size ≤ B → B ≤ w1.heap.size → Calls Try.prog 53 #[.pointer (some ⟨h, 0, none⟩), .int .i64 4, pv] w1 (AddPost 83 h B O T ⟨4, l⟩ w1)) := by
    intro pv B w1 hb ho hB1 hB2
    exact add_any h O T B ⟨4, l⟩ pv w1 (H.bel hb).st ho (fun b hb => Nat.lt_of_lt_of_le (H.st.lt b hb) hB1) hB2 hT
  have HOL : Hid (∀ b, O b → b < w.heap.size) := fun b e => H.st.lt b e
  obtain ⟨a, c, rfl⟩ := H.vs.len
  clear H hall
  rw [hA] at HALL
  clear hA 
  unfold DoPost
  unfold AddPost at HADD
  unfold CloneV at HCL
  unfold Makes at HALL
  unfold Hp.V.val at *
  dsimp only at *
  go_enter Try.func36, Try.ntmps36
  go_wp2_with fail
  with_reducible refine (HALL.out _ ((Below.refl _ _).alloc (Nat.le_refl _) _)).mono ?_
  rintro e w2 ⟨rfl, hb2⟩
  obtain ⟨hz2, hw2, hs2⟩ := zer_res hb2
  obtain ⟨z0, z1, z2, y0, y1, y2⟩ := Zer3.of hz2
  have HZ2 := Lib.hid hz2
  have HW2 := Lib.hid hw2
  clear hb2 hz2 hw2
  go_wp2_with fail
  with_reducible refine (HCL.out _ HW2.out).mono ?_
  rintro e w4 ⟨a4, c4, rfl, hown, hb4⟩
  have HO := Lib.hid hown
  have hz4 := (hb4.block w.heap.size hs2).trans HZ2.out
  have hs4 : w2.heap.size ≤ w4.heap.size := hb4.size
  have HZ4 := Lib.hid hz4
  have HW4 := Lib.hid (HW2.out.trans (hb4.mono (Nat.le_of_lt hs2)))
  clear hown hb4 hz4
  go_wp2_with fail
  with_reducible refine (HADD.out _ w2.heap.size w4 HW4.out HO.out (Nat.le_of_lt hs2) hs4).mono ?_
  rintro e w5 ⟨O', rfl, hst, hg⟩
  have hnO : ¬ O w.heap.size := fun e => by have := HOL.out _ e; omega
  have hnO' : ¬ O' w.heap.size := fun e => by
    rcases hg.own _ e with e | e
    · exact hnO e
    · omega
  have hz5 := (hg.block w.heap.size (by omega) hnO).trans HZ4.out
  obtain ⟨v0, v1, v2, x0, x1, x2⟩ := Zer3.of hz5
  have HZ5 := Lib.hid hz5
  have HE := Lib.hid (fun x y z => ret_end hst ((hg.pre HW4.out).grow (by omega)) hnO' (g := w.heap.size) (Nat.le_refl _) x y z)
  clear hg hst hz5 hnO hnO'
  go_wp2_with fail
  refine bodyPost_ret (res2 rfl _ _ w.heap.size 64 _ (0, 0) rfl (three_set _ _ _ _ _ _ _ _ _ HZ5.out) valD valSize) rfl ?_
  exact ⟨O', by simp, HE.out _ _ _⟩
theorem MakeNo.post {w w' : World} {h : Nat} {O : Nat → Prop} {T : List Hp.Th} {e : Ending} (H : HSt w 83 h O T) (hn : MakeNo w e w') : DoPost 83 h O Hp.none 1 T w e w' := DoPost.read H hn.1 hn.2
def Hp.makeF (T : List Hp.Th) (kind : Int) (l : List Hp.V) : Hp.V × Int × List Hp.Th := if Hp.makeOk T kind l = true then (⟨8, T.length, ⟨#[]⟩⟩, 0, T ++ [⟨kind, l⟩]) else (Hp.none, 1, T)
theorem Make_any {w : World} {h : Nat} {O : Nat → Prop} {T : List Hp.Th} {av : Value} {l : List Hp.V} (H : MakeIn w h O T av l) (hT : T.length ≤ 1000000) (kind : Int) :
    Calls Try.prog 36 #[.pointer (some ⟨h, 0, none⟩), .int .i64 kind, av] w (DoPost 83 h O (Hp.makeF T kind l).1 (Hp.makeF T kind l).2.1 (Hp.makeF T kind l).2.2 w) := by
  have hno : ∀ {P : Prop}, Hp.makeOk T kind l = false → Calls Try.prog 36 #[.pointer (some ⟨h, 0, none⟩), .int .i64 kind, av] w (MakeNo w) → Calls Try.prog 36 #[.pointer (some ⟨h, 0, none⟩), .int .i64 kind, av] w (DoPost 83 h O (Hp.makeF T kind l).1 (Hp.makeF T kind l).2.1 (Hp.makeF T kind l).2.2 w) := fun hf hc => by
    have e : Hp.makeF T kind l = (Hp.none, 1, T) := by unfold Hp.makeF; rw [hf]; rfl
    rw [e]
    exact hc.mono fun e w' hn => hn.post H.st
  have hyes : Hp.makeOk T kind l = true → Calls Try.prog 36 #[.pointer (some ⟨h, 0, none⟩), .int .i64 kind, av] w (DoPost 83 h O ⟨8, T.length, ⟨#[]⟩⟩ 0 (T ++ [⟨kind, l⟩]) w) → Calls Try.prog 36 #[.pointer (some ⟨h, 0, none⟩), .int .i64 kind, av] w (DoPost 83 h O (Hp.makeF T kind l).1 (Hp.makeF T kind l).2.1 (Hp.makeF T kind l).2.2 w) := fun hf hc => by
    have e : Hp.makeF T kind l = (⟨8, T.length, ⟨#[]⟩⟩, 0, T ++ [⟨kind, l⟩]) := by unfold Hp.makeF; rw [hf]; rfl
    rw [e]
    exact hc
  cases hA : l.all (Hp.may T.length) with
  | false =>
    have hf : Hp.makeOk T kind l = false := by unfold Hp.makeOk; rw [hA]; rfl
    rcases (by omega : (kind < 0 ∨ 4 < kind) ∨ kind = 0 ∨ kind = 1 ∨ kind = 2 ∨ kind = 3 ∨ kind = 4) with hk | rfl | rfl | rfl | rfl | rfl
    · exact hno (P := True) hf (make_k3 H kind hk hA)
    · exact hno (P := True) hf (make_00 H hA)
    · exact hno (P := True) hf (make_10 H hA)
    · exact hno (P := True) hf (make_20 H hA)
    · exact hno (P := True) hf (make_30 H hA)
    · exact hno (P := True) hf (make_40 H hA)
  | true =>
    rcases (by omega : kind < 0 ∨ 4 < kind ∨ kind = 0 ∨ kind = 1 ∨ kind = 2 ∨ kind = 3 ∨ kind = 4) with hk | hk | rfl | rfl | rfl | rfl | rfl
    · refine hno (P := True) ?_ (make_k1 H kind hk hA)
      have : ¬ kind = 0 ∧ ¬ kind = 3 ∧ ¬ kind = 1 ∧ ¬ kind = 2 ∧ ¬ kind = 4 := by omega
      simp [Hp.makeOk, Hp.sizeOk, this]
    · refine hno (P := True) ?_ (make_k2 H kind hk hA)
      have : ¬ kind = 0 ∧ ¬ kind = 3 ∧ ¬ kind = 1 ∧ ¬ kind = 2 ∧ ¬ kind = 4 := by omega
      simp [Hp.makeOk, Hp.sizeOk, this]
    · by_cases hn : l.length = 2
      · exact hyes (by simp [Hp.makeOk, Hp.sizeOk, hA, hn]) (make_y0 H hT hA hn)
      · exact hno (P := True) (by simp [Hp.makeOk, Hp.sizeOk, hn]) (make_01 H hA hn)
    · by_cases hn : l.length ≤ 1000
      · exact hyes (by simp [Hp.makeOk, Hp.sizeOk, hA, hn]) (make_y1 H hT hA hn)
      · exact hno (P := True) (by simp [Hp.makeOk, Hp.sizeOk, hn]) (make_11 H hA (by omega))
    · by_cases hn : l.length ≤ 1000
      · cases hC : (l.any fun v => decide (v.kind ≠ 2)) with
        | false => exact hyes (by simp only [Hp.makeOk, Hp.sizeOk, hA, hC, hn]; simp) (make_y2 H hT hA hn hC)
        | true => exact hno (P := True) (by simp only [Hp.makeOk, Hp.sizeOk, hA, hC, hn]; simp) (make_22 H hA hn hC)
      · exact hno (P := True) (by simp [Hp.makeOk, Hp.sizeOk, hn]) (make_21 H hA (by omega))
    · by_cases hn : l.length = 1
      · exact hyes (by simp [Hp.makeOk, Hp.sizeOk, hA, hn]) (make_y3 H hT hA hn)
      · exact hno (P := True) (by simp [Hp.makeOk, Hp.sizeOk, hn]) (make_31 H hA hn)
    · exact hyes (by simp [Hp.makeOk, Hp.sizeOk, hA]) (make_y4 H hT hA)
end Go.Proofs.Ytalfnaielhbocaa
