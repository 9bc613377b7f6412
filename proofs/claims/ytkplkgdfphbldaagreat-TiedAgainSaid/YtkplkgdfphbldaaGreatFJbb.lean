/- scrimshaw/scrimshawref06.Arity: how many arguments a primitive has. -/
import Derived.Test.YtkplkgdfphbldaaGreatFJay
import Derived.Test.YtkplkgdfphbldaaGreatFJat
import Derived.Test.YtkplkgdfphbldaaGreatFJag
import Derived.Test.YtkplkgdfphbldaaGreatFJaw
import Derived.BigQuiet
import Derived.Deep.QuietTactic
import Derived.Deep.RegionHeld3
import Derived.Test.YtkplkgdfphbldaaGreatFJav
set_option linter.unusedVariables false
set_option linter.unusedSimpArgs false
set_option linter.unnecessarySimpa false
namespace Go.Proofs.YtkplkgdfphbldaaGreat
open Go.RowKit
set_option linter.unusedVariables false
set_option linter.unusedSimpArgs false
set_option maxRecDepth 100000
namespace Ew
open Rn
set_option maxHeartbeats 16000000 in
theorem rarity_at0 : ∀ x ∈ Ex.prims0, ∀ w : World, Calls Tryz.prog 88 #[.string x] w fun e w' => e = .returned (.int .i64 0) ∧ w = w' := by
  intro x hx
  simp only [Ex.prims0, Ex.prims1, Ex.prims2, Ex.prims3, List.mem_cons, List.not_mem_nil, or_false] at hx
  rcases hx with rfl | rfl | rfl | rfl | rfl
  all_goals
    intro w
    go_enter Tryz.func88, Tryz.ntmps88
    go_wp2_with fail
    go_ret
    exact ⟨rfl, rfl⟩
set_option maxHeartbeats 16000000 in
theorem rarity_at1 : ∀ x ∈ Ex.prims1, ∀ w : World, Calls Tryz.prog 88 #[.string x] w fun e w' => e = .returned (.int .i64 1) ∧ w = w' := by
  intro x hx
  simp only [Ex.prims0, Ex.prims1, Ex.prims2, Ex.prims3, List.mem_cons, List.not_mem_nil, or_false] at hx
  rcases hx with rfl | rfl | rfl | rfl | rfl | rfl | rfl | rfl | rfl | rfl | rfl | rfl | rfl | rfl | rfl | rfl | rfl | rfl | rfl | rfl | rfl
  all_goals
    intro w
    go_enter Tryz.func88, Tryz.ntmps88
    go_wp2_with fail
    go_ret
    exact ⟨rfl, rfl⟩
set_option maxHeartbeats 16000000 in
theorem rarity_at2 : ∀ x ∈ Ex.prims2, ∀ w : World, Calls Tryz.prog 88 #[.string x] w fun e w' => e = .returned (.int .i64 2) ∧ w = w' := by
  intro x hx
  simp only [Ex.prims0, Ex.prims1, Ex.prims2, Ex.prims3, List.mem_cons, List.not_mem_nil, or_false] at hx
  rcases hx with rfl | rfl | rfl | rfl | rfl | rfl | rfl | rfl | rfl | rfl | rfl | rfl | rfl | rfl | rfl | rfl
  all_goals
    intro w
    go_enter Tryz.func88, Tryz.ntmps88
    go_wp2_with fail
    go_ret
    exact ⟨rfl, rfl⟩
set_option maxHeartbeats 16000000 in
theorem rarity_at3 : ∀ x ∈ Ex.prims3, ∀ w : World, Calls Tryz.prog 88 #[.string x] w fun e w' => e = .returned (.int .i64 3) ∧ w = w' := by
  intro x hx
  simp only [Ex.prims0, Ex.prims1, Ex.prims2, Ex.prims3, List.mem_cons, List.not_mem_nil, or_false] at hx
  rcases hx with rfl | rfl
  all_goals
    intro w
    go_enter Tryz.func88, Tryz.ntmps88
    go_wp2_with fail
    go_ret
    exact ⟨rfl, rfl⟩
set_option maxHeartbeats 16000000 in
theorem rarity_any (s : ByteArray) (w : World) : Calls Tryz.prog 88 #[.string s] w fun e w' => e = .returned (.int .i64 (Ex.arity s)) ∧ w = w' := by
  cases h0 : Ex.inN Ex.prims0 s with
  | true =>
    have e : Ex.arity s = 0 := by unfold Ex.arity; rw [h0]; rfl
    rw [e]
    obtain ⟨x, hx, he⟩ : ∃ x ∈ Ex.prims0, s = x := by
      unfold Ex.inN at h0
      obtain ⟨x, hx, he⟩ := List.any_eq_true.1 h0
      exact ⟨x, hx, by simpa using (of_decide_eq_true he).symm⟩
    subst he
    exact rarity_at0 s hx w
  | false =>
    cases h1 : Ex.inN Ex.prims1 s with
    | true =>
      have e : Ex.arity s = 1 := by unfold Ex.arity; rw [h0, h1]; rfl
      rw [e]
      obtain ⟨x, hx, he⟩ : ∃ x ∈ Ex.prims1, s = x := by
        unfold Ex.inN at h1
        obtain ⟨x, hx, he⟩ := List.any_eq_true.1 h1
        exact ⟨x, hx, by simpa using (of_decide_eq_true he).symm⟩
      subst he
      exact rarity_at1 s hx w
    | false =>
      cases h2 : Ex.inN Ex.prims2 s with
      | true =>
        have e : Ex.arity s = 2 := by unfold Ex.arity; rw [h0, h1, h2]; rfl
        rw [e]
        obtain ⟨x, hx, he⟩ : ∃ x ∈ Ex.prims2, s = x := by
          unfold Ex.inN at h2
          obtain ⟨x, hx, he⟩ := List.any_eq_true.1 h2
          exact ⟨x, hx, by simpa using (of_decide_eq_true he).symm⟩
        subst he
        exact rarity_at2 s hx w
      | false =>
        cases h3 : Ex.inN Ex.prims3 s with
        | true =>
          have e : Ex.arity s = 3 := by unfold Ex.arity; rw [h0, h1, h2, h3]; rfl
          rw [e]
          obtain ⟨x, hx, he⟩ : ∃ x ∈ Ex.prims3, s = x := by
            unfold Ex.inN at h3
            obtain ⟨x, hx, he⟩ := List.any_eq_true.1 h3
            exact ⟨x, hx, by simpa using (of_decide_eq_true he).symm⟩
          subst he
          exact rarity_at3 s hx w
        | false =>
          have e : Ex.arity s = -1 := by unfold Ex.arity; rw [h0, h1, h2, h3]; rfl
          rw [e]
          have q0 : (s.toList == [114, 101, 97, 100, 45, 117, 56]) = false := ba_no (inN_no h0 ⟨#[114, 101, 97, 100, 45, 117, 56]⟩ (by simp [Ex.prims0, sRead, sError, sWinders, sWrite, sWind, sCallcc]))
          have q1 : (s.toList == [101, 114, 114, 111, 114]) = false := ba_no (inN_no h0 ⟨#[101, 114, 114, 111, 114]⟩ (by simp [Ex.prims0, sRead, sError, sWinders, sWrite, sWind, sCallcc]))
          have q2 : (s.toList == [118, 111, 105, 100]) = false := ba_no (inN_no h0 ⟨#[118, 111, 105, 100]⟩ (by simp [Ex.prims0, sRead, sError, sWinders, sWrite, sWind, sCallcc]))
          have q3 : (s.toList == [37, 119, 105, 110, 100, 101, 114, 115]) = false := ba_no (inN_no h0 ⟨#[37, 119, 105, 110, 100, 101, 114, 115]⟩ (by simp [Ex.prims0, sRead, sError, sWinders, sWrite, sWind, sCallcc]))
          have q4 : (s.toList == [37, 117, 110, 115, 101, 116]) = false := ba_no (inN_no h0 ⟨#[37, 117, 110, 115, 101, 116]⟩ (by simp [Ex.prims0, sRead, sError, sWinders, sWrite, sWind, sCallcc]))
          have q5 : (s.toList == [110, 117, 108, 108, 63]) = false := ba_no (inN_no h1 ⟨#[110, 117, 108, 108, 63]⟩ (by simp [Ex.prims1, sRead, sError, sWinders, sWrite, sWind, sCallcc]))
          have q6 : (s.toList == [112, 97, 105, 114, 63]) = false := ba_no (inN_no h1 ⟨#[112, 97, 105, 114, 63]⟩ (by simp [Ex.prims1, sRead, sError, sWinders, sWrite, sWind, sCallcc]))
          have q7 : (s.toList == [118, 101, 99, 116, 111, 114, 63]) = false := ba_no (inN_no h1 ⟨#[118, 101, 99, 116, 111, 114, 63]⟩ (by simp [Ex.prims1, sRead, sError, sWinders, sWrite, sWind, sCallcc]))
          have q8 : (s.toList == [115, 116, 114, 105, 110, 103, 63]) = false := ba_no (inN_no h1 ⟨#[115, 116, 114, 105, 110, 103, 63]⟩ (by simp [Ex.prims1, sRead, sError, sWinders, sWrite, sWind, sCallcc]))
          have q9 : (s.toList == [115, 121, 109, 98, 111, 108, 63]) = false := ba_no (inN_no h1 ⟨#[115, 121, 109, 98, 111, 108, 63]⟩ (by simp [Ex.prims1, sRead, sError, sWinders, sWrite, sWind, sCallcc]))
          have q10 : (s.toList == [99, 104, 97, 114, 63]) = false := ba_no (inN_no h1 ⟨#[99, 104, 97, 114, 63]⟩ (by simp [Ex.prims1, sRead, sError, sWinders, sWrite, sWind, sCallcc]))
          have q11 : (s.toList == [105, 110, 116, 101, 103, 101, 114, 63]) = false := ba_no (inN_no h1 ⟨#[105, 110, 116, 101, 103, 101, 114, 63]⟩ (by simp [Ex.prims1, sRead, sError, sWinders, sWrite, sWind, sCallcc]))
          have q12 : (s.toList == [98, 111, 111, 108, 101, 97, 110, 63]) = false := ba_no (inN_no h1 ⟨#[98, 111, 111, 108, 101, 97, 110, 63]⟩ (by simp [Ex.prims1, sRead, sError, sWinders, sWrite, sWind, sCallcc]))
          have q13 : (s.toList == [112, 114, 111, 99, 101, 100, 117, 114, 101, 63]) = false := ba_no (inN_no h1 ⟨#[112, 114, 111, 99, 101, 100, 117, 114, 101, 63]⟩ (by simp [Ex.prims1, sRead, sError, sWinders, sWrite, sWind, sCallcc]))
          have q14 : (s.toList == [101, 111, 102, 45, 111, 98, 106, 101, 99, 116, 63]) = false := ba_no (inN_no h1 ⟨#[101, 111, 102, 45, 111, 98, 106, 101, 99, 116, 63]⟩ (by simp [Ex.prims1, sRead, sError, sWinders, sWrite, sWind, sCallcc]))
          have q15 : (s.toList == [99, 97, 114]) = false := ba_no (inN_no h1 ⟨#[99, 97, 114]⟩ (by simp [Ex.prims1, sRead, sError, sWinders, sWrite, sWind, sCallcc]))
          have q16 : (s.toList == [99, 100, 114]) = false := ba_no (inN_no h1 ⟨#[99, 100, 114]⟩ (by simp [Ex.prims1, sRead, sError, sWinders, sWrite, sWind, sCallcc]))
          have q17 : (s.toList == [118, 101, 99, 116, 111, 114, 45, 108, 101, 110, 103, 116, 104]) = false := ba_no (inN_no h1 ⟨#[118, 101, 99, 116, 111, 114, 45, 108, 101, 110, 103, 116, 104]⟩ (by simp [Ex.prims1, sRead, sError, sWinders, sWrite, sWind, sCallcc]))
          have q18 : (s.toList == [115, 116, 114, 105, 110, 103, 45, 108, 101, 110, 103, 116, 104]) = false := ba_no (inN_no h1 ⟨#[115, 116, 114, 105, 110, 103, 45, 108, 101, 110, 103, 116, 104]⟩ (by simp [Ex.prims1, sRead, sError, sWinders, sWrite, sWind, sCallcc]))
          have q19 : (s.toList == [99, 104, 97, 114, 45, 62, 105, 110, 116, 101, 103, 101, 114]) = false := ba_no (inN_no h1 ⟨#[99, 104, 97, 114, 45, 62, 105, 110, 116, 101, 103, 101, 114]⟩ (by simp [Ex.prims1, sRead, sError, sWinders, sWrite, sWind, sCallcc]))
          have q20 : (s.toList == [105, 110, 116, 101, 103, 101, 114, 45, 62, 99, 104, 97, 114]) = false := ba_no (inN_no h1 ⟨#[105, 110, 116, 101, 103, 101, 114, 45, 62, 99, 104, 97, 114]⟩ (by simp [Ex.prims1, sRead, sError, sWinders, sWrite, sWind, sCallcc]))
          have q21 : (s.toList == [119, 114, 105, 116, 101, 45, 117, 56]) = false := ba_no (inN_no h1 ⟨#[119, 114, 105, 116, 101, 45, 117, 56]⟩ (by simp [Ex.prims1, sRead, sError, sWinders, sWrite, sWind, sCallcc]))
          have q22 : (s.toList == [37, 98, 111, 120]) = false := ba_no (inN_no h1 ⟨#[37, 98, 111, 120]⟩ (by simp [Ex.prims1, sRead, sError, sWinders, sWrite, sWind, sCallcc]))
          have q23 : (s.toList == [37, 117, 110, 98, 111, 120]) = false := ba_no (inN_no h1 ⟨#[37, 117, 110, 98, 111, 120]⟩ (by simp [Ex.prims1, sRead, sError, sWinders, sWrite, sWind, sCallcc]))
          have q24 : (s.toList == [37, 119, 105, 110, 100, 33]) = false := ba_no (inN_no h1 ⟨#[37, 119, 105, 110, 100, 33]⟩ (by simp [Ex.prims1, sRead, sError, sWinders, sWrite, sWind, sCallcc]))
          have q25 : (s.toList == [37, 99, 97, 108, 108, 99, 99]) = false := ba_no (inN_no h1 ⟨#[37, 99, 97, 108, 108, 99, 99]⟩ (by simp [Ex.prims1, sRead, sError, sWinders, sWrite, sWind, sCallcc]))
          have q26 : (s.toList == [43]) = false := ba_no (inN_no h2 ⟨#[43]⟩ (by simp [Ex.prims2, sRead, sError, sWinders, sWrite, sWind, sCallcc]))
          have q27 : (s.toList == [45]) = false := ba_no (inN_no h2 ⟨#[45]⟩ (by simp [Ex.prims2, sRead, sError, sWinders, sWrite, sWind, sCallcc]))
          have q28 : (s.toList == [42]) = false := ba_no (inN_no h2 ⟨#[42]⟩ (by simp [Ex.prims2, sRead, sError, sWinders, sWrite, sWind, sCallcc]))
          have q29 : (s.toList == [113, 117, 111, 116, 105, 101, 110, 116]) = false := ba_no (inN_no h2 ⟨#[113, 117, 111, 116, 105, 101, 110, 116]⟩ (by simp [Ex.prims2, sRead, sError, sWinders, sWrite, sWind, sCallcc]))
          have q30 : (s.toList == [114, 101, 109, 97, 105, 110, 100, 101, 114]) = false := ba_no (inN_no h2 ⟨#[114, 101, 109, 97, 105, 110, 100, 101, 114]⟩ (by simp [Ex.prims2, sRead, sError, sWinders, sWrite, sWind, sCallcc]))
          have q31 : (s.toList == [60]) = false := ba_no (inN_no h2 ⟨#[60]⟩ (by simp [Ex.prims2, sRead, sError, sWinders, sWrite, sWind, sCallcc]))
          have q32 : (s.toList == [61]) = false := ba_no (inN_no h2 ⟨#[61]⟩ (by simp [Ex.prims2, sRead, sError, sWinders, sWrite, sWind, sCallcc]))
          have q33 : (s.toList == [101, 113, 63]) = false := ba_no (inN_no h2 ⟨#[101, 113, 63]⟩ (by simp [Ex.prims2, sRead, sError, sWinders, sWrite, sWind, sCallcc]))
          have q34 : (s.toList == [99, 111, 110, 115]) = false := ba_no (inN_no h2 ⟨#[99, 111, 110, 115]⟩ (by simp [Ex.prims2, sRead, sError, sWinders, sWrite, sWind, sCallcc]))
          have q35 : (s.toList == [115, 101, 116, 45, 99, 97, 114, 33]) = false := ba_no (inN_no h2 ⟨#[115, 101, 116, 45, 99, 97, 114, 33]⟩ (by simp [Ex.prims2, sRead, sError, sWinders, sWrite, sWind, sCallcc]))
          have q36 : (s.toList == [115, 101, 116, 45, 99, 100, 114, 33]) = false := ba_no (inN_no h2 ⟨#[115, 101, 116, 45, 99, 100, 114, 33]⟩ (by simp [Ex.prims2, sRead, sError, sWinders, sWrite, sWind, sCallcc]))
          have q37 : (s.toList == [109, 97, 107, 101, 45, 118, 101, 99, 116, 111, 114]) = false := ba_no (inN_no h2 ⟨#[109, 97, 107, 101, 45, 118, 101, 99, 116, 111, 114]⟩ (by simp [Ex.prims2, sRead, sError, sWinders, sWrite, sWind, sCallcc]))
          have q38 : (s.toList == [118, 101, 99, 116, 111, 114, 45, 114, 101, 102]) = false := ba_no (inN_no h2 ⟨#[118, 101, 99, 116, 111, 114, 45, 114, 101, 102]⟩ (by simp [Ex.prims2, sRead, sError, sWinders, sWrite, sWind, sCallcc]))
          have q39 : (s.toList == [109, 97, 107, 101, 45, 115, 116, 114, 105, 110, 103]) = false := ba_no (inN_no h2 ⟨#[109, 97, 107, 101, 45, 115, 116, 114, 105, 110, 103]⟩ (by simp [Ex.prims2, sRead, sError, sWinders, sWrite, sWind, sCallcc]))
          have q40 : (s.toList == [115, 116, 114, 105, 110, 103, 45, 114, 101, 102]) = false := ba_no (inN_no h2 ⟨#[115, 116, 114, 105, 110, 103, 45, 114, 101, 102]⟩ (by simp [Ex.prims2, sRead, sError, sWinders, sWrite, sWind, sCallcc]))
          have q41 : (s.toList == [37, 115, 101, 116, 45, 98, 111, 120, 33]) = false := ba_no (inN_no h2 ⟨#[37, 115, 101, 116, 45, 98, 111, 120, 33]⟩ (by simp [Ex.prims2, sRead, sError, sWinders, sWrite, sWind, sCallcc]))
          have q42 : (s.toList == [118, 101, 99, 116, 111, 114, 45, 115, 101, 116, 33]) = false := ba_no (inN_no h3 ⟨#[118, 101, 99, 116, 111, 114, 45, 115, 101, 116, 33]⟩ (by simp [Ex.prims3, sRead, sError, sWinders, sWrite, sWind, sCallcc]))
          have q43 : (s.toList == [115, 116, 114, 105, 110, 103, 45, 115, 101, 116, 33]) = false := ba_no (inN_no h3 ⟨#[115, 116, 114, 105, 110, 103, 45, 115, 101, 116, 33]⟩ (by simp [Ex.prims3, sRead, sError, sWinders, sWrite, sWind, sCallcc]))
          clear h0 h1 h2 h3 e
          go_enter Tryz.func88, Tryz.ntmps88
          go_wp2_with fail
          go_ret
          exact ⟨rfl, rfl⟩
end Ew
end Go.Proofs.YtkplkgdfphbldaaGreat
namespace Go.Proofs.YtkplkgdfphbldaaGreat
open Go.RowKit
set_option linter.unusedVariables false
set_option linter.unusedSimpArgs false
set_option maxRecDepth 100000
namespace Ew
open Rn
set_option maxHeartbeats 1000000 in
theorem eqfunc_bare (a : Option Addr) (n c : Nat) (hn : n ≤ 9223372036854775807) (w : World) : Calls Tryz.prog 105 #[.slice a n c, .slice none 0 0, .func (.func 84) #[] #[]] w fun e w' => e = .returned (.bool (decide (n = 0))) ∧ w = w' := by
  by_cases h : n = 0
  · subst h
    go_enter Tryz.func105, Tryz.ntmps105
    go_wp2_with fail
    refine wp_loop_rounds 1 ?_
    rw [rounds_succ]
    go_wp2_with fail
    go_ret
    exact ⟨rfl, rfl⟩
  · have g1 : ((n : Int) != 0) = true := by rw [bne_iff_ne]; omega
    have g2 : (n != 0) = true := by rw [bne_iff_ne]; exact h
    have e : decide (n = 0) = false := decide_eq_false h
    rw [e]
    go_enter Tryz.func105, Tryz.ntmps105
    go_wp2_with fail
    go_ret
    exact ⟨rfl, rfl⟩
set_option maxHeartbeats 2000000 in
theorem equal_bare (k i : Int) (t : ByteArray) (a : Option Addr) (n c : Nat) (hn : n ≤ 9223372036854775807) (w : World) : Calls Tryz.prog 84 #[.agg #[.int .i64 k, .int .i64 i, .string t, .slice a n c], .agg #[.int .i64 0, .int .i64 0, .string ⟨#[]⟩, .slice none 0 0]] w fun e w' => e = .returned (.bool (decide (k = 0) && decide (i = 0) && decide (t = ⟨#[]⟩) && decide (n = 0))) ∧ Below w.heap.size w w' := by
  have hB : Below w.heap.size w ((w.alloc (.cells #[.int .i64 k, .int .i64 i, .string t, .slice a n c] 25)).alloc (.cells #[.int .i64 0, .int .i64 0, .string ⟨#[]⟩, .slice none 0 0] 25)) := ((Below.refl _ _).alloc (Nat.le_refl _) _).alloc (by simp) _
  have HB := Lib.hid hB
  clear hB
  by_cases hk : k = 0
  · subst hk
    by_cases hi : i = 0
    · subst hi
      by_cases ht : t = ⟨#[]⟩
      · subst ht
        have HE := Lib.hid (eqfunc_bare a n c hn)
        have e : (decide ((0 : Int) = 0) && decide ((0 : Int) = 0) && decide ((⟨#[]⟩ : ByteArray) = ⟨#[]⟩) && decide (n = 0)) = decide (n = 0) := by simp
        rw [e]
        go_enter Tryz.func84, Tryz.ntmps84
        go_wp2_with fail
        with_reducible refine (HE.out _).mono ?_
        rintro e w3 ⟨rfl, rfl⟩
        go_wp2_with fail
        go_ret
        exact ⟨by simp, HB.out⟩
      · have z3 : ¬ t.toList = [] := fun e => ht (by rw [Lib.toList_data] at e; obtain ⟨d⟩ := t; have h4 : d = #[] := Array.toList_eq_nil_iff.1 e; rw [h4])
        have z4 : t.toList.isEmpty = false := by simpa using z3
        have z5 : (t.toList == []) = false := by simpa using z3
        have e : (decide ((0 : Int) = 0) && decide ((0 : Int) = 0) && decide (t = (⟨#[]⟩ : ByteArray)) && decide (n = 0)) = false := by simp [ht]
        rw [e]
        clear ht
        go_enter Tryz.func84, Tryz.ntmps84
        go_wp2_with fail
        go_ret
        exact ⟨rfl, HB.out⟩
    · have g1 : (i == 0) = false := beq_eq_false_iff_ne.2 hi
      have e : (decide ((0 : Int) = 0) && decide (i = 0) && decide (t = (⟨#[]⟩ : ByteArray)) && decide (n = 0)) = false := by simp [hi]
      rw [e]
      clear hi
      go_enter Tryz.func84, Tryz.ntmps84
      go_wp2_with fail
      go_ret
      exact ⟨rfl, HB.out⟩
  · have g1 : (k == 0) = false := beq_eq_false_iff_ne.2 hk
    have e : (decide (k = 0) && decide (i = 0) && decide (t = (⟨#[]⟩ : ByteArray)) && decide (n = 0)) = false := by simp [hk]
    rw [e]
    clear hk
    go_enter Tryz.func84, Tryz.ntmps84
    go_wp2_with fail
    go_ret
    exact ⟨rfl, HB.out⟩
end Ew
end Go.Proofs.YtkplkgdfphbldaaGreat
namespace Go.Proofs.YtkplkgdfphbldaaGreat
open Go.RowKit
set_option linter.unusedVariables false
set_option linter.unusedSimpArgs false
set_option maxRecDepth 100000
namespace Ew
open Rn
theorem index_any (l : List ByteArray) (s : ByteArray) {w : World} {na : Option Addr} {nc : Nat} (hn : Sl w (.slice na l.length nc) (strs l)) (hl : l.length ≤ 9223372036854775807) :
    Calls Tryz.prog 119 #[.slice na l.length nc, .string s] w fun e w' => (∃ k : Int, e = .returned (.int .i64 k) ∧ decide (0 ≤ k) = Ex.inN l s) ∧ w = w' := by
  have HN := Lib.hid hn
  clear hn
  go_enter Tryz.func119, Tryz.ntmps119
  go_wp2_with fail
  go_loopg [8] l.length (fun g i wr => ∃ j : Nat, j ≤ l.length ∧ g = l.length - j ∧ i = .int .i64 j ∧ w = wr ∧ ∀ y ∈ l.take j, ¬ y = s)
  case atStart => exact ⟨0, Nat.zero_le _, rfl, rfl, rfl, fun y hy => by simp at hy⟩
  case round =>
    obtain ⟨j, hj, rfl, rfl, rfl, hall⟩ := hrel
    have HA := Lib.hid hall
    clear hall
    by_cases hlt : j < l.length
    · obtain ⟨x, hx⟩ : ∃ x, l[j]? = some x := ⟨_, List.getElem?_eq_getElem hlt⟩
      obtain ⟨b, off, rfl, hbl, hc⟩ := text_at HN.out hx
      have HX := Lib.hid hx
      have g1 : (0 : Int) ≤ j := by omega
      have g2 : (j : Int) < l.length := by omega
      have gw : IntKind.i64.wrap ((j : Int) + 1) = ((j + 1 : Nat) : Int) := by rw [IntKind.wrap_i64]; omega
      clear hx
      by_cases hs : s = x
      · have hs2 : (s.toList == x.toList) = true := by rw [hs]; exact beq_self_eq_true _
        have HH : Hid (Ex.inN l s = true) := (Ex.inN_iff l s).2 (hs ▸ List.mem_of_getElem? HX.out)
        clear hs
        go_wp2_with fail
        go_ret
        exact ⟨⟨j, rfl, by rw [HH.out]; exact decide_eq_true g1⟩, rfl⟩
      · have hs2 : (s.toList == x.toList) = false := beq_eq_false_iff_ne.2 fun h => hs (toList_inj' h)
        have HS := Lib.hid hs
        clear hs
        go_wp2_with fail
        go_roundg (l.length - (j + 1))
        case measure => omega
        case rel =>
          refine ⟨j + 1, by omega, rfl, by go_num, rfl, fun y hy => ?_⟩
          rw [List.take_add_one, HX.out] at hy
          simp at hy
          rcases hy with hy | rfl
          · exact HA.out y hy
          · exact fun e => HS.out e.symm
    · have hje : j = l.length := by omega
      have HH : Hid (Ex.inN l s = false) := by
        unfold Hid
        rw [Bool.eq_false_iff]
        intro h
        have h := (Ex.inN_iff l s).1 h
        exact HA.out s (by rw [hje, List.take_length]; exact h) rfl
      have hge : (l.length : Int) ≤ j := by omega
      clear hje
      go_wp2_with fail
      go_ret
      exact ⟨⟨-1, rfl, by rw [HH.out]; rfl⟩, rfl⟩
theorem contains_any (l : List ByteArray) (s : ByteArray) {w : World} {na : Option Addr} {nc : Nat} (hn : Sl w (.slice na l.length nc) (strs l)) (hl : l.length ≤ 9223372036854775807) :
    Calls Tryz.prog 100 #[.slice na l.length nc, .string s] w fun e w' => e = .returned (.bool (Ex.inN l s)) ∧ w = w' := by
  have HC := Lib.hid (index_any l s hn hl)
  clear hn
  go_enter Tryz.func100, Tryz.ntmps100
  go_wp2_with fail
  with_reducible refine HC.out.mono ?_
  rintro e2 w2 ⟨⟨k, rfl, hk⟩, rfl⟩
  have HK := Lib.hid hk
  clear hk
  go_wp2_with fail
  go_ret
  exact ⟨by rw [← HK.out]; rfl, rfl⟩
set_option maxHeartbeats 8000000 in
theorem dnames_any (l : List ByteArray) {w : World} {na : Option Addr} {nc : Nat} (hn : Sl w (.slice na l.length nc) (strs l)) (hr : l.length ≤ nc) (hl : l.length ≤ 9223372036854775807) (hs : ∀ s ∈ l, s.size ≤ maxLen) :
    Calls Tryz.prog 79 #[.slice na l.length nc] w (Says (.bool (Ex.namesB l)) w) := by
  have HN := Lib.hid hn
  have HS := Lib.hid hs
  clear hn hs
  go_enter Tryz.func79, Tryz.ntmps79
  go_wp2_with fail
  go_loopg [7] l.length (fun g i wr => ∃ j : Nat, j ≤ l.length ∧ g = l.length - j ∧ i = .int .i64 j ∧ Below w.heap.size w wr ∧ Ex.namesB (l.take j) = true)
  case atStart => exact ⟨0, Nat.zero_le _, rfl, rfl, Below.refl _ _, by rw [List.take_zero]; rfl⟩
  case round =>
    obtain ⟨j, hj, rfl, rfl, hb, hall⟩ := hrel
    have HB2 := Lib.hid hb
    have HA := Lib.hid hall
    clear hb hall
    by_cases hlt : j < l.length
    · obtain ⟨x, hx⟩ : ∃ x, l[j]? = some x := ⟨_, List.getElem?_eq_getElem hlt⟩
      have hsl := sl_bel HN.out HB2.out
      have hst := sl_take hsl j hlt
      obtain ⟨b, off, rfl, hbl, hc⟩ := text_at hsl hx
      have HX := Lib.hid hx
      have HST := Lib.hid hst
      have hxs : x.size ≤ maxLen := HS.out x (List.mem_of_getElem? hx)
      have g1 : (0 : Int) ≤ j := by omega
      have g2 : (j : Int) < l.length := by omega
      have g3 : (j : Int) ≤ nc := by omega
      have g4 : j ≤ nc := by omega
      have gw : IntKind.i64.wrap ((j : Int) + 1) = ((j + 1 : Nat) : Int) := by rw [IntKind.wrap_i64]; omega
      have hle : (l.take j).length = j := by rw [List.length_take]; omega
      have HTK := Lib.hid (namesB_take l j x hx)
      clear hx hsl hst
      have HIN := Lib.hid (contains_any (l.take j) x (w := wr) (na := some ⟨b, off, none⟩) (nc := nc) (by rw [hle]; exact HST.out) (by omega))
      rw [hle] at HIN
      have HNM := Lib.hid (dname_any x hxs)
      cases hnb : Nm.nameB x with
      | false =>
        rw [hnb] at HNM HTK
        have HH : Hid (Ex.namesB l = false) := namesB_bad (j := j + 1) (by rw [HTK.out]; simp)
        clear hnb hle
        go_wp2_with fail
        with_reducible refine (HNM.out _).mono ?_
        rintro e2 w2 ⟨rfl, rfl⟩
        go_wp2_with fail
        go_ret
        exact ⟨by rw [HH.out]; rfl, HB2.out⟩
      | true =>
        rw [hnb] at HNM HTK
        clear hnb hle
        go_wp2_with fail
        with_reducible refine (HNM.out _).mono ?_
        rintro e2 w2 ⟨rfl, rfl⟩
        go_wp2_with fail
        with_reducible refine HIN.out.mono ?_
        rintro e2 w2 ⟨rfl, rfl⟩
        cases hin : Ex.inN (l.take j) x with
        | true =>
          rw [hin] at HTK
          have HH : Hid (Ex.namesB l = false) := namesB_bad (j := j + 1) (by rw [HTK.out]; simp)
          clear hin
          go_wp2_with fail
          go_ret
          exact ⟨by rw [HH.out]; rfl, HB2.out⟩
        | false =>
          rw [hin] at HTK
          clear hin
          go_wp2_with fail
          go_roundg (l.length - (j + 1))
          case measure => omega
          case rel => exact ⟨j + 1, by omega, rfl, by go_num, HB2.out, by rw [HTK.out, HA.out]; rfl⟩
    · have hje : j = l.length := by omega
      have HH : Hid (Ex.namesB l = true) := by
        have h := HA.out
        rw [hje, List.take_length] at h
        exact h
      have hge : (l.length : Int) ≤ j := by omega
      clear hje
      go_wp2_with fail
      go_ret
      exact ⟨by rw [HH.out]; rfl, HB2.out⟩
end Ew
end Go.Proofs.YtkplkgdfphbldaaGreat
namespace Go.Proofs.YtkplkgdfphbldaaGreat
open Go.RowKit
set_option linter.unusedVariables false
set_option linter.unusedSimpArgs false
set_option maxRecDepth 100000
namespace Ew
open Rn
set_option maxHeartbeats 8000000 in
theorem psets_any (s : ByteArray) (e : Ex) : ∀ {w : World} {na : Option Addr} {nc : Nat} {da : Option Addr} {dn dc : Nat} {ka : Option Addr} {kc : Nat}, Few e → Op w e na nc da dn dc ka kc →
    Calls Tryz.prog 64 #[.agg #[.int .i64 e.kind, .string e.name, .slice na e.names.length nc, .int .i64 e.const.kind, .int .i64 e.const.int, .string e.const.text, .slice da dn dc, .slice ka e.kids.length kc], .string s] w (Says (.bool (Ex.sets s e)) w) := by
  induction e using Ex.byKids with
  | h e ih =>
  intro w na nc da dn dc ka kc hsz ho
  obtain ⟨w1, B1⟩ := boxed w #[.int .i64 e.kind, .string e.name, .slice na e.names.length nc, .int .i64 e.const.kind, .int .i64 e.const.int, .string e.const.text, .slice da dn dc, .slice ka e.kids.length kc] 28
  have hR := Row.of B1.blk
  have HO := Lib.hid (ho.bel B1.below)
  have HB := Lib.hid B1
  have HR := Lib.hid hR
  have HIH := Lib.hid ih
  clear ih
  have hl := hsz.len
  have HSZ := Lib.hid hsz
  obtain ⟨x0, x1, x2, x3, x4, x5, x6, x7, hbl⟩ := hR
  clear B1 ho hsz
  by_cases hk : e.kind = 2
  · have k1 : (e.kind == 2) = true := by rw [hk]; rfl
    by_cases hs : e.name = s
    · have k2 : (e.name.toList == s.toList) = true := by rw [hs]; exact beq_self_eq_true _
      have HH : Hid (Ex.sets s e = true) := (Ex.sets_iff s e).2 (.inl ⟨hk, hs⟩)
      clear hk hs
      go_enter Tryz.func64, Tryz.ntmps64
      go_upto_region 1 with fail
      rw [← HB.out.eq]
      go_wp2_with fail
      go_ret
      exact ⟨by rw [HH.out]; rfl, HB.out.below⟩
    · have k2 : (e.name.toList == s.toList) = false := beq_eq_false_iff_ne.2 fun h => hs (toList_inj' h)
      have hno : ¬ (e.kind = 2 ∧ e.name = s) := fun h => hs h.2
      have HNO := Lib.hid hno
      clear hno hk hs
      go_enter Tryz.func64, Tryz.ntmps64
      go_upto_region 1 with fail
      rw [← HB.out.eq]
      go_wp2_with fail
      go_loopg [19] e.kids.length (fun g i wr => ∃ j : Nat, j ≤ e.kids.length ∧ g = e.kids.length - j ∧ i = .int .i64 j ∧ Below w1.heap.size w1 wr ∧ ∀ i y, i < j → e.kids[i]? = some y → setsAt e s i y = false)
      case atStart => exact ⟨0, Nat.zero_le _, rfl, rfl, Below.refl _ _, fun i y hi => absurd hi (Nat.not_lt_zero _)⟩
      case round =>
        obtain ⟨j, hj, rfl, rfl, hb, hall⟩ := hrel
        have HBW := Lib.hid hb
        have HA := Lib.hid hall
        obtain ⟨y0, y1, y2, y3, y4, y5, y6, y7, ybl⟩ := HR.out.bel hb
        clear hb hall
        by_cases hlt : j < e.kids.length
        · obtain ⟨x, hx⟩ : ∃ x, e.kids[j]? = some x := ⟨_, List.getElem?_eq_getElem hlt⟩
          have HX := Lib.hid hx
          have gw : IntKind.i64.wrap ((j : Int) + 1) = ((j + 1 : Nat) : Int) := by rw [IntKind.wrap_i64]; omega
          have HJ : Hid (j ≤ 100000) := by unfold Hid; omega
          have HL : Hid (e.kids.length ≤ 100000) := hl
          clear hx
          obtain ⟨kb, koff, na2, nc2, da2, dn2, dc2, ya2, yc2, hk⟩ := (HO.out.bel HBW.out).kid HX.out
          have HKO := Lib.hid hk.op
          obtain ⟨e1, hkb, ⟨g1, g2⟩, _, c0, c1, c2, c3, c4, c5, c6, c7⟩ := hk
          subst e1
          obtain ⟨w2, B2⟩ := boxed wr #[.int .i64 x.kind, .string x.name, .slice na2 x.names.length nc2, .int .i64 x.const.kind, .int .i64 x.const.int, .string x.const.text, .slice da2 dn2 dc2, .slice ya2 x.kids.length yc2] 28
          have HB2 := Lib.hid B2
          have HXR := Lib.hid (Row.of B2.blk)
          have hsw := B2.size
          have HBX : Hid (Below w1.heap.size w1 w2) := HBW.out.trans (B2.below.mono HBW.out.size)
          have HWR := Lib.hid HBW.out
          clear B2
          go_upto_region 6 with fail
          rw [← HB2.out.eq]
          have HWX : Hid (Below wr.heap.size wr w2) := HB2.out.below
          have HBW := HBX
          obtain ⟨y0, y1, y2, y3, y4, y5, y6, y7, ybl⟩ := HR.out.bel HBW.out
          obtain ⟨v0, v1, v2, v3, v4, v5, v6, v7, vbl⟩ := HXR.out
          clear c0 c1 c2 c3 c4 c5 c6 c7
          have HC := Lib.hid (pbinds_any j HJ.out e HL.out (HO.out.bel HBW.out))
          go_wp2_with fail
          with_reducible refine HC.out.mono ?_
          rintro e2 w3 ⟨rfl, hb2⟩
          have HWX : Hid (Below wr.heap.size wr w3) := HWX.out.trans (hb2.mono HWX.out.size)
          have HBW : Hid (Below w1.heap.size w1 w3) := HBW.out.trans (hb2.mono HBW.out.size)
          have HXR := Lib.hid (HXR.out.bel hb2)
          clear hb2
          obtain ⟨y0, y1, y2, y3, y4, y5, y6, y7, ybl⟩ := HR.out.bel HBW.out
          obtain ⟨v0, v1, v2, v3, v4, v5, v6, v7, vbl⟩ := HXR.out
          cases hbd : Ex.binds e.kind e.kids.length j with
          | false =>
            have HBD := Lib.hid hbd
            clear hbd
            have HC := Lib.hid (HIH.out x (List.mem_of_getElem? HX.out) (HSZ.out.kid (List.mem_of_getElem? HX.out)) (HKO.out.bel HWX.out))
            go_wp2_with fail
            with_reducible refine HC.out.mono ?_
            rintro e2 w4 ⟨rfl, hb2⟩
            have HBW : Hid (Below w1.heap.size w1 w4) := HBW.out.trans (hb2.mono HBW.out.size)
            clear hb2
            obtain ⟨y0, y1, y2, y3, y4, y5, y6, y7, ybl⟩ := HR.out.bel HBW.out
            cases hh : Ex.sets s x with
            | true =>
              have HP : Hid (setsAt e s j x = true) := by unfold Hid setsAt; rw [HBD.out, hh]; rfl
              clear hh
              have HH := Lib.hid (sets_yes HX.out HP.out)
              go_wp2_with fail
              go_ret
              exact ⟨by rw [HH.out]; rfl, HB.out.below.trans (HBW.out.mono HB.out.below.size)⟩
            | false =>
              have HP : Hid (setsAt e s j x = false) := by unfold Hid setsAt; rw [HBD.out, hh]; rfl
              clear hh
              go_wp2_with fail
              go_roundg (e.kids.length - (j + 1))
              case measure => omega
              case rel => exact ⟨j + 1, by omega, rfl, by go_num, HBW.out, upto_step HA.out HX.out HP.out⟩
          | true =>
            have HBD := Lib.hid hbd
            clear hbd
            have HC := Lib.hid (pin_any e.names s (HO.out.bel HBW.out).names (by have := HSZ.out.nl; omega))
            go_wp2_with fail
            with_reducible refine HC.out.mono ?_
            rintro e2 w4 ⟨rfl, hb2⟩
            have HWX : Hid (Below wr.heap.size wr w4) := HWX.out.trans (hb2.mono HWX.out.size)
            have HBW : Hid (Below w1.heap.size w1 w4) := HBW.out.trans (hb2.mono HBW.out.size)
            have HXR := Lib.hid (HXR.out.bel hb2)
            clear hb2
            obtain ⟨y0, y1, y2, y3, y4, y5, y6, y7, ybl⟩ := HR.out.bel HBW.out
            obtain ⟨v0, v1, v2, v3, v4, v5, v6, v7, vbl⟩ := HXR.out
            cases hin : Ex.inN e.names s with
            | true =>
              have HP : Hid (setsAt e s j x = false) := by unfold Hid setsAt; rw [HBD.out, hin]; rfl
              clear hin
              go_wp2_with fail
              go_roundg (e.kids.length - (j + 1))
              case measure => omega
              case rel => exact ⟨j + 1, by omega, rfl, by go_num, HBW.out, upto_step HA.out HX.out HP.out⟩
            | false =>
              have HIN := Lib.hid hin
              clear hin
              have HC := Lib.hid (HIH.out x (List.mem_of_getElem? HX.out) (HSZ.out.kid (List.mem_of_getElem? HX.out)) (HKO.out.bel HWX.out))
              go_wp2_with fail
              with_reducible refine HC.out.mono ?_
              rintro e2 w5 ⟨rfl, hb2⟩
              have HBW : Hid (Below w1.heap.size w1 w5) := HBW.out.trans (hb2.mono HBW.out.size)
              clear hb2
              obtain ⟨y0, y1, y2, y3, y4, y5, y6, y7, ybl⟩ := HR.out.bel HBW.out
              cases hh : Ex.sets s x with
              | true =>
                have HP : Hid (setsAt e s j x = true) := by unfold Hid setsAt; rw [HBD.out, HIN.out, hh]; rfl
                clear hh
                have HH := Lib.hid (sets_yes HX.out HP.out)
                go_wp2_with fail
                go_ret
                exact ⟨by rw [HH.out]; rfl, HB.out.below.trans (HBW.out.mono HB.out.below.size)⟩
              | false =>
                have HP : Hid (setsAt e s j x = false) := by unfold Hid setsAt; rw [HBD.out, HIN.out, hh]; rfl
                clear hh
                go_wp2_with fail
                go_roundg (e.kids.length - (j + 1))
                case measure => omega
                case rel => exact ⟨j + 1, by omega, rfl, by go_num, HBW.out, upto_step HA.out HX.out HP.out⟩
        · have hje : j = e.kids.length := by omega
          have HH : Hid (Ex.sets s e = false) := by
            have h := HA.out
            rw [hje] at h
            exact sets_no HNO.out h
          have hge : (e.kids.length : Int) ≤ j := by omega
          go_wp2_with fail
          go_ret
          exact ⟨by rw [HH.out]; rfl, HB.out.below.trans (HBW.out.mono HB.out.below.size)⟩
  · have k1 : (e.kind == 2) = false := beq_eq_false_iff_ne.2 hk
    have hno : ¬ (e.kind = 2 ∧ e.name = s) := fun h => hk h.1
    have HNO := Lib.hid hno
    clear hno hk
    go_enter Tryz.func64, Tryz.ntmps64
    go_upto_region 1 with fail
    rw [← HB.out.eq]
    go_wp2_with fail
    go_loopg [19] e.kids.length (fun g i wr => ∃ j : Nat, j ≤ e.kids.length ∧ g = e.kids.length - j ∧ i = .int .i64 j ∧ Below w1.heap.size w1 wr ∧ ∀ i y, i < j → e.kids[i]? = some y → setsAt e s i y = false)
    case atStart => exact ⟨0, Nat.zero_le _, rfl, rfl, Below.refl _ _, fun i y hi => absurd hi (Nat.not_lt_zero _)⟩
    case round =>
      obtain ⟨j, hj, rfl, rfl, hb, hall⟩ := hrel
      have HBW := Lib.hid hb
      have HA := Lib.hid hall
      obtain ⟨y0, y1, y2, y3, y4, y5, y6, y7, ybl⟩ := HR.out.bel hb
      clear hb hall
      by_cases hlt : j < e.kids.length
      · obtain ⟨x, hx⟩ : ∃ x, e.kids[j]? = some x := ⟨_, List.getElem?_eq_getElem hlt⟩
        have HX := Lib.hid hx
        have gw : IntKind.i64.wrap ((j : Int) + 1) = ((j + 1 : Nat) : Int) := by rw [IntKind.wrap_i64]; omega
        have HJ : Hid (j ≤ 100000) := by unfold Hid; omega
        have HL : Hid (e.kids.length ≤ 100000) := hl
        clear hx
        obtain ⟨kb, koff, na2, nc2, da2, dn2, dc2, ya2, yc2, hk⟩ := (HO.out.bel HBW.out).kid HX.out
        have HKO := Lib.hid hk.op
        obtain ⟨e1, hkb, ⟨g1, g2⟩, _, c0, c1, c2, c3, c4, c5, c6, c7⟩ := hk
        subst e1
        obtain ⟨w2, B2⟩ := boxed wr #[.int .i64 x.kind, .string x.name, .slice na2 x.names.length nc2, .int .i64 x.const.kind, .int .i64 x.const.int, .string x.const.text, .slice da2 dn2 dc2, .slice ya2 x.kids.length yc2] 28
        have HB2 := Lib.hid B2
        have HXR := Lib.hid (Row.of B2.blk)
        have hsw := B2.size
        have HBX : Hid (Below w1.heap.size w1 w2) := HBW.out.trans (B2.below.mono HBW.out.size)
        have HWR := Lib.hid HBW.out
        clear B2
        go_upto_region 6 with fail
        rw [← HB2.out.eq]
        have HWX : Hid (Below wr.heap.size wr w2) := HB2.out.below
        have HBW := HBX
        obtain ⟨y0, y1, y2, y3, y4, y5, y6, y7, ybl⟩ := HR.out.bel HBW.out
        obtain ⟨v0, v1, v2, v3, v4, v5, v6, v7, vbl⟩ := HXR.out
        clear c0 c1 c2 c3 c4 c5 c6 c7
        have HC := Lib.hid (pbinds_any j HJ.out e HL.out (HO.out.bel HBW.out))
        go_wp2_with fail
        with_reducible refine HC.out.mono ?_
        rintro e2 w3 ⟨rfl, hb2⟩
        have HWX : Hid (Below wr.heap.size wr w3) := HWX.out.trans (hb2.mono HWX.out.size)
        have HBW : Hid (Below w1.heap.size w1 w3) := HBW.out.trans (hb2.mono HBW.out.size)
        have HXR := Lib.hid (HXR.out.bel hb2)
        clear hb2
        obtain ⟨y0, y1, y2, y3, y4, y5, y6, y7, ybl⟩ := HR.out.bel HBW.out
        obtain ⟨v0, v1, v2, v3, v4, v5, v6, v7, vbl⟩ := HXR.out
        cases hbd : Ex.binds e.kind e.kids.length j with
        | false =>
          have HBD := Lib.hid hbd
          clear hbd
          have HC := Lib.hid (HIH.out x (List.mem_of_getElem? HX.out) (HSZ.out.kid (List.mem_of_getElem? HX.out)) (HKO.out.bel HWX.out))
          go_wp2_with fail
          with_reducible refine HC.out.mono ?_
          rintro e2 w4 ⟨rfl, hb2⟩
          have HBW : Hid (Below w1.heap.size w1 w4) := HBW.out.trans (hb2.mono HBW.out.size)
          clear hb2
          obtain ⟨y0, y1, y2, y3, y4, y5, y6, y7, ybl⟩ := HR.out.bel HBW.out
          cases hh : Ex.sets s x with
          | true =>
            have HP : Hid (setsAt e s j x = true) := by unfold Hid setsAt; rw [HBD.out, hh]; rfl
            clear hh
            have HH := Lib.hid (sets_yes HX.out HP.out)
            go_wp2_with fail
            go_ret
            exact ⟨by rw [HH.out]; rfl, HB.out.below.trans (HBW.out.mono HB.out.below.size)⟩
          | false =>
            have HP : Hid (setsAt e s j x = false) := by unfold Hid setsAt; rw [HBD.out, hh]; rfl
            clear hh
            go_wp2_with fail
            go_roundg (e.kids.length - (j + 1))
            case measure => omega
            case rel => exact ⟨j + 1, by omega, rfl, by go_num, HBW.out, upto_step HA.out HX.out HP.out⟩
        | true =>
          have HBD := Lib.hid hbd
          clear hbd
          have HC := Lib.hid (pin_any e.names s (HO.out.bel HBW.out).names (by have := HSZ.out.nl; omega))
          go_wp2_with fail
          with_reducible refine HC.out.mono ?_
          rintro e2 w4 ⟨rfl, hb2⟩
          have HWX : Hid (Below wr.heap.size wr w4) := HWX.out.trans (hb2.mono HWX.out.size)
          have HBW : Hid (Below w1.heap.size w1 w4) := HBW.out.trans (hb2.mono HBW.out.size)
          have HXR := Lib.hid (HXR.out.bel hb2)
          clear hb2
          obtain ⟨y0, y1, y2, y3, y4, y5, y6, y7, ybl⟩ := HR.out.bel HBW.out
          obtain ⟨v0, v1, v2, v3, v4, v5, v6, v7, vbl⟩ := HXR.out
          cases hin : Ex.inN e.names s with
          | true =>
            have HP : Hid (setsAt e s j x = false) := by unfold Hid setsAt; rw [HBD.out, hin]; rfl
            clear hin
            go_wp2_with fail
            go_roundg (e.kids.length - (j + 1))
            case measure => omega
            case rel => exact ⟨j + 1, by omega, rfl, by go_num, HBW.out, upto_step HA.out HX.out HP.out⟩
          | false =>
            have HIN := Lib.hid hin
            clear hin
            have HC := Lib.hid (HIH.out x (List.mem_of_getElem? HX.out) (HSZ.out.kid (List.mem_of_getElem? HX.out)) (HKO.out.bel HWX.out))
            go_wp2_with fail
            with_reducible refine HC.out.mono ?_
            rintro e2 w5 ⟨rfl, hb2⟩
            have HBW : Hid (Below w1.heap.size w1 w5) := HBW.out.trans (hb2.mono HBW.out.size)
            clear hb2
            obtain ⟨y0, y1, y2, y3, y4, y5, y6, y7, ybl⟩ := HR.out.bel HBW.out
            cases hh : Ex.sets s x with
            | true =>
              have HP : Hid (setsAt e s j x = true) := by unfold Hid setsAt; rw [HBD.out, HIN.out, hh]; rfl
              clear hh
              have HH := Lib.hid (sets_yes HX.out HP.out)
              go_wp2_with fail
              go_ret
              exact ⟨by rw [HH.out]; rfl, HB.out.below.trans (HBW.out.mono HB.out.below.size)⟩
            | false =>
              have HP : Hid (setsAt e s j x = false) := by unfold Hid setsAt; rw [HBD.out, HIN.out, hh]; rfl
              clear hh
              go_wp2_with fail
              go_roundg (e.kids.length - (j + 1))
              case measure => omega
              case rel => exact ⟨j + 1, by omega, rfl, by go_num, HBW.out, upto_step HA.out HX.out HP.out⟩
      · have hje : j = e.kids.length := by omega
        have HH : Hid (Ex.sets s e = false) := by
          have h := HA.out
          rw [hje] at h
          exact sets_no HNO.out h
        have hge : (e.kids.length : Int) ≤ j := by omega
        go_wp2_with fail
        go_ret
        exact ⟨by rw [HH.out]; rfl, HB.out.below.trans (HBW.out.mono HB.out.below.size)⟩
set_option maxHeartbeats 8000000 in
theorem pasg_any (s : ByteArray) (e : Ex) : ∀ {w : World} {na : Option Addr} {nc : Nat} {da : Option Addr} {dn dc : Nat} {ka : Option Addr} {kc : Nat}, Few e → Op w e na nc da dn dc ka kc →
    Calls Tryz.prog 43 #[.agg #[.int .i64 e.kind, .string e.name, .slice na e.names.length nc, .int .i64 e.const.kind, .int .i64 e.const.int, .string e.const.text, .slice da dn dc, .slice ka e.kids.length kc], .string s] w (Says (.bool (Ex.assigned e s)) w) := by
  intro w na nc da dn dc ka kc hsz ho
  obtain ⟨w1, B1⟩ := boxed w #[.int .i64 e.kind, .string e.name, .slice na e.names.length nc, .int .i64 e.const.kind, .int .i64 e.const.int, .string e.const.text, .slice da dn dc, .slice ka e.kids.length kc] 28
  have hR := Row.of B1.blk
  have HO := Lib.hid (ho.bel B1.below)
  have HB := Lib.hid B1
  have HR := Lib.hid hR
  have hl := hsz.len
  have HSZ := Lib.hid hsz
  obtain ⟨x0, x1, x2, x3, x4, x5, x6, x7, hbl⟩ := hR
  clear B1 ho hsz
  go_enter Tryz.func43, Tryz.ntmps43
  go_upto_region 1 with fail
  rw [← HB.out.eq]
  go_wp2_with fail
  go_loopg [10] e.kids.length (fun g i wr => ∃ j : Nat, j ≤ e.kids.length ∧ g = e.kids.length - j ∧ i = .int .i64 j ∧ Below w1.heap.size w1 wr ∧ ∀ i y, i < j → e.kids[i]? = some y → asgAt e s i y = false)
  case atStart => exact ⟨0, Nat.zero_le _, rfl, rfl, Below.refl _ _, fun i y hi => absurd hi (Nat.not_lt_zero _)⟩
  case round =>
    obtain ⟨j, hj, rfl, rfl, hb, hall⟩ := hrel
    have HBW := Lib.hid hb
    have HA := Lib.hid hall
    obtain ⟨y0, y1, y2, y3, y4, y5, y6, y7, ybl⟩ := HR.out.bel hb
    clear hb hall
    by_cases hlt : j < e.kids.length
    · obtain ⟨x, hx⟩ : ∃ x, e.kids[j]? = some x := ⟨_, List.getElem?_eq_getElem hlt⟩
      have HX := Lib.hid hx
      have gw : IntKind.i64.wrap ((j : Int) + 1) = ((j + 1 : Nat) : Int) := by rw [IntKind.wrap_i64]; omega
      have HJ : Hid (j ≤ 100000) := by unfold Hid; omega
      have HL : Hid (e.kids.length ≤ 100000) := hl
      clear hx
      obtain ⟨kb, koff, na2, nc2, da2, dn2, dc2, ya2, yc2, hk⟩ := (HO.out.bel HBW.out).kid HX.out
      have HKO := Lib.hid hk.op
      obtain ⟨e1, hkb, ⟨g1, g2⟩, _, c0, c1, c2, c3, c4, c5, c6, c7⟩ := hk
      subst e1
      obtain ⟨w2, B2⟩ := boxed wr #[.int .i64 x.kind, .string x.name, .slice na2 x.names.length nc2, .int .i64 x.const.kind, .int .i64 x.const.int, .string x.const.text, .slice da2 dn2 dc2, .slice ya2 x.kids.length yc2] 28
      have HB2 := Lib.hid B2
      have HXR := Lib.hid (Row.of B2.blk)
      have hsw := B2.size
      have HBX : Hid (Below w1.heap.size w1 w2) := HBW.out.trans (B2.below.mono HBW.out.size)
      have HWR := Lib.hid HBW.out
      clear B2
      go_upto_region 4 with fail
      rw [← HB2.out.eq]
      have HWX : Hid (Below wr.heap.size wr w2) := HB2.out.below
      have HBW := HBX
      obtain ⟨y0, y1, y2, y3, y4, y5, y6, y7, ybl⟩ := HR.out.bel HBW.out
      obtain ⟨v0, v1, v2, v3, v4, v5, v6, v7, vbl⟩ := HXR.out
      clear c0 c1 c2 c3 c4 c5 c6 c7
      have HC := Lib.hid (pbinds_any j HJ.out e HL.out (HO.out.bel HBW.out))
      go_wp2_with fail
      with_reducible refine HC.out.mono ?_
      rintro e2 w3 ⟨rfl, hb2⟩
      have HWX : Hid (Below wr.heap.size wr w3) := HWX.out.trans (hb2.mono HWX.out.size)
      have HBW : Hid (Below w1.heap.size w1 w3) := HBW.out.trans (hb2.mono HBW.out.size)
      have HXR := Lib.hid (HXR.out.bel hb2)
      clear hb2
      obtain ⟨y0, y1, y2, y3, y4, y5, y6, y7, ybl⟩ := HR.out.bel HBW.out
      obtain ⟨v0, v1, v2, v3, v4, v5, v6, v7, vbl⟩ := HXR.out
      cases hbd : Ex.binds e.kind e.kids.length j with
      | false =>
        have HP : Hid (asgAt e s j x = false) := by unfold Hid asgAt; rw [hbd]; rfl
        clear hbd
        go_wp2_with fail
        go_roundg (e.kids.length - (j + 1))
        case measure => omega
        case rel => exact ⟨j + 1, by omega, rfl, by go_num, HBW.out, upto_step HA.out HX.out HP.out⟩
      | true =>
        have HBD := Lib.hid hbd
        clear hbd
        have HC := Lib.hid (psets_any s x (HSZ.out.kid (List.mem_of_getElem? HX.out)) (HKO.out.bel HWX.out))
        go_wp2_with fail
        with_reducible refine HC.out.mono ?_
        rintro e2 w4 ⟨rfl, hb2⟩
        have HBW : Hid (Below w1.heap.size w1 w4) := HBW.out.trans (hb2.mono HBW.out.size)
        clear hb2
        obtain ⟨y0, y1, y2, y3, y4, y5, y6, y7, ybl⟩ := HR.out.bel HBW.out
        cases hh : Ex.sets s x with
        | true =>
          have HP : Hid (asgAt e s j x = true) := by unfold Hid asgAt; rw [HBD.out, hh]; rfl
          clear hh
          have HH := Lib.hid (asg_yes HX.out HP.out)
          go_wp2_with fail
          go_ret
          exact ⟨by rw [HH.out]; rfl, HB.out.below.trans (HBW.out.mono HB.out.below.size)⟩
        | false =>
          have HP : Hid (asgAt e s j x = false) := by unfold Hid asgAt; rw [HBD.out, hh]; rfl
          clear hh
          go_wp2_with fail
          go_roundg (e.kids.length - (j + 1))
          case measure => omega
          case rel => exact ⟨j + 1, by omega, rfl, by go_num, HBW.out, upto_step HA.out HX.out HP.out⟩
    · have hje : j = e.kids.length := by omega
      have HH : Hid (Ex.assigned e s = false) := by
        have h := HA.out
        rw [hje] at h
        exact asg_no h
      have hge : (e.kids.length : Int) ≤ j := by omega
      go_wp2_with fail
      go_ret
      exact ⟨by rw [HH.out]; rfl, HB.out.below.trans (HBW.out.mono HB.out.below.size)⟩
end Ew
end Go.Proofs.YtkplkgdfphbldaaGreat
namespace Go.Proofs.YtkplkgdfphbldaaGreat
open Go.RowKit
set_option linter.unusedVariables false
set_option linter.unusedSimpArgs false
namespace Rn
section
variable {w0 w w' W wr : World} {ρ ρ' ρj : Nat → Nat} {m most : Nat} {s s' : St} {q q' qj : Wh}
theorem RowR.own {r ty size n : Nat} {v : Value} {xs : List Value} (h : RowR w ρ r ty size n v xs) : w.ownsRow 0 ty size v n xs := h.1
def exA (e : Ex) (nv dl kv : Value) : Array Value := #[.int .i64 e.kind, .string e.name, nv, .int .i64 e.const.kind, .int .i64 e.const.int, .string e.const.text, dl, kv]
structure At (w0 W : World) (ρ : Nat → Nat) (m most : Nat) (E : Nat) (s : St) (wr : World) (ρj : Nat → Nat) (qj : Wh) : Prop where
  o : RnO w0 wr ρj m most s qj
  mv : Mv W ρ wr ρj
theorem At.blk {E : Nat} {cs : Array Value} {t : TypeId} (H : At w0 W ρ m most E s wr ρj qj) (hE : W.heap[E]? = some (.cells cs t (0, 0))) (h0 : ρ E = 0) : wr.heap[E]? = some (.cells cs t (0, 0)) :=
  (H.mv.keep E (Array.getElem?_eq_some_iff.1 hE).1 (.inl h0)).1.trans hE
theorem At.step {E : Nat} {w1 : World} {ρ1 : Nat → Nat} {q1 : Wh} (H : At w0 W ρ m most E s wr ρj qj) (h1 : RnO w0 w1 ρ1 m most s' q1) (m1 : Mv wr ρj w1 ρ1) : At w0 W ρ m most E s' w1 ρ1 q1 := ⟨h1, H.mv.trans m1⟩
structure Un (w0 W : World) (ρ : Nat → Nat) (m most : Nat) (E : Nat) (s : St) (q : Wh) (j : Nat) (wr : World) (nv : Value) : Prop where
  a : At w0 W ρ m most E s wr ρ q
  row : wr.ownsRow W.heap.size 78 3 nv j (Hp.flatV (List.replicate j unset))
theorem replicate_snoc (j : Nat) : List.replicate (j + 1) unset = List.replicate j unset ++ [unset] := by rw [List.replicate_succ', ]
theorem Un.next {E : Nat} {j : Nat} {nv : Value} {g cap : Nat} (H : Un w0 W ρ m most E s q j wr nv) (hW : RnO w0 W ρ m most s q) {wa w2 : World} (hb : Below wr.heap.size wr wa)
    (hown : w2.ownsRow W.heap.size 78 3 (.slice (some ⟨g, 0, none⟩) (j + 1) cap) (j + 1) (Hp.flatV (List.replicate j unset) ++ [.int .i64 7, .int .i64 0, .string ⟨#[]⟩])) (hg : wa.grownBy w2 nv.ownBlock) :
    Un w0 W ρ m most E s q (j + 1) w2 (.slice (some ⟨g, 0, none⟩) (j + 1) cap) := by
  have hO : ∀ b, nv.ownBlock = some b → ρ b = 0 ∧ w0.heap.size ≤ b := fun b e => ⟨hW.c.new (H.row.lt b e).1, Nat.le_trans hW.c.below.size (H.row.lt b e).1⟩
  refine ⟨⟨(H.a.o.bel hb).grow0 hg hO, (H.a.mv.bel hb).grow0 hg fun b e => (H.row.lt b e).1⟩, ?_⟩
  rw [replicate_snoc, Hp.flatV_append]
  exact hown
theorem Un.first {E : Nat} (hW : RnO w0 W ρ m most s q) : Un w0 W ρ m most E s q 0 (W.alloc (.cells #[] 78)) (.slice (some ⟨W.heap.size, 0, none⟩) 0 0) :=
  ⟨⟨hW.alloc _, mv_bel ((Below.refl _ _).alloc (Nat.le_refl _) _) ρ⟩, zero_row W _ 3⟩
theorem Un.vr {E : Nat} {j : Nat} {nv : Value} (H : Un w0 W ρ m most E s q j wr nv) (hW : RnO w0 W ρ m most s q) : VR wr ρ nv (List.replicate j unset) := by
  refine ⟨?_, fun b e => ⟨(H.row.lt b e).2, .inl (hW.c.new (H.row.lt b e).1)⟩⟩
  rcases own_shape H.row with ⟨e, e2, _⟩ | ⟨g, c, e, _⟩
  · subst e2
    exact ⟨none, 0, by simpa using e, .inl ⟨rfl, rfl, rfl⟩⟩
  · subst e
    exact ⟨_, c, by rw [List.length_replicate], .inr ⟨_, rfl, H.row.cells rfl⟩⟩
theorem tieT_drop {env : Env} {qb : Bool} {names : List ByteArray} {kids : List Ex} {j : Nat} {n : ByteArray} {x : Ex} (hn : names[j]? = some n) (hx : kids[j]? = some x) :
    tieT env qb ((names.zip kids).drop j) = (if (decide (x.kind = 5) == qb) = true then [eT x env, zT 7 (cellF env n)] else []) ++ tieT env qb ((names.zip kids).drop (j + 1)) := by
  have hz : (names.zip kids)[j]? = some (n, x) := by
    rw [List.getElem?_zip_eq_some]
    exact ⟨hn, hx⟩
  have hj : j < (names.zip kids).length := (List.getElem?_eq_some_iff.1 hz).1
  rw [List.drop_eq_getElem_cons hj]
  rw [List.getElem?_eq_getElem hj] at hz
  injection hz with hz
  rw [hz]
  unfold tieT
  rw [List.filter_cons]
  by_cases h : (decide (x.kind = 5) == qb) = true
  · rw [if_pos h, if_pos h]
    rfl
  · rw [if_neg h, if_neg h]
    rfl
theorem zip_len {names : List ByteArray} {kids : List Ex} {b : Ex} (h : kids[names.length]? = some b) : (names.zip kids).length = names.length := by
  have := (List.getElem?_eq_some_iff.1 h).1
  rw [List.length_zip]
  omega
theorem tieT_length (env : Env) (qb : Bool) (l : List (ByteArray × Ex)) : (tieT env qb l).length ≤ 2 * l.length := by
  unfold tieT
  induction l with
  | nil => simp
  | cons p l ih =>
    rw [List.filter_cons]
    split
    · simp at ih ⊢
      omega
    · simp at ih ⊢
      omega
def turnS (s2 : St) (inner : Env) (L : List (ByteArray × Ex)) (tn : Nat) : St := if tn = 2 then s2 else if tn = 1 then s2.push (tieT inner false L) else s2.push (tieT inner true L ++ tieT inner false L)
theorem turnS_next (s2 : St) (inner : Env) (L : List (ByteArray × Ex)) {tn : Nat} (h : tn = 1 ∨ tn = 2) : (turnS s2 inner L tn).push (tieT inner (decide (tn = 1)) L) = turnS s2 inner L (tn - 1) := by
  rcases h with rfl | rfl
  · show (s2.push _).push _ = s2.push _
    rw [push_push]
    rfl
  · rfl
theorem turnS_len {s2 : St} {inner : Env} {L : List (ByteArray × Ex)} (tn : Nat) : (turnS s2 inner L tn).todo.length ≤ s2.todo.length + 4 * L.length := by
  have h1 := tieT_length inner true L
  have h2 := tieT_length inner false L
  unfold turnS
  split
  · omega
  split
  · simp [St.push]; omega
  · simp [St.push]; omega
set_option maxHeartbeats 16000000 in
set_option maxRecDepth 100000 in
theorem rec_any (h : RnO w0 w ρ m most s q) (e : Ex) (env : Env) (nv dl kv ev : Value) (hx : ExAt w0 (exV e.kind e.name nv e.const dl kv) e) (he : RowR w ρ 6 125 2 env.length ev (envC env)) (hr : rec s e env = some s')
    (hnl : e.names.length ≤ 100000) (hel : env.length ≤ 1000000) (htl : s.todo.length ≤ 1000000) (hcl : s.cells.length ≤ 1000000) :
    Calls Tryz.prog 94 #[.pointer (some ⟨m, 0, none⟩), .agg #[.int .i64 e.kind, .string e.name, nv, .int .i64 e.const.kind, .int .i64 e.const.int, .string e.const.text, dl, kv], ev] w (RnPost w0 ρ m most s' w) := by
  obtain ⟨b, hb, rfl⟩ : ∃ b, e.kids[e.names.length]? = some b ∧ s' = (s.bind (List.replicate e.names.length unset)).push (tieT (env ++ envF e.names s.cells.length) true (e.names.zip e.kids) ++ (tieT (env ++ envF e.names s.cells.length) false (e.names.zip e.kids) ++ [eT b (env ++ envF e.names s.cells.length)])) := by
    unfold rec at hr
    split at hr
    · cases hr
    · rename_i b hb
      exact ⟨b, hb, (Option.some.inj hr).symm⟩
  clear hr
  obtain ⟨hk, hn, _⟩ := ExAt.kids hx
  obtain ⟨an, cn, rfl⟩ := hn.len
  rw [strs_length] at hn hx ⊢
  obtain ⟨ak, ck, rfl, _, _⟩ := id hk
  obtain ⟨ea, ec, rfl⟩ := he.slice
  obtain ⟨_, kb, koff, rfl, hkb, bnv, bdl, bkv, hbc⟩ := hk.at hb
  obtain ⟨i0, hi, hz0, hz1, hz2⟩ := info_parts infoVal
  have HI := Lib.hid hi
  have HZ0 := Lib.hid hz0
  have HZ1 := Lib.hid hz1
  have HZ2 := Lib.hid hz2
  obtain ⟨N, hN⟩ : ∃ N, N = e.names.length := ⟨_, rfl⟩
  obtain ⟨K, hK⟩ : ∃ K, K = e.kids.length := ⟨_, rfl⟩
  have hNK : N < K := by rw [hN, hK]; exact (List.getElem?_eq_some_iff.1 hb).1
  rw [← hN, ← hK]
  rw [← hN] at hb hn hbc
  rw [← hN, ← hK] at hx
  rw [← hK] at hk
  have hNl : N ≤ 100000 := by rw [hN]; exact hnl
  have HNN := Lib.hid hN
  have HKK := Lib.hid hK
  have HHw := Lib.hid h
  have HW : Hid (RnO w0 (w.alloc (.cells (exA e (.slice an N cn) dl (.slice (some ⟨kb, koff, none⟩) K ck)) 28)) ρ m most s q) := h.alloc _
  have HMW : Hid (Mv w ρ (w.alloc (.cells (exA e (.slice an N cn) dl (.slice (some ⟨kb, koff, none⟩) K ck)) 28)) ρ) := mv_bel ((Below.refl _ _).alloc (Nat.le_refl _) _) ρ
  have HE0 : Hid ((w.alloc (.cells (exA e (.slice an N cn) dl (.slice (some ⟨kb, koff, none⟩) K ck)) 28)).heap[w.heap.size]? = some (.cells (exA e (.slice an N cn) dl (.slice (some ⟨kb, koff, none⟩) K ck)) 28 (0, 0))) := heap_alloc_new _ _
  have HRE : Hid (ρ w.heap.size = 0) := h.c.new (Nat.le_refl _)
  have HX := Lib.hid hx
  have HKID := Lib.hid hk
  have HNS := Lib.hid hn
  have HE := Lib.hid he
  have HBC := Lib.hid hbc
  have HB := Lib.hid hb
  clear h hx hk hn he hbc hb hi hz0 hz1 hz2 hN hK
  unfold RnPost
  go_enter Tryz.func94, Tryz.ntmps94
  unfold exA at HW HMW HE0
  go_wp2_with fail
  generalize hW : w.alloc (.cells #[.int .i64 e.kind, .string e.name, .slice an N cn, .int .i64 e.const.kind, .int .i64 e.const.int, .string e.const.text, dl, .slice (some ⟨kb, koff, none⟩) K ck] 28) = W at HW HMW HE0 ⊢
  have HWE : Hid (W.heap.size = w.heap.size + 1) := by rw [← hW]; unfold Hid; simp
  generalize hEE : w.heap.size = E at HE0 HRE HWE ⊢
  have HUF : Hid (Un w0 W ρ m most E s q 0 (W.alloc (.cells #[] 78)) (.slice (some ⟨E + 1, 0, none⟩) 0 0)) := by
    have h := Un.first (E := E) HW.out
    rw [HWE.out] at h
    exact h
  clear hW
  go_loopg [7, 8] N (fun g o7 i wr => ∃ (j : Nat) (nvv : Value), j ≤ N ∧ g = N - j ∧ i = .int .i64 j ∧ nvv = o7 ∧ Un w0 W ρ m most E s q j wr nvv)
  case atStart => exact ⟨0, _, Nat.zero_le _, rfl, rfl, rfl, HUF.out⟩
  case round =>
    obtain ⟨j, nvv, hj, rfl, rfl, rfl, hU⟩ := hrel
    clear HUF
    by_cases hlt : j < N
    · obtain ⟨oa, oc, rfl⟩ : ∃ oa oc, nvv = .slice oa j oc := by
        rcases own_shape hU.row with ⟨e, e2, _⟩ | ⟨g, c, e, _⟩
        · exact ⟨none, 0, by rw [e, e2]⟩
        · exact ⟨_, c, e⟩
      have HU := Lib.hid hU
      have HR := Lib.hid hU.row
      have HNC : Hid (∀ (k : Nat) (u : Value), [Value.int .i64 7, .int .i64 0, .string ⟨#[]⟩][k]? = some u → (wr.alloc (.cells #[.int .i64 7, .int .i64 0, .string ⟨#[]⟩] 78)).cell? ((⟨wr.heap.size, 0, none⟩ : Addr).add k) = some u) := World.news_of_block (cs := #[.int .i64 7, .int .i64 0, .string ⟨#[]⟩]) (heap_alloc_new _ _)
      have HB5 : Hid (Below wr.heap.size wr (wr.alloc (.cells #[.int .i64 7, .int .i64 0, .string ⟨#[]⟩] 78))) := (Below.refl _ _).alloc (Nat.le_refl _) _
      have HSZ5 : Hid ((wr.alloc (.cells #[.int .i64 7, .int .i64 0, .string ⟨#[]⟩] 78)).heap.size = wr.heap.size + 1) := by unfold Hid; simp
      have HWL : Hid (W.heap.size ≤ wr.heap.size) := hU.a.mv.size
      have g2 : (j : Int) < N := by omega
      have gw : IntKind.i64.wrap ((j : Int) + 1) = ((j + 1 : Nat) : Int) := by rw [IntKind.wrap_i64]; omega
      clear hU
      go_wp2_with (first | (at_builtin; refine wpList_append_lies _ rfl (.tmp 22) (.tmp 24) 79 rfl W.heap.size 78 i0 _ 3 32 Tryz.underlying79 HI.out HZ0.out HZ1.out HZ2.out rfl (by decide) (.slice oa j oc) j (Hp.flatV (List.replicate j unset)) rfl (HR.out.alloc _) ⟨wr.heap.size, 0, none⟩ 1 1 [.int .i64 7, .int .i64 0, .string ⟨#[]⟩] rfl rfl HNC.out (by simp [Value.oneCell']) (by decide) (by simp only [maxLen]; omega) (by omega) (by have := HWL.out; simp; omega) (wr.heap.size + 1) HSZ5.out ?_; intro g cap w2 hown hgr hlb hlt2; have H5 := Lib.hid (HU.out.next HW.out HB5.out hown hgr); clear hown hgr hlb hlt2) | fail)
      go_roundg (N - (j + 1))
      case measure => omega
      case rel => exact ⟨j + 1, _, by omega, rfl, by go_num, rfl, H5.out⟩
    · obtain rfl : j = N := by omega
      have hge : ((j : Nat) : Int) ≤ j := by omega
      have HU := Lib.hid hU
      have hUb := hU.a.blk HE0.out HRE.out
      have x2 := cell_of_row wr E 2 _ _ _ hUb
      simp only [List.getElem?_toArray, List.getElem?_cons_zero, List.getElem?_cons_succ] at x2
      have hEl : E < wr.heap.size := (Array.getElem?_eq_some_iff.1 hUb).1
      clear hU hUb
      go_wp2_with fail
      have HEJ := Lib.hid ((HE.out.mv HMW.out).mv HU.out.a.mv)
      with_reducible refine (bind_any HU.out.a.o env e.names (List.replicate j unset) _ _ _ HEJ.out HNS.out (HU.out.vr HW.out) (by rw [List.length_replicate]; exact HNN.out) (by omega) (by omega) (by omega)).mono ?_
      rintro e1 w1 ⟨lv, rfl, ρ1, q1, o1, m1, r1⟩
      obtain ⟨inner, hin⟩ : ∃ inner, inner = env ++ envF e.names s.cells.length := ⟨_, rfl⟩
      have hinl : inner.length ≤ 2000000 := by rw [hin, List.length_append, envF_length, ← HNN.out]; omega
      rw [← hin] at r1
      replace hin := Lib.hid hin
      obtain ⟨la, lc, rfl⟩ := r1.slice
      have HM1 : Hid (Mv w ρ w1 ρ1) := (HMW.out.trans HU.out.a.mv).trans m1
      have HEB := Lib.hid ((m1.keep E (Array.getElem?_eq_some_iff.1 (HU.out.a.blk HE0.out HRE.out)).1 (.inl HRE.out)).1.trans (HU.out.a.blk HE0.out HRE.out))
      have HR1 : Hid (ρ1 E = 0) := (m1.keep E hEl (.inl HRE.out)).2.trans HRE.out
      have x7 := cell_of_row w1 E 7 _ _ _ HEB.out
      simp only [List.getElem?_toArray, List.getElem?_cons_zero, List.getElem?_cons_succ] at x7
      have hE1 : E < w1.heap.size := (Array.getElem?_eq_some_iff.1 HEB.out).1
      obtain ⟨⟨c0, c1, c2, c3, c4, c5, c6, c7, _⟩, hb⟩ := o1.exc HBC.out hkb
      have g1 : (0 : Int) ≤ (j : Int) := by omega
      have g2 : (j : Int) < K := by omega
      have HO1 := Lib.hid o1
      have HLV := Lib.hid r1
      have HTL1 : Hid ((s.bind (List.replicate j unset)).todo.length ≤ 10000000) := by show s.todo.length ≤ 10000000; omega
      clear o1 m1 r1 x2 HU
      go_wp2_with fail
      with_reducible refine (push_v HO1.out 0 0 b _ bnv bdl bkv _ HBC.out.ex HLV.out HTL1.out).mono ?_
      rintro e2 w2 ⟨rfl, ρ2, q2, o2, m2⟩
      have HA2 : Hid (At w0 w1 ρ1 m most E (turnS ((s.bind (List.replicate j unset)).push [eT b inner]) inner (e.names.zip e.kids) 2) w2 ρ2 q2) := ⟨o2, m2⟩
      generalize hS2 : (s.bind (List.replicate j unset)).push [eT b inner] = s2 at HA2
      have hs2 : s2.todo.length ≤ 1000001 := by rw [← hS2]; simp [St.push, St.bind]; omega
      have HFIN : Hid (St.push (s.bind (List.replicate j unset)) (tieT (env ++ envF e.names s.cells.length) true (e.names.zip e.kids) ++ (tieT (env ++ envF e.names s.cells.length) false (e.names.zip e.kids) ++ [eT b (env ++ envF e.names s.cells.length)])) = turnS s2 inner (e.names.zip e.kids) 0) := by
        unfold Hid
        rw [← hin.out, ← hS2]
        show _ = St.push (St.push _ _) _
        rw [push_push, List.append_assoc]
      have HZL : Hid ((e.names.zip e.kids).length = j) := by
        have h1 := HB.out
        rw [HNN.out] at h1
        have := zip_len h1
        rw [HNN.out]
        exact this
      clear o2 m2 hS2 c0 c1 c2 c3 c4 c5 c6 c7 x7
      go_wp2_with fail
      go_loopg [10] 2 (fun g t wq => ∃ tn : Nat, tn ≤ 2 ∧ tn = g ∧ t = .int .i64 ((tn : Int) - 1) ∧ ∃ ρj qj, At w0 w1 ρ1 m most E (turnS s2 inner (e.names.zip e.kids) tn) wq ρj qj)
      case atStart => exact ⟨2, Nat.le_refl _, rfl, rfl, ρ2, q2, HA2.out⟩
      case round =>
        clear HA2
        obtain ⟨tn, htn, rfl, rfl, ρj, qj, hA⟩ := hrel
        by_cases h0 : tn = 0
        · subst h0
          have HA := Lib.hid hA
          have g1 : ((0 : Nat) : Int) - 1 < 0 := by decide
          clear hA
          go_wp2_with fail
          go_end0
          exact ⟨rfl, ρj, qj, by rw [HFIN.out]; exact HA.out.o, HM1.out.trans HA.out.mv⟩
        · have h12 : tn = 1 ∨ tn = 2 := by omega
          have HNX := Lib.hid (turnS_next s2 inner (e.names.zip e.kids) h12)
          obtain ⟨tv, htv⟩ : ∃ tv : Int, tv = (tn : Int) - 1 := ⟨_, rfl⟩
          rw [← htv]
          have ht0 : 0 ≤ tv := by omega
          have htw : IntKind.i64.wrap (tv - 1) = ((tn - 1 : Nat) : Int) - 1 := by rw [IntKind.wrap_i64]; omega
          obtain ⟨qb, hqb⟩ : ∃ qb, qb = decide (tn = 1) := ⟨_, rfl⟩
          have htz : (tv == 0) = qb := by
            rw [hqb, htv]
            rcases h12 with rfl | rfl <;> rfl
          rw [← hqb] at HNX
          have HBS : Hid ((turnS s2 inner (e.names.zip e.kids) tn).todo.length ≤ 2000000) := by
            have := turnS_len (s2 := s2) (inner := inner) (L := e.names.zip e.kids) tn
            rw [HZL.out] at this
            unfold Hid
            omega
          generalize hbs : turnS s2 inner (e.names.zip e.kids) tn = bs at hA HNX HBS
          have HA := Lib.hid hA
          have HTV := Lib.hid htv
          clear hA hbs htv hqb
          have gjw : IntKind.i64.wrap ((j : Int) - 1) = (j : Int) - 1 := by rw [IntKind.wrap_i64]; omega
          go_wp2_with fail
          have HK0 : Hid (At w0 w1 ρ1 m most E (bs.push (tieT inner qb ((e.names.zip e.kids).drop j))) wr ρj qj) := by
            rw [List.drop_of_length_le (by rw [HZL.out]; exact Nat.le_refl _)]
            exact HA.out
          go_loopg [11] j (fun g i wi => ∃ k : Nat, k ≤ j ∧ k = g ∧ i = .int .i64 ((k : Int) - 1) ∧ ∃ ρk qk, At w0 w1 ρ1 m most E (bs.push (tieT inner qb ((e.names.zip e.kids).drop k))) wi ρk qk)
          case atStart => exact ⟨j, Nat.le_refl _, rfl, rfl, ρj, qj, HK0.out⟩
          case round =>
            clear HK0 HA
            obtain ⟨k, hkj, rfl, rfl, ρk, qk, hK⟩ := hrel
            cases k with
            | zero =>
              have HK := Lib.hid hK
              have g1 : ((0 : Nat) : Int) - 1 < 0 := by decide
              clear hK
              go_wp2_with fail
              go_roundg (tn - 1)
              case measure => omega
              case rel => exact ⟨tn - 1, by omega, rfl, by go_num, ρk, qk, by rw [← HNX.out]; exact HK.out⟩
            | succ k =>
              rw [show ((k + 1 : Nat) : Int) - 1 = (k : Int) by omega]
              obtain ⟨nm, hnm⟩ : ∃ nm, e.names[k]? = some nm := ⟨_, List.getElem?_eq_getElem (by rw [← HNN.out]; omega)⟩
              obtain ⟨x, hx⟩ : ∃ x, e.kids[k]? = some x := ⟨_, List.getElem?_eq_getElem (by rw [← HKK.out]; omega)⟩
              have HTD := Lib.hid (tieT_drop (env := inner) (qb := qb) hnm hx)
              obtain ⟨z1, nb, noff, rfl, hnb, hn0⟩ := names_at HNS.out hnm
              obtain ⟨z2, kb', koff', hkb', hkbl, xnv, xdl, xkv, hxc⟩ := HKID.out.at hx
              clear z1 z2
              obtain ⟨rfl, rfl⟩ : kb = kb' ∧ koff = koff' := by cases hkb'; exact ⟨rfl, rfl⟩
              obtain ⟨⟨c0, c1, c2, c3, c4, c5, c6, c7, _⟩, hb⟩ := hK.o.exc hxc hkbl
              have n0 : wr.cell? ⟨nb, noff + k, none⟩ = some (.string nm) := (World.cell?_of_block (a := ⟨nb, noff + k, none⟩) (hK.o.c.below.block nb hnb)).trans hn0
              have hnl : nb < wr.heap.size := Nat.lt_of_lt_of_le hnb hK.o.c.below.size
              have hEb := hK.blk HEB.out HR1.out
              have x2 := cell_of_row wr E 2 _ _ _ hEb
              have x7 := cell_of_row wr E 7 _ _ _ hEb
              simp only [List.getElem?_toArray, List.getElem?_cons_zero, List.getElem?_cons_succ] at x2 x7
              have hEl : E < wr.heap.size := (Array.getElem?_eq_some_iff.1 hEb).1
              have HP := Lib.hid hK
              have HL6 := Lib.hid (HLV.out.mv hK.mv)
              have HXC := Lib.hid hxc.ex
              have HXE := Lib.hid hxc
              have HDL : Hid ((bs.push (tieT inner qb ((e.names.zip e.kids).drop (k + 1)))).todo.length ≤ 9000000) := by
                have h1 := tieT_length inner qb ((e.names.zip e.kids).drop (k + 1))
                have h2 := HZL.out
                have h3 := HBS.out
                unfold Hid
                rw [List.length_drop] at h1
                simp [St.push]
                omega
              generalize hds : bs.push (tieT inner qb ((e.names.zip e.kids).drop (k + 1))) = ds at HP HDL
              have HDS := Lib.hid hds
              have g1 : (0 : Int) ≤ (k : Int) := by omega
              have g2 : (k : Int) < j := by omega
              have g2' : (k : Int) < K := by omega
              have g3 : IntKind.i64.wrap ((k : Int) - 1) = (k : Int) - 1 := by rw [IntKind.wrap_i64]; omega
              obtain ⟨kb5, hk5⟩ : ∃ kb5, (x.kind == 5) = kb5 := ⟨_, rfl⟩
              have HDEC : Hid (decide (x.kind = 5) = kb5) := by
                rw [← hk5]
                unfold Hid
                cases h : (x.kind == 5)
                · simpa using h
                · simpa using h
              clear hK hxc hn0 hEb hx hnm hds hkb'
              by_cases hyes : kb5 = qb
              · have HST : Hid ((ds.push [zT 7 (cellF inner nm)]).push [⟨0, x, inner, 0⟩] = bs.push (tieT inner qb ((e.names.zip e.kids).drop k))) := by
                  unfold Hid
                  rw [HTD.out, HDEC.out, hyes, if_pos (by simp), ← HDS.out, push_push, push_push]
                  rfl
                subst hyes
                have hbe : (kb5 == kb5) = true := by simp
                go_wp2_with fail
                with_reducible refine (cell_any inner _ nm _ HL6.out.own (by omega)).mono ?_
                rintro e3 w3 ⟨rfl, rfl⟩
                clear c0 c1 c2 c3 c4 c5 c6 c7 x7 n0
                go_wp2_with fail
                with_reducible refine (push_z HP.out.o 7 (cellF inner nm) (by have := HDL.out; omega)).mono ?_
                rintro e4 w4 ⟨rfl, ρ4, q4, o4, m4⟩
                have HA4 := Lib.hid (HP.out.step o4 m4)
                have HL7 := Lib.hid (HL6.out.mv m4)
                have hEb := HA4.out.blk HEB.out HR1.out
                have x7 := cell_of_row w4 E 7 _ _ _ hEb
                simp only [List.getElem?_toArray, List.getElem?_cons_zero, List.getElem?_cons_succ] at x7
                have hEl : E < w4.heap.size := (Array.getElem?_eq_some_iff.1 hEb).1
                obtain ⟨⟨c0, c1, c2, c3, c4, c5, c6, c7, _⟩, hb⟩ := o4.exc HXE.out hkbl
                have HDL4 : Hid ((ds.push [zT 7 (cellF inner nm)]).todo.length ≤ 10000000) := by
                  have := HDL.out
                  unfold Hid
                  simp [St.push]
                  omega
                clear o4 m4 hEb
                go_wp2_with fail
                with_reducible refine (push_v HA4.out.o 0 0 x inner xnv xdl xkv _ HXC.out HL7.out HDL4.out).mono ?_
                rintro e5 w5 ⟨rfl, ρ5, q5, o5, m5⟩
                rw [HST.out] at o5
                have HA5 := Lib.hid (HA4.out.step o5 m5)
                clear o5 m5 c0 c1 c2 c3 c4 c5 c6 c7 x7
                go_wp2_with fail
                go_roundg k
                case measure => omega
                case rel => exact ⟨k, by omega, rfl, by go_num, ρ5, q5, HA5.out⟩
              · have HST : Hid (ds = bs.push (tieT inner qb ((e.names.zip e.kids).drop k))) := by
                  unfold Hid
                  rw [HTD.out, HDEC.out, if_neg (by simpa using hyes), List.nil_append, HDS.out]
                have hbe : (kb5 == qb) = false := by simpa using hyes
                clear hyes
                go_wp2_with fail
                go_roundg k
                case measure => omega
                case rel => exact ⟨k, by omega, rfl, by go_num, ρk, qk, by rw [← HST.out]; exact HP.out⟩
end
end Rn
end Go.Proofs.YtkplkgdfphbldaaGreat
namespace Go.Proofs.YtkplkgdfphbldaaGreat
open Go.RowKit
set_option linter.unusedVariables false
set_option linter.unusedSimpArgs false
namespace Rn
section
variable {w0 w w' W wr : World} {ρ ρ' ρj : Nat → Nat} {m most : Nat} {s s' : St} {q q' qj : Wh}
theorem RnC.old (h : RnC w0 w ρ m s q) {b : Nat} (hb : b < w0.heap.size) : ρ b = 0 := by
  rcases Nat.eq_zero_or_pos (ρ b) with e | e
  · exact e
  · have := (h.lo b (by omega)).1
    omega
theorem Mv.cell {b i : Nat} (hm : Mv w ρ w' ρ') (hb : b < w.heap.size) (h0 : ρ b = 0) : w'.cell? ⟨b, i, none⟩ = w.cell? ⟨b, i, none⟩ := World.cell?_of_block (a := ⟨b, i, none⟩) (hm.keep b hb (.inl h0)).1
structure Fd (w0 W : World) (ρ : Nat → Nat) (m most : Nat) (s : St) (q : Wh) (P V : Nat) (v : Hp.V) (j : Nat) (wr : World) (x : PM) : Prop where
  a : At w0 W ρ m most P s wr ρ q
  pc : wr.heap[P]? = some (.cells #[.int .i64 x.p.thing, .int .i64 x.p.lam.kind, .string x.p.lam.name, x.nv, .int .i64 x.p.lam.const.kind, .int .i64 x.p.lam.const.int, .string x.p.lam.const.text, x.dl, x.kv, x.ev, .bool x.p.kont, x.tv, x.vv] 119 (0, 0))
  vc : wr.heap[V]? = some (.cells #[.int .i64 v.kind, .int .i64 v.int, .string v.text] 78 (0, 0))
  f : x.p = findF (s.procs.take j) v.int
  ok : PMOk w0 wr ρ x
def sets (w : World) (P : Nat) : Nat → List Value → World
  | _, [] => w
  | i, v :: l => sets (w.setCell ⟨P, i, none⟩ v) P (i + 1) l
theorem Fd.bel {P V : Nat} {v : Hp.V} {j : Nat} {x : PM} (H : Fd w0 W ρ m most s q P V v j wr x) (hb : Below wr.heap.size wr w') : Fd w0 W ρ m most s q P V v j w' x :=
  ⟨⟨H.a.o.bel hb, H.a.mv.bel hb⟩, (hb.block _ (Array.getElem?_eq_some_iff.1 H.pc).1).trans H.pc, (hb.block _ (Array.getElem?_eq_some_iff.1 H.vc).1).trans H.vc, H.f, H.ok.mv (mv_bel hb ρ)⟩
theorem src_row {r ty size n : Nat} {a : Option Addr} {c : Nat} {xs : List Value} (hs : 0 < size) (h : RowR w ρ r ty size n (.slice a n c) xs) : (a = none ∧ c = 0 ∧ xs = []) ∨ ∃ ad, a = some ad ∧ ∀ (j : Nat) (u : Value), xs[j]? = some u → w.cell? (ad.add j) = some u := by
  rcases own_shape h.1 with ⟨e, e2, e3⟩ | ⟨g, c', e, _⟩
  · cases e
    exact .inl ⟨rfl, rfl, e3⟩
  · cases e
    exact .inr ⟨_, rfl, h.1.cells rfl⟩
end
end Rn
end Go.Proofs.YtkplkgdfphbldaaGreat
namespace Go.Proofs.YtkplkgdfphbldaaGreat
open Go.RowKit
set_option linter.unusedVariables false
set_option linter.unusedSimpArgs false
def Hp.FewP (T : List Hp.Th) : Prop := ∀ t ∈ T, t.parts.length ≤ 1000000
namespace Rn
section
variable {w0 w w' W wr : World} {ρ ρ' ρj : Nat → Nat} {m most : Nat} {s s' : St} {q q' qj : Wh}
structure Pm (w0 w w2 : World) (ρ : Nat → Nat) (m most : Nat) (s : St) (q : Wh) : Prop where
  o : RnO w0 w2 ρ m most s q
  mv : Mv w ρ w2 ρ
  res : w2.heap[w.heap.size]? = some (.cells #[.int .i64 5, .int .i64 0, .string ⟨#[]⟩] 78 (0, 0))
  eq : w2 = w.alloc (.cells #[.int .i64 5, .int .i64 0, .string ⟨#[]⟩] 78)
  z : ρ w.heap.size = 0
theorem Pm.of (h : RnO w0 w ρ m most s q) : ∃ w2, Pm w0 w w2 ρ m most s q :=
  ⟨_, h.alloc _, mv_bel ((Below.refl _ _).alloc (Nat.le_refl _) _) ρ, heap_alloc_new _ _, rfl, h.c.new (Nat.le_refl _)⟩
theorem mv_m (h : RnO w0 w ρ m most s q) (i : Nat) (v : Value) : Mv w ρ (w.setCell ⟨m, i, none⟩ v) ρ :=
  ⟨by simp [World.setCell], fun b hb hr => ⟨heap_setCell_other _ _ _ _ (fun e => by have := h.c.me; rw [e, this] at hr; omega), rfl⟩⟩
set_option maxHeartbeats 8000000 in
set_option maxRecDepth 100000 in
theorem prim_unset (h : RnO w0 w ρ m most s q) (av : Value) (hv : VR w ρ av []) (hvl : s.vals.length ≤ 10000000) :
    Calls Tryz.prog 73 #[.pointer (some ⟨m, 0, none⟩), .string unsetB, av] w (RnPost w0 ρ m most (({ s with err := 0 } : St).tell ⟨7, 0, ⟨#[]⟩⟩) w) := by
  obtain ⟨w2, P⟩ := Pm.of h
  have hm := h.lt
  have hv2 := hv.mv P.mv
  obtain ⟨aa, ac, rfl⟩ := hv.sl.len
  have c0 : w2.cell? ⟨m, 0, none⟩ = some (.pointer (some ⟨q.h, 0, none⟩)) := P.o.cell 0
  have hm2 := P.o.lt
  have HD := Lib.hid (rdo_unset q.h (fun b => ρ b = 5) s.T (.slice aa 0 ac) w2 P.o.c.heap hv2.sl)
  unfold unsetB at *
  have HP := Lib.hid P
  clear h P hv hv2
  unfold RnPost
  go_enter Tryz.func73, Tryz.ntmps73
  go_upto_region 1 with fail
  rw [← HP.out.eq]
  go_wp2_with fail
  with_reducible refine HD.out.mono ?_
  rintro e w3 ⟨O', rfl, hT3, hG3⟩
  obtain ⟨ρ3, o3, m3⟩ := HP.out.o.call hG3 hT3
  have c12 : w3.cell? ⟨m, 12, none⟩ = some (.int .i64 s.err) := o3.cell 12
  have f12 := o3.fz 12
  have hm3 := o3.lt
  have HO3 := Lib.hid ((o3.set 12 (.int .i64 0) (s' := { s with err := 0 }) rfl rfl rfl rfl rfl rfl rfl).alloc (.cells #[.int .i64 7, .int .i64 0, .string ⟨#[]⟩] 78))
  have HM3 := Lib.hid (((HP.out.mv.trans m3).trans (mv_m o3 12 (.int .i64 0))).trans (mv_bel ((Below.refl _ (w3.setCell ⟨m, 12, none⟩ (.int .i64 0))).alloc (Nat.le_refl _) (.cells #[.int .i64 7, .int .i64 0, .string ⟨#[]⟩] 78)) ρ3))
  have htl := tell_any HO3.out ⟨7, 0, ⟨#[]⟩⟩ hvl
  unfold Hp.V.val at htl
  dsimp only at htl
  unfold Hp.V.val
  dsimp only
  have HTL := Lib.hid htl
  clear hT3 hG3 o3 m3 htl
  go_wp2_with fail
  with_reducible refine HTL.out.mono ?_
  rintro e w6 ⟨rfl, ρ6, q6, o6, m6⟩
  have HO6 := Lib.hid o6
  have HM6 := Lib.hid (HM3.out.trans m6)
  clear o6 m6
  go_wp2_with fail
  go_end0
  exact ⟨rfl, ρ6, q6, HO6.out, HM6.out⟩
end
end Rn
end Go.Proofs.YtkplkgdfphbldaaGreat
namespace Go.Proofs.YtkplkgdfphbldaaGreat
open Go.RowKit
set_option linter.unusedVariables false
set_option linter.unusedSimpArgs false
namespace Rn
section
variable {w0 w w' W wr : World} {ρ ρ' ρj : Nat → Nat} {m most : Nat} {s s' : St} {q q' qj : Wh}
theorem prim_any (h : RnO w0 w ρ m most s q) (p : ByteArray) (args : List Hp.V) (av : Value) (hv : VR w ρ av args) (hp : prim s p args = some s')
    (hal : args.length ≤ 1000000) (ht : ∀ v ∈ args, v.text.size ≤ maxLen) (hT : s.T.length ≤ 1000000) (hF : Hp.FewP s.T) (hvl : s.vals.length ≤ 10000000) (hol : s.out.length ≤ 1000000) :
    Calls Tryz.prog 73 #[.pointer (some ⟨m, 0, none⟩), .string p, av] w (RnPost w0 ρ m most s' w) := by
  unfold prim at hp
  split at hp
  · rename_i hc
    obtain ⟨rfl, rfl⟩ := hc
    cases hp
    exact prim_unset h av hv hvl
  · cases hp
end
end Rn
end Go.Proofs.YtkplkgdfphbldaaGreat
namespace Go.Proofs.YtkplkgdfphbldaaGreat
open Go.RowKit
set_option linter.unusedVariables false
set_option linter.unusedSimpArgs false
namespace Rn
section
variable {w0 w w' W wr : World} {ρ ρ' ρj : Nat → Nat} {m most : Nat} {s s' t : St} {q q' qj : Wh}
structure Ev (w0 w W : World) (ρ : Nat → Nat) (m most : Nat) (t : St) (q : Wh) (E : Nat) (e : Ex) (nv dl kv : Value) : Prop where
  o : RnO w0 W ρ m most t q
  mv : Mv w ρ W ρ
  blk : W.heap[E]? = some (.cells #[.int .i64 e.kind, .string e.name, nv, .int .i64 e.const.kind, .int .i64 e.const.int, .string e.const.text, dl, kv] 28 (0, 0))
  z : ρ E = 0
theorem Ev.of {e : Ex} {nv dl kv : Value} (h : RnO w0 w ρ m most s q) (nq : Nat) :
    Ev w0 w (((w.alloc (.cells #[.int .i64 e.kind, .string e.name, nv, .int .i64 e.const.kind, .int .i64 e.const.int, .string e.const.text, dl, kv] 28)).drewN nq).setCell ⟨m, 8, none⟩ (.int .i64 ((s.steps : Int) + 1))) ρ m most { s with steps := s.steps + 1 } q w.heap.size e nv dl kv := by
  have hb : Below w.heap.size w ((w.alloc (.cells #[.int .i64 e.kind, .string e.name, nv, .int .i64 e.const.kind, .int .i64 e.const.int, .string e.const.text, dl, kv] 28)).drewN nq) := below_drewN ((Below.refl _ _).alloc (Nat.le_refl _) _) nq
  have h2 := h.bel hb
  have h1 := h2.set 8 (.int .i64 ((s.steps : Int) + 1)) (s' := { s with steps := s.steps + 1 }) rfl rfl rfl rfl rfl rfl rfl
  refine ⟨h1, (mv_bel hb ρ).trans (mv_m h2 8 _), ?_, h.c.new (Nat.le_refl _)⟩
  exact (heap_setCell_other _ _ _ _ (by have := h.lt; show w.heap.size ≠ m; omega)).trans (heap_alloc_new w (.cells #[.int .i64 e.kind, .string e.name, nv, .int .i64 e.const.kind, .int .i64 e.const.int, .string e.const.text, dl, kv] 28))
set_option maxHeartbeats 8000000 in
set_option maxRecDepth 100000 in
theorem eval_stop (h : RnO w0 w ρ m most s q) (e : Ex) (nv dl kv ev : Value) (hx : ExAt w0 (exV e.kind e.name nv e.const dl kv) e) (he : ∃ a n c, ev = .slice a n c) (hs : s.steps = most) :
    Calls Tryz.prog 69 #[.pointer (some ⟨m, 0, none⟩), .agg #[.int .i64 e.kind, .string e.name, nv, .int .i64 e.const.kind, .int .i64 e.const.int, .string e.const.text, dl, kv], ev] w (RnPost w0 ρ m most (s.fail 93) w) := by
  obtain ⟨ea, en, ec, rfl⟩ := he
  have hm := h.lt
  have c8 : w.cell? ⟨m, 8, none⟩ = some (.int .i64 s.steps) := h.cell 8
  have c9 : w.cell? ⟨m, 9, none⟩ = some (.int .i64 s.steps) := by rw [hs]; exact h.cell 9
  have c12 : w.cell? ⟨m, 12, none⟩ = some (.int .i64 s.err) := h.cell 12
  have f12 := h.fz 12
  have HE : Hid (∀ nq, RnO w0 (((w.alloc (.cells #[.int .i64 e.kind, .string e.name, nv, .int .i64 e.const.kind, .int .i64 e.const.int, .string e.const.text, dl, kv] 28)).drewN nq).setCell ⟨m, 12, none⟩ (.int .i64 93)) ρ m most (s.fail 93) q ∧ Mv w ρ (((w.alloc (.cells #[.int .i64 e.kind, .string e.name, nv, .int .i64 e.const.kind, .int .i64 e.const.int, .string e.const.text, dl, kv] 28)).drewN nq).setCell ⟨m, 12, none⟩ (.int .i64 93)) ρ) := fun nq => by
    have hb : Below w.heap.size w ((w.alloc (.cells #[.int .i64 e.kind, .string e.name, nv, .int .i64 e.const.kind, .int .i64 e.const.int, .string e.const.text, dl, kv] 28)).drewN nq) := below_drewN ((Below.refl _ _).alloc (Nat.le_refl _) _) nq
    have h2 := h.bel hb
    exact ⟨h2.set 12 (.int .i64 93) (s' := s.fail 93) rfl rfl rfl rfl rfl rfl rfl, (mv_bel hb ρ).trans (mv_m h2 12 _)⟩
  clear h hs hx
  unfold RnPost
  go_enter Tryz.func69, Tryz.ntmps69
  go_wp2_with fail
  go_quiet (fail)
  go_wp2_with fail
  refine bodyPost_ret (results_none rfl _ _ _) rfl ?_
  exact ⟨rfl, ρ, q, (HE.out _).1, (HE.out _).2⟩
end
end Rn
end Go.Proofs.YtkplkgdfphbldaaGreat
namespace Go.Proofs.YtkplkgdfphbldaaGreat
open Go.RowKit
set_option linter.unusedVariables false
set_option linter.unusedSimpArgs false
namespace Rn
section
variable {w0 w w' W wr : World} {ρ ρ' ρj : Nat → Nat} {m most : Nat} {s s' t : St} {q q' qj : Wh}
set_option maxHeartbeats 16000000 in
set_option maxRecDepth 100000 in
theorem eval_quote (h : RnO w0 w ρ m most s q) (e : Ex) (env : Env) (nv dl kv ev : Value) (hx : ExAt w0 (exV e.kind e.name nv e.const dl kv) e) (he : RowR w ρ 6 125 2 env.length ev (envC env)) (hs : s.steps < most) (hmost : most ≤ 1000000) (hk : e.kind = 0)
    (hvl : s.vals.length ≤ 1000000) (hcl : e.const.list = []) (hct : e.const.text.size ≤ maxLen) :
    Calls Tryz.prog 69 #[.pointer (some ⟨m, 0, none⟩), .agg #[.int .i64 e.kind, .string e.name, nv, .int .i64 e.const.kind, .int .i64 e.const.int, .string e.const.text, dl, kv], ev] w (RnPost w0 ρ m most (({ s with steps := s.steps + 1 } : St).tell (constF e.const).1) w) := by
  obtain ⟨ea, ec, rfl⟩ := he.slice
  obtain ⟨⟨na, nn, nc, rfl⟩, ⟨da, dn, dc, rfl⟩, ⟨ka, kn, kc, rfl⟩⟩ := ExAt.slices hx
  obtain ⟨hkids, hnames, hconst⟩ := ExAt.kids hx
  obtain ⟨_, _, hkn, _, _⟩ := id hkids
  obtain rfl : kn = e.kids.length := by cases hkn; rfl
  have hm := h.lt
  have c8 : w.cell? ⟨m, 8, none⟩ = some (.int .i64 s.steps) := h.cell 8
  have c9 : w.cell? ⟨m, 9, none⟩ = some (.int .i64 most) := h.cell 9
  have f8 := h.fz 8
  have g8 : ((s.steps : Int) == (most : Int)) = false := beq_eq_false_iff_ne.2 (by omega)
  have gw : IntKind.i64.wrap ((s.steps : Int) + 1) = (s.steps : Int) + 1 := by rw [IntKind.wrap_i64]; omega
  have k0 : (e.kind == 0) = true := by rw [hk]; rfl
  have HX := Lib.hid hx
  have HEV := Lib.hid he
  have HKI := Lib.hid hkids
  have HCO := Lib.hid hconst
  have HW : Hid (∀ nq, Ev w0 w (((w.alloc (.cells #[.int .i64 e.kind, .string e.name, .slice na nn nc, .int .i64 e.const.kind, .int .i64 e.const.int, .string e.const.text, .slice da dn dc, .slice ka e.kids.length kc] 28)).drewN nq).setCell ⟨m, 8, none⟩ (.int .i64 ((s.steps : Int) + 1))) ρ m most { s with steps := s.steps + 1 } q w.heap.size e (.slice na nn nc) (.slice da dn dc) (.slice ka e.kids.length kc)) := fun nq => Ev.of h nq
  clear h hx he hk hkids hnames hconst hkn
  unfold RnPost
  go_enter Tryz.func69, Tryz.ntmps69
  go_wp2_with fail
  go_quiet (fail)
  go_upto_region 7 with fail
  have hV := HW.out nq
  generalize hWW : ((w.alloc (.cells #[.int .i64 e.kind, .string e.name, .slice na nn nc, .int .i64 e.const.kind, .int .i64 e.const.int, .string e.const.text, .slice da dn dc, .slice ka e.kids.length kc] 28)).drewN nq).setCell ⟨m, 8, none⟩ (.int .i64 ((s.steps : Int) + 1)) = W at hV ⊢
  clear hWW HW c8 c9 f8 g8 gw
  obtain ⟨E, hE⟩ : ∃ E, E = w.heap.size := ⟨_, rfl⟩
  rw [← hE] at hV ⊢
  replace hE := Lib.hid hE
  have hm := hV.o.lt
  have hEl : E < W.heap.size := (Array.getElem?_eq_some_iff.1 hV.blk).1
  have x0 := cell_of_row W E 0 _ _ _ hV.blk
  have x1 := cell_of_row W E 1 _ _ _ hV.blk
  have x2 := cell_of_row W E 2 _ _ _ hV.blk
  have x3 := cell_of_row W E 3 _ _ _ hV.blk
  have x4 := cell_of_row W E 4 _ _ _ hV.blk
  have x5 := cell_of_row W E 5 _ _ _ hV.blk
  have x6 := cell_of_row W E 6 _ _ _ hV.blk
  have x7 := cell_of_row W E 7 _ _ _ hV.blk
  simp only [List.getElem?_toArray, List.getElem?_cons_zero, List.getElem?_cons_succ] at x0 x1 x2 x3 x4 x5 x6 x7
  have HV := Lib.hid hV
  have HE := Lib.hid (HEV.out.mv hV.mv)
  clear hV
  have HF : Hid (Dt.Fit e.const) := by
    unfold Hid
    revert hcl hct
    cases e.const with
    | mk k i t l =>
      intro hcl hct
      obtain rfl : l = [] := hcl
      exact .mk k i t [] hct (by simp) (by simp)
  have HC : Hid (∀ W', Below W.heap.size W W' → Calls Tryz.prog 90 #[.agg #[.int .i64 e.const.kind, .int .i64 e.const.int, .string e.const.text, .slice da dn dc]] W' (CnPost (constF e.const) W')) := fun W' hb => rconst_any e.const _ W' (HCO.out.bel (HV.out.o.c.below.trans (hb.mono HV.out.o.c.below.size)) (Nat.le_refl _)) HF.out
  generalize hr : constF e.const = r at HC
  obtain ⟨rv, rb⟩ := r
  have HRR := Lib.hid hr
  clear hr hcl hct
  unfold CnPost at HC
  go_wp2_with fail
  with_reducible refine (HC.out W (Below.refl _ _)).mono ?_
  rintro e1 w1 ⟨rfl, hb1⟩
  have HO1 := Lib.hid ((HV.out.o.bel hb1).alloc (.cells #[.int .i64 rv.kind, .int .i64 rv.int, .string rv.text] 78))
  have HM1 := Lib.hid ((HV.out.mv.bel hb1).bel ((Below.refl _ _).alloc (Nat.le_refl _) (.cells #[.int .i64 rv.kind, .int .i64 rv.int, .string rv.text] 78)))
  clear hb1 x0 x1 x2 x3 x4 x5 x6 x7
  go_wp2_with fail
  with_reducible refine (tell_any HO1.out rv (by show s.vals.length ≤ 10000000; omega)).mono ?_
  rintro e2 w2 ⟨rfl, ρ2, q2, o2, m2⟩
  have HO2 := Lib.hid o2
  have HM2 := Lib.hid (HM1.out.trans m2)
  clear o2 m2
  go_wp2_with fail
  go_end0
  exact ⟨rfl, ρ2, q2, by rw [HRR.out]; exact HO2.out, HM2.out⟩
set_option maxHeartbeats 16000000 in
set_option maxRecDepth 100000 in
theorem eval_set (h : RnO w0 w ρ m most s q) (e : Ex) (env : Env) (nv dl kv ev : Value) (hx : ExAt w0 (exV e.kind e.name nv e.const dl kv) e) (he : RowR w ρ 6 125 2 env.length ev (envC env)) (hs : s.steps < most) (hmost : most ≤ 1000000) (hk : e.kind = 2)
    (k : Ex) (h0 : e.kids[0]? = some k) (hel : env.length ≤ 1000000) (htl : s.todo.length ≤ 900000) :
    Calls Tryz.prog 69 #[.pointer (some ⟨m, 0, none⟩), .agg #[.int .i64 e.kind, .string e.name, nv, .int .i64 e.const.kind, .int .i64 e.const.int, .string e.const.text, dl, kv], ev] w (RnPost w0 ρ m most (({ s with steps := s.steps + 1 } : St).push [eT k env, zT 2 (cellF env e.name)]) w) := by
  obtain ⟨ea, ec, rfl⟩ := he.slice
  obtain ⟨⟨na, nn, nc, rfl⟩, ⟨da, dn, dc, rfl⟩, ⟨ka, kn, kc, rfl⟩⟩ := ExAt.slices hx
  obtain ⟨hkids, hnames, hconst⟩ := ExAt.kids hx
  obtain ⟨_, _, hkn, _, _⟩ := id hkids
  obtain rfl : kn = e.kids.length := by cases hkn; rfl
  have hm := h.lt
  have c8 : w.cell? ⟨m, 8, none⟩ = some (.int .i64 s.steps) := h.cell 8
  have c9 : w.cell? ⟨m, 9, none⟩ = some (.int .i64 most) := h.cell 9
  have f8 := h.fz 8
  have g8 : ((s.steps : Int) == (most : Int)) = false := beq_eq_false_iff_ne.2 (by omega)
  have gw : IntKind.i64.wrap ((s.steps : Int) + 1) = (s.steps : Int) + 1 := by rw [IntKind.wrap_i64]; omega
  have k0 : (e.kind == 0) = false := by rw [hk]; rfl
  have k1 : (e.kind == 1) = false := by rw [hk]; rfl
  have k2 : (e.kind == 2) = true := by rw [hk]; rfl
  have HX := Lib.hid hx
  have HEV := Lib.hid he
  have HKI := Lib.hid hkids
  have HCO := Lib.hid hconst
  have HW : Hid (∀ nq, Ev w0 w (((w.alloc (.cells #[.int .i64 e.kind, .string e.name, .slice na nn nc, .int .i64 e.const.kind, .int .i64 e.const.int, .string e.const.text, .slice da dn dc, .slice ka e.kids.length kc] 28)).drewN nq).setCell ⟨m, 8, none⟩ (.int .i64 ((s.steps : Int) + 1))) ρ m most { s with steps := s.steps + 1 } q w.heap.size e (.slice na nn nc) (.slice da dn dc) (.slice ka e.kids.length kc)) := fun nq => Ev.of h nq
  clear h hx he hk hkids hnames hconst hkn
  unfold RnPost
  go_enter Tryz.func69, Tryz.ntmps69
  go_wp2_with fail
  go_quiet (fail)
  go_upto_region 12 with fail
  have hV := HW.out nq
  generalize hWW : ((w.alloc (.cells #[.int .i64 e.kind, .string e.name, .slice na nn nc, .int .i64 e.const.kind, .int .i64 e.const.int, .string e.const.text, .slice da dn dc, .slice ka e.kids.length kc] 28)).drewN nq).setCell ⟨m, 8, none⟩ (.int .i64 ((s.steps : Int) + 1)) = W at hV ⊢
  clear hWW HW c8 c9 f8 g8 gw
  obtain ⟨E, hE⟩ : ∃ E, E = w.heap.size := ⟨_, rfl⟩
  rw [← hE] at hV ⊢
  replace hE := Lib.hid hE
  have hm := hV.o.lt
  have hEl : E < W.heap.size := (Array.getElem?_eq_some_iff.1 hV.blk).1
  have x0 := cell_of_row W E 0 _ _ _ hV.blk
  have x1 := cell_of_row W E 1 _ _ _ hV.blk
  have x2 := cell_of_row W E 2 _ _ _ hV.blk
  have x3 := cell_of_row W E 3 _ _ _ hV.blk
  have x4 := cell_of_row W E 4 _ _ _ hV.blk
  have x5 := cell_of_row W E 5 _ _ _ hV.blk
  have x6 := cell_of_row W E 6 _ _ _ hV.blk
  have x7 := cell_of_row W E 7 _ _ _ hV.blk
  simp only [List.getElem?_toArray, List.getElem?_cons_zero, List.getElem?_cons_succ] at x0 x1 x2 x3 x4 x5 x6 x7
  have HV := Lib.hid hV
  have HE := Lib.hid (HEV.out.mv hV.mv)
  clear hV
  go_wp2_with fail
  with_reducible refine (cell_any env _ e.name W HE.out.own (by omega)).mono ?_
  rintro e0 w0' ⟨rfl, rfl⟩
  go_wp2_with fail
  with_reducible refine (push_z HV.out.o 2 (cellF env e.name) (by show s.todo.length ≤ 10000000; omega)).mono ?_
  rintro e1 w1 ⟨rfl, ρ1, q1, o1, m1⟩
  have HO1 := Lib.hid o1
  have HM1 := Lib.hid (HV.out.mv.trans m1)
  have HE1 := Lib.hid (HE.out.mv m1)
  have hb1 := (m1.keep E hEl (.inl HV.out.z)).1.trans HV.out.blk
  have y0 := cell_of_row w1 E 0 _ _ _ hb1
  have y1 := cell_of_row w1 E 1 _ _ _ hb1
  have y2 := cell_of_row w1 E 2 _ _ _ hb1
  have y3 := cell_of_row w1 E 3 _ _ _ hb1
  have y4 := cell_of_row w1 E 4 _ _ _ hb1
  have y5 := cell_of_row w1 E 5 _ _ _ hb1
  have y6 := cell_of_row w1 E 6 _ _ _ hb1
  have y7 := cell_of_row w1 E 7 _ _ _ hb1
  simp only [List.getElem?_toArray, List.getElem?_cons_zero, List.getElem?_cons_succ] at y0 y1 y2 y3 y4 y5 y6 y7
  have hE1 : E < w1.heap.size := (Array.getElem?_eq_some_iff.1 hb1).1
  have hm1 := o1.lt
  obtain ⟨_, kb, koff, rfl, hkb, knv, kdl, kkv, hkc⟩ := HKI.out.at h0
  obtain ⟨⟨c0, c1, c2, c3, c4, c5, c6, c7, _⟩, hkl⟩ := HO1.out.exc hkc hkb
  rw [Nat.zero_mul, Nat.add_zero] at c0 c1 c2 c3 c4 c5 c6 c7
  have HKE := Lib.hid hkc.ex
  have g0 : (0 : Int) < e.kids.length := by have := (List.getElem?_eq_some_iff.1 h0).1; omega
  clear hkc
  clear o1 m1 hb1 x0 x1 x2 x3 x4 x5 x6 x7
  go_wp2_with fail
  with_reducible refine (push_v HO1.out 0 0 k env knv kdl kkv _ HKE.out HE1.out (by simp [St.push]; omega)).mono ?_
  rintro e2 w2 ⟨rfl, ρ2, q2, o2, m2⟩
  have HO2 := Lib.hid o2
  have HM2 := Lib.hid (HM1.out.trans m2)
  clear o2 m2
  go_wp2_with fail
  go_end0
  exact ⟨rfl, ρ2, q2, HO2.out, HM2.out⟩
end
end Rn
end Go.Proofs.YtkplkgdfphbldaaGreat
namespace Go.Proofs.YtkplkgdfphbldaaGreat
open Go.RowKit
set_option linter.unusedVariables false
set_option linter.unusedSimpArgs false
namespace Rn
section
variable {w0 w w' W wr : World} {ρ ρ' ρj : Nat → Nat} {m most : Nat} {s s' t : St} {q q' qj : Wh}
set_option maxHeartbeats 16000000 in
set_option maxRecDepth 100000 in
theorem eval_prim (h : RnO w0 w ρ m most s q) (e : Ex) (env : Env) (nv dl kv ev : Value) (hx : ExAt w0 (exV e.kind e.name nv e.const dl kv) e) (he : RowR w ρ 6 125 2 env.length ev (envC env)) (hs : s.steps < most) (hmost : most ≤ 1000000) (hk : e.kind = 7)
    (hkl : e.kids.length ≤ 1000000) (htl : s.todo.length ≤ 900000) :
    Calls Tryz.prog 69 #[.pointer (some ⟨m, 0, none⟩), .agg #[.int .i64 e.kind, .string e.name, nv, .int .i64 e.const.kind, .int .i64 e.const.int, .string e.const.text, dl, kv], ev] w (RnPost w0 ρ m most (({ s with steps := s.steps + 1 } : St).push (e.kids.map (eT · env) ++ [⟨5, e, [], 0⟩])) w) := by
  obtain ⟨ea, ec, rfl⟩ := he.slice
  obtain ⟨⟨na, nn, nc, rfl⟩, ⟨da, dn, dc, rfl⟩, ⟨ka, kn, kc, rfl⟩⟩ := ExAt.slices hx
  obtain ⟨hkids, hnames, hconst⟩ := ExAt.kids hx
  obtain ⟨_, _, hkn, _, _⟩ := id hkids
  obtain rfl : kn = e.kids.length := by cases hkn; rfl
  have hm := h.lt
  have c8 : w.cell? ⟨m, 8, none⟩ = some (.int .i64 s.steps) := h.cell 8
  have c9 : w.cell? ⟨m, 9, none⟩ = some (.int .i64 most) := h.cell 9
  have f8 := h.fz 8
  have g8 : ((s.steps : Int) == (most : Int)) = false := beq_eq_false_iff_ne.2 (by omega)
  have gw : IntKind.i64.wrap ((s.steps : Int) + 1) = (s.steps : Int) + 1 := by rw [IntKind.wrap_i64]; omega
  have k0 : (e.kind == 0) = false := by rw [hk]; rfl
  have k1 : (e.kind == 1) = false := by rw [hk]; rfl
  have k2 : (e.kind == 2) = false := by rw [hk]; rfl
  have k3 : (e.kind == 3) = false := by rw [hk]; rfl
  have k4 : (e.kind == 4) = false := by rw [hk]; rfl
  have k5 : (e.kind == 5) = false := by rw [hk]; rfl
  have k6 : (e.kind == 6) = false := by rw [hk]; rfl
  have k7 : (e.kind == 7) = true := by rw [hk]; rfl
  have HX := Lib.hid hx
  have HEV := Lib.hid he
  have HKI := Lib.hid hkids
  have HCO := Lib.hid hconst
  have HW : Hid (∀ nq, Ev w0 w (((w.alloc (.cells #[.int .i64 e.kind, .string e.name, .slice na nn nc, .int .i64 e.const.kind, .int .i64 e.const.int, .string e.const.text, .slice da dn dc, .slice ka e.kids.length kc] 28)).drewN nq).setCell ⟨m, 8, none⟩ (.int .i64 ((s.steps : Int) + 1))) ρ m most { s with steps := s.steps + 1 } q w.heap.size e (.slice na nn nc) (.slice da dn dc) (.slice ka e.kids.length kc)) := fun nq => Ev.of h nq
  clear h hx he hk hkids hnames hconst hkn
  unfold RnPost
  go_enter Tryz.func69, Tryz.ntmps69
  go_wp2_with fail
  go_quiet (fail)
  go_upto_region 30 with fail
  have hV := HW.out nq
  generalize hWW : ((w.alloc (.cells #[.int .i64 e.kind, .string e.name, .slice na nn nc, .int .i64 e.const.kind, .int .i64 e.const.int, .string e.const.text, .slice da dn dc, .slice ka e.kids.length kc] 28)).drewN nq).setCell ⟨m, 8, none⟩ (.int .i64 ((s.steps : Int) + 1)) = W at hV ⊢
  clear hWW HW c8 c9 f8 g8 gw
  obtain ⟨E, hE⟩ : ∃ E, E = w.heap.size := ⟨_, rfl⟩
  rw [← hE] at hV ⊢
  replace hE := Lib.hid hE
  have hm := hV.o.lt
  have hEl : E < W.heap.size := (Array.getElem?_eq_some_iff.1 hV.blk).1
  have x0 := cell_of_row W E 0 _ _ _ hV.blk
  have x1 := cell_of_row W E 1 _ _ _ hV.blk
  have x2 := cell_of_row W E 2 _ _ _ hV.blk
  have x3 := cell_of_row W E 3 _ _ _ hV.blk
  have x4 := cell_of_row W E 4 _ _ _ hV.blk
  have x5 := cell_of_row W E 5 _ _ _ hV.blk
  have x6 := cell_of_row W E 6 _ _ _ hV.blk
  have x7 := cell_of_row W E 7 _ _ _ hV.blk
  simp only [List.getElem?_toArray, List.getElem?_cons_zero, List.getElem?_cons_succ] at x0 x1 x2 x3 x4 x5 x6 x7
  have HV := Lib.hid hV
  have HE := Lib.hid (HEV.out.mv hV.mv)
  clear hV
  go_wp2_with fail
  with_reducible refine (push_v HV.out.o 5 0 e [] _ _ _ _ HX.out (RowR.none W ρ 6 _ 2) (by show s.todo.length ≤ 10000000; omega)).mono ?_
  rintro e1 w1 ⟨rfl, ρ1, q1, o1, m1⟩
  have HO1 := Lib.hid o1
  have HM1 := Lib.hid (HV.out.mv.trans m1)
  have HE1 := Lib.hid (HE.out.mv m1)
  have hb1 := (m1.keep E hEl (.inl HV.out.z)).1.trans HV.out.blk
  have y0 := cell_of_row w1 E 0 _ _ _ hb1
  have y1 := cell_of_row w1 E 1 _ _ _ hb1
  have y2 := cell_of_row w1 E 2 _ _ _ hb1
  have y3 := cell_of_row w1 E 3 _ _ _ hb1
  have y4 := cell_of_row w1 E 4 _ _ _ hb1
  have y5 := cell_of_row w1 E 5 _ _ _ hb1
  have y6 := cell_of_row w1 E 6 _ _ _ hb1
  have y7 := cell_of_row w1 E 7 _ _ _ hb1
  simp only [List.getElem?_toArray, List.getElem?_cons_zero, List.getElem?_cons_succ] at y0 y1 y2 y3 y4 y5 y6 y7
  have hE1 : E < w1.heap.size := (Array.getElem?_eq_some_iff.1 hb1).1
  have hm1 := o1.lt
  clear o1 m1 hb1 x0 x1 x2 x3 x4 x5 x6 x7
  go_wp2_with fail
  with_reducible refine (all_any HO1.out e.kids env _ _ HKI.out HE1.out (by omega) (by simp [St.push]; omega)).mono ?_
  rintro e2 w2 ⟨rfl, ρ2, q2, o2, m2⟩
  have HO2 := Lib.hid o2
  have HM2 := Lib.hid (HM1.out.trans m2)
  clear o2 m2
  go_wp2_with fail
  go_end0
  exact ⟨rfl, ρ2, q2, by have h := HO2.out; rw [push_push] at h; exact h, HM2.out⟩
end
end Rn
end Go.Proofs.YtkplkgdfphbldaaGreat
namespace Go.Proofs.YtkplkgdfphbldaaGreat
open Go.RowKit
set_option linter.unusedVariables false
set_option linter.unusedSimpArgs false
namespace Rn
section
variable {w0 w w' W wr : World} {ρ ρ' ρj : Nat → Nat} {m most : Nat} {s s' t : St} {q q' qj : Wh}
set_option maxHeartbeats 16000000 in
set_option maxRecDepth 100000 in
theorem eval_seq (h : RnO w0 w ρ m most s q) (e : Ex) (env : Env) (nv dl kv ev : Value) (hx : ExAt w0 (exV e.kind e.name nv e.const dl kv) e) (he : RowR w ρ 6 125 2 env.length ev (envC env)) (hs : s.steps < most) (hmost : most ≤ 1000000) (hk : e.kind = 4)
    (hne : e.kids ≠ []) (hkl : e.kids.length ≤ 400000) (htl : s.todo.length ≤ 100000) :
    Calls Tryz.prog 69 #[.pointer (some ⟨m, 0, none⟩), .agg #[.int .i64 e.kind, .string e.name, nv, .int .i64 e.const.kind, .int .i64 e.const.int, .string e.const.text, dl, kv], ev] w (RnPost w0 ρ m most (({ s with steps := s.steps + 1 } : St).push (seqT env e.kids)) w) := by
  obtain ⟨ea, ec, rfl⟩ := he.slice
  obtain ⟨⟨na, nn, nc, rfl⟩, ⟨da, dn, dc, rfl⟩, ⟨ka, kn, kc, rfl⟩⟩ := ExAt.slices hx
  obtain ⟨hkids, hnames, hconst⟩ := ExAt.kids hx
  obtain ⟨_, _, hkn, _, _⟩ := id hkids
  obtain rfl : kn = e.kids.length := by cases hkn; rfl
  have hm := h.lt
  have c8 : w.cell? ⟨m, 8, none⟩ = some (.int .i64 s.steps) := h.cell 8
  have c9 : w.cell? ⟨m, 9, none⟩ = some (.int .i64 most) := h.cell 9
  have f8 := h.fz 8
  have g8 : ((s.steps : Int) == (most : Int)) = false := beq_eq_false_iff_ne.2 (by omega)
  have gw : IntKind.i64.wrap ((s.steps : Int) + 1) = (s.steps : Int) + 1 := by rw [IntKind.wrap_i64]; omega
  have k0 : (e.kind == 0) = false := by rw [hk]; rfl
  have k1 : (e.kind == 1) = false := by rw [hk]; rfl
  have k2 : (e.kind == 2) = false := by rw [hk]; rfl
  have k3 : (e.kind == 3) = false := by rw [hk]; rfl
  have k4 : (e.kind == 4) = true := by rw [hk]; rfl
  have HX := Lib.hid hx
  have HEV := Lib.hid he
  have HKI := Lib.hid hkids
  have HCO := Lib.hid hconst
  have HW : Hid (∀ nq, Ev w0 w (((w.alloc (.cells #[.int .i64 e.kind, .string e.name, .slice na nn nc, .int .i64 e.const.kind, .int .i64 e.const.int, .string e.const.text, .slice da dn dc, .slice ka e.kids.length kc] 28)).drewN nq).setCell ⟨m, 8, none⟩ (.int .i64 ((s.steps : Int) + 1))) ρ m most { s with steps := s.steps + 1 } q w.heap.size e (.slice na nn nc) (.slice da dn dc) (.slice ka e.kids.length kc)) := fun nq => Ev.of h nq
  clear h hx he hk hkids hnames hconst hkn
  unfold RnPost
  go_enter Tryz.func69, Tryz.ntmps69
  go_wp2_with fail
  go_quiet (fail)
  go_upto_region 18 with fail
  have hV := HW.out nq
  generalize hWW : ((w.alloc (.cells #[.int .i64 e.kind, .string e.name, .slice na nn nc, .int .i64 e.const.kind, .int .i64 e.const.int, .string e.const.text, .slice da dn dc, .slice ka e.kids.length kc] 28)).drewN nq).setCell ⟨m, 8, none⟩ (.int .i64 ((s.steps : Int) + 1)) = W at hV ⊢
  clear hWW HW c8 c9 f8 g8 gw
  obtain ⟨E, hE⟩ : ∃ E, E = w.heap.size := ⟨_, rfl⟩
  rw [← hE] at hV ⊢
  replace hE := Lib.hid hE
  have hm := hV.o.lt
  have hEl : E < W.heap.size := (Array.getElem?_eq_some_iff.1 hV.blk).1
  have x0 := cell_of_row W E 0 _ _ _ hV.blk
  have x1 := cell_of_row W E 1 _ _ _ hV.blk
  have x2 := cell_of_row W E 2 _ _ _ hV.blk
  have x3 := cell_of_row W E 3 _ _ _ hV.blk
  have x4 := cell_of_row W E 4 _ _ _ hV.blk
  have x5 := cell_of_row W E 5 _ _ _ hV.blk
  have x6 := cell_of_row W E 6 _ _ _ hV.blk
  have x7 := cell_of_row W E 7 _ _ _ hV.blk
  simp only [List.getElem?_toArray, List.getElem?_cons_zero, List.getElem?_cons_succ] at x0 x1 x2 x3 x4 x5 x6 x7
  have HV := Lib.hid hV
  have HE := Lib.hid (HEV.out.mv hV.mv)
  clear hV
  obtain ⟨n, hn⟩ : ∃ n, e.kids.length = n + 1 := ⟨e.kids.length - 1, by have := List.length_pos_iff.2 hne; omega⟩
  obtain ⟨x, hx0⟩ : ∃ x, e.kids[n]? = some x := ⟨_, List.getElem?_eq_getElem (by omega)⟩
  obtain ⟨_, kb, koff, rfl, hkb, knv, kdl, kkv, hkc⟩ := HKI.out.at hx0
  obtain ⟨⟨c0, c1, c2, c3, c4, c5, c6, c7, _⟩, hkl2⟩ := HV.out.o.exc hkc hkb
  have HKE := Lib.hid hkc.ex
  have HLN := Lib.hid hn
  have hnl : n < 400000 := by omega
  have g0 : (0 : Int) ≤ n := by omega
  have g1 : (n : Int) < (e.kids.length : Int) := by omega
  have g2 : IntKind.i64.wrap ((e.kids.length : Int) - 1) = (n : Int) := by rw [IntKind.wrap_i64]; omega
  have g3 : IntKind.i64.wrap ((e.kids.length : Int) - 2) = (n : Int) - 1 := by rw [IntKind.wrap_i64]; omega
  have htl1 : (({ s with steps := s.steps + 1 } : St)).todo.length ≤ 10000000 := by show s.todo.length ≤ _; omega
  have HSQ0 : Hid (seqT env (e.kids.drop n) = [eT x env]) := by
    unfold Hid
    rw [List.drop_eq_getElem_cons (by omega : n < e.kids.length), List.drop_of_length_le (by omega)]
    rw [List.getElem?_eq_getElem (by omega)] at hx0
    injection hx0 with hx0
    rw [hx0]
    rfl
  clear hkc hn hx0
  go_wp2_with fail
  with_reducible refine (push_v HV.out.o 0 0 x env knv kdl kkv _ HKE.out HE.out htl1).mono ?_
  rintro e1 w1 ⟨rfl, ρ1, q1, o1, m1⟩
  have HO1 := Lib.hid o1
  have HM1 := Lib.hid (HV.out.mv.trans m1)
  have HA : Hid (At w0 W ρ m most E (({ s with steps := s.steps + 1 } : St).push (seqT env (e.kids.drop n))) w1 ρ1 q1) := by
    refine ⟨?_, m1⟩
    rw [HSQ0.out]
    exact o1
  clear o1 m1 c0 c1 c2 c3 c4 c5 c6 c7 x0 x1 x2 x3 x4 x5 x6 x7
  go_wp2_with fail
  go_loopg [9] n (fun g i wr => ∃ j : Nat, j ≤ n ∧ j = g ∧ i = .int .i64 ((j : Int) - 1) ∧ ∃ ρj qj, At w0 W ρ m most E (({ s with steps := s.steps + 1 } : St).push (seqT env (e.kids.drop j))) wr ρj qj)
  case atStart => exact ⟨n, Nat.le_refl _, rfl, rfl, ρ1, q1, HA.out⟩
  case round =>
    obtain ⟨j, hj, rfl, rfl, ρj, qj, hA⟩ := hrel
    clear HA
    cases j with
    | zero =>
      have HP := Lib.hid hA
      have g1 : ((0 : Nat) : Int) - 1 < 0 := by decide
      clear hA
      go_wp2_with fail
      go_end0
      exact ⟨rfl, ρj, qj, HP.out.o, HV.out.mv.trans HP.out.mv⟩
    | succ k =>
      rw [show ((k + 1 : Nat) : Int) - 1 = (k : Int) by omega]
      have hlen := HLN.out
      obtain ⟨y, hy⟩ : ∃ y, e.kids[k]? = some y := ⟨_, List.getElem?_eq_getElem (by omega)⟩
      obtain ⟨_, kb', koff', hkb', hkbl, ynv, ydl, ykv, hyc⟩ := HKI.out.at hy
      obtain ⟨rfl, rfl⟩ : kb = kb' ∧ koff = koff' := by cases hkb'; exact ⟨rfl, rfl⟩
      have HP := Lib.hid hA
      have HYC := Lib.hid hyc
      have HSQ : Hid (((({ s with steps := s.steps + 1 } : St).push (seqT env (e.kids.drop (k + 1)))).push [zT 1 0]).push [⟨0, y, env, 0⟩] = ({ s with steps := s.steps + 1 } : St).push (seqT env (e.kids.drop k))) := by
        unfold Hid
        have hkl : k < e.kids.length := by omega
        have hkl1 : k + 1 < e.kids.length := by omega
        have e1 : e.kids.drop k = y :: e.kids.drop (k + 1) := by
          rw [List.drop_eq_getElem_cons hkl]
          rw [List.getElem?_eq_getElem hkl] at hy
          injection hy with hy
          rw [hy]
        rw [push_push, push_push, e1, List.drop_eq_getElem_cons hkl1]
        rfl
      have hsl : ∀ l : List Ex, (seqT env l).length ≤ 2 * l.length := by
        intro l
        induction l with
        | nil => simp [seqT]
        | cons a l ih =>
          cases l with
          | nil => simp [seqT]
          | cons b l =>
            have e2 : seqT env (a :: b :: l) = eT a env :: zT 1 0 :: seqT env (b :: l) := rfl
            rw [e2]
            simp at ih ⊢
            omega
      have HT1 : Hid ((({ s with steps := s.steps + 1 } : St).push (seqT env (e.kids.drop (k + 1)))).todo.length ≤ 2000000) := by
        have := hsl (e.kids.drop (k + 1))
        rw [List.length_drop] at this
        unfold Hid
        simp [St.push]
        omega
      have htq1 : ((({ s with steps := s.steps + 1 } : St).push (seqT env (e.kids.drop (k + 1)))).todo.length ≤ 10000000) := by have := HT1.out; omega
      have htq2 : (((({ s with steps := s.steps + 1 } : St).push (seqT env (e.kids.drop (k + 1)))).push [zT 1 0]).todo.length ≤ 10000000) := by
        have := HT1.out
        have e : ∀ (u : St) (a : Todo), (u.push [a]).todo.length = u.todo.length + 1 := fun u a => by simp [St.push]
        rw [e]
        omega
      have g0 : (0 : Int) ≤ (k : Int) := by omega
      have g1 : (k : Int) < (e.kids.length : Int) := by omega
      have g3 : IntKind.i64.wrap ((k : Int) - 1) = (k : Int) - 1 := by rw [IntKind.wrap_i64]; omega
      clear hA hyc hy hkb' hlen hsl
      go_wp2_with fail
      with_reducible refine (push_z HP.out.o 1 0 htq1).mono ?_
      rintro e2 w2 ⟨rfl, ρ2, q2, o2, m2⟩
      have HA2 := Lib.hid (HP.out.step o2 m2)
      have HE2 := Lib.hid ((HE.out.mv HP.out.mv).mv m2)
      have hEb := HA2.out.blk HV.out.blk HV.out.z
      have x7 := cell_of_row w2 E 7 _ _ _ hEb
      simp only [List.getElem?_toArray, List.getElem?_cons_zero, List.getElem?_cons_succ] at x7
      have hE2 : E < w2.heap.size := (Array.getElem?_eq_some_iff.1 hEb).1
      obtain ⟨⟨c0, c1, c2, c3, c4, c5, c6, c7, _⟩, hb⟩ := o2.exc HYC.out hkbl
      have HYE := Lib.hid HYC.out.ex
      clear o2 m2 hEb
      go_wp2_with fail
      with_reducible refine (push_v HA2.out.o 0 0 y env ynv ydl ykv _ HYE.out HE2.out htq2).mono ?_
      rintro e3 w3 ⟨rfl, ρ3, q3, o3, m3⟩
      rw [HSQ.out] at o3
      have HA3 := Lib.hid (HA2.out.step o3 m3)
      clear o3 m3 c0 c1 c2 c3 c4 c5 c6 c7 x7
      go_wp2_with fail
      go_roundg k
      case measure => omega
      case rel => exact ⟨k, by omega, rfl, by go_num, ρ3, q3, HA3.out⟩
end
end Rn
end Go.Proofs.YtkplkgdfphbldaaGreat
