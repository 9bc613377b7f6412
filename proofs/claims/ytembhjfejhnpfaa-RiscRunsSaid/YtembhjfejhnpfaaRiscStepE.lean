/- A step of the machine. -/
import Derived.Test.YtembhjfejhnpfaaRiscStepD
namespace Go.Proofs.Ytembhjfejhnpfaa
open Go.RowKit
set_option linter.unusedSimpArgs false
set_option linter.unusedVariables false
theorem decB_not_bad {x : Int} (h : Rs.decB x = true) : ¬ Rs.Bad (Rs.fO x) (Rs.fA x) (Rs.fB (Rs.fO x) x) (Rs.fC (Rs.fO x) x) (Rs.fN (Rs.fO x) x) := by
  have h2 := (of_decide_eq_true h).1
  intro hb
  rw [show Rs.encE _ _ _ _ _ = 200 from if_pos hb] at h2
  exact absurd h2 (by decide)
theorem op_not_bad {op a b c n : Int} (h : ¬ Rs.Bad op a b c n) : 0 ≤ op ∧ op ≤ 31 := by
  unfold Rs.Bad at h
  rw [not_or] at h
  exact Rs.form_range op h.1
theorem n_not_bad {op a b c n : Int} (h : ¬ Rs.Bad op a b c n) : -1048576 ≤ n ∧ n ≤ 1048575 ∧ (op = 18 ∨ op = 19 → 0 ≤ n ∧ n < 64) := by
  obtain ⟨h1, h2⟩ := op_not_bad h
  obtain ⟨k, rfl⟩ : ∃ k : Nat, op = k := ⟨op.toNat, by omega⟩
  obtain ⟨_, _, _, h3, h4⟩ := good_cases (form7_not ⟨h1, h2⟩) h
  obtain ⟨⟨r1, r2⟩, -⟩ := Rs.ends_range k (by omega)
  refine ⟨by omega, by omega, fun h5 => ?_⟩
  rcases h5 with h5 | h5 <;> rw [h5] at h3 h4 <;> exact ⟨h3, Int.lt_add_one_of_le h4⟩
theorem step_any (B : Bd) (g : Nat) (st : Int) (m : Rs.M) (mv ov : Value) (x : Int) (w : World) (h : MSt B w g 62 st m mv ov) (hx : Rs.decB x = true) (hp1 : 0 ≤ m.pc) (hp2 : m.pc ≤ 1048576) (hs1 : 0 ≤ m.steps) (hs2 : m.steps ≤ 1000000000000) (ho : m.out.length ≤ 1000000000000) :
    Calls Try.prog 26 #[.pointer (some ⟨g, 0, none⟩), iv (Rs.fO x) (Rs.fA x) (Rs.fB (Rs.fO x) x) (Rs.fC (Rs.fO x) x) (Rs.fN (Rs.fO x) x)] w (StepPost B g 62 st (Rs.execW x m) w) := by
  have hnb := decB_not_bad hx
  obtain ⟨o1, o2⟩ := op_not_bad hnb
  obtain ⟨n1, n2, n3⟩ := n_not_bad hnb
  unfold Rs.execW
  obtain ⟨a1, a2⟩ := Rs.fA_range x
  obtain ⟨b1, b2⟩ := Rs.fB_range (Rs.fO x) x
  obtain ⟨c1, c2⟩ := Rs.fC_range (Rs.fO x) x
  generalize Rs.fN (Rs.fO x) x = n at *
  generalize Rs.fB (Rs.fO x) x = b at *
  generalize Rs.fC (Rs.fO x) x = c at *
  generalize Rs.fA x = a at *
  generalize Rs.fO x = op at *
  obtain ⟨i, rfl⟩ : ∃ i : Nat, a = i := ⟨a.toNat, by omega⟩
  obtain ⟨j, rfl⟩ : ∃ i : Nat, b = i := ⟨b.toNat, by omega⟩
  obtain ⟨k, rfl⟩ : ∃ i : Nat, c = i := ⟨c.toNat, by omega⟩
  rcases (by omega : op = 0 ∨ (1 ≤ op ∧ op ≤ 14) ∨ (15 ≤ op ∧ op ≤ 21) ∨ op = 22 ∨ op = 23 ∨ (24 ≤ op ∧ op ≤ 27) ∨ op = 28 ∨ op = 29 ∨ op = 30 ∨ op = 31) with rfl | ⟨h1, h2⟩ | ⟨h1, h2⟩ | rfl | rfl | ⟨h1, h2⟩ | rfl | rfl | rfl | rfl
  · exact step_halt B g st m mv ov i j k n w h (by omega) (by omega) (by omega) n1 n2 hp1 hp2 hs1 hs2
  · exact step_abc B g st m mv ov op i j k n w h h1 h2 (by omega) (by omega) (by omega) hp1 hp2 hs1 hs2
  · exact step_simple B g st m mv ov op h1 h2 i j k n w h (by omega) (by omega) (by omega) n3 n1 n2 hp1 hp2 hs1 hs2
  · exact step_lw B g st m mv ov i j k n w h (by omega) (by omega) (by omega) n1 n2 hp1 hp2 hs1 hs2
  · exact step_sw B g st m mv ov i j k n w h (by omega) (by omega) (by omega) n1 n2 hp1 hp2 hs1 hs2
  · exact step_branch B g st m mv ov op h1 h2 i j k n w h (by omega) (by omega) (by omega) n1 n2 hp1 hp2 hs1 hs2
  · exact step_jal B g st m mv ov i j k n w h (by omega) (by omega) (by omega) n1 n2 hp1 hp2 hs1 hs2
  · exact step_jalr B g st m mv ov i j k n w h (by omega) (by omega) (by omega) n1 n2 hp1 hp2 hs1 hs2
  · exact step_in B g st m mv ov i j k n w h (by omega) (by omega) (by omega) n1 n2 hp1 hp2 hs1 hs2
  · exact step_out B g st m mv ov ho i j k n w h (by omega) (by omega) (by omega) n1 n2 hp1 hp2 hs1 hs2
end Go.Proofs.Ytembhjfejhnpfaa
