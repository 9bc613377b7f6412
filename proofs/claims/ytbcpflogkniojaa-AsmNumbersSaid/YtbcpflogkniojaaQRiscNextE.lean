/- A step of the reference's machine. -/
import Derived.Test.YtbcpflogkniojaaQMC
import Derived.Test.YtbcpflogkniojaaQRiscNextB
import Derived.Test.YtbcpflogkniojaaQRiscNextC
namespace Go.Proofs.Ytbcpflogkniojaa
open Go.RowKit
set_option linter.unusedSimpArgs false
set_option linter.unusedVariables false
theorem next_any (B : Bd) (g : Nat) (st : Int) (m : Rs.M) (mv ov : Value) (x : Int) (w : World) (h : MSt B w g 73 st m mv ov) (hx : Rs.decB x = true) (hp1 : 0 ≤ m.pc) (hp2 : m.pc ≤ 1048576) (hs1 : 0 ≤ m.steps) (hs2 : m.steps ≤ 1000000000000) (ho : m.out.length ≤ 1000000000000) :
    Calls Try.prog 29 #[.pointer (some ⟨g, 0, none⟩), iv (Rs.fO x) (Rs.fA x) (Rs.fB (Rs.fO x) x) (Rs.fC (Rs.fO x) x) (Rs.fN (Rs.fO x) x)] w (StepPost B g 73 st (Rs.execW x m) w) := by
  have hnb := decB_not_bad hx
  obtain ⟨o1, o2⟩ := op_not_bad hnb
  obtain ⟨n1, n2, n3⟩ := n_not_bad hnb
  unfold Rs.execW
  obtain ⟨a1, a2⟩ := Rs.fA_range x
  obtain ⟨b1, b2⟩ := Rs.fB_range (Rs.fO x) x
  obtain ⟨c1, c2⟩ := Rs.fC_range (Rs.fO x) x
  generalize Rs.fN (Rs.fO x) x = n at *
  generalize Rs.fB (Rs.fO x) x = b at *
  generalize Rs.fC (Rs.fO x) x = c at *
  generalize Rs.fA x = a at *
  generalize Rs.fO x = op at *
  obtain ⟨i, rfl⟩ : ∃ i : Nat, a = i := ⟨a.toNat, by omega⟩
  obtain ⟨j, rfl⟩ : ∃ i : Nat, b = i := ⟨b.toNat, by omega⟩
  obtain ⟨k, rfl⟩ : ∃ i : Nat, c = i := ⟨c.toNat, by omega⟩
  rcases (by omega : op = 0 ∨ (1 ≤ op ∧ op ≤ 14) ∨ op = 15 ∨ op = 16 ∨ op = 17 ∨ op = 18 ∨ op = 19 ∨ op = 20 ∨ op = 21 ∨ op = 22 ∨ op = 23 ∨ op = 24 ∨ op = 25 ∨ op = 26 ∨ op = 27 ∨ op = 28 ∨ op = 29 ∨ op = 30 ∨ op = 31) with rfl | ⟨h1, h2⟩ | rfl | rfl | rfl | rfl | rfl | rfl | rfl | rfl | rfl | rfl | rfl | rfl | rfl | rfl | rfl | rfl | rfl
  · exact next_halt B g st m mv ov i j k n w h (by omega) (by omega) (by omega) n1 n2 hp1 hp2 hs1 hs2
  · exact next_abc B g st m mv ov op h1 h2 i j k n w h (by omega) (by omega) (by omega) n1 n2 hp1 hp2 hs1 hs2
  · exact next_s15 B g st m mv ov i j k n w h (by omega) (by omega) (by omega) n1 n2 hp1 hp2 hs1 hs2
  · exact next_s16 B g st m mv ov i j k n w h (by omega) (by omega) (by omega) n1 n2 hp1 hp2 hs1 hs2
  · exact next_s17 B g st m mv ov i j k n w h (by omega) (by omega) (by omega) n1 n2 hp1 hp2 hs1 hs2
  · obtain ⟨q, rfl⟩ : ∃ q : Nat, n = q := ⟨n.toNat, by have := (n3 (by decide)).1; omega⟩
    exact next_s18 B g st m mv ov q (by have := (n3 (by decide)).2; omega) i j k w h (by omega) (by omega) (by omega) hp1 hp2 hs1 hs2
  · obtain ⟨q, rfl⟩ : ∃ q : Nat, n = q := ⟨n.toNat, by have := (n3 (by decide)).1; omega⟩
    exact next_s19 B g st m mv ov q (by have := (n3 (by decide)).2; omega) i j k w h (by omega) (by omega) (by omega) hp1 hp2 hs1 hs2
  · exact next_s20 B g st m mv ov i j k n w h (by omega) (by omega) (by omega) n1 n2 hp1 hp2 hs1 hs2
  · exact next_s21 B g st m mv ov i j k n w h (by omega) (by omega) (by omega) n1 n2 hp1 hp2 hs1 hs2
  · exact next_lw B g st m mv ov i j k n w h (by omega) (by omega) (by omega) n1 n2 hp1 hp2 hs1 hs2
  · exact next_sw B g st m mv ov i j k n w h (by omega) (by omega) (by omega) n1 n2 hp1 hp2 hs1 hs2
  · exact next_b24 B g st m mv ov i j k n w h (by omega) (by omega) (by omega) n1 n2 hp1 hp2 hs1 hs2
  · exact next_b25 B g st m mv ov i j k n w h (by omega) (by omega) (by omega) n1 n2 hp1 hp2 hs1 hs2
  · exact next_b26 B g st m mv ov i j k n w h (by omega) (by omega) (by omega) n1 n2 hp1 hp2 hs1 hs2
  · exact next_b27 B g st m mv ov i j k n w h (by omega) (by omega) (by omega) n1 n2 hp1 hp2 hs1 hs2
  · exact next_jal B g st m mv ov i j k n w h (by omega) (by omega) (by omega) n1 n2 hp1 hp2 hs1 hs2
  · exact next_jalr B g st m mv ov i j k n w h (by omega) (by omega) (by omega) n1 n2 hp1 hp2 hs1 hs2
  · exact next_in B g st m mv ov i j k n w h (by omega) (by omega) (by omega) n1 n2 hp1 hp2 hs1 hs2
  · exact next_out B g st m mv ov ho i j k n w h (by omega) (by omega) (by omega) n1 n2 hp1 hp2 hs1 hs2
end Go.Proofs.Ytbcpflogkniojaa
