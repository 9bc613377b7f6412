/- RiscNumbers: what the machine makes of four pieces and two numbers. -/
import Derived.Test.YtembhjfejhnpfaaRiscLaw
namespace Go.Proofs.Ytembhjfejhnpfaa
open Go.RowKit
set_option linter.unusedVariables false
set_option linter.unusedSimpArgs false
namespace Rs
theorem i64_or16 {a n : Int} (h1 : -9223372036854775808 ≤ a) (h2 : a ≤ 9223372036854775807) (hm : a % 65536 = 0) (n1 : 0 ≤ n) (n2 : n < 65536) : bits .or .i64 a n = a + n := by
  show IntKind.i64.wrap ((BitVec.ofInt 64 a ||| BitVec.ofInt 64 n).toNat : Nat) = a + n
  rw [BitVec.toNat_or, BitVec.toNat_ofInt, BitVec.toNat_ofInt]
  have e : ((2 ^ 64 : Nat) : Int) = 18446744073709551616 := by decide
  rw [e]
  rw [nat_join 16 _ _ (by omega) (by omega), IntKind.wrap_i64]
  omega
/-- A machine in the middle of the run. -/
def nSt (j : Int) (rs : List Int) : M := ⟨0, j, j, rs, [], [], []⟩
theorem go_at {code : List Int} {k : Nat} {j : Int} {rs : List Int} {op a b c n : Int} {j' : Int} {rs' : List Int} (p : Nat) (hp : j = p) (hl : p < code.length) (hc : code.getD p 0 = enc op a b c n) (hb : ¬ Bad op a b c n)
    (h : exec op a b c n (nSt j rs) = (nSt j' rs', 6)) : go code (k + 1) (nSt j rs) = go code k (nSt j' rs') := by
  have hpc : (nSt j rs).pc = p := hp
  rw [go, if_neg (by rw [hpc]; omega), hpc, Int.toNat_natCast, hc, if_neg (by rw [dec_enc hb]; decide), execW_enc hb, h, if_pos rfl]
theorem exec_li (r : Nat) (h : r = 1 ∨ r = 2) (n j : Int) (rs : List Int) : exec 20 r 0 0 n (nSt j rs) = (nSt (j + 1) (rs.set r n), 6) := by
  rcases h with rfl | rfl <;> rfl
theorem exec_lhi (r : Nat) (h : r = 1 ∨ r = 2) (n j : Int) (rs : List Int) : exec 21 r 0 0 n (nSt j rs) = (nSt (j + 1) (rs.set r (bits .or .i64 (wrap64 (rs.getD r 0 * 65536)) n)), 6) := by
  rcases h with rfl | rfl <;> rfl
theorem exec_alu (op : Int) (r : Nat) (h1 : op = 1 ∨ op = 2 ∨ op = 3 ∨ op = 4 ∨ op = 7 ∨ op = 8 ∨ op = 9 ∨ op = 13 ∨ op = 14) (hr : r ≠ 0) (j : Int) (rs : List Int) :
    exec op r 1 2 0 (nSt j rs) = (nSt (j + 1) (rs.set r (alu op (rs.getD 1 0) (rs.getD 2 0))), 6) := by
  have hr' : ¬ ((r : Int) = 0) := by omega
  have hs : ∀ v : Int, setReg (nSt j rs) r v = nSt j (rs.set r v) := fun v => by unfold setReg; rw [if_neg hr']; rfl
  have h5 : ¬ ((op = 5 ∨ op = 6) ∧ rget (nSt j rs) 2 = 0) := by omega
  unfold exec
  dsimp only
  rw [if_neg (by omega), if_pos (by omega), if_neg h5, hs]
  rfl
/-- The words. -/
def numL (r x : Int) : List Int := [enc 20 r 0 0 (x / 281474976710656), enc 21 r 0 0 (x / 4294967296 % 65536), enc 21 r 0 0 (x / 65536 % 65536), enc 21 r 0 0 (x % 65536)]
def numOps : List Int := [1, 2, 3, 4, 7, 8, 9, 13, 14]
def numA : List Int := [enc 1 3 1 2 0, enc 2 4 1 2 0, enc 3 5 1 2 0, enc 4 6 1 2 0, enc 7 7 1 2 0, enc 8 8 1 2 0, enc 9 9 1 2 0, enc 13 10 1 2 0, enc 14 11 1 2 0]
def numCode (x y : Int) : List Int := numL 1 x ++ numL 2 y ++ numA ++ [enc 0 1 0 0 0]
def numRegs (x y : Int) : List Int := [0, x, y, alu 1 x y, alu 2 x y, alu 3 x y, alu 4 x y, alu 7 x y, alu 8 x y, alu 9 x y, alu 13 x y, alu 14 x y, 0, 0, 0, 0, 0, 0, 0, 0, 0, 0, 0, 0, 0, 0, 0, 0, 0, 0, 0, 0]
theorem four (x : Int) (hx : InR x) : bits .or .i64 (wrap64 (x / 281474976710656 * 65536)) (x / 4294967296 % 65536) = x / 4294967296 ∧ bits .or .i64 (wrap64 (x / 4294967296 * 65536)) (x / 65536 % 65536) = x / 65536 ∧ bits .or .i64 (wrap64 (x / 65536 * 65536)) (x % 65536) = x := by
  unfold InR at hx
  refine ⟨?_, ?_, ?_⟩
  · rw [show wrap64 (x / 281474976710656 * 65536) = x / 281474976710656 * 65536 by simp only [wrap64]; omega, i64_or16 (by omega) (by omega) (by omega) (by omega) (by omega)]
    omega
  · rw [show wrap64 (x / 4294967296 * 65536) = x / 4294967296 * 65536 by simp only [wrap64]; omega, i64_or16 (by omega) (by omega) (by omega) (by omega) (by omega)]
    omega
  · rw [show wrap64 (x / 65536 * 65536) = x / 65536 * 65536 by simp only [wrap64]; omega, i64_or16 (by omega) (by omega) (by omega) (by omega) (by omega)]
    omega
theorem good_li (r n : Int) (hr : r = 1 ∨ r = 2) (h1 : -32768 ≤ n) (h2 : n ≤ 32767) : ¬ Bad 20 r 0 0 n := by
  unfold Bad
  have e : form 20 = 3 ∧ least 20 = -32768 ∧ most 20 = 32767 ∧ isReg 0 = true := by decide
  rw [e.1, e.2.1, e.2.2.1, e.2.2.2]
  rcases hr with rfl | rfl
  · rw [show isReg 1 = true from rfl]; simp; omega
  · rw [show isReg 2 = true from rfl]; simp; omega
theorem good_lhi (r n : Int) (hr : r = 1 ∨ r = 2) (h1 : 0 ≤ n) (h2 : n ≤ 65535) : ¬ Bad 21 r 0 0 n := by
  unfold Bad
  have e : form 21 = 3 ∧ least 21 = 0 ∧ most 21 = 65535 ∧ isReg 0 = true := by decide
  rw [e.1, e.2.1, e.2.2.1, e.2.2.2]
  rcases hr with rfl | rfl
  · rw [show isReg 1 = true from rfl]; simp; omega
  · rw [show isReg 2 = true from rfl]; simp; omega
theorem num_go (x y : Int) (hx : InR x) (hy : InR y) : go (numCode x y) 100 (nSt 0 [0, 0, 0, 0, 0, 0, 0, 0, 0, 0, 0, 0, 0, 0, 0, 0, 0, 0, 0, 0, 0, 0, 0, 0, 0, 0, 0, 0, 0, 0, 0, 0]) = (⟨x, 18, 17, numRegs x y, [], [], []⟩, 0) := by
  have hx' := hx
  have hy' := hy
  unfold InR at hx' hy'
  obtain ⟨a1, a2, a3⟩ := four x hx
  obtain ⟨b1, b2, b3⟩ := four y hy
  have hlen : (numCode x y).length = 18 := rfl
  have L1 : (1 : Int) = 1 ∨ (1 : Int) = 2 := .inl rfl
  have L2 : (2 : Int) = 1 ∨ (2 : Int) = 2 := .inr rfl
  have s0 : go (numCode x y) 100 (nSt 0 [0, 0, 0, 0, 0, 0, 0, 0, 0, 0, 0, 0, 0, 0, 0, 0, 0, 0, 0, 0, 0, 0, 0, 0, 0, 0, 0, 0, 0, 0, 0, 0]) = go (numCode x y) 99 (nSt 1 [0, x / 281474976710656, 0, 0, 0, 0, 0, 0, 0, 0, 0, 0, 0, 0, 0, 0, 0, 0, 0, 0, 0, 0, 0, 0, 0, 0, 0, 0, 0, 0, 0, 0]) := go_at 0 rfl (by rw [hlen]; decide) rfl (good_li 1 _ L1 (by omega) (by omega)) (exec_li 1 (.inl rfl) _ _ _)
  have s1 : go (numCode x y) 99 (nSt 1 [0, x / 281474976710656, 0, 0, 0, 0, 0, 0, 0, 0, 0, 0, 0, 0, 0, 0, 0, 0, 0, 0, 0, 0, 0, 0, 0, 0, 0, 0, 0, 0, 0, 0]) = go (numCode x y) 98 (nSt 2 [0, x / 4294967296, 0, 0, 0, 0, 0, 0, 0, 0, 0, 0, 0, 0, 0, 0, 0, 0, 0, 0, 0, 0, 0, 0, 0, 0, 0, 0, 0, 0, 0, 0]) := go_at 1 rfl (by rw [hlen]; decide) rfl (good_lhi 1 _ L1 (by omega) (by omega)) ((exec_lhi 1 (.inl rfl) _ _ _).trans (congrArg (fun v => (nSt 2 (List.set [0, x / 281474976710656, 0, 0, 0, 0, 0, 0, 0, 0, 0, 0, 0, 0, 0, 0, 0, 0, 0, 0, 0, 0, 0, 0, 0, 0, 0, 0, 0, 0, 0, 0] 1 v), (6 : Int))) a1))
  have s2 : go (numCode x y) 98 (nSt 2 [0, x / 4294967296, 0, 0, 0, 0, 0, 0, 0, 0, 0, 0, 0, 0, 0, 0, 0, 0, 0, 0, 0, 0, 0, 0, 0, 0, 0, 0, 0, 0, 0, 0]) = go (numCode x y) 97 (nSt 3 [0, x / 65536, 0, 0, 0, 0, 0, 0, 0, 0, 0, 0, 0, 0, 0, 0, 0, 0, 0, 0, 0, 0, 0, 0, 0, 0, 0, 0, 0, 0, 0, 0]) := go_at 2 rfl (by rw [hlen]; decide) rfl (good_lhi 1 _ L1 (by omega) (by omega)) ((exec_lhi 1 (.inl rfl) _ _ _).trans (congrArg (fun v => (nSt 3 (List.set [0, x / 4294967296, 0, 0, 0, 0, 0, 0, 0, 0, 0, 0, 0, 0, 0, 0, 0, 0, 0, 0, 0, 0, 0, 0, 0, 0, 0, 0, 0, 0, 0, 0] 1 v), (6 : Int))) a2))
  have s3 : go (numCode x y) 97 (nSt 3 [0, x / 65536, 0, 0, 0, 0, 0, 0, 0, 0, 0, 0, 0, 0, 0, 0, 0, 0, 0, 0, 0, 0, 0, 0, 0, 0, 0, 0, 0, 0, 0, 0]) = go (numCode x y) 96 (nSt 4 [0, x, 0, 0, 0, 0, 0, 0, 0, 0, 0, 0, 0, 0, 0, 0, 0, 0, 0, 0, 0, 0, 0, 0, 0, 0, 0, 0, 0, 0, 0, 0]) := go_at 3 rfl (by rw [hlen]; decide) rfl (good_lhi 1 _ L1 (by omega) (by omega)) ((exec_lhi 1 (.inl rfl) _ _ _).trans (congrArg (fun v => (nSt 4 (List.set [0, x / 65536, 0, 0, 0, 0, 0, 0, 0, 0, 0, 0, 0, 0, 0, 0, 0, 0, 0, 0, 0, 0, 0, 0, 0, 0, 0, 0, 0, 0, 0, 0] 1 v), (6 : Int))) a3))
  have s4 : go (numCode x y) 96 (nSt 4 [0, x, 0, 0, 0, 0, 0, 0, 0, 0, 0, 0, 0, 0, 0, 0, 0, 0, 0, 0, 0, 0, 0, 0, 0, 0, 0, 0, 0, 0, 0, 0]) = go (numCode x y) 95 (nSt 5 [0, x, y / 281474976710656, 0, 0, 0, 0, 0, 0, 0, 0, 0, 0, 0, 0, 0, 0, 0, 0, 0, 0, 0, 0, 0, 0, 0, 0, 0, 0, 0, 0, 0]) := go_at 4 rfl (by rw [hlen]; decide) rfl (good_li 2 _ L2 (by omega) (by omega)) (exec_li 2 (.inr rfl) _ _ _)
  have s5 : go (numCode x y) 95 (nSt 5 [0, x, y / 281474976710656, 0, 0, 0, 0, 0, 0, 0, 0, 0, 0, 0, 0, 0, 0, 0, 0, 0, 0, 0, 0, 0, 0, 0, 0, 0, 0, 0, 0, 0]) = go (numCode x y) 94 (nSt 6 [0, x, y / 4294967296, 0, 0, 0, 0, 0, 0, 0, 0, 0, 0, 0, 0, 0, 0, 0, 0, 0, 0, 0, 0, 0, 0, 0, 0, 0, 0, 0, 0, 0]) := go_at 5 rfl (by rw [hlen]; decide) rfl (good_lhi 2 _ L2 (by omega) (by omega)) ((exec_lhi 2 (.inr rfl) _ _ _).trans (congrArg (fun v => (nSt 6 (List.set [0, x, y / 281474976710656, 0, 0, 0, 0, 0, 0, 0, 0, 0, 0, 0, 0, 0, 0, 0, 0, 0, 0, 0, 0, 0, 0, 0, 0, 0, 0, 0, 0, 0] 2 v), (6 : Int))) b1))
  have s6 : go (numCode x y) 94 (nSt 6 [0, x, y / 4294967296, 0, 0, 0, 0, 0, 0, 0, 0, 0, 0, 0, 0, 0, 0, 0, 0, 0, 0, 0, 0, 0, 0, 0, 0, 0, 0, 0, 0, 0]) = go (numCode x y) 93 (nSt 7 [0, x, y / 65536, 0, 0, 0, 0, 0, 0, 0, 0, 0, 0, 0, 0, 0, 0, 0, 0, 0, 0, 0, 0, 0, 0, 0, 0, 0, 0, 0, 0, 0]) := go_at 6 rfl (by rw [hlen]; decide) rfl (good_lhi 2 _ L2 (by omega) (by omega)) ((exec_lhi 2 (.inr rfl) _ _ _).trans (congrArg (fun v => (nSt 7 (List.set [0, x, y / 4294967296, 0, 0, 0, 0, 0, 0, 0, 0, 0, 0, 0, 0, 0, 0, 0, 0, 0, 0, 0, 0, 0, 0, 0, 0, 0, 0, 0, 0, 0] 2 v), (6 : Int))) b2))
  have s7 : go (numCode x y) 93 (nSt 7 [0, x, y / 65536, 0, 0, 0, 0, 0, 0, 0, 0, 0, 0, 0, 0, 0, 0, 0, 0, 0, 0, 0, 0, 0, 0, 0, 0, 0, 0, 0, 0, 0]) = go (numCode x y) 92 (nSt 8 [0, x, y, 0, 0, 0, 0, 0, 0, 0, 0, 0, 0, 0, 0, 0, 0, 0, 0, 0, 0, 0, 0, 0, 0, 0, 0, 0, 0, 0, 0, 0]) := go_at 7 rfl (by rw [hlen]; decide) rfl (good_lhi 2 _ L2 (by omega) (by omega)) ((exec_lhi 2 (.inr rfl) _ _ _).trans (congrArg (fun v => (nSt 8 (List.set [0, x, y / 65536, 0, 0, 0, 0, 0, 0, 0, 0, 0, 0, 0, 0, 0, 0, 0, 0, 0, 0, 0, 0, 0, 0, 0, 0, 0, 0, 0, 0, 0] 2 v), (6 : Int))) b3))
  have s8 : go (numCode x y) 92 (nSt 8 [0, x, y, 0, 0, 0, 0, 0, 0, 0, 0, 0, 0, 0, 0, 0, 0, 0, 0, 0, 0, 0, 0, 0, 0, 0, 0, 0, 0, 0, 0, 0]) = go (numCode x y) 91 (nSt 9 [0, x, y, alu 1 x y, 0, 0, 0, 0, 0, 0, 0, 0, 0, 0, 0, 0, 0, 0, 0, 0, 0, 0, 0, 0, 0, 0, 0, 0, 0, 0, 0, 0]) := go_at 8 rfl (by rw [hlen]; decide) rfl (by decide +kernel) (exec_alu 1 3 (by decide) (by decide) _ _)
  have s9 : go (numCode x y) 91 (nSt 9 [0, x, y, alu 1 x y, 0, 0, 0, 0, 0, 0, 0, 0, 0, 0, 0, 0, 0, 0, 0, 0, 0, 0, 0, 0, 0, 0, 0, 0, 0, 0, 0, 0]) = go (numCode x y) 90 (nSt 10 [0, x, y, alu 1 x y, alu 2 x y, 0, 0, 0, 0, 0, 0, 0, 0, 0, 0, 0, 0, 0, 0, 0, 0, 0, 0, 0, 0, 0, 0, 0, 0, 0, 0, 0]) := go_at 9 rfl (by rw [hlen]; decide) rfl (by decide +kernel) (exec_alu 2 4 (by decide) (by decide) _ _)
  have s10 : go (numCode x y) 90 (nSt 10 [0, x, y, alu 1 x y, alu 2 x y, 0, 0, 0, 0, 0, 0, 0, 0, 0, 0, 0, 0, 0, 0, 0, 0, 0, 0, 0, 0, 0, 0, 0, 0, 0, 0, 0]) = go (numCode x y) 89 (nSt 11 [0, x, y, alu 1 x y, alu 2 x y, alu 3 x y, 0, 0, 0, 0, 0, 0, 0, 0, 0, 0, 0, 0, 0, 0, 0, 0, 0, 0, 0, 0, 0, 0, 0, 0, 0, 0]) := go_at 10 rfl (by rw [hlen]; decide) rfl (by decide +kernel) (exec_alu 3 5 (by decide) (by decide) _ _)
  have s11 : go (numCode x y) 89 (nSt 11 [0, x, y, alu 1 x y, alu 2 x y, alu 3 x y, 0, 0, 0, 0, 0, 0, 0, 0, 0, 0, 0, 0, 0, 0, 0, 0, 0, 0, 0, 0, 0, 0, 0, 0, 0, 0]) = go (numCode x y) 88 (nSt 12 [0, x, y, alu 1 x y, alu 2 x y, alu 3 x y, alu 4 x y, 0, 0, 0, 0, 0, 0, 0, 0, 0, 0, 0, 0, 0, 0, 0, 0, 0, 0, 0, 0, 0, 0, 0, 0, 0]) := go_at 11 rfl (by rw [hlen]; decide) rfl (by decide +kernel) (exec_alu 4 6 (by decide) (by decide) _ _)
  have s12 : go (numCode x y) 88 (nSt 12 [0, x, y, alu 1 x y, alu 2 x y, alu 3 x y, alu 4 x y, 0, 0, 0, 0, 0, 0, 0, 0, 0, 0, 0, 0, 0, 0, 0, 0, 0, 0, 0, 0, 0, 0, 0, 0, 0]) = go (numCode x y) 87 (nSt 13 [0, x, y, alu 1 x y, alu 2 x y, alu 3 x y, alu 4 x y, alu 7 x y, 0, 0, 0, 0, 0, 0, 0, 0, 0, 0, 0, 0, 0, 0, 0, 0, 0, 0, 0, 0, 0, 0, 0, 0]) := go_at 12 rfl (by rw [hlen]; decide) rfl (by decide +kernel) (exec_alu 7 7 (by decide) (by decide) _ _)
  have s13 : go (numCode x y) 87 (nSt 13 [0, x, y, alu 1 x y, alu 2 x y, alu 3 x y, alu 4 x y, alu 7 x y, 0, 0, 0, 0, 0, 0, 0, 0, 0, 0, 0, 0, 0, 0, 0, 0, 0, 0, 0, 0, 0, 0, 0, 0]) = go (numCode x y) 86 (nSt 14 [0, x, y, alu 1 x y, alu 2 x y, alu 3 x y, alu 4 x y, alu 7 x y, alu 8 x y, 0, 0, 0, 0, 0, 0, 0, 0, 0, 0, 0, 0, 0, 0, 0, 0, 0, 0, 0, 0, 0, 0, 0]) := go_at 13 rfl (by rw [hlen]; decide) rfl (by decide +kernel) (exec_alu 8 8 (by decide) (by decide) _ _)
  have s14 : go (numCode x y) 86 (nSt 14 [0, x, y, alu 1 x y, alu 2 x y, alu 3 x y, alu 4 x y, alu 7 x y, alu 8 x y, 0, 0, 0, 0, 0, 0, 0, 0, 0, 0, 0, 0, 0, 0, 0, 0, 0, 0, 0, 0, 0, 0, 0]) = go (numCode x y) 85 (nSt 15 [0, x, y, alu 1 x y, alu 2 x y, alu 3 x y, alu 4 x y, alu 7 x y, alu 8 x y, alu 9 x y, 0, 0, 0, 0, 0, 0, 0, 0, 0, 0, 0, 0, 0, 0, 0, 0, 0, 0, 0, 0, 0, 0]) := go_at 14 rfl (by rw [hlen]; decide) rfl (by decide +kernel) (exec_alu 9 9 (by decide) (by decide) _ _)
  have s15 : go (numCode x y) 85 (nSt 15 [0, x, y, alu 1 x y, alu 2 x y, alu 3 x y, alu 4 x y, alu 7 x y, alu 8 x y, alu 9 x y, 0, 0, 0, 0, 0, 0, 0, 0, 0, 0, 0, 0, 0, 0, 0, 0, 0, 0, 0, 0, 0, 0]) = go (numCode x y) 84 (nSt 16 [0, x, y, alu 1 x y, alu 2 x y, alu 3 x y, alu 4 x y, alu 7 x y, alu 8 x y, alu 9 x y, alu 13 x y, 0, 0, 0, 0, 0, 0, 0, 0, 0, 0, 0, 0, 0, 0, 0, 0, 0, 0, 0, 0, 0]) := go_at 15 rfl (by rw [hlen]; decide) rfl (by decide +kernel) (exec_alu 13 10 (by decide) (by decide) _ _)
  have s16 : go (numCode x y) 84 (nSt 16 [0, x, y, alu 1 x y, alu 2 x y, alu 3 x y, alu 4 x y, alu 7 x y, alu 8 x y, alu 9 x y, alu 13 x y, 0, 0, 0, 0, 0, 0, 0, 0, 0, 0, 0, 0, 0, 0, 0, 0, 0, 0, 0, 0, 0]) = go (numCode x y) 83 (nSt 17 [0, x, y, alu 1 x y, alu 2 x y, alu 3 x y, alu 4 x y, alu 7 x y, alu 8 x y, alu 9 x y, alu 13 x y, alu 14 x y, 0, 0, 0, 0, 0, 0, 0, 0, 0, 0, 0, 0, 0, 0, 0, 0, 0, 0, 0, 0]) := go_at 16 rfl (by rw [hlen]; decide) rfl (by decide +kernel) (exec_alu 14 11 (by decide) (by decide) _ _)
  have s17 : go (numCode x y) 83 (nSt 17 [0, x, y, alu 1 x y, alu 2 x y, alu 3 x y, alu 4 x y, alu 7 x y, alu 8 x y, alu 9 x y, alu 13 x y, alu 14 x y, 0, 0, 0, 0, 0, 0, 0, 0, 0, 0, 0, 0, 0, 0, 0, 0, 0, 0, 0, 0]) = (⟨x, 18, 17, numRegs x y, [], [], []⟩, 0) := by
    have hb : ¬ Bad 0 1 0 0 0 := by decide +kernel
    have hc : (numCode x y).getD 17 0 = enc 0 1 0 0 0 := rfl
    have hpc : (nSt 17 [0, x, y, alu 1 x y, alu 2 x y, alu 3 x y, alu 4 x y, alu 7 x y, alu 8 x y, alu 9 x y, alu 13 x y, alu 14 x y, 0, 0, 0, 0, 0, 0, 0, 0, 0, 0, 0, 0, 0, 0, 0, 0, 0, 0, 0, 0]).pc = 17 := rfl
    rw [go, if_neg (by rw [hpc, hlen]; decide), hpc, show (17 : Int).toNat = 17 from rfl, hc, if_neg (by rw [dec_enc hb]; decide), execW_enc hb]
    exact if_neg (by show ¬ ((0 : Int) = 6); decide)
  rw [s0, s1, s2, s3, s4, s5, s6, s7, s8, s9, s10, s11, s12, s13, s14, s15, s16, s17]
end Rs
end Go.Proofs.Ytembhjfejhnpfaa
