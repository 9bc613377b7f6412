/- Decode. -/
import Derived.Test.YtbcpflogkniojaaRiscREnc
namespace Go.Proofs.Ytbcpflogkniojaa
open Go.RowKit
set_option linter.unusedSimpArgs false
set_option linter.unusedVariables false
namespace Rs
/-- The fields of a word. -/
def fN (op x : Int) : Int := if most op < x % nmod op ∧ least op < 0 then x % nmod op - nmod op else x % nmod op
def fA (x : Int) : Int := x / 2097152 % 32
def fB (op x : Int) : Int := if hasB op = true then x / 65536 % 32 else 0
def fC (op x : Int) : Int := if hasC op = true then x / 2048 % 32 else 0
def fO (x : Int) : Int := x / 67108864
/-- Is a word an instruction's? -/
def decB (x : Int) : Bool := decide (encE (fO x) (fA x) (fB (fO x) x) (fC (fO x) x) (fN (fO x) x) = 0 ∧ encW (fO x) (fA x) (fB (fO x) x) (fC (fO x) x) (fN (fO x) x) = x)
end Rs
/-- The answer of Decode. -/
def decV (x : Int) : Value := if Rs.decB x = true then iv (Rs.fO x) (Rs.fA x) (Rs.fB (Rs.fO x) x) (Rs.fC (Rs.fO x) x) (Rs.fN (Rs.fO x) x) else iv 0 0 0 0 0
def DecPost (x : Int) (w : World) (e : Ending) (w' : World) : Prop := e = .returned (.tuple #[decV x, .bool (Rs.decB x)]) ∧ Below w.heap.size w w'
theorem encode_agg (op a b c n : Int) (w : World) : Calls Try.prog 30 #[.agg #[.int .i64 op, .int .i64 a, .int .i64 b, .int .i64 c, .int .i64 n]] w fun e w' => e = .returned (.tuple #[.int .u32 (Rs.encW op a b c n), .int .i64 (Rs.encE op a b c n)]) ∧ Below w.heap.size w w' := encode_any op a b c n w
theorem Rs.and31 {x : Int} (h0 : 0 ≤ x) (h1 : x < 4294967296) : bits .and .u32 x 31 = x % 32 := by
  have := Rs.and32 x 5 (by omega) h0 h1
  rwa [show ((2 : Int) ^ 5 - 1) = 31 from rfl, show ((2 : Int) ^ 5) = 32 from rfl] at this
theorem Rs.andA {x : Int} (h0 : 0 ≤ x) (h1 : x < 4294967296) : bits .and .u32 (x / 2097152) 31 = Rs.fA x := Rs.and31 (by omega) (by omega)
theorem Rs.andB {op x : Int} (h0 : 0 ≤ x) (h1 : x < 4294967296) (h : Rs.hasB op = true) : bits .and .u32 (x / 65536) 31 = Rs.fB op x := (Rs.and31 (by omega) (by omega)).trans (if_pos h).symm
theorem Rs.andC {op x : Int} (h0 : 0 ≤ x) (h1 : x < 4294967296) (h : Rs.hasC op = true) : bits .and .u32 (x / 2048) 31 = Rs.fC op x := (Rs.and31 (by omega) (by omega)).trans (if_pos h).symm
theorem Rs.fA_range (x : Int) : 0 ≤ Rs.fA x ∧ Rs.fA x ≤ 31 := by unfold Rs.fA; omega
theorem Rs.fB_range (op x : Int) : 0 ≤ Rs.fB op x ∧ Rs.fB op x ≤ 31 := by unfold Rs.fB; split <;> omega
theorem Rs.fC_range (op x : Int) : 0 ≤ Rs.fC op x ∧ Rs.fC op x ≤ 31 := by unfold Rs.fC; split <;> omega
theorem Rs.nmod_pos (op : Int) : Rs.nmod op = 65536 ∨ Rs.nmod op = 1024 ∨ Rs.nmod op = 2097152 ∨ Rs.nmod op = 1 := by
  unfold Rs.nmod
  repeat' split
  all_goals simp
theorem Rs.fN_range (op x : Int) : -2097152 ≤ Rs.fN op x ∧ Rs.fN op x ≤ 2097152 := by
  unfold Rs.fN
  rcases Rs.nmod_pos op with h | h | h | h <;> rw [h] <;> split <;> omega
theorem Rs.fN_zero {op : Int} (h : Rs.nmod op = 1) (x : Int) : Rs.fN op x = 0 := by
  have h2 : Rs.least op < 0 → Rs.nmod op ≠ 1 := by
    intro hl
    unfold Rs.least at hl
    unfold Rs.nmod
    repeat' split at hl
    all_goals first | omega | skip
    all_goals (rename_i h0 h1; simp [h0, h1])
  unfold Rs.fN
  rw [h]
  split
  · rename_i hh; exact absurd h (h2 hh.2)
  · omega
theorem dec_close (x : Int) {op a b c n : Int} (hop : op = Rs.fO x) (ha : a = Rs.fA x) (hb : b = Rs.fB op x) (hc : c = Rs.fC op x) (hn : n = Rs.fN op x) :
    ((Rs.encE op a b c n = 0 ∧ Rs.encW op a b c n = x) ∧ Rs.decB x = true ∧ decV x = iv op a b c n) ∨ ((Rs.encE op a b c n = 200 ∨ (Rs.encE op a b c n = 0 ∧ Rs.encW op a b c n ≠ x)) ∧ Rs.decB x = false ∧ decV x = iv 0 0 0 0 0) := by
  subst hb hc hn ha hop
  by_cases h : Rs.decB x = true
  · exact .inl ⟨of_decide_eq_true h, h, if_pos h⟩
  · refine .inr ⟨?_, by simpa using h, if_neg h⟩
    have h2 := of_decide_eq_false (by simpa using h : Rs.decB x = false)
    have h3 : ∀ o a b c n, Rs.encE o a b c n = 200 ∨ Rs.encE o a b c n = 0 := by
      intro o a b c n
      unfold Rs.encE
      split <;> simp
    rcases h3 (Rs.fO x) (Rs.fA x) (Rs.fB (Rs.fO x) x) (Rs.fC (Rs.fO x) x) (Rs.fN (Rs.fO x) x) with h4 | h4
    · exact .inl h4
    · exact .inr ⟨h4, fun h5 => h2 ⟨h4, h5⟩⟩
theorem Rs.fN_s65536 (x : Int) {op : Int} (h : Rs.form op = 2 ∨ Rs.form op = 3) (hl : Rs.least op ≠ 0) : Rs.signed x 16 = Rs.fN op x := by
  have hm : Rs.nmod op = 65536 := by unfold Rs.nmod; rw [if_pos h]
  have hn : ¬(op = 16 ∨ op = 17 ∨ op = 21 ∨ op = 18 ∨ op = 19) := by
    intro h1; unfold Rs.least at hl; rw [if_pos h1] at hl; exact absurd rfl hl
  have hle : Rs.least op = -32768 := by unfold Rs.least; rw [if_neg hn, if_pos h]
  have hmo : Rs.most op = 32767 := by
    unfold Rs.most
    rw [if_neg (by omega), if_neg (by omega), if_pos h]
  unfold Rs.fN Rs.signed
  rw [hm, hle, hmo]
  simp
  split <;> split <;> omega
theorem Rs.fN_u {x op : Int} (h : Rs.form op = 2 ∨ Rs.form op = 3) (hl : Rs.least op = 0) : IntKind.u16.wrap x = Rs.fN op x := by
  have hm : Rs.nmod op = 65536 := by unfold Rs.nmod; rw [if_pos h]
  unfold Rs.fN
  rw [hm, hl, if_neg (by omega)]
  rfl
theorem Rs.fN_s1024 (x : Int) {op : Int} (h : Rs.form op = 4) : Rs.signed x 10 = Rs.fN op x := by
  have ho : 24 ≤ op ∧ op ≤ 27 := by
    unfold Rs.form at h
    repeat' split at h
    all_goals omega
  have hm : Rs.nmod op = 1024 := by unfold Rs.nmod; rw [h]; rfl
  have hle : Rs.least op = -512 := by unfold Rs.least; rw [if_neg (by omega), if_neg (by omega), if_pos h]
  have hmo : Rs.most op = 511 := by unfold Rs.most; rw [if_neg (by omega), if_neg (by omega), if_neg (by omega), if_pos h]
  unfold Rs.fN Rs.signed
  rw [hm, hle, hmo]
  simp
  split <;> split <;> omega
theorem Rs.fN_s2097152 (x : Int) {op : Int} (h : Rs.form op = 5) : Rs.signed x 21 = Rs.fN op x := by
  have ho : op = 28 := by
    unfold Rs.form at h
    repeat' split at h
    all_goals omega
  subst ho
  unfold Rs.fN Rs.signed
  rw [show Rs.nmod 28 = 2097152 from rfl, show Rs.least 28 = -1048576 from rfl, show Rs.most 28 = 1048575 from rfl]
  simp
  split <;> split <;> omega
end Go.Proofs.Ytbcpflogkniojaa
