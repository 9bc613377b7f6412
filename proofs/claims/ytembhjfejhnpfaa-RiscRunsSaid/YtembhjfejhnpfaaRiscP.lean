/- What the laws' proofs take. -/
import Derived.Test.YtembhjfejhnpfaaStruct
namespace Go.Proofs.Ytembhjfejhnpfaa
set_option linter.unusedVariables false
set_option linter.unusedSimpArgs false
theorem wf_u32 {z : Int} (h : (Lit.int .u32 z).wf = true) : 0 ≤ z ∧ z < 4294967296 := by
  simp only [Lit.wf, Bool.and_eq_true, decide_eq_true_eq] at h
  have h1 : (0 : Int) ≤ z := h.1
  have h2 : z ≤ 4294967295 := h.2
  omega
theorem wf_i64 {z : Int} (h : (Lit.int .i64 z).wf = true) : Rs.InR z := by
  simp only [Lit.wf, Bool.and_eq_true, decide_eq_true_eq] at h
  exact ⟨h.1, h.2⟩
end Go.Proofs.Ytembhjfejhnpfaa
