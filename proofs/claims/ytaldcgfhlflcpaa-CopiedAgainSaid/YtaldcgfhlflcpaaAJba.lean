/- The assembler in memory. -/
import Derived.Laws.OwnMore
import Derived.Laws.Rows
import Derived.Test.YtaldcgfhlflcpaaAJas
import Derived.Test.YtaldcgfhlflcpaaAJaf
import Derived.Test.YtaldcgfhlflcpaaAJaa
import Derived.Test.YtaldcgfhlflcpaaAJad
import Derived.Test.YtaldcgfhlflcpaaAJaz
import Derived.Deep.LoopGhost
import Derived.Lib.Hide
set_option linter.unusedVariables false
set_option linter.unusedSimpArgs false
set_option linter.unnecessarySimpa false
namespace Go.Proofs.Ytaldcgfhlflcpaa
open Go.RowKit
set_option maxRecDepth 100000
set_option linter.unusedVariables false
set_option linter.unusedSimpArgs false
def bools (bs : List Bool) : List Value := bs.map Value.bool
def nums (ps : List Nat) : List Value := ps.map fun (p : Nat) => Value.int .i64 (p : Int)
section
variable {B : Nat} {w : World} {g lb pb mb : Nat} {L : List (Int × Value)} {vl vc : Value} {l : List As.It} {bs : List Bool} {ps : List Nat} {code : List Int}
end
end Go.Proofs.Ytaldcgfhlflcpaa
namespace Go.Proofs.Ytaldcgfhlflcpaa
open Go.RowKit
set_option maxRecDepth 100000
set_option linter.unusedVariables false
set_option linter.unusedSimpArgs false
theorem mixed_set {α : Type} (P Q : List α) (k : Nat) (x : α) (hP : P[k]? = some x) (hl : P.length = Q.length) : (P.take k ++ Q.drop k).set k x = P.take (k + 1) ++ Q.drop (k + 1) := by
  have hk : k < P.length := (List.getElem?_eq_some_iff.1 hP).1
  rw [List.set_append_right _ _ (by simp; omega)]
  have e : k - (P.take k).length = 0 := by simp; omega
  rw [e, List.drop_eq_getElem_cons (by omega : k < Q.length), List.set_cons_zero, List.take_add_one, hP]
  simp
theorem ISl.setCell {w : World} {al : Option Addr} {n c : Nat} {l : List As.It} (h : ISl w (.slice al n c) l) {p : Addr} (hp : ∀ b off, al = some ⟨b, off, none⟩ → l ≠ [] → b ≠ p.block) (v : Value) : ISl (w.setCell p v) (.slice al n c) l := by
  obtain ⟨a, cap, hv, h | ⟨b, off, h1, h2, h3⟩⟩ := h
  · exact ⟨a, cap, hv, .inl h⟩
  · by_cases hl : l = []
    · exact ⟨a, cap, hv, .inl hl⟩
    · cases hv
      have hb := hp b off h1 hl
      exact ⟨_, _, rfl, .inr ⟨b, off, h1, by simp [World.setCell]; omega, fun j x hx => (h3 j x hx).of (fun k => World.cell?_of_block (heap_setCell_other w p b v hb))⟩⟩
section
variable {B : Nat} {w : World} {g lb pb mb : Nat} {L : List (Int × Value)} {vc : Value} {al : Option Addr} {cl : Nat} {l : List As.It} {bs : List Bool} {ps : List Nat} {code : List Int}
end
end Go.Proofs.Ytaldcgfhlflcpaa
namespace Go.Proofs.Ytaldcgfhlflcpaa
open Go.RowKit
set_option maxRecDepth 100000
set_option linter.unusedVariables false
set_option linter.unusedSimpArgs false
theorem same_step {G bs : List Bool} {k : Nat} {b : Bool} (h1 : G[k]? = some b) (h2 : bs[k]? = some b) : G.take (k + 1) ++ bs.drop (k + 1) = G.take k ++ bs.drop k ∧ (!decide (G.take (k + 1) = bs.take (k + 1))) = !decide (G.take k = bs.take k) := by
  have hk : k < bs.length := (List.getElem?_eq_some_iff.1 h2).1
  have hb : bs[k] = b := by rw [List.getElem?_eq_getElem hk] at h2; simpa using h2
  refine ⟨?_, ?_⟩
  · rw [List.take_add_one, h1, List.drop_eq_getElem_cons hk, hb]; simp
  · have hg : k < G.length := (List.getElem?_eq_some_iff.1 h1).1
    rw [List.take_add_one, List.take_add_one, h1, h2]
    congr 2
    simp
theorem diff_step {G bs : List Bool} {k : Nat} (h1 : G[k]? = some true) (h2 : bs[k]? = some false) : (!decide (G.take (k + 1) = bs.take (k + 1))) = true := by
  rw [Bool.not_eq_true', decide_eq_false_iff_not]
  intro e
  have := congrArg (fun l : List Bool => l[k]?) e
  simp only [List.getElem?_take, if_pos (Nat.lt_succ_self k)] at this
  rw [h1, h2] at this
  cases this
end Go.Proofs.Ytaldcgfhlflcpaa
