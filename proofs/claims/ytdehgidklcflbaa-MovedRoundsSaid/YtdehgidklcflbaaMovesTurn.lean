/- A list of moves spun round. -/
import Derived.Test.YtdehgidklcflbaaMovesThyE
namespace Go.Proofs.Ytdehgidklcflbaa.Mv

def spun (l : List (Int × Int)) (s : Nat) : List (Int × Int) := l.reverse.drop s ++ l.reverse.take s
theorem spun_perm (l : List (Int × Int)) (s : Nat) : (spun l s).Perm l := by
  unfold spun
  refine List.perm_append_comm.trans ?_
  rw [List.take_append_drop]
  exact List.reverse_perm l
theorem spun_len (l : List (Int × Int)) (s : Nat) : (spun l s).length = l.length := (spun_perm l s).length_eq
theorem spun_at (l : List (Int × Int)) {s i : Nat} (hs : s < l.length) (hi : i < l.length) : (spun l s).getD i (0, 0) = l.getD (l.length - 1 - (i + s) % l.length) (0, 0) := by
  have hm : (i + s) % l.length < l.length := Nat.mod_lt _ (by omega)
  rw [List.getD_eq_getElem?_getD, List.getD_eq_getElem?_getD, List.getElem?_eq_getElem (by rw [spun_len]; exact hi), List.getElem?_eq_getElem (by omega)]
  show (spun l s)[i]'_ = _
  unfold spun
  rw [List.getElem_append]
  split
  · rename_i h
    simp only [List.length_drop, List.length_reverse] at h
    rw [List.getElem_drop, List.getElem_reverse]
    have e : (i + s) % l.length = i + s := Nat.mod_eq_of_lt (by omega)
    simp only [e, Option.getD_some]
    congr 1
    omega
  · rename_i h
    simp only [List.length_drop, List.length_reverse] at h
    rw [List.getElem_take, List.getElem_reverse]
    have e : (i + s) % l.length = i + s - l.length := by
      rw [Nat.mod_eq_sub_mod (by omega), Nat.mod_eq_of_lt (by omega)]
    simp only [e, Option.getD_some]
    congr 1
    simp only [List.length_drop, List.length_reverse]
    omega
theorem tmod_near (a : Int) (n : Nat) (hn : 0 < n) : -(n : Int) < a.tmod n ∧ a.tmod n < n ∧ (a.tmod n) % n = a % n := by
  have h1 : (a.tmod n).natAbs < n := by rw [Int.natAbs_tmod]; exact Nat.mod_lt _ (by simpa using hn)
  refine ⟨by omega, by omega, ?_⟩
  have := Int.mul_tdiv_add_tmod a n
  conv => rhs; rw [← this]
  rw [Int.add_comm, Int.add_mul_emod_self_left]
theorem turn_arith (n : Nat) (hn : 0 < n) (i : Nat) (t : Int) : ((((i : Int) + t.tmod n).tmod n) + n).tmod n = (((i + (t % n).toNat) % n : Nat) : Int) := by
  obtain ⟨a1, a2, a3⟩ := tmod_near t n hn
  obtain ⟨b1, b2, b3⟩ := tmod_near ((i : Int) + t.tmod n) n hn
  have hp : (0 : Int) ≤ t % n := Int.emod_nonneg _ (by omega)
  rw [Int.tmod_eq_emod_of_nonneg (by omega)]
  rw [Int.add_emod_right, b3, Int.natCast_emod, Int.natCast_add, Int.toNat_of_nonneg hp, Int.add_emod, a3, ← Int.add_emod, Int.add_emod_emod]
theorem take_snoc_at {l : List (Int × Int)} {k : Nat} {m : Int × Int} (h : k < l.length) (hm : l.getD k (0, 0) = m) : l.take (k + 1) = l.take k ++ [m] := by
  rw [List.take_succ_eq_append_getElem h]
  rw [List.getD_eq_getElem?_getD, List.getElem?_eq_getElem h] at hm
  simp at hm
  rw [hm]
end Go.Proofs.Ytdehgidklcflbaa.Mv
