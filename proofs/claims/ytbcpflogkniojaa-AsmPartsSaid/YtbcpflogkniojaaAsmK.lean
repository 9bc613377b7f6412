/- The assembler, plainly, item by item. -/
import Derived.Test.YtbcpflogkniojaaAsmJ
namespace Go.Proofs.Ytbcpflogkniojaa
open Go.RowKit
set_option linter.unusedVariables false
set_option linter.unusedSimpArgs false
namespace As
theorem drop_cons {l : List It} {k : Nat} {x : It} (hx : l[k]? = some x) : l.drop k = x :: l.drop (k + 1) ∧ l.take k ++ [x] = l.take (k + 1) := by
  have hk : k < l.length := (List.getElem?_eq_some_iff.1 hx).1
  have hb : l[k] = x := by rw [List.getElem?_eq_getElem hk] at hx; simpa using hx
  refine ⟨by rw [List.drop_eq_getElem_cons hk, hb], by rw [List.take_add_one, hx]; rfl⟩
theorem errA_step {l : List It} {k : Nat} {x : It} (hx : l[k]? = some x) : errA (l.take k) (l.drop k) = if may x = false then 210 else if x.kind = 1 ∧ (find x.label (l.take k)).isSome = true then 211 else errA (l.take (k + 1)) (l.drop (k + 1)) := by
  rw [(drop_cons hx).1, errA, (drop_cons hx).2]
theorem errN_step {all l : List It} {k : Nat} {x : It} (hx : l[k]? = some x) : errN all (l.drop k) = if names x = true ∧ find x.label all = none then 212 else errN all (l.drop (k + 1)) := by
  rw [(drop_cons hx).1, errN]
theorem err_A {l : List It} {z : Int} (h : l.length ≤ 65536) (he : errA [] l = z) (hz : z ≠ 0) : err l = z := by
  unfold err
  rw [if_neg (by omega), he, if_pos hz]
theorem err_N {l : List It} {z : Int} (h : l.length ≤ 65536) (he : errA [] l = 0) (hn : errN l l = z) : err l = z := by
  unfold err
  rw [if_neg (by omega), he, if_neg (by simp), hn]
theorem find_snoc (k : Int) (x : It) : ∀ p : List It, find k (p ++ [x]) = match find k p with
    | some t => some t
    | none => if isLabel x k = true then some p.length else none
  | [] => by simp [find]
  | y :: p => by
    simp only [List.cons_append, find]
    by_cases h : isLabel y k = true
    · rw [if_pos h, if_pos h]
    · rw [if_neg h, if_neg h, find_snoc k x p]
      cases hf : find k p with
      | some t => simp
      | none => by_cases h2 : isLabel x k = true <;> simp [h2]
/-- The words of the first items. -/
def cod (l : List It) (k : Nat) : List Int := write l (places0 l) (l.take k) ((longs l).take k) ((places0 l).take k)
theorem cod_zero (l : List It) : cod l 0 = [] := rfl
theorem places0_get {l : List It} {k : Nat} (h : k < l.length) : (places0 l)[k]? = some (pl l (longs l) k) := places_get l (longs l) 0 k (longs_fix l).2 h
theorem places0_length (l : List It) : (places0 l).length = l.length := places_length l (longs l) 0 (longs_fix l).2
theorem cod_succ {l : List It} {k : Nat} {x : It} {b : Bool} (hx : l[k]? = some x) (hb : (longs l)[k]? = some b) : cod l (k + 1) = cod l k ++ words x b (pl l (longs l) k) (far l (places0 l) x (pl l (longs l) k)) := by
  have hk : k < l.length := (List.getElem?_eq_some_iff.1 hx).1
  have h1 := (longs_fix l).2
  have h2 := places0_length l
  unfold cod
  rw [List.take_add_one, List.take_add_one, List.take_add_one, hx, hb, places0_get hk]
  simp only [Option.toList_some]
  rw [write_app _ _ _ _ _ _ _ _ (by simp; omega) (by simp; omega)]
  simp [write]
theorem cod_full (l : List It) : cod l l.length = code l := by
  have h1 := (longs_fix l).2
  have h2 := places0_length l
  unfold cod code
  rw [List.take_length, List.take_of_length_le (by omega), List.take_of_length_le (by omega)]
theorem write_len (all : List It) (ps : List Nat) : ∀ (l : List It) (bs : List Bool) (qs : List Nat), (∀ y ∈ l, may y = true) → (write all ps l bs qs).length ≤ 4 * l.length
  | [], _, _, _ => by simp [write]
  | x :: l, [], _, _ => by simp [write]
  | x :: l, b :: bs, [], _ => by simp [write]
  | x :: l, b :: bs, q :: qs, h => by
    have h1 := write_len all ps l bs qs (fun y hy => h y (by simp [hy]))
    have h2 := words_length (h x (by simp)) b q (far all ps x q)
    have h3 := size_le x b
    simp only [write, List.length_append, List.length_cons]
    omega
theorem cod_len {l : List It} (hm : ∀ y ∈ l, may y = true) (k : Nat) (h : l.length ≤ 65536) : (cod l k).length ≤ 262144 := by
  have := write_len l (places0 l) (l.take k) ((longs l).take k) ((places0 l).take k) (fun y hy => hm y (List.mem_of_mem_take hy))
  unfold cod
  simp at this
  omega
end As
end Go.Proofs.Ytbcpflogkniojaa
