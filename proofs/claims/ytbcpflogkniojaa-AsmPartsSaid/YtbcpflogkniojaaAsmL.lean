/- Assembly: where the words stand; long branches are long. -/
import Derived.Test.YtbcpflogkniojaaAsmP
namespace Go.Proofs.Ytbcpflogkniojaa
open Go.RowKit
set_option linter.unusedVariables false
set_option linter.unusedSimpArgs false
namespace As
theorem tailP_length (r n : Int) : ∀ k, (tailP r n k).length = k
  | 0 => rfl
  | k + 1 => by simp [tailP, tailP_length r n k]
theorem pieces_pos (n : Int) : 1 ≤ pieces n ∧ pieces n ≤ 4 := by
  unfold pieces
  repeat' split
  all_goals omega
theorem number_length (r n : Int) {k : Nat} (h : 1 ≤ k) : (number r n k).length = k := by
  unfold number
  simp [tailP_length]
  omega
theorem may_kind {x : It} (h : may x = true) : x.kind = 0 ∨ x.kind = 1 ∨ x.kind = 2 ∨ x.kind = 3 ∨ x.kind = 4 ∨ x.kind = 5 := by
  unfold may at h
  repeat' split at h
  all_goals first | omega | (simp at h)
theorem words_length {x : It} (h : may x = true) (b : Bool) (p : Nat) (f : Int) : (words x b p f).length = size x b := by
  unfold words size
  rcases may_kind h with k | k | k | k | k | k <;> rw [k] <;> simp
  · cases b <;> simp
  · exact number_length _ _ (pieces_pos _).1
  · exact number_length _ _ (by omega)
theorem size_le (x : It) (b : Bool) : size x b ≤ 4 := by
  unfold size
  have := pieces_pos x.num
  repeat' split
  all_goals omega
theorem size_mono (x : It) (b : Bool) : size x false ≤ size x b := by
  cases b
  · exact Nat.le_refl _
  · unfold size
    repeat' split
    all_goals first | omega | simp_all
/-- The places, one by one. -/
theorem places_get : ∀ (l : List It) (bs : List Bool) (k i : Nat), bs.length = l.length → i < l.length → (places l bs k)[i]? = some (total (l.take i) (bs.take i) k)
  | [], _, _, _, _, h => by simp at h
  | x :: l, b :: bs, k, 0, _, _ => by simp [places, total]
  | x :: l, b :: bs, k, i + 1, h1, h2 => by
    simp only [places, List.getElem?_cons_succ, List.take_succ_cons, total]
    exact places_get l bs _ i (by simpa using h1) (by simpa using h2)
  | x :: l, [], _, _, h, _ => by simp at h
theorem total_le : ∀ (l : List It) (bs : List Bool) (k : Nat), k ≤ total l bs k ∧ total l bs k ≤ k + 4 * l.length
  | [], bs, k => by simp [total]
  | x :: l, [], k => by simp [total]
  | x :: l, b :: bs, k => by
    have h1 := total_le l bs (k + size x b)
    have h2 := size_le x b
    simp only [total, List.length_cons]
    omega
/-- The words of an item stand at its place. -/
theorem write_split (all : List It) (ps : List Nat) : ∀ (l : List It) (bs : List Bool) (k i : Nat) (x : It) (b : Bool) (p : Nat), bs.length = l.length → l[i]? = some x → bs[i]? = some b → (places l bs k)[i]? = some p → (∀ y ∈ l, may y = true) →
    ∃ pre post, write all ps l bs (places l bs k) = pre ++ words x b p (far all ps x p) ++ post ∧ pre.length + k = p
  | [], _, _, _, _, _, _, _, hx, _, _, _ => by simp at hx
  | y :: l, [], _, _, _, _, _, h, _, _, _, _ => by simp at h
  | y :: l, c :: bs, k, 0, x, b, p, h, hx, hb, hp, hm => by
    simp only [places, List.getElem?_cons_zero, Option.some.injEq] at hx hb hp
    subst hx hb hp
    exact ⟨[], write all ps l bs (places l bs (k + size y c)), by simp only [places, write, List.nil_append], by simp⟩
  | y :: l, c :: bs, k, i + 1, x, b, p, h, hx, hb, hp, hm => by
    simp only [places, List.getElem?_cons_succ] at hx hb hp
    obtain ⟨pre, post, h1, h2⟩ := write_split all ps l bs (k + size y c) i x b p (by simpa using h) hx hb hp (fun z hz => hm z (by simp [hz]))
    refine ⟨words y c k (far all ps y k) ++ pre, post, ?_, ?_⟩
    · simp only [places, write]
      rw [h1]
      simp
    · rw [List.length_append, words_length (hm y (by simp))]
      omega
/-- All words together. -/
theorem write_length (all : List It) (ps : List Nat) : ∀ (l : List It) (bs : List Bool) (k : Nat), bs.length = l.length → (∀ y ∈ l, may y = true) → (write all ps l bs (places l bs k)).length + k = total l bs k
  | [], bs, k, _, _ => by simp [places, write, total]
  | y :: l, [], _, h, _ => by simp at h
  | y :: l, c :: bs, k, h, hm => by
    have := write_length all ps l bs (k + size y c) (by simpa using h) (fun z hz => hm z (by simp [hz]))
    simp only [places, write, total, List.length_append, words_length (hm y (by simp))]
    omega
/-- One layout is as long as another, item by item. -/
def Le (bs cs : List Bool) : Prop := bs.length = cs.length ∧ ∀ i : Nat, bs[i]? = some true → cs[i]? = some true
/-- How many words are between two places. -/
theorem total_split : ∀ (l : List It) (bs : List Bool) (k i j : Nat), bs.length = l.length → i ≤ j → j ≤ l.length → total (l.take j) (bs.take j) k = total ((l.take j).drop i) ((bs.take j).drop i) (total (l.take i) (bs.take i) k)
  | l, bs, k, 0, j, _, _, _ => by simp [total]
  | [], _, k, i + 1, j, _, _, h => by simp at h; omega
  | x :: l, [], _, _, _, h, _, _ => by simp at h
  | x :: l, b :: bs, k, i + 1, j + 1, h, hij, hj => by
    simp only [List.take_succ_cons, List.drop_succ_cons, total]
    exact total_split l bs _ i j (by simpa using h) (by omega) (by simpa using hj)
  | x :: l, b :: bs, k, i + 1, 0, h, hij, hj => by omega
theorem total_add : ∀ (l : List It) (bs : List Bool) (k d : Nat), total l bs (k + d) = total l bs k + d
  | [], bs, k, d => by simp [total]
  | x :: l, [], k, d => by simp [total]
  | x :: l, b :: bs, k, d => by
    simp only [total]
    rw [show k + d + size x b = k + size x b + d by omega]
    exact total_add l bs _ d
theorem size_le_of {x : It} {b c : Bool} (h : b = true → c = true) : size x b ≤ size x c := by
  cases b
  · exact size_mono x c
  · rw [h rfl]; exact Nat.le_refl _
theorem total_mono : ∀ (l : List It) (bs cs : List Bool) (k : Nat), bs.length = l.length → cs.length = l.length → (∀ i : Nat, bs[i]? = some true → cs[i]? = some true) → total l bs k ≤ total l cs k
  | [], bs, cs, k, _, _, _ => by simp [total]
  | x :: l, b :: bs, c :: cs, k, h1, h2, h => by
    have h0 : b = true → c = true := fun hb => by have := h 0 (by simp [hb]); simpa using this
    have hs := size_le_of (x := x) h0
    have h3 := total_mono l bs cs (k + size x c) (by simpa using h1) (by simpa using h2) (fun i hi => by have := h (i + 1) (by simpa using hi); simpa using this)
    simp only [total]
    obtain ⟨d, hd⟩ : ∃ d, size x c = size x b + d := ⟨size x c - size x b, by omega⟩
    have h4 := total_add l bs (k + size x b) d
    have h5 : k + size x c = k + size x b + d := by omega
    rw [h5] at h3 ⊢
    omega
  | x :: l, [], _, _, h, _, _ => by simp at h
  | x :: l, _ :: _, [], _, _, h, _ => by simp at h
end As
end Go.Proofs.Ytbcpflogkniojaa
