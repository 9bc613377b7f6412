/- Assembly: items behind others. -/
import Derived.Test.YtbcpflogkniojaaAsmV
namespace Go.Proofs.Ytbcpflogkniojaa
open Go.RowKit
set_option linter.unusedVariables false
set_option linter.unusedSimpArgs false
namespace As
/-- Items that lead nowhere, and to which nothing leads. -/
def Plain (m : List It) : Prop := ∀ x ∈ m, x.kind = 0 ∨ x.kind = 4
theorem find_append {m : List It} (hm : Plain m) (k : Int) : ∀ l : List It, find k (l ++ m) = find k l
  | [] => by
    rw [List.nil_append, show find k [] = none from rfl, find_none]
    intro y hy
    have := hm y hy
    unfold isLabel
    rcases this with h | h <;> rw [h] <;> rfl
  | x :: l => by
    simp only [List.cons_append, find, find_append hm k l]
theorem places_append : ∀ (l m : List It) (bs cs : List Bool) (k : Nat), bs.length = l.length → places (l ++ m) (bs ++ cs) k = places l bs k ++ places m cs (total l bs k)
  | [], m, bs, cs, k, h => by have : bs = [] := List.eq_nil_of_length_eq_zero (by simpa using h); subst this; simp [places, total]
  | x :: l, m, b :: bs, cs, k, h => by
    simp only [List.cons_append, places, total, places_append l m bs cs _ (by simpa using h)]
  | x :: l, m, [], cs, k, h => by simp at h
theorem far_append {l m : List It} (hm : Plain m) {ps qs : List Nat} (h : ps.length = l.length) (x : It) (p : Nat) : far (l ++ m) (ps ++ qs) x p = far l ps x p := by
  unfold far
  rw [find_append hm]
  cases hf : find x.label l with
  | none => rfl
  | some t =>
    rw [Option.bind_some, Option.bind_some, List.getElem?_append_left (by have := find_lt hf; omega)]
theorem grow_app (all : List It) (ps : List Nat) : ∀ (l m : List It) (bs cs : List Bool) (qs rs : List Nat), bs.length = l.length → qs.length = l.length → grow all ps (l ++ m) (bs ++ cs) (qs ++ rs) = grow all ps l bs qs ++ grow all ps m cs rs
  | [], m, bs, cs, qs, rs, h1, h2 => by
    have e1 : bs = [] := List.eq_nil_of_length_eq_zero (by simpa using h1)
    have e2 : qs = [] := List.eq_nil_of_length_eq_zero (by simpa using h2)
    subst e1 e2
    simp [grow]
  | x :: l, m, b :: bs, cs, q :: qs, rs, h1, h2 => by
    simp only [List.cons_append, grow, grow_app all ps l m bs cs qs rs (by simpa using h1) (by simpa using h2)]
  | x :: l, m, [], _, _, _, h1, _ => by simp at h1
  | x :: l, m, _ :: _, _, [], _, _, h2 => by simp at h2
theorem grow_far {all all' : List It} {ps ps' : List Nat} (h : ∀ x p, far all ps x p = far all' ps' x p) : ∀ (l : List It) (bs : List Bool) (qs : List Nat), grow all ps l bs qs = grow all' ps' l bs qs
  | [], _, _ => by simp [grow]
  | x :: l, [], _ => by simp [grow]
  | x :: l, _ :: _, [] => by simp [grow]
  | x :: l, b :: bs, q :: qs => by simp only [grow, stretch, h, grow_far h l bs qs]
theorem grow_plain (all : List It) (ps : List Nat) : ∀ (m : List It) (qs : List Nat), Plain m → qs.length = m.length → grow all ps m (List.replicate m.length false) qs = List.replicate m.length false
  | [], _, _, _ => by simp [grow]
  | x :: m, q :: qs, hm, h => by
    have hx := hm x (by simp)
    have hk : ¬ x.kind = 2 := by omega
    simp only [List.length_cons, List.replicate_succ, grow, stretch, hk, decide_false, Bool.false_or, Bool.false_and]
    rw [grow_plain all ps m qs (fun y hy => hm y (by simp [hy])) (by simpa using h)]
  | x :: m, [], _, h => by simp at h
theorem layout_append {m : List It} (hm : Plain m) (l : List It) : ∀ (k : Nat) (bs : List Bool), bs.length = l.length → layout (l ++ m) k (bs ++ List.replicate m.length false) = layout l k bs ++ List.replicate m.length false
  | 0, bs, _ => rfl
  | k + 1, bs, h => by
    have hp := places_length l bs 0 h
    have hq := places_length m (List.replicate m.length false) (total l bs 0) (by simp)
    have hg : grow (l ++ m) (places (l ++ m) (bs ++ List.replicate m.length false) 0) (l ++ m) (bs ++ List.replicate m.length false) (places (l ++ m) (bs ++ List.replicate m.length false) 0) = grow l (places l bs 0) l bs (places l bs 0) ++ List.replicate m.length false := by
      rw [places_append l m bs _ 0 h, grow_app _ _ l m bs _ _ _ h hp, grow_plain _ _ m _ hm hq, grow_far (fun x p => far_append hm hp x p)]
    unfold layout
    rw [hg]
    by_cases he : grow l (places l bs 0) l bs (places l bs 0) = bs
    · rw [if_pos he, if_pos (by rw [he])]
    · rw [if_neg he, if_neg (fun e => he (List.append_cancel_right e))]
      exact layout_append hm l k _ (grow_length _ _ _ _ _ h hp)
/-- More rounds change nothing. -/
theorem layout_more (l : List It) : ∀ (k : Nat) (bs : List Bool), grow l (places l (layout l k bs) 0) l (layout l k bs) (places l (layout l k bs) 0) = layout l k bs → ∀ j, layout l (k + j) bs = layout l k bs
  | 0, bs, h, j => by
    have h' : grow l (places l bs 0) l bs (places l bs 0) = bs := h
    cases j with
    | zero => rfl
    | succ j =>
      show layout l (0 + j + 1) bs = bs
      unfold layout
      rw [if_pos h']
  | k + 1, bs, h, j => by
    rw [show k + 1 + j = k + j + 1 by omega]
    unfold layout at h ⊢
    by_cases he : grow l (places l bs 0) l bs (places l bs 0) = bs
    · rw [if_pos he, if_pos he]
    · rw [if_neg he] at h
      rw [if_neg he, if_neg he]
      exact layout_more l k _ h j
theorem longs_append {l m : List It} (hm : Plain m) : longs (l ++ m) = longs l ++ List.replicate m.length false := by
  have h1 : longs (l ++ m) = layout (l ++ m) (l.length + 1 + m.length) (List.replicate l.length false ++ List.replicate m.length false) := by
    unfold longs
    rw [List.length_append, ← List.replicate_append_replicate]
    congr 1
    omega
  rw [h1, layout_append hm l _ _ (by simp), layout_more l _ _ (longs_fix l).1]
  rfl
theorem places0_append {l m : List It} (hm : Plain m) : places0 (l ++ m) = places0 l ++ places m (List.replicate m.length false) (total l (longs l) 0) := by
  unfold places0
  rw [longs_append hm, places_append _ _ _ _ _ (longs_fix l).2]
theorem longs_plain {m : List It} (hm : Plain m) : longs m = List.replicate m.length false := by
  have := longs_append (l := []) hm
  simpa [longs, layout, grow] using this
theorem places_shift : ∀ (m : List It) (bs : List Bool) (k : Nat), places m bs k = (places m bs 0).map (· + k)
  | [], bs, k => by simp [places]
  | x :: m, [], k => by simp [places]
  | x :: m, b :: bs, k => by
    simp only [places, List.map_cons]
    rw [places_shift m bs (k + size x b), places_shift m bs (0 + size x b)]
    simp only [List.map_map, Nat.zero_add]
    congr 1
    exact List.map_congr_left (fun y _ => by simp; omega)
/-- The places of what stands behind. -/
theorem places0_parts {l m : List It} (hl : Good l) (hm : Plain m) : places0 (l ++ m) = places0 l ++ (places0 m).map (· + (code l).length) := by
  have hc := write_length l (places0 l) l (longs l) 0 (longs_fix l).2 hl.may
  rw [Nat.add_zero] at hc
  rw [places0_append hm, places_shift, show total l (longs l) 0 = (code l).length from hc.symm]
  unfold places0
  rw [longs_plain hm]
theorem write_app (all : List It) (ps : List Nat) : ∀ (l m : List It) (bs cs : List Bool) (qs rs : List Nat), bs.length = l.length → qs.length = l.length → write all ps (l ++ m) (bs ++ cs) (qs ++ rs) = write all ps l bs qs ++ write all ps m cs rs
  | [], m, bs, cs, qs, rs, h1, h2 => by
    have e1 : bs = [] := List.eq_nil_of_length_eq_zero (by simpa using h1)
    have e2 : qs = [] := List.eq_nil_of_length_eq_zero (by simpa using h2)
    subst e1 e2
    simp [write]
  | x :: l, m, b :: bs, cs, q :: qs, rs, h1, h2 => by
    simp only [List.cons_append, write, write_app all ps l m bs cs qs rs (by simpa using h1) (by simpa using h2), List.append_assoc]
  | x :: l, m, [], _, _, _, h1, _ => by simp at h1
  | x :: l, m, _ :: _, _, [], _, _, h2 => by simp at h2
theorem write_far {all all' : List It} {ps ps' : List Nat} (h : ∀ x p, far all ps x p = far all' ps' x p) : ∀ (l : List It) (bs : List Bool) (qs : List Nat), write all ps l bs qs = write all' ps' l bs qs
  | [], _, _ => by simp [write]
  | x :: l, [], _ => by simp [write]
  | x :: l, _ :: _, [] => by simp [write]
  | x :: l, b :: bs, q :: qs => by simp only [write, h, write_far h l bs qs]
/-- What is plain is written the same, wherever it stands. -/
theorem write_plain (all all' : List It) (ps ps' : List Nat) : ∀ (m : List It) (bs : List Bool) (qs rs : List Nat), Plain m → bs.length = m.length → qs.length = m.length → rs.length = m.length → write all ps m bs qs = write all' ps' m bs rs
  | [], _, _, _, _, _, _, _ => by simp [write]
  | x :: m, b :: bs, q :: qs, r :: rs, hm, h1, h2, h3 => by
    have hx := hm x (by simp)
    have hw : ∀ (p p' : Nat) (f f' : Int), words x b p f = words x b p' f' := by
      intro p p' f f'
      unfold words
      rcases hx with hx | hx <;> rw [hx] <;> simp
    simp only [write]
    rw [hw q r _ (far all' ps' x r), write_plain all all' ps ps' m bs qs rs (fun y hy => hm y (by simp [hy])) (by simpa using h1) (by simpa using h2) (by simpa using h3)]
  | x :: m, [], _, _, _, h, _, _ => by simp at h
  | x :: m, _ :: _, [], _, _, _, h, _ => by simp at h
  | x :: m, _ :: _, _ :: _, [], _, _, _, h => by simp at h
theorem code_parts {l m : List It} (hm : Plain m) : code (l ++ m) = code l ++ code m := by
  have hp := places_length l (longs l) 0 (longs_fix l).2
  have hq := places_length m (List.replicate m.length false) (total l (longs l) 0) (by simp)
  unfold code
  rw [longs_append hm, places0_append hm, write_app _ _ l m _ _ _ _ (longs_fix l).2 (show (places0 l).length = l.length from hp)]
  rw [write_far (fun x p => far_append hm (show (places0 l).length = l.length from hp) x p) l]
  rw [longs_plain hm]
  congr 1
  exact write_plain _ _ _ _ m _ _ _ hm (by simp) hq (by unfold places0; rw [longs_plain hm]; exact places_length m _ 0 (by simp))
/-- What is wrong of both together. -/
theorem errA_append : ∀ (l pre m : List It), errA pre l = 0 → errA pre (l ++ m) = errA (pre ++ l) m
  | [], pre, m, _ => by simp
  | x :: l, pre, m, h => by
    unfold errA at h
    by_cases h1 : may x = false
    · rw [if_pos h1] at h; simp at h
    · rw [if_neg h1] at h
      by_cases h2 : x.kind = 1 ∧ (find x.label pre).isSome = true
      · rw [if_pos h2] at h; simp at h
      · rw [if_neg h2] at h
        rw [List.cons_append, errA, if_neg h1, if_neg h2, errA_append l (pre ++ [x]) m h]
        simp
theorem errA_plain : ∀ (m pre : List It), Plain m → (errA pre m = 0 ∨ errA pre m = 210) ∧ ∀ pre', errA pre m = errA pre' m
  | [], _, _ => ⟨.inl rfl, fun _ => rfl⟩
  | x :: m, pre, hm => by
    have hx := hm x (by simp)
    have hk : ∀ p : Prop, ¬ (x.kind = 1 ∧ p) := fun p h => by omega
    have ih := fun pre => errA_plain m pre (fun y hy => hm y (by simp [hy]))
    refine ⟨?_, fun pre' => ?_⟩
    · unfold errA
      by_cases h1 : may x = false
      · rw [if_pos h1]; exact .inr rfl
      · rw [if_neg h1, if_neg (hk _)]; exact (ih _).1
    · unfold errA
      by_cases h1 : may x = false
      · rw [if_pos h1, if_pos h1]
      · rw [if_neg h1, if_neg h1, if_neg (hk _), if_neg (hk _)]; exact (ih _).2 _
theorem errN_plain (all : List It) : ∀ m : List It, Plain m → errN all m = 0
  | [], _ => rfl
  | x :: m, hm => by
    have hx := hm x (by simp)
    have hn : names x = false := by unfold names; rcases hx with h | h <;> rw [h] <;> rfl
    unfold errN
    rw [if_neg (by rw [hn]; simp), errN_plain all m (fun y hy => hm y (by simp [hy]))]
theorem errN_append (all : List It) : ∀ (l m : List It), errN all l = 0 → errN all (l ++ m) = errN all m
  | [], m, _ => rfl
  | x :: l, m, h => by
    unfold errN at h
    by_cases h1 : names x = true ∧ find x.label all = none
    · rw [if_pos h1] at h; simp at h
    · rw [if_neg h1] at h
      rw [List.cons_append, errN, if_neg h1, errN_append all l m h]
theorem errN_find {all all' : List It} (h : ∀ k, find k all = find k all') : ∀ l : List It, errN all l = errN all' l
  | [] => rfl
  | x :: l => by unfold errN; rw [h, errN_find h l]
theorem err_parts {l m : List It} (hl : err l = 0) (hm : Plain m) (h1 : l.length ≤ 1000) (h2 : m.length ≤ 1000) : err (l ++ m) = err m := by
  have hA : errA [] l = 0 ∧ errN l l = 0 := by
    unfold err at hl
    rw [if_neg (by omega)] at hl
    by_cases h : errA [] l = 0
    · rw [if_neg (by simp [h])] at hl; exact ⟨h, hl⟩
    · rw [if_pos h] at hl; exact absurd hl h
  have e1 : errA [] (l ++ m) = errA [] m := by
    rw [errA_append l [] m hA.1]
    exact (errA_plain m _ hm).2 _
  have e2 : errN (l ++ m) (l ++ m) = errN m m := by
    rw [errN_append _ l m (by rw [errN_find (fun k => find_append hm k l)]; exact hA.2), errN_plain _ m hm, errN_plain _ m hm]
  unfold err
  rw [if_neg (show ¬ 65536 < (l ++ m).length by rw [List.length_append]; omega), if_neg (show ¬ 65536 < m.length by omega), e1, e2]
end As
end Go.Proofs.Ytbcpflogkniojaa
