/- Assembly: what holds of items that may be; the words of a branch. -/
import Derived.Test.YtbcpflogkniojaaAsmM
namespace Go.Proofs.Ytbcpflogkniojaa
open Go.RowKit
set_option linter.unusedVariables false
set_option linter.unusedSimpArgs false
namespace As
theorem find_none (k : Int) : ∀ (l : List It), find k l = none ↔ ∀ y ∈ l, isLabel y k = false
  | [] => by simp [find]
  | x :: l => by
    unfold find
    split
    · rename_i h; simp [h]
    · rename_i h
      simp only [Option.map_eq_none_iff, find_none k l, List.mem_cons, forall_eq_or_imp]
      simp [h]
theorem errA_zero : ∀ (l pre : List It), errA pre l = 0 → (∀ x ∈ l, may x = true) ∧ ∀ (i : Nat) (x : It), l[i]? = some x → x.kind = 1 → find x.label (pre ++ l.take i) = none
  | [], pre, _ => ⟨by simp, by simp⟩
  | y :: l, pre, h => by
    unfold errA at h
    by_cases h1 : may y = false
    · rw [if_pos h1] at h; simp at h
    · rw [if_neg h1] at h
      by_cases h2 : y.kind = 1 ∧ (find y.label pre).isSome = true
      · rw [if_pos h2] at h; simp at h
      · rw [if_neg h2] at h
        obtain ⟨g1, g2⟩ := errA_zero l (pre ++ [y]) h
        refine ⟨fun x hx => ?_, fun i x hx hk => ?_⟩
        · rcases List.mem_cons.1 hx with rfl | hx
          · simpa using h1
          · exact g1 x hx
        · cases i with
          | zero =>
            simp at hx
            subst hx
            simp only [List.take_zero, List.append_nil]
            cases hf : find y.label pre with
            | none => rfl
            | some t => exact absurd ⟨hk, by rw [hf]; rfl⟩ h2
          | succ i =>
            have := g2 i x (by simpa using hx) hk
            simpa using this
theorem errN_zero (all : List It) : ∀ (l : List It), errN all l = 0 → ∀ x ∈ l, names x = true → ∃ t, find x.label all = some t
  | [], _ => by simp
  | y :: l, h => by
    unfold errN at h
    by_cases h1 : names y = true ∧ find y.label all = none
    · rw [if_pos h1] at h; simp at h
    · rw [if_neg h1] at h
      intro x hx hn
      rcases List.mem_cons.1 hx with rfl | hx
      · cases hf : find x.label all with
        | none => exact absurd ⟨hn, hf⟩ h1
        | some t => exact ⟨t, rfl⟩
      · exact errN_zero all l h x hx hn
structure Good (l : List It) : Prop where
  len : l.length ≤ 65536
  may : ∀ x ∈ l, may x = true
  once : ∀ (i j : Nat) (x y : It), l[i]? = some x → l[j]? = some y → x.kind = 1 → y.kind = 1 → x.label = y.label → i = j
  has : ∀ x ∈ l, names x = true → ∃ t, find x.label l = some t
theorem good_of {l : List It} (h : err l = 0) : Good l := by
  unfold err at h
  by_cases h1 : 65536 < l.length
  · rw [if_pos h1] at h; simp at h
  · rw [if_neg h1] at h
    by_cases h2 : errA [] l = 0
    · simp only [h2, ne_eq, not_true_eq_false, if_false] at h
      obtain ⟨g1, g2⟩ := errA_zero l [] h2
      refine ⟨by omega, g1, fun i j x y hx hy hkx hky hl => ?_, errN_zero l l h⟩
      have key : ∀ (i j : Nat) (x y : It), l[i]? = some x → l[j]? = some y → x.kind = 1 → y.kind = 1 → x.label = y.label → ¬ i < j := by
        intro i j x y hx hy hkx hky hl hij
        have h3 := g2 j y hy hky
        rw [List.nil_append, find_none] at h3
        have hm : x ∈ l.take j := by
          refine List.mem_iff_getElem?.2 ⟨i, ?_⟩
          rw [List.getElem?_take, if_pos hij]
          exact hx
        have := h3 x hm
        simp [isLabel, hkx, hl] at this
      have a := key i j x y hx hy hkx hky hl
      have b := key j i y x hy hx hky hkx hl.symm
      omega
    · rw [if_pos h2] at h; exact absurd h h2
theorem not_bad_n {op a b c n m : Int} (h : ¬ Rs.Bad op a b c m) (h1 : Rs.least op ≤ n) (h2 : n ≤ Rs.most op) : ¬ Rs.Bad op a b c n := by
  unfold Rs.Bad at *
  simp only [not_or, Bool.not_eq_false, Int.not_lt] at h ⊢
  obtain ⟨a1, a2, a3, a4, a5, a6, a7, a8⟩ := h
  exact ⟨a1, a2, a3, a4, a5, a6, h1, h2⟩
theorem encOk_not_bad {x : It} (h : encOk x = true) : ¬ Rs.Bad x.op x.a x.b x.c x.n := by
  have h1 := of_decide_eq_true h
  intro hb
  rw [show Rs.encE _ _ _ _ _ = 200 from if_pos hb] at h1
  exact absurd h1 (by decide)
theorem pl_le {l : List It} (bs : List Bool) {i : Nat} (h : l.length ≤ 65536) : pl l bs i ≤ 262144 := by
  have := (total_le (l.take i) (bs.take i) 0).2
  have h2 : (l.take i).length ≤ l.length := by simp; omega
  unfold pl
  omega
/-- The words of item i. -/
theorem code_split {l : List It} (hg : Good l) {i : Nat} {x : It} (hx : l[i]? = some x) : ∃ (b : Bool) (pre post : List Int), (longs l)[i]? = some b ∧ code l = pre ++ words x b (pl l (longs l) i) (far l (places0 l) x (pl l (longs l) i)) ++ post ∧ pre.length = pl l (longs l) i := by
  have hi : i < l.length := (List.getElem?_eq_some_iff.1 hx).1
  have hlen := (longs_fix l).2
  obtain ⟨b, hb⟩ : ∃ b, (longs l)[i]? = some b := ⟨_, List.getElem?_eq_getElem (by omega)⟩
  have hp := places_get l (longs l) 0 i hlen hi
  obtain ⟨pre, post, h1, h2⟩ := write_split l (places0 l) l (longs l) 0 i x b _ hlen hx hb hp hg.may
  exact ⟨b, pre, post, hb, h1, by have h3 := h2; rw [Nat.add_zero] at h3; exact h3⟩
theorem may_2 {x : It} (h : may x = true) (hk : x.kind = 2) : ¬ Rs.Bad x.op x.a x.b x.c 0 ∧ 24 ≤ x.op ∧ x.op ≤ 27 ∧ x.n = 0 ∧ x.num = 0 := by
  unfold may at h
  rw [hk] at h
  simp at h
  obtain ⟨⟨⟨⟨h1, h2⟩, h3⟩, h4⟩, h5⟩ := h
  have := encOk_not_bad h1
  rw [h4] at this
  exact ⟨this, h2, h3, h4, h5⟩
theorem may_3 {x : It} (h : may x = true) (hk : x.kind = 3) : ¬ Rs.Bad x.op x.a x.b x.c 0 ∧ x.op = 28 ∧ x.n = 0 ∧ x.num = 0 := by
  unfold may at h
  rw [hk] at h
  simp at h
  obtain ⟨⟨⟨h1, h2⟩, h3⟩, h4⟩ := h
  have := encOk_not_bad h1
  rw [h3] at this
  exact ⟨this, h2, h3, h4⟩
theorem opposite_range (op : Int) : 24 ≤ opposite op ∧ opposite op ≤ 27 := by
  unfold opposite
  repeat' split
  all_goals omega
theorem form_45 {op : Int} (h1 : 24 ≤ op) (h2 : op ≤ 28) : Rs.form op = 4 ∨ Rs.form op = 5 := by
  unfold Rs.form
  rw [if_neg (by omega), if_neg (by omega), if_neg (by omega), if_neg (by omega)]
  by_cases h : 24 ≤ op ∧ op ≤ 27
  · rw [if_pos h]; exact .inl rfl
  · rw [if_neg h, if_pos (by omega)]; exact .inr rfl
theorem c_zero {op a b c n : Int} (h : ¬ Rs.Bad op a b c n) (h1 : 24 ≤ op) (h2 : op ≤ 28) : c = 0 ∧ (op = 28 → b = 0) := by
  unfold Rs.Bad at h
  simp only [not_or, not_and, Int.not_lt] at h
  have hf := form_45 h1 h2
  refine ⟨?_, fun h28 => ?_⟩
  · have := h.2.2.2.2.2.1 (by omega)
    exact Decidable.byContradiction this
  · have : Rs.form op = 5 := by rw [h28]; rfl
    exact Decidable.byContradiction (h.2.2.2.2.1 (.inr (.inr this)))
theorem ends_br : ∀ k : Fin 4, Rs.least (24 + (k : Nat)) = -512 ∧ Rs.most (24 + (k : Nat)) = 511 := by decide +kernel
theorem ends_branch {op : Int} (h1 : 24 ≤ op) (h2 : op ≤ 27) : Rs.least op = -512 ∧ Rs.most op = 511 := by
  obtain ⟨k, hk, rfl⟩ : ∃ k : Nat, k < 4 ∧ op = 24 + (k : Nat) := ⟨(op - 24).toNat, by omega, by omega⟩
  exact ends_br ⟨k, hk⟩
theorem getD_split {pre ws post : List Int} {p j : Nat} (h : pre.length = p) (hj : j < ws.length) : (pre ++ ws ++ post).getD (p + j) 0 = ws.getD j 0 ∧ p + j < (pre ++ ws ++ post).length := by
  subst h
  refine ⟨?_, by simp; omega⟩
  rw [List.getD_eq_getElem?_getD, List.append_assoc, List.getElem?_append_right (by omega), List.getElem?_append_left (by omega), List.getD_eq_getElem?_getD]
  congr 2
  omega
/-- A jump; a branch that reaches. -/
theorem reach_short {l : List It} (hg : Good l) {i t : Nat} {x : It} (hx : l[i]? = some x) (ht : find x.label l = some t) (hk : x.kind = 3 ∨ (x.kind = 2 ∧ ¬ Far ((pl l (longs l) t : Int) - pl l (longs l) i))) :
    pl l (longs l) i < (code l).length ∧ (code l).getD (pl l (longs l) i) 0 = Rs.enc x.op x.a x.b 0 ((pl l (longs l) t : Int) - pl l (longs l) i) ∧ ¬ Rs.Bad x.op x.a x.b 0 ((pl l (longs l) t : Int) - pl l (longs l) i) := by
  obtain ⟨b, pre, post, hb, hc, hpre⟩ := code_split hg hx
  have hm := hg.may x (List.mem_of_getElem? hx)
  have hlen := (longs_fix l).2
  have hfar := far_eq (l := l) (bs := longs l) (x := x) hlen ht (pl l (longs l) i)
  have hr1 := pl_le (i := i) (longs l) hg.len
  have hr2 := pl_le (i := t) (longs l) hg.len
  have hnb : ¬ Rs.Bad x.op x.a x.b 0 ((pl l (longs l) t : Int) - pl l (longs l) i) ∧ x.c = 0 := by
    rcases hk with hk | ⟨hk, hf⟩
    · obtain ⟨h1, h2, h3, h4⟩ := may_3 hm hk
      have hc0 := (c_zero h1 (by omega) (by omega)).1
      rw [hc0] at h1
      refine ⟨not_bad_n h1 ?_ ?_, hc0⟩
      · rw [h2, show Rs.least 28 = -1048576 by decide]; omega
      · rw [h2, show Rs.most 28 = 1048575 by decide]; omega
    · obtain ⟨h1, h2, h3, h4⟩ := may_2 hm hk
      have hc0 := (c_zero h1 (by omega) (by omega)).1
      rw [hc0] at h1
      obtain ⟨e1, e2⟩ := ends_branch h2 h3
      unfold Far at hf
      exact ⟨not_bad_n h1 (by rw [e1]; omega) (by rw [e2]; omega), hc0⟩
  have hw : words x b (pl l (longs l) i) (far l (places0 l) x (pl l (longs l) i)) = [Rs.enc x.op x.a x.b 0 ((pl l (longs l) t : Int) - pl l (longs l) i)] := by
    unfold places0
    rw [hfar]
    unfold words
    have he : Rs.encW x.op x.a x.b x.c ((pl l (longs l) t : Int) - pl l (longs l) i) = Rs.enc x.op x.a x.b 0 ((pl l (longs l) t : Int) - pl l (longs l) i) := by
      rw [hnb.2]; exact if_neg hnb.1
    rcases hk with hk | ⟨hk, hf⟩
    · rw [hk]; simp [he]
    · have hbf : b = false := by
        cases b with
        | false => rfl
        | true => exact absurd ((long_iff hx hk ht).1 hb) hf
      rw [hk, hbf]; simp [he]
  rw [hw] at hc
  have := getD_split (ws := [Rs.enc x.op x.a x.b 0 ((pl l (longs l) t : Int) - pl l (longs l) i)]) (post := post) (j := 0) hpre (by simp)
  rw [← hc] at this
  exact ⟨by simpa using this.2, by simpa using this.1, hnb.1⟩
/-- A branch that does not reach. -/
theorem reach_long {l : List It} (hg : Good l) {i t : Nat} {x : It} (hx : l[i]? = some x) (ht : find x.label l = some t) (hk : x.kind = 2) (hf : Far ((pl l (longs l) t : Int) - pl l (longs l) i)) :
    pl l (longs l) i + 1 < (code l).length ∧ (code l).getD (pl l (longs l) i) 0 = Rs.enc (opposite x.op) x.a x.b 0 2 ∧ ¬ Rs.Bad (opposite x.op) x.a x.b 0 2 ∧
    (code l).getD (pl l (longs l) i + 1) 0 = Rs.enc 28 0 0 0 ((pl l (longs l) t : Int) - pl l (longs l) i - 1) ∧ ¬ Rs.Bad 28 0 0 0 ((pl l (longs l) t : Int) - pl l (longs l) i - 1) := by
  obtain ⟨b, pre, post, hb, hc, hpre⟩ := code_split hg hx
  have hm := hg.may x (List.mem_of_getElem? hx)
  have hlen := (longs_fix l).2
  have hfar := far_eq (l := l) (bs := longs l) (x := x) hlen ht (pl l (longs l) i)
  have hr1 := pl_le (i := i) (longs l) hg.len
  have hr2 := pl_le (i := t) (longs l) hg.len
  obtain ⟨h1, h2, h3, h4⟩ := may_2 hm hk
  have hc0 := (c_zero h1 (by omega) (by omega)).1
  rw [hc0] at h1
  have hb1 : ¬ Rs.Bad (opposite x.op) x.a x.b 0 2 := by
    have ho := opposite_range x.op
    obtain ⟨e1, e2⟩ := ends_branch ho.1 ho.2
    have hform : Rs.form (opposite x.op) = Rs.form x.op := by
      have f4 : ∀ op : Int, 24 ≤ op → op ≤ 27 → Rs.form op = 4 := by
        intro op g1 g2
        unfold Rs.form
        rw [if_neg (by omega), if_neg (by omega), if_neg (by omega), if_neg (by omega), if_pos (by omega)]
      rw [f4 _ ho.1 ho.2, f4 _ h2 h3]
    unfold Rs.Bad at h1 ⊢
    rw [hform, e1, e2]
    simp only [not_or, Bool.not_eq_false, Int.not_lt] at h1 ⊢
    obtain ⟨a1, a2, a3, a4, a5, a6, a7, a8⟩ := h1
    exact ⟨a1, a2, a3, a4, a5, a6, by omega, by omega⟩
  have hb2 : ¬ Rs.Bad 28 0 0 0 ((pl l (longs l) t : Int) - pl l (longs l) i - 1) := by
    refine not_bad_n (m := 0) (by decide +kernel) ?_ ?_
    · rw [show Rs.least 28 = -1048576 by decide]; omega
    · rw [show Rs.most 28 = 1048575 by decide]; omega
  have hbt : b = true := by
    have := (long_iff hx hk ht).2 hf
    rw [hb] at this
    injection this
  have hw : words x b (pl l (longs l) i) (far l (places0 l) x (pl l (longs l) i)) = [Rs.enc (opposite x.op) x.a x.b 0 2, Rs.enc 28 0 0 0 ((pl l (longs l) t : Int) - pl l (longs l) i - 1)] := by
    unfold places0
    rw [hfar, hbt]
    unfold words
    rw [hk]
    simp only [if_true]
    rw [show Rs.encW (opposite x.op) x.a x.b 0 2 = _ from if_neg hb1, show Rs.encW 28 0 0 0 ((pl l (longs l) t : Int) - pl l (longs l) i - 1) = _ from if_neg hb2]
    simp
  rw [hw] at hc
  have g0 := getD_split (ws := [Rs.enc (opposite x.op) x.a x.b 0 2, Rs.enc 28 0 0 0 ((pl l (longs l) t : Int) - pl l (longs l) i - 1)]) (post := post) (j := 0) hpre (by simp)
  have g1 := getD_split (ws := [Rs.enc (opposite x.op) x.a x.b 0 2, Rs.enc 28 0 0 0 ((pl l (longs l) t : Int) - pl l (longs l) i - 1)]) (post := post) (j := 1) hpre (by simp)
  rw [← hc] at g0 g1
  exact ⟨g1.2, by simpa using g0.1, hb1, by simpa using g1.1, hb2⟩
end As
end Go.Proofs.Ytbcpflogkniojaa
