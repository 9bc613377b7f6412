/- The things of a heap stay well made through Do and Make, plainly. -/
import Derived.Test.YthbnhneibpoooaaQRJ
import Derived.Test.YthbnhneibpoooaaQMK
set_option linter.unusedVariables false
set_option linter.unusedSimpArgs false
set_option linter.unnecessarySimpa false
namespace Go.Proofs.Ythbnhneibpoooaa
open Go.RowKit
set_option linter.unusedVariables false
set_option linter.unusedSimpArgs false
namespace Hp
theorem may_mono {n k : Nat} {v : V} (h : may n v = true) (hn : n ≤ k) : may k v = true := by
  unfold may at *
  split
  · rename_i h3
    rw [if_pos h3] at h
    exact h
  · rename_i h3
    rw [if_neg h3] at h
    by_cases h8 : v.kind = 8
    · simp [h8] at h ⊢
      exact ⟨h.1, h.2.1, by omega⟩
    · simp [h8] at h ⊢
      exact h
theorem may_none (n : Nat) : may n none = true := by
  unfold may none
  simp
/-- A thing that may lie in a heap of so many. -/
structure WfTh (n : Nat) (t : Th) : Prop where
  kind : t.kind = 0 ∨ t.kind = 1 ∨ t.kind = 2 ∨ t.kind = 3 ∨ t.kind = 4
  pair : t.kind = 0 → t.parts.length = 2
  box : t.kind = 3 → t.parts.length = 1
  len : t.parts.length ≤ 1000
  may : ∀ p ∈ t.parts, Hp.may n p = true
theorem wf_iff (T : List Th) : WfT T ↔ ∀ t ∈ T, WfTh T.length t :=
  ⟨fun h t ht => ⟨h.kind t ht, h.pair t ht, h.box t ht, h.len t ht, h.may t ht⟩, fun h => ⟨fun t ht => (h t ht).kind, fun t ht => (h t ht).pair, fun t ht => (h t ht).box, fun t ht => (h t ht).len, fun t ht => (h t ht).may⟩⟩
theorem WfTh.mono {n k : Nat} {t : Th} (h : WfTh n t) (hn : n ≤ k) : WfTh k t := ⟨h.kind, h.pair, h.box, h.len, fun p hp => may_mono (h.may p hp) hn⟩
theorem wf_add {T : List Th} (h : WfT T) {t : Th} (ht : WfTh T.length t) : WfT (T ++ [t]) := by
  rw [wf_iff] at *
  intro u hu
  rw [List.length_append]
  rcases List.mem_append.1 hu with hu | hu
  · exact (h u hu).mono (by omega)
  · rw [List.mem_singleton.1 hu]
    exact ht.mono (by omega)
theorem kindOf_at {T : List Th} {v : V} (h : 0 ≤ kindOf T v) : ∃ t, T[v.int.toNat]? = some t ∧ kindOf T v = t.kind := by
  unfold kindOf at *
  split
  · rename_i h8
    rw [if_pos h8] at h
    split
    · rename_i t ht
      exact ⟨t, ht, rfl⟩
    · rename_i hn
      rw [hn] at h
      simp at h
  · rename_i h8
    rw [if_neg h8] at h
    simp at h
theorem wf_put {T : List Th} (h : WfT T) {v x : V} {i : Int} (hk : 0 ≤ kindOf T v) (hx : may T.length x = true) : WfT (putF T v i x).2.2 := by
  unfold putF
  split
  · obtain ⟨t, ht, e⟩ := kindOf_at hk
    have hp : partsOf T v = t.parts := by unfold partsOf; rw [ht]
    have hw := (wf_iff T).1 h t (List.mem_of_getElem? ht)
    rw [wf_iff]
    intro u hu
    rw [List.length_set]
    rcases List.mem_or_eq_of_mem_set hu with hu | rfl
    · exact (wf_iff T).1 h u hu
    · rw [hp, e]
      refine ⟨hw.kind, fun e0 => by simpa using hw.pair e0, fun e0 => by simpa using hw.box e0, by simpa using hw.len, fun p hp => ?_⟩
      rcases List.mem_or_eq_of_mem_set hp with hp | rfl
      · exact hw.may p hp
      · exact hx
  · exact h
theorem wf_fill {T : List Th} (h : WfT T) {kind k : Int} {v : V} (hk : kind = 1 ∨ kind = 2) (hv : may T.length v = true) : WfT (fillF T kind k v).2.2 := by
  unfold fillF
  split
  · exact h
  · refine wf_add h ⟨by show kind = 0 ∨ kind = 1 ∨ kind = 2 ∨ kind = 3 ∨ kind = 4; omega, fun e => ?_, fun e => ?_, by simp; omega, fun p hp => by rw [List.eq_of_mem_replicate hp]; exact hv⟩
    · have : kind = 0 := e
      omega
    · have : kind = 3 := e
      omega
theorem wf_make {T : List Th} (h : WfT T) (kind : Int) (l : List V) (hl2 : l.length ≤ 1000) : WfT (makeF T kind l).2.2 := by
  unfold makeF
  split
  · rename_i hm
    unfold makeOk sizeOk at hm
    rw [Bool.and_eq_true] at hm
    refine wf_add h ⟨?_, fun e => ?_, fun e => ?_, hl2, fun p hp => List.all_eq_true.1 hm.1 p hp⟩
    · show kind = 0 ∨ _
      have h2 := hm.2
      split at h2
      · exact .inl ‹_›
      split at h2
      · exact .inr (.inr (.inr (.inl ‹_›)))
      split at h2
      · exact .inr (.inl ‹_›)
      split at h2
      · exact .inr (.inr (.inl ‹_›))
      · exact .inr (.inr (.inr (.inr (of_decide_eq_true h2))))
    · have h2 := hm.2
      rw [if_pos (show kind = 0 from e)] at h2
      exact of_decide_eq_true h2
    · have h2 := hm.2
      have e3 : kind = 3 := e
      subst e3
      exact of_decide_eq_true (by simpa using h2)
  · exact h
theorem wf_get {T : List Th} (h : WfT T) (a : V) (i : Int) : WfT (getF T a i).2.2 := by
  unfold getF
  split <;> exact h
theorem getD_may {n : Nat} {l : List V} (hl : l.all (may n) = true) (k : Nat) : may n (l.getD k none) = true := by
  rw [List.getD_eq_getElem?_getD]
  cases h : l[k]? with
  | none => exact may_none n
  | some v => exact List.all_eq_true.1 hl v (List.mem_of_getElem? h)
theorem first_kind {T : List Th} {l : List V} {c : Int} {ls : List Int} (hlen : (c :: ls).length = l.length) (hok : allOk T l (c :: ls) = true) (hc : c = 112 ∨ c = 118 ∨ c = 115 ∨ c = 98) : 0 ≤ kindOf T (l.getD 0 none) := by
  cases l with
  | nil => simp at hlen
  | cons q l =>
    unfold allOk okAt isL at hok
    rcases hc with rfl | rfl | rfl | rfl
    all_goals
      simp at hok
      simp
      omega
theorem wf_do {T : List Th} (h : WfT T) (p : ByteArray) (l : List V) (hl2 : l.length ≤ 1000) : WfT (doF T p l).2.2 := by
  unfold doF
  split
  · rename_i x hx
    split
    · exact h
    rename_i h1
    split
    · exact h
    rename_i h2
    split
    · exact h
    rename_i h3
    have hm : l.all (may T.length) = true := by simpa using h2
    have hok : allOk T l x.letters = true := by simpa using h3
    have hlen : x.letters.length = l.length := by
      by_cases e : x.letters.length = l.length
      · exact e
      · exact absurd (.inr e) h1
    generalize (rat p 38).toNat = i at hx ⊢
    clear h1 h2 h3
    unfold actF
    split
    all_goals first
      | exact h
      | exact wf_get h _ _
      | (split <;> exact h)
      | exact wf_fill h (.inl rfl) (getD_may hm 1)
      | exact wf_fill h (.inr rfl) (getD_may hm 1)
      | skip
    all_goals
      simp only [tab, List.getElem?_cons_succ, List.getElem?_cons_zero, Option.some.injEq] at hx
      subst hx
    all_goals first
      | exact wf_put h (first_kind hlen hok (by decide)) (getD_may hm 1)
      | exact wf_put h (first_kind hlen hok (by decide)) (getD_may hm 2)
      | exact wf_add h ⟨.inl rfl, fun _ => hlen.symm, fun e => absurd (show (0 : Int) = 3 from e) (by decide), hl2, fun p hp => List.all_eq_true.1 hm p hp⟩
      | exact wf_add h ⟨.inr (.inr (.inr (.inl rfl))), fun e => absurd (show (3 : Int) = 0 from e) (by decide), fun _ => hlen.symm, hl2, fun p hp => List.all_eq_true.1 hm p hp⟩
  · exact h
end Hp
end Go.Proofs.Ythbnhneibpoooaa
