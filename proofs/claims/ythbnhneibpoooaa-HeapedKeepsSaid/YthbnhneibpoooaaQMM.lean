/- The laws' arguments, opened: slices of values. -/
import Derived.Test.YthbnhneibpoooaaQMB
import Derived.Deep.Slices
import Derived.Deep.Fields
import Derived.ChangeSame
import Derived.OpenShut
set_option linter.unusedVariables false
set_option linter.unusedSimpArgs false
set_option linter.unnecessarySimpa false
namespace Go.Proofs.Ythbnhneibpoooaa
open Go.ChangeShapes Go.WideShapes Go.Deep Go.RowKit
set_option linter.unusedVariables false
set_option linter.unusedSimpArgs false
section
variable {H : Type} {enc : TypeId × Value → H} {P : Program} {w : World} {base : Nat} {spare : Nat → Bool} {held : Bool}
theorem open_slice_fields {t e : TypeId} {fs : Array Field} {fuel : Nat} {cs : List Value} {x : DataW H × List MemPlace} (ht : P.underlying t = some (.slice e)) (he : P.underlying e = some (.struct fs))
    (hone : oneCellFields P fs = true) (hC : P.cellsOf e = fs.size) (h : DataW.trod enc P w base spare held fuel t cs = some x) :
    (cs = [.slice none 0 0] ∧ x = (.nil, [])) ∨
    ∃ (a : Addr) (len cap m n : Nat) (D : Nat → DataW H) (Pl : Nat → List MemPlace), cs = [.slice (some a) len cap] ∧ base ≤ a.block ∧ len ≤ cap ∧ cap ≤ maxLen ∧ m = (if spare a.block then cap else len) ∧
      ∀ i, i < m → ∃ (n : Nat), 
        ∀ (j : Nat) (f : Field), fs[j]? = some f → ∃ (v : Value) (y : DataW H × List MemPlace), w.cell? (a.add (i * fs.size + j)) = some v ∧ DataW.trod enc P w base spare held n f.type [v] = some y := by
  rcases open_slice ht h with h0 | ⟨a, len, cap, m, n, D, Pl, hcs, hb, hl, hm, hmm, hx, hi⟩
  · exact .inl h0
  · refine .inr ⟨a, len, cap, m, n, D, Pl, hcs, hb, hl, hm, hmm, fun i him => ?_⟩
    obtain ⟨cs', hc, ht'⟩ := hi i him
    rw [hC] at hc
    obtain ⟨ys, n', hn', hy, hlen, hyl, hf⟩ := DataW.trod_struct he ht'
    obtain ⟨_, hcl, hat⟩ := World.cells?_some hc
    refine ⟨n', fun j f hj => ?_⟩
    obtain ⟨ho, hk⟩ := hone_of hone j f hj
    have hjl : j < fs.size := (Array.getElem?_eq_some_iff.1 hj).1
    have hcell := hat j hjl
    have hv : cs'[j]? = some (cs'[j]'(by omega)) := List.getElem?_eq_getElem (by omega)
    have h1 := hf j f hj
    rw [ho, hk] at h1
    have hone' : (cs'.drop j).take 1 = [cs'[j]'(by omega)] := by
      rw [List.drop_eq_getElem_cons (by omega)]
      rfl
    rw [hone'] at h1
    have hys : ys[j]? = some (ys[j]'(by omega)) := List.getElem?_eq_getElem (by omega)
    refine ⟨_, _, ?_, h1.trans hys⟩
    rw [← Go.Deep.add_add, hcell, hv]
theorem list_upto {α : Type} (d : α) (n : Nat) (q : Nat → α → Prop) (h : ∀ i, i < n → ∃ m, q i m) : ∃ l : List α, l.length = n ∧ ∀ (i : Nat) (x : α), l[i]? = some x → q i x := by
  induction n with
  | zero => exact ⟨[], rfl, fun i x hx => by simp at hx⟩
  | succ n ih =>
    obtain ⟨l, hl, hq⟩ := ih (fun i hi => h i (by omega))
    obtain ⟨m, hm⟩ := h n (by omega)
    refine ⟨l ++ [m], by simp [hl], fun i x hx => ?_⟩
    by_cases hin : i < n
    · rw [List.getElem?_append_left (by omega)] at hx
      exact hq i x hx
    · have hi : i < (l ++ [m]).length := (List.getElem?_eq_some_iff.1 hx).1
      have : i = n := by simp [hl] at hi; omega
      subst this
      rw [List.getElem?_append_right (by omega), hl] at hx
      simp at hx
      rw [← hx]
      exact hm
theorem valOne : ∀ fs, Try.prog.underlying 27 = some (.struct fs) → oneCellFields Try.prog fs = true ∧ Try.prog.cellsOf 27 = fs.size ∧ fs.size = 3 ∧ (fs[0]?.map (·.type)) = some 3 ∧ (fs[1]?.map (·.type)) = some 3 ∧ (fs[2]?.map (·.type)) = some 9 := by
  intro fs h
  rw [Try.underlying27] at h
  injection h with h
  injection h with h
  subst h
  exact ⟨by kernel_rfl, by kernel_rfl, rfl, rfl, rfl, rfl⟩
set_option maxRecDepth 100000 in
/-- A slice of values, at any cell. -/
theorem trod_vals {fuel : Nat} {v : Value} {x : DataW H × List MemPlace} (hv : ∃ a n c, v = .slice a n c) (h : DataW.trod enc Try.prog w base spare held fuel 32 [v] = some x) :
    ∃ l, VSl w v l ∧ (∀ y ∈ l, y.text.size ≤ maxLen) := by
  obtain ⟨a, n, c, rfl⟩ := hv
  have hu := Try.underlying27
  obtain ⟨h1, h2, h3, h4, h5, h6⟩ := valOne _ hu
  rcases open_slice_fields Try.underlying32 hu h1 h2 h with ⟨hcs, _⟩ | ⟨a', len', cap', m, _, D, Pl, hcs, _, hle, hmax, hm, hi⟩
  · simp at hcs
    obtain ⟨rfl, rfl, rfl⟩ := hcs
    exact ⟨[], ⟨none, 0, rfl, .inl ⟨rfl, rfl, rfl⟩⟩, by simp⟩
  · simp at hcs
    obtain ⟨rfl, rfl, rfl⟩ := hcs
    have hml : n ≤ m := by rw [hm]; split <;> omega
    have key : ∀ i, i < n → ∃ q : Hp.V, w.cell? (a'.add (i * 3)) = some (.int .i64 q.kind) ∧ w.cell? (a'.add (i * 3 + 1)) = some (.int .i64 q.int) ∧ w.cell? (a'.add (i * 3 + 2)) = some (.string q.text) ∧ q.text.size ≤ maxLen := by
      intro i hil
      obtain ⟨n', hfl⟩ := hi i (by omega)
      rw [h3] at hfl
      cases e0 : (_ : Array Field)[0]? with
      | none => rw [e0] at h4; simp at h4
      | some f0 =>
        cases e1 : (_ : Array Field)[1]? with
        | none => rw [e1] at h5; simp at h5
        | some f1 =>
          cases e2 : (_ : Array Field)[2]? with
          | none => rw [e2] at h6; simp at h6
          | some f2 =>
            rw [e0] at h4
            rw [e1] at h5
            rw [e2] at h6
            simp at h4 h5 h6
            obtain ⟨v0, y0, c0, t0⟩ := hfl 0 f0 e0
            obtain ⟨v1, y1, c1, t1⟩ := hfl 1 f1 e1
            obtain ⟨v2, y2, c2, t2⟩ := hfl 2 f2 e2
            rw [h4] at t0
            rw [h5] at t1
            rw [h6] at t2
            obtain ⟨n0, g0, _, _⟩ := DataW.trod_int Try.underlying3 t0
            obtain ⟨n1, g1, _, _⟩ := DataW.trod_int Try.underlying3 t1
            obtain ⟨s2, g2, _, hs2⟩ := DataW.trod_string Try.underlying9 t2
            simp at g0 g1 g2
            subst g0 g1 g2
            exact ⟨⟨n0, n1, s2⟩, by simpa using c0, c1, c2, hs2⟩
    obtain ⟨l, hll, hl⟩ := list_upto Hp.none n _ key
    subst hll
    refine ⟨l, ⟨_, _, rfl, .inr ⟨a', rfl, fun j u hu => ?_⟩⟩, fun y hy => ?_⟩
    · have hj := (List.getElem?_eq_some_iff.1 hu).1
      rw [Hp.flatV_length] at hj
      obtain ⟨q, r, rfl, hr⟩ : ∃ q r, j = q * 3 + r ∧ r < 3 := ⟨j / 3, j % 3, by omega, Nat.mod_lt _ (by decide)⟩
      obtain ⟨y, hy⟩ : ∃ y, l[q]? = some y := ⟨_, List.getElem?_eq_getElem (by omega)⟩
      obtain ⟨f0, f1, f2⟩ := Hp.flatV_at l q y hy
      obtain ⟨d0, d1, d2, _⟩ := hl q y hy
      rcases (by omega : r = 0 ∨ r = 1 ∨ r = 2) with rfl | rfl | rfl
      · rw [Nat.add_zero] at hu ⊢
        rw [f0] at hu
        cases hu
        exact d0
      · rw [f1] at hu
        cases hu
        exact d1
      · rw [f2] at hu
        cases hu
        exact d2
    · obtain ⟨q, hq⟩ := List.getElem?_of_mem hy
      exact (hl q y hq).2.2.2
set_option maxRecDepth 100000 in
theorem open_vals {r : Reach} {b0 : Nat} {v : Value} {d : DataW H} {ps : List MemPlace} (hval : Value.okWide Try.prog w r b0 32 v) (h : DataW.Trod enc Try.prog w base spare held 32 v d ps) :
    ∃ a cap l, v = .slice a l.length cap ∧ VSl w (.slice a l.length cap) l ∧ (∀ y ∈ l, y.text.size ≤ maxLen) := by
  obtain ⟨a, len, cap, rfl⟩ := okWide_slice Try.underlying32 hval
  obtain ⟨fuel, hf⟩ := h
  obtain ⟨l, h1, h2⟩ := trod_vals ⟨a, len, cap, rfl⟩ hf
  obtain ⟨a', c', e⟩ := h1.len
  simp at e
  obtain ⟨rfl, rfl, rfl⟩ := e
  exact ⟨_, _, l, rfl, h1, h2⟩
end
end Go.Proofs.Ythbnhneibpoooaa
