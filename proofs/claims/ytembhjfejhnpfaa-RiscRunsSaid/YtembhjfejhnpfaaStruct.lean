/- Arguments that are structs of one-cell fields, opened. -/
import Derived.Test.YtembhjfejhnpfaaFrame
import Derived.Test.YtembhjfejhnpfaaSl
import Derived.Test.YtembhjfejhnpfaaRiscSpec
import Derived.Test.YtembhjfejhnpfaaRiscRun
import Derived.Deep.Slices
import Derived.Deep.Fields
import Derived.ChangeSame
import Derived.WideShapes
namespace Go.Proofs.Ytembhjfejhnpfaa
open Go.ChangeShapes Go.WideShapes Go.Deep Go.RowKit
set_option linter.unusedSimpArgs false
set_option linter.unusedVariables false
section
variable {H : Type} {enc : TypeId × Value → H} {P : Program} {w : World} {base : Nat} {spare : Nat → Bool} {held : Bool}
theorem open_struct {r : Reach} {b0 : Nat} {t : TypeId} {fs : Array Field} {v : Value} {d : DataW H} {ps : List MemPlace} (ht : P.underlying t = some (.struct fs)) (hone : oneCellFields P fs = true) (hC : P.cellsOf t = fs.size)
    (hval : Value.okWide P w r b0 t v) (h : DataW.Trod enc P w base spare held t v d ps) :
    ∃ (cs : Array Value) (n : Nat), v = .agg cs ∧ cs.size = fs.size ∧ ∀ (j : Nat) (f : Field), fs[j]? = some f → ∃ (u : Value) (y : DataW H × List MemPlace), cs[j]? = some u ∧ DataW.trod enc P w base spare held n f.type [u] = some y := by
  obtain ⟨cs, rfl, hsz⟩ := okWide_struct ht hval
  obtain ⟨fuel, hf⟩ := h
  obtain ⟨ys, n, _, _, hl, hyl, hfl⟩ := DataW.trod_struct ht hf
  refine ⟨cs, n, rfl, by omega, fun j f hj => ?_⟩
  obtain ⟨ho, hk⟩ := hone_of hone j f hj
  have hjl : j < fs.size := (Array.getElem?_eq_some_iff.1 hj).1
  have h1 := hfl j f hj
  rw [ho, hk] at h1
  have hjc : j < cs.toList.length := by simp; omega
  have hc' : ((Value.agg cs).cells.toList.drop j).take 1 = [cs.toList[j]'hjc] := by
    show (cs.toList.drop j).take 1 = _
    rw [List.drop_eq_getElem_cons hjc]
    rfl
  have hc2 : (List.drop j (Value.agg cs).cells.toList).take 1 = [cs.toList[j]'hjc] := hc'
  have hys : ys[j]? = some (ys[j]'(by omega)) := List.getElem?_eq_getElem (by omega)
  refine ⟨cs.toList[j]'hjc, ys[j]'(by omega), ?_, ?_⟩
  · rw [Array.getElem?_eq_getElem (by omega)]; simp
  · rw [← hc2]; exact h1.trans hys
/-- A slice of integers of one kind. -/
theorem open_ints {t e : TypeId} {k : IntKind} {fuel : Nat} {v : Value} {x : DataW H × List MemPlace} (ht : P.underlying t = some (.slice e)) (he : P.underlying e = some (.int k)) (hc : P.cellsOf e = 1) (h : DataW.trod enc P w base spare held fuel t [v] = some x) :
    ∃ l : List Int, Sl w v (l.map (Value.int k)) ∧ ∀ z ∈ l, (Lit.int k z).wf = true := by
  rcases open_slice1 ht hc h with ⟨h1, _⟩ | ⟨a, len, cap, m, n, V, D, Pl, h1, _, hle, _, hm, _, hx⟩
  · simp at h1
    subst h1
    exact ⟨[], ⟨none, 0, rfl, .inl ⟨rfl, rfl, rfl⟩⟩, by simp⟩
  · simp at h1
    subst h1
    have hml : len ≤ m := by rw [hm]; split <;> omega
    have key : ∀ i, i < len → ∃ z : Int, w.cell? (a.add i) = some (.int k z) ∧ (Lit.int k z).wf = true := by
      intro i hi
      obtain ⟨h2, h3⟩ := hx i (by omega)
      obtain ⟨z, hz, _, hw⟩ := DataW.trod_int he h3
      simp at hz
      exact ⟨z, by rw [h2, hz], hw⟩
    obtain ⟨f, hf⟩ := choose_lt key
    refine ⟨(List.range len).map f, ⟨some a, cap, by simp, .inr ⟨a, rfl, fun j u hj => ?_⟩⟩, fun z hz => ?_⟩
    · simp only [List.getElem?_map] at hj
      by_cases hl : j < len
      · rw [List.getElem?_range hl] at hj
        simp at hj
        rw [(hf j hl).1, hj]
      · rw [List.getElem?_eq_none (by simp; omega)] at hj
        cases hj
    · obtain ⟨i, hi, rfl⟩ := List.mem_map.1 hz
      exact (hf i (List.mem_range.1 hi)).2
end
theorem instrFields : ∀ fs, Try.prog.underlying 23 = some (.struct fs) → oneCellFields Try.prog fs = true ∧ Try.prog.cellsOf 23 = fs.size ∧ fs.size = 5 ∧ ∀ j, j < 5 → (fs[j]?.map (·.type)) = some 3 := by
  intro fs h
  rw [Try.underlying23] at h
  injection h with h
  injection h with h
  subst h
  exact ⟨by kernel_rfl, by kernel_rfl, rfl, by decide⟩
theorem imageFields : ∀ fs, Try.prog.underlying 35 = some (.struct fs) → oneCellFields Try.prog fs = true ∧ Try.prog.cellsOf 35 = fs.size ∧ fs.size = 3 ∧ (fs[0]?.map (·.type)) = some 32 ∧ (fs[1]?.map (·.type)) = some 33 ∧ (fs[2]?.map (·.type)) = some 3 := by
  intro fs h
  rw [Try.underlying35] at h
  injection h with h
  injection h with h
  subst h
  exact ⟨by kernel_rfl, by kernel_rfl, rfl, rfl, rfl, rfl⟩
section
variable {H : Type} {enc : TypeId × Value → H} {w : World} {base : Nat} {spare : Nat → Bool} {held : Bool}
theorem get_some {α β : Type} {o : Option α} {f : α → β} {b : β} (h : o.map f = some b) : ∃ a, o = some a ∧ f a = b := by cases o with
  | none => cases h
  | some a => exact ⟨a, rfl, by simpa using h⟩
theorem open_instr {r : Reach} {b0 : Nat} {v : Value} {d : DataW H} {ps : List MemPlace} (hval : Value.okWide Try.prog w r b0 23 v) (h : DataW.Trod enc Try.prog w base spare held 23 v d ps) :
    ∃ x0 x1 x2 x3 x4 : Int, v = .agg #[.int .i64 x0, .int .i64 x1, .int .i64 x2, .int .i64 x3, .int .i64 x4] := by
  have hu := Try.underlying23
  obtain ⟨h1, h2, h3, h4⟩ := instrFields _ hu
  obtain ⟨cs, n, rfl, hsz, hf⟩ := open_struct hu h1 h2 hval h
  have key : ∀ j, j < 5 → ∃ z : Int, cs[j]? = some (.int .i64 z) := by
    intro j hj
    obtain ⟨f, hf1, hf2⟩ := get_some (h4 j hj)
    obtain ⟨u, y, hu1, hu2⟩ := hf j f hf1
    rw [hf2] at hu2
    obtain ⟨z, hz, _, _⟩ := DataW.trod_int Try.underlying3 hu2
    simp at hz
    exact ⟨z, by rw [hu1, hz]⟩
  obtain ⟨x0, k0⟩ := key 0 (by omega)
  obtain ⟨x1, k1⟩ := key 1 (by omega)
  obtain ⟨x2, k2⟩ := key 2 (by omega)
  obtain ⟨x3, k3⟩ := key 3 (by omega)
  obtain ⟨x4, k4⟩ := key 4 (by omega)
  refine ⟨x0, x1, x2, x3, x4, ?_⟩
  congr 1
  refine Array.ext_getElem? (fun i => ?_)
  rcases (by omega : i = 0 ∨ i = 1 ∨ i = 2 ∨ i = 3 ∨ i = 4 ∨ 5 ≤ i) with rfl | rfl | rfl | rfl | rfl | hi
  · exact k0
  · exact k1
  · exact k2
  · exact k3
  · exact k4
  · rw [Array.getElem?_eq_none (by omega), Array.getElem?_eq_none (by simp; omega)]
theorem open_image {r : Reach} {b0 : Nat} {v : Value} {d : DataW H} {ps : List MemPlace} (hval : Value.okWide Try.prog w r b0 35 v) (h : DataW.Trod enc Try.prog w base spare held 35 v d ps) :
    ∃ (vc vm : Value) (code mem : List Int) (words : Int), v = .agg #[vc, vm, .int .i64 words] ∧ Sl w vc (u32s code) ∧ Sl w vm (i64s mem) ∧ (∀ x ∈ code, 0 ≤ x ∧ x < 4294967296) ∧ (∀ x ∈ mem, Rs.InR x) ∧ Rs.InR words := by
  have hu := Try.underlying35
  obtain ⟨h1, h2, h3, h4, h5, h6⟩ := imageFields _ hu
  obtain ⟨cs, n, rfl, hsz, hf⟩ := open_struct hu h1 h2 hval h
  obtain ⟨f0, a0, b0⟩ := get_some h4
  obtain ⟨f1, a1, b1⟩ := get_some h5
  obtain ⟨f2, a2, b2⟩ := get_some h6
  obtain ⟨vc, y0, c0, d0⟩ := hf 0 f0 a0
  obtain ⟨vm, y1, c1, d1⟩ := hf 1 f1 a1
  obtain ⟨vw, y2, c2, d2⟩ := hf 2 f2 a2
  rw [b0] at d0
  rw [b1] at d1
  rw [b2] at d2
  obtain ⟨words, hz, _, hw⟩ := DataW.trod_int Try.underlying3 d2
  simp at hz
  subst hz
  obtain ⟨code, s0, r0⟩ := open_ints Try.underlying32 Try.underlying24 (by kernel_rfl) d0
  obtain ⟨mem, s1, r1⟩ := open_ints Try.underlying33 Try.underlying3 (by kernel_rfl) d1
  have hr : ∀ z : Int, (Lit.int .i64 z).wf = true → Rs.InR z := by
    intro z hz
    simp only [Lit.wf, Bool.and_eq_true, decide_eq_true_eq] at hz
    exact ⟨hz.1, hz.2⟩
  refine ⟨vc, vm, code, mem, words, ?_, s0, s1, fun x hx => ?_, fun x hx => hr x (r1 x hx), hr _ hw⟩
  · congr 1
    refine Array.ext_getElem? (fun i => ?_)
    rcases (by omega : i = 0 ∨ i = 1 ∨ i = 2 ∨ 3 ≤ i) with rfl | rfl | rfl | hi
    · exact c0
    · exact c1
    · exact c2
    · rw [Array.getElem?_eq_none (by omega), Array.getElem?_eq_none (by simp; omega)]
  · have := r0 x hx
    simp only [Lit.wf, Bool.and_eq_true, decide_eq_true_eq] at this
    have h1 : (0 : Int) ≤ x := this.1
    have h2 : x ≤ 4294967295 := this.2
    omega
end
end Go.Proofs.Ytembhjfejhnpfaa
