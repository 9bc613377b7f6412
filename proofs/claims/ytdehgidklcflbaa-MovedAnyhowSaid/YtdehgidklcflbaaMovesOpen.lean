/- An argument that is a slice of moves, opened. -/
import Derived.Test.YtdehgidklcflbaaFrame
import Derived.Test.YtdehgidklcflbaaMovesRef
import Derived.Deep.Slices
import Derived.Deep.Fields
import Derived.ChangeSame
namespace Go.Proofs.Ytdehgidklcflbaa
open Go.ChangeShapes Go.WideShapes Go.Deep Go.RowKit
section
variable {H : Type} {enc : TypeId × Value → H} {P : Program} {w : World} {base : Nat} {spare : Nat → Bool} {held : Bool}
theorem open_slice_fields {t e : TypeId} {fs : Array Field} {fuel : Nat} {cs : List Value} {x : DataW H × List MemPlace} (ht : P.underlying t = some (.slice e)) (he : P.underlying e = some (.struct fs))
    (hone : oneCellFields P fs = true) (hC : P.cellsOf e = fs.size) (h : DataW.trod enc P w base spare held fuel t cs = some x) :
    (cs = [.slice none 0 0] ∧ x = (.nil, [])) ∨
    ∃ (a : Addr) (len cap m : Nat) (D : Nat → DataW H) (Pl : Nat → List MemPlace), cs = [.slice (some a) len cap] ∧ base ≤ a.block ∧ len ≤ cap ∧ cap ≤ maxLen ∧ m = (if spare a.block then cap else len) ∧
      x = (.slice ((List.range len).map D) ((List.range (m - len)).map fun j => D (len + j)), MemPlace.row a (m * fs.size) ++ (List.range m).flatMap Pl) ∧
      ∀ i, i < m → ∃ (ys : List (DataW H × List MemPlace)) (n : Nat), D i = .agg (ys.map (·.1)) ∧ Pl i = ys.flatMap (·.2) ∧ ys.length = fs.size ∧
        ∀ (j : Nat) (f : Field), fs[j]? = some f → ∃ (v : Value) (y : DataW H × List MemPlace), w.cell? (a.add (i * fs.size + j)) = some v ∧ ys[j]? = some y ∧ DataW.trod enc P w base spare held n f.type [v] = some y := by
  rcases open_slice ht h with h0 | ⟨a, len, cap, m, n, D, Pl, hcs, hb, hl, hm, hmm, hx, hi⟩
  · exact .inl h0
  · refine .inr ⟨a, len, cap, m, D, Pl, hcs, hb, hl, hm, hmm, by rw [hC] at hx; exact hx, fun i him => ?_⟩
    obtain ⟨cs', hc, ht'⟩ := hi i him
    rw [hC] at hc
    obtain ⟨ys, n', hn', hy, hlen, hyl, hf⟩ := DataW.trod_struct he ht'
    obtain ⟨_, hcl, hat⟩ := World.cells?_some hc
    simp only [Prod.mk.injEq] at hy
    refine ⟨ys, n', hy.1, hy.2, hyl, fun j f hj => ?_⟩
    obtain ⟨ho, hk⟩ := hone_of hone j f hj
    have hjl : j < fs.size := (Array.getElem?_eq_some_iff.1 hj).1
    have hcell := hat j hjl
    have hv : cs'[j]? = some (cs'[j]'(by omega)) := List.getElem?_eq_getElem (by omega)
    have h1 := hf j f hj
    rw [ho, hk] at h1
    have hone' : (cs'.drop j).take 1 = [cs'[j]'(by omega)] := by
      rw [List.drop_eq_getElem_cons (by omega)]
      rfl
    rw [hone'] at h1
    have hys : ys[j]? = some (ys[j]'(by omega)) := List.getElem?_eq_getElem (by omega)
    refine ⟨_, _, ?_, hys, h1.trans hys⟩
    rw [← Go.Deep.add_add, hcell, hv]

theorem moveOne : ∀ fs, Try.prog.underlying 30 = some (.struct fs) → oneCellFields Try.prog fs = true ∧ Try.prog.cellsOf 30 = fs.size ∧ fs.size = 2 ∧ (fs[0]?.map (·.type)) = some 3 ∧ (fs[1]?.map (·.type)) = some 3 := by
  intro fs h
  rw [Try.underlying30] at h
  injection h with h
  injection h with h
  subst h
  exact ⟨by kernel_rfl, by kernel_rfl, rfl, rfl, rfl⟩

theorem list_of (n : Nat) (q : Nat → Int × Int → Prop) (h : ∀ i, i < n → ∃ m, q i m) : ∃ l : List (Int × Int), l.length = n ∧ ∀ i, i < n → q i (l.getD i (0, 0)) := by
  induction n with
  | zero => exact ⟨[], rfl, fun i hi => by omega⟩
  | succ n ih =>
    obtain ⟨l, hl, hq⟩ := ih (fun i hi => h i (by omega))
    obtain ⟨m, hm⟩ := h n (by omega)
    refine ⟨l ++ [m], by simp [hl], fun i hi => ?_⟩
    by_cases hin : i < n
    · have := hq i hin
      rw [List.getD_eq_getElem?_getD, List.getElem?_append_left (by omega), ← List.getD_eq_getElem?_getD]
      exact this
    · have : i = n := by omega
      subst this
      rw [List.getD_eq_getElem?_getD, List.getElem?_append_right (by omega), hl]
      simpa using hm

theorem open_moves {r : Reach} {b0 : Nat} {v : Value} {d : DataW H} {ps : List MemPlace} (hval : Value.okWide Try.prog w r b0 22 v) (h : DataW.Trod enc Try.prog w base spare held 22 v d ps) :
    ∃ a cap l, v = .slice a l.length cap ∧ MSl w (.slice a l.length cap) l ∧ l.length ≤ 9223372036854775807 := by
  obtain ⟨a, len, cap, rfl⟩ := okWide_slice Try.underlying22 hval
  obtain ⟨fuel, hf⟩ := h
  have hu := Try.underlying30
  obtain ⟨h1, h2, h3, h4, h5⟩ := moveOne _ hu
  rcases open_slice_fields Try.underlying22 hu h1 h2 hf with ⟨hcs, _⟩ | ⟨a', len', cap', m, D, Pl, hcs, _, hle, hmax, hm, _, hi⟩
  · simp [Value.cells] at hcs
    obtain ⟨rfl, rfl, rfl⟩ := hcs
    exact ⟨none, 0, [], rfl, ⟨none, 0, rfl, .inl rfl⟩, by simp⟩
  · simp [Value.cells] at hcs
    obtain ⟨rfl, rfl, rfl⟩ := hcs
    have hml : len ≤ m := by rw [hm]; split <;> omega
    have hcells : ∀ i, i < len → ∃ q : Int × Int, w.cell? (a'.add (i * 2)) = some (.int .i64 q.1) ∧ w.cell? (a'.add (i * 2 + 1)) = some (.int .i64 q.2) := by
      intro i hil
      obtain ⟨ys, n, _, _, _, hfl⟩ := hi i (by omega)
      rw [h3] at hfl
      cases e0 : (_ : Array Field)[0]? with
      | none => rw [e0] at h4; simp at h4
      | some f0 =>
        cases e1 : (_ : Array Field)[1]? with
        | none => rw [e1] at h5; simp at h5
        | some f1 =>
          rw [e0] at h4
          rw [e1] at h5
          simp at h4 h5
          obtain ⟨v0, y0, hc0, _, ht0⟩ := hfl 0 f0 e0
          obtain ⟨v1, y1, hc1, _, ht1⟩ := hfl 1 f1 e1
          rw [h4] at ht0
          rw [h5] at ht1
          obtain ⟨n0, hv0, _, _⟩ := DataW.trod_int Try.underlying3 ht0
          obtain ⟨n1, hv1, _, _⟩ := DataW.trod_int Try.underlying3 ht1
          simp at hv0 hv1
          subst hv0; subst hv1
          exact ⟨(n0, n1), hc0, hc1⟩
    obtain ⟨l, hl, hq⟩ := list_of len _ hcells
    subst hl
    refine ⟨some a', cap, l, rfl, ⟨some a', cap, rfl, ?_⟩, ?_⟩
    · by_cases hne : l = []
      · exact .inl hne
      · have hpos : 0 < l.length := List.length_pos_iff.2 hne
        obtain ⟨b, off, spot⟩ := a'
        have hspot : spot = none := by simpa [Addr.add] using World.cell?_spot (hq 0 hpos).1
        subst hspot
        refine .inr ⟨b, off, rfl, ?_, fun j hj => ?_⟩
        · have := World.block_lt_of_cell? w _ (hq 0 hpos).1
          simpa [Addr.add] using this
        · have := hq j hj
          rw [Go.WideShapes.add_plain, Go.WideShapes.add_plain] at this
          rw [Nat.add_assoc]
          exact this
    · simp only [maxLen] at hmax
      omega
end
end Go.Proofs.Ytdehgidklcflbaa
