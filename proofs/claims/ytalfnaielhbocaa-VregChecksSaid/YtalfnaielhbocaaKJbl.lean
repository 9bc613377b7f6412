/- The laws' arguments, opened: data. -/
import Derived.Test.YtalfnaielhbocaaKJbk
import Derived.Test.YtalfnaielhbocaaKJay
set_option linter.unusedVariables false
set_option linter.unusedSimpArgs false
set_option linter.unnecessarySimpa false
namespace Go.Proofs.Ytalfnaielhbocaa
open Go.ChangeShapes Go.WideShapes Go.Deep Go.RowKit
set_option linter.unusedVariables false
set_option linter.unusedSimpArgs false
section
variable {H : Type} {enc : TypeId × Value → H} {P : Program} {w : World} {base : Nat} {spare : Nat → Bool} {held : Bool}
theorem datumOne : ∀ fs, Try.prog.underlying 31 = some (.struct fs) → oneCellFields Try.prog fs = true ∧ Try.prog.cellsOf 31 = fs.size ∧ fs.size = 4 ∧ (fs[0]?.map (·.type)) = some 3 ∧ (fs[1]?.map (·.type)) = some 3 ∧ (fs[2]?.map (·.type)) = some 9 ∧ (fs[3]?.map (·.type)) = some 29 := by
  intro fs h
  rw [Try.underlying31] at h
  injection h with h
  injection h with h
  subst h
  exact ⟨by kernel_rfl, by kernel_rfl, rfl, rfl, rfl, rfl, rfl⟩
theorem field_at {fs : Array Field} {n : Nat} {cs : List Value} {xs : List (DataW H × List MemPlace)} (hone : oneCellFields P fs = true) (hcs : cs.length = fs.size)
    (hf : ∀ (i : Nat) (f : Field), fs[i]? = some f → DataW.trod enc P w base spare held n f.type ((cs.drop f.offset).take (P.cellsOf f.type)) = xs[i]?) (hl : xs.length = fs.size) {j : Nat} {t : TypeId} (ht : (fs[j]?.map (·.type)) = some t) :
    ∃ v y, cs[j]? = some v ∧ DataW.trod enc P w base spare held n t [v] = some y := by
  cases hj : fs[j]? with
  | none => rw [hj] at ht; simp at ht
  | some f =>
    rw [hj] at ht
    simp at ht
    obtain ⟨ho, hk⟩ := hone_of hone j f hj
    have hjl : j < fs.size := (Array.getElem?_eq_some_iff.1 hj).1
    have hv : cs[j]? = some (cs[j]'(by omega)) := List.getElem?_eq_getElem (by omega)
    have h1 := hf j f hj
    rw [ho, hk] at h1
    have hone' : (cs.drop j).take 1 = [cs[j]'(by omega)] := by
      rw [List.drop_eq_getElem_cons (by omega)]
      rfl
    rw [hone', ht, List.getElem?_eq_getElem (by omega)] at h1
    exact ⟨_, _, hv, h1⟩
set_option maxRecDepth 100000 in
theorem trod_datum : ∀ (fuel : Nat) (cs : List Value) (x : DataW H × List MemPlace), (∀ b, spare b = true) → DataW.trod enc Try.prog w base spare held fuel 31 cs = some x →
    ∃ (d : Dt) (lv : Value), cs = [.int .i64 d.kind, .int .i64 d.int, .string d.text, lv] ∧ DtAt w (fun _ => True) (.agg #[.int .i64 d.kind, .int .i64 d.int, .string d.text, lv]) d ∧ Dt.Fit d := by
  intro fuel
  induction fuel using Nat.strongRecOn with
  | ind fuel IH =>
    intro cs x hsp h
    have hu := Try.underlying31
    obtain ⟨hone, hC, hsz, h0, h1, h2, h3⟩ := datumOne _ hu
    obtain ⟨xs, n, hfu, hx, hcl, hxl, hf⟩ := DataW.trod_struct hu h
    have hcs4 : cs.length = 4 := by rw [hcl, hC, hsz]
    have hcsf := hcl.trans hC
    obtain ⟨v0, y0, c0, t0⟩ := field_at hone hcsf hf hxl h0
    obtain ⟨v1, y1, c1, t1⟩ := field_at hone hcsf hf hxl h1
    obtain ⟨v2, y2, c2, t2⟩ := field_at hone hcsf hf hxl h2
    obtain ⟨v3, y3, c3, t3⟩ := field_at hone hcsf hf hxl h3
    obtain ⟨k, g0, _, _⟩ := DataW.trod_int Try.underlying3 t0
    obtain ⟨i, g1, _, _⟩ := DataW.trod_int Try.underlying3 t1
    obtain ⟨t, g2, _, hts⟩ := DataW.trod_string Try.underlying9 t2
    simp at g0 g1 g2
    subst g0 g1 g2
    obtain ⟨u0, u1, u2, u3, rfl⟩ : ∃ a b c d, cs = [a, b, c, d] := by
      rcases cs with _ | ⟨a, _ | ⟨b, _ | ⟨c, _ | ⟨d, _ | ⟨e, cs⟩⟩⟩⟩⟩ <;> simp at hcs4
      exact ⟨a, b, c, d, rfl⟩
    simp at c0 c1 c2 c3
    subst c0 c1 c2 c3
    rcases DataW.trod_slice Try.underlying29 t3 with ⟨hv, _⟩ | ⟨a, len, cap, elems, rest, n2, hn2, hv, _, _, hle, hmax, hel, hall, hspare, _⟩
    · simp at hv
      subst hv
      exact ⟨.mk k i t [], _, rfl, .nil k i t, .mk k i t [] hts (by simp) (by simp)⟩
    · simp at hv
      subst hv
      obtain ⟨hrl, hrest⟩ := hspare (hsp _)
      have hcell : ∀ j, j < cap → ∃ cs', w.cells? base (a.add (j * 4)) 4 = some cs' ∧ ∃ y, DataW.trod enc Try.prog w base spare held n2 31 cs' = some y := by
        intro j hj
        have key : ∃ y, (w.cells? base (a.add (j * Try.prog.cellsOf 31)) (Try.prog.cellsOf 31)).bind (DataW.trod enc Try.prog w base spare held n2 31) = some y := by
          by_cases hjl : j < len
          · exact ⟨_, (hall j hjl).trans (List.getElem?_eq_getElem (by omega))⟩
          · have := hrest (j - len) (by omega)
            rw [show len + (j - len) = j by omega] at this
            exact ⟨_, this.trans (List.getElem?_eq_getElem (by omega))⟩
        obtain ⟨y, hy⟩ := key
        rw [hC, hsz] at hy
        obtain ⟨cs', hc', ht'⟩ := Option.bind_eq_some_iff.1 hy
        exact ⟨cs', hc', y, ht'⟩
      have hone2 : ∀ j, j < cap → ∃ q : Dt × Value, (w.cell? (a.add (j * 4)) = some (.int .i64 q.1.kind) ∧ w.cell? (a.add (j * 4 + 1)) = some (.int .i64 q.1.int) ∧ w.cell? (a.add (j * 4 + 2)) = some (.string q.1.text) ∧ w.cell? (a.add (j * 4 + 3)) = some q.2) ∧ DtAt w (fun _ => True) (.agg #[.int .i64 q.1.kind, .int .i64 q.1.int, .string q.1.text, q.2]) q.1 ∧ Dt.Fit q.1 := by
        intro j hj
        obtain ⟨cs', hc', y, ht'⟩ := hcell j hj
        obtain ⟨d, lv, rfl, hd, hfit⟩ := IH n2 (by omega) cs' y hsp ht'
        obtain ⟨_, _, hat⟩ := World.cells?_some hc'
        have e := fun r (hr : r < 4) => hat r hr
        refine ⟨(d, lv), ⟨?_, ?_, ?_, ?_⟩, hd, hfit⟩
        · have := e 0 (by omega); rw [Go.Deep.add_add] at this; simpa using this
        · have := e 1 (by omega); rw [Go.Deep.add_add] at this; simpa using this
        · have := e 2 (by omega); rw [Go.Deep.add_add] at this; simpa using this
        · have := e 3 (by omega); rw [Go.Deep.add_add] at this; simpa using this
      by_cases hc0 : cap = 0
      · subst hc0
        have : len = 0 := by omega
        subst this
        exact ⟨.mk k i t [], _, rfl, .nil k i t, .mk k i t [] hts (by simp) (by simp)⟩
      · obtain ⟨q0, hq0, _⟩ := hone2 0 (by omega)
        obtain ⟨b, off, spot⟩ := a
        have hspot : spot = none := by simpa [Addr.add] using World.cell?_spot hq0.1
        subst hspot
        have hbl : b < w.heap.size := by
          have := World.block_lt_of_cell? w _ hq0.1
          simpa [Addr.add] using this
        obtain ⟨l, hll, hl⟩ := list_upto (Dt.leaf 0 0 ⟨#[]⟩, Value.slice none 0 0) len _ (fun j hj => hone2 j (by omega))
        subst hll
        have hget : ∀ j (y : Dt), (l.map (·.1))[j]? = some y → ∃ q : Dt × Value, l[j]? = some q ∧ q.1 = y := fun j y hy => by
          rw [List.getElem?_map] at hy
          simpa using hy
        refine ⟨.mk k i t (l.map (·.1)), _, rfl, ?_, ?_⟩
        · have hlen : l.length = (l.map (·.1)).length := by simp
          rw [hlen]
          refine .row k i t b off cap _ (fun j => (l[j]?.map (·.2)).getD (.slice none 0 0)) trivial hbl (fun j y hy => ?_) (fun j y hy => ?_)
          · obtain ⟨q, hq, rfl⟩ := hget j y hy
            obtain ⟨⟨d0, d1, d2, d3⟩, _, _⟩ := hl j q hq
            rw [Go.WideShapes.add_plain] at d0 d1 d2 d3
            rw [hq]
            exact ⟨d0, by rw [Nat.add_assoc]; exact d1, by rw [Nat.add_assoc]; exact d2, by rw [Nat.add_assoc]; exact d3⟩
          · obtain ⟨q, hq, rfl⟩ := hget j y hy
            rw [hq]
            exact (hl j q hq).2.1
        · refine .mk k i t _ hts ?_ fun j y hy => ?_
          · rw [List.length_map]
            simp only [maxLen] at hmax
            omega
          · obtain ⟨q, hq, rfl⟩ := hget j y hy
            exact (hl j q hq).2.2
end
end Go.Proofs.Ytalfnaielhbocaa
