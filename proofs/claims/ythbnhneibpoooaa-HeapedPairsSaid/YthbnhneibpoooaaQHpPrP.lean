/- HeapedPairs' walk, for its proof. -/
import Derived.Test.YthbnhneibpoooaaQHpPrW
import Derived.Test.YthbnhneibpoooaaQHpOpd
set_option linter.unusedVariables false
set_option linter.unusedSimpArgs false
set_option linter.unnecessarySimpa false
namespace Go.Proofs.Ythbnhneibpoooaa
open Go.ChangeShapes Go.WideShapes Go.Deep Go.RowKit
set_option linter.unusedVariables false
set_option linter.unusedSimpArgs false
section
variable {H : Type} {enc : TypeId × Value → H} {P : Program} {w : World} {base : Nat} {spare : Nat → Bool} {held : Bool}
set_option maxRecDepth 100000 in
theorem trod_data (fuel : Nat) (v : Value) (x : DataW H × List MemPlace) (hsp : ∀ b, spare b = true) (h : DataW.trod enc Try.prog w base spare held fuel 46 [v] = some x) :
    ∃ (a : Option Addr) (c : Nat) (l : List Dt), v = .slice a l.length c ∧ DtAt w (fun _ => True) (.agg #[.int .i64 5, .int .i64 0, .string ⟨#[]⟩, v]) (.mk 5 0 ⟨#[]⟩ l) ∧ ∀ d ∈ l, Dt.Fit d := by
  have hu := Try.underlying48
  obtain ⟨hone, hC, hsz, _⟩ := datumOne _ hu
  rcases DataW.trod_slice Try.underlying46 h with ⟨hv, _⟩ | ⟨a, len, cap, elems, rest, n2, hn2, hv, _, _, hle, hmax, hel, hall, hspare, _⟩
  · simp at hv
    subst hv
    exact ⟨_, _, [], rfl, .nil 5 0 ⟨#[]⟩, by simp⟩
  · simp at hv
    subst hv
    obtain ⟨hrl, hrest⟩ := hspare (hsp _)
    have hcell : ∀ j, j < cap → ∃ cs', w.cells? base (a.add (j * 4)) 4 = some cs' ∧ ∃ y, DataW.trod enc Try.prog w base spare held n2 48 cs' = some y := by
      intro j hj
      have key : ∃ y, (w.cells? base (a.add (j * Try.prog.cellsOf 48)) (Try.prog.cellsOf 48)).bind (DataW.trod enc Try.prog w base spare held n2 48) = some y := by
        by_cases hjl : j < len
        · exact ⟨_, (hall j hjl).trans (List.getElem?_eq_getElem (by omega))⟩
        · have := hrest (j - len) (by omega)
          rw [show len + (j - len) = j by omega] at this
          exact ⟨_, this.trans (List.getElem?_eq_getElem (by omega))⟩
      obtain ⟨y, hy⟩ := key
      rw [hC, hsz] at hy
      obtain ⟨cs', hc', ht'⟩ := Option.bind_eq_some_iff.1 hy
      exact ⟨cs', hc', y, ht'⟩
    have hone2 : ∀ j, j < cap → ∃ q : Dt × Value, (w.cell? (a.add (j * 4)) = some (.int .i64 q.1.kind) ∧ w.cell? (a.add (j * 4 + 1)) = some (.int .i64 q.1.int) ∧ w.cell? (a.add (j * 4 + 2)) = some (.string q.1.text) ∧ w.cell? (a.add (j * 4 + 3)) = some q.2) ∧ DtAt w (fun _ => True) (.agg #[.int .i64 q.1.kind, .int .i64 q.1.int, .string q.1.text, q.2]) q.1 ∧ Dt.Fit q.1 := by
      intro j hj
      obtain ⟨cs', hc', y, ht'⟩ := hcell j hj
      obtain ⟨d, lv, rfl, hd, hfit⟩ := trod_datum n2 cs' y hsp ht'
      obtain ⟨_, _, hat⟩ := World.cells?_some hc'
      have e := fun r (hr : r < 4) => hat r hr
      refine ⟨(d, lv), ⟨?_, ?_, ?_, ?_⟩, hd, hfit⟩
      · have := e 0 (by omega); rw [Go.Deep.add_add] at this; simpa using this
      · have := e 1 (by omega); rw [Go.Deep.add_add] at this; simpa using this
      · have := e 2 (by omega); rw [Go.Deep.add_add] at this; simpa using this
      · have := e 3 (by omega); rw [Go.Deep.add_add] at this; simpa using this
    by_cases hc0 : cap = 0
    · subst hc0
      have : len = 0 := by omega
      subst this
      exact ⟨_, _, [], rfl, .nil 5 0 ⟨#[]⟩, by simp⟩
    · obtain ⟨q0, hq0, _⟩ := hone2 0 (by omega)
      obtain ⟨b, off, spot⟩ := a
      have hspot : spot = none := by simpa [Addr.add] using World.cell?_spot hq0.1
      subst hspot
      have hbl : b < w.heap.size := by
        have := World.block_lt_of_cell? w _ hq0.1
        simpa [Addr.add] using this
      obtain ⟨l, hll, hl⟩ := list_upto (Dt.leaf 0 0 ⟨#[]⟩, Value.slice none 0 0) len _ (fun j hj => hone2 j (by omega))
      subst hll
      have hget : ∀ j (y : Dt), (l.map (·.1))[j]? = some y → ∃ q : Dt × Value, l[j]? = some q ∧ q.1 = y := fun j y hy => by
        rw [List.getElem?_map] at hy
        simpa using hy
      have hlen : l.length = (l.map (·.1)).length := by simp
      refine ⟨_, _, l.map (·.1), by rw [← hlen], ?_, fun y hy => ?_⟩
      · rw [hlen]
        refine .row 5 0 ⟨#[]⟩ b off cap _ (fun j => (l[j]?.map (·.2)).getD (.slice none 0 0)) trivial hbl (fun j y hy => ?_) (fun j y hy => ?_)
        · obtain ⟨q, hq, rfl⟩ := hget j y hy
          obtain ⟨⟨d0, d1, d2, d3⟩, _, _⟩ := hl j q hq
          rw [Go.WideShapes.add_plain] at d0 d1 d2 d3
          rw [hq]
          exact ⟨d0, by rw [Nat.add_assoc]; exact d1, by rw [Nat.add_assoc]; exact d2, by rw [Nat.add_assoc]; exact d3⟩
        · obtain ⟨q, hq, rfl⟩ := hget j y hy
          rw [hq]
          exact (hl j q hq).2.1
      · obtain ⟨j, hj⟩ := List.getElem?_of_mem hy
        obtain ⟨q, hq, rfl⟩ := hget j y hj
        exact (hl j q hq).2.2
set_option maxRecDepth 100000 in
theorem open_data {r : Reach} {b0 : Nat} {v : Value} {d : DataW H} {ps : List MemPlace} (hval : Value.okWide Try.prog w r b0 46 v) (h : DataW.Trod enc Try.prog w base (fun _ => true) held 46 v d ps) :
    ∃ (a : Option Addr) (c : Nat) (l : List Dt), v = .slice a l.length c ∧ DtAt w (fun _ => True) (.agg #[.int .i64 5, .int .i64 0, .string ⟨#[]⟩, v]) (.mk 5 0 ⟨#[]⟩ l) ∧ ∀ d ∈ l, Dt.Fit d := by
  obtain ⟨a, len, cap, rfl⟩ := okWide_slice Try.underlying46 hval
  obtain ⟨fuel, hf⟩ := h
  exact trod_data fuel _ _ (fun _ => rfl) hf
end
theorem pairs_any (a : Option Addr) (c : Nat) (l : List Dt) (w : World) (hd : DtAt w (fun _ => True) (.agg #[.int .i64 5, .int .i64 0, .string ⟨#[]⟩, .slice a l.length c]) (.mk 5 0 ⟨#[]⟩ l)) (hf : ∀ d ∈ l, Dt.Fit d) :
    Calls Try.prog 8 #[.slice a l.length c] w fun e w' => e = .returned (.bool true) ∧ Below w.heap.size w w' := pairs_walk a c l w hd hf
end Go.Proofs.Ythbnhneibpoooaa
