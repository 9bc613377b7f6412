/- HeapedKeeps: its argument opened; its walk, all of it. -/
import Derived.Test.YthbnhneibpoooaaQHpKs
import Derived.Test.YthbnhneibpoooaaQMM
import Derived.Laws.IdiomArrays
set_option linter.unusedVariables false
set_option linter.unusedSimpArgs false
set_option linter.unnecessarySimpa false
namespace Go.Proofs.Ythbnhneibpoooaa
open Go.ChangeShapes Go.WideShapes Go.Deep Go.RowKit
set_option linter.unusedVariables false
set_option linter.unusedSimpArgs false
section
variable {H : Type} {enc : TypeId × Value → H} {w : World} {base : Nat} {spare : Nat → Bool} {held : Bool}
set_option maxRecDepth 100000 in
/-- A slice of rows of three numbers, at any cell. -/
theorem trod_puts {fuel : Nat} {v : Value} {x : DataW H × List MemPlace} (hv : ∃ a n c, v = .slice a n c) (h : DataW.trod enc Try.prog w base spare held fuel 22 [v] = some x) :
    ∃ l, PSl w v l ∧ l.length ≤ 9223372036854775807 := by
  obtain ⟨a, n, c, rfl⟩ := hv
  have hC : Try.prog.cellsOf 33 = 3 := by kernel_rfl
  have hC1 : Try.prog.cellsOf 3 = 1 := by kernel_rfl
  rcases open_slice Try.underlying22 h with ⟨hcs, _⟩ | ⟨a', len', cap', m, _, D, Pl, hcs, _, hle, hmax, hm, _, hi⟩
  · simp at hcs
    obtain ⟨rfl, rfl, rfl⟩ := hcs
    exact ⟨[], ⟨none, 0, rfl, .inl rfl⟩, by simp⟩
  · simp at hcs
    obtain ⟨rfl, rfl, rfl⟩ := hcs
    have hml : n ≤ m := by rw [hm]; split <;> omega
    have key : ∀ i, i < n → ∃ q : Int × Int × Int, w.cell? (a'.add (i * 3)) = some (.int .i64 q.1) ∧ w.cell? (a'.add (i * 3 + 1)) = some (.int .i64 q.2.1) ∧ w.cell? (a'.add (i * 3 + 2)) = some (.int .i64 q.2.2) := by
      intro i hil
      obtain ⟨cs', hc, ht'⟩ := hi i (by omega)
      rw [hC] at hc
      obtain ⟨_, hcl, hat⟩ := World.cells?_some hc
      obtain ⟨c0, c1, c2, rfl⟩ : ∃ c0 c1 c2, cs' = [c0, c1, c2] := by
        rcases cs' with _ | ⟨c0, _ | ⟨c1, _ | ⟨c2, _ | ⟨c3, l⟩⟩⟩⟩
        · simp at hcl
        · simp at hcl
        · simp at hcl
        · exact ⟨c0, c1, c2, rfl⟩
        · simp at hcl
      obtain ⟨y0, y1, y2, k, _, t0, t1, t2⟩ := trod_array3 Try.underlying33 hC1 ht'
      obtain ⟨n0, g0, _, _⟩ := DataW.trod_int Try.underlying3 t0
      obtain ⟨n1, g1, _, _⟩ := DataW.trod_int Try.underlying3 t1
      obtain ⟨n2, g2, _, _⟩ := DataW.trod_int Try.underlying3 t2
      simp at g0 g1 g2
      subst g0 g1 g2
      have e0 := hat 0 (by omega)
      have e1 := hat 1 (by omega)
      have e2 := hat 2 (by omega)
      rw [Go.Deep.add_add] at e0 e1 e2
      exact ⟨(n0, n1, n2), by simpa using e0, by simpa using e1, by simpa using e2⟩
    obtain ⟨l, hll, hl⟩ := list_upto (0, 0, 0) n _ key
    subst hll
    refine ⟨l, ⟨_, _, rfl, ?_⟩, by unfold maxLen at hmax; omega⟩
    by_cases hl0 : l = []
    · exact .inl hl0
    · right
      obtain ⟨x0, hx0⟩ : ∃ x0, l[0]? = some x0 := ⟨_, List.getElem?_eq_getElem (List.length_pos_iff.2 hl0)⟩
      have h0 := (hl 0 x0 hx0).1
      obtain ⟨b, off, spot⟩ := a'
      have hspot : spot = none := by simpa [Addr.add] using World.cell?_spot h0
      subst hspot
      have hlt := World.block_lt_of_cell? w _ h0
      refine ⟨b, off, rfl, by simpa [Addr.add] using hlt, fun i q hq => ?_⟩
      obtain ⟨k0, k1, k2⟩ := hl i q hq
      rw [Go.WideShapes.add_plain] at k0 k1 k2
      exact ⟨k0, k1, k2⟩
set_option maxRecDepth 100000 in
theorem open_puts {r : Reach} {b0 : Nat} {v : Value} {d : DataW H} {ps : List MemPlace} (hval : Value.okWide Try.prog w r b0 22 v) (h : DataW.Trod enc Try.prog w base spare held 22 v d ps) :
    ∃ l, PSl w v l ∧ l.length ≤ 9223372036854775807 := by
  obtain ⟨a, len, cap, rfl⟩ := okWide_slice Try.underlying22 hval
  obtain ⟨fuel, hf⟩ := h
  exact trod_puts ⟨a, len, cap, rfl⟩ hf
end
set_option maxRecDepth 100000 in
theorem keeps_any (n k : Int) (pv : Value) (l : List (Int × Int × Int)) (w : World) (hp : PSl w pv l) (hlen : l.length ≤ 9223372036854775807) :
    Calls Try.prog 3 #[.int .i64 n, .int .i64 k, pv] w fun e w' => e = .returned (.bool true) ∧ Below w.heap.size w w' := by
  by_cases h : n < 0 ∨ 40 < n ∨ k < 0 ∨ 40 < k
  · exact keeps_out n k pv w h
  · obtain ⟨n', rfl⟩ : ∃ n' : Nat, n = n' := ⟨n.toNat, by omega⟩
    obtain ⟨k', rfl⟩ : ∃ k' : Nat, k = k' := ⟨k.toNat, by omega⟩
    exact keeps_in n' k' pv l w (by omega) (by omega) hp hlen
end Go.Proofs.Ythbnhneibpoooaa
