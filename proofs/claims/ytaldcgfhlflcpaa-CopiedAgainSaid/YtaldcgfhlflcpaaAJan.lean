/- Run: laws of the world around the loop. -/
import Derived.Laws.IdiomStrings
import Derived.Deep.MidRow
import Derived.Deep.Onto
import Derived.Laws.CopyOwn
import Derived.Test.YtaldcgfhlflcpaaAJak
import Derived.Test.YtaldcgfhlflcpaaAJam
import Derived.Test.YtaldcgfhlflcpaaRows
import Derived.WalkKit
import Derived.Lib.AppendZerosOnto
import Derived.Laws.AppendOwn
import Derived.Maps.AppendAt
set_option linter.unusedVariables false
set_option linter.unusedSimpArgs false
set_option linter.unnecessarySimpa false
namespace Go.Proofs.Ytaldcgfhlflcpaa
open Go.RowKit
set_option maxRecDepth 100000
set_option linter.unusedVariables false
set_option linter.unusedSimpArgs false
theorem Sl.drew {w : World} {v : Value} {xs : List Value} (h : Sl w v xs) : Sl w.drew v xs := h
def cellOr (w : World) (p : Addr) : Value := (w.cell? p).getD undef
theorem cellOr_of {w : World} {p : Addr} {v : Value} (h : w.cell? p = some v) : w.cell? p = some (cellOr w p) := by unfold cellOr; rw [h]; rfl
abbrev RunS (b : Nat) (v0 v1 v2 : Value) (w' : World) : Prop :=
  w'.cell? ⟨b, 0, none⟩ = some v0 ∧ w'.cell? ⟨b, 1, none⟩ = some v1 ∧ w'.cell? ⟨b, 2, none⟩ = some v2 ∧ w'.cell? ⟨b + 1 + 1, 37, none⟩ = some (cellOr w' ⟨b + 1 + 1, 37, none⟩) ∧ w'.frozen? ⟨b + 1 + 1, 37, none⟩ = false
theorem RunS.of {b : Nat} {v0 v1 v2 : Value} {w w' : World} (h : RunS b v0 v1 v2 w) (hk : ∀ k, k < b + 3 → w'.heap[k]? = w.heap[k]?) : RunS b v0 v1 v2 w' := by
  obtain ⟨h0, h1, h2, h3, h4⟩ := h
  have e : ∀ (j k : Nat), k < b + 3 → w'.cell? ⟨k, j, none⟩ = w.cell? ⟨k, j, none⟩ := fun j k h => World.cell?_of_block (hk k h)
  have f : ∀ (j k : Nat), k < b + 3 → w'.frozen? ⟨k, j, none⟩ = w.frozen? ⟨k, j, none⟩ := fun j k h => World.frozen?_of_block (hk k h)
  exact ⟨(e _ _ (by omega)).trans h0, (e _ _ (by omega)).trans h1, (e _ _ (by omega)).trans h2, cellOr_of ((e _ _ (by omega)).trans h3), (f _ _ (by omega)).trans h4⟩
theorem RunS.set {b : Nat} {v0 v1 v2 v : Value} {w : World} (h : RunS b v0 v1 v2 w) : RunS b v0 v1 v2 (w.setCell ⟨b + 1 + 1, 37, none⟩ v) := by
  obtain ⟨h0, h1, h2, h3, h4⟩ := h
  have hb := World.block_lt_of_cell? w _ h3
  have e : ∀ j, (w.setCell ⟨b + 1 + 1, 37, none⟩ v).cell? ⟨b, j, none⟩ = w.cell? ⟨b, j, none⟩ := fun j => World.cell?_of_block (heap_setCell_other w ⟨b + 1 + 1, 37, none⟩ b v (by show b ≠ b + 1 + 1; omega))
  refine ⟨(e _).trans h0, (e _).trans h1, (e _).trans h2, ?_, ?_⟩
  · obtain ⟨u, hu⟩ : ∃ u, (w.setCell ⟨b + 1 + 1, 37, none⟩ v).cell? ⟨b + 1 + 1, 37, none⟩ = some u := ⟨v, by simp [World.cell?_setCell_same, h3]⟩
    exact cellOr_of hu
  · simp [h4]
theorem string_of_own {w : World} {B : Nat} {ov : Value} {out : List UInt8} (h : w.ownsRow B 5 1 ov out.length (out.map fun x => Value.int .u8 x.toNat)) :
    (convert 77 9 ov).run Try.prog w = .ok (.string ⟨out.toArray⟩) w := by
  have hu : Try.prog.underlying 5 = some (.int .u8) := by kernel_rfl
  have hs : Try.prog.underlying 9 = some .string := by kernel_rfl
  rcases own_shape h with ⟨rfl, h1, h2⟩ | ⟨g, cap, rfl, h1, h2, h3, h4⟩
  · have ho : out = [] := List.eq_nil_of_length_eq_zero h1
    subst ho
    rw [run_convert_bytes_string w _ _ 5 none 0 0 Try.underlying77 hu hs]
    simp [Conv.bytesToString]
    rfl
  · refine run_convert_bytes_back w _ _ 5 _ cap out Try.underlying77 hu hs (fun j hj => ?_)
    refine h.cells (g := g) rfl j _ ?_
    rw [List.getElem?_map, List.getElem?_eq_getElem hj]
    rfl
theorem halt_range {B : Bd} {g T : Nat} {w : World} {st : Int} {m : Rs.M} {mv ov : Value} (h : MSt B w g T st m mv ov) : (w.setCell ⟨g, 2, none⟩ (.string ⟨m.out.toArray⟩)).rangeAt g 0 (Rs.halt st m mv) := by
  intro j v hj
  have hb : (w.setCell ⟨g, 2, none⟩ (.string ⟨m.out.toArray⟩)).heap[g]? = _ := heap_setCell_same w g 2 _ T (.string ⟨m.out.toArray⟩) h.blk
  rw [cell_of_row _ g _ _ T (0, 0) hb]
  have hl : Rs.halt st m mv ++ [.string ⟨m.inp.toArray⟩, ov] = (Rs.cells st m mv ov).set 2 (.string ⟨m.out.toArray⟩) := by simp [Rs.halt, Rs.cells]
  have hlt : j < (Rs.halt st m mv).length := (List.getElem?_eq_some_iff.1 hj).1
  simp only [List.setIfInBounds_toArray, List.getElem?_toArray, Nat.zero_add]
  rw [← hl, List.getElem?_append_left hlt]
  exact hj
theorem halt_len {st : Int} {m : Rs.M} {mv : Value} (h : Rs.Ok m) : (Rs.halt st m mv).length = 38 := by simp [Rs.halt, h.regs]
theorem halt_one {st : Int} {m : Rs.M} {mv : Value} (h : mv.oneCell' = true) : (Rs.halt st m mv).toArray.all (·.oneCell') = true := by
  rw [List.all_toArray, List.all_eq_true]
  intro u hu
  simp only [Rs.halt, List.mem_cons, List.mem_append, List.mem_map, List.mem_singleton, List.not_mem_nil, or_false] at hu
  rcases hu with rfl | rfl | rfl | rfl | rfl | ⟨z, _, rfl⟩ | rfl
  all_goals first | rfl | exact h
theorem halt_one' {st : Int} {m : Rs.M} {mv : Value} (h : mv.oneCell' = true) : ∀ v ∈ Rs.halt st m mv, v.oneCell' = true := by
  have := halt_one (st := st) (m := m) h
  rw [List.all_toArray, List.all_eq_true] at this
  exact this
theorem own_one {w : World} {B e n : Nat} {v : Value} {xs : List Value} (h : w.ownsRow B e 1 v n xs) : v.oneCell' = true := by
  rcases own_shape h with ⟨rfl, _⟩ | ⟨g, cap, rfl, _⟩ <;> rfl
theorem run_res {B k t : Nat} {W V : World} {cs : Array Value} {fr : Nat × Nat} (h : W.heap[k]? = some (.cells cs t fr)) (hb : Below B W V) (hk : k < B) {u : Nat} {x : Value} {g : Nat} (hg : k ≠ g) : (V.setCell ⟨g, u, none⟩ x).heap[k]? = some (.cells cs t fr) := by
  rw [heap_setCell_other _ _ _ _ (show k ≠ (⟨g, u, none⟩ : Addr).block from hg), hb.block k hk]
  exact h
theorem haltD : ∃ d, Try.prog.underlying 36 = some d ∧ d.isRow = true := by
  have h : (Try.prog.underlying 36).map TypeDesc.isRow = some true := by kernel_rfl
  cases hq : Try.prog.underlying 36 with
  | none => rw [hq] at h; cases h
  | some d => rw [hq] at h; exact ⟨d, rfl, by simpa using h⟩
theorem results_cell {P : Program} {fn : Func} {p : Tmp} {ty : TypeId} (h : fn.results = #[.cell p ty]) (tmps : Array Value) (w : World) (g : Nat) (t : TypeId) (cs : Array Value) (fr : Nat × Nat) (d : TypeDesc)
    (hp : tmps.getD p undef = .pointer (some ⟨g, 0, none⟩)) (hg : w.heap[g]? = some (.cells cs t fr)) (hu : P.underlying ty = some d) (hd : d.isRow = true) (hi : (P.info? ty).map (·.size) = some cs.size) :
    (results fn tmps).run P w = .ok (.agg cs) w := by
  cases d with
  | struct f => exact results_cell_row h tmps w g t cs fr _ hp hg hu rfl hi
  | array a b => exact results_cell_row h tmps w g t cs fr _ hp hg hu rfl hi
  | _ => simp [TypeDesc.isRow] at hd
theorem store_all {P : Program} (w : World) (g t : Nat) (old : Array Value) (cs : List Value) (hg : w.heap[g]? = some (.cells old t (0, 0))) (ho : old.size = cs.length) (h1 : ∀ v ∈ cs, v.oneCell' = true) :
    (storeCells ⟨g, 0, none⟩ cs).run P w = .ok () (w.setRow g cs.toArray) := by
  have := run_storeCells_from (P := P) g t cs 0 old w hg (by omega) h1
  simpa [ho] using this
abbrev DecS (p0 p1 p2 : Addr) (v0 v1 v2 : Value) (w' : World) : Prop := w'.cell? p0 = some v0 ∧ w'.cell? p1 = some v1 ∧ w'.cell? p2 = some v2
theorem DecS.below {p0 p1 p2 : Addr} {v0 v1 v2 : Value} {w w' : World} (h : DecS p0 p1 p2 v0 v1 v2 w) (hb : Below w.heap.size w w') : DecS p0 p1 p2 v0 v1 v2 w' := by
  obtain ⟨h0, h1, h2⟩ := h
  exact ⟨(hb.cell (World.block_lt_of_cell? w _ h0)).trans h0, (hb.cell (World.block_lt_of_cell? w _ h1)).trans h1, (hb.cell (World.block_lt_of_cell? w _ h2)).trans h2⟩
theorem DecS.hp {p0 p1 p2 : Addr} {v0 v1 v2 : Value} {w w' : World} (k : Nat) (h : DecS p0 p1 p2 v0 v1 v2 w) (h0 : p0.block ≠ k) (h1 : p1.block ≠ k) (h2 : p2.block ≠ k) (hb : ∀ i, i ≠ k → w'.heap[i]? = w.heap[i]?) : DecS p0 p1 p2 v0 v1 v2 w' :=
  ⟨(World.cell?_of_block (hb _ h0)).trans h.1, (World.cell?_of_block (hb _ h1)).trans h.2.1, (World.cell?_of_block (hb _ h2)).trans h.2.2⟩
theorem DecS.alloc {p0 p1 p2 : Addr} {v0 v1 v2 : Value} {w : World} (h : DecS p0 p1 p2 v0 v1 v2 w) (o : Obj) : DecS p0 p1 p2 v0 v1 v2 (w.alloc o) := h.below ((Below.refl _ _).alloc (Nat.le_refl _) _)
def RunYes (r : Rs.M × Int) (w : World) (e : Ending) (w' : World) : Prop :=
  ∃ mv, e = .returned (.agg (Rs.halt r.2 r.1 mv).toArray) ∧ w'.ownsRow w.heap.size 3 1 mv r.1.mem.length (r.1.mem.map (Value.int .i64)) ∧ Below w.heap.size w w'
theorem run_end {w W V : World} {T : Nat} {st : Int} {m : Rs.M} {mv ov : Value} {cs : Array Value} {s : Value} (h : MSt ⟨w.heap.size + 1 + 1, []⟩ V (w.heap.size + 1 + 1) T st m mv ov) (hw : Below w.heap.size w W) (hb : Below (w.heap.size + 1 + 1) W V) :
    RunYes (m, st) w (.returned (.agg (Rs.halt st m mv).toArray)) ((V.setCell ⟨w.heap.size + 1 + 1, 2, none⟩ s).setRow (w.heap.size + 1) cs) := by
  refine ⟨mv, rfl, ?_, below_setRow ((hw.trans (hb.mono (by omega))).setCell (by show w.heap.size ≤ w.heap.size + 1 + 1; omega) _) (by omega) _⟩
  have h1 := ownsRow_setCell_other h.mem h.ne1 s (a := ⟨w.heap.size + 1 + 1, 2, none⟩)
  obtain ⟨h2, h3⟩ := h1
  refine ⟨h2, ?_⟩
  rcases h3 with h3 | ⟨g1, cap, cur, hv, hg, hh, r⟩
  · exact .inl h3
  · have hg' : w.heap.size + 1 + 1 ≤ g1 := hg
    exact .inr ⟨g1, cap, cur, hv, by omega, (setRow_other _ _ _ _ (by omega)).trans hh, r⟩
end Go.Proofs.Ytaldcgfhlflcpaa
