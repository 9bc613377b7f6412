/- Run: laws of the world around the loop. -/
import Derived.Test.YtembhjfejhnpfaaRiscRunP
import Derived.Test.YtembhjfejhnpfaaClone
import Derived.Test.YtembhjfejhnpfaaZeros
import Derived.Laws.IdiomStrings
import Derived.Deep.MidRow
import Derived.Deep.Onto
import Derived.Laws.CopyOwn
namespace Go.Proofs.Ytembhjfejhnpfaa
open Go.RowKit
set_option linter.unusedVariables false
set_option linter.unusedSimpArgs false
theorem Sl.drew {w : World} {v : Value} {xs : List Value} (h : Sl w v xs) : Sl w.drew v xs := h
theorem own_sl {w : World} {B e size n : Nat} {v : Value} {xs : List Value} (h : w.ownsRow B e size v n xs) : ∃ a cap, v = .slice a n cap := by
  rcases own_shape h with ⟨rfl, rfl, _⟩ | ⟨g, cap, rfl, _⟩
  · exact ⟨none, 0, rfl⟩
  · exact ⟨_, _, rfl⟩
/-- What stands at an address. -/
def cellOr (w : World) (p : Addr) : Value := (w.cell? p).getD undef
theorem cellOr_of {w : World} {p : Addr} {v : Value} (h : w.cell? p = some v) : w.cell? p = some (cellOr w p) := by unfold cellOr; rw [h]; rfl
/-- What Run's fourth region keeps. -/
abbrev RunS (b : Nat) (v0 v1 v2 : Value) (w' : World) : Prop :=
  w'.cell? ⟨b, 0, none⟩ = some v0 ∧ w'.cell? ⟨b, 1, none⟩ = some v1 ∧ w'.cell? ⟨b, 2, none⟩ = some v2 ∧ w'.cell? ⟨b + 1 + 1, 37, none⟩ = some (cellOr w' ⟨b + 1 + 1, 37, none⟩) ∧ w'.frozen? ⟨b + 1 + 1, 37, none⟩ = false
theorem RunS.of {b : Nat} {v0 v1 v2 : Value} {w w' : World} (h : RunS b v0 v1 v2 w) (hk : ∀ k, k < b + 3 → w'.heap[k]? = w.heap[k]?) : RunS b v0 v1 v2 w' := by
  obtain ⟨h0, h1, h2, h3, h4⟩ := h
  have e : ∀ (j k : Nat), k < b + 3 → w'.cell? ⟨k, j, none⟩ = w.cell? ⟨k, j, none⟩ := fun j k h => World.cell?_of_block (hk k h)
  have f : ∀ (j k : Nat), k < b + 3 → w'.frozen? ⟨k, j, none⟩ = w.frozen? ⟨k, j, none⟩ := fun j k h => World.frozen?_of_block (hk k h)
  exact ⟨(e _ _ (by omega)).trans h0, (e _ _ (by omega)).trans h1, (e _ _ (by omega)).trans h2, cellOr_of ((e _ _ (by omega)).trans h3), (f _ _ (by omega)).trans h4⟩
theorem RunS.set {b : Nat} {v0 v1 v2 v : Value} {w : World} (h : RunS b v0 v1 v2 w) : RunS b v0 v1 v2 (w.setCell ⟨b + 1 + 1, 37, none⟩ v) := by
  obtain ⟨h0, h1, h2, h3, h4⟩ := h
  have hb := World.block_lt_of_cell? w _ h3
  have e : ∀ j, (w.setCell ⟨b + 1 + 1, 37, none⟩ v).cell? ⟨b, j, none⟩ = w.cell? ⟨b, j, none⟩ := fun j => World.cell?_of_block (heap_setCell_other w ⟨b + 1 + 1, 37, none⟩ b v (by show b ≠ b + 1 + 1; omega))
  refine ⟨(e _).trans h0, (e _).trans h1, (e _).trans h2, ?_, ?_⟩
  · obtain ⟨u, hu⟩ : ∃ u, (w.setCell ⟨b + 1 + 1, 37, none⟩ v).cell? ⟨b + 1 + 1, 37, none⟩ = some u := ⟨v, by simp [World.cell?_setCell_same, h3]⟩
    exact cellOr_of hu
  · simp [h4]
/-- The machine's block behind the fourth region. -/
theorem run_made {W w3 w4 : World} {g T n k : Nat} {m0 m1 : Rs.M} {v3 v4 : Value} (b2 : W.heap[g]? = some (.cells (Rs.cells 0 m0 (.slice none 0 0) (.slice none 0 0)).toArray T (0, 0))) (hs : W.heap.size = g + 1)
    (hb3 : Below W.heap.size W.drew w3) (hown3 : w3.ownsRow W.heap.size 3 1 v3 n (m0.mem.map (Value.int .i64))) (hgr : w3.grownBy w4 v3.ownBlock) (hown4 : w4.ownsRow W.heap.size 3 1 v4 k (m1.mem.map (Value.int .i64)))
    (hk : k = m1.mem.length) (hok : Rs.Ok m1) (ho : m1.out = []) (hm : m1 = { m0 with mem := m1.mem }) :
    MSt ⟨g, []⟩ (w4.setCell ⟨g, 37, none⟩ v4) g T 0 m1 v4 (.slice none 0 0) ∧ Below g W (w4.setCell ⟨g, 37, none⟩ v4) := by
  have hne3 : v3.ownBlock ≠ some g := fun e => by have := (hown3.lt g e).1; omega
  have hne4 : v4.ownBlock ≠ some g := fun e => by have := (hown4.lt g e).1; omega
  have hsz : g < w3.heap.size := by have := hb3.size; have e : W.drew.heap.size = W.heap.size := rfl; omega
  have hg4 : w4.heap[g]? = some (.cells (Rs.cells 0 m0 (.slice none 0 0) (.slice none 0 0)).toArray T (0, 0)) := by
    rw [hgr.block g hsz (fun e => hne3 e.symm), hb3.block g (by omega)]
    exact b2
  have hr : m0.regs.length = 32 := by have := hok.regs; rw [hm] at this; exact this
  subst hk
  have hnil : ∀ w : World, w.ownsRow g 5 1 (.slice none 0 0) 0 [] := fun w => World.ownsRow_nil _ _ _ _
  refine ⟨⟨Nat.le_refl _, ?_, ownsRow_setCell_other (hown4.mono (by show g ≤ _; omega)) hne4 v4, ?_, hne4, by simp [Value.ownBlock], ?_, hok, fun p hp => by cases hp⟩, ?_⟩
  · rw [heap_setCell_same w4 g 37 _ T v4 hg4]
    have hset : (Rs.cells 0 m0 (.slice none 0 0) (.slice none 0 0)).set 37 v4 = Rs.cells 0 m0 v4 (.slice none 0 0) := Rs.set_tail hr 0 _
    have hmm : Rs.cells 0 m1 v4 (.slice none 0 0) = Rs.cells 0 m0 v4 (.slice none 0 0) := by rw [hm]; rfl
    rw [hmm, ← hset]
    simp
  · rw [ho]; exact hnil _
  · cases h : v4.ownBlock with
    | none => exact .inl rfl
    | some q => exact .inr (by simp [Value.ownBlock])
  · have h1 : Below g W w3 := ((Below.refl g W).drew).trans (hb3.mono (by omega))
    exact (h1.grown hgr (by omega) (fun k hk => by have := (hown3.lt k hk).1; omega)).setCell (Nat.le_refl _) _
theorem string_of_own {w : World} {B : Nat} {ov : Value} {out : List UInt8} (h : w.ownsRow B 5 1 ov out.length (out.map fun x => Value.int .u8 x.toNat)) :
    (convert 60 9 ov).run Try.prog w = .ok (.string ⟨out.toArray⟩) w := by
  have hu : Try.prog.underlying 5 = some (.int .u8) := by kernel_rfl
  have hs : Try.prog.underlying 9 = some .string := by kernel_rfl
  rcases own_shape h with ⟨rfl, h1, h2⟩ | ⟨g, cap, rfl, h1, h2, h3, h4⟩
  · have ho : out = [] := List.eq_nil_of_length_eq_zero h1
    subst ho
    rw [run_convert_bytes_string w _ _ 5 none 0 0 Try.underlying60 hu hs]
    simp [Conv.bytesToString]
    rfl
  · refine run_convert_bytes_back w _ _ 5 _ cap out Try.underlying60 hu hs (fun j hj => ?_)
    refine h.cells (g := g) rfl j _ ?_
    rw [List.getElem?_map, List.getElem?_eq_getElem hj]
    rfl
/-- Behind the output has become a string: the result's cells. -/
theorem halt_range {B : Bd} {g T : Nat} {w : World} {st : Int} {m : Rs.M} {mv ov : Value} (h : MSt B w g T st m mv ov) : (w.setCell ⟨g, 2, none⟩ (.string ⟨m.out.toArray⟩)).rangeAt g 0 (Rs.halt st m mv) := by
  intro j v hj
  have hb : (w.setCell ⟨g, 2, none⟩ (.string ⟨m.out.toArray⟩)).heap[g]? = _ := heap_setCell_same w g 2 _ T (.string ⟨m.out.toArray⟩) h.blk
  rw [cell_of_row _ g _ _ T (0, 0) hb]
  have hl : Rs.halt st m mv ++ [.string ⟨m.inp.toArray⟩, ov] = (Rs.cells st m mv ov).set 2 (.string ⟨m.out.toArray⟩) := by simp [Rs.halt, Rs.cells]
  have hlt : j < (Rs.halt st m mv).length := (List.getElem?_eq_some_iff.1 hj).1
  simp only [List.setIfInBounds_toArray, List.getElem?_toArray, Nat.zero_add]
  rw [← hl, List.getElem?_append_left hlt]
  exact hj
theorem halt_len {st : Int} {m : Rs.M} {mv : Value} (h : Rs.Ok m) : (Rs.halt st m mv).length = 38 := by simp [Rs.halt, h.regs]
theorem halt_one {st : Int} {m : Rs.M} {mv : Value} (h : mv.oneCell' = true) : (Rs.halt st m mv).toArray.all (·.oneCell') = true := by
  rw [List.all_toArray, List.all_eq_true]
  intro u hu
  simp only [Rs.halt, List.mem_cons, List.mem_append, List.mem_map, List.mem_singleton, List.not_mem_nil, or_false] at hu
  rcases hu with rfl | rfl | rfl | rfl | rfl | ⟨z, _, rfl⟩ | rfl
  all_goals first | rfl | exact h
theorem halt_one' {st : Int} {m : Rs.M} {mv : Value} (h : mv.oneCell' = true) : ∀ v ∈ Rs.halt st m mv, v.oneCell' = true := by
  have := halt_one (st := st) (m := m) h
  rw [List.all_toArray, List.all_eq_true] at this
  exact this
theorem own_one {w : World} {B e n : Nat} {v : Value} {xs : List Value} (h : w.ownsRow B e 1 v n xs) : v.oneCell' = true := by
  rcases own_shape h with ⟨rfl, _⟩ | ⟨g, cap, rfl, _⟩ <;> rfl
theorem run_zeros {mem : List Int} {q : Nat} {inp : List UInt8} (h : mem.length ≤ q) : mem.map (Value.int .i64) ++ List.replicate (q - mem.length) (Value.int .i64 0) = (Rs.start mem q inp).mem.map (Value.int .i64) := by
  simp [Rs.start]
theorem run_res {B k t : Nat} {W V : World} {cs : Array Value} {fr : Nat × Nat} (h : W.heap[k]? = some (.cells cs t fr)) (hb : Below B W V) (hk : k < B) {u : Nat} {x : Value} {g : Nat} (hg : k ≠ g) : (V.setCell ⟨g, u, none⟩ x).heap[k]? = some (.cells cs t fr) := by
  rw [heap_setCell_other _ _ _ _ (show k ≠ (⟨g, u, none⟩ : Addr).block from hg), hb.block k hk]
  exact h
theorem haltD : ∃ d, Try.prog.underlying 39 = some d ∧ d.isRow = true := by
  have h : (Try.prog.underlying 39).map TypeDesc.isRow = some true := by kernel_rfl
  cases hq : Try.prog.underlying 39 with
  | none => rw [hq] at h; cases h
  | some d => rw [hq] at h; exact ⟨d, rfl, by simpa using h⟩
theorem results_cell {P : Program} {fn : Func} {p : Tmp} {ty : TypeId} (h : fn.results = #[.cell p ty]) (tmps : Array Value) (w : World) (g : Nat) (t : TypeId) (cs : Array Value) (fr : Nat × Nat) (d : TypeDesc)
    (hp : tmps.getD p undef = .pointer (some ⟨g, 0, none⟩)) (hg : w.heap[g]? = some (.cells cs t fr)) (hu : P.underlying ty = some d) (hd : d.isRow = true) (hi : (P.info? ty).map (·.size) = some cs.size) :
    (results fn tmps).run P w = .ok (.agg cs) w := by
  cases d with
  | struct f => exact results_cell_row h tmps w g t cs fr _ hp hg hu rfl hi
  | array a b => exact results_cell_row h tmps w g t cs fr _ hp hg hu rfl hi
  | _ => simp [TypeDesc.isRow] at hd
theorem store_all {P : Program} (w : World) (g t : Nat) (old : Array Value) (cs : List Value) (hg : w.heap[g]? = some (.cells old t (0, 0))) (ho : old.size = cs.length) (h1 : ∀ v ∈ cs, v.oneCell' = true) :
    (storeCells ⟨g, 0, none⟩ cs).run P w = .ok () (w.setRow g cs.toArray) := by
  have := run_storeCells_from (P := P) g t cs 0 old w hg (by omega) h1
  simpa [ho] using this
/-- What the region of the decoding keeps. -/
abbrev DecS (p0 p1 p2 : Addr) (v0 v1 v2 : Value) (w' : World) : Prop := w'.cell? p0 = some v0 ∧ w'.cell? p1 = some v1 ∧ w'.cell? p2 = some v2
theorem DecS.below {p0 p1 p2 : Addr} {v0 v1 v2 : Value} {w w' : World} (h : DecS p0 p1 p2 v0 v1 v2 w) (hb : Below w.heap.size w w') : DecS p0 p1 p2 v0 v1 v2 w' := by
  obtain ⟨h0, h1, h2⟩ := h
  exact ⟨(hb.cell (World.block_lt_of_cell? w _ h0)).trans h0, (hb.cell (World.block_lt_of_cell? w _ h1)).trans h1, (hb.cell (World.block_lt_of_cell? w _ h2)).trans h2⟩
theorem DecS.hp {p0 p1 p2 : Addr} {v0 v1 v2 : Value} {w w' : World} (k : Nat) (h : DecS p0 p1 p2 v0 v1 v2 w) (h0 : p0.block ≠ k) (h1 : p1.block ≠ k) (h2 : p2.block ≠ k) (hb : ∀ i, i ≠ k → w'.heap[i]? = w.heap[i]?) : DecS p0 p1 p2 v0 v1 v2 w' :=
  ⟨(World.cell?_of_block (hb _ h0)).trans h.1, (World.cell?_of_block (hb _ h1)).trans h.2.1, (World.cell?_of_block (hb _ h2)).trans h.2.2⟩
/-- A block of five cells that was made ahead of a call. -/
theorem five_kept {w w3 : World} {c0 c1 c2 c3 c4 : Value} {t : TypeId} {n : Nat} (hb : Below ((w.drewN n).alloc (.cells #[c0, c1, c2, c3, c4] t)).heap.size ((w.drewN n).alloc (.cells #[c0, c1, c2, c3, c4] t)) w3) : w3.heap[w.heap.size]? = some (.cells #[c0, c1, c2, c3, c4] t (0, 0)) := by
  rw [hb.block _ (by simp)]
  exact heap_alloc_new (w.drewN n) _
theorem below_of_drew {w w3 : World} {n : Nat} (h : Below (w.drewN n).heap.size (w.drewN n) w3) : Below w.heap.size w w3 := (below_drewN (Below.refl w.heap.size w) n).trans h
theorem below_of_alloc {w w3 : World} {n : Nat} {o : Obj} (h : Below ((w.drewN n).alloc o).heap.size ((w.drewN n).alloc o) w3) : Below w.heap.size w w3 := ((below_drewN (Below.refl w.heap.size w) n).alloc (Nat.le_refl _) o).trans (h.mono (by simp))
theorem below_five {B : Nat} {a w : World} {u0 u1 u2 u3 u4 : Value} (h : Below B a w) : Below B a (((((w.setCell ⟨B, 0, none⟩ u0).setCell ⟨B, 1, none⟩ u1).setCell ⟨B, 2, none⟩ u2).setCell ⟨B, 3, none⟩ u3).setCell ⟨B, 4, none⟩ u4) :=
  ((((h.setCell (Nat.le_refl _) _).setCell (Nat.le_refl _) _).setCell (Nat.le_refl _) _).setCell (Nat.le_refl _) _).setCell (Nat.le_refl _) _
theorem DecS.alloc {p0 p1 p2 : Addr} {v0 v1 v2 : Value} {w : World} (h : DecS p0 p1 p2 v0 v1 v2 w) (o : Obj) : DecS p0 p1 p2 v0 v1 v2 (w.alloc o) := h.below ((Below.refl _ _).alloc (Nat.le_refl _) _)
/-- What Run answers. -/
def RunYes (r : Rs.M × Int) (w : World) (e : Ending) (w' : World) : Prop :=
  ∃ mv, e = .returned (.agg (Rs.halt r.2 r.1 mv).toArray) ∧ w'.ownsRow w.heap.size 3 1 mv r.1.mem.length (r.1.mem.map (Value.int .i64)) ∧ Below w.heap.size w w'
theorem run_end {w W V : World} {T : Nat} {st : Int} {m : Rs.M} {mv ov : Value} {cs : Array Value} {s : Value} (h : MSt ⟨w.heap.size + 1 + 1, []⟩ V (w.heap.size + 1 + 1) T st m mv ov) (hw : Below w.heap.size w W) (hb : Below (w.heap.size + 1 + 1) W V) :
    RunYes (m, st) w (.returned (.agg (Rs.halt st m mv).toArray)) ((V.setCell ⟨w.heap.size + 1 + 1, 2, none⟩ s).setRow (w.heap.size + 1) cs) := by
  refine ⟨mv, rfl, ?_, below_setRow ((hw.trans (hb.mono (by omega))).setCell (by show w.heap.size ≤ w.heap.size + 1 + 1; omega) _) (by omega) _⟩
  have h1 := ownsRow_setCell_other h.mem h.ne1 s (a := ⟨w.heap.size + 1 + 1, 2, none⟩)
  obtain ⟨h2, h3⟩ := h1
  refine ⟨h2, ?_⟩
  rcases h3 with h3 | ⟨g1, cap, cur, hv, hg, hh, r⟩
  · exact .inl h3
  · have hg' : w.heap.size + 1 + 1 ≤ g1 := hg
    exact .inr ⟨g1, cap, cur, hv, by omega, (setRow_other _ _ _ _ (by omega)).trans hh, r⟩
/-- What holds at the head of each round. -/
structure RunRel (W : World) (code : List Int) (steps : Int) (R : Rs.M × Int) (g T gk : Nat) (st : Int) (m : Rs.M) (mv ov : Value) (wx : World) : Prop where
  st0 : MSt ⟨g, []⟩ wx g T st m mv ov
  below : Below g W wx
  way : (st = 6 ∧ Rs.Inv code steps m ∧ Rs.go code (steps - m.steps).toNat m = R ∧ gk = (steps - m.steps).toNat + 1) ∨ (st ≠ 6 ∧ R = (m, st) ∧ gk = 0)
end Go.Proofs.Ytembhjfejhnpfaa
