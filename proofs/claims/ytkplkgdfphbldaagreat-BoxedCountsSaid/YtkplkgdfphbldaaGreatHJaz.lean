/- The reference's Do: its table, its refusals. -/
import Derived.Deep.DeepCutAuto
import Derived.Test.YtkplkgdfphbldaaGreatHJaw
import Derived.Test.YtkplkgdfphbldaaGreatHJaj
namespace Go.Proofs.YtkplkgdfphbldaaGreat
open Go.RowKit
set_option linter.unusedVariables false
set_option linter.unusedSimpArgs false
set_option linter.unnecessarySimpa false
set_option maxRecDepth 100000
structure RDo (h : Nat) (O : Nat → Prop) (T : List Hp.Th) (av : Value) (l : List Hp.V) (g : Nat) (w wx : World) : Prop where
 st : HSt wx 76 h O T
 below : Below w.heap.size w wx
 args : VSl wx av l
 tab : RTab wx g
 res : wx.heap[w.heap.size]? = some (.cells #[.int .i64 0, .int .i64 0, .string ⟨#[]⟩] 78 (0, 0))
section
variable {h : Nat} {O : Nat → Prop} {T : List Hp.Th} {av : Value} {l : List Hp.V} {g : Nat} {w wx wy : World}
theorem RDo.bel (H : RDo h O T av l g w wx) (hb : Below wx.heap.size wx wy) : RDo h O T av l g w wy :=
 ⟨H.st.below hb (Nat.le_refl _), H.below.trans (hb.mono H.below.size), H.args.below hb (Nat.le_refl _), H.tab.below hb (Nat.le_refl _), (hb.block _ (Array.getElem?_eq_some_iff.1 H.res).1).trans H.res⟩
theorem RDo.out (H : RDo h O T av l g w wx) : wx.cell? ⟨w.heap.size, 0, none⟩ = some (.int .i64 0) ∧ wx.cell? ⟨w.heap.size, 1, none⟩ = some (.int .i64 0) ∧ wx.cell? ⟨w.heap.size, 2, none⟩ = some (.string ⟨#[]⟩) ∧ wx.frozen? ⟨w.heap.size, 0, none⟩ = false ∧ wx.frozen? ⟨w.heap.size, 1, none⟩ = false ∧ wx.frozen? ⟨w.heap.size, 2, none⟩ = false ∧ w.heap.size < wx.heap.size :=
 ⟨cell_of_row wx _ 0 _ _ _ H.res, cell_of_row wx _ 1 _ _ _ H.res, cell_of_row wx _ 2 _ _ _ H.res, frozen_of_row wx _ 0 _ _ H.res, frozen_of_row wx _ 1 _ _ H.res, frozen_of_row wx _ 2 _ _ H.res, (Array.getElem?_eq_some_iff.1 H.res).1⟩
theorem RDo.fin (H : RDo h O T av l g w wx) (x y z : Value) : (((wx.setCell ⟨w.heap.size, 0, none⟩ x).setCell ⟨w.heap.size, 1, none⟩ y).setCell ⟨w.heap.size, 2, none⟩ z).heap[w.heap.size]? = some (.cells #[x, y, z] 78 (0, 0)) ∧ Below w.heap.size w (((wx.setCell ⟨w.heap.size, 0, none⟩ x).setCell ⟨w.heap.size, 1, none⟩ y).setCell ⟨w.heap.size, 2, none⟩ z) :=
 ⟨three_set _ _ _ _ _ _ x y z H.res, below_three H.below (Nat.le_refl _) _ _ _⟩
theorem RDo.say (H : RDo h O T av l g w wx) (hlt : ∀ b, O b → b < w.heap.size) (r : Hp.V) (er : Int) :
  (((wx.setCell ⟨w.heap.size, 0, none⟩ (.int .i64 r.kind)).setCell ⟨w.heap.size, 1, none⟩ (.int .i64 r.int)).setCell ⟨w.heap.size, 2, none⟩ (.string r.text)).heap[w.heap.size]? = some (.cells #[.int .i64 r.kind, .int .i64 r.int, .string r.text] 78 (0, 0)) ∧
  DoPost 76 h O r er T w (.returned (.tuple #[.agg #[.int .i64 r.kind, .int .i64 r.int, .string r.text], .int .i64 er])) (((wx.setCell ⟨w.heap.size, 0, none⟩ (.int .i64 r.kind)).setCell ⟨w.heap.size, 1, none⟩ (.int .i64 r.int)).setCell ⟨w.heap.size, 2, none⟩ (.string r.text)) :=
 ⟨(H.fin _ _ _).1, O, rfl, ret_end H.st (Grow.of H.below) (fun e => by have := hlt _ e; omega) (Nat.le_refl _) _ _ _⟩
theorem RDo.arg (H : RDo h O T av l g w wx) {k : Nat} {v : Hp.V} (hv : l[k]? = some v) : ∃ b off c, av = .slice (some ⟨b, off, none⟩) l.length c ∧ b < wx.heap.size ∧ wx.cell? ⟨b, off + k * 3, none⟩ = some (.int .i64 v.kind) ∧ wx.cell? ⟨b, off + k * 3 + 1, none⟩ = some (.int .i64 v.int) ∧ wx.cell? ⟨b, off + k * 3 + 2, none⟩ = some (.string v.text) := by
 obtain ⟨a, c, e⟩ := H.args.len
 have h2 := H.args
 subst e
 obtain ⟨b, off, rfl, hb, hc⟩ := h2.at (fun e => by rw [e] at hv; simp at hv)
 exact ⟨b, off, c, rfl, hb, hc k v hv⟩
end
structure RSw (h : Nat) (O : Nat → Prop) (T : List Hp.Th) (av : Value) (l : List Hp.V) (g : Nat) (w wx : World) (A B C V : Nat) (a b c : Hp.V) : Prop where
 rd : RDo h O T av l g w wx
 lt : ∀ b, O b → b < w.heap.size
 na : A ≠ w.heap.size
 ba : wx.heap[A]? = some (.cells #[.int .i64 a.kind, .int .i64 a.int, .string a.text] 78 (0, 0))
 bb : wx.heap[B]? = some (.cells #[.int .i64 b.kind, .int .i64 b.int, .string b.text] 78 (0, 0))
 bc : wx.heap[C]? = some (.cells #[.int .i64 c.kind, .int .i64 c.int, .string c.text] 78 (0, 0))
 bv : wx.heap[V]? = some (.cells #[.int .i64 5, .int .i64 0, .string ⟨#[]⟩] 78 (0, 0))
section
variable {h : Nat} {O : Nat → Prop} {T : List Hp.Th} {av : Value} {l : List Hp.V} {g : Nat} {w wx wy : World} {A B C V : Nat} {a b c : Hp.V}
theorem RSw.of (H : RDo h O T av l g w wx) (hlt : ∀ b, O b → b < w.heap.size) (a b c : Hp.V) : RSw h O T av l g w ((((wx.alloc (.cells #[.int .i64 a.kind, .int .i64 a.int, .string a.text] 78)).alloc (.cells #[.int .i64 b.kind, .int .i64 b.int, .string b.text] 78)).alloc (.cells #[.int .i64 c.kind, .int .i64 c.int, .string c.text] 78)).alloc (.cells #[.int .i64 5, .int .i64 0, .string ⟨#[]⟩] 78)) wx.heap.size (wx.heap.size + 1) (wx.heap.size + 1 + 1) (wx.heap.size + 1 + 1 + 1) a b c := by
 refine ⟨H.bel (((((Below.refl _ _).alloc (Nat.le_refl _) _).alloc (by simp) _).alloc (by simp <;> omega) _).alloc (by simp <;> omega) _), hlt, by have := (Array.getElem?_eq_some_iff.1 H.res).1; omega, ?_, ?_, ?_, heap_new (by simp)⟩
 ·rw [heap_alloc_old _ _ (by simp <;> omega), heap_alloc_old _ _ (by simp <;> omega), heap_alloc_old _ _ (by simp)]
  exact heap_alloc_new _ _
 ·rw [heap_alloc_old _ _ (by simp <;> omega), heap_alloc_old _ _ (by simp)]
  exact heap_new (by simp)
 ·rw [heap_alloc_old _ _ (by simp)]
  exact heap_new (by simp)
theorem RSw.bel (H : RSw h O T av l g w wx A B C V a b c) (hb : Below wx.heap.size wx wy) : RSw h O T av l g w wy A B C V a b c :=
 ⟨H.rd.bel hb, H.lt, H.na, (hb.block _ (Array.getElem?_eq_some_iff.1 H.ba).1).trans H.ba, (hb.block _ (Array.getElem?_eq_some_iff.1 H.bb).1).trans H.bb, (hb.block _ (Array.getElem?_eq_some_iff.1 H.bc).1).trans H.bc, (hb.block _ (Array.getElem?_eq_some_iff.1 H.bv).1).trans H.bv⟩
theorem RSw.cells (H : RSw h O T av l g w wx A B C V a b c) : (wx.cell? ⟨A, 0, none⟩ = some (.int .i64 a.kind) ∧ wx.cell? ⟨A, 1, none⟩ = some (.int .i64 a.int) ∧ wx.cell? ⟨A, 2, none⟩ = some (.string a.text)) ∧ (wx.cell? ⟨B, 0, none⟩ = some (.int .i64 b.kind) ∧ wx.cell? ⟨B, 1, none⟩ = some (.int .i64 b.int) ∧ wx.cell? ⟨B, 2, none⟩ = some (.string b.text)) ∧ (wx.cell? ⟨C, 0, none⟩ = some (.int .i64 c.kind) ∧ wx.cell? ⟨C, 1, none⟩ = some (.int .i64 c.int) ∧ wx.cell? ⟨C, 2, none⟩ = some (.string c.text)) ∧ (wx.cell? ⟨V, 0, none⟩ = some (.int .i64 5) ∧ wx.cell? ⟨V, 1, none⟩ = some (.int .i64 0) ∧ wx.cell? ⟨V, 2, none⟩ = some (.string ⟨#[]⟩)) :=
 ⟨⟨cell_of_row wx _ 0 _ _ _ H.ba, cell_of_row wx _ 1 _ _ _ H.ba, cell_of_row wx _ 2 _ _ _ H.ba⟩, ⟨cell_of_row wx _ 0 _ _ _ H.bb, cell_of_row wx _ 1 _ _ _ H.bb, cell_of_row wx _ 2 _ _ _ H.bb⟩, ⟨cell_of_row wx _ 0 _ _ _ H.bc, cell_of_row wx _ 1 _ _ _ H.bc, cell_of_row wx _ 2 _ _ _ H.bc⟩, ⟨cell_of_row wx _ 0 _ _ _ H.bv, cell_of_row wx _ 1 _ _ _ H.bv, cell_of_row wx _ 2 _ _ _ H.bv⟩⟩
end
def RQ (h : Nat) (O : Nat → Prop) (T : List Hp.Th) (i : Nat) (a b c : Hp.V) (l : List Hp.V) (w : World) : Ending → World → Prop := DoPost 76 h O (Hp.actF T i a b c l).1 (Hp.actF T i a b c l).2.1 (Hp.actF T i a b c l).2.2 w
theorem RSw.post {h : Nat} {O : Nat → Prop} {T T' : List Hp.Th} {av : Value} {l : List Hp.V} {g : Nat} {w wx w5 : World} {A B C V : Nat} {a b c r : Hp.V} {er : Int} {e : Ending} (H : RSw h O T av l g w wx A B C V a b c) (hp : DoPost 76 h O r er T' wx e w5) :
  e = .returned (.tuple #[.agg #[.int .i64 r.kind, .int .i64 r.int, .string r.text], .int .i64 er]) ∧ w5.heap[w.heap.size]? = some (.cells #[.int .i64 0, .int .i64 0, .string ⟨#[]⟩] 78 (0, 0)) ∧ w.heap.size < w5.heap.size ∧
  DoPost 76 h O r er T' w (.returned (.tuple #[.agg #[.int .i64 r.kind, .int .i64 r.int, .string r.text], .int .i64 er])) (((w5.setCell ⟨w.heap.size, 0, none⟩ (.int .i64 r.kind)).setCell ⟨w.heap.size, 1, none⟩ (.int .i64 r.int)).setCell ⟨w.heap.size, 2, none⟩ (.string r.text)) := by
 obtain ⟨O', he, h1, h2⟩ := hp
 have hlt := (Array.getElem?_eq_some_iff.1 H.rd.res).1
 have hn : ¬ O w.heap.size := fun e => by have := H.lt _ e; omega
 have hn' : ¬ O' w.heap.size := fun e => by
  rcases h2.own _ e with e | e
  ·exact hn e
  ·omega
 have hG : Grow O O' w w5 := (Grow.of H.rd.below).trans h2
 exact ⟨he, (h2.block _ hlt hn).trans H.rd.res, Nat.lt_of_lt_of_le hlt h2.size, O', rfl, ret_end h1 hG hn' (Nat.le_refl _) _ _ _⟩
end Go.Proofs.YtkplkgdfphbldaaGreat
