/- The machine of registers in memory. -/
import Derived.Test.YtalfnaielhbocaaKJaz
import Derived.Test.YtalfnaielhbocaaKJba
import Derived.Test.YtalfnaielhbocaaKJaj
import Derived.BigQuiet
import Derived.Deep.QuietTactic
import Derived.Test.YtalfnaielhbocaaKJay
import Derived.Test.YtalfnaielhbocaaKJap
import Derived.Deep.AppendLies
import Derived.Test.YtalfnaielhbocaaKJak
set_option linter.unusedVariables false
set_option linter.unusedSimpArgs false
set_option linter.unnecessarySimpa false
namespace Go.Proofs.Ytalfnaielhbocaa
open Go.RowKit
set_option linter.unusedVariables false
set_option linter.unusedSimpArgs false
namespace Vm
def ints (l : List Int) : List Value := l.map (Value.int .i64)
def bytes (l : List UInt8) : List Value := l.map fun b => Value.int .u8 b.toNat
def Row {α : Type} (w : World) (v : Value) (size : Nat) (l : List α) (R : α → Nat → Nat → Prop) : Prop :=
  ∃ a cap, v = .slice a l.length cap ∧ (l = [] ∨ ∃ b off, a = some ⟨b, off, none⟩ ∧ b < w.heap.size ∧ ∀ j x, l[j]? = some x → R x b (off + j * size))
theorem Row.len {α : Type} {w : World} {v : Value} {size : Nat} {l : List α} {R : α → Nat → Nat → Prop} (h : Row w v size l R) : ∃ a cap, v = .slice a l.length cap := by
  obtain ⟨a, cap, h, _⟩ := h
  exact ⟨a, cap, h⟩
theorem Row.at {α : Type} {w : World} {a : Option Addr} {n cap size : Nat} {l : List α} {R : α → Nat → Nat → Prop} (h : Row w (.slice a n cap) size l R) {j : Nat} {x : α} (hx : l[j]? = some x) : n = l.length ∧ ∃ b off, a = some ⟨b, off, none⟩ ∧ b < w.heap.size ∧ R x b (off + j * size) := by
  obtain ⟨a', cap', e, h⟩ := h
  cases e
  rcases h with rfl | ⟨b, off, rfl, hb, h⟩
  · simp at hx
  · exact ⟨rfl, b, off, rfl, hb, h j x hx⟩
theorem Row.mono {α : Type} {w w' : World} {v : Value} {size : Nat} {l : List α} {R R' : α → Nat → Nat → Prop} (h : Row w v size l R) (hs : w.heap.size ≤ w'.heap.size) (hR : ∀ x ∈ l, ∀ b o, b < w.heap.size → R x b o → R' x b o) : Row w' v size l R' := by
  obtain ⟨a, cap, e, h | ⟨b, off, ha, hb, h⟩⟩ := h
  · exact ⟨a, cap, e, .inl h⟩
  · exact ⟨a, cap, e, .inr ⟨b, off, ha, Nat.lt_of_lt_of_le hb hs, fun j x hx => hR x (List.mem_of_getElem? hx) b _ hb (h j x hx)⟩⟩
structure InsC (w : World) (x : Ins) (b o : Nat) : Prop where
  c0 : w.cell? ⟨b, o, none⟩ = some (.string x.op)
  c1 : w.cell? ⟨b, o + 1, none⟩ = some (.int .i64 x.to)
  c2 : ∃ av, w.cell? ⟨b, o + 2, none⟩ = some av ∧ Sl w av (ints x.args)
  c3 : w.cell? ⟨b, o + 3, none⟩ = some (.int .i64 x.const.kind)
  c4 : w.cell? ⟨b, o + 4, none⟩ = some (.int .i64 x.const.int)
  c5 : w.cell? ⟨b, o + 5, none⟩ = some (.string x.const.text)
  c6 : ∃ lv, w.cell? ⟨b, o + 6, none⟩ = some lv ∧ DtAt w (fun _ => True) (.agg #[.int .i64 x.const.kind, .int .i64 x.const.int, .string x.const.text, lv]) x.const
  c7 : w.cell? ⟨b, o + 7, none⟩ = some (.int .i64 x.num)
structure BlkC (w : World) (x : Blk) (b o : Nat) : Prop where
  c0 : ∃ iv, w.cell? ⟨b, o, none⟩ = some iv ∧ Row w iv 8 x.ins (InsC w)
  c1 : w.cell? ⟨b, o + 1, none⟩ = some (.int .i64 x.fin.kind)
  c2 : w.cell? ⟨b, o + 2, none⟩ = some (.int .i64 x.fin.reg)
  c3 : ∃ av, w.cell? ⟨b, o + 3, none⟩ = some av ∧ Sl w av (ints x.fin.args)
  c4 : w.cell? ⟨b, o + 4, none⟩ = some (.int .i64 x.fin.to)
  c5 : w.cell? ⟨b, o + 5, none⟩ = some (.int .i64 x.fin.next)
  c6 : w.cell? ⟨b, o + 6, none⟩ = some (.int .i64 x.fin.els)
structure PrcC (w : World) (x : Prc) (b o : Nat) : Prop where
  c0 : w.cell? ⟨b, o, none⟩ = some (.int .i64 x.params)
  c1 : w.cell? ⟨b, o + 1, none⟩ = some (.int .i64 x.holds)
  c2 : w.cell? ⟨b, o + 2, none⟩ = some (.int .i64 x.regs)
  c3 : ∃ bv, w.cell? ⟨b, o + 3, none⟩ = some bv ∧ Row w bv 7 x.blocks (BlkC w)
def CodeAt (w : World) (v : Value) (c : Code) : Prop := Row w v 4 c (PrcC w)
section
variable {w w' : World}
theorem cell_bel (hb : Below w.heap.size w w') {b o : Nat} (h : b < w.heap.size) : w'.cell? ⟨b, o, none⟩ = w.cell? ⟨b, o, none⟩ := World.cell?_of_block (a := ⟨b, o, none⟩) (hb.block b h)
theorem InsC.bel {x : Ins} {b o : Nat} (h : InsC w x b o) (hb : Below w.heap.size w w') (hl : b < w.heap.size) : InsC w' x b o := by
  obtain ⟨h0, h1, ⟨av, h2, h2'⟩, h3, h4, h5, ⟨lv, h6, h6'⟩, h7⟩ := h
  exact ⟨(cell_bel hb hl).trans h0, (cell_bel hb hl).trans h1, ⟨av, (cell_bel hb hl).trans h2, h2'.below hb (Nat.le_refl _)⟩, (cell_bel hb hl).trans h3, (cell_bel hb hl).trans h4, (cell_bel hb hl).trans h5, ⟨lv, (cell_bel hb hl).trans h6, h6'.bel hb (Nat.le_refl _)⟩, (cell_bel hb hl).trans h7⟩
theorem BlkC.bel {x : Blk} {b o : Nat} (h : BlkC w x b o) (hb : Below w.heap.size w w') (hl : b < w.heap.size) : BlkC w' x b o := by
  obtain ⟨⟨iv, h0, h0'⟩, h1, h2, ⟨av, h3, h3'⟩, h4, h5, h6⟩ := h
  exact ⟨⟨iv, (cell_bel hb hl).trans h0, h0'.mono hb.size fun _ _ b o hl h => InsC.bel h hb hl⟩, (cell_bel hb hl).trans h1, (cell_bel hb hl).trans h2, ⟨av, (cell_bel hb hl).trans h3, h3'.below hb (Nat.le_refl _)⟩, (cell_bel hb hl).trans h4, (cell_bel hb hl).trans h5, (cell_bel hb hl).trans h6⟩
theorem PrcC.bel {x : Prc} {b o : Nat} (h : PrcC w x b o) (hb : Below w.heap.size w w') (hl : b < w.heap.size) : PrcC w' x b o := by
  obtain ⟨h0, h1, h2, ⟨bv, h3, h3'⟩⟩ := h
  exact ⟨(cell_bel hb hl).trans h0, (cell_bel hb hl).trans h1, (cell_bel hb hl).trans h2, ⟨bv, (cell_bel hb hl).trans h3, h3'.mono hb.size fun _ _ b o hl h => BlkC.bel h hb hl⟩⟩
theorem CodeAt.bel {v : Value} {c : Code} (h : CodeAt w v c) (hb : Below w.heap.size w w') : CodeAt w' v c := Row.mono h hb.size fun _ _ b o hl h => PrcC.bel h hb hl
end
inductive FrAt (w : World) (ρ : Nat → Nat) (H : Nat → Value) : List Fr → Value → Prop
  | nil : FrAt w ρ H [] (.pointer none)
  | cons (f : Fr) (fs : List Fr) (b : Nat) (rv up : Value) (hb : w.heap[b]? = some (.cells #[.int .i64 f.proc, rv, H f.cl, .int .i64 f.to, .int .i64 f.next, up] 100 (0, 0))) (hr : ρ b = 6)
      (hrow : w.ownsRow 0 64 3 rv f.regs.length (Hp.flatV f.regs)) (hrr : ∀ k, rv.ownBlock = some k → ρ k = 6) (hup : FrAt w ρ H fs up) : FrAt w ρ H (f :: fs) (.pointer (some ⟨b, 0, none⟩))
structure ClAt (w : World) (ρ : Nat → Nat) (H : Nat → Value) (k : Cl) (cb : Nat) : Prop where
  blk : ∃ fv, w.heap[cb]? = some (.cells #[.int .i64 k.proc, H k.key, .bool k.kont, fv] 73 (0, 0)) ∧ FrAt w ρ H k.frs fv
  role : ρ cb = 6
  row : w.ownsRow 0 64 3 (H k.key) k.held.length (Hp.flatV k.held)
  rr : ∀ b, (H k.key).ownBlock = some b → ρ b = 7 + k.key
def mapL : List Cl → List Nat → List (Int × Value)
  | k :: C, b :: L => ((k.key : Int), .pointer (some ⟨b, 0, none⟩)) :: mapL C L
  | _, _ => []
structure VmC (w0 w : World) (ρ : Nat → Nat) (H : Nat → Value) (m hb mb : Nat) (T : List Hp.Th) (C : List Cl) (out : List UInt8) (regs : List Hp.V) (frs : List Fr) (ov rv fv : Value) (cbs : List Nat) : Prop where
  heap : HSt w 83 hb (fun b => ρ b = 5) T
  map : AMap (fun n : Int => Value.int .i64 n) w mb (mapL C cbs)
  mr : ρ mb = 2
  len : cbs.length = C.length
  cls : ∀ (i : Nat) (k : Cl) (cb : Nat), C[i]? = some k → cbs[i]? = some cb → ClAt w ρ H k cb
  out : w.ownsRow 0 5 1 ov out.length (bytes out)
  outr : ∀ b, ov.ownBlock = some b → ρ b = 3
  regs : w.ownsRow 0 64 3 rv regs.length (Hp.flatV regs)
  regr : ∀ b, rv.ownBlock = some b → ρ b = 4
  frs : FrAt w ρ H frs fv
  me : ρ m = 1
  lo : ∀ b, ρ b ≠ 0 → w0.heap.size ≤ b ∧ b < w.heap.size
  below : Below w0.heap.size w0 w
  keys : ∀ k ∈ C, k.key < T.length
def mCells (cv : Value) (H : Nat → Value) (hb mb : Nat) (s : St) (left steps : Nat) (ov rv fv : Value) : Array Value :=
  #[cv, .pointer (some ⟨hb, 0, none⟩), .map (some mb), .string ⟨s.input.toArray⟩, ov, .int .i64 s.winders.kind, .int .i64 s.winders.int, .string s.winders.text, .int .i64 steps, .int .i64 left, .int .i64 s.e,
    .int .i64 s.proc, rv, H s.cl, .int .i64 s.block, fv, .bool s.done, .int .i64 s.told.kind, .int .i64 s.told.int, .string s.told.text]
structure VmO (w0 w : World) (ρ : Nat → Nat) (H : Nat → Value) (m : Nat) (cv : Value) (s : St) (left steps : Nat) (hb mb : Nat) (ov rv fv : Value) (cbs : List Nat) : Prop where
  c : VmC w0 w ρ H m hb mb s.T s.cls s.out s.regs s.frs ov rv fv cbs
  blk : w.heap[m]? = some (.cells (mCells cv H hb mb s left steps ov rv fv) 69 (0, 0))
def VmAt (w0 w : World) (m : Nat) (cv : Value) (s : St) (left steps : Nat) : Prop := ∃ ρ H hb mb ov rv fv cbs, VmO w0 w ρ H m cv s left steps hb mb ov rv fv cbs
section
variable {w0 w w' : World} {ρ : Nat → Nat} {H : Nat → Value} {m hb mb : Nat} {T : List Hp.Th} {C : List Cl} {out : List UInt8} {regs : List Hp.V} {frs : List Fr} {ov rv fv cv : Value} {cbs : List Nat} {s : St} {left steps : Nat}
theorem FrAt.keep {ρ' : Nat → Nat} {H' : Nat → Value} (h : FrAt w ρ H frs fv) (hk : ∀ b, b < w.heap.size → ρ b = 6 → w'.heap[b]? = w.heap[b]? ∧ ρ' b = 6) (hH : ∀ f ∈ frs, H' f.cl = H f.cl) : FrAt w' ρ' H' frs fv := by
  induction h with
  | nil => exact .nil
  | cons f fs b rv up hb hr hrow hrr hup ih =>
    have hbl := (Array.getElem?_eq_some_iff.1 hb).1
    refine .cons f fs b rv up ((hk b hbl hr).1.trans ?_) (hk b hbl hr).2 (own_same hrow fun k e => (hk k (hrow.lt k e).2 (hrr k e)).1) (fun k e => (hk k (hrow.lt k e).2 (hrr k e)).2) (ih fun g hg => hH g (List.mem_cons_of_mem _ hg))
    rw [hH f (List.mem_cons_self ..)]
    exact hb
theorem ClAt.keep {ρ' : Nat → Nat} {H' : Nat → Value} {k : Cl} {cb : Nat} (h : ClAt w ρ H k cb) (hk : ∀ b, b < w.heap.size → ρ b = 6 ∨ ρ b = 7 + k.key → w'.heap[b]? = w.heap[b]? ∧ ρ' b = ρ b) (hH : H' k.key = H k.key) (hF : ∀ f ∈ k.frs, H' f.cl = H f.cl) : ClAt w' ρ' H' k cb := by
  obtain ⟨⟨fv, h1, h2⟩, h3, h4, h5⟩ := h
  have hbl := (Array.getElem?_eq_some_iff.1 h1).1
  refine ⟨⟨fv, (hk cb hbl (.inl h3)).1.trans (hH ▸ h1), h2.keep (fun b hb e => ⟨(hk b hb (.inl e)).1, (hk b hb (.inl e)).2.trans e⟩) hF⟩, (hk cb hbl (.inl h3)).2.trans h3, ?_, ?_⟩
  · rw [hH]
    exact own_same h4 fun b e => (hk b (h4.lt b e).2 (.inr (h5 b e))).1
  · rw [hH]
    exact fun b e => (hk b (h4.lt b e).2 (.inr (h5 b e))).2.trans (h5 b e)
theorem VmC.keep (h : VmC w0 w ρ H m hb mb T C out regs frs ov rv fv cbs) (hs : w.heap.size ≤ w'.heap.size) (hB : Below w0.heap.size w0 w') (hk : ∀ b, b < w.heap.size → 2 ≤ ρ b → w'.heap[b]? = w.heap[b]?) : VmC w0 w' ρ H m hb mb T C out regs frs ov rv fv cbs := by
  obtain ⟨h1, h2, h3, h4, h5, h6, h7, h8, h9, h10, h11, h12, h13, h14⟩ := h
  refine ⟨h1.keep hs fun b e => hk b (h1.lt b e) (by omega), h2.kept (hk mb h2.lt (by omega)), h3, h4, fun i k cb hi hc => (h5 i k cb hi hc).keep (fun b hb e => ⟨hk b hb (by omega), rfl⟩) rfl fun _ _ => rfl, own_same h6 fun b e => hk b (h6.lt b e).2 (by have := h7 b e; omega), h7, own_same h8 fun b e => hk b (h8.lt b e).2 (by have := h9 b e; omega), h9, h10.keep (fun b hb e => ⟨hk b hb (by omega), e⟩) fun _ _ => rfl, h11, fun b e => ⟨(h12 b e).1, Nat.lt_of_lt_of_le (h12 b e).2 hs⟩, hB, h14⟩
theorem VmC.bel (h : VmC w0 w ρ H m hb mb T C out regs frs ov rv fv cbs) (hB : Below w.heap.size w w') : VmC w0 w' ρ H m hb mb T C out regs frs ov rv fv cbs :=
  h.keep hB.size (h.below.trans (hB.mono h.below.size)) fun b hb _ => hB.block b hb
theorem VmO.bel (h : VmO w0 w ρ H m cv s left steps hb mb ov rv fv cbs) (hB : Below w.heap.size w w') : VmO w0 w' ρ H m cv s left steps hb mb ov rv fv cbs :=
  ⟨h.c.bel hB, (hB.block m (Array.getElem?_eq_some_iff.1 h.blk).1).trans h.blk⟩
theorem VmAt.bel (h : VmAt w0 w m cv s left steps) (hB : Below w.heap.size w w') : VmAt w0 w' m cv s left steps := by
  obtain ⟨ρ, H, hb, mb, ov, rv, fv, cbs, h⟩ := h
  exact ⟨ρ, H, hb, mb, ov, rv, fv, cbs, h.bel hB⟩
theorem VmO.lt (h : VmO w0 w ρ H m cv s left steps hb mb ov rv fv cbs) : m < w.heap.size := (Array.getElem?_eq_some_iff.1 h.blk).1
theorem VmO.cell (h : VmO w0 w ρ H m cv s left steps hb mb ov rv fv cbs) (i : Nat) : w.cell? ⟨m, i, none⟩ = (mCells cv H hb mb s left steps ov rv fv)[i]? := cell_of_row w m i _ _ _ h.blk
theorem VmO.fz (h : VmO w0 w ρ H m cv s left steps hb mb ov rv fv cbs) (i : Nat) : w.frozen? ⟨m, i, none⟩ = false := frozen_of_row w m i _ _ h.blk
theorem VmO.set (h : VmO w0 w ρ H m cv s left steps hb mb ov rv fv cbs) (i : Nat) (v : Value) {s' : St} {left' steps' : Nat} (hT : s'.T = s.T) (hC : s'.cls = s.cls) (hO : s'.out = s.out) (hR : s'.regs = s.regs) (hF : s'.frs = s.frs)
    (he : (mCells cv H hb mb s left steps ov rv fv).setIfInBounds i v = mCells cv H hb mb s' left' steps' ov rv fv) : VmO w0 (w.setCell ⟨m, i, none⟩ v) ρ H m cv s' left' steps' hb mb ov rv fv cbs := by
  have hsize : (w.setCell ⟨m, i, none⟩ v).heap.size = w.heap.size := by simp [World.setCell]
  have hlo := h.c.lo m (by rw [h.c.me]; decide)
  refine ⟨?_, he ▸ heap_setCell_same _ m i _ _ v h.blk⟩
  rw [hT, hC, hO, hR, hF]
  exact h.c.keep (by rw [hsize]; exact Nat.le_refl _) (h.c.below.setCell (p := ⟨m, i, none⟩) hlo.1 _) fun b hb e => heap_setCell_other _ _ _ _ (fun e2 => by rw [e2, h.c.me] at e; omega)
end
end Vm
end Go.Proofs.Ytalfnaielhbocaa
namespace Go.Proofs.Ytalfnaielhbocaa
open Go.RowKit
set_option linter.unusedVariables false
set_option linter.unusedSimpArgs false
set_option maxRecDepth 100000
namespace Vm
def procV (p : Prc) (bv : Value) : Value := .agg #[.int .i64 p.params, .int .i64 p.holds, .int .i64 p.regs, bv]
theorem regsB_take {p : Prc} {l : List Int} {k : Nat} {r : Int} (h : (l.take k).all (fun r => decide (0 ≤ r) && decide (r < p.regs)) = true) (hr : l[k]? = some r) (h1 : 0 ≤ r) (h2 : r < p.regs) : (l.take (k + 1)).all (fun r => decide (0 ≤ r) && decide (r < p.regs)) = true := by
  rw [List.take_add_one, hr, List.all_append, h]
  simp [h1, h2]
set_option maxHeartbeats 2000000 in
theorem regs_any (p : Prc) (bv : Value) (hbv : ∃ a n c, bv = .slice a n c) (lv : Value) (l : List Int) (w : World) (hl : Sl w lv (ints l)) (hlen : l.length ≤ 9223372036854775807) :
    Calls Try.prog 43 #[procV p bv, lv] w fun e w' => e = .returned (.bool (regsB p l)) ∧ Below w.heap.size w w' := by
  obtain ⟨al, cl, rfl⟩ := hl.len
  obtain ⟨ab, nb, cb, rfl⟩ := hbv
  have hil : (ints l).length = l.length := by simp [ints]
  rw [hil] at hl ⊢
  have HL := Lib.hid hl
  clear hl
  unfold procV
  go_enter Try.func43, Try.ntmps43
  go_wp2_with fail
  go_loopg [6, 9] l.length (fun gk s6 s9 wx => ∃ k : Nat, k ≤ l.length ∧ gk = l.length - k ∧ s9 = .int .i64 k ∧ Hid (Below (w.heap.size + 1) (w.alloc (.cells #[.int .i64 p.params, .int .i64 p.holds, .int .i64 p.regs, .slice ab nb cb] 40)) wx) ∧ Hid ((l.take k).all (fun r => decide (0 ≤ r) && decide (r < p.regs)) = true))
  case atStart => exact ⟨0, Nat.zero_le _, rfl, rfl, Below.refl _ _, rfl⟩
  case round =>
    obtain ⟨k, hk, rfl, rfl, HB, HA⟩ := hrel
    have hs := HB.out.size
    have hbox : wr.heap[w.heap.size]? = some (.cells #[.int .i64 p.params, .int .i64 p.holds, .int .i64 p.regs, .slice ab nb cb] 40 (0, 0)) := (HB.out.block _ (by omega)).trans (heap_alloc_new w _)
    have b2 : wr.cell? ⟨w.heap.size, 2, none⟩ = some (.int .i64 p.regs) := cell_of_row wr _ 2 _ _ _ hbox
    have hqw : w.heap.size < wr.heap.size := (Array.getElem?_eq_some_iff.1 hbox).1
    have hW : Below w.heap.size w wr := ((Below.refl _ _).alloc (Nat.le_refl _) _).trans (HB.out.mono (by omega))
    clear hbox
    by_cases hlt : k < l.length
    · obtain ⟨r, hr⟩ : ∃ r, l[k]? = some r := ⟨_, List.getElem?_eq_getElem hlt⟩
      have hne : ints l ≠ [] := fun e => by rw [e] at hil; simp at hil; omega
      have hsl := HL.out
      rw [← hil] at hsl
      obtain ⟨b, off, rfl, hbl, hcs⟩ := hsl.at hne
      have e0 := hcs k (by omega)
      rw [show (ints l).getD k undef = .int .i64 r by rw [List.getD_eq_getElem?_getD]; simp [ints, hr]] at e0
      rw [← cell_bel hW hbl] at e0
      have hbw : b < wr.heap.size := Nat.lt_of_lt_of_le hbl hW.size
      have hg1 : (0 : Int) ≤ k := by omega
      have hg2 : (k : Int) < l.length := by omega
      have hgk : IntKind.i64.wrap ((k : Int) + 1) = k + 1 := by rw [IntKind.wrap_i64]; omega
      have HR := Lib.hid hr
      have HW := Lib.hid hW
      clear hcs hr hsl hW
      by_cases h1 : r < 0
      · have g1 : decide (r < 0) = true := decide_eq_true h1
        go_wp2_with fail
        go_ret
        refine ⟨?_, HW.out⟩
        have : regsB p l = false := by
          unfold regsB
          rw [List.all_eq_false]
          exact ⟨r, List.mem_of_getElem? HR.out, by simp; omega⟩
        rw [this]
        rfl
      · by_cases h2 : p.regs ≤ r
        · have g1 : decide (r < 0) = false := decide_eq_false h1
          have g2 : decide (p.regs ≤ r) = true := decide_eq_true h2
          go_wp2_with fail
          go_ret
          refine ⟨?_, HW.out⟩
          have : regsB p l = false := by
            unfold regsB
            rw [List.all_eq_false]
            exact ⟨r, List.mem_of_getElem? HR.out, by simp; omega⟩
          rw [this]
          rfl
        · have g1 : decide (r < 0) = false := decide_eq_false h1
          have g2 : decide (p.regs ≤ r) = false := decide_eq_false h2
          go_wp2_with fail
          go_roundg (l.length - (k + 1))
          case measure => omega
          case rel => exact ⟨k + 1, by omega, rfl, by go_num, HB.out, regsB_take HA.out HR.out (by omega) (by omega)⟩
    · obtain rfl : k = l.length := by omega
      have HW := Lib.hid hW
      clear hW
      go_wp2_with fail
      go_ret
      refine ⟨?_, HW.out⟩
      have h := HA.out
      rw [List.take_length] at h
      have : regsB p l = true := h
      rw [this]
      rfl
theorem blocksB_take {p : Prc} {l : List Int} {k : Nat} {r : Int} (h : (l.take k).all (fun r => decide (0 ≤ r) && decide (r < (p.blocks.length : Int))) = true) (hr : l[k]? = some r) (h1 : 0 ≤ r) (h2 : r < (p.blocks.length : Int)) : (l.take (k + 1)).all (fun r => decide (0 ≤ r) && decide (r < (p.blocks.length : Int))) = true := by
  rw [List.take_add_one, hr, List.all_append, h]
  simp [h1, h2]
set_option maxHeartbeats 2000000 in
theorem blocks_any (p : Prc) (bv : Value) (hbv : ∃ a c, bv = .slice a p.blocks.length c) (lv : Value) (l : List Int) (w : World) (hl : Sl w lv (ints l)) (hlen : l.length ≤ 9223372036854775807) :
    Calls Try.prog 46 #[procV p bv, lv] w fun e w' => e = .returned (.bool (l.all (blockB p))) ∧ Below w.heap.size w w' := by
  obtain ⟨al, cl, rfl⟩ := hl.len
  obtain ⟨ab, cb, rfl⟩ := hbv
  have hil : (ints l).length = l.length := by simp [ints]
  rw [hil] at hl ⊢
  have HL := Lib.hid hl
  clear hl
  unfold procV
  go_enter Try.func46, Try.ntmps46
  go_wp2_with fail
  go_loopg [6, 9] l.length (fun gk s6 s9 wx => ∃ k : Nat, k ≤ l.length ∧ gk = l.length - k ∧ s9 = .int .i64 k ∧ Hid (Below (w.heap.size + 1) (w.alloc (.cells #[.int .i64 p.params, .int .i64 p.holds, .int .i64 p.regs, .slice ab p.blocks.length cb] 40)) wx) ∧ Hid ((l.take k).all (fun r => decide (0 ≤ r) && decide (r < (p.blocks.length : Int))) = true))
  case atStart => exact ⟨0, Nat.zero_le _, rfl, rfl, Below.refl _ _, rfl⟩
  case round =>
    obtain ⟨k, hk, rfl, rfl, HB, HA⟩ := hrel
    have hs := HB.out.size
    have hbox : wr.heap[w.heap.size]? = some (.cells #[.int .i64 p.params, .int .i64 p.holds, .int .i64 p.regs, .slice ab p.blocks.length cb] 40 (0, 0)) := (HB.out.block _ (by omega)).trans (heap_alloc_new w _)
    have b2 : wr.cell? ⟨w.heap.size, 3, none⟩ = some (.slice ab p.blocks.length cb) := cell_of_row wr _ 3 _ _ _ hbox
    have hqw : w.heap.size < wr.heap.size := (Array.getElem?_eq_some_iff.1 hbox).1
    have hW : Below w.heap.size w wr := ((Below.refl _ _).alloc (Nat.le_refl _) _).trans (HB.out.mono (by omega))
    clear hbox
    by_cases hlt : k < l.length
    · obtain ⟨r, hr⟩ : ∃ r, l[k]? = some r := ⟨_, List.getElem?_eq_getElem hlt⟩
      have hne : ints l ≠ [] := fun e => by rw [e] at hil; simp at hil; omega
      have hsl := HL.out
      rw [← hil] at hsl
      obtain ⟨b, off, rfl, hbl, hcs⟩ := hsl.at hne
      have e0 := hcs k (by omega)
      rw [show (ints l).getD k undef = .int .i64 r by rw [List.getD_eq_getElem?_getD]; simp [ints, hr]] at e0
      rw [← cell_bel hW hbl] at e0
      have hbw : b < wr.heap.size := Nat.lt_of_lt_of_le hbl hW.size
      have hg1 : (0 : Int) ≤ k := by omega
      have hg2 : (k : Int) < l.length := by omega
      have hgk : IntKind.i64.wrap ((k : Int) + 1) = k + 1 := by rw [IntKind.wrap_i64]; omega
      have HR := Lib.hid hr
      have HW := Lib.hid hW
      clear hcs hr hsl hW
      by_cases h1 : r < 0
      · have g1 : decide (r < 0) = true := decide_eq_true h1
        go_wp2_with fail
        go_ret
        refine ⟨?_, HW.out⟩
        have : l.all (blockB p) = false := by
          unfold blockB
          rw [List.all_eq_false]
          exact ⟨r, List.mem_of_getElem? HR.out, by simp; omega⟩
        rw [this]
        rfl
      · by_cases h2 : (p.blocks.length : Int) ≤ r
        · have g1 : decide (r < 0) = false := decide_eq_false h1
          have g2 : decide ((p.blocks.length : Int) ≤ r) = true := decide_eq_true h2
          go_wp2_with fail
          go_ret
          refine ⟨?_, HW.out⟩
          have : l.all (blockB p) = false := by
            unfold blockB
            rw [List.all_eq_false]
            exact ⟨r, List.mem_of_getElem? HR.out, by simp; omega⟩
          rw [this]
          rfl
        · have g1 : decide (r < 0) = false := decide_eq_false h1
          have g2 : decide ((p.blocks.length : Int) ≤ r) = false := decide_eq_false h2
          go_wp2_with fail
          go_roundg (l.length - (k + 1))
          case measure => omega
          case rel => exact ⟨k + 1, by omega, rfl, by go_num, HB.out, blocksB_take HA.out HR.out (by omega) (by omega)⟩
    · obtain rfl : k = l.length := by omega
      have HW := Lib.hid hW
      clear hW
      go_wp2_with fail
      go_ret
      refine ⟨?_, HW.out⟩
      have h := HA.out
      rw [List.take_length] at h
      have : l.all (blockB p) = true := h
      rw [this]
      rfl
set_option maxHeartbeats 1000000 in
theorem isConst_any (d : Dt) (v : Value) (w : World) (hd : DtAt w (fun _ => True) v d) (hf : Dt.Fit d) : Calls Try.prog 44 #[v] w fun e w' => e = .returned (.bool (constF d).2) ∧ Below w.heap.size w w' := by
  obtain ⟨a, c, rfl, _⟩ := hd.inv
  obtain ⟨w1, hw1⟩ : ∃ w1, w1 = w.alloc (.cells #[.int .i64 d.kind, .int .i64 d.int, .string d.text, .slice a d.list.length c] 31) := ⟨_, rfl⟩
  have hB : Below w.heap.size w w1 := by rw [hw1]; exact (Below.refl _ _).alloc (Nat.le_refl _) _
  have HC := Lib.hid (dconst_any d _ w1 (hd.bel hB (Nat.le_refl _)) hf)
  have HW := Lib.hid hw1
  have HB := Lib.hid hB
  unfold CnPost at HC
  obtain ⟨⟨rk, ri, rt⟩, rb, hr⟩ : ∃ v b, constF d = (v, b) := ⟨_, _, rfl⟩
  rw [hr] at HC ⊢
  clear hd hf hw1 hB
  go_enter Try.func44, Try.ntmps44
  go_wp2_with fail
  rw [← HW.out]
  with_reducible refine HC.out.mono ?_
  rintro e w3 ⟨rfl, hb3⟩
  have HB3 := Lib.hid (HB.out.trans (hb3.mono HB.out.size))
  have hw3 : w.heap.size ≤ w3.heap.size := Nat.le_trans HB.out.size hb3.size
  clear hb3
  go_wp2_with fail
  go_ret
  exact ⟨rfl, by first | exact HB3.out | exact HB3.out.alloc hw3 _⟩
end Vm
end Go.Proofs.Ytalfnaielhbocaa
namespace Go.Proofs.Ytalfnaielhbocaa
open Go.RowKit
set_option linter.unusedVariables false
set_option linter.unusedSimpArgs false
set_option maxRecDepth 100000
namespace Vm
set_option maxHeartbeats 16000000 in
theorem arity_at0 : ∀ x ∈ prims0, ∀ w : World, Calls Try.prog 42 #[.string x] w fun e w' => e = .returned (.int .i64 0) ∧ w = w' := by
  intro x hx
  simp only [prims0, prims1, prims2, prims3, sRead, sError, sWinders, sWrite, sWind, sCallcc, List.mem_cons, List.not_mem_nil, or_false] at hx
  rcases hx with rfl | rfl | rfl | rfl | rfl
  all_goals
    intro w
    go_enter Try.func42, Try.ntmps42
    go_wp2_with fail
    go_ret
    exact ⟨rfl, rfl⟩
set_option maxHeartbeats 16000000 in
theorem arity_at1 : ∀ x ∈ prims1, ∀ w : World, Calls Try.prog 42 #[.string x] w fun e w' => e = .returned (.int .i64 1) ∧ w = w' := by
  intro x hx
  simp only [prims0, prims1, prims2, prims3, sRead, sError, sWinders, sWrite, sWind, sCallcc, List.mem_cons, List.not_mem_nil, or_false] at hx
  rcases hx with rfl | rfl | rfl | rfl | rfl | rfl | rfl | rfl | rfl | rfl | rfl | rfl | rfl | rfl | rfl | rfl | rfl | rfl | rfl | rfl | rfl
  all_goals
    intro w
    go_enter Try.func42, Try.ntmps42
    go_wp2_with fail
    go_ret
    exact ⟨rfl, rfl⟩
set_option maxHeartbeats 16000000 in
theorem arity_at2 : ∀ x ∈ prims2, ∀ w : World, Calls Try.prog 42 #[.string x] w fun e w' => e = .returned (.int .i64 2) ∧ w = w' := by
  intro x hx
  simp only [prims0, prims1, prims2, prims3, sRead, sError, sWinders, sWrite, sWind, sCallcc, List.mem_cons, List.not_mem_nil, or_false] at hx
  rcases hx with rfl | rfl | rfl | rfl | rfl | rfl | rfl | rfl | rfl | rfl | rfl | rfl | rfl | rfl | rfl | rfl
  all_goals
    intro w
    go_enter Try.func42, Try.ntmps42
    go_wp2_with fail
    go_ret
    exact ⟨rfl, rfl⟩
set_option maxHeartbeats 16000000 in
theorem arity_at3 : ∀ x ∈ prims3, ∀ w : World, Calls Try.prog 42 #[.string x] w fun e w' => e = .returned (.int .i64 3) ∧ w = w' := by
  intro x hx
  simp only [prims0, prims1, prims2, prims3, sRead, sError, sWinders, sWrite, sWind, sCallcc, List.mem_cons, List.not_mem_nil, or_false] at hx
  rcases hx with rfl | rfl
  all_goals
    intro w
    go_enter Try.func42, Try.ntmps42
    go_wp2_with fail
    go_ret
    exact ⟨rfl, rfl⟩
theorem inN_no {l : List ByteArray} {s : ByteArray} (h : inN l s = false) : ∀ x ∈ l, s ≠ x := fun x hx e => by
  unfold inN at h
  rw [List.any_eq_false] at h
  exact h x hx (by simp [e])
theorem ba_no {p : ByteArray} {l : List UInt8} (h : p ≠ ⟨l.toArray⟩) : (p.toList == l) = false := by
  rw [beq_eq_false_iff_ne]
  intro e
  apply h
  rw [Lib.toList_data] at e
  obtain ⟨d⟩ := p
  rw [← e]
set_option maxHeartbeats 16000000 in
theorem arity_any (s : ByteArray) (w : World) : Calls Try.prog 42 #[.string s] w fun e w' => e = .returned (.int .i64 (Vm.arity s)) ∧ w = w' := by
  cases h0 : inN prims0 s with
  | true =>
    have e : Vm.arity s = 0 := by unfold Vm.arity; rw [h0]; rfl
    rw [e]
    obtain ⟨x, hx, he⟩ : ∃ x ∈ prims0, s = x := by
      unfold inN at h0
      obtain ⟨x, hx, he⟩ := List.any_eq_true.1 h0
      exact ⟨x, hx, by simpa using (of_decide_eq_true he).symm⟩
    subst he
    exact arity_at0 s hx w
  | false =>
    cases h1 : inN prims1 s with
    | true =>
      have e : Vm.arity s = 1 := by unfold Vm.arity; rw [h0, h1]; rfl
      rw [e]
      obtain ⟨x, hx, he⟩ : ∃ x ∈ prims1, s = x := by
        unfold inN at h1
        obtain ⟨x, hx, he⟩ := List.any_eq_true.1 h1
        exact ⟨x, hx, by simpa using (of_decide_eq_true he).symm⟩
      subst he
      exact arity_at1 s hx w
    | false =>
      cases h2 : inN prims2 s with
      | true =>
        have e : Vm.arity s = 2 := by unfold Vm.arity; rw [h0, h1, h2]; rfl
        rw [e]
        obtain ⟨x, hx, he⟩ : ∃ x ∈ prims2, s = x := by
          unfold inN at h2
          obtain ⟨x, hx, he⟩ := List.any_eq_true.1 h2
          exact ⟨x, hx, by simpa using (of_decide_eq_true he).symm⟩
        subst he
        exact arity_at2 s hx w
      | false =>
        cases h3 : inN prims3 s with
        | true =>
          have e : Vm.arity s = 3 := by unfold Vm.arity; rw [h0, h1, h2, h3]; rfl
          rw [e]
          obtain ⟨x, hx, he⟩ : ∃ x ∈ prims3, s = x := by
            unfold inN at h3
            obtain ⟨x, hx, he⟩ := List.any_eq_true.1 h3
            exact ⟨x, hx, by simpa using (of_decide_eq_true he).symm⟩
          subst he
          exact arity_at3 s hx w
        | false =>
          have e : Vm.arity s = -1 := by unfold Vm.arity; rw [h0, h1, h2, h3]; rfl
          rw [e]
          have q0 : (s.toList == [114, 101, 97, 100, 45, 117, 56]) = false := ba_no (inN_no h0 ⟨#[114, 101, 97, 100, 45, 117, 56]⟩ (by simp [prims0, sRead, sError, sWinders, sWrite, sWind, sCallcc]))
          have q1 : (s.toList == [101, 114, 114, 111, 114]) = false := ba_no (inN_no h0 ⟨#[101, 114, 114, 111, 114]⟩ (by simp [prims0, sRead, sError, sWinders, sWrite, sWind, sCallcc]))
          have q2 : (s.toList == [118, 111, 105, 100]) = false := ba_no (inN_no h0 ⟨#[118, 111, 105, 100]⟩ (by simp [prims0, sRead, sError, sWinders, sWrite, sWind, sCallcc]))
          have q3 : (s.toList == [37, 119, 105, 110, 100, 101, 114, 115]) = false := ba_no (inN_no h0 ⟨#[37, 119, 105, 110, 100, 101, 114, 115]⟩ (by simp [prims0, sRead, sError, sWinders, sWrite, sWind, sCallcc]))
          have q4 : (s.toList == [37, 117, 110, 115, 101, 116]) = false := ba_no (inN_no h0 ⟨#[37, 117, 110, 115, 101, 116]⟩ (by simp [prims0, sRead, sError, sWinders, sWrite, sWind, sCallcc]))
          have q5 : (s.toList == [110, 117, 108, 108, 63]) = false := ba_no (inN_no h1 ⟨#[110, 117, 108, 108, 63]⟩ (by simp [prims1, sRead, sError, sWinders, sWrite, sWind, sCallcc]))
          have q6 : (s.toList == [112, 97, 105, 114, 63]) = false := ba_no (inN_no h1 ⟨#[112, 97, 105, 114, 63]⟩ (by simp [prims1, sRead, sError, sWinders, sWrite, sWind, sCallcc]))
          have q7 : (s.toList == [118, 101, 99, 116, 111, 114, 63]) = false := ba_no (inN_no h1 ⟨#[118, 101, 99, 116, 111, 114, 63]⟩ (by simp [prims1, sRead, sError, sWinders, sWrite, sWind, sCallcc]))
          have q8 : (s.toList == [115, 116, 114, 105, 110, 103, 63]) = false := ba_no (inN_no h1 ⟨#[115, 116, 114, 105, 110, 103, 63]⟩ (by simp [prims1, sRead, sError, sWinders, sWrite, sWind, sCallcc]))
          have q9 : (s.toList == [115, 121, 109, 98, 111, 108, 63]) = false := ba_no (inN_no h1 ⟨#[115, 121, 109, 98, 111, 108, 63]⟩ (by simp [prims1, sRead, sError, sWinders, sWrite, sWind, sCallcc]))
          have q10 : (s.toList == [99, 104, 97, 114, 63]) = false := ba_no (inN_no h1 ⟨#[99, 104, 97, 114, 63]⟩ (by simp [prims1, sRead, sError, sWinders, sWrite, sWind, sCallcc]))
          have q11 : (s.toList == [105, 110, 116, 101, 103, 101, 114, 63]) = false := ba_no (inN_no h1 ⟨#[105, 110, 116, 101, 103, 101, 114, 63]⟩ (by simp [prims1, sRead, sError, sWinders, sWrite, sWind, sCallcc]))
          have q12 : (s.toList == [98, 111, 111, 108, 101, 97, 110, 63]) = false := ba_no (inN_no h1 ⟨#[98, 111, 111, 108, 101, 97, 110, 63]⟩ (by simp [prims1, sRead, sError, sWinders, sWrite, sWind, sCallcc]))
          have q13 : (s.toList == [112, 114, 111, 99, 101, 100, 117, 114, 101, 63]) = false := ba_no (inN_no h1 ⟨#[112, 114, 111, 99, 101, 100, 117, 114, 101, 63]⟩ (by simp [prims1, sRead, sError, sWinders, sWrite, sWind, sCallcc]))
          have q14 : (s.toList == [101, 111, 102, 45, 111, 98, 106, 101, 99, 116, 63]) = false := ba_no (inN_no h1 ⟨#[101, 111, 102, 45, 111, 98, 106, 101, 99, 116, 63]⟩ (by simp [prims1, sRead, sError, sWinders, sWrite, sWind, sCallcc]))
          have q15 : (s.toList == [99, 97, 114]) = false := ba_no (inN_no h1 ⟨#[99, 97, 114]⟩ (by simp [prims1, sRead, sError, sWinders, sWrite, sWind, sCallcc]))
          have q16 : (s.toList == [99, 100, 114]) = false := ba_no (inN_no h1 ⟨#[99, 100, 114]⟩ (by simp [prims1, sRead, sError, sWinders, sWrite, sWind, sCallcc]))
          have q17 : (s.toList == [118, 101, 99, 116, 111, 114, 45, 108, 101, 110, 103, 116, 104]) = false := ba_no (inN_no h1 ⟨#[118, 101, 99, 116, 111, 114, 45, 108, 101, 110, 103, 116, 104]⟩ (by simp [prims1, sRead, sError, sWinders, sWrite, sWind, sCallcc]))
          have q18 : (s.toList == [115, 116, 114, 105, 110, 103, 45, 108, 101, 110, 103, 116, 104]) = false := ba_no (inN_no h1 ⟨#[115, 116, 114, 105, 110, 103, 45, 108, 101, 110, 103, 116, 104]⟩ (by simp [prims1, sRead, sError, sWinders, sWrite, sWind, sCallcc]))
          have q19 : (s.toList == [99, 104, 97, 114, 45, 62, 105, 110, 116, 101, 103, 101, 114]) = false := ba_no (inN_no h1 ⟨#[99, 104, 97, 114, 45, 62, 105, 110, 116, 101, 103, 101, 114]⟩ (by simp [prims1, sRead, sError, sWinders, sWrite, sWind, sCallcc]))
          have q20 : (s.toList == [105, 110, 116, 101, 103, 101, 114, 45, 62, 99, 104, 97, 114]) = false := ba_no (inN_no h1 ⟨#[105, 110, 116, 101, 103, 101, 114, 45, 62, 99, 104, 97, 114]⟩ (by simp [prims1, sRead, sError, sWinders, sWrite, sWind, sCallcc]))
          have q21 : (s.toList == [119, 114, 105, 116, 101, 45, 117, 56]) = false := ba_no (inN_no h1 ⟨#[119, 114, 105, 116, 101, 45, 117, 56]⟩ (by simp [prims1, sRead, sError, sWinders, sWrite, sWind, sCallcc]))
          have q22 : (s.toList == [37, 98, 111, 120]) = false := ba_no (inN_no h1 ⟨#[37, 98, 111, 120]⟩ (by simp [prims1, sRead, sError, sWinders, sWrite, sWind, sCallcc]))
          have q23 : (s.toList == [37, 117, 110, 98, 111, 120]) = false := ba_no (inN_no h1 ⟨#[37, 117, 110, 98, 111, 120]⟩ (by simp [prims1, sRead, sError, sWinders, sWrite, sWind, sCallcc]))
          have q24 : (s.toList == [37, 119, 105, 110, 100, 33]) = false := ba_no (inN_no h1 ⟨#[37, 119, 105, 110, 100, 33]⟩ (by simp [prims1, sRead, sError, sWinders, sWrite, sWind, sCallcc]))
          have q25 : (s.toList == [37, 99, 97, 108, 108, 99, 99]) = false := ba_no (inN_no h1 ⟨#[37, 99, 97, 108, 108, 99, 99]⟩ (by simp [prims1, sRead, sError, sWinders, sWrite, sWind, sCallcc]))
          have q26 : (s.toList == [43]) = false := ba_no (inN_no h2 ⟨#[43]⟩ (by simp [prims2, sRead, sError, sWinders, sWrite, sWind, sCallcc]))
          have q27 : (s.toList == [45]) = false := ba_no (inN_no h2 ⟨#[45]⟩ (by simp [prims2, sRead, sError, sWinders, sWrite, sWind, sCallcc]))
          have q28 : (s.toList == [42]) = false := ba_no (inN_no h2 ⟨#[42]⟩ (by simp [prims2, sRead, sError, sWinders, sWrite, sWind, sCallcc]))
          have q29 : (s.toList == [113, 117, 111, 116, 105, 101, 110, 116]) = false := ba_no (inN_no h2 ⟨#[113, 117, 111, 116, 105, 101, 110, 116]⟩ (by simp [prims2, sRead, sError, sWinders, sWrite, sWind, sCallcc]))
          have q30 : (s.toList == [114, 101, 109, 97, 105, 110, 100, 101, 114]) = false := ba_no (inN_no h2 ⟨#[114, 101, 109, 97, 105, 110, 100, 101, 114]⟩ (by simp [prims2, sRead, sError, sWinders, sWrite, sWind, sCallcc]))
          have q31 : (s.toList == [60]) = false := ba_no (inN_no h2 ⟨#[60]⟩ (by simp [prims2, sRead, sError, sWinders, sWrite, sWind, sCallcc]))
          have q32 : (s.toList == [61]) = false := ba_no (inN_no h2 ⟨#[61]⟩ (by simp [prims2, sRead, sError, sWinders, sWrite, sWind, sCallcc]))
          have q33 : (s.toList == [101, 113, 63]) = false := ba_no (inN_no h2 ⟨#[101, 113, 63]⟩ (by simp [prims2, sRead, sError, sWinders, sWrite, sWind, sCallcc]))
          have q34 : (s.toList == [99, 111, 110, 115]) = false := ba_no (inN_no h2 ⟨#[99, 111, 110, 115]⟩ (by simp [prims2, sRead, sError, sWinders, sWrite, sWind, sCallcc]))
          have q35 : (s.toList == [115, 101, 116, 45, 99, 97, 114, 33]) = false := ba_no (inN_no h2 ⟨#[115, 101, 116, 45, 99, 97, 114, 33]⟩ (by simp [prims2, sRead, sError, sWinders, sWrite, sWind, sCallcc]))
          have q36 : (s.toList == [115, 101, 116, 45, 99, 100, 114, 33]) = false := ba_no (inN_no h2 ⟨#[115, 101, 116, 45, 99, 100, 114, 33]⟩ (by simp [prims2, sRead, sError, sWinders, sWrite, sWind, sCallcc]))
          have q37 : (s.toList == [109, 97, 107, 101, 45, 118, 101, 99, 116, 111, 114]) = false := ba_no (inN_no h2 ⟨#[109, 97, 107, 101, 45, 118, 101, 99, 116, 111, 114]⟩ (by simp [prims2, sRead, sError, sWinders, sWrite, sWind, sCallcc]))
          have q38 : (s.toList == [118, 101, 99, 116, 111, 114, 45, 114, 101, 102]) = false := ba_no (inN_no h2 ⟨#[118, 101, 99, 116, 111, 114, 45, 114, 101, 102]⟩ (by simp [prims2, sRead, sError, sWinders, sWrite, sWind, sCallcc]))
          have q39 : (s.toList == [109, 97, 107, 101, 45, 115, 116, 114, 105, 110, 103]) = false := ba_no (inN_no h2 ⟨#[109, 97, 107, 101, 45, 115, 116, 114, 105, 110, 103]⟩ (by simp [prims2, sRead, sError, sWinders, sWrite, sWind, sCallcc]))
          have q40 : (s.toList == [115, 116, 114, 105, 110, 103, 45, 114, 101, 102]) = false := ba_no (inN_no h2 ⟨#[115, 116, 114, 105, 110, 103, 45, 114, 101, 102]⟩ (by simp [prims2, sRead, sError, sWinders, sWrite, sWind, sCallcc]))
          have q41 : (s.toList == [37, 115, 101, 116, 45, 98, 111, 120, 33]) = false := ba_no (inN_no h2 ⟨#[37, 115, 101, 116, 45, 98, 111, 120, 33]⟩ (by simp [prims2, sRead, sError, sWinders, sWrite, sWind, sCallcc]))
          have q42 : (s.toList == [118, 101, 99, 116, 111, 114, 45, 115, 101, 116, 33]) = false := ba_no (inN_no h3 ⟨#[118, 101, 99, 116, 111, 114, 45, 115, 101, 116, 33]⟩ (by simp [prims3, sRead, sError, sWinders, sWrite, sWind, sCallcc]))
          have q43 : (s.toList == [115, 116, 114, 105, 110, 103, 45, 115, 101, 116, 33]) = false := ba_no (inN_no h3 ⟨#[115, 116, 114, 105, 110, 103, 45, 115, 101, 116, 33]⟩ (by simp [prims3, sRead, sError, sWinders, sWrite, sWind, sCallcc]))
          clear h0 h1 h2 h3 e
          go_enter Try.func42, Try.ntmps42
          go_wp2_with fail
          go_ret
          exact ⟨rfl, rfl⟩
end Vm
end Go.Proofs.Ytalfnaielhbocaa
namespace Go.Proofs.Ytalfnaielhbocaa
open Go.RowKit
set_option linter.unusedVariables false
set_option linter.unusedSimpArgs false
set_option maxRecDepth 100000
namespace Vm
set_option maxHeartbeats 16000000 in
theorem rarity_at0 : ∀ x ∈ prims0, ∀ w : World, Calls Try.prog 32 #[.string x] w fun e w' => e = .returned (.int .i64 0) ∧ w = w' := by
  intro x hx
  simp only [prims0, prims1, prims2, prims3, sRead, sError, sWinders, sWrite, sWind, sCallcc, List.mem_cons, List.not_mem_nil, or_false] at hx
  rcases hx with rfl | rfl | rfl | rfl | rfl
  all_goals
    intro w
    go_enter Try.func32, Try.ntmps32
    go_wp2_with fail
    go_ret
    exact ⟨rfl, rfl⟩
set_option maxHeartbeats 16000000 in
theorem rarity_at1 : ∀ x ∈ prims1, ∀ w : World, Calls Try.prog 32 #[.string x] w fun e w' => e = .returned (.int .i64 1) ∧ w = w' := by
  intro x hx
  simp only [prims0, prims1, prims2, prims3, sRead, sError, sWinders, sWrite, sWind, sCallcc, List.mem_cons, List.not_mem_nil, or_false] at hx
  rcases hx with rfl | rfl | rfl | rfl | rfl | rfl | rfl | rfl | rfl | rfl | rfl | rfl | rfl | rfl | rfl | rfl | rfl | rfl | rfl | rfl | rfl
  all_goals
    intro w
    go_enter Try.func32, Try.ntmps32
    go_wp2_with fail
    go_ret
    exact ⟨rfl, rfl⟩
set_option maxHeartbeats 16000000 in
theorem rarity_at2 : ∀ x ∈ prims2, ∀ w : World, Calls Try.prog 32 #[.string x] w fun e w' => e = .returned (.int .i64 2) ∧ w = w' := by
  intro x hx
  simp only [prims0, prims1, prims2, prims3, sRead, sError, sWinders, sWrite, sWind, sCallcc, List.mem_cons, List.not_mem_nil, or_false] at hx
  rcases hx with rfl | rfl | rfl | rfl | rfl | rfl | rfl | rfl | rfl | rfl | rfl | rfl | rfl | rfl | rfl | rfl
  all_goals
    intro w
    go_enter Try.func32, Try.ntmps32
    go_wp2_with fail
    go_ret
    exact ⟨rfl, rfl⟩
set_option maxHeartbeats 16000000 in
theorem rarity_at3 : ∀ x ∈ prims3, ∀ w : World, Calls Try.prog 32 #[.string x] w fun e w' => e = .returned (.int .i64 3) ∧ w = w' := by
  intro x hx
  simp only [prims0, prims1, prims2, prims3, sRead, sError, sWinders, sWrite, sWind, sCallcc, List.mem_cons, List.not_mem_nil, or_false] at hx
  rcases hx with rfl | rfl
  all_goals
    intro w
    go_enter Try.func32, Try.ntmps32
    go_wp2_with fail
    go_ret
    exact ⟨rfl, rfl⟩
set_option maxHeartbeats 16000000 in
theorem rarity_any (s : ByteArray) (w : World) : Calls Try.prog 32 #[.string s] w fun e w' => e = .returned (.int .i64 (Vm.arity s)) ∧ w = w' := by
  cases h0 : inN prims0 s with
  | true =>
    have e : Vm.arity s = 0 := by unfold Vm.arity; rw [h0]; rfl
    rw [e]
    obtain ⟨x, hx, he⟩ : ∃ x ∈ prims0, s = x := by
      unfold inN at h0
      obtain ⟨x, hx, he⟩ := List.any_eq_true.1 h0
      exact ⟨x, hx, by simpa using (of_decide_eq_true he).symm⟩
    subst he
    exact rarity_at0 s hx w
  | false =>
    cases h1 : inN prims1 s with
    | true =>
      have e : Vm.arity s = 1 := by unfold Vm.arity; rw [h0, h1]; rfl
      rw [e]
      obtain ⟨x, hx, he⟩ : ∃ x ∈ prims1, s = x := by
        unfold inN at h1
        obtain ⟨x, hx, he⟩ := List.any_eq_true.1 h1
        exact ⟨x, hx, by simpa using (of_decide_eq_true he).symm⟩
      subst he
      exact rarity_at1 s hx w
    | false =>
      cases h2 : inN prims2 s with
      | true =>
        have e : Vm.arity s = 2 := by unfold Vm.arity; rw [h0, h1, h2]; rfl
        rw [e]
        obtain ⟨x, hx, he⟩ : ∃ x ∈ prims2, s = x := by
          unfold inN at h2
          obtain ⟨x, hx, he⟩ := List.any_eq_true.1 h2
          exact ⟨x, hx, by simpa using (of_decide_eq_true he).symm⟩
        subst he
        exact rarity_at2 s hx w
      | false =>
        cases h3 : inN prims3 s with
        | true =>
          have e : Vm.arity s = 3 := by unfold Vm.arity; rw [h0, h1, h2, h3]; rfl
          rw [e]
          obtain ⟨x, hx, he⟩ : ∃ x ∈ prims3, s = x := by
            unfold inN at h3
            obtain ⟨x, hx, he⟩ := List.any_eq_true.1 h3
            exact ⟨x, hx, by simpa using (of_decide_eq_true he).symm⟩
          subst he
          exact rarity_at3 s hx w
        | false =>
          have e : Vm.arity s = -1 := by unfold Vm.arity; rw [h0, h1, h2, h3]; rfl
          rw [e]
          have q0 : (s.toList == [114, 101, 97, 100, 45, 117, 56]) = false := ba_no (inN_no h0 ⟨#[114, 101, 97, 100, 45, 117, 56]⟩ (by simp [prims0, sRead, sError, sWinders, sWrite, sWind, sCallcc]))
          have q1 : (s.toList == [101, 114, 114, 111, 114]) = false := ba_no (inN_no h0 ⟨#[101, 114, 114, 111, 114]⟩ (by simp [prims0, sRead, sError, sWinders, sWrite, sWind, sCallcc]))
          have q2 : (s.toList == [118, 111, 105, 100]) = false := ba_no (inN_no h0 ⟨#[118, 111, 105, 100]⟩ (by simp [prims0, sRead, sError, sWinders, sWrite, sWind, sCallcc]))
          have q3 : (s.toList == [37, 119, 105, 110, 100, 101, 114, 115]) = false := ba_no (inN_no h0 ⟨#[37, 119, 105, 110, 100, 101, 114, 115]⟩ (by simp [prims0, sRead, sError, sWinders, sWrite, sWind, sCallcc]))
          have q4 : (s.toList == [37, 117, 110, 115, 101, 116]) = false := ba_no (inN_no h0 ⟨#[37, 117, 110, 115, 101, 116]⟩ (by simp [prims0, sRead, sError, sWinders, sWrite, sWind, sCallcc]))
          have q5 : (s.toList == [110, 117, 108, 108, 63]) = false := ba_no (inN_no h1 ⟨#[110, 117, 108, 108, 63]⟩ (by simp [prims1, sRead, sError, sWinders, sWrite, sWind, sCallcc]))
          have q6 : (s.toList == [112, 97, 105, 114, 63]) = false := ba_no (inN_no h1 ⟨#[112, 97, 105, 114, 63]⟩ (by simp [prims1, sRead, sError, sWinders, sWrite, sWind, sCallcc]))
          have q7 : (s.toList == [118, 101, 99, 116, 111, 114, 63]) = false := ba_no (inN_no h1 ⟨#[118, 101, 99, 116, 111, 114, 63]⟩ (by simp [prims1, sRead, sError, sWinders, sWrite, sWind, sCallcc]))
          have q8 : (s.toList == [115, 116, 114, 105, 110, 103, 63]) = false := ba_no (inN_no h1 ⟨#[115, 116, 114, 105, 110, 103, 63]⟩ (by simp [prims1, sRead, sError, sWinders, sWrite, sWind, sCallcc]))
          have q9 : (s.toList == [115, 121, 109, 98, 111, 108, 63]) = false := ba_no (inN_no h1 ⟨#[115, 121, 109, 98, 111, 108, 63]⟩ (by simp [prims1, sRead, sError, sWinders, sWrite, sWind, sCallcc]))
          have q10 : (s.toList == [99, 104, 97, 114, 63]) = false := ba_no (inN_no h1 ⟨#[99, 104, 97, 114, 63]⟩ (by simp [prims1, sRead, sError, sWinders, sWrite, sWind, sCallcc]))
          have q11 : (s.toList == [105, 110, 116, 101, 103, 101, 114, 63]) = false := ba_no (inN_no h1 ⟨#[105, 110, 116, 101, 103, 101, 114, 63]⟩ (by simp [prims1, sRead, sError, sWinders, sWrite, sWind, sCallcc]))
          have q12 : (s.toList == [98, 111, 111, 108, 101, 97, 110, 63]) = false := ba_no (inN_no h1 ⟨#[98, 111, 111, 108, 101, 97, 110, 63]⟩ (by simp [prims1, sRead, sError, sWinders, sWrite, sWind, sCallcc]))
          have q13 : (s.toList == [112, 114, 111, 99, 101, 100, 117, 114, 101, 63]) = false := ba_no (inN_no h1 ⟨#[112, 114, 111, 99, 101, 100, 117, 114, 101, 63]⟩ (by simp [prims1, sRead, sError, sWinders, sWrite, sWind, sCallcc]))
          have q14 : (s.toList == [101, 111, 102, 45, 111, 98, 106, 101, 99, 116, 63]) = false := ba_no (inN_no h1 ⟨#[101, 111, 102, 45, 111, 98, 106, 101, 99, 116, 63]⟩ (by simp [prims1, sRead, sError, sWinders, sWrite, sWind, sCallcc]))
          have q15 : (s.toList == [99, 97, 114]) = false := ba_no (inN_no h1 ⟨#[99, 97, 114]⟩ (by simp [prims1, sRead, sError, sWinders, sWrite, sWind, sCallcc]))
          have q16 : (s.toList == [99, 100, 114]) = false := ba_no (inN_no h1 ⟨#[99, 100, 114]⟩ (by simp [prims1, sRead, sError, sWinders, sWrite, sWind, sCallcc]))
          have q17 : (s.toList == [118, 101, 99, 116, 111, 114, 45, 108, 101, 110, 103, 116, 104]) = false := ba_no (inN_no h1 ⟨#[118, 101, 99, 116, 111, 114, 45, 108, 101, 110, 103, 116, 104]⟩ (by simp [prims1, sRead, sError, sWinders, sWrite, sWind, sCallcc]))
          have q18 : (s.toList == [115, 116, 114, 105, 110, 103, 45, 108, 101, 110, 103, 116, 104]) = false := ba_no (inN_no h1 ⟨#[115, 116, 114, 105, 110, 103, 45, 108, 101, 110, 103, 116, 104]⟩ (by simp [prims1, sRead, sError, sWinders, sWrite, sWind, sCallcc]))
          have q19 : (s.toList == [99, 104, 97, 114, 45, 62, 105, 110, 116, 101, 103, 101, 114]) = false := ba_no (inN_no h1 ⟨#[99, 104, 97, 114, 45, 62, 105, 110, 116, 101, 103, 101, 114]⟩ (by simp [prims1, sRead, sError, sWinders, sWrite, sWind, sCallcc]))
          have q20 : (s.toList == [105, 110, 116, 101, 103, 101, 114, 45, 62, 99, 104, 97, 114]) = false := ba_no (inN_no h1 ⟨#[105, 110, 116, 101, 103, 101, 114, 45, 62, 99, 104, 97, 114]⟩ (by simp [prims1, sRead, sError, sWinders, sWrite, sWind, sCallcc]))
          have q21 : (s.toList == [119, 114, 105, 116, 101, 45, 117, 56]) = false := ba_no (inN_no h1 ⟨#[119, 114, 105, 116, 101, 45, 117, 56]⟩ (by simp [prims1, sRead, sError, sWinders, sWrite, sWind, sCallcc]))
          have q22 : (s.toList == [37, 98, 111, 120]) = false := ba_no (inN_no h1 ⟨#[37, 98, 111, 120]⟩ (by simp [prims1, sRead, sError, sWinders, sWrite, sWind, sCallcc]))
          have q23 : (s.toList == [37, 117, 110, 98, 111, 120]) = false := ba_no (inN_no h1 ⟨#[37, 117, 110, 98, 111, 120]⟩ (by simp [prims1, sRead, sError, sWinders, sWrite, sWind, sCallcc]))
          have q24 : (s.toList == [37, 119, 105, 110, 100, 33]) = false := ba_no (inN_no h1 ⟨#[37, 119, 105, 110, 100, 33]⟩ (by simp [prims1, sRead, sError, sWinders, sWrite, sWind, sCallcc]))
          have q25 : (s.toList == [37, 99, 97, 108, 108, 99, 99]) = false := ba_no (inN_no h1 ⟨#[37, 99, 97, 108, 108, 99, 99]⟩ (by simp [prims1, sRead, sError, sWinders, sWrite, sWind, sCallcc]))
          have q26 : (s.toList == [43]) = false := ba_no (inN_no h2 ⟨#[43]⟩ (by simp [prims2, sRead, sError, sWinders, sWrite, sWind, sCallcc]))
          have q27 : (s.toList == [45]) = false := ba_no (inN_no h2 ⟨#[45]⟩ (by simp [prims2, sRead, sError, sWinders, sWrite, sWind, sCallcc]))
          have q28 : (s.toList == [42]) = false := ba_no (inN_no h2 ⟨#[42]⟩ (by simp [prims2, sRead, sError, sWinders, sWrite, sWind, sCallcc]))
          have q29 : (s.toList == [113, 117, 111, 116, 105, 101, 110, 116]) = false := ba_no (inN_no h2 ⟨#[113, 117, 111, 116, 105, 101, 110, 116]⟩ (by simp [prims2, sRead, sError, sWinders, sWrite, sWind, sCallcc]))
          have q30 : (s.toList == [114, 101, 109, 97, 105, 110, 100, 101, 114]) = false := ba_no (inN_no h2 ⟨#[114, 101, 109, 97, 105, 110, 100, 101, 114]⟩ (by simp [prims2, sRead, sError, sWinders, sWrite, sWind, sCallcc]))
          have q31 : (s.toList == [60]) = false := ba_no (inN_no h2 ⟨#[60]⟩ (by simp [prims2, sRead, sError, sWinders, sWrite, sWind, sCallcc]))
          have q32 : (s.toList == [61]) = false := ba_no (inN_no h2 ⟨#[61]⟩ (by simp [prims2, sRead, sError, sWinders, sWrite, sWind, sCallcc]))
          have q33 : (s.toList == [101, 113, 63]) = false := ba_no (inN_no h2 ⟨#[101, 113, 63]⟩ (by simp [prims2, sRead, sError, sWinders, sWrite, sWind, sCallcc]))
          have q34 : (s.toList == [99, 111, 110, 115]) = false := ba_no (inN_no h2 ⟨#[99, 111, 110, 115]⟩ (by simp [prims2, sRead, sError, sWinders, sWrite, sWind, sCallcc]))
          have q35 : (s.toList == [115, 101, 116, 45, 99, 97, 114, 33]) = false := ba_no (inN_no h2 ⟨#[115, 101, 116, 45, 99, 97, 114, 33]⟩ (by simp [prims2, sRead, sError, sWinders, sWrite, sWind, sCallcc]))
          have q36 : (s.toList == [115, 101, 116, 45, 99, 100, 114, 33]) = false := ba_no (inN_no h2 ⟨#[115, 101, 116, 45, 99, 100, 114, 33]⟩ (by simp [prims2, sRead, sError, sWinders, sWrite, sWind, sCallcc]))
          have q37 : (s.toList == [109, 97, 107, 101, 45, 118, 101, 99, 116, 111, 114]) = false := ba_no (inN_no h2 ⟨#[109, 97, 107, 101, 45, 118, 101, 99, 116, 111, 114]⟩ (by simp [prims2, sRead, sError, sWinders, sWrite, sWind, sCallcc]))
          have q38 : (s.toList == [118, 101, 99, 116, 111, 114, 45, 114, 101, 102]) = false := ba_no (inN_no h2 ⟨#[118, 101, 99, 116, 111, 114, 45, 114, 101, 102]⟩ (by simp [prims2, sRead, sError, sWinders, sWrite, sWind, sCallcc]))
          have q39 : (s.toList == [109, 97, 107, 101, 45, 115, 116, 114, 105, 110, 103]) = false := ba_no (inN_no h2 ⟨#[109, 97, 107, 101, 45, 115, 116, 114, 105, 110, 103]⟩ (by simp [prims2, sRead, sError, sWinders, sWrite, sWind, sCallcc]))
          have q40 : (s.toList == [115, 116, 114, 105, 110, 103, 45, 114, 101, 102]) = false := ba_no (inN_no h2 ⟨#[115, 116, 114, 105, 110, 103, 45, 114, 101, 102]⟩ (by simp [prims2, sRead, sError, sWinders, sWrite, sWind, sCallcc]))
          have q41 : (s.toList == [37, 115, 101, 116, 45, 98, 111, 120, 33]) = false := ba_no (inN_no h2 ⟨#[37, 115, 101, 116, 45, 98, 111, 120, 33]⟩ (by simp [prims2, sRead, sError, sWinders, sWrite, sWind, sCallcc]))
          have q42 : (s.toList == [118, 101, 99, 116, 111, 114, 45, 115, 101, 116, 33]) = false := ba_no (inN_no h3 ⟨#[118, 101, 99, 116, 111, 114, 45, 115, 101, 116, 33]⟩ (by simp [prims3, sRead, sError, sWinders, sWrite, sWind, sCallcc]))
          have q43 : (s.toList == [115, 116, 114, 105, 110, 103, 45, 115, 101, 116, 33]) = false := ba_no (inN_no h3 ⟨#[115, 116, 114, 105, 110, 103, 45, 115, 101, 116, 33]⟩ (by simp [prims3, sRead, sError, sWinders, sWrite, sWind, sCallcc]))
          clear h0 h1 h2 h3 e
          go_enter Try.func32, Try.ntmps32
          go_wp2_with fail
          go_ret
          exact ⟨rfl, rfl⟩
end Vm
end Go.Proofs.Ytalfnaielhbocaa
namespace Go.Proofs.Ytalfnaielhbocaa
open Go.RowKit
set_option linter.unusedVariables false
set_option linter.unusedSimpArgs false
set_option maxRecDepth 100000
namespace Vm
set_option maxHeartbeats 2000000 in
theorem r15regs_any (p : Prc) (bv : Value) (hbv : ∃ a n c, bv = .slice a n c) (lv : Value) (l : List Int) (w : World) (hl : Sl w lv (ints l)) (hlen : l.length ≤ 9223372036854775807) :
    Calls Try.prog 30 #[procV p bv, lv] w fun e w' => e = .returned (.bool (regsB p l)) ∧ Below w.heap.size w w' := by
  obtain ⟨al, cl, rfl⟩ := hl.len
  obtain ⟨ab, nb, cb, rfl⟩ := hbv
  have hil : (ints l).length = l.length := by simp [ints]
  rw [hil] at hl ⊢
  have HL := Lib.hid hl
  clear hl
  unfold procV
  go_enter Try.func30, Try.ntmps30
  go_wp2_with fail
  go_loopg [5] l.length (fun gk s5 wx => ∃ k : Nat, k ≤ l.length ∧ gk = l.length - k ∧ s5 = .int .i64 k ∧ Hid (Below (w.heap.size + 1) (w.alloc (.cells #[.int .i64 p.params, .int .i64 p.holds, .int .i64 p.regs, .slice ab nb cb] 40)) wx) ∧ Hid ((l.take k).all (fun r => decide (0 ≤ r) && decide (r < p.regs)) = true))
  case atStart => exact ⟨0, Nat.zero_le _, rfl, rfl, Below.refl _ _, rfl⟩
  case round =>
    obtain ⟨k, hk, rfl, rfl, HB, HA⟩ := hrel
    have hs := HB.out.size
    have hbox : wr.heap[w.heap.size]? = some (.cells #[.int .i64 p.params, .int .i64 p.holds, .int .i64 p.regs, .slice ab nb cb] 40 (0, 0)) := (HB.out.block _ (by omega)).trans (heap_alloc_new w _)
    have b2 : wr.cell? ⟨w.heap.size, 2, none⟩ = some (.int .i64 p.regs) := cell_of_row wr _ 2 _ _ _ hbox
    have hqw : w.heap.size < wr.heap.size := (Array.getElem?_eq_some_iff.1 hbox).1
    have hW : Below w.heap.size w wr := ((Below.refl _ _).alloc (Nat.le_refl _) _).trans (HB.out.mono (by omega))
    clear hbox
    by_cases hlt : k < l.length
    · obtain ⟨r, hr⟩ : ∃ r, l[k]? = some r := ⟨_, List.getElem?_eq_getElem hlt⟩
      have hne : ints l ≠ [] := fun e => by rw [e] at hil; simp at hil; omega
      have hsl := HL.out
      rw [← hil] at hsl
      obtain ⟨b, off, rfl, hbl, hcs⟩ := hsl.at hne
      have e0 := hcs k (by omega)
      rw [show (ints l).getD k undef = .int .i64 r by rw [List.getD_eq_getElem?_getD]; simp [ints, hr]] at e0
      rw [← cell_bel hW hbl] at e0
      have hbw : b < wr.heap.size := Nat.lt_of_lt_of_le hbl hW.size
      have hg1 : (0 : Int) ≤ k := by omega
      have hg2 : (k : Int) < l.length := by omega
      have hgk : IntKind.i64.wrap ((k : Int) + 1) = k + 1 := by rw [IntKind.wrap_i64]; omega
      have HR := Lib.hid hr
      have HW := Lib.hid hW
      clear hcs hr hsl hW
      by_cases h1 : r < 0
      · have g1 : decide (r < 0) = true := decide_eq_true h1
        go_wp2_with (go_quiet (fail))
        all_goals
          go_ret
          refine ⟨?_, (by first | exact HW.out | exact below_drewN HW.out _)⟩
          have : regsB p l = false := by
            unfold regsB
            rw [List.all_eq_false]
            exact ⟨r, List.mem_of_getElem? HR.out, by simp; omega⟩
          rw [this]
          rfl
      · by_cases h2 : p.regs ≤ r
        · have g1 : decide (r < 0) = false := decide_eq_false h1
          have g2 : decide (p.regs ≤ r) = true := decide_eq_true h2
          go_wp2_with (go_quiet (fail))
          all_goals
            go_ret
            refine ⟨?_, (by first | exact HW.out | exact below_drewN HW.out _)⟩
            have : regsB p l = false := by
              unfold regsB
              rw [List.all_eq_false]
              exact ⟨r, List.mem_of_getElem? HR.out, by simp; omega⟩
            rw [this]
            rfl
        · have g1 : decide (r < 0) = false := decide_eq_false h1
          have g2 : decide (p.regs ≤ r) = false := decide_eq_false h2
          go_wp2_with (go_quiet (fail))
          all_goals go_roundg (l.length - (k + 1))
          case measure => omega
          case rel => exact ⟨k + 1, by omega, rfl, by go_num, (by first | exact HB.out | exact below_drewN HB.out _), regsB_take HA.out HR.out (by omega) (by omega)⟩
    · obtain rfl : k = l.length := by omega
      have HW := Lib.hid hW
      clear hW
      go_wp2_with fail
      go_ret
      refine ⟨?_, HW.out⟩
      have h := HA.out
      rw [List.take_length] at h
      have : regsB p l = true := h
      rw [this]
      rfl
end Vm
end Go.Proofs.Ytalfnaielhbocaa
namespace Go.Proofs.Ytalfnaielhbocaa
open Go.RowKit
set_option linter.unusedVariables false
set_option linter.unusedSimpArgs false
set_option maxRecDepth 100000
namespace Vm
set_option maxHeartbeats 2000000 in
theorem rsame_bare (k i : Int) (t : ByteArray) (a : Option Addr) (n c : Nat) (hn : n ≤ 9223372036854775807) (w : World) : Calls Try.prog 15 #[.agg #[.int .i64 k, .int .i64 i, .string t, .slice a n c], .agg #[.int .i64 0, .int .i64 0, .string ⟨#[]⟩, .slice none 0 0]] w fun e w' => e = .returned (.bool (decide (k = 0) && decide (i = 0) && decide (t = ⟨#[]⟩) && decide (n = 0))) ∧ Below w.heap.size w w' := by
  have hB : Below w.heap.size w ((w.alloc (.cells #[.int .i64 k, .int .i64 i, .string t, .slice a n c] 31)).alloc (.cells #[.int .i64 0, .int .i64 0, .string ⟨#[]⟩, .slice none 0 0] 31)) := ((Below.refl _ _).alloc (Nat.le_refl _) _).alloc (by simp) _
  have HB := Lib.hid hB
  clear hB
  by_cases hk : k = 0
  · subst hk
    by_cases hi : i = 0
    · subst hi
      by_cases ht : t = ⟨#[]⟩
      · subst ht
        by_cases h0 : n = 0
        · subst h0
          go_enter Try.func15, Try.ntmps15
          go_wp2_with fail
          refine wp_loop_rounds 1 ?_
          rw [rounds_succ]
          go_wp2_with fail
          go_ret
          exact ⟨by simp, HB.out⟩
        · have g1 : ((n : Int) == 0) = false := by rw [beq_eq_false_iff_ne]; omega
          have g2 : (n == 0) = false := by rw [beq_eq_false_iff_ne]; exact h0
          have g3 : ((n : Int) != 0) = true := by rw [bne_iff_ne]; omega
          have g4 : (n != 0) = true := by rw [bne_iff_ne]; exact h0
          have e : (decide ((0 : Int) = 0) && decide ((0 : Int) = 0) && decide ((⟨#[]⟩ : ByteArray) = ⟨#[]⟩) && decide (n = 0)) = false := by simp [h0]
          rw [e]
          clear h0
          go_enter Try.func15, Try.ntmps15
          go_wp2_with fail
          go_ret
          exact ⟨rfl, HB.out⟩
      · have z3 : ¬ t.toList = [] := fun e => ht (by rw [Lib.toList_data] at e; obtain ⟨d⟩ := t; have h4 : d = #[] := Array.toList_eq_nil_iff.1 e; rw [h4])
        have z4 : t.toList.isEmpty = false := by simpa using z3
        have z5 : (t.toList == []) = false := by simpa using z3
        have e : (decide ((0 : Int) = 0) && decide ((0 : Int) = 0) && decide (t = (⟨#[]⟩ : ByteArray)) && decide (n = 0)) = false := by simp [ht]
        rw [e]
        have g5 := bytes_ne ht
        clear ht
        go_enter Try.func15, Try.ntmps15
        go_wp2_with fail
        go_ret
        exact ⟨rfl, HB.out⟩
    · have g1 : (i == 0) = false := beq_eq_false_iff_ne.2 hi
      have g2 : (i != 0) = true := by rw [bne_iff_ne]; exact hi
      have e : (decide ((0 : Int) = 0) && decide (i = 0) && decide (t = (⟨#[]⟩ : ByteArray)) && decide (n = 0)) = false := by simp [hi]
      rw [e]
      clear hi
      go_enter Try.func15, Try.ntmps15
      go_wp2_with fail
      go_ret
      exact ⟨rfl, HB.out⟩
  · have g1 : (k == 0) = false := beq_eq_false_iff_ne.2 hk
    have g2 : (k != 0) = true := by rw [bne_iff_ne]; exact hk
    have e : (decide (k = 0) && decide (i = 0) && decide (t = (⟨#[]⟩ : ByteArray)) && decide (n = 0)) = false := by simp [hk]
    rw [e]
    clear hk
    go_enter Try.func15, Try.ntmps15
    go_wp2_with fail
    go_ret
    exact ⟨rfl, HB.out⟩
set_option maxHeartbeats 4000000 in
theorem rconst6_any (d : Dt) (v : Value) (w : World) (hd : DtAt w (fun _ => True) v d) (hf : Dt.Fit d) : Calls Try.prog 31 #[v] w fun e w' => e = .returned (.bool (constF d).2) ∧ Below w.heap.size w w' := by
  obtain ⟨a, c, rfl, _⟩ := hd.inv
  obtain ⟨w1, hw1, hW⟩ : ∃ w1, w1 = w.alloc (.cells #[.int .i64 d.kind, .int .i64 d.int, .string d.text, .slice a d.list.length c] 31) ∧ w1.heap[w.heap.size]? = some (.cells #[.int .i64 d.kind, .int .i64 d.int, .string d.text, .slice a d.list.length c] 31 (0, 0)) := ⟨_, rfl, heap_new rfl⟩
  have hB : Below w.heap.size w w1 := by rw [hw1]; exact (Below.refl _ _).alloc (Nat.le_refl _) _
  have hsz : w1.heap.size = w.heap.size + 1 := by rw [hw1]; simp
  have HC := Lib.hid (rcheck_any d _ w1 (hd.bel hB (Nat.le_refl _)) hf)
  have HW := Lib.hid hw1
  have HB := Lib.hid hB
  have HWB := Lib.hid hW
  have hll : d.list.length ≤ 9223372036854775807 := by cases hf; assumption
  clear hd hf hw1 hB hW
  have hcf : (constF d).2 = (decide (d.chkE = 0) && (decide (d.kind = 0) || decide (d.kind = 1) || decide (d.kind = 2) || decide (d.kind = 4) || (decide (d.kind = 5) && decide (d.list = [])))) := by
    unfold constF
    by_cases hE : d.chkE = 0
    · simp only [hE, ne_eq, not_true_eq_false, if_false, decide_true, Bool.true_and]
      by_cases k0 : d.kind = 0
      · simp [k0]
      by_cases k1 : d.kind = 1
      · simp [k1]
      by_cases k2 : d.kind = 2
      · simp [k2]
      by_cases k4 : d.kind = 4
      · simp [k4]
      by_cases k5 : d.kind = 5 ∧ d.list = []
      · simp [k5.1, k5.2]
      · by_cases k6 : d.kind = 5
        · have : ¬ d.list = [] := fun e => k5 ⟨k6, e⟩
          simp [k6, this]
        · simp [k0, k1, k2, k4, k6]
    · simp [hE]
  rw [hcf]
  obtain ⟨k, i, t, l⟩ := d
  simp only [Dt.kind_mk, Dt.int_mk, Dt.text_mk, Dt.list_mk] at *
  generalize (Dt.mk k i t l).chkE = E at *
  clear hcf
  by_cases hE : E = 0
  · subst hE
    rcases (by omega : k = 0 ∨ k = 1 ∨ k = 2 ∨ k = 4 ∨ k = 5 ∨ (¬ k = 0 ∧ ¬ k = 1 ∧ ¬ k = 2 ∧ ¬ k = 4 ∧ ¬ k = 5)) with rfl | rfl | rfl | rfl | rfl | hk
    · skip
      go_enter Try.func31, Try.ntmps31
      go_wp2_with fail
      rw [← HW.out]
      with_reducible refine HC.out.mono ?_
      rintro e w3 ⟨rfl, hb3⟩
      have HB3 : Hid (Below w.heap.size w w3) := HB.out.trans (hb3.mono HB.out.size)
      have hx := (hb3.block w.heap.size (by omega)).trans HWB.out
      have x0 := cell_of_row w3 w.heap.size 0 _ _ _ hx
      have x3 := cell_of_row w3 w.heap.size 3 _ _ _ hx
      simp only [List.getElem?_toArray, List.getElem?_cons_zero, List.getElem?_cons_succ] at x0 x3
      have hq3 : w.heap.size < w3.heap.size := by have := hb3.size; omega
      clear hb3 hx
      go_wp2_with fail
      go_ret
      exact ⟨by first | rfl | simp, HB3.out⟩
    · skip
      go_enter Try.func31, Try.ntmps31
      go_wp2_with fail
      rw [← HW.out]
      with_reducible refine HC.out.mono ?_
      rintro e w3 ⟨rfl, hb3⟩
      have HB3 : Hid (Below w.heap.size w w3) := HB.out.trans (hb3.mono HB.out.size)
      have hx := (hb3.block w.heap.size (by omega)).trans HWB.out
      have x0 := cell_of_row w3 w.heap.size 0 _ _ _ hx
      have x3 := cell_of_row w3 w.heap.size 3 _ _ _ hx
      simp only [List.getElem?_toArray, List.getElem?_cons_zero, List.getElem?_cons_succ] at x0 x3
      have hq3 : w.heap.size < w3.heap.size := by have := hb3.size; omega
      clear hb3 hx
      go_wp2_with fail
      go_ret
      exact ⟨by first | rfl | simp, HB3.out⟩
    · skip
      go_enter Try.func31, Try.ntmps31
      go_wp2_with fail
      rw [← HW.out]
      with_reducible refine HC.out.mono ?_
      rintro e w3 ⟨rfl, hb3⟩
      have HB3 : Hid (Below w.heap.size w w3) := HB.out.trans (hb3.mono HB.out.size)
      have hx := (hb3.block w.heap.size (by omega)).trans HWB.out
      have x0 := cell_of_row w3 w.heap.size 0 _ _ _ hx
      have x3 := cell_of_row w3 w.heap.size 3 _ _ _ hx
      simp only [List.getElem?_toArray, List.getElem?_cons_zero, List.getElem?_cons_succ] at x0 x3
      have hq3 : w.heap.size < w3.heap.size := by have := hb3.size; omega
      clear hb3 hx
      go_wp2_with fail
      go_ret
      exact ⟨by first | rfl | simp, HB3.out⟩
    · skip
      go_enter Try.func31, Try.ntmps31
      go_wp2_with fail
      rw [← HW.out]
      with_reducible refine HC.out.mono ?_
      rintro e w3 ⟨rfl, hb3⟩
      have HB3 : Hid (Below w.heap.size w w3) := HB.out.trans (hb3.mono HB.out.size)
      have hx := (hb3.block w.heap.size (by omega)).trans HWB.out
      have x0 := cell_of_row w3 w.heap.size 0 _ _ _ hx
      have x3 := cell_of_row w3 w.heap.size 3 _ _ _ hx
      simp only [List.getElem?_toArray, List.getElem?_cons_zero, List.getElem?_cons_succ] at x0 x3
      have hq3 : w.heap.size < w3.heap.size := by have := hb3.size; omega
      clear hb3 hx
      go_wp2_with fail
      go_ret
      exact ⟨by first | rfl | simp, HB3.out⟩
    · by_cases hl : l = []
      · subst hl
        simp only [List.length_nil] at HC HW HWB hll ⊢
        go_enter Try.func31, Try.ntmps31
        go_wp2_with fail
        rw [← HW.out]
        with_reducible refine HC.out.mono ?_
        rintro e w3 ⟨rfl, hb3⟩
        have HB3 : Hid (Below w.heap.size w w3) := HB.out.trans (hb3.mono HB.out.size)
        have hx := (hb3.block w.heap.size (by omega)).trans HWB.out
        have x0 := cell_of_row w3 w.heap.size 0 _ _ _ hx
        have x3 := cell_of_row w3 w.heap.size 3 _ _ _ hx
        simp only [List.getElem?_toArray, List.getElem?_cons_zero, List.getElem?_cons_succ] at x0 x3
        have hq3 : w.heap.size < w3.heap.size := by have := hb3.size; omega
        clear hb3 hx
        go_wp2_with fail
        go_ret
        exact ⟨by first | rfl | simp, HB3.out⟩
      · have hln : ((l.length : Int) == 0) = false := by
          rw [beq_eq_false_iff_ne]
          have : l.length ≠ 0 := by simpa using hl
          omega
        have HL := Lib.hid hl
        clear hl
        go_enter Try.func31, Try.ntmps31
        go_wp2_with fail
        rw [← HW.out]
        with_reducible refine HC.out.mono ?_
        rintro e w3 ⟨rfl, hb3⟩
        have HB3 : Hid (Below w.heap.size w w3) := HB.out.trans (hb3.mono HB.out.size)
        have hx := (hb3.block w.heap.size (by omega)).trans HWB.out
        have x0 := cell_of_row w3 w.heap.size 0 _ _ _ hx
        have x3 := cell_of_row w3 w.heap.size 3 _ _ _ hx
        simp only [List.getElem?_toArray, List.getElem?_cons_zero, List.getElem?_cons_succ] at x0 x3
        have hq3 : w.heap.size < w3.heap.size := by have := hb3.size; omega
        clear hb3 hx
        go_wp2_with fail
        go_ret
        exact ⟨by have := HL.out; first | rfl | simp [this], HB3.out⟩
    · obtain ⟨k0, k1, k2, k4, k5⟩ := hk
      have e0 : (k == 0) = false := beq_eq_false_iff_ne.2 k0
      have e1 : (k == 1) = false := beq_eq_false_iff_ne.2 k1
      have e2 : (k == 2) = false := beq_eq_false_iff_ne.2 k2
      have e4 : (k == 4) = false := beq_eq_false_iff_ne.2 k4
      have e5 : (k == 5) = false := beq_eq_false_iff_ne.2 k5
      have HK : Hid (¬ k = 0 ∧ ¬ k = 1 ∧ ¬ k = 2 ∧ ¬ k = 4 ∧ ¬ k = 5) := ⟨k0, k1, k2, k4, k5⟩
      clear k0 k1 k2 k4 k5
      go_enter Try.func31, Try.ntmps31
      go_wp2_with fail
      rw [← HW.out]
      with_reducible refine HC.out.mono ?_
      rintro e w3 ⟨rfl, hb3⟩
      have HB3 : Hid (Below w.heap.size w w3) := HB.out.trans (hb3.mono HB.out.size)
      have hx := (hb3.block w.heap.size (by omega)).trans HWB.out
      have x0 := cell_of_row w3 w.heap.size 0 _ _ _ hx
      have x3 := cell_of_row w3 w.heap.size 3 _ _ _ hx
      simp only [List.getElem?_toArray, List.getElem?_cons_zero, List.getElem?_cons_succ] at x0 x3
      have hq3 : w.heap.size < w3.heap.size := by have := hb3.size; omega
      clear hb3 hx
      go_wp2_with fail
      go_ret
      exact ⟨by obtain ⟨k0, k1, k2, k4, k5⟩ := HK.out; simp [k0, k1, k2, k4, k5], HB3.out⟩
  · have hE2 : (E != 0) = true := by simpa using hE
    have HE := Lib.hid hE
    clear hE
    go_enter Try.func31, Try.ntmps31
    go_wp2_with fail
    rw [← HW.out]
    with_reducible refine HC.out.mono ?_
    rintro e w3 ⟨rfl, hb3⟩
    have HB3 : Hid (Below w.heap.size w w3) := HB.out.trans (hb3.mono HB.out.size)
    have hx := (hb3.block w.heap.size (by omega)).trans HWB.out
    have x0 := cell_of_row w3 w.heap.size 0 _ _ _ hx
    have x3 := cell_of_row w3 w.heap.size 3 _ _ _ hx
    simp only [List.getElem?_toArray, List.getElem?_cons_zero, List.getElem?_cons_succ] at x0 x3
    have hq3 : w.heap.size < w3.heap.size := by have := hb3.size; omega
    clear hb3 hx
    go_wp2_with fail
    go_ret
    exact ⟨by simp [HE.out], HB3.out⟩
end Vm
end Go.Proofs.Ytalfnaielhbocaa
namespace Go.Proofs.Ytalfnaielhbocaa
open Go.RowKit
set_option linter.unusedVariables false
set_option linter.unusedSimpArgs false
set_option maxRecDepth 100000
namespace Vm
set_option maxHeartbeats 1000000 in
theorem eqfunc_bare (a : Option Addr) (n c : Nat) (hn : n ≤ 9223372036854775807) (w : World) : Calls Try.prog 62 #[.slice a n c, .slice none 0 0, .func (.func 45) #[] #[]] w fun e w' => e = .returned (.bool (decide (n = 0))) ∧ w = w' := by
  by_cases h : n = 0
  · subst h
    go_enter Try.func62, Try.ntmps62
    go_wp2_with fail
    refine wp_loop_rounds 1 ?_
    rw [rounds_succ]
    go_wp2_with fail
    go_ret
    exact ⟨rfl, rfl⟩
  · have g1 : ((n : Int) != 0) = true := by rw [bne_iff_ne]; omega
    have g2 : (n != 0) = true := by rw [bne_iff_ne]; exact h
    have e : decide (n = 0) = false := decide_eq_false h
    rw [e]
    go_enter Try.func62, Try.ntmps62
    go_wp2_with fail
    go_ret
    exact ⟨rfl, rfl⟩
set_option maxHeartbeats 2000000 in
theorem equal_bare (k i : Int) (t : ByteArray) (a : Option Addr) (n c : Nat) (hn : n ≤ 9223372036854775807) (w : World) : Calls Try.prog 45 #[.agg #[.int .i64 k, .int .i64 i, .string t, .slice a n c], .agg #[.int .i64 0, .int .i64 0, .string ⟨#[]⟩, .slice none 0 0]] w fun e w' => e = .returned (.bool (decide (k = 0) && decide (i = 0) && decide (t = ⟨#[]⟩) && decide (n = 0))) ∧ Below w.heap.size w w' := by
  have hB : Below w.heap.size w ((w.alloc (.cells #[.int .i64 k, .int .i64 i, .string t, .slice a n c] 31)).alloc (.cells #[.int .i64 0, .int .i64 0, .string ⟨#[]⟩, .slice none 0 0] 31)) := ((Below.refl _ _).alloc (Nat.le_refl _) _).alloc (by simp) _
  have HB := Lib.hid hB
  clear hB
  by_cases hk : k = 0
  · subst hk
    by_cases hi : i = 0
    · subst hi
      by_cases ht : t = ⟨#[]⟩
      · subst ht
        have HE := Lib.hid (eqfunc_bare a n c hn)
        have e : (decide ((0 : Int) = 0) && decide ((0 : Int) = 0) && decide ((⟨#[]⟩ : ByteArray) = ⟨#[]⟩) && decide (n = 0)) = decide (n = 0) := by simp
        rw [e]
        go_enter Try.func45, Try.ntmps45
        go_wp2_with fail
        with_reducible refine (HE.out _).mono ?_
        rintro e w3 ⟨rfl, rfl⟩
        go_wp2_with fail
        go_ret
        exact ⟨by simp, HB.out⟩
      · have z3 : ¬ t.toList = [] := fun e => ht (by rw [Lib.toList_data] at e; obtain ⟨d⟩ := t; have h4 : d = #[] := Array.toList_eq_nil_iff.1 e; rw [h4])
        have z4 : t.toList.isEmpty = false := by simpa using z3
        have z5 : (t.toList == []) = false := by simpa using z3
        have e : (decide ((0 : Int) = 0) && decide ((0 : Int) = 0) && decide (t = (⟨#[]⟩ : ByteArray)) && decide (n = 0)) = false := by simp [ht]
        rw [e]
        clear ht
        go_enter Try.func45, Try.ntmps45
        go_wp2_with fail
        go_ret
        exact ⟨rfl, HB.out⟩
    · have g1 : (i == 0) = false := beq_eq_false_iff_ne.2 hi
      have e : (decide ((0 : Int) = 0) && decide (i = 0) && decide (t = (⟨#[]⟩ : ByteArray)) && decide (n = 0)) = false := by simp [hi]
      rw [e]
      clear hi
      go_enter Try.func45, Try.ntmps45
      go_wp2_with fail
      go_ret
      exact ⟨rfl, HB.out⟩
  · have g1 : (k == 0) = false := beq_eq_false_iff_ne.2 hk
    have e : (decide (k = 0) && decide (i = 0) && decide (t = (⟨#[]⟩ : ByteArray)) && decide (n = 0)) = false := by simp [hk]
    rw [e]
    clear hk
    go_enter Try.func45, Try.ntmps45
    go_wp2_with fail
    go_ret
    exact ⟨rfl, HB.out⟩
end Vm
end Go.Proofs.Ytalfnaielhbocaa
namespace Go.Proofs.Ytalfnaielhbocaa
open Go.RowKit
set_option linter.unusedVariables false
set_option linter.unusedSimpArgs false
namespace Vm
open Classical in
noncomputable def rol (S : Nat → Prop) (r : Nat) (ρ : Nat → Nat) : Nat → Nat := fun b => if S b then r else if ρ b = r then 0 else ρ b
open Classical in
noncomputable def more (S : Nat → Prop) (r : Nat) (ρ : Nat → Nat) : Nat → Nat := fun b => if S b then r else ρ b
theorem rol_yes {S : Nat → Prop} {r : Nat} {ρ : Nat → Nat} {b : Nat} (h : S b) : rol S r ρ b = r := by unfold rol; rw [if_pos h]
theorem rol_no {S : Nat → Prop} {r : Nat} {ρ : Nat → Nat} {b : Nat} (h : ¬ S b) (h2 : ρ b ≠ r) : rol S r ρ b = ρ b := by unfold rol; rw [if_neg h, if_neg h2]
theorem rol_eq {S : Nat → Prop} {r : Nat} {ρ : Nat → Nat} {b : Nat} (hr : r ≠ 0) : rol S r ρ b = r ↔ S b := by
  unfold rol
  by_cases h : S b
  · simp [h]
  · rw [if_neg h]
    constructor
    · intro e
      split at e
      · exact absurd e.symm hr
      · rename_i e2; exact absurd e e2
    · exact fun e => absurd e h
theorem rol_ne {S : Nat → Prop} {r : Nat} {ρ : Nat → Nat} {b : Nat} (h : rol S r ρ b ≠ 0) : S b ∨ (ρ b ≠ 0 ∧ ρ b ≠ r) := by
  unfold rol at h
  split at h
  · rename_i e; exact .inl e
  · split at h
    · exact absurd rfl h
    · rename_i e; exact .inr ⟨h, e⟩
theorem more_yes {S : Nat → Prop} {r : Nat} {ρ : Nat → Nat} {b : Nat} (h : S b) : more S r ρ b = r := by unfold more; rw [if_pos h]
theorem more_no {S : Nat → Prop} {r : Nat} {ρ : Nat → Nat} {b : Nat} (h : ¬ S b) : more S r ρ b = ρ b := by unfold more; rw [if_neg h]
theorem more_ne {S : Nat → Prop} {r : Nat} {ρ : Nat → Nat} {b : Nat} (h : more S r ρ b ≠ 0) : S b ∨ ρ b ≠ 0 := by
  unfold more at h
  split at h
  · rename_i e; exact .inl e
  · exact .inr h
section
variable {w0 w w' : World} {ρ ρ' : Nat → Nat} {H : Nat → Value} {m hb mb : Nat} {T : List Hp.Th} {C : List Cl} {out : List UInt8} {regs : List Hp.V} {frs : List Fr} {ov rv fv cv : Value} {cbs : List Nat} {s : St} {left steps : Nat}
theorem hst_mono {ty h : Nat} {O O' : Nat → Prop} (H : HSt w ty h O T) (h1 : ∀ b, O b → O' b) (h2 : ∀ b, O' b → b < w.heap.size) : HSt w ty h O' T := by
  obtain ⟨vt, M, H, e⟩ := H
  exact ⟨vt, M, ⟨H.blk, H.row, H.parts, H.ne, H.nh, H.nr, H.apart, ⟨h1 _ H.own.1, fun b e => h1 b (H.own.2.1 b e), fun m hm b e => h1 b (H.own.2.2 m hm b e)⟩, h2⟩, e⟩
theorem VmC.heapK (h : VmC w0 w ρ H m hb mb T C out regs frs ov rv fv cbs) (hs : w.heap.size ≤ w'.heap.size) (hk : ∀ b, b < w.heap.size → ρ b = 5 → w'.heap[b]? = w.heap[b]? ∧ ρ' b = 5) (h2 : ∀ b, ρ' b = 5 → b < w'.heap.size) : HSt w' 83 hb (fun b => ρ' b = 5) T :=
  hst_mono (h.heap.keep hs fun b e => (hk b (h.heap.lt b e) e).1) (fun b e => (hk b (h.heap.lt b e) e).2) h2
theorem VmC.turn {T' : List Hp.Th} {out' : List UInt8} {regs' : List Hp.V} {ov' rv' : Value} (h : VmC w0 w ρ H m hb mb T C out regs frs ov rv fv cbs)
    (hs : w.heap.size ≤ w'.heap.size) (hB : Below w0.heap.size w0 w') (hm : ρ' m = 1) (hlo : ∀ b, ρ' b ≠ 0 → w0.heap.size ≤ b ∧ b < w'.heap.size)
    (hk : ∀ b, b < w.heap.size → ρ b = 2 ∨ ρ b = 6 ∨ 7 ≤ ρ b → w'.heap[b]? = w.heap[b]? ∧ ρ' b = ρ b)
    (hT : HSt w' 83 hb (fun b => ρ' b = 5) T') (hTl : T.length ≤ T'.length)
    (hO : w'.ownsRow 0 5 1 ov' out'.length (bytes out')) (hO2 : ∀ b, ov'.ownBlock = some b → ρ' b = 3)
    (hR : w'.ownsRow 0 64 3 rv' regs'.length (Hp.flatV regs')) (hR2 : ∀ b, rv'.ownBlock = some b → ρ' b = 4) : VmC w0 w' ρ' H m hb mb T' C out' regs' frs ov' rv' fv cbs := by
  obtain ⟨h1, h2, h3, h4, h5, h6, h7, h8, h9, h10, h11, h12, h13, h14⟩ := h
  refine ⟨hT, h2.kept (hk mb h2.lt (.inl h3)).1, (hk mb h2.lt (.inl h3)).2.trans h3, h4, fun i k cb hi hc => (h5 i k cb hi hc).keep (fun b hb e => hk b hb (by omega)) rfl fun _ _ => rfl, hO, hO2, hR, hR2, h10.keep (fun b hb e => ⟨(hk b hb (by omega)).1, (hk b hb (by omega)).2.trans e⟩) fun _ _ => rfl, hm, hlo, hB, fun k hk => Nat.lt_of_lt_of_le (h14 k hk) hTl⟩
theorem VmC.outK (h : VmC w0 w ρ H m hb mb T C out regs frs ov rv fv cbs) (hk : ∀ b, b < w.heap.size → ρ b = 3 → w'.heap[b]? = w.heap[b]? ∧ ρ' b = 3) : w'.ownsRow 0 5 1 ov out.length (bytes out) ∧ ∀ b, ov.ownBlock = some b → ρ' b = 3 :=
  ⟨own_same h.out fun b e => (hk b (h.out.lt b e).2 (h.outr b e)).1, fun b e => (hk b (h.out.lt b e).2 (h.outr b e)).2⟩
theorem VmC.regK (h : VmC w0 w ρ H m hb mb T C out regs frs ov rv fv cbs) (hk : ∀ b, b < w.heap.size → ρ b = 4 → w'.heap[b]? = w.heap[b]? ∧ ρ' b = 4) : w'.ownsRow 0 64 3 rv regs.length (Hp.flatV regs) ∧ ∀ b, rv.ownBlock = some b → ρ' b = 4 :=
  ⟨own_same h.regs fun b e => (hk b (h.regs.lt b e).2 (h.regr b e)).1, fun b e => (hk b (h.regs.lt b e).2 (h.regr b e)).2⟩
theorem VmC.call {O' : Nat → Prop} {T' : List Hp.Th} (h : VmC w0 w ρ H m hb mb T C out regs frs ov rv fv cbs) (hg : Grow (fun b => ρ b = 5) O' w w') (hT : HSt w' 83 hb O' T') (hTl : T.length ≤ T'.length) : VmC w0 w' (rol O' 5 ρ) H m hb mb T' C out regs frs ov rv fv cbs := by
  have hO : ∀ b, O' b → ρ b = 5 ∨ (w.heap.size ≤ b ∧ b < w'.heap.size) := fun b e => (hg.own b e).imp id fun e2 => ⟨e2, hT.lt b e⟩
  have hkk : ∀ b, b < w.heap.size → ρ b ≠ 5 → w'.heap[b]? = w.heap[b]? ∧ rol O' 5 ρ b = ρ b := fun b hb hn => ⟨hg.block b hb hn, rol_no (fun e => by rcases hO b e with e | e <;> omega) hn⟩
  have hml := h.lo m (by rw [h.me]; decide)
  obtain ⟨o1, o2⟩ := h.outK (w' := w') (ρ' := rol O' 5 ρ) fun b hb e => ⟨(hkk b hb (by omega)).1, (hkk b hb (by omega)).2.trans e⟩
  obtain ⟨r1, r2⟩ := h.regK (w' := w') (ρ' := rol O' 5 ρ) fun b hb e => ⟨(hkk b hb (by omega)).1, (hkk b hb (by omega)).2.trans e⟩
  refine h.turn hg.size (h.below.trans (hg.below (fun b e => (h.lo b (by omega)).1) h.below.size)) ((hkk m hml.2 (by rw [h.me]; decide)).2.trans h.me) (fun b e => ?_) (fun b hb e => hkk b hb (by omega)) ?_ hTl o1 o2 r1 r2
  · rcases rol_ne e with e | ⟨e, _⟩
    · rcases hO b e with e2 | e2
      · exact ⟨(h.lo b (by omega)).1, hT.lt b e⟩
      · exact ⟨Nat.le_trans h.below.size e2.1, e2.2⟩
    · exact ⟨(h.lo b e).1, Nat.lt_of_lt_of_le (h.lo b e).2 hg.size⟩
  · exact hst_mono hT (fun b e => rol_yes e) fun b e => hT.lt b ((rol_eq (by decide)).1 e)
theorem VmC.newRegs {regs' : List Hp.V} {rv' : Value} (h : VmC w0 w ρ H m hb mb T C out regs frs ov rv fv cbs) (hR : w.ownsRow 0 64 3 rv' regs'.length (Hp.flatV regs')) (hn : ∀ b, rv'.ownBlock = some b → ρ b = 0 ∧ w0.heap.size ≤ b) : VmC w0 w (rol (fun b => rv'.ownBlock = some b) 4 ρ) H m hb mb T C out regs' frs ov rv' fv cbs := by
  have hkk : ∀ b, b < w.heap.size → ρ b ≠ 4 → ρ b ≠ 0 → w.heap[b]? = w.heap[b]? ∧ rol (fun b => rv'.ownBlock = some b) 4 ρ b = ρ b := fun b hb h4 h0 => ⟨rfl, rol_no (fun e => h0 (hn b e).1) h4⟩
  have hml := h.lo m (by rw [h.me]; decide)
  obtain ⟨o1, o2⟩ := h.outK (w' := w) (ρ' := rol (fun b => rv'.ownBlock = some b) 4 ρ) fun b hb e => ⟨rfl, (hkk b hb (by omega) (by omega)).2.trans e⟩
  have hlo : ∀ b, rol (fun b => rv'.ownBlock = some b) 4 ρ b ≠ 0 → w0.heap.size ≤ b ∧ b < w.heap.size := fun b e => by
    rcases rol_ne e with e | ⟨e, _⟩
    · exact ⟨(hn b e).2, (hR.lt b e).2⟩
    · exact h.lo b e
  exact h.turn (Nat.le_refl _) h.below ((hkk m hml.2 (by rw [h.me]; decide) (by rw [h.me]; decide)).2.trans h.me) hlo (fun b hb e => hkk b hb (by omega) (by omega)) (h.heapK (Nat.le_refl _) (fun b hb e => ⟨rfl, (hkk b hb (by omega) (by omega)).2.trans e⟩) fun b e => (hlo b (by omega)).2) (Nat.le_refl _) o1 o2 hR fun b e => rol_yes e
theorem VmC.newOut {out' : List UInt8} {ov' : Value} (h : VmC w0 w ρ H m hb mb T C out regs frs ov rv fv cbs) (hO : w'.ownsRow 0 5 1 ov' out'.length (bytes out')) (hg : w.grownBy w' ov.ownBlock) (hl : ov'.ownBlock = ov.ownBlock ∨ ∃ g, ov'.ownBlock = some g ∧ w.heap.size ≤ g) : VmC w0 w' (rol (fun b => ov'.ownBlock = some b) 3 ρ) H m hb mb T C out' regs frs ov' rv fv cbs := by
  have hl2 : ∀ b, ov'.ownBlock = some b → ρ b = 3 ∨ w.heap.size ≤ b := fun b e => by
    rcases hl with e2 | ⟨g, e2, e3⟩
    · exact .inl (h.outr b (e2 ▸ e))
    · rw [e2] at e; cases e; exact .inr e3
  have hkk : ∀ b, b < w.heap.size → ρ b ≠ 3 → w'.heap[b]? = w.heap[b]? ∧ rol (fun b => ov'.ownBlock = some b) 3 ρ b = ρ b := fun b hb h3 => ⟨hg.block b hb fun e => h3 (h.outr b e.symm), rol_no (fun e => by rcases hl2 b e with e | e <;> omega) h3⟩
  have hml := h.lo m (by rw [h.me]; decide)
  obtain ⟨r1, r2⟩ := h.regK (w' := w') (ρ' := rol (fun b => ov'.ownBlock = some b) 3 ρ) fun b hb e => ⟨(hkk b hb (by omega)).1, (hkk b hb (by omega)).2.trans e⟩
  have hlo : ∀ b, rol (fun b => ov'.ownBlock = some b) 3 ρ b ≠ 0 → w0.heap.size ≤ b ∧ b < w'.heap.size := fun b e => by
    rcases rol_ne e with e | ⟨e, _⟩
    · refine ⟨?_, (hO.lt b e).2⟩
      rcases hl2 b e with e | e
      · exact (h.lo b (by omega)).1
      · exact Nat.le_trans h.below.size e
    · exact ⟨(h.lo b e).1, Nat.lt_of_lt_of_le (h.lo b e).2 hg.size⟩
  have hB : Below w0.heap.size w0 w' := ⟨hg.os.trans h.below.os, hg.tape.trans h.below.tape, hg.output.trans h.below.output, Nat.le_trans h.below.size hg.size, fun b hb => (hg.block b (Nat.lt_of_lt_of_le hb h.below.size) fun e => by have := h.lo b (by rw [h.outr b e.symm]; decide); omega).trans (h.below.block b hb)⟩
  exact h.turn hg.size hB ((hkk m hml.2 (by rw [h.me]; decide)).2.trans h.me) hlo (fun b hb e => hkk b hb (by omega)) (h.heapK hg.size (fun b hb e => ⟨(hkk b hb (by omega)).1, (hkk b hb (by omega)).2.trans e⟩) fun b e => (hlo b (by omega)).2) (Nat.le_refl _) hO (fun b e => rol_yes e) r1 r2
theorem VmC.froz {S : Nat → Prop} (h : VmC w0 w ρ H m hb mb T C out regs frs ov rv fv cbs) (hS : ∀ b, S b → ρ b = 0 ∧ w0.heap.size ≤ b ∧ b < w.heap.size) : VmC w0 w (more S 6 ρ) H m hb mb T C out regs frs ov rv fv cbs := by
  have hkk : ∀ b, ρ b ≠ 0 → more S 6 ρ b = ρ b := fun b h0 => more_no fun e => h0 (hS b e).1
  obtain ⟨o1, o2⟩ := h.outK (w' := w) (ρ' := more S 6 ρ) fun b hb e => ⟨rfl, (hkk b (by omega)).trans e⟩
  obtain ⟨r1, r2⟩ := h.regK (w' := w) (ρ' := more S 6 ρ) fun b hb e => ⟨rfl, (hkk b (by omega)).trans e⟩
  have hlo : ∀ b, more S 6 ρ b ≠ 0 → w0.heap.size ≤ b ∧ b < w.heap.size := fun b e => by
    rcases more_ne e with e | e
    · exact (hS b e).2
    · exact h.lo b e
  exact h.turn (Nat.le_refl _) h.below ((hkk m (by rw [h.me]; decide)).trans h.me) hlo (fun b hb e => ⟨rfl, hkk b (by omega)⟩) (h.heapK (Nat.le_refl _) (fun b hb e => ⟨rfl, (hkk b (by omega)).trans e⟩) fun b e => (hlo b (by omega)).2) (Nat.le_refl _) o1 o2 r1 r2
theorem VmC.setFrs {frs' : List Fr} {fv' : Value} (h : VmC w0 w ρ H m hb mb T C out regs frs ov rv fv cbs) (hf : FrAt w ρ H frs' fv') : VmC w0 w ρ H m hb mb T C out regs frs' ov rv fv' cbs :=
  ⟨h.heap, h.map, h.mr, h.len, h.cls, h.out, h.outr, h.regs, h.regr, hf, h.me, h.lo, h.below, h.keys⟩
theorem VmC.setReg {g n cap : Nat} (h : VmC w0 w ρ H m hb mb T C out regs frs ov (.slice (some ⟨g, 0, none⟩) n cap) fv cbs) (r : Nat) (hr : r < regs.length) (v : Hp.V) :
    VmC w0 (((w.setCell ⟨g, r * 3, none⟩ (.int .i64 v.kind)).setCell ⟨g, r * 3 + 1, none⟩ (.int .i64 v.int)).setCell ⟨g, r * 3 + 2, none⟩ (.string v.text)) ρ H m hb mb T C out (regs.set r v) frs ov (.slice (some ⟨g, 0, none⟩) n cap) fv cbs := by
  have hg4 : ρ g = 4 := h.regr g rfl
  have hgl := h.lo g (by omega)
  have hn : n = regs.length := by
    rcases own_shape h.regs with ⟨e, _⟩ | ⟨g', c', e, _⟩ <;> cases e; rfl
  subst hn
  obtain ⟨p1, g1⟩ := h.regs.stored (r * 3) (.int .i64 v.kind)
  obtain ⟨p2, g2⟩ := p1.stored (r * 3 + 1) (.int .i64 v.int)
  obtain ⟨p3, g3⟩ := p2.stored (r * 3 + 2) (.string v.text)
  rw [Hp.flatV_set _ r v hr] at p3
  have hsz : (((w.setCell ⟨g, r * 3, none⟩ (.int .i64 v.kind)).setCell ⟨g, r * 3 + 1, none⟩ (.int .i64 v.int)).setCell ⟨g, r * 3 + 2, none⟩ (.string v.text)).heap.size = w.heap.size := by simp [World.setCell]
  have hblk : ∀ b, b ≠ g → (((w.setCell ⟨g, r * 3, none⟩ (.int .i64 v.kind)).setCell ⟨g, r * 3 + 1, none⟩ (.int .i64 v.int)).setCell ⟨g, r * 3 + 2, none⟩ (.string v.text)).heap[b]? = w.heap[b]? := fun b hb => by
    rw [heap_setCell_other _ _ _ _ hb, heap_setCell_other _ _ _ _ hb, heap_setCell_other _ _ _ _ hb]
  obtain ⟨o1, o2⟩ := h.outK (w' := ((w.setCell ⟨g, r * 3, none⟩ (.int .i64 v.kind)).setCell ⟨g, r * 3 + 1, none⟩ (.int .i64 v.int)).setCell ⟨g, r * 3 + 2, none⟩ (.string v.text)) (ρ' := ρ) fun b hb e => ⟨hblk b (fun e2 => by rw [e2] at e; omega), e⟩
  refine h.turn (by rw [hsz]; exact Nat.le_refl _) (((h.below.setCell (p := ⟨g, r * 3, none⟩) hgl.1 _).setCell (p := ⟨g, r * 3 + 1, none⟩) hgl.1 _).setCell (p := ⟨g, r * 3 + 2, none⟩) hgl.1 _) h.me (fun b e => by rw [hsz]; exact h.lo b e) (fun b hb e => ⟨hblk b (fun e2 => by rw [e2] at e; omega), rfl⟩) (h.heapK (by rw [hsz]; exact Nat.le_refl _) (fun b hb e => ⟨hblk b (fun e2 => by rw [e2] at e; omega), e⟩) fun b e => by rw [hsz]; exact (h.lo b (by omega)).2) (Nat.le_refl _) o1 o2 ?_ h.regr
  rw [List.length_set]
  exact p3
end
end Vm
end Go.Proofs.Ytalfnaielhbocaa
namespace Go.Proofs.Ytalfnaielhbocaa
open Go.RowKit
set_option linter.unusedVariables false
set_option linter.unusedSimpArgs false
namespace Vm
theorem look_map : ∀ (C : List Cl) (cbs : List Nat), cbs.length = C.length → ∀ k : Int, (look C k = none → alook (mapL C cbs) k = none) ∧ ∀ c, look C k = some c → ∃ i cb : Nat, C[i]? = some c ∧ cbs[i]? = some cb ∧ alook (mapL C cbs) k = some (.pointer (some ⟨cb, 0, none⟩))
  | [], [], _, k => ⟨fun _ => rfl, fun c h => by simp [look] at h⟩
  | [], _ :: _, h, k => by simp at h
  | _ :: _, [], h, k => by simp at h
  | x :: C, b :: L, h, k => by
    obtain ⟨h1, h2⟩ := look_map C L (by simpa using h) k
    unfold look at *
    rw [List.find?_cons]
    by_cases hk : (x.key : Int) = k
    · rw [decide_eq_true hk]
      refine ⟨fun e => by simp at e, fun c e => ⟨0, b, ?_, rfl, ?_⟩⟩
      · simpa using e
      · simp [mapL, alook, hk]
    · rw [decide_eq_false hk]
      have hm : alook (mapL (x :: C) (b :: L)) k = alook (mapL C L) k := by
        have : ¬ k = (x.key : Int) := fun e => hk e.symm
        simp [mapL, alook, this]
      rw [hm]
      refine ⟨h1, fun c e => ?_⟩
      obtain ⟨i, cb, e1, e2, e3⟩ := h2 c e
      exact ⟨i + 1, cb, by simpa using e1, by simpa using e2, e3⟩
theorem look_mem {C : List Cl} {k : Int} {c : Cl} (h : look C k = some c) : c ∈ C ∧ (c.key : Int) = k := by
  unfold look at h
  exact ⟨List.mem_of_find?_eq_some h, by simpa using List.find?_some h⟩
theorem mapL_snoc : ∀ (C : List Cl) (cbs : List Nat), cbs.length = C.length → ∀ (k : Cl) (cb : Nat), (∀ c ∈ C, c.key ≠ k.key) → aput (mapL C cbs) (k.key : Int) (.pointer (some ⟨cb, 0, none⟩)) = mapL (C ++ [k]) (cbs ++ [cb])
  | [], [], _, k, cb, _ => rfl
  | [], _ :: _, h, _, _, _ => by simp at h
  | _ :: _, [], h, _, _, _ => by simp at h
  | x :: C, b :: L, h, k, cb, hn => by
    have := mapL_snoc C L (by simpa using h) k cb fun c hc => hn c (List.mem_cons_of_mem _ hc)
    have hk : ¬ ((k.key : Int) = (x.key : Int)) := fun e => hn x (List.mem_cons_self ..) (by omega)
    simp only [mapL, aput, List.cons_append, hk, if_false]
    rw [this]
theorem mapL_tied (k i : Nat) (v : Hp.V) : ∀ (C : List Cl) (cbs : List Nat), mapL (tied C k i v) cbs = mapL C cbs
  | [], _ => rfl
  | _ :: _, [] => rfl
  | x :: C, b :: L => by
    have := mapL_tied k i v C L
    unfold tied at *
    simp only [List.map_cons, mapL]
    rw [this]
    split <;> rfl
section
variable {w0 w w' : World} {ρ ρ' : Nat → Nat} {H : Nat → Value} {m hb mb : Nat} {T : List Hp.Th} {C : List Cl} {out : List UInt8} {regs : List Hp.V} {frs : List Fr} {ov rv fv cv : Value} {cbs : List Nat} {s : St} {left steps : Nat}
theorem VmC.made {k : Cl} {cb : Nat} {av fv' : Value} (h : VmC w0 w ρ H m hb mb T C out regs frs ov rv fv cbs) (hkey : k.key < T.length) (hnew : ∀ c ∈ C, c.key ≠ k.key) (hcf : ∀ c ∈ C, ∀ f ∈ c.frs, f.cl ≠ k.key) (hff : ∀ f ∈ frs, f.cl ≠ k.key) (hkf : ∀ f ∈ k.frs, f.cl ≠ k.key)
    (hcb : w.heap[cb]? = some (.cells #[.int .i64 k.proc, av, .bool k.kont, fv'] 73 (0, 0))) (hcb0 : ρ cb = 0 ∧ w0.heap.size ≤ cb) (ha : w.ownsRow 0 64 3 av k.held.length (Hp.flatV k.held)) (ha0 : ∀ b, av.ownBlock = some b → ρ b = 0 ∧ w0.heap.size ≤ b ∧ b ≠ cb) (hfv : FrAt w ρ H k.frs fv')
    (hmap : AMap (fun n : Int => Value.int .i64 n) w' mb (aput (mapL C cbs) (k.key : Int) (.pointer (some ⟨cb, 0, none⟩)))) (hg : w.grownBy w' (some mb)) :
    ∃ ρ', VmC w0 w' ρ' (fun i => if i = k.key then av else H i) m hb mb T (C ++ [k]) out regs frs ov rv fv (cbs ++ [cb]) ∧ ∀ b, ρ b = 0 → b ≠ cb → av.ownBlock ≠ some b → ρ' b = 0 := by
  refine ⟨more (fun b => b = cb) 6 (more (fun b => av.ownBlock = some b) (7 + k.key) ρ), ?_, fun b q1 q2 q3 => by rw [more_no (S := fun b => b = cb) q2, more_no (S := fun b => av.ownBlock = some b) q3]; exact q1⟩
  have hkk : ∀ b, ρ b ≠ 0 → more (fun b => b = cb) 6 (more (fun b => av.ownBlock = some b) (7 + k.key) ρ) b = ρ b := fun b h0 => by
    rw [more_no (S := fun b => b = cb) (fun e => h0 (by rw [show b = cb from e]; exact hcb0.1)), more_no (S := fun b => av.ownBlock = some b) (fun e => h0 (ha0 b e).1)]
  have hblk : ∀ b, b < w.heap.size → b ≠ mb → w'.heap[b]? = w.heap[b]? := fun b hb hne => hg.block b hb fun e => hne (by cases e; rfl)
  have hmb2 := h.mr
  have hml := h.lo m (by rw [h.me]; decide)
  have hcbl : cb < w.heap.size := (Array.getElem?_eq_some_iff.1 hcb).1
  have hcbm : cb ≠ mb := fun e => by rw [e] at hcb0; omega
  obtain ⟨h1, h2, h3, h4, h5, h6, h7, h8, h9, h10, h11, h12, h13, h14⟩ := h
  have hlo : ∀ b, more (fun b => b = cb) 6 (more (fun b => av.ownBlock = some b) (7 + k.key) ρ) b ≠ 0 → w0.heap.size ≤ b ∧ b < w'.heap.size := fun b e => by
    rcases more_ne e with e | e
    · exact e ▸ ⟨hcb0.2, Nat.lt_of_lt_of_le hcbl hg.size⟩
    · rcases more_ne e with e | e
      · exact ⟨(ha0 b e).2.1, Nat.lt_of_lt_of_le (ha.lt b e).2 hg.size⟩
      · exact ⟨(h12 b e).1, Nat.lt_of_lt_of_le (h12 b e).2 hg.size⟩
  have hB : Below w0.heap.size w0 w' := ⟨hg.os.trans h13.os, hg.tape.trans h13.tape, hg.output.trans h13.output, Nat.le_trans h13.size hg.size, fun b hb => (hblk b (Nat.lt_of_lt_of_le hb h13.size) fun e => by have := h12 b (by rw [e, h3]; decide); omega).trans (h13.block b hb)⟩
  have hH : ∀ i, i ≠ k.key → (fun i => if i = k.key then av else H i) i = H i := fun i hi => by simp [hi]
  have hfr : ∀ {l : List Fr} {fv : Value}, FrAt w ρ H l fv → (∀ f ∈ l, f.cl ≠ k.key) → FrAt w' (more (fun b => b = cb) 6 (more (fun b => av.ownBlock = some b) (7 + k.key) ρ)) (fun i => if i = k.key then av else H i) l fv := fun hf hl =>
    hf.keep (fun b hb e => ⟨hblk b hb (fun e2 => by rw [e2] at e; omega), (hkk b (by omega)).trans e⟩) fun f hf => hH _ (hl f hf)
  refine ⟨?_, ?_, ?_, by simp [h4], ?_, ?_, ?_, ?_, ?_, hfr h10 hff, (hkk m (by rw [h11]; decide)).trans h11, hlo, hB, ?_⟩
  · refine hst_mono (h1.keep hg.size fun b e => hblk b (h1.lt b e) (fun e2 => by rw [e2] at e; omega)) (fun b e => ?_) fun b e => (hlo b (by rw [e]; decide)).2
    rw [hkk b (by omega)]
    exact e
  · rw [mapL_snoc C cbs h4 k cb hnew] at hmap
    exact hmap
  · exact (hkk mb (by omega)).trans h3
  · intro i k' cb' hi hc
    rw [List.getElem?_append] at hi hc
    split at hi
    · rename_i hlt
      rw [if_pos (by omega)] at hc
      have hmem := List.mem_of_getElem? hi
      refine (h5 i k' cb' hi hc).keep (fun b hb e => ⟨hblk b hb (fun e2 => by rw [e2] at e; omega), hkk b (by omega)⟩) (hH _ (hnew k' hmem)) fun f hf => hH _ (hcf k' hmem f hf)
    · rename_i hlt
      rw [if_neg (by omega)] at hc
      have hi0 : i - C.length = 0 := by
        have := (List.getElem?_eq_some_iff.1 hi).1
        simp at this
        omega
      rw [hi0] at hi
      rw [h4, hi0] at hc
      simp at hi hc
      subst hi hc
      refine ⟨⟨fv', ?_, hfr hfv hkf⟩, more_yes rfl, ?_, ?_⟩
      · rw [hblk _ hcbl hcbm, hcb]
        simp
      · simp only [if_true]
        exact own_same ha fun b e => hblk b (ha.lt b e).2 (fun e2 => by have := (ha0 b e).1; rw [e2] at this; omega)
      · intro b e
        simp only [if_true] at e
        rw [more_no (S := fun b => b = cb) (ha0 b e).2.2]
        exact more_yes (S := fun b => av.ownBlock = some b) e
  · exact own_same h6 fun b e => hblk b (h6.lt b e).2 (fun e2 => by have := h7 b e; rw [e2] at this; omega)
  · exact fun b e => (hkk b (by have := h7 b e; omega)).trans (h7 b e)
  · exact own_same h8 fun b e => hblk b (h8.lt b e).2 (fun e2 => by have := h9 b e; rw [e2] at this; omega)
  · exact fun b e => (hkk b (by have := h9 b e; omega)).trans (h9 b e)
  · intro c hc
    rcases List.mem_append.1 hc with hc | hc
    · exact h14 c hc
    · rw [List.mem_singleton] at hc
      rw [hc]
      exact hkey
theorem VmC.tie {i : Nat} {k : Cl} {g n cap : Nat} (h : VmC w0 w ρ H m hb mb T C out regs frs ov rv fv cbs) (hi : C[i]? = some k) (hH : H k.key = .slice (some ⟨g, 0, none⟩) n cap) (j : Nat) (hj : j < k.held.length) (v : Hp.V) :
    VmC w0 (((w.setCell ⟨g, j * 3, none⟩ (.int .i64 v.kind)).setCell ⟨g, j * 3 + 1, none⟩ (.int .i64 v.int)).setCell ⟨g, j * 3 + 2, none⟩ (.string v.text)) ρ H m hb mb T (tied C k.key j v) out regs frs ov rv fv cbs := by
  have hil : i < cbs.length := by rw [h.len]; exact (List.getElem?_eq_some_iff.1 hi).1
  have hk := h.cls i k _ hi (List.getElem?_eq_getElem hil)
  have hg7 : ρ g = 7 + k.key := hk.rr g (by rw [hH]; rfl)
  have hgl := h.lo g (by omega)
  have hsz : (((w.setCell ⟨g, j * 3, none⟩ (.int .i64 v.kind)).setCell ⟨g, j * 3 + 1, none⟩ (.int .i64 v.int)).setCell ⟨g, j * 3 + 2, none⟩ (.string v.text)).heap.size = w.heap.size := by simp [World.setCell]
  have hblk : ∀ b, b ≠ g → (((w.setCell ⟨g, j * 3, none⟩ (.int .i64 v.kind)).setCell ⟨g, j * 3 + 1, none⟩ (.int .i64 v.int)).setCell ⟨g, j * 3 + 2, none⟩ (.string v.text)).heap[b]? = w.heap[b]? := fun b hb => by
    rw [heap_setCell_other _ _ _ _ hb, heap_setCell_other _ _ _ _ hb, heap_setCell_other _ _ _ _ hb]
  have hB : Below w0.heap.size w0 (((w.setCell ⟨g, j * 3, none⟩ (.int .i64 v.kind)).setCell ⟨g, j * 3 + 1, none⟩ (.int .i64 v.int)).setCell ⟨g, j * 3 + 2, none⟩ (.string v.text)) := ((h.below.setCell (p := ⟨g, j * 3, none⟩) hgl.1 _).setCell (p := ⟨g, j * 3 + 1, none⟩) hgl.1 _).setCell (p := ⟨g, j * 3 + 2, none⟩) hgl.1 _
  obtain ⟨o1, o2⟩ := h.outK (w' := ((w.setCell ⟨g, j * 3, none⟩ (.int .i64 v.kind)).setCell ⟨g, j * 3 + 1, none⟩ (.int .i64 v.int)).setCell ⟨g, j * 3 + 2, none⟩ (.string v.text)) (ρ' := ρ) fun b hb e => ⟨hblk b (fun e2 => by rw [e2] at e; omega), e⟩
  obtain ⟨r1, r2⟩ := h.regK (w' := ((w.setCell ⟨g, j * 3, none⟩ (.int .i64 v.kind)).setCell ⟨g, j * 3 + 1, none⟩ (.int .i64 v.int)).setCell ⟨g, j * 3 + 2, none⟩ (.string v.text)) (ρ' := ρ) fun b hb e => ⟨hblk b (fun e2 => by rw [e2] at e; omega), e⟩
  have hT := h.heapK (w' := ((w.setCell ⟨g, j * 3, none⟩ (.int .i64 v.kind)).setCell ⟨g, j * 3 + 1, none⟩ (.int .i64 v.int)).setCell ⟨g, j * 3 + 2, none⟩ (.string v.text)) (ρ' := ρ) (by rw [hsz]; exact Nat.le_refl _) (fun b hb e => ⟨hblk b (fun e2 => by rw [e2] at e; omega), e⟩) fun b e => by rw [hsz]; exact (h.lo b (by omega)).2
  obtain ⟨h1, h2, h3, h4, h5, h6, h7, h8, h9, h10, h11, h12, h13, h14⟩ := h
  refine ⟨hT, ?_, h3, by simp [tied, h4], ?_, o1, o2, r1, r2, h10.keep (fun b hb e => ⟨hblk b (fun e2 => by rw [e2] at e; omega), e⟩) fun _ _ => rfl, h11, fun b e => by rw [hsz]; exact h12 b e, hB, ?_⟩
  · rw [mapL_tied]
    exact h2.kept (hblk mb (fun e2 => by rw [e2] at h3; omega))
  · intro q k' cb' hq hc
    unfold tied at hq
    rw [List.getElem?_map] at hq
    obtain ⟨k0, hk0, rfl⟩ := Option.map_eq_some_iff.1 hq
    have hcl := h5 q k0 cb' hk0 hc
    by_cases hkey : k0.key = k.key
    · rw [if_pos hkey]
      obtain ⟨⟨fv0, c1, c2⟩, c3, c4, c5⟩ := hcl
      rw [hkey, hH] at c4
      have hn : n = k.held.length := by
        have := hk.row
        rw [hH] at this
        rcases own_shape this with ⟨e, _⟩ | ⟨g', c', e, _⟩ <;> cases e; rfl
      have hn0 : n = k0.held.length := by
        rcases own_shape c4 with ⟨e, _⟩ | ⟨g', c', e, _⟩ <;> cases e; rfl
      have hjl : j < k0.held.length := by omega
      subst hn0
      obtain ⟨p1, g1⟩ := c4.stored (j * 3) (.int .i64 v.kind)
      obtain ⟨p2, g2⟩ := p1.stored (j * 3 + 1) (.int .i64 v.int)
      obtain ⟨p3, g3⟩ := p2.stored (j * 3 + 2) (.string v.text)
      rw [Hp.flatV_set _ j v hjl] at p3
      refine ⟨⟨fv0, (hblk cb' (fun e2 => by rw [e2] at c3; omega)).trans c1, c2.keep (fun b hb e => ⟨hblk b (fun e2 => by rw [e2] at e; omega), e⟩) fun _ _ => rfl⟩, c3, ?_, c5⟩
      show World.ownsRow _ 0 _ 3 (H k0.key) (k0.held.set j v).length (Hp.flatV (k0.held.set j v))
      rw [hkey, hH, List.length_set]
      exact p3
    · rw [if_neg hkey]
      exact hcl.keep (fun b hb e => ⟨hblk b (fun e2 => by rw [e2] at e; omega), rfl⟩) rfl fun _ _ => rfl
  · intro c hc
    unfold tied at hc
    obtain ⟨c0, hc0, rfl⟩ := List.mem_map.1 hc
    have := h14 c0 hc0
    split <;> exact this
theorem VmO.set2 {ρ' : Nat → Nat} {H' : Nat → Value} {s' : St} {left' steps' : Nat} {ov' rv' fv' : Value} {cbs' : List Nat} (h : VmO w0 w ρ H m cv s left steps hb mb ov rv fv cbs) (hc : VmC w0 w ρ' H' m hb mb s'.T s'.cls s'.out s'.regs s'.frs ov' rv' fv' cbs') (i : Nat) (v : Value)
    (he : (mCells cv H hb mb s left steps ov rv fv).setIfInBounds i v = mCells cv H' hb mb s' left' steps' ov' rv' fv') : VmO w0 (w.setCell ⟨m, i, none⟩ v) ρ' H' m cv s' left' steps' hb mb ov' rv' fv' cbs' := by
  have hsize : (w.setCell ⟨m, i, none⟩ v).heap.size = w.heap.size := by simp [World.setCell]
  have hlo := hc.lo m (by rw [hc.me]; decide)
  exact ⟨hc.keep (by rw [hsize]; exact Nat.le_refl _) (hc.below.setCell (p := ⟨m, i, none⟩) hlo.1 _) fun b hb e => heap_setCell_other _ _ _ _ (fun e2 => by rw [e2, hc.me] at e; omega), he ▸ heap_setCell_same _ m i _ _ v h.blk⟩
theorem VmO.setReg {g n cap : Nat} (h : VmO w0 w ρ H m cv s left steps hb mb ov (.slice (some ⟨g, 0, none⟩) n cap) fv cbs) (r : Nat) (hr : r < s.regs.length) (v : Hp.V) {s' : St} (hs : s' = { s with regs := s.regs.set r v }) :
    VmO w0 (((w.setCell ⟨g, r * 3, none⟩ (.int .i64 v.kind)).setCell ⟨g, r * 3 + 1, none⟩ (.int .i64 v.int)).setCell ⟨g, r * 3 + 2, none⟩ (.string v.text)) ρ H m cv s' left steps hb mb ov (.slice (some ⟨g, 0, none⟩) n cap) fv cbs := by
  subst hs
  have hg4 : ρ g = 4 := h.c.regr g rfl
  have hne : m ≠ g := fun e => by have := h.c.me; rw [e, hg4] at this; cases this
  refine ⟨h.c.setReg r hr v, ?_⟩
  rw [heap_setCell_other _ _ _ _ hne, heap_setCell_other _ _ _ _ hne, heap_setCell_other _ _ _ _ hne]
  exact h.blk
theorem VmO.call {O' : Nat → Prop} {T' : List Hp.Th} (h : VmO w0 w ρ H m cv s left steps hb mb ov rv fv cbs) (hg : Grow (fun b => ρ b = 5) O' w w') (hT : HSt w' 83 hb O' T') (hTl : s.T.length ≤ T'.length) : VmO w0 w' (rol O' 5 ρ) H m cv { s with T := T' } left steps hb mb ov rv fv cbs :=
  ⟨h.c.call hg hT hTl, (hg.block m h.lt (by rw [h.c.me]; decide)).trans h.blk⟩
theorem VmO.store {R : Nat} (h : VmO w0 w ρ H m cv s left steps hb mb ov rv fv cbs) (hR : ρ R = 0) (hR0 : w0.heap.size ≤ R) (i : Nat) (v : Value) : VmO w0 (w.setCell ⟨R, i, none⟩ v) ρ H m cv s left steps hb mb ov rv fv cbs := by
  have hsize : (w.setCell ⟨R, i, none⟩ v).heap.size = w.heap.size := by simp [World.setCell]
  refine ⟨h.c.keep (by rw [hsize]; exact Nat.le_refl _) (h.c.below.setCell (p := ⟨R, i, none⟩) hR0 _) fun b hb e => heap_setCell_other _ _ _ _ (fun e2 => by rw [e2, hR] at e; omega), ?_⟩
  rw [heap_setCell_other _ _ _ _ (fun e2 => by have := h.c.me; rw [e2, hR] at this; cases this)]
  exact h.blk
theorem VmO.pos (h : VmO w0 w ρ H m cv s left steps hb mb ov rv fv cbs) (k : Nat) : VmO w0 w ρ H m cv { s with pos := k } left steps hb mb ov rv fv cbs := ⟨h.c, h.blk⟩
end
end Vm
end Go.Proofs.Ytalfnaielhbocaa
namespace Go.Proofs.Ytalfnaielhbocaa
open Go.RowKit
set_option linter.unusedVariables false
set_option linter.unusedSimpArgs false
namespace Vm
theorem flatV_snoc (l : List Hp.V) (v : Hp.V) : Hp.flatV (l ++ [v]) = Hp.flatV l ++ [.int .i64 v.kind, .int .i64 v.int, .string v.text] := by
  rw [Hp.flatV_append]
  rfl
theorem vals_snoc {regs : List Hp.V} {l : List Int} {k : Nat} {r : Int} (hr : l[k]? = some r) {v : Hp.V} (hv : regs[r.toNat]? = some v) : vals regs (l.take (k + 1)) = vals regs (l.take k) ++ [v] := by
  rw [List.take_add_one, hr]
  simp [vals, List.getD, hv]
theorem ints_at {l : List Int} {j : Nat} {r : Int} (h : l[j]? = some r) : (ints l)[j]? = some (.int .i64 r) := by simp [ints, h]
theorem own_part {w : World} {B n : Nat} {v : Value} {l : List Hp.V} (h : w.ownsRow B 64 3 v n (Hp.flatV l)) (hn : n = l.length) {j : Nat} {x : Hp.V} (hx : l[j]? = some x) :
    ∃ g c, v = .slice (some ⟨g, 0, none⟩) l.length c ∧ B ≤ g ∧ g < w.heap.size ∧ w.cell? ⟨g, j * 3, none⟩ = some (.int .i64 x.kind) ∧ w.cell? ⟨g, j * 3 + 1, none⟩ = some (.int .i64 x.int) ∧ w.cell? ⟨g, j * 3 + 2, none⟩ = some (.string x.text) ∧ w.frozen? ⟨g, j * 3, none⟩ = false ∧ w.frozen? ⟨g, j * 3 + 1, none⟩ = false ∧ w.frozen? ⟨g, j * 3 + 2, none⟩ = false := by
  have hj : j < l.length := (List.getElem?_eq_some_iff.1 hx).1
  subst hn
  obtain ⟨hl, ⟨rfl, e⟩ | ⟨g, cap, cur, rfl, hb, hg, hn, hc, hz, ht⟩⟩ := h
  · omega
  · have h : w.ownsRow B 64 3 (.slice (some ⟨g, 0, none⟩) l.length cap) l.length (Hp.flatV l) := ⟨hl, .inr ⟨g, cap, cur, rfl, hb, hg, hn, hc, hz, ht⟩⟩
    obtain ⟨f1, f2, f3⟩ := Hp.flatV_at _ j x hx
    refine ⟨g, cap, rfl, hb, (Array.getElem?_eq_some_iff.1 hg).1, ?_, ?_, ?_, frozen_of_row w g _ _ _ hg, frozen_of_row w g _ _ _ hg, frozen_of_row w g _ _ _ hg⟩
    · rw [h.cellAt (j * 3) (by omega)]; exact f1
    · rw [h.cellAt (j * 3 + 1) (by omega)]; exact f2
    · rw [h.cellAt (j * 3 + 2) (by omega)]; exact f3
set_option maxHeartbeats 2000000 in
set_option maxRecDepth 100000 in
theorem vals_any (m : Nat) (rv : Value) (regs : List Hp.V) (lv : Value) (l : List Int) (w : World) (hc : w.cell? ⟨m, 12, none⟩ = some rv) (hrow : w.ownsRow 0 64 3 rv regs.length (Hp.flatV regs)) (hl : Sl w lv (ints l)) (hr : ∀ r ∈ l, 0 ≤ r ∧ r < regs.length) (hlen : l.length ≤ 1000) (hrl : regs.length ≤ 2000) :
    Calls Try.prog 54 #[.pointer (some ⟨m, 0, none⟩), lv] w (CloneV (vals regs l) w) := by
  have hml := block_lt_of_cell hc
  dsimp only at hml
  obtain ⟨i0, hi, hz0, hz1, hz2⟩ := info_parts infoVal
  have HDI := Lib.hid hi
  have HZ0 := Lib.hid hz0
  have HZ1 := Lib.hid hz1
  have HZ2 := Lib.hid hz2
  have HC := Lib.hid hc
  have HROW := Lib.hid hrow
  have HL := Lib.hid hl
  have HR := Lib.hid hr
  obtain ⟨al, cl, rfl⟩ := hl.len
  have hil : (ints l).length = l.length := by simp [ints]
  rw [hil] at HL ⊢
  clear hi hz0 hz1 hz2 hc hrow hl hr
  unfold CloneV
  go_enter Try.func54, Try.ntmps54
  go_wp2_with fail
  go_loopg [5, 7, 10] l.length (fun gk s5 s7 s10 wx => ∃ (k : Nat) (a : Option Addr) (c : Nat), k ≤ l.length ∧ gk = l.length - k ∧ s10 = .int .i64 k ∧ s5 = .slice a k c ∧ Hid (Below w.heap.size w wx) ∧ Hid (wx.ownsRow w.heap.size 64 3 (.slice a k c) k (Hp.flatV (vals regs (l.take k)))))
  case atStart => exact ⟨0, none, 0, Nat.zero_le _, rfl, rfl, rfl, Below.refl _ _, World.ownsRow_nil _ _ _ _⟩
  case round =>
    obtain ⟨k, a, c, hk, rfl, rfl, rfl, HB, HO⟩ := hrel
    have hs := HB.out.size
    by_cases hlt : k < l.length
    · obtain ⟨r, hrk⟩ : ∃ r, l[k]? = some r := ⟨_, List.getElem?_eq_getElem hlt⟩
      have hrr := HR.out r (List.mem_of_getElem? hrk)
      obtain ⟨q, rfl⟩ : ∃ q : Nat, r = q := ⟨r.toNat, by omega⟩
      obtain ⟨v, hv⟩ : ∃ v, regs[q]? = some v := ⟨_, List.getElem?_eq_getElem (by omega)⟩
      obtain ⟨g, c2, rfl, _, hg, p0, p1, p2, _⟩ := own_part HROW.out rfl hv
      have hne : ints l ≠ [] := fun e => by rw [e] at hil; simp at hil; omega
      have hsl := HL.out
      rw [← hil] at hsl
      obtain ⟨b, off, rfl, hbl, hcs⟩ := hsl.at hne
      have c0 := HC.out
      have e0 := hcs k (by omega)
      rw [show (ints l).getD k undef = .int .i64 (q : Nat) by rw [List.getD_eq_getElem?_getD, ints_at hrk]; rfl] at e0
      obtain ⟨kc, kf⟩ := bcellH HB.out
      rw [← kc m 12 hml] at c0
      rw [← kc b _ hbl] at e0
      rw [← kc g _ hg] at p0 p1 p2
      have hmw : m < wr.heap.size := by omega
      have hbw : b < wr.heap.size := by omega
      have hgw : g < wr.heap.size := by omega
      have hg1 : (0 : Int) ≤ k := by omega
      have hg2 : (k : Int) < l.length := by omega
      have hg3 : (0 : Int) ≤ q := by omega
      have hg4 : (q : Int) < regs.length := by omega
      have hgk : IntKind.i64.wrap ((k : Int) + 1) = k + 1 := by rw [IntKind.wrap_i64]; omega
      have HV := Lib.hid (vals_snoc hrk (v := v) (by simpa using hv))
      have hbB := (Below.refl wr.heap.size wr).alloc (Nat.le_refl _) (.cells #[.int .i64 v.kind, .int .i64 v.int, .string v.text] 64)
      have HB9 := Lib.hid hbB
      have HR9 := Lib.hid (own_same HO.out (fun b e => hbB.block b (HO.out.lt b e).2))
      clear hbB hcs kc kf hrk hv hsl
      go_wp2_with (at_builtin; refine wpList_append_own _ rfl (.tmp 14) (.tmp 22) 66 rfl w.heap.size 64 i0 _ 3 32 Try.underlying66 HDI.out HZ0.out HZ1.out HZ2.out rfl (by decide) (.slice a k c) k (Hp.flatV (vals regs (l.take k))) rfl ?a2 ⟨wr.heap.size, 0, none⟩ 1 1 [.int .i64 v.kind, .int .i64 v.int, .string v.text] rfl rfl ?a4 ?a5 ?a6 ?a7 ?a8 ?_; (case a2 => exact HR9.out); (case a4 => exact new_cells _ (heap_alloc_new wr _)); (case a5 => simp [Value.oneCell']); (case a6 => (simp only [maxLen]; omega)); (case a7 => omega); (case a8 => (simp; omega)); intro v9 w9 hown hgr hnil; rw [← flatV_snoc, ← HV.out] at hown; obtain ⟨a9, c9, rfl⟩ := own_slice hown; have HOWN := Lib.hid hown; have HS9 := Lib.hid ((HB.out.trans (HB9.out.mono hs)).grown hgr (by simp; omega) (fun b e => (HO.out.lt b e).1)); clear hown hgr hnil)
      go_roundg (l.length - (k + 1))
      case measure => omega
      case rel => exact ⟨k + 1, _, _, by omega, rfl, by go_num, rfl, HS9, HOWN⟩
    · obtain rfl : k = l.length := by omega
      have hr := HO.out
      rw [List.take_length] at hr
      have HR2 := Lib.hid hr
      clear hr
      go_wp2_with fail
      go_ret
      rw [vals_length]
      exact ⟨a, c, rfl, HR2.out, HB.out⟩
end Vm
end Go.Proofs.Ytalfnaielhbocaa
