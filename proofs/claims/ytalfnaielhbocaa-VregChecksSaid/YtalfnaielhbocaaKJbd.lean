/- The machine's tell. -/
import Derived.BigRegion
import Derived.Test.YtalfnaielhbocaaKJbc
import Derived.Test.YtalfnaielhbocaaKJay
set_option linter.unusedVariables false
set_option linter.unusedSimpArgs false
set_option linter.unnecessarySimpa false
namespace Go.Proofs.Ytalfnaielhbocaa
open Go.RowKit
set_option linter.unusedVariables false
set_option linter.unusedSimpArgs false
set_option maxRecDepth 100000
namespace Vm
section
variable {w0 w w' : World} {ρ ρ' : Nat → Nat} {H : Nat → Value} {m hb mb : Nat} {T : List Hp.Th} {C : List Cl} {out : List UInt8} {regs : List Hp.V} {frs : List Fr} {ov rv fv cv : Value} {cbs : List Nat} {s : St} {left steps : Nat}
theorem FrAt.ptr (h : FrAt w ρ H frs fv) : ∃ p, fv = .pointer p := by
  cases h with
  | nil => exact ⟨_, rfl⟩
  | cons f fs b rv up hb hr hrow hrr hup => exact ⟨_, rfl⟩
theorem VmC.held (h : VmC w0 w ρ H m hb mb T C out regs frs ov rv fv cbs) {k : Cl} (hk : k ∈ C) : w.ownsRow 0 64 3 (H k.key) k.held.length (Hp.flatV k.held) ∧ (∀ b, (H k.key).ownBlock = some b → ρ b = 7 + k.key) ∧ ∃ a c, H k.key = .slice a k.held.length c := by
  obtain ⟨i, hi⟩ := List.mem_iff_getElem?.1 hk
  have hil : i < cbs.length := by rw [h.len]; exact (List.getElem?_eq_some_iff.1 hi).1
  have := h.cls i k _ hi (List.getElem?_eq_getElem hil)
  exact ⟨this.row, this.rr, own_slice this.row⟩
structure Boxed (w w1 : World) (cs : Array Value) (t : TypeId) : Prop where
  eq : w1 = w.alloc (.cells cs t)
  below : Below w.heap.size w w1
  size : w1.heap.size = w.heap.size + 1
  blk : w1.heap[w.heap.size]? = some (.cells cs t (0, 0))
theorem boxed (w : World) (cs : Array Value) (t : TypeId) : ∃ w1, Boxed w w1 cs t := ⟨_, rfl, (Below.refl _ _).alloc (Nat.le_refl _) _, by simp, heap_alloc_new w _⟩
theorem VmO.drew (h : VmO w0 w ρ H m cv s left steps hb mb ov rv fv cbs) (n : Nat) : VmO w0 (w.drewN n) ρ H m cv s left steps hb mb ov rv fv cbs := h.bel (below_drewN (Below.refl _ _) n)
set_option maxHeartbeats 2000000 in
theorem tell_nil (h : VmO w0 w ρ H m cv s left steps hb mb ov rv fv cbs) (hf : s.frs = []) (v : Hp.V) :
    Calls Try.prog 34 #[.pointer (some ⟨m, 0, none⟩), v.val] w fun e w' => e = .returned (.tuple #[]) ∧ VmAt w0 w' m cv (tell s v) left steps := by
  have hm := h.lt
  have hfr := h.c.frs
  rw [hf] at hfr
  cases hfr
  obtain ⟨w1, B⟩ := boxed w #[.int .i64 v.kind, .int .i64 v.int, .string v.text] 64
  have HH := h.bel B.below
  have HB := Lib.hid B
  have c15 : w.cell? ⟨m, 15, none⟩ = some (.pointer none) := h.cell 15
  have c16 : w1.cell? ⟨m, 16, none⟩ = some (.bool s.done) := HH.cell 16
  have c17 : w1.cell? ⟨m, 17, none⟩ = some (.int .i64 s.told.kind) := HH.cell 17
  have c18 : w1.cell? ⟨m, 18, none⟩ = some (.int .i64 s.told.int) := HH.cell 18
  have c19 : w1.cell? ⟨m, 19, none⟩ = some (.string s.told.text) := HH.cell 19
  have f16 := HH.fz 16
  have f17 := HH.fz 17
  have f18 := HH.fz 18
  have f19 := HH.fz 19
  have p0 := cell_of_row w1 w.heap.size 0 _ _ _ B.blk
  have p1 := cell_of_row w1 w.heap.size 1 _ _ _ B.blk
  have p2 := cell_of_row w1 w.heap.size 2 _ _ _ B.blk
  simp only [List.getElem?_toArray, List.getElem?_cons_zero, List.getElem?_cons_succ] at p0 p1 p2
  have hmw := HH.lt
  have hqw : w.heap.size < w1.heap.size := by have := B.size; omega
  have hmq : m ≠ w.heap.size := by omega
  have hqm : w.heap.size ≠ m := by omega
  have HHH := Lib.hid HH
  have HT : Hid (tell s v = { s with done := true, told := v }) := by
    unfold Hid tell
    rw [hf]
  clear h HH B
  unfold Hp.V.val
  go_enter Try.func34, Try.ntmps34
  go_wp2_with fail
  rw [← HB.out.eq]
  go_region
  go_wp2_with fail
  refine bodyPost_ret (results_none rfl _ _ _) rfl ?_
  refine ⟨rfl, ρ, H, hb, mb, ov, rv, .pointer none, cbs, ?_⟩
  rw [HT.out]
  exact ((((HHH.out.set 16 (.bool true) (s' := { s with done := true }) (left' := left) (steps' := steps) rfl rfl rfl rfl rfl rfl).set 17 (.int .i64 v.kind) (s' := { s with done := true, told := ⟨v.kind, s.told.int, s.told.text⟩ }) (left' := left) (steps' := steps) rfl rfl rfl rfl rfl rfl).set 18 (.int .i64 v.int) (s' := { s with done := true, told := ⟨v.kind, v.int, s.told.text⟩ }) (left' := left) (steps' := steps) rfl rfl rfl rfl rfl rfl).set 19 (.string v.text) (s' := { s with done := true, told := v }) (left' := left) (steps' := steps) rfl rfl rfl rfl rfl rfl).drew 1
set_option maxHeartbeats 2000000 in
theorem tell_cons (h : VmO w0 w ρ H m cv s left steps hb mb ov rv fv cbs) {f : Fr} {fs : List Fr} (hf : s.frs = f :: fs) (hto : f.to < f.regs.length) (hrl : f.regs.length ≤ 2000) {k : Cl} (hk : k ∈ s.cls) (hkf : k.key = f.cl) (v : Hp.V) :
    Calls Try.prog 34 #[.pointer (some ⟨m, 0, none⟩), v.val] w fun e w' => e = .returned (.tuple #[]) ∧ VmAt w0 w' m cv (tell s v) left steps := by
  have hm := h.lt
  have hfr := h.c.frs
  rw [hf] at hfr
  cases hfr with
  | cons _ _ b rv' up hbk hr hrow hrr hup =>
  obtain ⟨up, rfl⟩ := hup.ptr
  obtain ⟨ar, cr, rfl⟩ := own_slice hrow
  have hbl := (Array.getElem?_eq_some_iff.1 hbk).1
  have hbm : b ≠ m := fun e => by rw [e, h.c.me] at hr; cases hr
  have hmb : m ≠ b := fun e => hbm e.symm
  have c15 : w.cell? ⟨m, 15, none⟩ = some (.pointer (some ⟨b, 0, none⟩)) := h.cell 15
  have c11 : w.cell? ⟨m, 11, none⟩ = some (.int .i64 s.proc) := h.cell 11
  have c12 : w.cell? ⟨m, 12, none⟩ = some rv := h.cell 12
  have c13 : w.cell? ⟨m, 13, none⟩ = some (H s.cl) := h.cell 13
  have c14 : w.cell? ⟨m, 14, none⟩ = some (.int .i64 s.block) := h.cell 14
  have f11 := h.fz 11
  have f12 := h.fz 12
  have f13 := h.fz 13
  have f14 := h.fz 14
  have f15 := h.fz 15
  have b0 : w.cell? ⟨b, 0, none⟩ = some (.int .i64 f.proc) := cell_of_row w b 0 _ _ _ hbk
  have b1 : w.cell? ⟨b, 1, none⟩ = some (.slice ar f.regs.length cr) := cell_of_row w b 1 _ _ _ hbk
  have b2 : w.cell? ⟨b, 2, none⟩ = some (H f.cl) := cell_of_row w b 2 _ _ _ hbk
  have b3 : w.cell? ⟨b, 3, none⟩ = some (.int .i64 f.to) := cell_of_row w b 3 _ _ _ hbk
  have b4 : w.cell? ⟨b, 4, none⟩ = some (.int .i64 f.next) := cell_of_row w b 4 _ _ _ hbk
  have b5 : w.cell? ⟨b, 5, none⟩ = some (.pointer up) := cell_of_row w b 5 _ _ _ hbk
  obtain ⟨w1, B⟩ := boxed w #[.int .i64 v.kind, .int .i64 v.int, .string v.text] 64
  have HB := Lib.hid B
  have H1 := h.bel B.below
  have HUP := hup.keep (w' := w1) (ρ' := ρ) (H' := H) (fun b hb e => ⟨B.below.block b hb, e⟩) fun _ _ => rfl
  have HR := own_same hrow fun k e => B.below.block k (hrow.lt k e).2
  have hbk1 := (B.below.block b hbl).trans hbk
  have d0 : w1.cell? ⟨b, 0, none⟩ = some (.int .i64 f.proc) := cell_of_row w1 b 0 _ _ _ hbk1
  have d2 : w1.cell? ⟨b, 2, none⟩ = some (H f.cl) := cell_of_row w1 b 2 _ _ _ hbk1
  have d4 : w1.cell? ⟨b, 4, none⟩ = some (.int .i64 f.next) := cell_of_row w1 b 4 _ _ _ hbk1
  have d5 : w1.cell? ⟨b, 5, none⟩ = some (.pointer up) := cell_of_row w1 b 5 _ _ _ hbk1
  have e11 : w1.cell? ⟨m, 11, none⟩ = some (.int .i64 s.proc) := H1.cell 11
  have e13 : w1.cell? ⟨m, 13, none⟩ = some (H s.cl) := H1.cell 13
  have e14 : w1.cell? ⟨m, 14, none⟩ = some (.int .i64 s.block) := H1.cell 14
  have e15 : w1.cell? ⟨m, 15, none⟩ = some (.pointer (some ⟨b, 0, none⟩)) := H1.cell 15
  have y11 := H1.fz 11
  have y13 := H1.fz 13
  have y14 := H1.fz 14
  have y15 := H1.fz 15
  obtain ⟨_, _, ah, ch, hH⟩ := h.c.held hk
  rw [hkf] at hH
  rw [hH] at d2
  have hm1 := H1.lt
  have hb1 : b < w1.heap.size := (Array.getElem?_eq_some_iff.1 hbk1).1
  have X := ((((H1.set 11 (.int .i64 f.proc) (s' := { s with proc := f.proc }) (left' := left) (steps' := steps) rfl rfl rfl rfl rfl rfl).set 13 (H f.cl) (s' := { s with proc := f.proc, cl := f.cl }) (left' := left) (steps' := steps) rfl rfl rfl rfl rfl rfl).set 14 (.int .i64 f.next) (s' := { s with proc := f.proc, cl := f.cl, block := f.next }) (left' := left) (steps' := steps) rfl rfl rfl rfl rfl rfl))
  rw [hH] at X
  obtain ⟨W, hW⟩ : ∃ W, W = ((w1.setCell ⟨m, 11, none⟩ (.int .i64 f.proc)).setCell ⟨m, 13, none⟩ (.slice ah k.held.length ch)).setCell ⟨m, 14, none⟩ (.int .i64 f.next) := ⟨_, rfl⟩
  rw [← hW] at X
  have hWk : ∀ k, k ≠ m → W.heap[k]? = w1.heap[k]? := fun k hk => by
    rw [hW, heap_setCell_other _ _ _ _ hk, heap_setCell_other _ _ _ _ hk, heap_setCell_other _ _ _ _ hk]
  have hWs : W.heap.size = w1.heap.size := by rw [hW]; simp [World.setCell]
  have HUP2 := HUP.keep (w' := W) (ρ' := ρ) (H' := H) (fun k hk e => ⟨hWk k fun e2 => (by rw [e2, X.c.me] at e; cases e), e⟩) fun _ _ => rfl
  have X2 := X.set2 (s' := { s with proc := f.proc, cl := f.cl, block := f.next, frs := fs }) (left' := left) (steps' := steps) (fv' := .pointer up) (ov' := ov) (rv' := rv) (H' := H) (cbs' := cbs) (X.c.setFrs HUP2) 15 (.pointer up) rfl
  obtain ⟨w2, hw2⟩ : ∃ w2, w2 = (W.setCell ⟨m, 15, none⟩ (.pointer up)).drew := ⟨_, rfl⟩
  have X3 : VmO w0 w2 ρ H m cv { s with proc := f.proc, cl := f.cl, block := f.next, frs := fs } left steps hb mb ov rv (.pointer up) cbs := by
    rw [hw2]
    exact X2.drew 1
  have hw2k : ∀ k, k ≠ m → w2.heap[k]? = w1.heap[k]? := fun k hk => by
    rw [hw2]
    exact (heap_setCell_other _ _ _ _ hk).trans (hWk k hk)
  have hw2s : w2.heap.size = w1.heap.size := by
    rw [hw2]
    show (W.setCell _ _).heap.size = _
    simp [World.setCell, hWs]
  have HR2 := own_same HR fun k e => hw2k k fun e2 => by have := hrr k e; rw [e2, h.c.me] at this; cases this
  rw [hW] at hw2
  have HW2 := Lib.hid hw2
  have hbk2 := (hw2k b hbm).trans hbk1
  have g1 : w2.cell? ⟨b, 1, none⟩ = some (.slice ar f.regs.length cr) := cell_of_row w2 b 1 _ _ _ hbk2
  have HX3 := Lib.hid X3
  have HR3 := Lib.hid HR2
  have HBK2 := Lib.hid hbk2
  have hmz : m < w2.heap.size := X3.lt
  have hbz : b < w2.heap.size := by omega
  have hqz : w.heap.size < w2.heap.size := by have := B.size; omega
  have hqm : w.heap.size ≠ m := by omega
  have hmq : m ≠ w.heap.size := by omega
  have HQ : Hid (w2.heap[w.heap.size]? = some (.cells #[.int .i64 v.kind, .int .i64 v.int, .string v.text] 64 (0, 0))) := (hw2k _ hqm).trans B.blk
  clear X X2 HUP HUP2 H1 B HR HR2 hWk hWs hw2k hbk1 hbk2 X3 hW hw2 hbk hrow hup
  have HT : Hid (tell s v = { s with proc := f.proc, cl := f.cl, block := f.next, pos := 0, frs := fs, regs := f.regs.set f.to v }) := by
    unfold Hid tell
    rw [hf]
  have HH := Lib.hid h
  clear h
  unfold Hp.V.val
  go_enter Try.func34, Try.ntmps34
  go_wp2_with fail
  rw [← HB.out.eq]
  go_region
  rw [← HW2.out]
  go_wp2_with fail
  with_reducible refine (clone_any _ f.regs _ (VSl.own HR3.out) (by omega)).mono ?_
  rintro e w3 ⟨a3, c3, rfl, hown3, hb3⟩
  have X4 := HX3.out.bel hb3
  have hown0 := hown3.mono (Nat.zero_le w2.heap.size)
  have hfresh : ∀ q, (Value.slice a3 f.regs.length c3).ownBlock = some q → ρ q = 0 ∧ w0.heap.size ≤ q := fun q e => by
    have h1 := (hown3.lt q e).1
    refine ⟨Decidable.byContradiction fun h0 => ?_, Nat.le_trans HX3.out.c.below.size h1⟩
    have := (HX3.out.c.lo q h0).2
    omega
  have X5 := X4.set2 (s' := { s with proc := f.proc, cl := f.cl, block := f.next, frs := fs, regs := f.regs }) (left' := left) (steps' := steps) (fv' := .pointer up) (ov' := ov) (rv' := .slice a3 f.regs.length c3) (H' := H) (cbs' := cbs) (X4.c.newRegs hown0 hfresh) 12 (.slice a3 f.regs.length c3) rfl
  obtain ⟨x, hx⟩ : ∃ x, f.regs[f.to]? = some x := ⟨_, List.getElem?_eq_getElem hto⟩
  obtain ⟨w4, hw4⟩ : ∃ w4, w4 = w3.setCell ⟨m, 12, none⟩ (.slice a3 f.regs.length c3) := ⟨_, rfl⟩
  rw [← hw4] at X5
  have hown4 := X5.c.regs
  dsimp only at hown4
  obtain ⟨g, cg, eg, _, hgl, z0, z1, z2, y0, y1, y2⟩ := own_part hown4 rfl hx
  cases eg
  have i12 : w3.cell? ⟨m, 12, none⟩ = some rv := X4.cell 12
  have k12 := X4.fz 12
  have j12 : w4.cell? ⟨m, 12, none⟩ = some (.slice (some ⟨g, 0, none⟩) f.regs.length c3) := X5.cell 12
  have hbk3 := (hb3.block b hbz).trans HBK2.out
  have hqk3 := (hb3.block w.heap.size hqz).trans HQ.out
  have hm3 := X4.lt
  have hb3' : b < w3.heap.size := (Array.getElem?_eq_some_iff.1 hbk3).1
  have hq3' : w.heap.size < w3.heap.size := (Array.getElem?_eq_some_iff.1 hqk3).1
  have hbk4 : w4.heap[b]? = some (.cells #[.int .i64 f.proc, .slice ar f.regs.length cr, H f.cl, .int .i64 f.to, .int .i64 f.next, .pointer up] 100 (0, 0)) := by
    rw [hw4, heap_setCell_other _ _ _ _ hbm]
    exact hbk3
  have hqk4 : w4.heap[w.heap.size]? = some (.cells #[.int .i64 v.kind, .int .i64 v.int, .string v.text] 64 (0, 0)) := by
    rw [hw4, heap_setCell_other _ _ _ _ hqm]
    exact hqk3
  have l3 : w4.cell? ⟨b, 3, none⟩ = some (.int .i64 f.to) := cell_of_row w4 b 3 _ _ _ hbk4
  have p0 : w4.cell? ⟨w.heap.size, 0, none⟩ = some (.int .i64 v.kind) := cell_of_row w4 w.heap.size 0 _ _ _ hqk4
  have p1 : w4.cell? ⟨w.heap.size, 1, none⟩ = some (.int .i64 v.int) := cell_of_row w4 w.heap.size 1 _ _ _ hqk4
  have p2 : w4.cell? ⟨w.heap.size, 2, none⟩ = some (.string v.text) := cell_of_row w4 w.heap.size 2 _ _ _ hqk4
  have HX6 := Lib.hid (X5.setReg f.to hto v rfl)
  have HW4 := Lib.hid hw4
  have hm4 := X5.lt
  have hg1 : (0 : Int) ≤ f.to := by omega
  have hg2 : (f.to : Int) < f.regs.length := by omega
  clear hown3 hb3 X4 hown0 hfresh X5 hown4 hbk3 hqk3 hbk4 hqk4 hw4 hx
  go_wp2_with fail
  rw [← HW4.out]
  go_region
  go_wp2_with fail
  refine bodyPost_end (results_none rfl _ _ _) rfl ?_
  refine ⟨rfl, ?_⟩
  rw [HT.out]
  exact ⟨_, _, _, _, _, _, _, _, (HX6.out.pos 0).drew 1⟩
end
end Vm
end Go.Proofs.Ytalfnaielhbocaa
namespace Go.Proofs.Ytalfnaielhbocaa
open Go.RowKit
set_option linter.unusedVariables false
set_option linter.unusedSimpArgs false
set_option maxRecDepth 100000
namespace Vm
theorem makeF_proc (T : List Hp.Th) : Hp.makeF T 4 [] = (⟨8, T.length, ⟨#[]⟩⟩, 0, T ++ [⟨4, []⟩]) := by
  unfold Hp.makeF Hp.makeOk Hp.sizeOk
  simp
section
variable {w0 w w' : World} {ρ ρ' : Nat → Nat} {H : Nat → Value} {m hb mb : Nat} {T : List Hp.Th} {C : List Cl} {out : List UInt8} {regs : List Hp.V} {frs : List Fr} {ov rv fv cv : Value} {cbs : List Nat} {s : St} {left steps : Nat}
structure MadeIn (w0 w : World) (ρ : Nat → Nat) (H : Nat → Value) (m : Nat) (cv : Value) (s : St) (left steps hb mb : Nat) (ov rv fv : Value) (cbs : List Nat) (proc : Nat) (held : List Hp.V) (kont : Bool) (kfs : List Fr) (av fv' : Value) : Prop where
  at' : VmO w0 w ρ H m cv s left steps hb mb ov rv fv cbs
  row : w.ownsRow 0 64 3 av held.length (Hp.flatV held)
  free : ∀ b, av.ownBlock = some b → ρ b = 0 ∧ w0.heap.size ≤ b
  fra : FrAt w ρ H kfs fv'
  few : s.T.length ≤ 1000000
  cf : ∀ c ∈ s.cls, ∀ f ∈ c.frs, f.cl < s.T.length
  ff : ∀ f ∈ s.frs, f.cl < s.T.length
  kf : ∀ f ∈ kfs, f.cl < s.T.length
  cl : s.cl = s.T.length → av = H s.cl
def MadePost (w0 w : World) (ρ : Nat → Nat) (m : Nat) (cv : Value) (s s' : St) (left steps hb mb : Nat) (ov rv fv : Value) (cbs : List Nat) (av : Value) (e : Ending) (w' : World) : Prop :=
  e = .returned s.newV.val ∧ (∃ ρ' H', VmO w0 w' ρ' H' m cv s' left steps hb mb ov rv fv cbs ∧ ∀ b, b < w.heap.size → ρ b = 0 → av.ownBlock ≠ some b → ρ' b = 0) ∧ w.heap.size ≤ w'.heap.size ∧ ∀ b, b < w.heap.size → ρ b = 0 → w'.heap[b]? = w.heap[b]?
set_option maxHeartbeats 2000000 in
theorem made_any {proc : Nat} {held : List Hp.V} {kont : Bool} {frs : List Fr} {av fv' : Value} (h : MadeIn w0 w ρ H m cv s left steps hb mb ov rv fv cbs proc held kont frs av fv') :
    Calls Try.prog 23 #[.pointer (some ⟨m, 0, none⟩), .agg #[.int .i64 proc, av, .bool kont, fv']] w (MadePost w0 w ρ m cv s (s.made proc held kont frs) left steps hb mb ov rv fv (cbs ++ [w.heap.size]) av) := by
  have hm := h.at'.lt
  obtain ⟨fp, rfl⟩ := h.fra.ptr
  obtain ⟨aa, ca, rfl⟩ := own_slice h.row
  obtain ⟨w1, B⟩ := boxed w #[.int .i64 proc, .slice aa held.length ca, .bool kont, .pointer fp] 73
  obtain ⟨w2, B2⟩ := boxed w1 #[.int .i64 0, .int .i64 0, .string ⟨#[]⟩] 64
  have hs1 := B.size
  have hs2 := B2.size
  have hB2 : Below w.heap.size w w2 := B.below.trans (B2.below.mono B.below.size)
  have H2 := h.at'.bel hB2
  have c1 : w2.cell? ⟨m, 1, none⟩ = some (.pointer (some ⟨hb, 0, none⟩)) := H2.cell 1
  have c1w : w.cell? ⟨m, 1, none⟩ = some (.pointer (some ⟨hb, 0, none⟩)) := h.at'.cell 1
  have hm2 := H2.lt
  have HI : MakeIn w2 hb (fun b => ρ b = 5) s.T (.slice none 0 0) [] := ⟨H2.c.heap, ⟨none, 0, rfl, .inl ⟨rfl, rfl, rfl⟩⟩, by simp, fun x hx => by cases hx⟩
  have HMK := Lib.hid (Make_any HI h.few 4)
  rw [makeF_proc] at HMK
  have HB := Lib.hid B
  have HB2 := Lib.hid B2
  have HH2 := Lib.hid H2
  have HH := Lib.hid h
  clear h B B2 H2 HI
  unfold DoPost Hp.V.val at HMK
  dsimp only at HMK
  go_enter Try.func23, Try.ntmps23
  go_wp2_with fail
  rw [← HB.out.eq, ← HB2.out.eq]
  with_reducible refine HMK.out.mono ?_
  rintro e w3 ⟨O', rfl, hst3, hgr3⟩
  have X3 := HH2.out.call hgr3 hst3 (by simp)
  have hb3 : ∀ b, b < w2.heap.size → ρ b ≠ 5 → w3.heap[b]? = w2.heap[b]? := fun b h1 h2 => hgr3.block b h1 h2
  have hR0 : ρ (w.heap.size + 1) = 0 := Decidable.byContradiction fun e => by have := (HH.out.at'.c.lo _ e).2; omega
  have hC0 : ρ w.heap.size = 0 := Decidable.byContradiction fun e => by have := (HH.out.at'.c.lo _ e).2; omega
  have hO' : ∀ b, b < w2.heap.size → ρ b ≠ 5 → ¬ O' b := fun b h1 h2 e => by rcases hgr3.own b e with e | e <;> omega
  have hR3 : w3.heap[w.heap.size + 1]? = some (.cells #[.int .i64 0, .int .i64 0, .string ⟨#[]⟩] 64 (0, 0)) := by
    rw [hb3 _ (by omega) (by omega), ← hs1]
    exact HB2.out.blk
  have hC3 : w3.heap[w.heap.size]? = some (.cells #[.int .i64 proc, .slice aa held.length ca, .bool kont, .pointer fp] 73 (0, 0)) := by
    rw [hb3 _ (by omega) (by omega)]
    exact (HB2.out.below.block _ (by omega)).trans HB.out.blk
  have hs3 := hgr3.size
  obtain ⟨w4, B4⟩ := boxed w3 #[.int .i64 8, .int .i64 s.T.length, .string ⟨#[]⟩] 64
  have X4 := X3.bel B4.below
  have d2 : w4.cell? ⟨m, 2, none⟩ = some (.map (some mb)) := X4.cell 2
  have d3 : w4.cell? ⟨w3.heap.size, 1, none⟩ = some (.int .i64 s.T.length) := cell_of_row w4 _ 1 _ _ _ B4.blk
  have hm4 := X4.lt
  have hv4 : w3.heap.size < w4.heap.size := by have := B4.size; omega
  have hmb3 : mb < w3.heap.size := X3.c.map.lt
  have hmr : ρ mb = 2 := HH2.out.c.mr
  have hne1 : w3.heap.size ≠ mb := by omega
  have hne2 : w.heap.size + 1 ≠ mb := fun e => by rw [e, hmr] at hR0; cases hR0
  have hne3 : w.heap.size ≠ mb := fun e => by rw [e, hmr] at hC0; cases hC0
  have hR4 := (B4.below.block (w.heap.size + 1) (by omega)).trans hR3
  have HR4 := Lib.hid hR4
  have HB4 := Lib.hid B4
  have HX4 := Lib.hid X4
  have HR3 := Lib.hid hR3
  have HC3 := Lib.hid hC3
  have HO' := Lib.hid hO'
  have HB3 := Lib.hid hb3
  clear hst3 hgr3 X3 hb3 hR3 hC3 hO' B4 X4
  go_wp2_with fail
  rw [← HB4.out.eq]
  refine wp_still_tail 6 (by kernel_rfl) (by kernel_rfl) ?_
  simp only [List.take_succ_cons, List.take_zero, List.drop_succ_cons, List.drop_zero]
  repeat still_step
  refine wpStill_nil ?_
  show wpList _ _ _ _ _ _
  go_wp2_with (first | (at_mapUpdate; refine wpList_update_amap rfl (.tmp 18) (.tmp 20) (.tmp 3) rfl (keyOk_int Try.underlying3) Try.underlying62 (HX4.out.c.map.drewN 1) rfl (s.T.length : Int) (.pointer (some ⟨w.heap.size, 0, none⟩)) rfl rfl ?_; intro w5 hm5 hg5; have hv5 := (hg5.block w3.heap.size hv4 (fun e => hne1 (Option.some.inj e))).trans HB4.out.blk; have hr5 := (hg5.block (w.heap.size + 1) (Nat.lt_trans (Nat.lt_of_lt_of_le (by omega) hs3) hv4) (fun e => hne2 (Option.some.inj e))).trans HR4.out; have v0 := cell_of_row w5 _ 0 _ _ _ hv5; have v1 := cell_of_row w5 _ 1 _ _ _ hv5; have v2 := cell_of_row w5 _ 2 _ _ _ hv5; have r0 := cell_of_row w5 _ 0 _ _ _ hr5; have r1 := cell_of_row w5 _ 1 _ _ _ hr5; have r2 := cell_of_row w5 _ 2 _ _ _ hr5; have y0 := frozen_of_row w5 _ 0 _ _ hr5; have y1 := frozen_of_row w5 _ 1 _ _ hr5; have y2 := frozen_of_row w5 _ 2 _ _ hr5; simp only [List.getElem?_toArray, List.getElem?_cons_zero, List.getElem?_cons_succ] at v0 v1 v2 r0 r1 r2; have HR5 := Lib.hid hr5; have HM5 := Lib.hid hm5; have HG5 := Lib.hid hg5; clear hm5 hg5 hv5 hr5))
  refine bodyPost_ret (res1 rfl _ _ (w.heap.size + 1) 64 _ (0, 0) rfl (three_set _ _ _ _ _ _ _ _ _ HR5.out) valD valSize) rfl ?_
  have hw02 : w0.heap.size ≤ w.heap.size := HH.out.at'.c.below.size
  have hk4 : ∀ b, b < w.heap.size → ρ b ≠ 5 → w4.heap[b]? = w.heap[b]? := fun b h1 h2 => (HB4.out.below.block b (by omega)).trans ((HB3.out b (by omega) h2).trans (hB2.block b h1))
  have hr0 : ∀ b, b < w2.heap.size → ρ b = 0 → rol O' 5 ρ b = 0 := fun b h1 h2 => (rol_no (HO'.out b h1 (by omega)) (by omega)).trans h2
  have hrk : ∀ b, b < w2.heap.size → ρ b ≠ 5 → rol O' 5 ρ b = ρ b := fun b h1 h2 => rol_no (HO'.out b h1 h2) h2
  obtain ⟨ρ', hC, h0⟩ := (HX4.out.drew 1).c.made (w' := w5) (k := ⟨s.T.length, proc, held, kont, frs⟩) (cb := w.heap.size) (av := .slice aa held.length ca) (fv' := .pointer fp)
    (by simp) (fun c hc => by have := HH.out.at'.c.keys c hc; dsimp only; omega) (fun c hc f hf => by have := HH.out.cf c hc f hf; dsimp only; omega) (fun f hf => by have := HH.out.ff f hf; dsimp only; omega) (fun f hf => by have := HH.out.kf f hf; dsimp only; omega)
    ((HB4.out.below.block w.heap.size (by omega)).trans HC3.out) ⟨hr0 _ (by omega) hC0, hw02⟩
    (own_same HH.out.row fun b e => hk4 b (HH.out.row.lt b e).2 (by have := (HH.out.free b e).1; omega))
    (fun b e => ⟨hr0 b (by have := (HH.out.row.lt b e).2; omega) (HH.out.free b e).1, (HH.out.free b e).2, by have := (HH.out.row.lt b e).2; omega⟩)
    (HH.out.fra.keep (fun b h1 e => ⟨hk4 b h1 (by omega), (hrk b (by omega) (by omega)).trans e⟩) fun _ _ => rfl) HM5.out HG5.out
  have hmm : m ≠ mb := fun e => by have := HX4.out.c.me; rw [e, HX4.out.c.mr] at this; cases this
  have hblk5 : w5.heap[m]? = some (.cells (mCells cv (fun i => if i = s.T.length then .slice aa held.length ca else H i) hb mb (s.made proc held kont frs) left steps ov rv fv) 69 (0, 0)) := by
    rw [HG5.out.block m hm4 (fun e => hmm (Option.some.inj e))]
    have e : mCells cv (fun i => if i = s.T.length then .slice aa held.length ca else H i) hb mb (s.made proc held kont frs) left steps ov rv fv = mCells cv H hb mb { s with T := s.T ++ [⟨4, []⟩] } left steps ov rv fv := by
      have e2 : (if s.cl = s.T.length then Value.slice aa held.length ca else H s.cl) = H s.cl := by
        by_cases hne : s.cl = s.T.length
        · rw [if_pos hne]; exact HH.out.cl hne
        · rw [if_neg hne]
      unfold mCells St.made
      dsimp only
      rw [e2]
    rw [e]
    exact HX4.out.blk
  have X5 : VmO w0 w5 ρ' (fun i => if i = s.T.length then .slice aa held.length ca else H i) m cv (s.made proc held kont frs) left steps hb mb ov rv fv (cbs ++ [w.heap.size]) := ⟨hC, hblk5⟩
  have hRR : ρ' (w.heap.size + 1) = 0 := h0 _ (hr0 _ (by omega) hR0) (by omega) fun e => by have := (HH.out.row.lt _ e).2; omega
  have hs5 := HG5.out.size
  have hs45 : w4.heap.size ≤ w5.heap.size := hs5
  refine ⟨rfl, ⟨ρ', _, ((X5.store hRR (by omega) 0 _).store hRR (by omega) 1 _).store hRR (by omega) 2 _, fun b h1 h2 h3 => h0 b (hr0 b (by omega) h2) (by omega) h3⟩, ?_, fun b h1 h2 => ?_⟩
  · have := HB4.out.size
    simp [World.setCell]
    omega
  · have hbR : b ≠ w.heap.size + 1 := by omega
    rw [heap_setCell_other _ _ _ _ hbR, heap_setCell_other _ _ _ _ hbR, heap_setCell_other _ _ _ _ hbR]
    have hb4 : b < w4.heap.size := by have := HB4.out.size; omega
    exact (HG5.out.block b hb4 (fun e => by have := Option.some.inj e; rw [this, hmr] at h2; cases h2)).trans (hk4 b h1 (by omega))
end
end Vm
end Go.Proofs.Ytalfnaielhbocaa
