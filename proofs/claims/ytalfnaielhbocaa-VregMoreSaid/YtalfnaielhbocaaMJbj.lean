/- VregMore, carried out. -/
import Derived.Deep.DeepCutAuto
import Derived.Test.YtalfnaielhbocaaMJbi
set_option linter.unusedVariables false
set_option linter.unusedSimpArgs false
set_option linter.unnecessarySimpa false
namespace Go.Proofs.Ytalfnaielhbocaa
open Go.RowKit
set_option linter.unusedVariables false
set_option linter.unusedSimpArgs false
set_option maxRecDepth 100000
namespace Vm
abbrev lastC (r : Int) : List Value := [.slice none 0 0, .int .i64 2, .int .i64 r, .slice none 0 0, .int .i64 0, .int .i64 0, .int .i64 0]
abbrev lastO (r : Int) : Obj := .cells #[.slice none 0 0, .int .i64 2, .int .i64 r, .slice none 0 0, .int .i64 0, .int .i64 0, .int .i64 0] 48
structure MoreB (w6 wx : World) (q : Nat) (p : Prc) (g cap B : Nat) (bs : List Value) : Prop where
  blk : wx.heap[q]? = some (.cells #[.int .i64 p.params, .int .i64 p.holds, .int .i64 (p.regs + 1), .slice (some ⟨g, 0, none⟩) (p.blocks.length + 1) cap] 40 (0, 0))
  own : wx.ownsRow B 48 7 (.slice (some ⟨g, 0, none⟩) (p.blocks.length + 1) cap) (p.blocks.length + 1) (bs ++ lastC p.regs)
  below : Below w6.heap.size w6 wx
theorem MoreB.of {w6 w7 w9 : World} {q : Nat} {p : Prc} {g cap : Nat} {bs : List Value} {ov : Value} (h67 : Below w6.heap.size w6 w7) (hq : q = w6.heap.size) (hq7 : w7.heap[q]? = some (.cells #[.int .i64 p.params, .int .i64 p.holds, .int .i64 (p.regs + 1), ov] 40 (0, 0)))
    (h : w9.ownsRow w7.heap.size 48 7 (.slice (some ⟨g, 0, none⟩) (p.blocks.length + 1) cap) (p.blocks.length + 1) (bs ++ lastC p.regs) ∧ Below w7.heap.size w7 w9) :
    MoreB w6 (w9.setCell ⟨q, 3, none⟩ (.slice (some ⟨g, 0, none⟩) (p.blocks.length + 1) cap)) q p g cap w7.heap.size bs := by
  obtain ⟨ho, h79⟩ := h
  have hql : q < w7.heap.size := (Array.getElem?_eq_some_iff.1 hq7).1
  exact ⟨heap_setCell_same _ q 3 _ _ _ ((h79.block q hql).trans hq7), ownsRow_setCell_below ho (a := ⟨q, 3, none⟩) hql _, (h67.trans (h79.mono h67.size)).setCell (p := ⟨q, 3, none⟩) (by rw [hq]; exact Nat.le_refl _) _⟩
structure Ap1 (w7 w8 : World) (g8 c8 m : Nat) (bs : List Value) (r : Int) (i : Nat) : Prop where
  own : w8.ownsRow w7.heap.size 48 7 (.slice (some ⟨g8, 0, none⟩) m c8) m bs
  below : Below w7.heap.size w7 w8
  s2 : i = 2 → w8.heap[w7.heap.size + 1]? = some (.cells (lastC r).toArray 48 (0, 0))
  s3 : i = 3 → w8.heap[w7.heap.size]? = some (.cells (lastC r).toArray 48 (0, 0))
theorem Ap1.at2 {w7 w8 : World} {g8 c8 m : Nat} {bs : List Value} {r : Int} (h : Ap1 w7 w8 g8 c8 m bs r 2) : w8.heap[w7.heap.size + 1]? = some (.cells (lastC r).toArray 48 (0, 0)) := h.s2 rfl
theorem Ap1.at3 {w7 w8 : World} {g8 c8 m : Nat} {bs : List Value} {r : Int} (h : Ap1 w7 w8 g8 c8 m bs r 3) : w8.heap[w7.heap.size]? = some (.cells (lastC r).toArray 48 (0, 0)) := h.s3 rfl
theorem ap1_1 {w7 w8 : World} {g8 c8 m : Nat} {bs : List Value} {r : Int} (ho : w8.ownsRow w7.heap.size 48 7 (.slice (some ⟨g8, 0, none⟩) (0 + m) c8) (0 + m) ([] ++ bs)) (hg : ((w7.alloc (.cells #[] 48)).drew).grownBy w8 (Value.ownBlock (.slice (some ⟨w7.heap.size, 0, none⟩) 0 0))) : Ap1 w7 w8 g8 c8 m bs r 1 :=
  ⟨by simpa using ho, ((Below.refl _ _).alloc (Nat.le_refl _) _).drew.grown hg (by simp) (fun q hq => by have e : w7.heap.size = q := (by simpa [Value.ownBlock] using hq); omega), (fun e => by cases e), fun e => by cases e⟩
theorem ap1_2 {w7 w8 : World} {g8 c8 m : Nat} {bs : List Value} {r : Int} (ho : w8.ownsRow w7.heap.size 48 7 (.slice (some ⟨g8, 0, none⟩) (0 + m) c8) (0 + m) ([] ++ bs)) (hg : (((w7.alloc (.cells #[] 48)).alloc (lastO r)).drew).grownBy w8 (Value.ownBlock (.slice (some ⟨w7.heap.size, 0, none⟩) 0 0))) : Ap1 w7 w8 g8 c8 m bs r 2 :=
  ⟨by simpa using ho, (((Below.refl _ _).alloc (Nat.le_refl _) _).alloc (by simp) _).drew.grown hg (by simp; omega) (fun q hq => by have e : w7.heap.size = q := (by simpa [Value.ownBlock] using hq); omega), (fun _ => (hg.block (w7.heap.size + 1) (by simp) (by simp [Value.ownBlock])).trans (heap_new (by simp))), fun e => by cases e⟩
theorem ap1_3 {w7 w8 : World} {g8 c8 m : Nat} {bs : List Value} {r : Int} (ho : w8.ownsRow w7.heap.size 48 7 (.slice (some ⟨g8, 0, none⟩) (0 + m) c8) (0 + m) ([] ++ bs)) (hg : (((w7.alloc (lastO r)).alloc (.cells #[] 48)).drew).grownBy w8 (Value.ownBlock (.slice (some ⟨w7.heap.size + 1, 0, none⟩) 0 0))) : Ap1 w7 w8 g8 c8 m bs r 3 :=
  ⟨by simpa using ho, (((Below.refl _ _).alloc (Nat.le_refl _) _).alloc (by simp) _).drew.grown hg (by simp; omega) (fun q hq => by have e : w7.heap.size + 1 = q := (by simpa [Value.ownBlock] using hq); omega), (fun e => by cases e), fun _ => (hg.block w7.heap.size (by simp; omega) (by simp [Value.ownBlock])).trans ((heap_alloc_old _ _ (by simp)).trans (heap_new rfl))⟩
theorem ap2 {w7 w8 wx w9 : World} {g8 c8 m g9 c9 i : Nat} {bs : List Value} {r r2 : Int} (h : Ap1 w7 w8 g8 c8 m bs r i) (ho : w9.ownsRow w7.heap.size 48 7 (.slice (some ⟨g9, 0, none⟩) (m + 1) c9) (m + 1) (bs ++ lastC r2)) (hg : wx.grownBy w9 (Value.ownBlock (.slice (some ⟨g8, 0, none⟩) m c8))) (hx : wx = w8 ∨ ∃ o, wx = w8.alloc o := by first | exact .inl rfl | exact .inr ⟨_, rfl⟩) :
    w9.ownsRow w7.heap.size 48 7 (.slice (some ⟨g9, 0, none⟩) (m + 1) c9) (m + 1) (bs ++ lastC r2) ∧ Below w7.heap.size w7 w9 := by
  refine ⟨ho, ?_⟩
  have hs := h.below.size
  have hb : Below w7.heap.size w7 wx := by
    rcases hx with rfl | ⟨o, rfl⟩
    · exact h.below
    · exact h.below.alloc hs _
  refine hb.grown hg ?_ fun q hq => ?_
  · exact Nat.le_trans (Nat.le_refl _) hb.size
  · have e : g8 = q := by simpa [Value.ownBlock] using hq
    subst e
    exact (h.own.lt g8 rfl).1
theorem ap3 {w3 wd w10 : World} {g5 : Nat} {o1 o2 : Obj} (h3 : Below w3.heap.size w3 wd) (hg5 : w3.heap.size ≤ g5 ∧ g5 < wd.heap.size) (hgr : ((wd.alloc o1).alloc o2).grownBy w10 (some g5)) (hf : ∃ cs t, o1 = .cells cs t (0, 0)) :
    Below w3.heap.size w3 w10 ∧ (∀ q, q < wd.heap.size → q ≠ g5 → w10.heap[q]? = wd.heap[q]?) ∧ w10.heap[wd.heap.size]? = some o1 ∧ wd.heap.size < w10.heap.size := by
  have hs := h3.size
  have hsz := hgr.size
  rw [World.heap_size_alloc, World.heap_size_alloc] at hsz
  have ha : Below w3.heap.size w3 ((wd.alloc o1).alloc o2) := (h3.alloc hs _).alloc (by rw [World.heap_size_alloc]; exact Nat.le_succ_of_le hs) _
  refine ⟨ha.grown hgr ha.size (fun q e => by have e2 : g5 = q := (Option.some.inj e); rw [← e2]; exact hg5.1), fun q hq hne => ?_, ?_, by omega⟩
  · exact (hgr.block q (by simp; omega) (by simpa using hne)).trans ((heap_alloc_old _ _ (by simp; omega)).trans (heap_alloc_old _ _ hq))
  · exact (hgr.block wd.heap.size (by simp; omega) (by simp; omega)).trans ((heap_alloc_old _ _ (by simp)).trans (heap_new rfl))
theorem more_code {w3 wd w10 : World} {c : Code} {p : Prc} {n g cap g5 g10 c10 k B : Nat} {cs bs : List Value} {x : Value} {t2 : TypeId} (h3 : Below w3.heap.size w3 w10) (hoth : ∀ q, q < wd.heap.size → q ≠ g5 → w10.heap[q]? = wd.heap[q]?) (hlast : w10.heap[wd.heap.size]? = some (.cells #[.slice none 0 0, .int .i64 2, .int .i64 0, .slice none 0 0, .int .i64 0, .int .i64 0, .int .i64 0] t2 (0, 0))) (hls : wd.heap.size < w10.heap.size)
    (ho : w10.ownsRow w3.heap.size 40 4 (.slice (some ⟨g10, 0, none⟩) (c.length + 1) c10) (c.length + 1) (((((cs.set (n * 4) (.int .i64 p.params)).set (n * 4 + 1) (.int .i64 p.holds)).set (n * 4 + 2) (.int .i64 (p.regs + 1))).set (n * 4 + 3) (.slice (some ⟨g, 0, none⟩) (p.blocks.length + 1) cap)) ++ [.int .i64 0, .int .i64 0, .int .i64 1, .slice (some ⟨wd.heap.size, 0, none⟩) 1 1]))
    (hob : wd.ownsRow B 48 7 (.slice (some ⟨g, 0, none⟩) (p.blocks.length + 1) cap) (p.blocks.length + 1) (bs ++ lastC p.regs)) (hP : PCs w3 cs c) (hB : BCs w3 bs p.blocks) (hn : n < c.length) (hk : w3.heap.size ≤ k) (hkd : k < wd.heap.size) (hgk : g ≠ k) (hgg : g ≠ g5) (hg10 : g10 ≠ k) :
    CodeAt (w10.setCell ⟨k, 0, none⟩ x) (.slice (some ⟨g10, 0, none⟩) (c.length + 1) c10) (c.set n (moreP p) ++ [newP]) ∧ Below w3.heap.size w3 (w10.setCell ⟨k, 0, none⟩ x) := by
  have h11 : Below w3.heap.size w3 (w10.setCell ⟨k, 0, none⟩ x) := h3.setCell (p := ⟨k, 0, none⟩) hk _
  refine ⟨?_, h11⟩
  have hol : g < wd.heap.size := (hob.lt g rfl).2
  have hob10 : w10.ownsRow B 48 7 (.slice (some ⟨g, 0, none⟩) (p.blocks.length + 1) cap) (p.blocks.length + 1) (bs ++ lastC p.regs) := own_same hob fun q e => by
    have e2 : g = q := by simpa [Value.ownBlock] using e
    rw [← e2]
    exact hoth g hol hgg
  have hob11 := own_set_ne hob10 (k := k) (i := 0) (fun q e => by have e2 : g = q := (by simpa [Value.ownBlock] using e); rw [← e2]; exact hgk) x
  have ho11 := own_set_ne ho (k := k) (i := 0) (fun q e => by have e2 : g10 = q := (by simpa [Value.ownBlock] using e); rw [← e2]; exact hg10) x
  have hb2 := (hB.bel h11).snoc (x := ⟨[], ⟨2, p.regs, [], 0, 0, 0⟩⟩) (iv := .slice none 0 0) (av := .slice none 0 0) (row_nil _ _ _) (sl_nil _)
  have hrow : Row (w10.setCell ⟨k, 0, none⟩ x) (.slice (some ⟨g, 0, none⟩) (p.blocks.length + 1) cap) 7 (moreP p).blocks (BlkC (w10.setCell ⟨k, 0, none⟩ x)) := by
    have := BCs.row hob11 hb2 (by simp)
    have e : (p.blocks ++ [(⟨[], ⟨2, p.regs, [], 0, 0, 0⟩⟩ : Blk)]).length = p.blocks.length + 1 := by simp
    rw [e] at this
    exact this
  have hl11 : (w10.setCell ⟨k, 0, none⟩ x).heap[wd.heap.size]? = some (.cells #[.slice none 0 0, .int .i64 2, .int .i64 0, .slice none 0 0, .int .i64 0, .int .i64 0, .int .i64 0] t2 (0, 0)) := (heap_setCell_other _ _ _ _ (show wd.heap.size ≠ k by omega)).trans hlast
  have hnew : Row (w10.setCell ⟨k, 0, none⟩ x) (.slice (some ⟨wd.heap.size, 0, none⟩) 1 1) 7 newP.blocks (BlkC (w10.setCell ⟨k, 0, none⟩ x)) :=
    row_one (by simp [World.setCell]; exact hls) (blkC_at hl11 rfl rfl rfl rfl rfl rfl rfl (row_nil _ _ _) (sl_nil _))
  have hpc := ((hP.bel h11).set hn (x := moreP p) hrow).snoc (x := newP) hnew
  have := PCs.code ho11 hpc (by simp)
  have e : (c.set n (moreP p) ++ [newP]).length = c.length + 1 := by simp
  rw [e] at this
  exact this
set_option maxHeartbeats 16000000 in
theorem vmore_yes (al : Option Addr) (cl : Nat) (c : Code) (l : List UInt8) (n : Nat) (W : World) (HI : LawIn W al cl c) (hk0 : chk c = 0) {p : Prc} (hp : c[n]? = some p) (hreg : p.regs < 2000) (hlen : c.length < 300) :
    Calls Try.prog 6 #[.agg #[.slice al c.length cl], .string ⟨l.toArray⟩, .int .i64 n] W fun e w' => e = .returned (.bool true) ∧ Below W.heap.size W w' := by
  have hnl := (List.getElem?_eq_some_iff.1 hp).1
  have hcn : c ≠ [] := fun e => by rw [e] at hp; simp at hp
  have hpm := List.mem_of_getElem? hp
  have hok := codeOk hk0 HI.fit
  have hpf := prcB_facts (hok.all p hpm)
  have hbl := blocks_fewP c 0 (chk_zero.1 hk0).1 p hpm
  have HI := Lib.hid HI
  have HOK := Lib.hid hok
  have HK0 := Lib.hid hk0
  have HP := Lib.hid hp
  have HBL : Hid (p.blocks.length ≤ 4096 ∧ 0 < p.blocks.length ∧ 0 ≤ p.params ∧ p.params ≤ p.regs) := ⟨hbl, hpf.2.2.2.2.2.1, hpf.1, hpf.2.2.2.2.1⟩
  obtain ⟨w1, B1⟩ := boxed W #[.slice al c.length cl] 24
  have HB1 := Lib.hid B1
  have hs1 := B1.size
  have HCB : Hid (w1.heap[W.heap.size]? = some (.cells #[.slice al c.length cl] 24 (0, 0))) := B1.blk
  have HCN := Lib.hid hcn
  clear B1 hok hk0 hp hbl hpf hpm
  go_enter Try.func6, Try.ntmps6
  go_wp2_with fail
  rw [← HB1.out.eq]
  with_reducible refine (fixed_any w1).mono ?_
  rintro e w2 ⟨rfl, hb2⟩
  have HB2 := Lib.hid (HB1.out.below.trans (hb2.mono HB1.out.below.size))
  have hcb2 := (hb2.block _ (by omega)).trans HCB.out
  have c0 := cell_of_row w2 W.heap.size 0 _ _ _ hcb2
  simp only [List.getElem?_toArray, List.getElem?_cons_zero] at c0
  have l0 : W.heap.size < w2.heap.size := (Array.getElem?_eq_some_iff.1 hcb2).1
  have HCB2 := Lib.hid hcb2
  clear hb2 hcb2
  go_wp2_with fail
  with_reducible refine (Check_any al cl (HI.out.at'.bel HB2.out) HI.out.len HI.out.fit).mono ?_
  rintro e w3 hpost
  obtain ⟨rfl, hb3⟩ := hpost
  rw [HK0.out]
  have HB3 := Lib.hid (HB2.out.trans (hb3.mono HB2.out.size))
  have hcb3 := (hb3.block _ l0).trans HCB2.out
  clear c0 l0
  have c0 := cell_of_row w3 W.heap.size 0 _ _ _ hcb3
  simp only [List.getElem?_toArray, List.getElem?_cons_zero] at c0
  have l0 : W.heap.size < w3.heap.size := (Array.getElem?_eq_some_iff.1 hcb3).1
  have HCB3 := Lib.hid hcb3
  clear hb3 hcb3
  have hcode3 := HI.out.at'.bel HB3.out
  obtain ⟨b, off, cs, rfl, hPC, hsrc, hone⟩ := PCs.of hcode3 HCN.out
  obtain ⟨_, bc, oc, ebc, hbc, hPC1⟩ := hcode3.at HP.out
  obtain ⟨rfl, rfl⟩ : b = bc ∧ off = oc := by simpa using ebc
  have p2 := hPC1.c2
  have g1 : decide ((n : Int) < 0) = false := decide_eq_false (by omega)
  have g2 : decide ((c.length : Int) ≤ n) = false := decide_eq_false (by omega)
  have g2' : decide (c.length ≤ n) = false := decide_eq_false (by omega)
  have g3 : (0 : Int) ≤ n := by omega
  have g4 : (n : Int) < c.length := by omega
  have g5 : decide ((2000 : Int) ≤ p.regs) = false := decide_eq_false (by omega)
  have g6 : decide ((300 : Int) ≤ c.length) = false := decide_eq_false (by omega)
  have g6' : decide (300 ≤ c.length) = false := decide_eq_false (by omega)
  have hcs := hPC.1
  obtain ⟨bv, e0, e1, e2, e3, hbr⟩ := hPC.2 n p HP.out
  obtain ⟨ab, cb, rfl⟩ := hbr.len
  have HBR := Lib.hid hbr
  have HPC := Lib.hid hPC
  have HONE := Lib.hid hone
  have HCS := Lib.hid hcs
  have HE : Hid (cs[n * 4]? = some (.int .i64 p.params) ∧ cs[n * 4 + 1]? = some (.int .i64 p.holds) ∧ cs[n * 4 + 2]? = some (.int .i64 p.regs) ∧ cs[n * 4 + 3]? = some (.slice ab p.blocks.length cb)) := ⟨e0, e1, e2, e3⟩
  obtain ⟨wE, BE⟩ := boxed w3 #[] 40
  have HXE := Lib.hid BE
  have HOE : Hid (wE.ownsRow w3.heap.size 40 4 (.slice (some ⟨w3.heap.size, 0, none⟩) 0 0) 0 []) := by rw [BE.eq]; exact own_empty (Nat.le_refl _)
  have HSR : Hid (∀ (j : Nat) (u : Value), cs[j]? = some u → wE.cell? ((⟨b, off, none⟩ : Addr).add j) = some u) := fun j u hu => by
    rw [← hsrc j u hu, addr_add]
    exact cell_bel BE.below hbc
  have hsE := BE.size
  obtain ⟨i0, hi0, hz0, hz1, hz2⟩ := info_parts infoPrc
  have HJ0 := Lib.hid hi0
  have HZ0 := Lib.hid hz0
  have HZ1 := Lib.hid hz1
  have HZ2 := Lib.hid hz2
  have hg1 : IntKind.i64.wrap (p.regs + 1) = p.regs + 1 := by rw [IntKind.wrap_i64]; have := HBL.out; omega
  have hg2 : IntKind.i64.wrap (p.regs + 1 - 1) = p.regs := by rw [IntKind.wrap_i64]; have := HBL.out; omega
  have hg3 : IntKind.i64.wrap p.regs = p.regs := by rw [IntKind.wrap_i64]; have := HBL.out; omega
  clear hPC1 hPC hone hbr hsrc hcode3 BE e0 e1 e2 e3 hi0 hz0 hz1 hz2 hcs
  go_wp2_with (first
    | (at_builtin; rw [← HXE.out.eq]; refine wpList_append_lies _ rfl (.tmp 43) (.tmp 45) 22 rfl w3.heap.size 40 i0 _ 4 48 Try.underlying22 HJ0.out HZ0.out HZ1.out HZ2.out rfl (by decide) (.slice (some ⟨w3.heap.size, 0, none⟩) 0 0) 0 [] rfl HOE.out ⟨b, off, none⟩ c.length cl cs rfl HCS.out HSR.out HONE.out (by omega) (by simp only [maxLen]; omega) (by omega) (by omega) wE.heap.size rfl ?_; intro g5 c5 w5 hown5 hgr5 hat5 hlt5; have hown5' : w5.ownsRow w3.heap.size 40 4 (.slice (some ⟨g5, 0, none⟩) c.length c5) c.length cs := (by simpa using hown5); have HO5 := Lib.hid hown5'; have HJ5 := Lib.hid ((HXE.out.below).grown hgr5 (by omega) (fun q hq => by have e : w3.heap.size = q := (by simpa [Value.ownBlock] using hq); omega)); have d0 := fun o => alloc_at o ((HO5.out.cellAt (n * 4) (by omega)).trans HE.out.1); have d1 := fun o => alloc_at o ((HO5.out.cellAt (n * 4 + 1) (by omega)).trans HE.out.2.1); have d2 := fun o => alloc_at o ((HO5.out.cellAt (n * 4 + 2) (by omega)).trans HE.out.2.2.1); have d3 := fun o => alloc_at o ((HO5.out.cellAt (n * 4 + 3) (by omega)).trans HE.out.2.2.2); clear hown5 hown5' hgr5 hat5)
    | fail)
  clear d0 d1 d2 d3
  obtain ⟨w6, B6⟩ := boxed w5 #[.slice (some ⟨g5, 0, none⟩) c.length c5] 24
  obtain ⟨w7, B7⟩ := boxed w6 #[.int .i64 p.params, .int .i64 p.holds, .int .i64 (p.regs + 1), .slice ab p.blocks.length cb] 40
  rw [← B6.eq, ← B7.eq]
  have hs6 := B6.size
  have hs7 := B7.size
  have HB6 := Lib.hid B6
  have H36 := Lib.hid (HJ5.out.trans (B6.below.mono HJ5.out.size))
  have H67 := Lib.hid B7.below
  have hq7 := B7.blk
  rw [hs6] at hq7
  have HQ7 := Lib.hid hq7
  have hnb : p.blocks ≠ [] := fun e => by have := HBL.out.2.1; rw [e] at this; simp at this
  obtain ⟨b2, off2, bs, rfl, hBC, hsrcb, honeb⟩ := BCs.of HBR.out hnb
  have hl7 : w5.heap.size + 1 < w7.heap.size := by omega
  have q0 := cell_of_row w7 _ 0 _ _ _ hq7
  have q1 := cell_of_row w7 _ 1 _ _ _ hq7
  have q2 := cell_of_row w7 _ 2 _ _ _ hq7
  have q3 := cell_of_row w7 _ 3 _ _ _ hq7
  simp only [List.getElem?_toArray, List.getElem?_cons_zero, List.getElem?_cons_succ] at q0 q1 q2 q3
  have HQC : Hid (w7.cell? ⟨w5.heap.size + 1, 2, none⟩ = some (.int .i64 (p.regs + 1)) ∧ w7.cell? ⟨w5.heap.size + 1, 3, none⟩ = some (.slice (some ⟨b2, off2, none⟩) p.blocks.length cb)) := ⟨q2, q3⟩
  have HBC := Lib.hid hBC
  have HBN : Hid (bs.length = p.blocks.length * 7) := hBC.1
  have HBO := Lib.hid honeb
  have H37 := Lib.hid (H36.out.trans (B7.below.mono H36.out.size))
  have hb2l : bs ≠ [] → b2 < w3.heap.size := fun hne => by
    obtain ⟨u, hu⟩ : ∃ u, bs[0]? = some u := ⟨_, List.getElem?_eq_getElem (by cases bs with | nil => exact absurd rfl hne | cons _ _ => simp)⟩
    have := hsrcb 0 u hu
    rw [addr_add] at this
    exact block_lt_of_cell this
  have hsb7 : ∀ (j : Nat) (u : Value), bs[j]? = some u → w7.cell? ((⟨b2, off2, none⟩ : Addr).add j) = some u := fun j u hu => by
    rw [← hsrcb j u hu, addr_add]
    exact cell_bel H37.out (hb2l (fun e => by rw [e] at hu; simp at hu))
  obtain ⟨i1, hi1, hy0, hy1, hy2⟩ := info_parts infoBlk
  have HK := Lib.hid hi1
  have HY0 := Lib.hid hy0
  have HY1 := Lib.hid hy1
  have HY2 := Lib.hid hy2
  have HM : Hid (p.blocks.length ≤ 4096 ∧ 0 < p.blocks.length) := ⟨HBL.out.1, HBL.out.2.1⟩
  have HE1 : Hid (((w7.alloc (.cells #[] 48)).drew).ownsRow w7.heap.size 48 7 (.slice (some ⟨w7.heap.size, 0, none⟩) 0 0) 0 []) := own_drewN (own_empty (Nat.le_refl _)) 1
  have HE2 : Hid ((((w7.alloc (.cells #[] 48)).alloc (lastO p.regs)).drew).ownsRow w7.heap.size 48 7 (.slice (some ⟨w7.heap.size, 0, none⟩) 0 0) 0 []) := own_drewN ((own_empty (Nat.le_refl _)).alloc _) 1
  have HE3 : Hid ((((w7.alloc (lastO p.regs)).alloc (.cells #[] 48)).drew).ownsRow w7.heap.size 48 7 (.slice (some ⟨w7.heap.size + 1, 0, none⟩) 0 0) 0 []) := by
    have h := own_empty (w := w7.alloc (lastO p.regs)) (t := 48) (size := 7) (B := w7.heap.size) (by simp)
    rw [World.heap_size_alloc] at h
    exact own_drewN h 1
  have HS1 : Hid (∀ (j : Nat) (u : Value), bs[j]? = some u → ((w7.alloc (.cells #[] 48)).drew).cell? ((⟨b2, off2, none⟩ : Addr).add j) = some u) := fun j u hu => alloc_at _ (hsb7 j u hu)
  have HS2 : Hid (∀ (j : Nat) (u : Value), bs[j]? = some u → (((w7.alloc (.cells #[] 48)).alloc (lastO p.regs)).drew).cell? ((⟨b2, off2, none⟩ : Addr).add j) = some u) := fun j u hu => alloc_at _ (alloc_at _ (hsb7 j u hu))
  have HS3 : Hid (∀ (j : Nat) (u : Value), bs[j]? = some u → (((w7.alloc (lastO p.regs)).alloc (.cells #[] 48)).drew).cell? ((⟨b2, off2, none⟩ : Addr).add j) = some u) := fun j u hu => alloc_at _ (alloc_at _ (hsb7 j u hu))
  clear B6 B7 hq7 hBC hsrcb honeb hb2l hsb7 hi1 hy0 hy1 hy2 q0 q1 hnb
  have q2a := fun o => alloc_at o HQC.out.1
  have q3a := fun o => alloc_at o HQC.out.2
  have q3b := fun o o2 => alloc_at o2 (alloc_at o HQC.out.2)
  have q3f : w7.frozen? ⟨w5.heap.size + 1, 3, none⟩ = false := frozen_of_row w7 _ _ _ _ HQ7.out
  have HS67 : Hid (w6.heap.size = w5.heap.size + 1 ∧ w7.heap.size = w6.heap.size + 1) := ⟨hs6, hs7⟩
  clear hs6 hs7
  go_cut [] (fun wx => ∃ g cap, Hid (MoreB w6 wx (w5.heap.size + 1) p g cap w7.heap.size bs))
  case first =>
    go_region_law (first
      | (refine step_append_lies _ (by rfl) (.tmp 57) (.tmp 59) 38 (by rfl) w7.heap.size 48 i1 _ 7 88 Try.underlying38 HK.out HY0.out HY1.out HY2.out rfl (by decide) (.slice (some ⟨w7.heap.size, 0, none⟩) 0 0) 0 [] (by rfl) HE1.out ⟨b2, off2, none⟩ p.blocks.length cb bs (by rfl) HBN.out HS1.out HBO.out HM.out.2 (by have := HM.out.1; simp only [maxLen]; omega) (by have := HM.out.1; omega) (by simp) (w7.heap.size + 1) (by simp) ?_; intro g8 c8 w8 hown8 hgr8 hat8 hlt8; have HN8 := Lib.hid (ap1_1 (r := p.regs) hown8 hgr8); have j8 := (HN8.out.below.block _ hl7).trans HQ7.out; have m2 := cell_of_row w8 _ 2 _ _ _ j8; have m3 := cell_of_row w8 _ 3 _ _ _ j8; simp only [List.getElem?_toArray, List.getElem?_cons_zero, List.getElem?_cons_succ] at m2 m3; have m3f : w8.frozen? ⟨w5.heap.size + 1, 3, none⟩ = false := frozen_of_row w8 _ _ _ _ j8; have ml8 : w5.heap.size + 1 < w8.heap.size := Nat.lt_of_lt_of_le hl7 HN8.out.below.size; clear hown8 hgr8 hat8 hlt8 j8)
      | (refine step_append_lies _ (by rfl) (.tmp 57) (.tmp 59) 38 (by rfl) w7.heap.size 48 i1 _ 7 88 Try.underlying38 HK.out HY0.out HY1.out HY2.out rfl (by decide) (.slice (some ⟨w7.heap.size, 0, none⟩) 0 0) 0 [] (by rfl) HE2.out ⟨b2, off2, none⟩ p.blocks.length cb bs (by rfl) HBN.out HS2.out HBO.out HM.out.2 (by have := HM.out.1; simp only [maxLen]; omega) (by have := HM.out.1; omega) (by simp; omega) (w7.heap.size + 2) (by simp) ?_; intro g8 c8 w8 hown8 hgr8 hat8 hlt8; have HN8 := Lib.hid (ap1_2 hown8 hgr8); have j8 := (HN8.out.below.block _ hl7).trans HQ7.out; have m2 := cell_of_row w8 _ 2 _ _ _ j8; have m3 := cell_of_row w8 _ 3 _ _ _ j8; simp only [List.getElem?_toArray, List.getElem?_cons_zero, List.getElem?_cons_succ] at m2 m3; have m3f : w8.frozen? ⟨w5.heap.size + 1, 3, none⟩ = false := frozen_of_row w8 _ _ _ _ j8; have ml8 : w5.heap.size + 1 < w8.heap.size := Nat.lt_of_lt_of_le hl7 HN8.out.below.size; clear hown8 hgr8 hat8 hlt8 j8)
      | (refine step_append_lies _ (by rfl) (.tmp 57) (.tmp 59) 38 (by rfl) w7.heap.size 48 i1 _ 7 88 Try.underlying38 HK.out HY0.out HY1.out HY2.out rfl (by decide) (.slice (some ⟨w7.heap.size + 1, 0, none⟩) 0 0) 0 [] (by rfl) HE3.out ⟨b2, off2, none⟩ p.blocks.length cb bs (by rfl) HBN.out HS3.out HBO.out HM.out.2 (by have := HM.out.1; simp only [maxLen]; omega) (by have := HM.out.1; omega) (by simp; omega) (w7.heap.size + 2) (by simp) ?_; intro g8 c8 w8 hown8 hgr8 hat8 hlt8; have HN8 := Lib.hid (ap1_3 hown8 hgr8); have j8 := (HN8.out.below.block _ hl7).trans HQ7.out; have m2 := cell_of_row w8 _ 2 _ _ _ j8; have m3 := cell_of_row w8 _ 3 _ _ _ j8; simp only [List.getElem?_toArray, List.getElem?_cons_zero, List.getElem?_cons_succ] at m2 m3; have m3f : w8.frozen? ⟨w5.heap.size + 1, 3, none⟩ = false := frozen_of_row w8 _ _ _ _ j8; have ml8 : w5.heap.size + 1 < w8.heap.size := Nat.lt_of_lt_of_le hl7 HN8.out.below.size; clear hown8 hgr8 hat8 hlt8 j8)
      | (refine step_append_lies _ (by rfl) (.tmp 60) (.tmp 66) 38 (by rfl) w7.heap.size 48 i1 _ 7 88 Try.underlying38 HK.out HY0.out HY1.out HY2.out rfl (by decide) (.slice (some ⟨g8, 0, none⟩) p.blocks.length c8) p.blocks.length bs (by rfl) (HN8.out.own.alloc _) ⟨w8.heap.size, 0, none⟩ 1 1 (lastC p.regs) (by rfl) (by rfl) (new_cells _ (heap_alloc_new w8 _)) (by simp [Value.oneCell']) (by decide) (by have := HM.out.1; simp only [maxLen]; omega) (by have := HM.out.1; omega) (by have := HN8.out.below.size; simp; try omega) (w8.heap.size + 1) (by simp) ?_; intro g9 c9 w9 hown9 hgr9 hat9 hlt9; have HN9 := Lib.hid (ap2 HN8.out hown9 hgr9); have j9 := (HN9.out.2.block _ hl7).trans HQ7.out; have n3 := cell_of_row w9 _ 3 _ _ _ j9; simp only [List.getElem?_toArray, List.getElem?_cons_zero, List.getElem?_cons_succ] at n3; have n3f : w9.frozen? ⟨w5.heap.size + 1, 3, none⟩ = false := frozen_of_row w9 _ _ _ _ j9; have nl9 : w5.heap.size + 1 < w9.heap.size := Nat.lt_of_lt_of_le hl7 HN9.out.2.size; clear hown9 hgr9 hat9 hlt9 j9)
      | (refine step_append_lies _ (by rfl) (.tmp 60) (.tmp 66) 38 (by rfl) w7.heap.size 48 i1 _ 7 88 Try.underlying38 HK.out HY0.out HY1.out HY2.out rfl (by decide) (.slice (some ⟨g8, 0, none⟩) p.blocks.length c8) p.blocks.length bs (by rfl) HN8.out.own ⟨w7.heap.size + 1, 0, none⟩ 1 1 (lastC p.regs) (by rfl) (by rfl) (World.news_of_block (HN8.out.at2)) (by simp [Value.oneCell']) (by decide) (by have := HM.out.1; simp only [maxLen]; omega) (by have := HM.out.1; omega) (by have := HN8.out.below.size; simp; try omega) w8.heap.size rfl ?_; intro g9 c9 w9 hown9 hgr9 hat9 hlt9; have HN9 := Lib.hid (ap2 HN8.out hown9 hgr9); have j9 := (HN9.out.2.block _ hl7).trans HQ7.out; have n3 := cell_of_row w9 _ 3 _ _ _ j9; simp only [List.getElem?_toArray, List.getElem?_cons_zero, List.getElem?_cons_succ] at n3; have n3f : w9.frozen? ⟨w5.heap.size + 1, 3, none⟩ = false := frozen_of_row w9 _ _ _ _ j9; have nl9 : w5.heap.size + 1 < w9.heap.size := Nat.lt_of_lt_of_le hl7 HN9.out.2.size; clear hown9 hgr9 hat9 hlt9 j9)
      | (refine step_append_lies _ (by rfl) (.tmp 60) (.tmp 66) 38 (by rfl) w7.heap.size 48 i1 _ 7 88 Try.underlying38 HK.out HY0.out HY1.out HY2.out rfl (by decide) (.slice (some ⟨g8, 0, none⟩) p.blocks.length c8) p.blocks.length bs (by rfl) HN8.out.own ⟨w7.heap.size, 0, none⟩ 1 1 (lastC p.regs) (by rfl) (by rfl) (World.news_of_block (HN8.out.at3)) (by simp [Value.oneCell']) (by decide) (by have := HM.out.1; simp only [maxLen]; omega) (by have := HM.out.1; omega) (by have := HN8.out.below.size; simp; try omega) w8.heap.size rfl ?_; intro g9 c9 w9 hown9 hgr9 hat9 hlt9; have HN9 := Lib.hid (ap2 HN8.out hown9 hgr9); have j9 := (HN9.out.2.block _ hl7).trans HQ7.out; have n3 := cell_of_row w9 _ 3 _ _ _ j9; simp only [List.getElem?_toArray, List.getElem?_cons_zero, List.getElem?_cons_succ] at n3; have n3f : w9.frozen? ⟨w5.heap.size + 1, 3, none⟩ = false := frozen_of_row w9 _ _ _ _ j9; have nl9 : w5.heap.size + 1 < w9.heap.size := Nat.lt_of_lt_of_le hl7 HN9.out.2.size; clear hown9 hgr9 hat9 hlt9 j9)
      | fail)
    all_goals
      go_wp2_with fail
      go_meet
      exact ⟨g9, c9, MoreB.of H67.out HS67.out.1.symm HQ7.out HN9.out⟩
  case rest =>
    obtain ⟨g, cap, HM2⟩ := hcut
    have hb6 := HM2.out.below
    have h5c : Below w5.heap.size w5 wc := HB6.out.below.trans (hb6.mono HB6.out.below.size)
    have ho5 : wc.ownsRow w3.heap.size 40 4 (.slice (some ⟨g5, 0, none⟩) c.length c5) c.length cs := own_same HO5.out (fun q e => h5c.block q (HO5.out.lt q e).2)
    have hg5 := HO5.out.lt g5 rfl
    have hsz := HS67.out
    have hcb : wc.heap[w5.heap.size]? = some (.cells #[.slice (some ⟨g5, 0, none⟩) c.length c5] 24 (0, 0)) := (hb6.block _ (by omega)).trans HB6.out.blk
    have c7 := cell_of_row wc _ 0 _ _ _ hcb
    have q0 := cell_of_row wc _ 0 _ _ _ HM2.out.blk
    have q1 := cell_of_row wc _ 1 _ _ _ HM2.out.blk
    have q2' := cell_of_row wc _ 2 _ _ _ HM2.out.blk
    have q3' := cell_of_row wc _ 3 _ _ _ HM2.out.blk
    simp only [List.getElem?_toArray, List.getElem?_cons_zero, List.getElem?_cons_succ] at c7 q0 q1 q2' q3'
    have d0 := (ho5.cellAt (n * 4) (by omega)).trans HE.out.1
    have d1 := (ho5.cellAt (n * 4 + 1) (by omega)).trans HE.out.2.1
    have d2 := (ho5.cellAt (n * 4 + 2) (by omega)).trans HE.out.2.2.1
    have d3 := (ho5.cellAt (n * 4 + 3) (by omega)).trans HE.out.2.2.2
    have f0 := ho5.frozenAt (n * 4)
    have f1 := ho5.frozenAt (n * 4 + 1)
    have f2 := ho5.frozenAt (n * 4 + 2)
    have f3 := ho5.frozenAt (n * 4 + 3)
    have hne : w5.heap.size ≠ g5 := by omega
    have hne2 : g5 ≠ w5.heap.size := by omega
    have hl5 : w5.heap.size < wc.heap.size := (Array.getElem?_eq_some_iff.1 hcb).1
    have hg1 : w5.heap.size + 1 < wc.heap.size := (Array.getElem?_eq_some_iff.1 HM2.out.blk).1
    obtain ⟨s1, r1⟩ := ho5.stored (n * 4) (.int .i64 p.params)
    obtain ⟨s2, r2⟩ := s1.stored (n * 4 + 1) (.int .i64 p.holds)
    obtain ⟨s3, r3⟩ := s2.stored (n * 4 + 2) (.int .i64 (p.regs + 1))
    obtain ⟨s4, r4⟩ := s3.stored (n * 4 + 3) (.slice (some ⟨g, 0, none⟩) (p.blocks.length + 1) cap)
    have HO4 := Lib.hid s4
    have HSZ := Lib.hid hsz
    have HG5 := Lib.hid hg5
    have HCBC := Lib.hid hcb
    clear hb6 h5c ho5 hcb s1 s2 s3 s4 r1 r2 r3 r4 hsz hg5
    go_upto_region 8 with fail
    obtain ⟨wd, hwd⟩ : ∃ wd, wd = ((((wc.setCell ⟨g5, n * 4, none⟩ (.int .i64 p.params)).setCell ⟨g5, n * 4 + 1, none⟩ (.int .i64 p.holds)).setCell ⟨g5, n * 4 + 2, none⟩ (.int .i64 (p.regs + 1))).setCell ⟨g5, n * 4 + 3, none⟩ (.slice (some ⟨g, 0, none⟩) (p.blocks.length + 1) cap)) := ⟨_, rfl⟩
    rw [← hwd]
    have hdsz : wd.heap.size = wc.heap.size := by rw [hwd]; simp [World.setCell]
    have hdo : ∀ q, q ≠ g5 → wd.heap[q]? = wc.heap[q]? := fun q hq => by rw [hwd, heap_setCell_other _ _ _ _ hq, heap_setCell_other _ _ _ _ hq, heap_setCell_other _ _ _ _ hq, heap_setCell_other _ _ _ _ hq]
    have HO4d := HO4.out
    rw [← hwd] at HO4d
    have h3d : Below w3.heap.size w3 wd := by
      have hg : w3.heap.size ≤ g5 := HG5.out.1
      have h := H36.out.trans (HM2.out.below.mono H36.out.size)
      rw [hwd]
      exact (((h.setCell (p := ⟨g5, n * 4, none⟩) hg _).setCell (p := ⟨g5, n * 4 + 1, none⟩) hg _).setCell (p := ⟨g5, n * 4 + 2, none⟩) hg _).setCell (p := ⟨g5, n * 4 + 3, none⟩) hg _
    have H3D := Lib.hid h3d
    have HDS := Lib.hid hdsz
    have hcbd := (hdo _ hne).trans HCBC.out
    have HCBD := Lib.hid hcbd
    have hqg : g ≠ g5 := by
      have h1 := (HM2.out.own.lt g rfl).1
      have h2 := HSZ.out
      have h3 := HG5.out.2
      omega
    have HOB : Hid (wd.ownsRow w7.heap.size 48 7 (.slice (some ⟨g, 0, none⟩) (p.blocks.length + 1) cap) (p.blocks.length + 1) (bs ++ lastC p.regs)) := own_same HM2.out.own (fun q e => hdo q (by have e2 : g = q := (by simpa [Value.ownBlock] using e); rw [← e2]; exact hqg))
    clear c7 q0 q1 q2' q3' d0 d1 d2 d3 f0 f1 f2 f3 hl5 hg1 h3d hdsz hdo
    have c7 := cell_of_row wd _ 0 _ _ _ hcbd
    simp only [List.getElem?_toArray, List.getElem?_cons_zero] at c7
    have hl5 : w5.heap.size < wd.heap.size := (Array.getElem?_eq_some_iff.1 hcbd).1
    have HO4D := Lib.hid HO4d
    clear HO4d HO4 hcbd hwd
    have HLD : Hid (w3.heap.size ≤ wd.heap.size) := H3D.out.size
    have HG5D : Hid (w5.heap.size < wd.heap.size) := hl5
    go_wp2_with (first
      | (at_builtin; refine wpList_append_lies _ rfl (.tmp 75) (.tmp 80) 22 rfl w3.heap.size 40 i0 _ 4 48 Try.underlying22 HJ0.out HZ0.out HZ1.out HZ2.out rfl (by decide) (.slice (some ⟨g5, 0, none⟩) c.length c5) c.length _ rfl ((HO4D.out.alloc _).alloc _) ⟨wd.heap.size + 1, 0, none⟩ 1 1 [.int .i64 0, .int .i64 0, .int .i64 1, .slice (some ⟨wd.heap.size, 0, none⟩) 1 1] rfl rfl (new_cells _ (heap_new (by simp))) (by simp [Value.oneCell']) (by decide) (by simp only [maxLen]; omega) (by omega) (by have := HLD.out; simp; omega) (wd.heap.size + 1 + 1) (by simp) ?_; intro g10 c10 w10 hown10 hgr10 hat10 hlt10; have HO10 := Lib.hid hown10; have HA10 := Lib.hid (ap3 H3D.out ⟨HG5.out.1, Nat.lt_trans HG5.out.2 HG5D.out⟩ hgr10 ⟨_, _, rfl⟩); have HT10 := Lib.hid hat10; have j10 := (HA10.out.2.1 w5.heap.size hl5 hne).trans HCBD.out; have n0 := cell_of_row w10 _ 0 _ _ _ j10; simp only [List.getElem?_toArray, List.getElem?_cons_zero] at n0; have n0f : w10.frozen? ⟨w5.heap.size, 0, none⟩ = false := frozen_of_row w10 _ _ _ _ j10; have nl10 : w5.heap.size < w10.heap.size := (Array.getElem?_eq_some_iff.1 j10).1; have HJ10 := Lib.hid j10; clear hown10 hgr10 hat10 hlt10 j10)
      | fail)
    obtain ⟨w11, hw11⟩ : ∃ w11, w11 = w10.setCell ⟨w5.heap.size, 0, none⟩ (.slice (some ⟨g10, 0, none⟩) (c.length + 1) c10) := ⟨_, rfl⟩
    have hmc := more_code (x := .slice (some ⟨g10, 0, none⟩) (c.length + 1) c10) HA10.out.1 HA10.out.2.1 HA10.out.2.2.1 HA10.out.2.2.2 HO10.out HOB.out HPC.out HBC.out hnl (Nat.le_trans HG5.out.1 (Nat.le_of_lt HG5.out.2)) HG5D.out (by have h1 := (HM2.out.own.lt g rfl).1; have h2 := HSZ.out; omega) hqg (by
      rcases HT10.out with h | h
      · have e2 : g5 = g10 := by simpa [Value.ownBlock] using h
        omega
      · have := HG5D.out
        omega)
    rw [← hw11] at hmc ⊢
    have hcd := heap_setCell_same w10 w5.heap.size 0 _ _ (.slice (some ⟨g10, 0, none⟩) (c.length + 1) c10) HJ10.out
    rw [← hw11] at hcd
    have HCD : Hid (w11.heap[w5.heap.size]? = some (.cells #[.slice (some ⟨g10, 0, none⟩) (c.length + 1) c10] 24 (0, 0))) := hcd
    have HMC := Lib.hid hmc
    have HB11 := Lib.hid (HB3.out.trans (hmc.2.mono HB3.out.size))
    have HFD : Hid (∀ q ∈ c.set n (moreP p) ++ [newP], PrcFit q) := fun q hq => by
      rcases List.mem_append.1 hq with hq | hq
      · rcases List.mem_or_eq_of_mem_set hq with hq | rfl
        · exact HI.out.fit q hq
        · exact (HI.out.fit p (List.mem_of_getElem? HP.out)).more HM.out.1
      · rw [List.mem_singleton] at hq
        rw [hq]
        exact newP_fit
    have HLD2 : Hid ((c.set n (moreP p) ++ [newP]).length = c.length + 1) := by simp [Hid]
    obtain ⟨d, hd⟩ : ∃ d, d = c.set n (moreP p) ++ [newP] := ⟨_, rfl⟩
    rw [← hd] at HMC HFD HLD2
    have HD := Lib.hid hd
    have HLD3 : Hid (d.length ≤ 1000000000000000) := by rw [HLD2.out]; exact (by omega : c.length + 1 ≤ 1000000000000000)
    have HCHK : Hid (∀ w, Below w11.heap.size w11 w → Calls Try.prog 9 #[.agg #[.slice (some ⟨g10, 0, none⟩) (c.length + 1) c10]] w fun e w' => e = .returned (.int .i64 (chk d)) ∧ Below w.heap.size w w') := fun w hb => by
      have := Check_any (c := d) (w := w) (some ⟨g10, 0, none⟩) c10 (by rw [HLD2.out]; exact HMC.out.1.bel hb) HLD3.out HFD.out
      rw [HLD2.out] at this
      exact this
    clear hmc hcd hw11 hd c7 n0 n0f nl10
    with_reducible refine (HCHK.out w11 (Below.refl _ _)).mono ?_
    rintro e w12 ⟨rfl, hb12⟩
    have HB12 := Lib.hid hb12
    by_cases k151 : chk d = 151
    · have f1 : (chk d == 151) = true := by rw [k151]; rfl
      go_wp2_with fail
      go_ret
      exact ⟨rfl, HB11.out.trans (HB12.out.mono HB11.out.size)⟩
    have f1 : (chk d == 151) = false := beq_eq_false_iff_ne.2 k151
    have hrun : run d l 2000 = run c l 2000 := by
      rw [HD.out] at k151 ⊢
      exact more_run HK0.out HOK.out HP.out k151 l 2000
    have HRUN := Lib.hid hrun
    have j0 := (HB12.out.block _ (Nat.lt_of_lt_of_le l0 (Nat.le_trans (Nat.le_refl _) (HMC.out.2.size)))).trans ((HMC.out.2.block _ l0).trans HCB3.out)
    have j1 := (HB12.out.block _ (Array.getElem?_eq_some_iff.1 HCD.out).1).trans HCD.out
    have c0' := cell_of_row w12 _ 0 _ _ _ j0
    have c1' := cell_of_row w12 _ 0 _ _ _ j1
    simp only [List.getElem?_toArray, List.getElem?_cons_zero] at c0' c1'
    have HF : Hid (w12.cell? ⟨W.heap.size, 0, none⟩ = some (.slice (some ⟨b, off, none⟩) c.length cl) ∧ w12.cell? ⟨w5.heap.size, 0, none⟩ = some (.slice (some ⟨g10, 0, none⟩) (c.length + 1) c10)) := ⟨c0', c1'⟩
    have HL12 : Hid (W.heap.size < w12.heap.size ∧ w5.heap.size < w12.heap.size) := ⟨(Array.getElem?_eq_some_iff.1 j0).1, (Array.getElem?_eq_some_iff.1 j1).1⟩
    have HBW12 := Lib.hid (HB11.out.trans (HB12.out.mono HB11.out.size))
    have HRC : Hid (∀ w, Below w12.heap.size w12 w → Calls Try.prog 11 #[.agg #[.slice (some ⟨b, off, none⟩) c.length cl], .string ⟨l.toArray⟩, .int .i64 2000] w (OutPost (run c l 2000) w)) := fun w hb => HI.out.run (HBW12.out.trans (hb.mono HBW12.out.size)) l 2000 (.inl (by decide))
    have HRD : Hid (∀ w, Below w12.heap.size w12 w → Calls Try.prog 11 #[.agg #[.slice (some ⟨g10, 0, none⟩) (c.length + 1) c10], .string ⟨l.toArray⟩, .int .i64 2000] w (OutPost (run c l 2000) w)) := fun w hb => by
      have := Run_any (c := d) (w := w) l 2000 (some ⟨g10, 0, none⟩) c10 (.inl (by decide)) (by rw [HLD2.out]; exact HMC.out.1.bel (HB12.out.trans (hb.mono HB12.out.size))) HLD3.out HFD.out
      rw [HLD2.out, HRUN.out] at this
      exact this
    obtain ⟨o, ho⟩ : ∃ o, o = run c l 2000 := ⟨_, rfl⟩
    rw [← ho] at HRC HRD
    have HSH : Hid (Dt.Short (o.shown.getD (.mk 0 0 ⟨#[]⟩ []))) := by rw [ho]; exact run_short c l 2000
    clear ho hrun hb12 j0 j1 c0 c0' c1' HCB HCB2 HCB3 HPC HBC HO10 HA10 HO4D HOB HCBD HCBC HM2
    go_wp2_with fail
    go_region_held3 (fun w' => w'.cell? ⟨W.heap.size, 0, none⟩ = some (.slice (some ⟨b, off, none⟩) c.length cl) ∧ w'.cell? ⟨w5.heap.size, 0, none⟩ = some (.slice (some ⟨g10, 0, none⟩) (c.length + 1) c10))
      (first | with_reducible exact HF.out | with_reducible exact HF13.out | with_reducible exact HF14.out | with_reducible exact HF15.out | exact HF.out)
      (first
        | (go_at_call 11; (with_reducible refine (HRC.out _ ((Below.refl _ _).drew)).mono ?_); rintro e w13 ⟨d1, a1, z1, rfl, hd1, hb13, hdo1⟩; subst hdo1; have hb13' := ((Below.refl w12.heap.size w12).drew).trans hb13; have HB13 := Lib.hid hb13'; have HD1 := Lib.hid hd1; have HF13 : Hid (w13.cell? ⟨W.heap.size, 0, none⟩ = some (.slice (some ⟨b, off, none⟩) c.length cl) ∧ w13.cell? ⟨w5.heap.size, 0, none⟩ = some (.slice (some ⟨g10, 0, none⟩) (c.length + 1) c10)) := ⟨(cell_bel hb13' HL12.out.1).trans HF.out.1, (cell_bel hb13' HL12.out.2).trans HF.out.2⟩; clear hb13 hb13' hd1)
        | (go_at_call 11; (with_reducible refine (HRD.out _ HB13.out).mono ?_); rintro e w14 ⟨d2, a2, z2, rfl, hd2, hb14, hdo2⟩; subst hdo2; have hb14' := HB13.out.trans (hb14.mono HB13.out.size); have HB14 := Lib.hid hb14'; have HD2 := Lib.hid hd2; have HD12 := Lib.hid (HD1.out.bel hb14 (Nat.le_refl _)); have HF14 : Hid (w14.cell? ⟨W.heap.size, 0, none⟩ = some (.slice (some ⟨b, off, none⟩) c.length cl) ∧ w14.cell? ⟨w5.heap.size, 0, none⟩ = some (.slice (some ⟨g10, 0, none⟩) (c.length + 1) c10)) := ⟨(cell_bel hb14' HL12.out.1).trans HF.out.1, (cell_bel hb14' HL12.out.2).trans HF.out.2⟩; clear hb14 hb14' hd2)
        | (go_at_call 12; (with_reducible refine (same9_yes o.e o.out _ _ _ o.shown.isSome o.steps w14 HSH.out (HD12.out.mono fun _ _ _ => trivial) (HD2.out.mono fun _ _ _ => trivial)).mono ?_); rintro e w15 ⟨rfl, hb15⟩; have hb15' := HB14.out.trans (hb15.mono HB14.out.size); have HB15 := Lib.hid hb15'; have HF15 : Hid (w15.cell? ⟨W.heap.size, 0, none⟩ = some (.slice (some ⟨b, off, none⟩) c.length cl) ∧ w15.cell? ⟨w5.heap.size, 0, none⟩ = some (.slice (some ⟨g10, 0, none⟩) (c.length + 1) c10)) := ⟨(cell_bel hb15' HL12.out.1).trans HF.out.1, (cell_bel hb15' HL12.out.2).trans HF.out.2⟩; clear hb15 hb15'))
    go_wp2_with fail
    go_ret
    exact ⟨rfl, HBW12.out.trans (HB15.out.mono HBW12.out.size)⟩
theorem more_walk (al : Option Addr) (m cl : Nat) (inp : ByteArray) (k : Int) (W : World) (h : ∃ c : Code, c.length = m ∧ CodeAt W (.slice al c.length cl) c ∧ c.length ≤ 1000000000000000 ∧ ∀ p ∈ c, PrcFit p) :
    Calls Try.prog 6 #[.agg #[.slice al m cl], .string inp, .int .i64 k] W fun e w' => e = .returned (.bool true) ∧ Below W.heap.size W w' := by
  obtain ⟨c, rfl, h1, h2, h3⟩ := h
  obtain ⟨l, rfl⟩ := as_list inp
  by_cases hno : moreNo c k
  · exact vmore_no al cl c l k W ⟨h1, h2, h3⟩ hno
  · unfold moreNo at hno
    simp only [not_or] at hno
    obtain ⟨n0, n1, n2, n3, n4⟩ := hno
    obtain ⟨n, rfl⟩ : ∃ n : Nat, k = n := ⟨k.toNat, by omega⟩
    obtain ⟨p, hp⟩ : ∃ p, c[n]? = some p := ⟨_, List.getElem?_eq_getElem (by omega)⟩
    have hr : p.regs < 2000 := by
      apply Int.lt_of_not_ge
      intro hge
      exact n3 ⟨p, by rw [Int.toNat_natCast]; exact hp, hge⟩
    exact vmore_yes al cl c l n W ⟨h1, h2, h3⟩ (Decidable.byContradiction n0) hp hr (by omega)
end Vm
end Go.Proofs.Ytalfnaielhbocaa
