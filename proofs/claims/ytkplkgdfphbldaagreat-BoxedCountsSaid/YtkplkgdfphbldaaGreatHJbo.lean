/- The reference's machine of expressions: proc. -/
import Derived.Test.YtkplkgdfphbldaaGreatHJba
namespace Go.Proofs.YtkplkgdfphbldaaGreat
open Go.RowKit
open Go.Lib (hid)
set_option linter.unusedVariables false
set_option linter.unusedSimpArgs false
set_option linter.unnecessarySimpa false
set_option maxRecDepth 100000
namespace Rn
theorem infoProc : (Tryz.prog.info? 119).map (fun i => (i.zero, i.size, i.bytes)) = some (some (.agg #[.int .i64 0, .int .i64 0, .string ⟨#[]⟩, .slice none 0 0, .int .i64 0, .int .i64 0, .string ⟨#[]⟩, .slice none 0 0, .slice none 0 0, .slice none 0 0, .bool false, .slice none 0 0, .slice none 0 0]), 13, 216) := by kernel_rfl
section
variable {w0 w w' : World} {ρ ρ' : Nat → Nat} {m most : Nat} {s s' : St} {q q' : Wh}
theorem pm_ok (x : PM) (hn : ∃ a n c, x.nv = .slice a n c) (hd : ∃ a n c, x.dl = .slice a n c) (hk : ∃ a n c, x.kv = .slice a n c) (he : ∃ a n c, x.ev = .slice a n c) (ht : ∃ a n c, x.tv = .slice a n c) (hv : ∃ a n c, x.vv = .slice a n c) : ∀ u ∈ x.cells, u.oneCell' = true := by
 obtain ⟨_, _, _, hn⟩ := hn
 obtain ⟨_, _, _, hd⟩ := hd
 obtain ⟨_, _, _, hk⟩ := hk
 obtain ⟨_, _, _, he⟩ := he
 obtain ⟨_, _, _, ht⟩ := ht
 obtain ⟨_, _, _, hv⟩ := hv
 intro u hu
 unfold PM.cells at hu
 rw [hn, hd, hk, he, ht, hv] at hu
 simp only [List.mem_cons, List.not_mem_nil, or_false] at hu
 rcases hu with rfl | rfl | rfl | rfl | rfl | rfl | rfl | rfl | rfl | rfl | rfl | rfl | rfl <;> rfl
theorem procs_mk {x : PM} {g cap : Nat} (h : RnO w0 w ρ m most s q) (hx : PMOk w0 w ρ x) {wa w2 : World} (hb : Below w.heap.size w wa) (hown : w2.ownsRow 0 119 13 (.slice (some ⟨g, 0, none⟩) (q.MP.length + 1) cap) (q.MP.length + 1) (pmC q.MP ++ x.cells))
  {pv : Value} {H : Nat} (hpv : q.pv = pv) (hg : wa.grownBy w2 pv.ownBlock) (hH : wa.heap.size = H) (hl : pv.ownBlock = some g ∨ g = H) (hlt : g < w2.heap.size) :
  (w2.cell? ⟨m, 2, none⟩ = some pv ∧ w2.frozen? ⟨m, 2, none⟩ = false ∧ m < w2.heap.size) ∧ ∃ ρ' q', RnO w0 (w2.setCell ⟨m, 2, none⟩ (.slice (some ⟨g, 0, none⟩) (q.MP.length + 1) cap)) ρ' m most { s with procs := s.procs ++ [x.p] } q' ∧ Mv w ρ (w2.setCell ⟨m, 2, none⟩ (.slice (some ⟨g, 0, none⟩) (q.MP.length + 1) cap)) ρ' := by
 subst hpv hH
 have ha := h.bel hb
 have hblk := ha.blkG (w' := w2) (O := q.pv.ownBlock) (fun b e => by rw [h.c.procs.2 b e]; decide) hg
 have hma := mv_bel hb ρ
 have hlen : q.MP.length + 1 = (q.MP ++ [x]).length := by simp
 obtain ⟨ρ', hc, hv⟩ := ha.c.newProcs (w' := w2) (M' := q.MP ++ [x]) (pv' := .slice (some ⟨g, 0, none⟩) (q.MP.length + 1) cap) (s' := { s with procs := s.procs ++ [x.p] }) hma (by rw [pmC_app, ← hlen]; simpa [pmC] using hown) h.c.procs.2 hg
  (fun b e => by
   obtain rfl : g = b := by cases e; rfl
   refine ⟨hlt, ?_⟩
   rcases hl with e | e
   ·exact .inl (h.c.procs.2 g e)
   ·exact .inr ⟨ha.c.new (by omega), by have := ha.c.below.size; omega, by have := hb.size; omega⟩)
  (fun y hy => by
   rcases List.mem_append.1 hy with hy | hy
   ·exact (h.c.pok y hy).mv hma
   ·rw [List.mem_singleton.1 hy]; exact hx.mv hma)
  (by simp [h.c.mp])
 refine ⟨⟨cell_of_row w2 m 2 _ _ _ hblk, frozen_of_row w2 m 2 _ _ hblk, (Array.getElem?_eq_some_iff.1 hblk).1⟩, ρ', _, RnO.set2 hblk hc 2 _ rfl, hv.trans ⟨by simp [World.setCell], fun b hb hr => ⟨heap_setCell_other _ _ _ _ (fun e => by have := hc.me; rw [e, this] at hr; omega), rfl⟩⟩⟩
theorem RnO.call {O' : Nat → Prop} {T' : List Hp.Th} (h : RnO w0 w ρ m most s q) (hg : Grow (fun b => ρ b = 5) O' w w') (hT : HSt w' 76 q.h O' T') :
  ∃ ρ', RnO w0 w' ρ' m most { s with T := T' } q ∧ Mv w ρ w' ρ' := by
 obtain ⟨ρ', k1, k2, k3⟩ := h.c.call (Mv.refl w ρ) hg hT
 exact ⟨ρ', ⟨k1, (k3 m h.lt (by rw [h.c.me]; decide)).1.trans h.blk⟩, k2⟩
theorem make_proc (T : List Hp.Th) : Hp.makeF T 4 [] = (⟨8, T.length, ⟨#[]⟩⟩, 0, T ++ [⟨4, []⟩]) := by
 unfold Hp.makeF Hp.makeOk Hp.sizeOk
 simp [Hp.addF]
def ProcPost (w0 : World) (ρ : Nat → Nat) (m most : Nat) (s' : St) (v : Hp.V) (w : World) (e : Ending) (w' : World) : Prop :=
 e = .returned (.agg #[.int .i64 v.kind, .int .i64 v.int, .string v.text]) ∧ ∃ ρ' q', RnO w0 w' ρ' m most s' q' ∧ Mv w ρ w' ρ'
structure Pc (w0 w : World) (ρ : Nat → Nat) (m most : Nat) (s : St) (x : PM) (w1 : World) : Prop where
 o : ∃ ρ1 q1, RnO w0 w1 ρ1 m most { s with T := s.T ++ [⟨4, []⟩] } q1 ∧ Mv w ρ w1 ρ1 ∧ ρ1 w.heap.size = 0 ∧ ρ1 (w.heap.size + 1) = 0 ∧ PMOk w0 w1 ρ1 x
 p : w1.heap[w.heap.size]? = some (.cells x.cells.toArray 119 (0, 0))
 r : w1.heap[w.heap.size + 1]? = some (.cells #[.int .i64 0, .int .i64 0, .string ⟨#[]⟩] 78 (0, 0))
 le : w0.heap.size ≤ w.heap.size
theorem Pc.mk' {x : PM} {O' : Nat → Prop} {w1 : World} (h : RnO w0 w ρ m most s q) (hx : PMOk w0 w ρ x) (hT : HSt w1 76 q.h O' (s.T ++ [⟨4, []⟩]))
  (hg : Grow (fun b => ρ b = 5) O' ((w.alloc (.cells x.cells.toArray 119)).alloc (.cells #[.int .i64 0, .int .i64 0, .string ⟨#[]⟩] 78)) w1) : Pc w0 w ρ m most s x w1 := by
 have hb : Below w.heap.size w ((w.alloc (.cells x.cells.toArray 119)).alloc (.cells #[.int .i64 0, .int .i64 0, .string ⟨#[]⟩] 78)) := ((Below.refl _ _).alloc (Nat.le_refl _) _).alloc (by simp) _
 have ha := h.bel hb
 have hma := mv_bel hb ρ
 have hsz : ((w.alloc (.cells x.cells.toArray 119)).alloc (.cells #[.int .i64 0, .int .i64 0, .string ⟨#[]⟩] 78)).heap.size = w.heap.size + 2 := by simp
 obtain ⟨ρ1, k1, k2⟩ := ha.call hg hT
 have z0 : ρ w.heap.size = 0 := h.c.new (Nat.le_refl _)
 have z1 : ρ (w.heap.size + 1) = 0 := h.c.new (by omega)
 have b0 := k2.keep w.heap.size (by omega) (.inl z0)
 have b1 := k2.keep (w.heap.size + 1) (by omega) (.inl z1)
 refine ⟨⟨ρ1, q, k1, hma.trans k2, b0.2.trans z0, b1.2.trans z1, (hx.mv hma).mv k2⟩, b0.1.trans ?_, b1.1.trans ?_, h.c.below.size⟩
 ·rw [heap_alloc_old _ _ (by simp)]
  exact heap_alloc_new _ _
 ·rw [show w.heap.size + 1 = (w.alloc (.cells x.cells.toArray 119)).heap.size by simp]
  exact heap_alloc_new _ _
structure Pc2 (w0 w : World) (ρ : Nat → Nat) (m most : Nat) (s : St) (x : PM) (V : Nat) (w2 : World) : Prop where
 o : ∃ ρ1 q1, RnO w0 w2 ρ1 m most { s with T := s.T ++ [⟨4, []⟩] } q1 ∧ Mv w ρ w2 ρ1 ∧ ρ1 (w.heap.size + 1) = 0 ∧ ρ1 V = 0 ∧ PMOk w0 w2 ρ1 { x with p := { x.p with thing := s.T.length } }
 p : w2.heap[w.heap.size]? = some (.cells #[.int .i64 s.T.length, .int .i64 x.p.lam.kind, .string x.p.lam.name, x.nv, .int .i64 x.p.lam.const.kind, .int .i64 x.p.lam.const.int, .string x.p.lam.const.text, x.dl, x.kv, x.ev, .bool x.p.kont, x.tv, x.vv] 119 (0, 0))
 r : w2.heap[w.heap.size + 1]? = some (.cells #[.int .i64 0, .int .i64 0, .string ⟨#[]⟩] 78 (0, 0))
 v : w2.heap[V]? = some (.cells #[.int .i64 8, .int .i64 s.T.length, .string ⟨#[]⟩] 78 (0, 0))
 le : w0.heap.size ≤ w.heap.size
theorem Pc.next {x : PM} {w1 : World} (H : Pc w0 w ρ m most s x w1) : Pc2 w0 w ρ m most s x w1.heap.size ((w1.setCell ⟨w.heap.size, 0, none⟩ (.int .i64 s.T.length)).alloc (.cells #[.int .i64 8, .int .i64 s.T.length, .string ⟨#[]⟩] 78)) := by
 obtain ⟨⟨ρ1, q1, k1, k2, k3, k4, k5⟩, hp, hr, hle⟩ := H
 have hs : (w1.setCell ⟨w.heap.size, 0, none⟩ (.int .i64 s.T.length)).heap.size = w1.heap.size := by simp [World.setCell]
 have o1 := (k1.store k3 hle 0 (.int .i64 s.T.length))
 have m1 : Mv w1 ρ1 (w1.setCell ⟨w.heap.size, 0, none⟩ (.int .i64 s.T.length)) ρ1 → True := fun _ => trivial
 have mm : Mv w ρ ((w1.setCell ⟨w.heap.size, 0, none⟩ (.int .i64 s.T.length)).alloc (.cells #[.int .i64 8, .int .i64 s.T.length, .string ⟨#[]⟩] 78)) ρ1 := (k2.store (Nat.le_refl _) 0 _).bel ((Below.refl _ _).alloc (Nat.le_refl _) _)
 have hlt : w.heap.size < w1.heap.size := (Array.getElem?_eq_some_iff.1 hp).1
 have hlt2 : w.heap.size + 1 < w1.heap.size := (Array.getElem?_eq_some_iff.1 hr).1
 have hst : ∀ {r ty size n : Nat} {v : Value} {xs : List Value}, RowR w1 ρ1 6 ty size n v xs → RowR ((w1.setCell ⟨w.heap.size, 0, none⟩ (.int .i64 s.T.length)).alloc (.cells #[.int .i64 8, .int .i64 s.T.length, .string ⟨#[]⟩] 78)) ρ1 6 ty size n v xs := fun {r ty size n v xs} hR => hR.keep fun b hb e => ⟨by
  rw [heap_alloc_old _ _ (by rw [hs]; exact hb)]
  exact heap_setCell_other _ _ _ _ (fun e2 => by rw [e2, k3] at e; cases e), e⟩
 refine ⟨⟨ρ1, q1, o1.alloc _, mm, k4, k1.c.new (Nat.le_refl _), ?_⟩, ?_, ?_, ?_, hle⟩
 ·obtain ⟨M, e1, e2, e3⟩ := k5.todo
  exact ⟨k5.ex, hst (r := 0) k5.env, ⟨M, hst (r := 0) e1, e2, fun y hy => ⟨(e3 y hy).ex, hst (r := 0) (e3 y hy).env⟩⟩, hst (r := 0) k5.vals⟩
 ·rw [heap_alloc_old _ _ (by rw [hs]; exact hlt)]
  exact heap_setCell_same _ _ 0 _ _ _ hp
 ·rw [heap_alloc_old _ _ (by rw [hs]; exact hlt2)]
  exact (heap_setCell_other _ _ _ _ (by simp)).trans hr
 ·rw [← hs]
  exact heap_alloc_new _ _
theorem Pc2.fin {x : PM} {V g cap : Nat} {w2 : World} (H : Pc2 w0 w ρ m most s x V w2) {wa w4 : World} {q1 : Wh} {ρ1 : Nat → Nat} (k1 : RnO w0 w2 ρ1 m most { s with T := s.T ++ [⟨4, []⟩] } q1) (k2 : Mv w ρ w2 ρ1) (k3 : ρ1 (w.heap.size + 1) = 0) (k4 : ρ1 V = 0) (k5 : PMOk w0 w2 ρ1 { x with p := { x.p with thing := s.T.length } })
  (hb : Below w2.heap.size w2 wa) (hown : w4.ownsRow 0 119 13 (.slice (some ⟨g, 0, none⟩) (q1.MP.length + 1) cap) (q1.MP.length + 1) (pmC q1.MP ++ PM.cells { x with p := { x.p with thing := s.T.length } }))
  {pv : Value} {N : Nat} (hpv : q1.pv = pv) (hg : wa.grownBy w4 pv.ownBlock) (hH : wa.heap.size = N) (hl : pv.ownBlock = some g ∨ g = N) (hlt : g < w4.heap.size) :
  (w4.cell? ⟨m, 2, none⟩ = some pv ∧ w4.frozen? ⟨m, 2, none⟩ = false ∧ m < w4.heap.size) ∧ (∃ ρ' q', RnO w0 (w4.setCell ⟨m, 2, none⟩ (.slice (some ⟨g, 0, none⟩) (q1.MP.length + 1) cap)) ρ' m most (s.proc x.p) q' ∧ Mv w ρ (w4.setCell ⟨m, 2, none⟩ (.slice (some ⟨g, 0, none⟩) (q1.MP.length + 1) cap)) ρ' ∧ ρ' (w.heap.size + 1) = 0) ∧
  (w4.setCell ⟨m, 2, none⟩ (.slice (some ⟨g, 0, none⟩) (q1.MP.length + 1) cap)).heap[w.heap.size + 1]? = some (.cells #[.int .i64 0, .int .i64 0, .string ⟨#[]⟩] 78 (0, 0)) ∧
  (w4.setCell ⟨m, 2, none⟩ (.slice (some ⟨g, 0, none⟩) (q1.MP.length + 1) cap)).heap[V]? = some (.cells #[.int .i64 8, .int .i64 s.T.length, .string ⟨#[]⟩] 78 (0, 0)) := by
 obtain ⟨a1, ρ', q', a2, a3⟩ := procs_mk k1 k5 hb hown hpv hg hH hl hlt
 have hrl := (Array.getElem?_eq_some_iff.1 H.r).1
 have hvl := (Array.getElem?_eq_some_iff.1 H.v).1
 refine ⟨a1, ⟨ρ', q', a2, k2.trans a3, (a3.keep _ hrl (.inl k3)).2.trans k3⟩, (a3.keep _ hrl (.inl k3)).1.trans H.r, (a3.keep _ hvl (.inl k4)).1.trans H.v⟩
set_option maxHeartbeats 8000000 in
set_option maxRecDepth 100000 in
theorem proc_any (h : RnO w0 w ρ m most s q) (x : PM) (hx : PMOk w0 w ρ x) (hT : s.T.length ≤ 1000000) (hl : s.procs.length ≤ 1000000) :
  Calls Tryz.prog 92 #[.pointer (some ⟨m, 0, none⟩), .agg #[.int .i64 x.p.thing, .int .i64 x.p.lam.kind, .string x.p.lam.name, x.nv, .int .i64 x.p.lam.const.kind, .int .i64 x.p.lam.const.int, .string x.p.lam.const.text, x.dl, x.kv, x.ev, .bool x.p.kont, x.tv, x.vv]] w (ProcPost w0 ρ m most (s.proc x.p) s.newV w) := by
 obtain ⟨i0, hi, hz0, hz1, hz2⟩ := info_parts infoProc
 have HI := hid hi
 have HZ0 := hid hz0
 have HZ1 := hid hz1
 have HZ2 := hid hz2
 have HH := hid h
 have HX := hid hx
 have hm := h.lt
 have c0 : w.cell? ⟨m, 0, none⟩ = some (.pointer (some ⟨q.h, 0, none⟩)) := by rw [h.cell 0]; rfl
 have HCT : Hid (∀ (W : World), Below w.heap.size w W → Calls Tryz.prog 110 #[.pointer (some ⟨q.h, 0, none⟩), .int .i64 4, .slice none 0 0] W (DoPost 76 q.h (fun b => ρ b = 5) ⟨8, s.T.length, ⟨#[]⟩⟩ 0 (s.T ++ [⟨4, []⟩]) W)) := fun W hb => by
  have := rmake_any (w := W) (h.c.heap.below hb (Nat.le_refl _)) 4 [] (.slice none 0 0) ⟨none, 0, rfl, .inl ⟨rfl, rfl, rfl⟩⟩ (by simp) (by simp) hT
  rw [make_proc] at this
  exact this
 have HB : Hid (Below w.heap.size w ((w.alloc (.cells #[.int .i64 x.p.thing, .int .i64 x.p.lam.kind, .string x.p.lam.name, x.nv, .int .i64 x.p.lam.const.kind, .int .i64 x.p.lam.const.int, .string x.p.lam.const.text, x.dl, x.kv, x.ev, .bool x.p.kont, x.tv, x.vv] 119)).alloc (.cells #[.int .i64 0, .int .i64 0, .string ⟨#[]⟩] 78))) := ((Below.refl _ _).alloc (Nat.le_refl _) _).alloc (by simp) _
 clear h hx hi hz0 hz1 hz2
 unfold ProcPost
 go_enter Tryz.func92, Tryz.ntmps92
 go_wp2_with fail
 with_reducible refine (HCT.out _ HB.out).mono ?_
 rintro e w1 ⟨O', rfl, hT1, hG1⟩
 have H1 := hid (Pc.mk' HH.out HX.out hT1 hG1)
 have p0 := cell_of_row w1 w.heap.size 0 _ _ _ H1.out.p
 have pf := frozen_of_row w1 w.heap.size 0 _ _ H1.out.p
 have hp1 := (Array.getElem?_eq_some_iff.1 H1.out.p).1
 have hp1' : w.heap.size < w1.heap.size := hp1
 have H2 := hid H1.out.next
 clear hT1 hG1
 unfold Hp.V.val
 go_wp2_with fail
 generalize hW : (w1.setCell ⟨w.heap.size, 0, none⟩ (.int .i64 s.T.length)).alloc (.cells #[.int .i64 8, .int .i64 s.T.length, .string ⟨#[]⟩] 78) = w2 at H2 ⊢
 generalize hV : w1.heap.size = V at H2 ⊢
 obtain ⟨ρ1, q1, k1, k2, k3, k4, k5⟩ := H2.out.o
 have hlen : q1.MP.length ≤ 1000000 := by
  have := congrArg List.length k1.c.mp
  simp at this
  omega
 obtain ⟨sn, sd, sk⟩ := ExAt.slices k5.ex
 obtain ⟨M, e1, _, _⟩ := k5.todo
 have HS := hid (pm_ok { x with p := { x.p with thing := s.T.length } } sn sd sk (by obtain ⟨a, c, e⟩ := k5.env.slice; exact ⟨_, _, _, e⟩) (by obtain ⟨a, c, e⟩ := e1.slice; exact ⟨_, _, _, e⟩) (by obtain ⟨a, c, e⟩ := k5.vals.slice; exact ⟨_, _, _, e⟩))
 obtain ⟨ta, tc, htv⟩ := k1.c.procs.slice
 have hm2 := k1.lt
 have c2 : w2.cell? ⟨m, 2, none⟩ = some (.slice ta q1.MP.length tc) := by rw [k1.cell 2, ← htv]; rfl
 have f2 := k1.fz 2
 have b0 := cell_of_row w2 w.heap.size 0 _ _ _ H2.out.p
 have b1 := cell_of_row w2 w.heap.size 1 _ _ _ H2.out.p
 have b2 := cell_of_row w2 w.heap.size 2 _ _ _ H2.out.p
 have b3 := cell_of_row w2 w.heap.size 3 _ _ _ H2.out.p
 have b4 := cell_of_row w2 w.heap.size 4 _ _ _ H2.out.p
 have b5 := cell_of_row w2 w.heap.size 5 _ _ _ H2.out.p
 have b6 := cell_of_row w2 w.heap.size 6 _ _ _ H2.out.p
 have b7 := cell_of_row w2 w.heap.size 7 _ _ _ H2.out.p
 have b8 := cell_of_row w2 w.heap.size 8 _ _ _ H2.out.p
 have b9 := cell_of_row w2 w.heap.size 9 _ _ _ H2.out.p
 have b10 := cell_of_row w2 w.heap.size 10 _ _ _ H2.out.p
 have b11 := cell_of_row w2 w.heap.size 11 _ _ _ H2.out.p
 have b12 := cell_of_row w2 w.heap.size 12 _ _ _ H2.out.p
 simp only [List.getElem?_toArray, List.getElem?_cons_zero, List.getElem?_cons_succ] at b0 b1 b2 b3 b4 b5 b6 b7 b8 b9 b10 b11 b12
 have hb2 : w.heap.size < w2.heap.size := (Array.getElem?_eq_some_iff.1 H2.out.p).1
 have HTV := hid htv
 have HR := hid (by have := k1.c.procs.1; rw [htv] at this; exact this : w2.ownsRow 0 119 13 (.slice ta q1.MP.length tc) q1.MP.length (pmC q1.MP))
 have HNC : Hid (∀ (j : Nat) (u : Value), (PM.cells { x with p := { x.p with thing := s.T.length } })[j]? = some u → ((w2.alloc (.cells #[.int .i64 s.T.length, .int .i64 x.p.lam.kind, .string x.p.lam.name, x.nv, .int .i64 x.p.lam.const.kind, .int .i64 x.p.lam.const.int, .string x.p.lam.const.text, x.dl, x.kv, x.ev, .bool x.p.kont, x.tv, x.vv] 119)).drew).cell? ((⟨w2.heap.size, 0, none⟩ : Addr).add j) = some u) := World.news_of_block (heap_alloc_new _ _)
 have HB2 : Hid (Below w2.heap.size w2 ((w2.alloc (.cells #[.int .i64 s.T.length, .int .i64 x.p.lam.kind, .string x.p.lam.name, x.nv, .int .i64 x.p.lam.const.kind, .int .i64 x.p.lam.const.int, .string x.p.lam.const.text, x.dl, x.kv, x.ev, .bool x.p.kont, x.tv, x.vv] 119)).drew)) := ((Below.refl _ _).alloc (Nat.le_refl _) _).drew
 have HSZ : Hid (((w2.alloc (.cells #[.int .i64 s.T.length, .int .i64 x.p.lam.kind, .string x.p.lam.name, x.nv, .int .i64 x.p.lam.const.kind, .int .i64 x.p.lam.const.int, .string x.p.lam.const.text, x.dl, x.kv, x.ev, .bool x.p.kont, x.tv, x.vv] 119)).drew).heap.size = w2.heap.size + 1) := by show (w2.alloc _).heap.size = _; simp
 have HK1 := hid k1
 have HK2 := hid k2
 have HK3 := hid k3
 have HK4 := hid k4
 have HK5 := hid k5
 clear hW hV H1 p0 pf hp1 hp1' k1 k2 k3 k4 k5 sn sd sk e1 htv HB HCT c0
 go_region_law (first
  | (refine step_append_lies _ (by rfl) (.tmp 22) (.tmp 24) 80 (by rfl) 0 119 i0 _ 13 216 Tryz.underlying80 HI.out HZ0.out HZ1.out HZ2.out rfl (by decide) (.slice ta q1.MP.length tc) q1.MP.length (pmC q1.MP) (by rfl) (by first | exact own_drewN (HR.out.alloc _) 1 | exact (own_drewN HR.out 1).alloc _) ⟨w2.heap.size, 0, none⟩ 1 1 (PM.cells { x with p := { x.p with thing := s.T.length } }) (by rfl) (by rfl) HNC.out HS.out (by decide) (by simp only [maxLen]; omega) (by omega) (Nat.zero_le _) (w2.heap.size + 1) (by simp) ?_; intro g cap w4 hown hgr hlb hlt; have H4 := hid (Pc2.fin H2.out HK1.out HK2.out HK3.out HK4.out HK5.out HB2.out hown HTV.out hgr HSZ.out hlb hlt); have c4 := H4.out.1.1; have f4 := H4.out.1.2.1; have hm4 := H4.out.1.2.2; clear hown hgr hlb hlt)
  | fail)
 all_goals
  generalize hw5 : w4.setCell ⟨m, 2, none⟩ (.slice (some ⟨g, 0, none⟩) (q1.MP.length + 1) cap) = w5 at H4 ⊢
  obtain ⟨_, ⟨ρ5, q5, a1, a2, a3⟩, a4, a5⟩ := H4.out
  have v0 := cell_of_row w5 V 0 _ _ _ a5
  have v1 := cell_of_row w5 V 1 _ _ _ a5
  have v2 := cell_of_row w5 V 2 _ _ _ a5
  have r0 := cell_of_row w5 (w.heap.size + 1) 0 _ _ _ a4
  have r1 := cell_of_row w5 (w.heap.size + 1) 1 _ _ _ a4
  have r2 := cell_of_row w5 (w.heap.size + 1) 2 _ _ _ a4
  simp only [List.getElem?_toArray, List.getElem?_cons_zero, List.getElem?_cons_succ] at v0 v1 v2 r0 r1 r2
  have s0 := frozen_of_row w5 (w.heap.size + 1) 0 _ _ a4
  have s1 := frozen_of_row w5 (w.heap.size + 1) 1 _ _ a4
  have s2 := frozen_of_row w5 (w.heap.size + 1) 2 _ _ a4
  have hv5 := (Array.getElem?_eq_some_iff.1 a5).1
  have hr5 := (Array.getElem?_eq_some_iff.1 a4).1
  have A1 := hid a1
  have A2 := hid a2
  have A3 := hid a3
  have A4 := hid a4
  clear hw5 H4 c4 f4 hm4 a1 a2 a3 a4 a5
  go_wp2_with fail
  have E := three_set w5 (w.heap.size + 1) 78 _ _ _ (.int .i64 8) (.int .i64 s.T.length) (.string ⟨#[]⟩) A4.out
  refine bodyPost_ret (res1 rfl _ _ (w.heap.size + 1) 78 _ (0, 0) rfl E valD valSize) rfl ?_
  have hle := H2.out.le
  exact ⟨rfl, ρ5, ⟨q5, ((A1.out.store A3.out (by omega) 0 _).store A3.out (by omega) 1 _).store A3.out (by omega) 2 _⟩, ((A2.out.store (by omega) 0 _).store (by omega) 1 _).store (by omega) 2 _⟩
end
section
variable {w0 w w' : World} {ρ ρ' : Nat → Nat} {m most : Nat} {s s' : St} {q q' : Wh}
theorem tellc_mk {v : Hp.V} {g cap : Nat} (h : RnO w0 w ρ m most s q) {wa w2 : World} (hb : Below w.heap.size w wa) (hown : w2.ownsRow 0 78 3 (.slice (some ⟨g, 0, none⟩) (s.vals.length + 1) cap) (s.vals.length + 1) (Hp.flatV s.vals.reverse ++ [.int .i64 v.kind, .int .i64 v.int, .string v.text]))
  {vv : Value} {H : Nat} (hvv : q.vv = vv) (hg : wa.grownBy w2 vv.ownBlock) (hH : wa.heap.size = H) (hl : vv.ownBlock = some g ∨ g = H) (hlt : g < w2.heap.size) :
  (w2.cell? ⟨m, 11, none⟩ = some vv ∧ w2.frozen? ⟨m, 11, none⟩ = false ∧ m < w2.heap.size) ∧ ∃ ρ' q', RnO w0 (w2.setCell ⟨m, 11, none⟩ (.slice (some ⟨g, 0, none⟩) (s.vals.length + 1) cap)) ρ' m most (s.tell v) q' ∧ Mv w ρ (w2.setCell ⟨m, 11, none⟩ (.slice (some ⟨g, 0, none⟩) (s.vals.length + 1) cap)) ρ' ∧ q'.cv = q.cv := by
 subst hvv hH
 have ha := h.bel hb
 have hblk := ha.blkG (w' := w2) (O := q.vv.ownBlock) (fun b e => by rw [h.c.vals.2 b e]; decide) hg
 have hma := mv_bel hb ρ
 obtain ⟨ρ', hc, hv⟩ := ha.c.newVals (w' := w2) (l' := v :: s.vals) (vv' := .slice (some ⟨g, 0, none⟩) (s.vals.length + 1) cap) (s' := s.tell v) hma (by rw [flatV_snoc, List.length_cons]; exact hown) h.c.vals.2 hg
  (fun b e => by
   obtain rfl : g = b := by cases e; rfl
   refine ⟨hlt, ?_⟩
   rcases hl with e | e
   ·exact .inl (h.c.vals.2 g e)
   ·exact .inr ⟨ha.c.new (by omega), by have := ha.c.below.size; omega, by have := hb.size; omega⟩) rfl
 refine ⟨⟨cell_of_row w2 m 11 _ _ _ hblk, frozen_of_row w2 m 11 _ _ hblk, (Array.getElem?_eq_some_iff.1 hblk).1⟩, ρ', _, RnO.set2 hblk hc 11 _ rfl, hv.trans ⟨by simp [World.setCell], fun b hb hr => ⟨heap_setCell_other _ _ _ _ (fun e => by have := hc.me; rw [e, this] at hr; omega), rfl⟩⟩, rfl⟩
set_option maxHeartbeats 4000000 in
set_option maxRecDepth 100000 in
theorem tellc_any (h : RnO w0 w ρ m most s q) (v : Hp.V) (hl : s.vals.length ≤ 10000000) :
  Calls Tryz.prog 71 #[.pointer (some ⟨m, 0, none⟩), .agg #[.int .i64 v.kind, .int .i64 v.int, .string v.text]] w fun e w' => e = .returned (.tuple #[]) ∧ ∃ ρ' q', RnO w0 w' ρ' m most (s.tell v) q' ∧ Mv w ρ w' ρ' ∧ q'.cv = q.cv := by
 obtain ⟨i0, hi, hz0, hz1, hz2⟩ := info_parts infoVal
 have HI := hid hi
 have HZ0 := hid hz0
 have HZ1 := hid hz1
 have HZ2 := hid hz2
 obtain ⟨ta, tc, htv⟩ := h.c.vals.slice
 have hm := h.lt
 have c11 : w.cell? ⟨m, 11, none⟩ = some (.slice ta s.vals.length tc) := by rw [h.cell 11, ← htv]; rfl
 have f11 := h.fz 11
 have HH := hid h
 have HTV := hid htv
 have HR := hid (by have := h.c.vals.1; rw [htv] at this; exact this : w.ownsRow 0 78 3 (.slice ta s.vals.length tc) s.vals.length (Hp.flatV s.vals.reverse))
 have HNC : Hid (∀ (j : Nat) (u : Value), [Value.int .i64 v.kind, .int .i64 v.int, .string v.text][j]? = some u → (((w.alloc (.cells #[.int .i64 v.kind, .int .i64 v.int, .string v.text] 78)).alloc (.cells #[.int .i64 v.kind, .int .i64 v.int, .string v.text] 78)).drew).cell? ((⟨w.heap.size + 1, 0, none⟩ : Addr).add j) = some u) := World.news_of_block (cs := #[.int .i64 v.kind, .int .i64 v.int, .string v.text]) (by
  show (((w.alloc _).alloc _).heap[w.heap.size + 1]?) = _
  rw [show w.heap.size + 1 = (w.alloc (.cells #[.int .i64 v.kind, .int .i64 v.int, .string v.text] 78)).heap.size by simp]
  exact heap_alloc_new _ _)
 have HB2 : Hid (Below w.heap.size w (((w.alloc (.cells #[.int .i64 v.kind, .int .i64 v.int, .string v.text] 78)).alloc (.cells #[.int .i64 v.kind, .int .i64 v.int, .string v.text] 78)).drew)) := (((Below.refl _ _).alloc (Nat.le_refl _) _).alloc (by simp) _).drew
 have HSZ : Hid ((((w.alloc (.cells #[.int .i64 v.kind, .int .i64 v.int, .string v.text] 78)).alloc (.cells #[.int .i64 v.kind, .int .i64 v.int, .string v.text] 78)).drew).heap.size = w.heap.size + 2) := by show ((w.alloc _).alloc _).heap.size = _; simp
 clear hi hz0 hz1 hz2 h htv
 go_enter Tryz.func71, Tryz.ntmps71
 go_wp2_with fail
 go_region_law (first
  | (refine step_append_lies _ (by rfl) (.tmp 8) (.tmp 10) 79 (by rfl) 0 78 i0 _ 3 32 Tryz.underlying79 HI.out HZ0.out HZ1.out HZ2.out rfl (by decide) (.slice ta s.vals.length tc) s.vals.length (Hp.flatV s.vals.reverse) (by rfl) (by first | exact own_drewN ((HR.out.alloc _).alloc _) 1 | exact (own_drewN (HR.out.alloc _) 1).alloc _) ⟨w.heap.size + 1, 0, none⟩ 1 1 [.int .i64 v.kind, .int .i64 v.int, .string v.text] (by rfl) (by rfl) HNC.out (by simp [Value.oneCell']) (by decide) (by simp only [maxLen]; omega) (by omega) (Nat.zero_le _) (w.heap.size + 2) (by simp) ?_; intro g cap w2 hown hgr hlb hlt; have H2 := hid (tellc_mk HH.out HB2.out hown HTV.out hgr HSZ.out hlb hlt); have c2 := H2.out.1.1; have f2 := H2.out.1.2.1; have hm2 := H2.out.1.2.2; clear hown hgr hlb hlt)
  | fail)
 all_goals
  go_wp2_with fail
  go_end0
  exact ⟨rfl, H2.out.2⟩
end
end Rn
end Go.Proofs.YtkplkgdfphbldaaGreat
