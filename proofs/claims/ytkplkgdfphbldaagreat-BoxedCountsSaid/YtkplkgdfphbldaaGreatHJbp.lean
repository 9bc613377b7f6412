/- The reference's machine of expressions: eval, by kinds (lam, quote, set, if). -/
import Derived.Test.YtkplkgdfphbldaaGreatHJbe
import Derived.Test.YtkplkgdfphbldaaGreatHJbo
namespace Go.Proofs.YtkplkgdfphbldaaGreat
open Go.RowKit
open Go.Lib (hid)
set_option linter.unusedVariables false
set_option linter.unusedSimpArgs false
set_option linter.unnecessarySimpa false
set_option maxRecDepth 100000
namespace Rn
section
variable {w0 w w' W wr : World} {ρ ρ' ρj : Nat → Nat} {m most : Nat} {s s' t : St} {q q' qj : Wh}
set_option maxHeartbeats 16000000 in
set_option maxRecDepth 100000 in
theorem eval_lam (h : RnO w0 w ρ m most s q) (e : Ex) (env : Env) (nv dl kv ev : Value) (hx : ExAt w0 (exV e.kind e.name nv e.const dl kv) e) (he : RowR w ρ 6 125 2 env.length ev (envC env)) (hs : s.steps < most) (hmost : most ≤ 1000000) (hk : e.kind = 5)
  (hT : s.T.length ≤ 1000000) (hpl : s.procs.length ≤ 1000000) (hvl : s.vals.length ≤ 1000000) :
  Calls Tryz.prog 69 #[.pointer (some ⟨m, 0, none⟩), .agg #[.int .i64 e.kind, .string e.name, nv, .int .i64 e.const.kind, .int .i64 e.const.int, .string e.const.text, dl, kv], ev] w (RnPost w0 ρ m most ((({ s with steps := s.steps + 1 } : St).proc ⟨0, e, env, false, [], []⟩).tell s.newV) w) := by
 obtain ⟨ea, ec, rfl⟩ := he.slice
 obtain ⟨⟨na, nn, nc, rfl⟩, ⟨da, dn, dc, rfl⟩, ⟨ka, kn, kc, rfl⟩⟩ := ExAt.slices hx
 obtain ⟨hkids, hnames, hconst⟩ := ExAt.kids hx
 obtain ⟨_, _, hkn, _, _⟩ := id hkids
 obtain rfl : kn = e.kids.length := by cases hkn; rfl
 have hm := h.lt
 have c8 : w.cell? ⟨m, 8, none⟩ = some (.int .i64 s.steps) := h.cell 8
 have c9 : w.cell? ⟨m, 9, none⟩ = some (.int .i64 most) := h.cell 9
 have f8 := h.fz 8
 have g8 : ((s.steps : Int) == (most : Int)) = false := beq_eq_false_iff_ne.2 (by omega)
 have gw : IntKind.i64.wrap ((s.steps : Int) + 1) = (s.steps : Int) + 1 := by rw [IntKind.wrap_i64]; omega
 have k0 : (e.kind == 0) = false := by rw [hk]; rfl
 have k1 : (e.kind == 1) = false := by rw [hk]; rfl
 have k2 : (e.kind == 2) = false := by rw [hk]; rfl
 have k3 : (e.kind == 3) = false := by rw [hk]; rfl
 have k4 : (e.kind == 4) = false := by rw [hk]; rfl
 have k5 : (e.kind == 5) = true := by rw [hk]; rfl
 have HX := hid hx
 have HEV := hid he
 have HKI := hid hkids
 have HCO := hid hconst
 have HW : Hid (∀ nq, Ev w0 w (((w.alloc (.cells #[.int .i64 e.kind, .string e.name, .slice na nn nc, .int .i64 e.const.kind, .int .i64 e.const.int, .string e.const.text, .slice da dn dc, .slice ka e.kids.length kc] 28)).drewN nq).setCell ⟨m, 8, none⟩ (.int .i64 ((s.steps : Int) + 1))) ρ m most { s with steps := s.steps + 1 } q w.heap.size e (.slice na nn nc) (.slice da dn dc) (.slice ka e.kids.length kc)) := fun nq => Ev.of h nq
 clear h hx he hk hkids hnames hconst hkn
 unfold RnPost
 go_enter Tryz.func69, Tryz.ntmps69
 go_wp2_with fail
 go_quiet (fail)
 go_upto_region 25 with fail
 have hV := HW.out nq
 generalize hWW : ((w.alloc (.cells #[.int .i64 e.kind, .string e.name, .slice na nn nc, .int .i64 e.const.kind, .int .i64 e.const.int, .string e.const.text, .slice da dn dc, .slice ka e.kids.length kc] 28)).drewN nq).setCell ⟨m, 8, none⟩ (.int .i64 ((s.steps : Int) + 1)) = W at hV ⊢
 clear hWW HW c8 c9 f8 g8 gw
 obtain ⟨E, hE⟩ : ∃ E, E = w.heap.size := ⟨_, rfl⟩
 rw [← hE] at hV ⊢
 replace hE := hid hE
 have hm := hV.o.lt
 have hEl : E < W.heap.size := (Array.getElem?_eq_some_iff.1 hV.blk).1
 have x0 := cell_of_row W E 0 _ _ _ hV.blk
 have x1 := cell_of_row W E 1 _ _ _ hV.blk
 have x2 := cell_of_row W E 2 _ _ _ hV.blk
 have x3 := cell_of_row W E 3 _ _ _ hV.blk
 have x4 := cell_of_row W E 4 _ _ _ hV.blk
 have x5 := cell_of_row W E 5 _ _ _ hV.blk
 have x6 := cell_of_row W E 6 _ _ _ hV.blk
 have x7 := cell_of_row W E 7 _ _ _ hV.blk
 simp only [List.getElem?_toArray, List.getElem?_cons_zero, List.getElem?_cons_succ] at x0 x1 x2 x3 x4 x5 x6 x7
 have HV := hid hV
 have HE := hid (HEV.out.mv hV.mv)
 clear hV
 have HPM : Hid (PMOk w0 W ρ ⟨⟨0, e, env, false, [], []⟩, .slice na nn nc, .slice da dn dc, .slice ka e.kids.length kc, .slice ea env.length ec, .slice none 0 0, .slice none 0 0⟩) := ⟨HX.out, HE.out, ⟨[], RowR.none W ρ 6 _ 11, rfl, by simp⟩, RowR.none W ρ 6 _ 3⟩
 go_wp2_with fail
 with_reducible refine (proc_any HV.out.o ⟨⟨0, e, env, false, [], []⟩, .slice na nn nc, .slice da dn dc, .slice ka e.kids.length kc, .slice ea env.length ec, .slice none 0 0, .slice none 0 0⟩ HPM.out hT hpl).mono ?_
 rintro e1 w1 ⟨rfl, ρ1, q1, o1, m1⟩
 have HO1 := hid o1
 have HM1 := hid (HV.out.mv.trans m1)
 clear o1 m1 x0 x1 x2 x3 x4 x5 x6 x7
 go_wp2_with fail
 have hvl1 : ((({ s with steps := s.steps + 1 } : St).proc ⟨0, e, env, false, [], []⟩).vals).length ≤ 10000000 := by show s.vals.length ≤ 10000000; omega
 with_reducible refine (tell_any HO1.out ({ s with steps := s.steps + 1 } : St).newV hvl1).mono ?_
 rintro e2 w2 ⟨rfl, ρ2, q2, o2, m2⟩
 have HO2 := hid o2
 have HM2 := hid (HM1.out.trans m2)
 clear o2 m2
 go_wp2_with fail
 go_end0
 exact ⟨rfl, ρ2, q2, HO2.out, HM2.out⟩
set_option maxHeartbeats 16000000 in
set_option maxRecDepth 100000 in
theorem eval_quote (h : RnO w0 w ρ m most s q) (e : Ex) (env : Env) (nv dl kv ev : Value) (hx : ExAt w0 (exV e.kind e.name nv e.const dl kv) e) (he : RowR w ρ 6 125 2 env.length ev (envC env)) (hs : s.steps < most) (hmost : most ≤ 1000000) (hk : e.kind = 0)
  (hvl : s.vals.length ≤ 1000000) (hcl : e.const.list = []) (hct : e.const.text.size ≤ maxLen) :
  Calls Tryz.prog 69 #[.pointer (some ⟨m, 0, none⟩), .agg #[.int .i64 e.kind, .string e.name, nv, .int .i64 e.const.kind, .int .i64 e.const.int, .string e.const.text, dl, kv], ev] w (RnPost w0 ρ m most (({ s with steps := s.steps + 1 } : St).tell (constF e.const).1) w) := by
 obtain ⟨ea, ec, rfl⟩ := he.slice
 obtain ⟨⟨na, nn, nc, rfl⟩, ⟨da, dn, dc, rfl⟩, ⟨ka, kn, kc, rfl⟩⟩ := ExAt.slices hx
 obtain ⟨hkids, hnames, hconst⟩ := ExAt.kids hx
 obtain ⟨_, _, hkn, _, _⟩ := id hkids
 obtain rfl : kn = e.kids.length := by cases hkn; rfl
 have hm := h.lt
 have c8 : w.cell? ⟨m, 8, none⟩ = some (.int .i64 s.steps) := h.cell 8
 have c9 : w.cell? ⟨m, 9, none⟩ = some (.int .i64 most) := h.cell 9
 have f8 := h.fz 8
 have g8 : ((s.steps : Int) == (most : Int)) = false := beq_eq_false_iff_ne.2 (by omega)
 have gw : IntKind.i64.wrap ((s.steps : Int) + 1) = (s.steps : Int) + 1 := by rw [IntKind.wrap_i64]; omega
 have k0 : (e.kind == 0) = true := by rw [hk]; rfl
 have HX := hid hx
 have HEV := hid he
 have HKI := hid hkids
 have HCO := hid hconst
 have HW : Hid (∀ nq, Ev w0 w (((w.alloc (.cells #[.int .i64 e.kind, .string e.name, .slice na nn nc, .int .i64 e.const.kind, .int .i64 e.const.int, .string e.const.text, .slice da dn dc, .slice ka e.kids.length kc] 28)).drewN nq).setCell ⟨m, 8, none⟩ (.int .i64 ((s.steps : Int) + 1))) ρ m most { s with steps := s.steps + 1 } q w.heap.size e (.slice na nn nc) (.slice da dn dc) (.slice ka e.kids.length kc)) := fun nq => Ev.of h nq
 clear h hx he hk hkids hnames hconst hkn
 unfold RnPost
 go_enter Tryz.func69, Tryz.ntmps69
 go_wp2_with fail
 go_quiet (fail)
 go_upto_region 7 with fail
 have hV := HW.out nq
 generalize hWW : ((w.alloc (.cells #[.int .i64 e.kind, .string e.name, .slice na nn nc, .int .i64 e.const.kind, .int .i64 e.const.int, .string e.const.text, .slice da dn dc, .slice ka e.kids.length kc] 28)).drewN nq).setCell ⟨m, 8, none⟩ (.int .i64 ((s.steps : Int) + 1)) = W at hV ⊢
 clear hWW HW c8 c9 f8 g8 gw
 obtain ⟨E, hE⟩ : ∃ E, E = w.heap.size := ⟨_, rfl⟩
 rw [← hE] at hV ⊢
 replace hE := hid hE
 have hm := hV.o.lt
 have hEl : E < W.heap.size := (Array.getElem?_eq_some_iff.1 hV.blk).1
 have x0 := cell_of_row W E 0 _ _ _ hV.blk
 have x1 := cell_of_row W E 1 _ _ _ hV.blk
 have x2 := cell_of_row W E 2 _ _ _ hV.blk
 have x3 := cell_of_row W E 3 _ _ _ hV.blk
 have x4 := cell_of_row W E 4 _ _ _ hV.blk
 have x5 := cell_of_row W E 5 _ _ _ hV.blk
 have x6 := cell_of_row W E 6 _ _ _ hV.blk
 have x7 := cell_of_row W E 7 _ _ _ hV.blk
 simp only [List.getElem?_toArray, List.getElem?_cons_zero, List.getElem?_cons_succ] at x0 x1 x2 x3 x4 x5 x6 x7
 have HV := hid hV
 have HE := hid (HEV.out.mv hV.mv)
 clear hV
 have HF : Hid (Dt.Fit e.const) := by
  unfold Hid
  revert hcl hct
  cases e.const with
  | mk k i t l =>
   intro hcl hct
   obtain rfl : l = [] := hcl
   exact .mk k i t [] hct (by simp) (by simp)
 have HC : Hid (∀ W', Below W.heap.size W W' → Calls Tryz.prog 90 #[.agg #[.int .i64 e.const.kind, .int .i64 e.const.int, .string e.const.text, .slice da dn dc]] W' (CnPost (constF e.const) W')) := fun W' hb => rconst_any e.const _ W' (HCO.out.bel (HV.out.o.c.below.trans (hb.mono HV.out.o.c.below.size)) (Nat.le_refl _)) HF.out
 generalize hr : constF e.const = r at HC
 obtain ⟨rv, rb⟩ := r
 have HRR := hid hr
 clear hr hcl hct
 unfold CnPost at HC
 go_wp2_with fail
 with_reducible refine (HC.out W (Below.refl _ _)).mono ?_
 rintro e1 w1 ⟨rfl, hb1⟩
 have HO1 := hid ((HV.out.o.bel hb1).alloc (.cells #[.int .i64 rv.kind, .int .i64 rv.int, .string rv.text] 78))
 have HM1 := hid ((HV.out.mv.bel hb1).bel ((Below.refl _ _).alloc (Nat.le_refl _) (.cells #[.int .i64 rv.kind, .int .i64 rv.int, .string rv.text] 78)))
 clear hb1 x0 x1 x2 x3 x4 x5 x6 x7
 go_wp2_with fail
 with_reducible refine (tell_any HO1.out rv (by show s.vals.length ≤ 10000000; omega)).mono ?_
 rintro e2 w2 ⟨rfl, ρ2, q2, o2, m2⟩
 have HO2 := hid o2
 have HM2 := hid (HM1.out.trans m2)
 clear o2 m2
 go_wp2_with fail
 go_end0
 exact ⟨rfl, ρ2, q2, by rw [HRR.out]; exact HO2.out, HM2.out⟩
set_option maxHeartbeats 16000000 in
set_option maxRecDepth 100000 in
theorem eval_set (h : RnO w0 w ρ m most s q) (e : Ex) (env : Env) (nv dl kv ev : Value) (hx : ExAt w0 (exV e.kind e.name nv e.const dl kv) e) (he : RowR w ρ 6 125 2 env.length ev (envC env)) (hs : s.steps < most) (hmost : most ≤ 1000000) (hk : e.kind = 2)
  (k : Ex) (h0 : e.kids[0]? = some k) (hel : env.length ≤ 1000000) (htl : s.todo.length ≤ 900000) :
  Calls Tryz.prog 69 #[.pointer (some ⟨m, 0, none⟩), .agg #[.int .i64 e.kind, .string e.name, nv, .int .i64 e.const.kind, .int .i64 e.const.int, .string e.const.text, dl, kv], ev] w (RnPost w0 ρ m most (({ s with steps := s.steps + 1 } : St).push [eT k env, zT 2 (cellF env e.name)]) w) := by
 obtain ⟨ea, ec, rfl⟩ := he.slice
 obtain ⟨⟨na, nn, nc, rfl⟩, ⟨da, dn, dc, rfl⟩, ⟨ka, kn, kc, rfl⟩⟩ := ExAt.slices hx
 obtain ⟨hkids, hnames, hconst⟩ := ExAt.kids hx
 obtain ⟨_, _, hkn, _, _⟩ := id hkids
 obtain rfl : kn = e.kids.length := by cases hkn; rfl
 have hm := h.lt
 have c8 : w.cell? ⟨m, 8, none⟩ = some (.int .i64 s.steps) := h.cell 8
 have c9 : w.cell? ⟨m, 9, none⟩ = some (.int .i64 most) := h.cell 9
 have f8 := h.fz 8
 have g8 : ((s.steps : Int) == (most : Int)) = false := beq_eq_false_iff_ne.2 (by omega)
 have gw : IntKind.i64.wrap ((s.steps : Int) + 1) = (s.steps : Int) + 1 := by rw [IntKind.wrap_i64]; omega
 have k0 : (e.kind == 0) = false := by rw [hk]; rfl
 have k1 : (e.kind == 1) = false := by rw [hk]; rfl
 have k2 : (e.kind == 2) = true := by rw [hk]; rfl
 have HX := hid hx
 have HEV := hid he
 have HKI := hid hkids
 have HCO := hid hconst
 have HW : Hid (∀ nq, Ev w0 w (((w.alloc (.cells #[.int .i64 e.kind, .string e.name, .slice na nn nc, .int .i64 e.const.kind, .int .i64 e.const.int, .string e.const.text, .slice da dn dc, .slice ka e.kids.length kc] 28)).drewN nq).setCell ⟨m, 8, none⟩ (.int .i64 ((s.steps : Int) + 1))) ρ m most { s with steps := s.steps + 1 } q w.heap.size e (.slice na nn nc) (.slice da dn dc) (.slice ka e.kids.length kc)) := fun nq => Ev.of h nq
 clear h hx he hk hkids hnames hconst hkn
 unfold RnPost
 go_enter Tryz.func69, Tryz.ntmps69
 go_wp2_with fail
 go_quiet (fail)
 go_upto_region 12 with fail
 have hV := HW.out nq
 generalize hWW : ((w.alloc (.cells #[.int .i64 e.kind, .string e.name, .slice na nn nc, .int .i64 e.const.kind, .int .i64 e.const.int, .string e.const.text, .slice da dn dc, .slice ka e.kids.length kc] 28)).drewN nq).setCell ⟨m, 8, none⟩ (.int .i64 ((s.steps : Int) + 1)) = W at hV ⊢
 clear hWW HW c8 c9 f8 g8 gw
 obtain ⟨E, hE⟩ : ∃ E, E = w.heap.size := ⟨_, rfl⟩
 rw [← hE] at hV ⊢
 replace hE := hid hE
 have hm := hV.o.lt
 have hEl : E < W.heap.size := (Array.getElem?_eq_some_iff.1 hV.blk).1
 have x0 := cell_of_row W E 0 _ _ _ hV.blk
 have x1 := cell_of_row W E 1 _ _ _ hV.blk
 have x2 := cell_of_row W E 2 _ _ _ hV.blk
 have x3 := cell_of_row W E 3 _ _ _ hV.blk
 have x4 := cell_of_row W E 4 _ _ _ hV.blk
 have x5 := cell_of_row W E 5 _ _ _ hV.blk
 have x6 := cell_of_row W E 6 _ _ _ hV.blk
 have x7 := cell_of_row W E 7 _ _ _ hV.blk
 simp only [List.getElem?_toArray, List.getElem?_cons_zero, List.getElem?_cons_succ] at x0 x1 x2 x3 x4 x5 x6 x7
 have HV := hid hV
 have HE := hid (HEV.out.mv hV.mv)
 clear hV
 go_wp2_with fail
 with_reducible refine (cell_any env _ e.name W HE.out.own (by omega)).mono ?_
 rintro e0 w0' ⟨rfl, rfl⟩
 go_wp2_with fail
 with_reducible refine (push_z HV.out.o 2 (cellF env e.name) (by show s.todo.length ≤ 10000000; omega)).mono ?_
 rintro e1 w1 ⟨rfl, ρ1, q1, o1, m1⟩
 have HO1 := hid o1
 have HM1 := hid (HV.out.mv.trans m1)
 have HE1 := hid (HE.out.mv m1)
 have hb1 := (m1.keep E hEl (.inl HV.out.z)).1.trans HV.out.blk
 have y0 := cell_of_row w1 E 0 _ _ _ hb1
 have y1 := cell_of_row w1 E 1 _ _ _ hb1
 have y2 := cell_of_row w1 E 2 _ _ _ hb1
 have y3 := cell_of_row w1 E 3 _ _ _ hb1
 have y4 := cell_of_row w1 E 4 _ _ _ hb1
 have y5 := cell_of_row w1 E 5 _ _ _ hb1
 have y6 := cell_of_row w1 E 6 _ _ _ hb1
 have y7 := cell_of_row w1 E 7 _ _ _ hb1
 simp only [List.getElem?_toArray, List.getElem?_cons_zero, List.getElem?_cons_succ] at y0 y1 y2 y3 y4 y5 y6 y7
 have hE1 : E < w1.heap.size := (Array.getElem?_eq_some_iff.1 hb1).1
 have hm1 := o1.lt
 obtain ⟨_, kb, koff, rfl, hkb, knv, kdl, kkv, hkc⟩ := HKI.out.at h0
 obtain ⟨⟨c0, c1, c2, c3, c4, c5, c6, c7, _⟩, hkl⟩ := HO1.out.exc hkc hkb
 rw [Nat.zero_mul, Nat.add_zero] at c0 c1 c2 c3 c4 c5 c6 c7
 have HKE := hid hkc.ex
 have g0 : (0 : Int) < e.kids.length := by have := (List.getElem?_eq_some_iff.1 h0).1; omega
 clear hkc
 clear o1 m1 hb1 x0 x1 x2 x3 x4 x5 x6 x7
 go_wp2_with fail
 with_reducible refine (push_v HO1.out 0 0 k env knv kdl kkv _ HKE.out HE1.out (by simp [St.push]; omega)).mono ?_
 rintro e2 w2 ⟨rfl, ρ2, q2, o2, m2⟩
 have HO2 := hid o2
 have HM2 := hid (HM1.out.trans m2)
 clear o2 m2
 go_wp2_with fail
 go_end0
 exact ⟨rfl, ρ2, q2, HO2.out, HM2.out⟩
end
section
variable {w0 w w' W wr : World} {ρ ρ' ρj : Nat → Nat} {m most : Nat} {s s' t : St} {q q' qj : Wh}
set_option maxHeartbeats 16000000 in
set_option maxRecDepth 100000 in
theorem eval_call (h : RnO w0 w ρ m most s q) (e : Ex) (env : Env) (nv dl kv ev : Value) (hx : ExAt w0 (exV e.kind e.name nv e.const dl kv) e) (he : RowR w ρ 6 125 2 env.length ev (envC env)) (hs : s.steps < most) (hmost : most ≤ 1000000) (hk : e.kind = 6)
  (hkl : e.kids.length ≤ 1000000) (htl : s.todo.length ≤ 900000) :
  Calls Tryz.prog 69 #[.pointer (some ⟨m, 0, none⟩), .agg #[.int .i64 e.kind, .string e.name, nv, .int .i64 e.const.kind, .int .i64 e.const.int, .string e.const.text, dl, kv], ev] w (RnPost w0 ρ m most (({ s with steps := s.steps + 1 } : St).push (e.kids.map (eT · env) ++ [zT 4 e.kids.length])) w) := by
 obtain ⟨ea, ec, rfl⟩ := he.slice
 obtain ⟨⟨na, nn, nc, rfl⟩, ⟨da, dn, dc, rfl⟩, ⟨ka, kn, kc, rfl⟩⟩ := ExAt.slices hx
 obtain ⟨hkids, hnames, hconst⟩ := ExAt.kids hx
 obtain ⟨_, _, hkn, _, _⟩ := id hkids
 obtain rfl : kn = e.kids.length := by cases hkn; rfl
 have hm := h.lt
 have c8 : w.cell? ⟨m, 8, none⟩ = some (.int .i64 s.steps) := h.cell 8
 have c9 : w.cell? ⟨m, 9, none⟩ = some (.int .i64 most) := h.cell 9
 have f8 := h.fz 8
 have g8 : ((s.steps : Int) == (most : Int)) = false := beq_eq_false_iff_ne.2 (by omega)
 have gw : IntKind.i64.wrap ((s.steps : Int) + 1) = (s.steps : Int) + 1 := by rw [IntKind.wrap_i64]; omega
 have k0 : (e.kind == 0) = false := by rw [hk]; rfl
 have k1 : (e.kind == 1) = false := by rw [hk]; rfl
 have k2 : (e.kind == 2) = false := by rw [hk]; rfl
 have k3 : (e.kind == 3) = false := by rw [hk]; rfl
 have k4 : (e.kind == 4) = false := by rw [hk]; rfl
 have k5 : (e.kind == 5) = false := by rw [hk]; rfl
 have k6 : (e.kind == 6) = true := by rw [hk]; rfl
 have HX := hid hx
 have HEV := hid he
 have HKI := hid hkids
 have HCO := hid hconst
 have HW : Hid (∀ nq, Ev w0 w (((w.alloc (.cells #[.int .i64 e.kind, .string e.name, .slice na nn nc, .int .i64 e.const.kind, .int .i64 e.const.int, .string e.const.text, .slice da dn dc, .slice ka e.kids.length kc] 28)).drewN nq).setCell ⟨m, 8, none⟩ (.int .i64 ((s.steps : Int) + 1))) ρ m most { s with steps := s.steps + 1 } q w.heap.size e (.slice na nn nc) (.slice da dn dc) (.slice ka e.kids.length kc)) := fun nq => Ev.of h nq
 clear h hx he hk hkids hnames hconst hkn
 unfold RnPost
 go_enter Tryz.func69, Tryz.ntmps69
 go_wp2_with fail
 go_quiet (fail)
 go_upto_region 27 with fail
 have hV := HW.out nq
 generalize hWW : ((w.alloc (.cells #[.int .i64 e.kind, .string e.name, .slice na nn nc, .int .i64 e.const.kind, .int .i64 e.const.int, .string e.const.text, .slice da dn dc, .slice ka e.kids.length kc] 28)).drewN nq).setCell ⟨m, 8, none⟩ (.int .i64 ((s.steps : Int) + 1)) = W at hV ⊢
 clear hWW HW c8 c9 f8 g8 gw
 obtain ⟨E, hE⟩ : ∃ E, E = w.heap.size := ⟨_, rfl⟩
 rw [← hE] at hV ⊢
 replace hE := hid hE
 have hm := hV.o.lt
 have hEl : E < W.heap.size := (Array.getElem?_eq_some_iff.1 hV.blk).1
 have x0 := cell_of_row W E 0 _ _ _ hV.blk
 have x1 := cell_of_row W E 1 _ _ _ hV.blk
 have x2 := cell_of_row W E 2 _ _ _ hV.blk
 have x3 := cell_of_row W E 3 _ _ _ hV.blk
 have x4 := cell_of_row W E 4 _ _ _ hV.blk
 have x5 := cell_of_row W E 5 _ _ _ hV.blk
 have x6 := cell_of_row W E 6 _ _ _ hV.blk
 have x7 := cell_of_row W E 7 _ _ _ hV.blk
 simp only [List.getElem?_toArray, List.getElem?_cons_zero, List.getElem?_cons_succ] at x0 x1 x2 x3 x4 x5 x6 x7
 have HV := hid hV
 have HE := hid (HEV.out.mv hV.mv)
 clear hV
 go_wp2_with fail
 with_reducible refine (push_z HV.out.o 4 e.kids.length (by show s.todo.length ≤ 10000000; omega)).mono ?_
 rintro e1 w1 ⟨rfl, ρ1, q1, o1, m1⟩
 have HO1 := hid o1
 have HM1 := hid (HV.out.mv.trans m1)
 have HE1 := hid (HE.out.mv m1)
 have hb1 := (m1.keep E hEl (.inl HV.out.z)).1.trans HV.out.blk
 have y0 := cell_of_row w1 E 0 _ _ _ hb1
 have y1 := cell_of_row w1 E 1 _ _ _ hb1
 have y2 := cell_of_row w1 E 2 _ _ _ hb1
 have y3 := cell_of_row w1 E 3 _ _ _ hb1
 have y4 := cell_of_row w1 E 4 _ _ _ hb1
 have y5 := cell_of_row w1 E 5 _ _ _ hb1
 have y6 := cell_of_row w1 E 6 _ _ _ hb1
 have y7 := cell_of_row w1 E 7 _ _ _ hb1
 simp only [List.getElem?_toArray, List.getElem?_cons_zero, List.getElem?_cons_succ] at y0 y1 y2 y3 y4 y5 y6 y7
 have hE1 : E < w1.heap.size := (Array.getElem?_eq_some_iff.1 hb1).1
 have hm1 := o1.lt
 clear o1 m1 hb1 x0 x1 x2 x3 x4 x5 x6 x7
 go_wp2_with fail
 with_reducible refine (all_any HO1.out e.kids env _ _ HKI.out HE1.out (by omega) (by simp [St.push]; omega)).mono ?_
 rintro e2 w2 ⟨rfl, ρ2, q2, o2, m2⟩
 have HO2 := hid o2
 have HM2 := hid (HM1.out.trans m2)
 clear o2 m2
 go_wp2_with fail
 go_end0
 exact ⟨rfl, ρ2, q2, by have h := HO2.out; rw [push_push] at h; exact h, HM2.out⟩
set_option maxHeartbeats 16000000 in
set_option maxRecDepth 100000 in
theorem eval_prim (h : RnO w0 w ρ m most s q) (e : Ex) (env : Env) (nv dl kv ev : Value) (hx : ExAt w0 (exV e.kind e.name nv e.const dl kv) e) (he : RowR w ρ 6 125 2 env.length ev (envC env)) (hs : s.steps < most) (hmost : most ≤ 1000000) (hk : e.kind = 7)
  (hkl : e.kids.length ≤ 1000000) (htl : s.todo.length ≤ 900000) :
  Calls Tryz.prog 69 #[.pointer (some ⟨m, 0, none⟩), .agg #[.int .i64 e.kind, .string e.name, nv, .int .i64 e.const.kind, .int .i64 e.const.int, .string e.const.text, dl, kv], ev] w (RnPost w0 ρ m most (({ s with steps := s.steps + 1 } : St).push (e.kids.map (eT · env) ++ [⟨5, e, [], 0⟩])) w) := by
 obtain ⟨ea, ec, rfl⟩ := he.slice
 obtain ⟨⟨na, nn, nc, rfl⟩, ⟨da, dn, dc, rfl⟩, ⟨ka, kn, kc, rfl⟩⟩ := ExAt.slices hx
 obtain ⟨hkids, hnames, hconst⟩ := ExAt.kids hx
 obtain ⟨_, _, hkn, _, _⟩ := id hkids
 obtain rfl : kn = e.kids.length := by cases hkn; rfl
 have hm := h.lt
 have c8 : w.cell? ⟨m, 8, none⟩ = some (.int .i64 s.steps) := h.cell 8
 have c9 : w.cell? ⟨m, 9, none⟩ = some (.int .i64 most) := h.cell 9
 have f8 := h.fz 8
 have g8 : ((s.steps : Int) == (most : Int)) = false := beq_eq_false_iff_ne.2 (by omega)
 have gw : IntKind.i64.wrap ((s.steps : Int) + 1) = (s.steps : Int) + 1 := by rw [IntKind.wrap_i64]; omega
 have k0 : (e.kind == 0) = false := by rw [hk]; rfl
 have k1 : (e.kind == 1) = false := by rw [hk]; rfl
 have k2 : (e.kind == 2) = false := by rw [hk]; rfl
 have k3 : (e.kind == 3) = false := by rw [hk]; rfl
 have k4 : (e.kind == 4) = false := by rw [hk]; rfl
 have k5 : (e.kind == 5) = false := by rw [hk]; rfl
 have k6 : (e.kind == 6) = false := by rw [hk]; rfl
 have k7 : (e.kind == 7) = true := by rw [hk]; rfl
 have HX := hid hx
 have HEV := hid he
 have HKI := hid hkids
 have HCO := hid hconst
 have HW : Hid (∀ nq, Ev w0 w (((w.alloc (.cells #[.int .i64 e.kind, .string e.name, .slice na nn nc, .int .i64 e.const.kind, .int .i64 e.const.int, .string e.const.text, .slice da dn dc, .slice ka e.kids.length kc] 28)).drewN nq).setCell ⟨m, 8, none⟩ (.int .i64 ((s.steps : Int) + 1))) ρ m most { s with steps := s.steps + 1 } q w.heap.size e (.slice na nn nc) (.slice da dn dc) (.slice ka e.kids.length kc)) := fun nq => Ev.of h nq
 clear h hx he hk hkids hnames hconst hkn
 unfold RnPost
 go_enter Tryz.func69, Tryz.ntmps69
 go_wp2_with fail
 go_quiet (fail)
 go_upto_region 30 with fail
 have hV := HW.out nq
 generalize hWW : ((w.alloc (.cells #[.int .i64 e.kind, .string e.name, .slice na nn nc, .int .i64 e.const.kind, .int .i64 e.const.int, .string e.const.text, .slice da dn dc, .slice ka e.kids.length kc] 28)).drewN nq).setCell ⟨m, 8, none⟩ (.int .i64 ((s.steps : Int) + 1)) = W at hV ⊢
 clear hWW HW c8 c9 f8 g8 gw
 obtain ⟨E, hE⟩ : ∃ E, E = w.heap.size := ⟨_, rfl⟩
 rw [← hE] at hV ⊢
 replace hE := hid hE
 have hm := hV.o.lt
 have hEl : E < W.heap.size := (Array.getElem?_eq_some_iff.1 hV.blk).1
 have x0 := cell_of_row W E 0 _ _ _ hV.blk
 have x1 := cell_of_row W E 1 _ _ _ hV.blk
 have x2 := cell_of_row W E 2 _ _ _ hV.blk
 have x3 := cell_of_row W E 3 _ _ _ hV.blk
 have x4 := cell_of_row W E 4 _ _ _ hV.blk
 have x5 := cell_of_row W E 5 _ _ _ hV.blk
 have x6 := cell_of_row W E 6 _ _ _ hV.blk
 have x7 := cell_of_row W E 7 _ _ _ hV.blk
 simp only [List.getElem?_toArray, List.getElem?_cons_zero, List.getElem?_cons_succ] at x0 x1 x2 x3 x4 x5 x6 x7
 have HV := hid hV
 have HE := hid (HEV.out.mv hV.mv)
 clear hV
 go_wp2_with fail
 with_reducible refine (push_v HV.out.o 5 0 e [] _ _ _ _ HX.out (RowR.none W ρ 6 _ 2) (by show s.todo.length ≤ 10000000; omega)).mono ?_
 rintro e1 w1 ⟨rfl, ρ1, q1, o1, m1⟩
 have HO1 := hid o1
 have HM1 := hid (HV.out.mv.trans m1)
 have HE1 := hid (HE.out.mv m1)
 have hb1 := (m1.keep E hEl (.inl HV.out.z)).1.trans HV.out.blk
 have y0 := cell_of_row w1 E 0 _ _ _ hb1
 have y1 := cell_of_row w1 E 1 _ _ _ hb1
 have y2 := cell_of_row w1 E 2 _ _ _ hb1
 have y3 := cell_of_row w1 E 3 _ _ _ hb1
 have y4 := cell_of_row w1 E 4 _ _ _ hb1
 have y5 := cell_of_row w1 E 5 _ _ _ hb1
 have y6 := cell_of_row w1 E 6 _ _ _ hb1
 have y7 := cell_of_row w1 E 7 _ _ _ hb1
 simp only [List.getElem?_toArray, List.getElem?_cons_zero, List.getElem?_cons_succ] at y0 y1 y2 y3 y4 y5 y6 y7
 have hE1 : E < w1.heap.size := (Array.getElem?_eq_some_iff.1 hb1).1
 have hm1 := o1.lt
 clear o1 m1 hb1 x0 x1 x2 x3 x4 x5 x6 x7
 go_wp2_with fail
 with_reducible refine (all_any HO1.out e.kids env _ _ HKI.out HE1.out (by omega) (by simp [St.push]; omega)).mono ?_
 rintro e2 w2 ⟨rfl, ρ2, q2, o2, m2⟩
 have HO2 := hid o2
 have HM2 := hid (HM1.out.trans m2)
 clear o2 m2
 go_wp2_with fail
 go_end0
 exact ⟨rfl, ρ2, q2, by have h := HO2.out; rw [push_push] at h; exact h, HM2.out⟩
end
section
variable {w0 w w' W wr : World} {ρ ρ' ρj : Nat → Nat} {m most : Nat} {s s' t : St} {q q' qj : Wh}
set_option maxHeartbeats 16000000 in
set_option maxRecDepth 100000 in
theorem eval_seq (h : RnO w0 w ρ m most s q) (e : Ex) (env : Env) (nv dl kv ev : Value) (hx : ExAt w0 (exV e.kind e.name nv e.const dl kv) e) (he : RowR w ρ 6 125 2 env.length ev (envC env)) (hs : s.steps < most) (hmost : most ≤ 1000000) (hk : e.kind = 4)
  (hne : e.kids ≠ []) (hkl : e.kids.length ≤ 400000) (htl : s.todo.length ≤ 100000) :
  Calls Tryz.prog 69 #[.pointer (some ⟨m, 0, none⟩), .agg #[.int .i64 e.kind, .string e.name, nv, .int .i64 e.const.kind, .int .i64 e.const.int, .string e.const.text, dl, kv], ev] w (RnPost w0 ρ m most (({ s with steps := s.steps + 1 } : St).push (seqT env e.kids)) w) := by
 obtain ⟨ea, ec, rfl⟩ := he.slice
 obtain ⟨⟨na, nn, nc, rfl⟩, ⟨da, dn, dc, rfl⟩, ⟨ka, kn, kc, rfl⟩⟩ := ExAt.slices hx
 obtain ⟨hkids, hnames, hconst⟩ := ExAt.kids hx
 obtain ⟨_, _, hkn, _, _⟩ := id hkids
 obtain rfl : kn = e.kids.length := by cases hkn; rfl
 have hm := h.lt
 have c8 : w.cell? ⟨m, 8, none⟩ = some (.int .i64 s.steps) := h.cell 8
 have c9 : w.cell? ⟨m, 9, none⟩ = some (.int .i64 most) := h.cell 9
 have f8 := h.fz 8
 have g8 : ((s.steps : Int) == (most : Int)) = false := beq_eq_false_iff_ne.2 (by omega)
 have gw : IntKind.i64.wrap ((s.steps : Int) + 1) = (s.steps : Int) + 1 := by rw [IntKind.wrap_i64]; omega
 have k0 : (e.kind == 0) = false := by rw [hk]; rfl
 have k1 : (e.kind == 1) = false := by rw [hk]; rfl
 have k2 : (e.kind == 2) = false := by rw [hk]; rfl
 have k3 : (e.kind == 3) = false := by rw [hk]; rfl
 have k4 : (e.kind == 4) = true := by rw [hk]; rfl
 have HX := hid hx
 have HEV := hid he
 have HKI := hid hkids
 have HCO := hid hconst
 have HW : Hid (∀ nq, Ev w0 w (((w.alloc (.cells #[.int .i64 e.kind, .string e.name, .slice na nn nc, .int .i64 e.const.kind, .int .i64 e.const.int, .string e.const.text, .slice da dn dc, .slice ka e.kids.length kc] 28)).drewN nq).setCell ⟨m, 8, none⟩ (.int .i64 ((s.steps : Int) + 1))) ρ m most { s with steps := s.steps + 1 } q w.heap.size e (.slice na nn nc) (.slice da dn dc) (.slice ka e.kids.length kc)) := fun nq => Ev.of h nq
 clear h hx he hk hkids hnames hconst hkn
 unfold RnPost
 go_enter Tryz.func69, Tryz.ntmps69
 go_wp2_with fail
 go_quiet (fail)
 go_upto_region 18 with fail
 have hV := HW.out nq
 generalize hWW : ((w.alloc (.cells #[.int .i64 e.kind, .string e.name, .slice na nn nc, .int .i64 e.const.kind, .int .i64 e.const.int, .string e.const.text, .slice da dn dc, .slice ka e.kids.length kc] 28)).drewN nq).setCell ⟨m, 8, none⟩ (.int .i64 ((s.steps : Int) + 1)) = W at hV ⊢
 clear hWW HW c8 c9 f8 g8 gw
 obtain ⟨E, hE⟩ : ∃ E, E = w.heap.size := ⟨_, rfl⟩
 rw [← hE] at hV ⊢
 replace hE := hid hE
 have hm := hV.o.lt
 have hEl : E < W.heap.size := (Array.getElem?_eq_some_iff.1 hV.blk).1
 have x0 := cell_of_row W E 0 _ _ _ hV.blk
 have x1 := cell_of_row W E 1 _ _ _ hV.blk
 have x2 := cell_of_row W E 2 _ _ _ hV.blk
 have x3 := cell_of_row W E 3 _ _ _ hV.blk
 have x4 := cell_of_row W E 4 _ _ _ hV.blk
 have x5 := cell_of_row W E 5 _ _ _ hV.blk
 have x6 := cell_of_row W E 6 _ _ _ hV.blk
 have x7 := cell_of_row W E 7 _ _ _ hV.blk
 simp only [List.getElem?_toArray, List.getElem?_cons_zero, List.getElem?_cons_succ] at x0 x1 x2 x3 x4 x5 x6 x7
 have HV := hid hV
 have HE := hid (HEV.out.mv hV.mv)
 clear hV
 obtain ⟨n, hn⟩ : ∃ n, e.kids.length = n + 1 := ⟨e.kids.length - 1, by have := List.length_pos_iff.2 hne; omega⟩
 obtain ⟨x, hx0⟩ : ∃ x, e.kids[n]? = some x := ⟨_, List.getElem?_eq_getElem (by omega)⟩
 obtain ⟨_, kb, koff, rfl, hkb, knv, kdl, kkv, hkc⟩ := HKI.out.at hx0
 obtain ⟨⟨c0, c1, c2, c3, c4, c5, c6, c7, _⟩, hkl2⟩ := HV.out.o.exc hkc hkb
 have HKE := hid hkc.ex
 have HLN := hid hn
 have hnl : n < 400000 := by omega
 have g0 : (0 : Int) ≤ n := by omega
 have g1 : (n : Int) < (e.kids.length : Int) := by omega
 have g2 : IntKind.i64.wrap ((e.kids.length : Int) - 1) = (n : Int) := by rw [IntKind.wrap_i64]; omega
 have g3 : IntKind.i64.wrap ((e.kids.length : Int) - 2) = (n : Int) - 1 := by rw [IntKind.wrap_i64]; omega
 have htl1 : (({ s with steps := s.steps + 1 } : St)).todo.length ≤ 10000000 := by show s.todo.length ≤ _; omega
 have HSQ0 : Hid (seqT env (e.kids.drop n) = [eT x env]) := by
  unfold Hid
  rw [List.drop_eq_getElem_cons (by omega : n < e.kids.length), List.drop_of_length_le (by omega)]
  rw [List.getElem?_eq_getElem (by omega)] at hx0
  injection hx0 with hx0
  rw [hx0]
  rfl
 clear hkc hn hx0
 go_wp2_with fail
 with_reducible refine (push_v HV.out.o 0 0 x env knv kdl kkv _ HKE.out HE.out htl1).mono ?_
 rintro e1 w1 ⟨rfl, ρ1, q1, o1, m1⟩
 have HO1 := hid o1
 have HM1 := hid (HV.out.mv.trans m1)
 have HA : Hid (At w0 W ρ m most E (({ s with steps := s.steps + 1 } : St).push (seqT env (e.kids.drop n))) w1 ρ1 q1) := by
  refine ⟨?_, m1⟩
  rw [HSQ0.out]
  exact o1
 clear o1 m1 c0 c1 c2 c3 c4 c5 c6 c7 x0 x1 x2 x3 x4 x5 x6 x7
 go_wp2_with fail
 go_loopg [9] n (fun g i wr => ∃ j : Nat, j ≤ n ∧ j = g ∧ i = .int .i64 ((j : Int) - 1) ∧ ∃ ρj qj, At w0 W ρ m most E (({ s with steps := s.steps + 1 } : St).push (seqT env (e.kids.drop j))) wr ρj qj)
 case atStart => exact ⟨n, Nat.le_refl _, rfl, rfl, ρ1, q1, HA.out⟩
 case round =>
  obtain ⟨j, hj, rfl, rfl, ρj, qj, hA⟩ := hrel
  clear HA
  cases j with
  | zero =>
   have HP := hid hA
   have g1 : ((0 : Nat) : Int) - 1 < 0 := by decide
   clear hA
   go_wp2_with fail
   go_end0
   exact ⟨rfl, ρj, qj, HP.out.o, HV.out.mv.trans HP.out.mv⟩
  | succ k =>
   rw [show ((k + 1 : Nat) : Int) - 1 = (k : Int) by omega]
   have hlen := HLN.out
   obtain ⟨y, hy⟩ : ∃ y, e.kids[k]? = some y := ⟨_, List.getElem?_eq_getElem (by omega)⟩
   obtain ⟨_, kb', koff', hkb', hkbl, ynv, ydl, ykv, hyc⟩ := HKI.out.at hy
   obtain ⟨rfl, rfl⟩ : kb = kb' ∧ koff = koff' := by cases hkb'; exact ⟨rfl, rfl⟩
   have HP := hid hA
   have HYC := hid hyc
   have HSQ : Hid (((({ s with steps := s.steps + 1 } : St).push (seqT env (e.kids.drop (k + 1)))).push [zT 1 0]).push [⟨0, y, env, 0⟩] = ({ s with steps := s.steps + 1 } : St).push (seqT env (e.kids.drop k))) := by
    unfold Hid
    have hkl : k < e.kids.length := by omega
    have hkl1 : k + 1 < e.kids.length := by omega
    have e1 : e.kids.drop k = y :: e.kids.drop (k + 1) := by
     rw [List.drop_eq_getElem_cons hkl]
     rw [List.getElem?_eq_getElem hkl] at hy
     injection hy with hy
     rw [hy]
    rw [push_push, push_push, e1, List.drop_eq_getElem_cons hkl1]
    rfl
   have hsl : ∀ l : List Ex, (seqT env l).length ≤ 2 * l.length := by
    intro l
    induction l with
    | nil => simp [seqT]
    | cons a l ih =>
     cases l with
     | nil => simp [seqT]
     | cons b l =>
      have e2 : seqT env (a :: b :: l) = eT a env :: zT 1 0 :: seqT env (b :: l) := rfl
      rw [e2]
      simp at ih ⊢
      omega
   have HT1 : Hid ((({ s with steps := s.steps + 1 } : St).push (seqT env (e.kids.drop (k + 1)))).todo.length ≤ 2000000) := by
    have := hsl (e.kids.drop (k + 1))
    rw [List.length_drop] at this
    unfold Hid
    simp [St.push]
    omega
   have htq1 : ((({ s with steps := s.steps + 1 } : St).push (seqT env (e.kids.drop (k + 1)))).todo.length ≤ 10000000) := by have := HT1.out; omega
   have htq2 : (((({ s with steps := s.steps + 1 } : St).push (seqT env (e.kids.drop (k + 1)))).push [zT 1 0]).todo.length ≤ 10000000) := by
    have := HT1.out
    have e : ∀ (u : St) (a : Todo), (u.push [a]).todo.length = u.todo.length + 1 := fun u a => by simp [St.push]
    rw [e]
    omega
   have g0 : (0 : Int) ≤ (k : Int) := by omega
   have g1 : (k : Int) < (e.kids.length : Int) := by omega
   have g3 : IntKind.i64.wrap ((k : Int) - 1) = (k : Int) - 1 := by rw [IntKind.wrap_i64]; omega
   clear hA hyc hy hkb' hlen hsl
   go_wp2_with fail
   with_reducible refine (push_z HP.out.o 1 0 htq1).mono ?_
   rintro e2 w2 ⟨rfl, ρ2, q2, o2, m2⟩
   have HA2 := hid (HP.out.step o2 m2)
   have HE2 := hid ((HE.out.mv HP.out.mv).mv m2)
   have hEb := HA2.out.blk HV.out.blk HV.out.z
   have x7 := cell_of_row w2 E 7 _ _ _ hEb
   simp only [List.getElem?_toArray, List.getElem?_cons_zero, List.getElem?_cons_succ] at x7
   have hE2 : E < w2.heap.size := (Array.getElem?_eq_some_iff.1 hEb).1
   obtain ⟨⟨c0, c1, c2, c3, c4, c5, c6, c7, _⟩, hb⟩ := o2.exc HYC.out hkbl
   have HYE := hid HYC.out.ex
   clear o2 m2 hEb
   go_wp2_with fail
   with_reducible refine (push_v HA2.out.o 0 0 y env ynv ydl ykv _ HYE.out HE2.out htq2).mono ?_
   rintro e3 w3 ⟨rfl, ρ3, q3, o3, m3⟩
   rw [HSQ.out] at o3
   have HA3 := hid (HA2.out.step o3 m3)
   clear o3 m3 c0 c1 c2 c3 c4 c5 c6 c7 x7
   go_wp2_with fail
   go_roundg k
   case measure => omega
   case rel => exact ⟨k, by omega, rfl, by go_num, ρ3, q3, HA3.out⟩
end
section
variable {w0 w w' W wr : World} {ρ ρ' ρj : Nat → Nat} {m most : Nat} {s s' t : St} {q q' qj : Wh}
set_option maxHeartbeats 16000000 in
set_option maxRecDepth 100000 in
theorem eval_let (h : RnO w0 w ρ m most s q) (e : Ex) (env : Env) (nv dl kv ev : Value) (hx : ExAt w0 (exV e.kind e.name nv e.const dl kv) e) (he : RowR w ρ 6 125 2 env.length ev (envC env)) (hs : s.steps < most) (hmost : most ≤ 1000000) (hk : e.kind = 8)
  (hne : e.kids ≠ []) (hkl : e.kids.length ≤ 1000000) (htl : s.todo.length ≤ 900000) :
  Calls Tryz.prog 69 #[.pointer (some ⟨m, 0, none⟩), .agg #[.int .i64 e.kind, .string e.name, nv, .int .i64 e.const.kind, .int .i64 e.const.int, .string e.const.text, dl, kv], ev] w (RnPost w0 ρ m most (({ s with steps := s.steps + 1 } : St).push (e.kids.dropLast.map (eT · env) ++ [⟨6, e, env, 0⟩])) w) := by
 obtain ⟨ea, ec, rfl⟩ := he.slice
 obtain ⟨⟨na, nn, nc, rfl⟩, ⟨da, dn, dc, rfl⟩, ⟨ka, kn, kc, rfl⟩⟩ := ExAt.slices hx
 obtain ⟨hkids, hnames, hconst⟩ := ExAt.kids hx
 obtain ⟨_, _, hkn, _, _⟩ := id hkids
 obtain rfl : kn = e.kids.length := by cases hkn; rfl
 have hm := h.lt
 have c8 : w.cell? ⟨m, 8, none⟩ = some (.int .i64 s.steps) := h.cell 8
 have c9 : w.cell? ⟨m, 9, none⟩ = some (.int .i64 most) := h.cell 9
 have f8 := h.fz 8
 have g8 : ((s.steps : Int) == (most : Int)) = false := beq_eq_false_iff_ne.2 (by omega)
 have gw : IntKind.i64.wrap ((s.steps : Int) + 1) = (s.steps : Int) + 1 := by rw [IntKind.wrap_i64]; omega
 have k0 : (e.kind == 0) = false := by rw [hk]; rfl
 have k1 : (e.kind == 1) = false := by rw [hk]; rfl
 have k2 : (e.kind == 2) = false := by rw [hk]; rfl
 have k3 : (e.kind == 3) = false := by rw [hk]; rfl
 have k4 : (e.kind == 4) = false := by rw [hk]; rfl
 have k5 : (e.kind == 5) = false := by rw [hk]; rfl
 have k6 : (e.kind == 6) = false := by rw [hk]; rfl
 have k7 : (e.kind == 7) = false := by rw [hk]; rfl
 have k8 : (e.kind == 8) = true := by rw [hk]; rfl
 have HX := hid hx
 have HEV := hid he
 have HKI := hid hkids
 have HCO := hid hconst
 have HW : Hid (∀ nq, Ev w0 w (((w.alloc (.cells #[.int .i64 e.kind, .string e.name, .slice na nn nc, .int .i64 e.const.kind, .int .i64 e.const.int, .string e.const.text, .slice da dn dc, .slice ka e.kids.length kc] 28)).drewN nq).setCell ⟨m, 8, none⟩ (.int .i64 ((s.steps : Int) + 1))) ρ m most { s with steps := s.steps + 1 } q w.heap.size e (.slice na nn nc) (.slice da dn dc) (.slice ka e.kids.length kc)) := fun nq => Ev.of h nq
 clear h hx he hk hkids hnames hconst hkn
 unfold RnPost
 go_enter Tryz.func69, Tryz.ntmps69
 go_wp2_with fail
 go_quiet (fail)
 go_upto_region 33 with fail
 have hV := HW.out nq
 generalize hWW : ((w.alloc (.cells #[.int .i64 e.kind, .string e.name, .slice na nn nc, .int .i64 e.const.kind, .int .i64 e.const.int, .string e.const.text, .slice da dn dc, .slice ka e.kids.length kc] 28)).drewN nq).setCell ⟨m, 8, none⟩ (.int .i64 ((s.steps : Int) + 1)) = W at hV ⊢
 clear hWW HW c8 c9 f8 g8 gw
 obtain ⟨E, hE⟩ : ∃ E, E = w.heap.size := ⟨_, rfl⟩
 rw [← hE] at hV ⊢
 replace hE := hid hE
 have hm := hV.o.lt
 have hEl : E < W.heap.size := (Array.getElem?_eq_some_iff.1 hV.blk).1
 have x0 := cell_of_row W E 0 _ _ _ hV.blk
 have x1 := cell_of_row W E 1 _ _ _ hV.blk
 have x2 := cell_of_row W E 2 _ _ _ hV.blk
 have x3 := cell_of_row W E 3 _ _ _ hV.blk
 have x4 := cell_of_row W E 4 _ _ _ hV.blk
 have x5 := cell_of_row W E 5 _ _ _ hV.blk
 have x6 := cell_of_row W E 6 _ _ _ hV.blk
 have x7 := cell_of_row W E 7 _ _ _ hV.blk
 simp only [List.getElem?_toArray, List.getElem?_cons_zero, List.getElem?_cons_succ] at x0 x1 x2 x3 x4 x5 x6 x7
 have HV := hid hV
 have HE := hid (HEV.out.mv hV.mv)
 clear hV
 obtain ⟨n, hn⟩ : ∃ n, e.kids.length = n + 1 := ⟨e.kids.length - 1, by have := List.length_pos_iff.2 hne; omega⟩
 have hKI2 := HKI.out.take n (by omega)
 have hdl : e.kids.dropLast = e.kids.take n := by rw [List.dropLast_eq_take, hn]; rfl
 have HDL := hid hdl
 have HKT := hid hKI2
 have hcap : e.kids.length ≤ kc := HKI.out.cap
 have g2 : IntKind.i64.wrap ((e.kids.length : Int) - 1) = (n : Int) := by rw [IntKind.wrap_i64]; omega
 have g4 : (0 : Int) ≤ (n : Int) := by omega
 have g5 : (n : Int) ≤ kc := by omega
 have htl1 : (({ s with steps := s.steps + 1 } : St)).todo.length ≤ 10000000 := by show s.todo.length ≤ _; omega
 have hnl : (e.kids.take n).length ≤ 1000000 := by rw [List.length_take]; omega
 have htl2 : ((({ s with steps := s.steps + 1 } : St)).push [⟨6, e, env, 0⟩]).todo.length ≤ 1000000 := by simp [St.push]; omega
 clear hn hdl hKI2
 go_wp2_with fail
 with_reducible refine (push_v HV.out.o 6 0 e env _ _ _ _ HX.out HE.out htl1).mono ?_
 rintro e1 w1 ⟨rfl, ρ1, q1, o1, m1⟩
 have HO1 := hid o1
 have HM1 := hid (HV.out.mv.trans m1)
 have HE1 := hid (HE.out.mv m1)
 have hb1 := (m1.keep E hEl (.inl HV.out.z)).1.trans HV.out.blk
 have y0 := cell_of_row w1 E 0 _ _ _ hb1
 have y1 := cell_of_row w1 E 1 _ _ _ hb1
 have y2 := cell_of_row w1 E 2 _ _ _ hb1
 have y3 := cell_of_row w1 E 3 _ _ _ hb1
 have y4 := cell_of_row w1 E 4 _ _ _ hb1
 have y5 := cell_of_row w1 E 5 _ _ _ hb1
 have y6 := cell_of_row w1 E 6 _ _ _ hb1
 have y7 := cell_of_row w1 E 7 _ _ _ hb1
 simp only [List.getElem?_toArray, List.getElem?_cons_zero, List.getElem?_cons_succ] at y0 y1 y2 y3 y4 y5 y6 y7
 have hE1 : E < w1.heap.size := (Array.getElem?_eq_some_iff.1 hb1).1
 have hm1 := o1.lt
 clear o1 m1 hb1 x0 x1 x2 x3 x4 x5 x6 x7
 go_wp2_with fail
 with_reducible refine (all_any HO1.out (e.kids.take n) env _ _ HKT.out HE1.out hnl htl2).mono ?_
 rintro e2 w2 ⟨rfl, ρ2, q2, o2, m2⟩
 have HO2 := hid o2
 have HM2 := hid (HM1.out.trans m2)
 clear o2 m2
 go_wp2_with fail
 go_end0
 exact ⟨rfl, ρ2, q2, by have h := HO2.out; rw [push_push, ← HDL.out] at h; exact h, HM2.out⟩
end
section
variable {w0 w w' W wr : World} {ρ ρ' ρj : Nat → Nat} {m most : Nat} {s s' t : St} {q q' qj : Wh}
theorem ref_cells {t t' : St} {E g gc k : Nat} {e : Ex} {nv dl kv : Value} {v : Hp.V} {w2 : World} {ρ2 : Nat → Nat} {q2 : Wh} (HV : Ev w0 w W ρ m most t q E e nv dl kv) (m2 : Mv W.drew ρ w2 ρ2) (o2 : RnO w0 w2 ρ2 m most t' q2) (cv2 : q2.cv = q.cv) (hcv : q.cv = .slice (some ⟨g, 0, none⟩) t.cells.length gc) (hv : t.cells[k]? = some v) (hc : t'.cells = t.cells := by rfl) :
  w2.cell? ⟨m, 1, none⟩ = some (.slice (some ⟨g, 0, none⟩) t.cells.length gc) ∧ w2.cell? ⟨E, 1, none⟩ = some (.string e.name) ∧ w2.cell? ⟨g, k * 3, none⟩ = some (.int .i64 v.kind) ∧ w2.cell? ⟨g, k * 3 + 1, none⟩ = some (.int .i64 v.int) ∧ w2.cell? ⟨g, k * 3 + 2, none⟩ = some (.string v.text) := by
 have hb := (m2.keep E (Array.getElem?_eq_some_iff.1 HV.blk).1 (.inl HV.z)).1.trans HV.blk
 have h1 := cell_of_row w2 E 1 _ _ _ hb
 simp only [List.getElem?_toArray, List.getElem?_cons_zero, List.getElem?_cons_succ] at h1
 have hkl : k < t.cells.length := (List.getElem?_eq_some_iff.1 hv).1
 have hrow := o2.c.cells.1
 rw [cv2, hcv, hc] at hrow
 obtain ⟨f0, f1, f2⟩ := Hp.flatV_at t.cells k v hv
 refine ⟨?_, h1, ?_, ?_, ?_⟩
 ·rw [o2.cell 1]
  show some q2.cv = _
  rw [cv2, hcv]
 ·rw [hrow.cellAt (k * 3) (by omega)]; exact f0
 ·rw [hrow.cellAt (k * 3 + 1) (by omega)]; exact f1
 ·rw [hrow.cellAt (k * 3 + 2) (by omega)]; exact f2
set_option maxHeartbeats 16000000 in
set_option maxRecDepth 100000 in
theorem eval_ref (h : RnO w0 w ρ m most s q) (e : Ex) (env : Env) (nv dl kv ev : Value) (hx : ExAt w0 (exV e.kind e.name nv e.const dl kv) e) (he : RowR w ρ 6 125 2 env.length ev (envC env)) (hs : s.steps < most) (hmost : most ≤ 1000000) (hk : e.kind = 1)
  (v : Hp.V) (hc0 : 0 ≤ cellF env e.name) (hv : s.cells[(cellF env e.name).toNat]? = some v) (hel : env.length ≤ 1000000) (hvl : s.vals.length ≤ 1000000) :
  Calls Tryz.prog 69 #[.pointer (some ⟨m, 0, none⟩), .agg #[.int .i64 e.kind, .string e.name, nv, .int .i64 e.const.kind, .int .i64 e.const.int, .string e.const.text, dl, kv], ev] w (RnPost w0 ρ m most (({ s with steps := s.steps + 1 } : St).tell v) w) := by
 obtain ⟨ea, ec, rfl⟩ := he.slice
 obtain ⟨⟨na, nn, nc, rfl⟩, ⟨da, dn, dc, rfl⟩, ⟨ka, kn, kc, rfl⟩⟩ := ExAt.slices hx
 obtain ⟨hkids, hnames, hconst⟩ := ExAt.kids hx
 obtain ⟨_, _, hkn, _, _⟩ := id hkids
 obtain rfl : kn = e.kids.length := by cases hkn; rfl
 have hm := h.lt
 have c8 : w.cell? ⟨m, 8, none⟩ = some (.int .i64 s.steps) := h.cell 8
 have c9 : w.cell? ⟨m, 9, none⟩ = some (.int .i64 most) := h.cell 9
 have f8 := h.fz 8
 have g8 : ((s.steps : Int) == (most : Int)) = false := beq_eq_false_iff_ne.2 (by omega)
 have gw : IntKind.i64.wrap ((s.steps : Int) + 1) = (s.steps : Int) + 1 := by rw [IntKind.wrap_i64]; omega
 have k0 : (e.kind == 0) = false := by rw [hk]; rfl
 have k1 : (e.kind == 1) = true := by rw [hk]; rfl
 have HX := hid hx
 have HEV := hid he
 have HKI := hid hkids
 have HCO := hid hconst
 have HW : Hid (∀ nq, Ev w0 w (((w.alloc (.cells #[.int .i64 e.kind, .string e.name, .slice na nn nc, .int .i64 e.const.kind, .int .i64 e.const.int, .string e.const.text, .slice da dn dc, .slice ka e.kids.length kc] 28)).drewN nq).setCell ⟨m, 8, none⟩ (.int .i64 ((s.steps : Int) + 1))) ρ m most { s with steps := s.steps + 1 } q w.heap.size e (.slice na nn nc) (.slice da dn dc) (.slice ka e.kids.length kc)) := fun nq => Ev.of h nq
 clear h hx he hk hkids hnames hconst hkn
 unfold RnPost
 go_enter Tryz.func69, Tryz.ntmps69
 go_wp2_with fail
 go_quiet (fail)
 go_upto_region 10 with fail
 have hV := HW.out nq
 generalize hWW : ((w.alloc (.cells #[.int .i64 e.kind, .string e.name, .slice na nn nc, .int .i64 e.const.kind, .int .i64 e.const.int, .string e.const.text, .slice da dn dc, .slice ka e.kids.length kc] 28)).drewN nq).setCell ⟨m, 8, none⟩ (.int .i64 ((s.steps : Int) + 1)) = W at hV ⊢
 clear hWW HW c8 c9 f8 g8 gw
 obtain ⟨E, hE⟩ : ∃ E, E = w.heap.size := ⟨_, rfl⟩
 rw [← hE] at hV ⊢
 replace hE := hid hE
 have hm := hV.o.lt
 have hEl : E < W.heap.size := (Array.getElem?_eq_some_iff.1 hV.blk).1
 have x0 := cell_of_row W E 0 _ _ _ hV.blk
 have x1 := cell_of_row W E 1 _ _ _ hV.blk
 have x2 := cell_of_row W E 2 _ _ _ hV.blk
 have x3 := cell_of_row W E 3 _ _ _ hV.blk
 have x4 := cell_of_row W E 4 _ _ _ hV.blk
 have x5 := cell_of_row W E 5 _ _ _ hV.blk
 have x6 := cell_of_row W E 6 _ _ _ hV.blk
 have x7 := cell_of_row W E 7 _ _ _ hV.blk
 simp only [List.getElem?_toArray, List.getElem?_cons_zero, List.getElem?_cons_succ] at x0 x1 x2 x3 x4 x5 x6 x7
 have HV := hid hV
 have HE := hid (HEV.out.mv hV.mv)
 clear hV
 obtain ⟨k, hk⟩ : ∃ k : Nat, cellF env e.name = k := ⟨(cellF env e.name).toNat, by omega⟩
 rw [hk] at hv
 have hv2 : s.cells[k]? = some v := by simpa using hv
 have hkl : k < s.cells.length := (List.getElem?_eq_some_iff.1 hv2).1
 have hrow := HV.out.o.c.cells
 obtain ⟨ga, gc, hcv⟩ := hrow.slice
 rw [hcv] at hrow
 have hcv' : q.cv = .slice ga s.cells.length gc := hcv
 obtain ⟨g, rfl, hgl, d0, d1, d2⟩ : ∃ g, ga = some ⟨g, 0, none⟩ ∧ g < W.heap.size ∧ W.cell? ⟨g, k * 3, none⟩ = some (.int .i64 v.kind) ∧ W.cell? ⟨g, k * 3 + 1, none⟩ = some (.int .i64 v.int) ∧ W.cell? ⟨g, k * 3 + 2, none⟩ = some (.string v.text) := by
  have hrow2 : W.ownsRow 0 78 3 (.slice ga s.cells.length gc) s.cells.length (Hp.flatV s.cells) := hrow.1
  rcases own_shape hrow2 with ⟨_, e2, _⟩ | ⟨g, c', e, h0, h1, h2, h3⟩
  ·omega
  ·cases e
   obtain ⟨f0, f1, f2⟩ := Hp.flatV_at s.cells k v hv2
   exact ⟨g, rfl, h1, by rw [hrow2.cellAt (k * 3) (by omega)]; exact f0, by rw [hrow2.cellAt (k * 3 + 1) (by omega)]; exact f1, by rw [hrow2.cellAt (k * 3 + 2) (by omega)]; exact f2⟩
 have c1 : W.cell? ⟨m, 1, none⟩ = some (.slice (some ⟨g, 0, none⟩) s.cells.length gc) := by
  have := HV.out.o.cell 1
  rw [this]
  show some q.cv = _
  rw [hcv']
 have HCA : Hid (∀ W', W'.ownsRow 0 125 2 (.slice ea env.length ec) env.length (envC env) → Calls Tryz.prog 91 #[.slice ea env.length ec, .string e.name] W' fun e w' => e = .returned (.int .i64 (k : Int)) ∧ W' = w') := fun W' hw => by
  have := cell_any env _ e.name W' hw (by omega)
  rw [hk] at this
  exact this
 have HED : Hid (W.drew.ownsRow 0 125 2 (.slice ea env.length ec) env.length (envC env)) := own_drewN HE.out.own 1
 have HS1 : Hid (W.drew.cell? ⟨m, 1, none⟩ = some (.slice (some ⟨g, 0, none⟩) s.cells.length gc) ∧ W.drew.cell? ⟨E, 1, none⟩ = some (.string e.name) ∧ W.drew.cell? ⟨g, k * 3, none⟩ = some (.int .i64 v.kind) ∧ W.drew.cell? ⟨g, k * 3 + 1, none⟩ = some (.int .i64 v.int) ∧ W.drew.cell? ⟨g, k * 3 + 2, none⟩ = some (.string v.text)) := ⟨c1, x1, d0, d1, d2⟩
 have HOD := hid (HV.out.o.bel (Below.refl W.heap.size W).drew)
 have HMD := hid (HV.out.mv.bel (Below.refl W.heap.size W).drew)
 have g1 : (0 : Int) ≤ (k : Int) := by omega
 have g2 : (k : Int) < s.cells.length := by omega
 have hvl1 : (({ s with steps := s.steps + 1 } : St)).vals.length ≤ 10000000 := by show s.vals.length ≤ _; omega
 have HCV := hid hcv'
 have HV2 := hid hv2
 clear hrow hcv hcv' hv hv2 hk
 go_region_held3 (fun w' => w'.cell? ⟨m, 1, none⟩ = some (.slice (some ⟨g, 0, none⟩) s.cells.length gc) ∧ w'.cell? ⟨E, 1, none⟩ = some (.string e.name) ∧ w'.cell? ⟨g, k * 3, none⟩ = some (.int .i64 v.kind) ∧ w'.cell? ⟨g, k * 3 + 1, none⟩ = some (.int .i64 v.int) ∧ w'.cell? ⟨g, k * 3 + 2, none⟩ = some (.string v.text))
  (first | with_reducible exact HS1.out | with_reducible exact HS2.out)
  (first
   | (go_at_call 91; (with_reducible refine (HCA.out _ HED.out).mono ?_); rintro e0 w0' ⟨rfl, rfl⟩)
   | (go_at_call 71; (with_reducible refine (tellc_any HOD.out v hvl1).mono ?_); rintro e2 w2 ⟨rfl, ρ2, q2, o2, m2, cv2⟩; have HO2 := hid o2; have HM2 := hid (HMD.out.trans m2); have HS2 := hid (ref_cells HV.out m2 o2 cv2 HCV.out HV2.out); clear o2 m2 cv2))
 all_goals
  go_wp2_with fail
  go_end0
  exact ⟨rfl, ρ2, q2, HO2.out, HM2.out⟩
end
section
variable {w0 w w' W wr : World} {ρ ρ' ρj : Nat → Nat} {m most : Nat} {s s' t : St} {q q' qj : Wh}
structure Sm (s : St) : Prop where
 T : s.T.length ≤ 100000
 cells : s.cells.length ≤ 100000
 procs : s.procs.length ≤ 100000
 out : s.out.length ≤ 100000
 todo : s.todo.length ≤ 100000
 vals : s.vals.length ≤ 100000
 text : ∀ v ∈ s.vals, v.text.size ≤ maxLen
theorem sm_of (h : fits s = true) : Sm s := by
 unfold fits at h
 simp only [Bool.and_eq_true, decide_eq_true_eq, List.all_eq_true] at h
 obtain ⟨⟨⟨⟨⟨⟨h1, h2⟩, h3⟩, h4⟩, h5⟩, h6⟩, h7⟩ := h
 exact ⟨h1, h2, h3, h4, h5, h6, h7⟩
theorem eval_any (h : RnO w0 w ρ m most s q) (e : Ex) (env : Env) (nv dl kv ev : Value) (hx : ExAt w0 (exV e.kind e.name nv e.const dl kv) e) (he : RowR w ρ 6 125 2 env.length ev (envC env)) (hmost : most ≤ 1000000) (hsm : s.steps ≤ most)
  (H : Sm s) (hel : env.length ≤ 1000000) (hnl : e.names.length ≤ 100000) (hkl : e.kids.length ≤ 100000) (hr : eval most s e env = some s') :
  Calls Tryz.prog 69 #[.pointer (some ⟨m, 0, none⟩), .agg #[.int .i64 e.kind, .string e.name, nv, .int .i64 e.const.kind, .int .i64 e.const.int, .string e.const.text, dl, kv], ev] w (RnPost w0 ρ m most s' w) := by
 have H1 := H.T
 have H2 := H.cells
 have H3 := H.procs
 have H5 := H.todo
 have H6 := H.vals
 unfold eval at hr
 by_cases hs : s.steps = most
 ·rw [if_pos hs] at hr
  cases hr
  exact eval_stop h e nv dl kv ev hx (by obtain ⟨a, c, e⟩ := he.slice; exact ⟨_, _, _, e⟩) hs
 rw [if_neg hs] at hr
 have hlt : s.steps < most := by omega
 dsimp only at hr
 by_cases hk : e.kind = 0
 ·rw [if_pos hk] at hr
  by_cases hc : e.const.list = [] ∧ e.const.text.size ≤ maxLen
  ·rw [if_pos hc] at hr
   cases hr
   exact eval_quote h e env nv dl kv ev hx he hlt hmost hk (by omega) hc.1 hc.2
  ·rw [if_neg hc] at hr
   cases hr
 rw [if_neg hk] at hr
 clear hk
 by_cases hk : e.kind = 1
 ·rw [if_pos hk] at hr
  by_cases hc : cellF env e.name < 0
  ·rw [if_pos hc] at hr
   cases hr
  ·rw [if_neg hc] at hr
   obtain ⟨v, hv, hr⟩ := Option.map_eq_some_iff.1 hr
   subst hr
   exact eval_ref h e env nv dl kv ev hx he hlt hmost hk v (by omega) hv (by omega) (by omega)
 rw [if_neg hk] at hr
 clear hk
 by_cases hk : e.kind = 2
 ·rw [if_pos hk] at hr
  obtain ⟨k, h0, hr⟩ := Option.map_eq_some_iff.1 hr
  subst hr
  exact eval_set h e env nv dl kv ev hx he hlt hmost hk k h0 hel (by omega)
 rw [if_neg hk] at hr
 clear hk
 by_cases hk : e.kind = 3
 ·rw [if_pos hk] at hr
  cases hr
 rw [if_neg hk] at hr
 clear hk
 by_cases hk : e.kind = 4
 ·rw [if_pos hk] at hr
  by_cases hne : e.kids = []
  ·rw [if_pos hne] at hr
   cases hr
  ·rw [if_neg hne] at hr
   cases hr
   exact eval_seq h e env nv dl kv ev hx he hlt hmost hk hne (by omega) (by omega)
 rw [if_neg hk] at hr
 clear hk
 by_cases hk : e.kind = 5
 ·rw [if_pos hk] at hr
  cases hr
  exact eval_lam h e env nv dl kv ev hx he hlt hmost hk (by omega) (by omega) (by omega)
 rw [if_neg hk] at hr
 clear hk
 by_cases hk : e.kind = 6
 ·rw [if_pos hk] at hr
  cases hr
  exact eval_call h e env nv dl kv ev hx he hlt hmost hk (by omega) (by omega)
 rw [if_neg hk] at hr
 clear hk
 by_cases hk : e.kind = 7
 ·rw [if_pos hk] at hr
  cases hr
  exact eval_prim h e env nv dl kv ev hx he hlt hmost hk (by omega) (by omega)
 rw [if_neg hk] at hr
 clear hk
 by_cases hk : e.kind = 8
 ·rw [if_pos hk] at hr
  by_cases hne : e.kids = []
  ·rw [if_pos hne] at hr
   cases hr
  ·rw [if_neg hne] at hr
   cases hr
   exact eval_let h e env nv dl kv ev hx he hlt hmost hk hne (by omega) (by omega)
 rw [if_neg hk] at hr
 clear hk
 by_cases hk : e.kind = 9
 ·rw [if_pos hk] at hr
  cases hr
 rw [if_neg hk] at hr
 clear hk
 by_cases hk : e.kind = 10
 ·rw [if_pos hk] at hr
  cases hr
 rw [if_neg hk] at hr
 clear hk
 cases hr
end
section
variable {w0 w w' W wr : World} {ρ ρ' ρj : Nat → Nat} {m most : Nat} {s s' t : St} {q q' qj : Wh}
structure Nx (w0 w W : World) (ρ : Nat → Nat) (m most : Nat) (s : St) (q : Wh) (E : Nat) (x : TM) : Prop where
 o : RnO w0 W ρ m most s q
 mv : Mv w ρ W ρ
 blk : W.heap[E]? = some (.cells #[.int .i64 x.t.d, .int .i64 x.t.e.kind, .string x.t.e.name, x.nv, .int .i64 x.t.e.const.kind, .int .i64 x.t.e.const.int, .string x.t.e.const.text, x.dl, x.kv, x.ev, .int .i64 x.t.pos] 87 (0, 0))
 z : ρ E = 0
 ok : TMOk w0 W ρ x
theorem top_of (h : RnO w0 w ρ m most s q) {y : Todo} {l : List Todo} (ht : s.todo = y :: l) : ∃ MT x, q.MT = MT ++ [x] ∧ x.t = y ∧ (MT.map TM.t).reverse = l := by
 have h1 := h.c.mt
 rw [ht] at h1
 rcases List.eq_nil_or_concat q.MT with e | ⟨MT, x, e⟩
 ·rw [e] at h1
  simp at h1
 ·rw [List.concat_eq_append] at e
  rw [e] at h1
  simp at h1
  refine ⟨MT, x, e, h1.1, ?_⟩
  rw [← h1.2]
theorem tm_at {l : List TM} {w : World} {r : Nat} {a : Option Addr} {n c : Nat} (h : RowR w ρ r 87 11 n (.slice a n c) (tmC l)) (hn : n = l.length) {j : Nat} {y : TM} (hy : l[j]? = some y) :
  ∃ g, a = some ⟨g, 0, none⟩ ∧ g < w.heap.size ∧ n ≤ c ∧ ∀ i, i < 11 → w.cell? ⟨g, j * 11 + i, none⟩ = y.cells[i]? := by
 subst hn
 have hj : j < l.length := (List.getElem?_eq_some_iff.1 hy).1
 have h1 := h.1
 obtain ⟨hl, ⟨e, e2⟩ | ⟨g, cap, cur, e, _, e3, e4, _⟩⟩ := h1
 ·omega
 ·cases e
  refine ⟨g, rfl, (Array.getElem?_eq_some_iff.1 e3).1, e4, fun i hi => ?_⟩
  rw [h.1.cellAt (j * 11 + i) (by omega)]
  exact tmC_at l j y hy i hi
theorem Nx.of {MT : List TM} {x : TM} {a : Option Addr} {c : Nat} (h : RnO w0 w ρ m most s q) (hMT : q.MT = MT ++ [x]) (hq : q.tv = .slice a (MT.length + 1) c) :
  Nx w0 w ((w.setCell ⟨m, 10, none⟩ (.slice a MT.length c)).alloc (.cells #[.int .i64 x.t.d, .int .i64 x.t.e.kind, .string x.t.e.name, x.nv, .int .i64 x.t.e.const.kind, .int .i64 x.t.e.const.int, .string x.t.e.const.text, x.dl, x.kv, x.ev, .int .i64 x.t.pos] 87)) ρ m most { s with todo := (MT.map TM.t).reverse } { q with tv := .slice a MT.length c, MT := MT } w.heap.size x := by
 have hs : (w.setCell ⟨m, 10, none⟩ (.slice a MT.length c)).heap.size = w.heap.size := by simp [World.setCell]
 have hrow : RowR w ρ 7 87 11 MT.length (.slice a MT.length c) (tmC MT) := by
  have h1 := h.c.todo.1
  rw [hq, hMT, List.length_append] at h1
  have h2 := own_take h1 (k := MT.length) (by simp)
  rw [tmC_take] at h2
  refine ⟨h2, fun b e => h.c.todo.2 b ?_⟩
  rw [hq]
  cases a with
  | none => cases e
  | some ad => exact e
 have hxm : x ∈ q.MT := by rw [hMT]; simp
 have ho : RnO w0 (w.setCell ⟨m, 10, none⟩ (.slice a MT.length c)) ρ m most { s with todo := (MT.map TM.t).reverse } { q with tv := .slice a MT.length c, MT := MT } :=
  RnO.set2 (s := s) (q := q) (s' := { s with todo := (MT.map TM.t).reverse }) (q' := { q with tv := .slice a MT.length c, MT := MT }) h.blk ⟨h.c.heap, h.c.cells, h.c.procs, h.c.out, hrow, h.c.vals, h.c.mp, rfl, h.c.pok, fun y hy => h.c.tok y (by rw [hMT]; exact List.mem_append_left _ hy), h.c.me, h.c.lo, h.c.below⟩ 10 _ rfl
 have hb : Below (w.setCell ⟨m, 10, none⟩ (.slice a MT.length c)).heap.size (w.setCell ⟨m, 10, none⟩ (.slice a MT.length c)) ((w.setCell ⟨m, 10, none⟩ (.slice a MT.length c)).alloc (.cells #[.int .i64 x.t.d, .int .i64 x.t.e.kind, .string x.t.e.name, x.nv, .int .i64 x.t.e.const.kind, .int .i64 x.t.e.const.int, .string x.t.e.const.text, x.dl, x.kv, x.ev, .int .i64 x.t.pos] 87)) := (Below.refl _ _).alloc (Nat.le_refl _) _
 have hm := mv_m h 10 (.slice a MT.length c)
 refine ⟨ho.bel hb, hm.trans (mv_bel hb ρ), ?_, h.c.new (Nat.le_refl _), ((h.c.tok x hxm).mv hm).mv (mv_bel hb ρ)⟩
 rw [← hs]
 exact heap_alloc_new _ _
theorem pop_vr {B : Nat} {lv : Value} {l : List Hp.V} (hown : w.ownsRow B 78 3 lv l.length (Hp.flatV l)) (hr : ∀ b, lv.ownBlock = some b → ρ b = 0) : VR w ρ lv l := by
 refine ⟨?_, fun b e => ⟨(hown.lt b e).2, .inl (hr b e)⟩⟩
 rcases own_shape hown with ⟨e, e2, _⟩ | ⟨g, c, e, _⟩
 ·have : l = [] := List.length_eq_zero_iff.1 e2
  subst this
  exact ⟨none, 0, e, .inl ⟨rfl, rfl, rfl⟩⟩
 ·subst e
  exact ⟨_, c, rfl, .inr ⟨_, rfl, hown.cells rfl⟩⟩
theorem VR.rest {g n c : Nat} {l : List Hp.V} (h : VR w ρ (.slice (some ⟨g, 0, none⟩) n c) l) (hl : 1 ≤ l.length) (hc : ¬ c = 1) : VR w ρ (.slice (some ⟨g, 3, none⟩) (n - 1) (c - 1)) (l.drop 1) := by
 obtain ⟨⟨a, c', e, hs⟩, hr⟩ := h
 cases e
 rcases hs with ⟨h1, _, _⟩ | ⟨ad, e, hs⟩
 ·cases h1
 ·cases e
  refine ⟨⟨_, _, by rw [List.length_drop], .inr ⟨_, rfl, fun j u hu => ?_⟩⟩, fun b e => hr b e⟩
  have h3 : (Hp.flatV l)[3 + j]? = some u := by
   obtain ⟨v, l', rfl⟩ : ∃ v l', l = v :: l' := by cases l with | nil => simp at hl | cons v l' => exact ⟨v, l', rfl⟩
   have e : Hp.flatV (v :: l') = .int .i64 v.kind :: .int .i64 v.int :: .string v.text :: Hp.flatV l' := rfl
   rw [e, show 3 + j = j + 1 + 1 + 1 by omega]
   simpa using hu
  have := hs (3 + j) u h3
  rw [Go.WideShapes.add_plain] at this ⊢
  simpa using this
theorem VR.none0 {a : Addr} {c : Nat} (hb : a.block < w.heap.size) (h0 : ρ a.block = 0) : VR w ρ (.slice (some a) 0 c) [] :=
 ⟨⟨_, c, rfl, .inr ⟨a, rfl, fun j u hu => by simp [Hp.flatV] at hu⟩⟩, fun b e => by cases e; exact ⟨hb, .inl h0⟩⟩
theorem RnO.setV {g n cap : Nat} (h : RnO w0 w ρ m most s q) (hcv : q.cv = .slice (some ⟨g, 0, none⟩) n cap) (r : Nat) (hr : r < s.cells.length) (v : Hp.V) :
  RnO w0 (((w.setCell ⟨g, r * 3, none⟩ (.int .i64 v.kind)).setCell ⟨g, r * 3 + 1, none⟩ (.int .i64 v.int)).setCell ⟨g, r * 3 + 2, none⟩ (.string v.text)) ρ m most { s with cells := s.cells.set r v } q ∧
  Mv w ρ (((w.setCell ⟨g, r * 3, none⟩ (.int .i64 v.kind)).setCell ⟨g, r * 3 + 1, none⟩ (.int .i64 v.int)).setCell ⟨g, r * 3 + 2, none⟩ (.string v.text)) ρ := by
 have hrow := h.c.cells
 rw [hcv] at hrow
 have hg2 : ρ g = 2 := hrow.2 g rfl
 have hgl := h.c.lo g (by omega)
 have hn : n = s.cells.length := by
  rcases own_shape hrow.1 with ⟨e, _⟩ | ⟨g', c', e, _⟩ <;> cases e; rfl
 subst hn
 obtain ⟨p1, g1⟩ := hrow.1.stored (r * 3) (.int .i64 v.kind)
 obtain ⟨p2, g2⟩ := p1.stored (r * 3 + 1) (.int .i64 v.int)
 obtain ⟨p3, g3⟩ := p2.stored (r * 3 + 2) (.string v.text)
 rw [Hp.flatV_set _ r v hr] at p3
 have hsz : (((w.setCell ⟨g, r * 3, none⟩ (.int .i64 v.kind)).setCell ⟨g, r * 3 + 1, none⟩ (.int .i64 v.int)).setCell ⟨g, r * 3 + 2, none⟩ (.string v.text)).heap.size = w.heap.size := by simp [World.setCell]
 have hblk : ∀ b, b ≠ g → (((w.setCell ⟨g, r * 3, none⟩ (.int .i64 v.kind)).setCell ⟨g, r * 3 + 1, none⟩ (.int .i64 v.int)).setCell ⟨g, r * 3 + 2, none⟩ (.string v.text)).heap[b]? = w.heap[b]? := fun b hb => by
  rw [heap_setCell_other _ _ _ _ hb, heap_setCell_other _ _ _ _ hb, heap_setCell_other _ _ _ _ hb]
 have hK : ∀ r', r' ≠ 2 → ∀ b, b < w.heap.size → ρ b = r' → (((w.setCell ⟨g, r * 3, none⟩ (.int .i64 v.kind)).setCell ⟨g, r * 3 + 1, none⟩ (.int .i64 v.int)).setCell ⟨g, r * 3 + 2, none⟩ (.string v.text)).heap[b]? = w.heap[b]? ∧ ρ b = r' := fun r' hr b hb e => ⟨hblk b (fun e2 => by rw [e2] at e; omega), e⟩
 have hT : ∀ x, TMOk w0 w ρ x → TMOk w0 (((w.setCell ⟨g, r * 3, none⟩ (.int .i64 v.kind)).setCell ⟨g, r * 3 + 1, none⟩ (.int .i64 v.int)).setCell ⟨g, r * 3 + 2, none⟩ (.string v.text)) ρ x := fun x hx => ⟨hx.ex, hx.env.keep (hK 6 (by decide))⟩
 refine ⟨⟨⟨h.c.heap.keep (by rw [hsz]; exact Nat.le_refl _) fun b e => (hK 5 (by decide) b (h.c.heap.lt b e) e).1, ?_, h.c.procs.keep (hK 3 (by decide)), h.c.out.keep (hK 4 (by decide)), h.c.todo.keep (hK 7 (by decide)), h.c.vals.keep (hK 8 (by decide)), h.c.mp, h.c.mt, fun x hx => ?_, fun x hx => hT x (h.c.tok x hx), h.c.me, fun b e => by rw [hsz]; exact h.c.lo b e, ((h.c.below.setCell (p := ⟨g, r * 3, none⟩) hgl.1 _).setCell (p := ⟨g, r * 3 + 1, none⟩) hgl.1 _).setCell (p := ⟨g, r * 3 + 2, none⟩) hgl.1 _⟩, ?_⟩, ?_⟩
 ·rw [hcv]
  refine ⟨?_, fun b e => by cases e; exact hg2⟩
  rw [List.length_set]
  exact p3
 ·obtain ⟨k1, k2, ⟨M, k3, k4, k5⟩, k6⟩ := h.c.pok x hx
  exact ⟨k1, k2.keep (hK 6 (by decide)), ⟨M, k3.keep (hK 6 (by decide)), k4, fun y hy => hT y (k5 y hy)⟩, k6.keep (hK 6 (by decide))⟩
 ·exact (hblk m (fun e => by have := h.c.me; rw [e, hg2] at this; cases this)).trans h.blk
 ·exact ⟨by rw [hsz]; exact Nat.le_refl _, fun b hb hr => ⟨hblk b (fun e => by rw [e, hg2] at hr; omega), rfl⟩⟩
theorem pop1 (h : RnO w0 w ρ m most s q) {v : Hp.V} (hv : s.vals[0]? = some v) (hl : s.vals.length ≤ 10000000) :
  Calls Tryz.prog 70 #[.pointer (some ⟨m, 0, none⟩), .int .i64 1] w fun e w' =>
   ∃ pg pc, e = .returned (.slice (some ⟨pg, 0, none⟩) 1 pc) ∧ (pg < w'.heap.size ∧ w'.cell? ⟨pg, 0, none⟩ = some (.int .i64 v.kind) ∧ w'.cell? ⟨pg, 1, none⟩ = some (.int .i64 v.int) ∧ w'.cell? ⟨pg, 2, none⟩ = some (.string v.text)) ∧ ∃ ρ' q', RnO w0 w' ρ' m most (s.pop 1) q' ∧ Mv w ρ w' ρ' ∧ q'.cv = q.cv := by
 have hvl : 1 ≤ s.vals.length := by have := (List.getElem?_eq_some_iff.1 hv).1; omega
 have hp : s.popped 1 = [v] := by
  obtain ⟨u, l, e⟩ : ∃ u l, s.vals = u :: l := by cases h : s.vals with | nil => rw [h] at hv; simp at hv | cons u l => exact ⟨u, l, rfl⟩
  rw [e] at hv
  simp at hv
  unfold St.popped
  rw [e, hv]
  rfl
 refine (show Calls _ _ _ _ _ from pop_any h 1 hvl hl).mono ?_
 rintro e w2 ⟨lv, rfl, hown, ρ2, q2, o2, m2, r2, c2⟩
 rw [hp] at hown
 rcases own_shape hown with ⟨_, e2, _⟩ | ⟨g, c, rfl, h0, h1, h2, h3⟩
 ·cases e2
 ·exact ⟨g, c, rfl, ⟨h1, by rw [hown.cellAt 0 (by simp)]; rfl, by rw [hown.cellAt 1 (by simp)]; rfl, by rw [hown.cellAt 2 (by simp)]; rfl⟩, ρ2, q2, o2, m2, c2⟩
end
section
variable {w0 w w' W wr : World} {ρ ρ' ρj : Nat → Nat} {m most : Nat} {s s' t : St} {q q' qj : Wh}
set_option maxHeartbeats 16000000 in
set_option maxRecDepth 100000 in
theorem next_eval (h : RnO w0 w ρ m most s q) {d : Int} {e : Ex} {env : Env} {pos : Int} {l : List Todo} (ht : s.todo = ⟨d, e, env, pos⟩ :: l) (hd : d = 0) (H : Sm s) (hel : env.length ≤ 1000000) (henl : e.names.length ≤ 100000) (hekl : e.kids.length ≤ 100000)
  (hmost : most ≤ 1000000) (hsm : s.steps ≤ most) (hr : eval most ({ s with todo := l } : St) e env = some s') :
  Calls Tryz.prog 56 #[.pointer (some ⟨m, 0, none⟩)] w (RnPost w0 ρ m most (s') w) := by
 obtain ⟨MT, ⟨xt, nv, dl, kv, ev⟩, hMT, hxt, rfl⟩ := top_of h ht
 dsimp only at hxt
 subst hxt
 have hxm : (⟨⟨d, e, env, pos⟩, nv, dl, kv, ev⟩ : TM) ∈ q.MT := by rw [hMT]; simp
 have hok := h.c.tok _ hxm
 obtain ⟨ea, ec, hee⟩ := hok.env.slice
 dsimp only at hee
 subst hee
 obtain ⟨⟨na, nn, nc, hne1⟩, ⟨da, dn, dc, hde1⟩, ⟨ka, kn, kc, hke1⟩⟩ := ExAt.slices hok.ex
 dsimp only at hne1 hde1 hke1
 subst hne1 hde1 hke1
 obtain ⟨hkids, hnames, _⟩ := ExAt.kids hok.ex
 dsimp only at hkids hnames
 obtain ⟨_, _, hkn, _, _⟩ := id hkids
 obtain rfl : kn = e.kids.length := by cases hkn; rfl
 have hnn : nn = e.names.length := by
  obtain ⟨_, _, e2⟩ := hnames.len
  cases e2
  exact strs_length _
 subst hnn
 obtain ⟨ta, tc, htv⟩ := h.c.todo.slice
 have hrow := h.c.todo
 rw [htv] at hrow
 obtain ⟨g, rfl, hgl, hcap, hgc⟩ := tm_at hrow rfl (j := MT.length) (y := ⟨⟨d, e, env, pos⟩, .slice na e.names.length nc, .slice da dn dc, .slice ka e.kids.length kc, .slice ea env.length ec⟩) (by rw [hMT]; simp)
 have hML : q.MT.length = MT.length + 1 := by rw [hMT]; simp
 rw [hML] at htv hcap
 have hNx := Nx.of h hMT htv
 have hm := h.lt
 have ca : w.cell? ⟨m, 10, none⟩ = some (.slice (some ⟨g, 0, none⟩) (MT.length + 1) tc) := by rw [h.cell 10, ← htv]; rfl
 have fa := h.fz 10
 obtain ⟨N, hN⟩ : ∃ N, N = MT.length + 1 := ⟨_, rfl⟩
 obtain ⟨K, hK⟩ : ∃ K, K = MT.length := ⟨_, rfl⟩
 have hMl : MT.length ≤ 100000 := by
  have h1 := H.todo
  rw [ht] at h1
  simp at h1
  omega
 have d0 := hgc 0 (by decide)
 have d1 := hgc 1 (by decide)
 have d2 := hgc 2 (by decide)
 have d3 := hgc 3 (by decide)
 have d4 := hgc 4 (by decide)
 have d5 := hgc 5 (by decide)
 have d6 := hgc 6 (by decide)
 have d7 := hgc 7 (by decide)
 have d8 := hgc 8 (by decide)
 have d9 := hgc 9 (by decide)
 have d10 := hgc 10 (by decide)
 simp only [TM.cells, List.getElem?_cons_zero, List.getElem?_cons_succ, Nat.add_zero] at d0 d1 d2 d3 d4 d5 d6 d7 d8 d9 d10
 rw [← hN] at ca hcap
 rw [← hK] at hNx d0 d1 d2 d3 d4 d5 d6 d7 d8 d9 d10
 have g1 : (0 : Int) ≤ (K : Int) := by omega
 have g2 : (K : Int) < (N : Int) := by omega
 have g3 : (K : Int) ≤ (tc : Int) := by omega
 have g4 : IntKind.i64.wrap ((N : Int) - 1) = (K : Int) := by rw [IntKind.wrap_i64]; omega
 have k0 : (d == 0) = true := by rw [hd]; rfl
 have HR := hid hr
 clear hr
 have HNX := hid hNx
 have HSM := hid H
 have HT0 := hid ht
 clear h ht hd hMT hxm hok hkids hnames hkn hrow hgc hML htv hN hK hMl hNx H
 unfold RnPost
 go_enter Tryz.func56, Tryz.ntmps56
 go_upto_region 5 with fail
 generalize hWW : (w.setCell ⟨m, 10, none⟩ (.slice (some ⟨g, 0, none⟩) K tc)).alloc (.cells #[.int .i64 d, .int .i64 e.kind, .string e.name, .slice na e.names.length nc, .int .i64 e.const.kind, .int .i64 e.const.int, .string e.const.text, .slice da dn dc, .slice ka e.kids.length kc, .slice ea env.length ec, .int .i64 pos] 87) = W at HNX ⊢
 clear hWW ca fa d0 d1 d2 d3 d4 d5 d6 d7 d8 d9 d10 g1 g2 g3 g4
 obtain ⟨E, hE⟩ : ∃ E, E = w.heap.size := ⟨_, rfl⟩
 rw [← hE] at HNX ⊢
 replace hE := hid hE
 have hm := HNX.out.o.lt
 have hEl : E < W.heap.size := (Array.getElem?_eq_some_iff.1 HNX.out.blk).1
 have x0 := cell_of_row W E 0 _ _ _ HNX.out.blk
 have x1 := cell_of_row W E 1 _ _ _ HNX.out.blk
 have x2 := cell_of_row W E 2 _ _ _ HNX.out.blk
 have x3 := cell_of_row W E 3 _ _ _ HNX.out.blk
 have x4 := cell_of_row W E 4 _ _ _ HNX.out.blk
 have x5 := cell_of_row W E 5 _ _ _ HNX.out.blk
 have x6 := cell_of_row W E 6 _ _ _ HNX.out.blk
 have x7 := cell_of_row W E 7 _ _ _ HNX.out.blk
 have x8 := cell_of_row W E 8 _ _ _ HNX.out.blk
 have x9 := cell_of_row W E 9 _ _ _ HNX.out.blk
 have x10 := cell_of_row W E 10 _ _ _ HNX.out.blk
 simp only [List.getElem?_toArray, List.getElem?_cons_zero, List.getElem?_cons_succ] at x0 x1 x2 x3 x4 x5 x6 x7 x8 x9 x10
 obtain ⟨L, hL⟩ : ∃ L, L = (MT.map TM.t).reverse := ⟨_, rfl⟩
 rw [← hL] at HNX
 have HX : Hid (ExAt w0 (exV e.kind e.name (.slice na e.names.length nc) e.const (.slice da dn dc) (.slice ka e.kids.length kc)) e) := HNX.out.ok.ex
 have HE : Hid (RowR W ρ 6 125 2 env.length (.slice ea env.length ec) (envC env)) := HNX.out.ok.env
 have HKI : Hid (KidsAt w0 (.slice ka e.kids.length kc) e.kids) := (ExAt.kids HX.out).1
 have HNS : Hid (Sl w0 (.slice na e.names.length nc) (strs e.names)) := (ExAt.kids HX.out).2.1
 have hLl : L.length ≤ 100000 := by
  have h1 := HSM.out.todo
  rw [HT0.out] at h1
  rw [hL]
  simp at h1 ⊢
  omega
 have HL := hid hL
 clear hL
 have HS1 : Hid (Sm ({ s with todo := L } : St)) := by
  have h := HSM.out
  exact ⟨h.T, h.cells, h.procs, h.out, hLl, h.vals, h.text⟩
 have HR2 : Hid (eval most ({ s with todo := L } : St) e env = some s') := by rw [HL.out]; exact HR.out
 clear hLl
 go_wp2_with fail
 with_reducible refine (eval_any HNX.out.o e env _ _ _ _ HX.out HE.out hmost hsm HS1.out hel henl hekl HR2.out).mono ?_
 rintro e2 w2 ⟨rfl, ρ2, q2, o2, m2⟩
 have HO2 := hid o2
 have HM2 := hid (HNX.out.mv.trans m2)
 clear o2 m2
 go_wp2_with fail
 go_end0
 exact ⟨rfl, ρ2, q2, HO2.out, HM2.out⟩
set_option maxHeartbeats 16000000 in
set_option maxRecDepth 100000 in
theorem next_drop (h : RnO w0 w ρ m most s q) {d : Int} {e : Ex} {env : Env} {pos : Int} {l : List Todo} (ht : s.todo = ⟨d, e, env, pos⟩ :: l) (hd : d = 1) (H : Sm s) (hel : env.length ≤ 1000000) (henl : e.names.length ≤ 100000) (hekl : e.kids.length ≤ 100000)
  (v : Hp.V) (hv : s.vals[0]? = some v) :
  Calls Tryz.prog 56 #[.pointer (some ⟨m, 0, none⟩)] w (RnPost w0 ρ m most (({ s with todo := l } : St).pop 1) w) := by
 obtain ⟨MT, ⟨xt, nv, dl, kv, ev⟩, hMT, hxt, rfl⟩ := top_of h ht
 dsimp only at hxt
 subst hxt
 have hxm : (⟨⟨d, e, env, pos⟩, nv, dl, kv, ev⟩ : TM) ∈ q.MT := by rw [hMT]; simp
 have hok := h.c.tok _ hxm
 obtain ⟨ea, ec, hee⟩ := hok.env.slice
 dsimp only at hee
 subst hee
 obtain ⟨⟨na, nn, nc, hne1⟩, ⟨da, dn, dc, hde1⟩, ⟨ka, kn, kc, hke1⟩⟩ := ExAt.slices hok.ex
 dsimp only at hne1 hde1 hke1
 subst hne1 hde1 hke1
 obtain ⟨hkids, hnames, _⟩ := ExAt.kids hok.ex
 dsimp only at hkids hnames
 obtain ⟨_, _, hkn, _, _⟩ := id hkids
 obtain rfl : kn = e.kids.length := by cases hkn; rfl
 have hnn : nn = e.names.length := by
  obtain ⟨_, _, e2⟩ := hnames.len
  cases e2
  exact strs_length _
 subst hnn
 obtain ⟨ta, tc, htv⟩ := h.c.todo.slice
 have hrow := h.c.todo
 rw [htv] at hrow
 obtain ⟨g, rfl, hgl, hcap, hgc⟩ := tm_at hrow rfl (j := MT.length) (y := ⟨⟨d, e, env, pos⟩, .slice na e.names.length nc, .slice da dn dc, .slice ka e.kids.length kc, .slice ea env.length ec⟩) (by rw [hMT]; simp)
 have hML : q.MT.length = MT.length + 1 := by rw [hMT]; simp
 rw [hML] at htv hcap
 have hNx := Nx.of h hMT htv
 have hm := h.lt
 have ca : w.cell? ⟨m, 10, none⟩ = some (.slice (some ⟨g, 0, none⟩) (MT.length + 1) tc) := by rw [h.cell 10, ← htv]; rfl
 have fa := h.fz 10
 obtain ⟨N, hN⟩ : ∃ N, N = MT.length + 1 := ⟨_, rfl⟩
 obtain ⟨K, hK⟩ : ∃ K, K = MT.length := ⟨_, rfl⟩
 have hMl : MT.length ≤ 100000 := by
  have h1 := H.todo
  rw [ht] at h1
  simp at h1
  omega
 have d0 := hgc 0 (by decide)
 have d1 := hgc 1 (by decide)
 have d2 := hgc 2 (by decide)
 have d3 := hgc 3 (by decide)
 have d4 := hgc 4 (by decide)
 have d5 := hgc 5 (by decide)
 have d6 := hgc 6 (by decide)
 have d7 := hgc 7 (by decide)
 have d8 := hgc 8 (by decide)
 have d9 := hgc 9 (by decide)
 have d10 := hgc 10 (by decide)
 simp only [TM.cells, List.getElem?_cons_zero, List.getElem?_cons_succ, Nat.add_zero] at d0 d1 d2 d3 d4 d5 d6 d7 d8 d9 d10
 rw [← hN] at ca hcap
 rw [← hK] at hNx d0 d1 d2 d3 d4 d5 d6 d7 d8 d9 d10
 have g1 : (0 : Int) ≤ (K : Int) := by omega
 have g2 : (K : Int) < (N : Int) := by omega
 have g3 : (K : Int) ≤ (tc : Int) := by omega
 have g4 : IntKind.i64.wrap ((N : Int) - 1) = (K : Int) := by rw [IntKind.wrap_i64]; omega
 have k0 : (d == 0) = false := by rw [hd]; rfl
 have k1 : (d == 1) = true := by rw [hd]; rfl
 have HNX := hid hNx
 have HSM := hid H
 have HT0 := hid ht
 clear h ht hd hMT hxm hok hkids hnames hkn hrow hgc hML htv hN hK hMl hNx H
 unfold RnPost
 go_enter Tryz.func56, Tryz.ntmps56
 go_upto_region 7 with fail
 generalize hWW : (w.setCell ⟨m, 10, none⟩ (.slice (some ⟨g, 0, none⟩) K tc)).alloc (.cells #[.int .i64 d, .int .i64 e.kind, .string e.name, .slice na e.names.length nc, .int .i64 e.const.kind, .int .i64 e.const.int, .string e.const.text, .slice da dn dc, .slice ka e.kids.length kc, .slice ea env.length ec, .int .i64 pos] 87) = W at HNX ⊢
 clear hWW ca fa d0 d1 d2 d3 d4 d5 d6 d7 d8 d9 d10 g1 g2 g3 g4
 obtain ⟨E, hE⟩ : ∃ E, E = w.heap.size := ⟨_, rfl⟩
 rw [← hE] at HNX ⊢
 replace hE := hid hE
 have hm := HNX.out.o.lt
 have hEl : E < W.heap.size := (Array.getElem?_eq_some_iff.1 HNX.out.blk).1
 have x0 := cell_of_row W E 0 _ _ _ HNX.out.blk
 have x1 := cell_of_row W E 1 _ _ _ HNX.out.blk
 have x2 := cell_of_row W E 2 _ _ _ HNX.out.blk
 have x3 := cell_of_row W E 3 _ _ _ HNX.out.blk
 have x4 := cell_of_row W E 4 _ _ _ HNX.out.blk
 have x5 := cell_of_row W E 5 _ _ _ HNX.out.blk
 have x6 := cell_of_row W E 6 _ _ _ HNX.out.blk
 have x7 := cell_of_row W E 7 _ _ _ HNX.out.blk
 have x8 := cell_of_row W E 8 _ _ _ HNX.out.blk
 have x9 := cell_of_row W E 9 _ _ _ HNX.out.blk
 have x10 := cell_of_row W E 10 _ _ _ HNX.out.blk
 simp only [List.getElem?_toArray, List.getElem?_cons_zero, List.getElem?_cons_succ] at x0 x1 x2 x3 x4 x5 x6 x7 x8 x9 x10
 obtain ⟨L, hL⟩ : ∃ L, L = (MT.map TM.t).reverse := ⟨_, rfl⟩
 rw [← hL] at HNX
 have HX : Hid (ExAt w0 (exV e.kind e.name (.slice na e.names.length nc) e.const (.slice da dn dc) (.slice ka e.kids.length kc)) e) := HNX.out.ok.ex
 have HE : Hid (RowR W ρ 6 125 2 env.length (.slice ea env.length ec) (envC env)) := HNX.out.ok.env
 have HKI : Hid (KidsAt w0 (.slice ka e.kids.length kc) e.kids) := (ExAt.kids HX.out).1
 have HNS : Hid (Sl w0 (.slice na e.names.length nc) (strs e.names)) := (ExAt.kids HX.out).2.1
 have hLl : L.length ≤ 100000 := by
  have h1 := HSM.out.todo
  rw [HT0.out] at h1
  rw [hL]
  simp at h1 ⊢
  omega
 have HL := hid hL
 clear hL
 have hvl : s.vals.length ≤ 10000000 := by have := HSM.out.vals; omega
 go_wp2_with fail
 with_reducible refine (pop1 HNX.out.o hv hvl).mono ?_
 rintro e2 w2 ⟨pg, pc, rfl, _, ρ2, q2, o2, m2, _⟩
 have HO2 : Hid (RnO w0 w2 ρ2 m most (({ s with todo := (MT.map TM.t).reverse } : St).pop 1) q2) := by rw [← HL.out]; exact o2
 have HM2 := hid (HNX.out.mv.trans m2)
 clear o2 m2
 go_wp2_with fail
 go_end0
 exact ⟨rfl, ρ2, q2, HO2.out, HM2.out⟩
end
section
variable {w0 w w' W wr : World} {ρ ρ' ρj : Nat → Nat} {m most : Nat} {s s' t : St} {q q' qj : Wh}
theorem set_cells {t t' : St} {E cg cc k : Nat} {x : TM} {qn : Wh} {w2 : World} {ρ2 : Nat → Nat} {q2 : Wh} (HN : Nx w0 w W ρ m most t qn E x) (m2 : Mv W.drew ρ w2 ρ2) (o2 : RnO w0 w2 ρ2 m most t' q2) (cv2 : q2.cv = qn.cv) (hcv : qn.cv = .slice (some ⟨cg, 0, none⟩) t.cells.length cc) (h0 : ρ E = 0) (hk : k < t.cells.length) (v : Hp.V) (hc : t'.cells = t.cells := by rfl) :
  (w2.cell? ⟨m, 1, none⟩ = some (.slice (some ⟨cg, 0, none⟩) t.cells.length cc) ∧ w2.cell? ⟨E, 10, none⟩ = some (.int .i64 x.t.pos)) ∧
  ((((w2.setCell ⟨cg, k * 3, none⟩ (.int .i64 v.kind)).setCell ⟨cg, k * 3 + 1, none⟩ (.int .i64 v.int)).setCell ⟨cg, k * 3 + 2, none⟩ (.string v.text)).cell? ⟨m, 1, none⟩ = some (.slice (some ⟨cg, 0, none⟩) t.cells.length cc) ∧ (((w2.setCell ⟨cg, k * 3, none⟩ (.int .i64 v.kind)).setCell ⟨cg, k * 3 + 1, none⟩ (.int .i64 v.int)).setCell ⟨cg, k * 3 + 2, none⟩ (.string v.text)).cell? ⟨E, 10, none⟩ = some (.int .i64 x.t.pos)) ∧
  RnO w0 (((w2.setCell ⟨cg, k * 3, none⟩ (.int .i64 v.kind)).setCell ⟨cg, k * 3 + 1, none⟩ (.int .i64 v.int)).setCell ⟨cg, k * 3 + 2, none⟩ (.string v.text)) ρ2 m most { t' with cells := t.cells.set k v } q2 ∧
  Mv w2 ρ2 (((w2.setCell ⟨cg, k * 3, none⟩ (.int .i64 v.kind)).setCell ⟨cg, k * 3 + 1, none⟩ (.int .i64 v.int)).setCell ⟨cg, k * 3 + 2, none⟩ (.string v.text)) ρ2 ∧
  (cg < w2.heap.size ∧ (∃ u, w2.cell? ⟨cg, k * 3, none⟩ = some u) ∧ (∃ u, w2.cell? ⟨cg, k * 3 + 1, none⟩ = some u) ∧ (∃ u, w2.cell? ⟨cg, k * 3 + 2, none⟩ = some u) ∧ ∀ i, w2.frozen? ⟨cg, i, none⟩ = false) := by
 have hcv2 : q2.cv = .slice (some ⟨cg, 0, none⟩) t.cells.length cc := cv2.trans hcv
 have hrow := o2.c.cells.1
 rw [hcv2, hc] at hrow
 obtain ⟨s1, s2⟩ := o2.setV hcv2 k (by rw [hc]; exact hk) v
 rw [hc] at s1
 have hb := (m2.keep E (Array.getElem?_eq_some_iff.1 HN.blk).1 (.inl h0))
 have hb2 := hb.1.trans HN.blk
 have hE2 : ρ2 E = 0 := hb.2.trans h0
 have hEl2 := (Array.getElem?_eq_some_iff.1 hb2).1
 have hb3 := (s2.keep E hEl2 (.inl hE2)).1.trans hb2
 have h10 := cell_of_row w2 E 10 _ _ _ hb2
 have h103 := cell_of_row _ E 10 _ _ _ hb3
 simp only [List.getElem?_toArray, List.getElem?_cons_zero, List.getElem?_cons_succ] at h10 h103
 have hcell : ∀ i, i < t.cells.length * 3 → ∃ u, w2.cell? ⟨cg, i, none⟩ = some u := fun i hi => by
  rw [hrow.cellAt i hi]
  exact ⟨_, List.getElem?_eq_getElem (by rw [Hp.flatV_length]; exact hi)⟩
 refine ⟨⟨?_, h10⟩, ⟨?_, h103⟩, s1, s2, ?_, hcell _ (by omega), hcell _ (by omega), hcell _ (by omega), ?_⟩
 ·rw [o2.cell 1]
  show some q2.cv = _
  rw [hcv2]
 ·rw [s1.cell 1]
  show some q2.cv = _
  rw [hcv2]
 ·exact (hrow.lt cg rfl).2
 ·intro i
  obtain ⟨_, ⟨e, _⟩ | ⟨g', c', cur, e, _, hfz, _⟩⟩ := hrow
  ·cases e
  ·cases e
   exact frozen_of_row w2 _ i _ _ hfz
set_option maxHeartbeats 16000000 in
set_option maxRecDepth 100000 in
theorem next_set (h : RnO w0 w ρ m most s q) {d : Int} {e : Ex} {env : Env} {pos : Int} {l : List Todo} (ht : s.todo = ⟨d, e, env, pos⟩ :: l) (hd : d = 2) (H : Sm s) (hel : env.length ≤ 1000000) (henl : e.names.length ≤ 100000) (hekl : e.kids.length ≤ 100000)
  (v : Hp.V) (hv : s.vals[0]? = some v) (k : Nat) (hk : pos = k) (hkl : k < s.cells.length) :
  Calls Tryz.prog 56 #[.pointer (some ⟨m, 0, none⟩)] w (RnPost w0 ρ m most (({ ({ s with todo := l } : St).pop 1 with cells := s.cells.set k v } : St).tell Hp.void) w) := by
 subst hk
 obtain ⟨MT, ⟨xt, nv, dl, kv, ev⟩, hMT, hxt, rfl⟩ := top_of h ht
 dsimp only at hxt
 subst hxt
 have hxm : (⟨⟨d, e, env, (k : Int)⟩, nv, dl, kv, ev⟩ : TM) ∈ q.MT := by rw [hMT]; simp
 have hok := h.c.tok _ hxm
 obtain ⟨ea, ec, hee⟩ := hok.env.slice
 dsimp only at hee
 subst hee
 obtain ⟨⟨na, nn, nc, hne1⟩, ⟨da, dn, dc, hde1⟩, ⟨ka, kn, kc, hke1⟩⟩ := ExAt.slices hok.ex
 dsimp only at hne1 hde1 hke1
 subst hne1 hde1 hke1
 obtain ⟨hkids, hnames, _⟩ := ExAt.kids hok.ex
 dsimp only at hkids hnames
 obtain ⟨_, _, hkn, _, _⟩ := id hkids
 obtain rfl : kn = e.kids.length := by cases hkn; rfl
 have hnn : nn = e.names.length := by
  obtain ⟨_, _, e2⟩ := hnames.len
  cases e2
  exact strs_length _
 subst hnn
 obtain ⟨ta, tc, htv⟩ := h.c.todo.slice
 have hrow := h.c.todo
 rw [htv] at hrow
 obtain ⟨g, rfl, hgl, hcap, hgc⟩ := tm_at hrow rfl (j := MT.length) (y := ⟨⟨d, e, env, (k : Int)⟩, .slice na e.names.length nc, .slice da dn dc, .slice ka e.kids.length kc, .slice ea env.length ec⟩) (by rw [hMT]; simp)
 have hML : q.MT.length = MT.length + 1 := by rw [hMT]; simp
 rw [hML] at htv hcap
 have hNx := Nx.of h hMT htv
 have hm := h.lt
 have ca : w.cell? ⟨m, 10, none⟩ = some (.slice (some ⟨g, 0, none⟩) (MT.length + 1) tc) := by rw [h.cell 10, ← htv]; rfl
 have fa := h.fz 10
 obtain ⟨N, hN⟩ : ∃ N, N = MT.length + 1 := ⟨_, rfl⟩
 obtain ⟨K, hK⟩ : ∃ K, K = MT.length := ⟨_, rfl⟩
 have hMl : MT.length ≤ 100000 := by
  have h1 := H.todo
  rw [ht] at h1
  simp at h1
  omega
 have d0 := hgc 0 (by decide)
 have d1 := hgc 1 (by decide)
 have d2 := hgc 2 (by decide)
 have d3 := hgc 3 (by decide)
 have d4 := hgc 4 (by decide)
 have d5 := hgc 5 (by decide)
 have d6 := hgc 6 (by decide)
 have d7 := hgc 7 (by decide)
 have d8 := hgc 8 (by decide)
 have d9 := hgc 9 (by decide)
 have d10 := hgc 10 (by decide)
 simp only [TM.cells, List.getElem?_cons_zero, List.getElem?_cons_succ, Nat.add_zero] at d0 d1 d2 d3 d4 d5 d6 d7 d8 d9 d10
 rw [← hN] at ca hcap
 rw [← hK] at hNx d0 d1 d2 d3 d4 d5 d6 d7 d8 d9 d10
 have g1 : (0 : Int) ≤ (K : Int) := by omega
 have g2 : (K : Int) < (N : Int) := by omega
 have g3 : (K : Int) ≤ (tc : Int) := by omega
 have g4 : IntKind.i64.wrap ((N : Int) - 1) = (K : Int) := by rw [IntKind.wrap_i64]; omega
 have k0 : (d == 0) = false := by rw [hd]; rfl
 have k1 : (d == 1) = false := by rw [hd]; rfl
 have k2 : (d == 2) = true := by rw [hd]; rfl
 have HNX := hid hNx
 have HSM := hid H
 have HT0 := hid ht
 clear h ht hd hMT hxm hok hkids hnames hkn hrow hgc hML htv hN hK hMl hNx H
 unfold RnPost
 go_enter Tryz.func56, Tryz.ntmps56
 go_upto_region 9 with fail
 generalize hWW : (w.setCell ⟨m, 10, none⟩ (.slice (some ⟨g, 0, none⟩) K tc)).alloc (.cells #[.int .i64 d, .int .i64 e.kind, .string e.name, .slice na e.names.length nc, .int .i64 e.const.kind, .int .i64 e.const.int, .string e.const.text, .slice da dn dc, .slice ka e.kids.length kc, .slice ea env.length ec, .int .i64 (k : Int)] 87) = W at HNX ⊢
 clear hWW ca fa d0 d1 d2 d3 d4 d5 d6 d7 d8 d9 d10 g1 g2 g3 g4
 obtain ⟨E, hE⟩ : ∃ E, E = w.heap.size := ⟨_, rfl⟩
 rw [← hE] at HNX ⊢
 replace hE := hid hE
 have hm := HNX.out.o.lt
 have hEl : E < W.heap.size := (Array.getElem?_eq_some_iff.1 HNX.out.blk).1
 have x0 := cell_of_row W E 0 _ _ _ HNX.out.blk
 have x1 := cell_of_row W E 1 _ _ _ HNX.out.blk
 have x2 := cell_of_row W E 2 _ _ _ HNX.out.blk
 have x3 := cell_of_row W E 3 _ _ _ HNX.out.blk
 have x4 := cell_of_row W E 4 _ _ _ HNX.out.blk
 have x5 := cell_of_row W E 5 _ _ _ HNX.out.blk
 have x6 := cell_of_row W E 6 _ _ _ HNX.out.blk
 have x7 := cell_of_row W E 7 _ _ _ HNX.out.blk
 have x8 := cell_of_row W E 8 _ _ _ HNX.out.blk
 have x9 := cell_of_row W E 9 _ _ _ HNX.out.blk
 have x10 := cell_of_row W E 10 _ _ _ HNX.out.blk
 simp only [List.getElem?_toArray, List.getElem?_cons_zero, List.getElem?_cons_succ] at x0 x1 x2 x3 x4 x5 x6 x7 x8 x9 x10
 obtain ⟨L, hL⟩ : ∃ L, L = (MT.map TM.t).reverse := ⟨_, rfl⟩
 rw [← hL] at HNX
 have HX : Hid (ExAt w0 (exV e.kind e.name (.slice na e.names.length nc) e.const (.slice da dn dc) (.slice ka e.kids.length kc)) e) := HNX.out.ok.ex
 have HE : Hid (RowR W ρ 6 125 2 env.length (.slice ea env.length ec) (envC env)) := HNX.out.ok.env
 have HKI : Hid (KidsAt w0 (.slice ka e.kids.length kc) e.kids) := (ExAt.kids HX.out).1
 have HNS : Hid (Sl w0 (.slice na e.names.length nc) (strs e.names)) := (ExAt.kids HX.out).2.1
 have hLl : L.length ≤ 100000 := by
  have h1 := HSM.out.todo
  rw [HT0.out] at h1
  rw [hL]
  simp at h1 ⊢
  omega
 have HL := hid hL
 clear hL
 have hvl : s.vals.length ≤ 10000000 := by have := HSM.out.vals; omega
 have HVV := hid hv
 have hrow := HNX.out.o.c.cells
 obtain ⟨ga, cc, hcv⟩ := hrow.slice
 rw [hcv] at hrow
 have hcv' : q.cv = .slice ga s.cells.length cc := hcv
 obtain ⟨cg, rfl⟩ : ∃ cg, ga = some ⟨cg, 0, none⟩ := by
  rcases own_shape hrow.1 with ⟨_, e2, _⟩ | ⟨g, c', e, _⟩
  ·exact absurd e2 (by show s.cells.length ≠ 0; omega)
  ·cases e; exact ⟨g, rfl⟩
 have HCV := hid hcv'
 have c1 : W.cell? ⟨m, 1, none⟩ = some (.slice (some ⟨cg, 0, none⟩) s.cells.length cc) := by
  rw [HNX.out.o.cell 1]
  show some q.cv = _
  rw [hcv']
 have HOD := hid (HNX.out.o.bel (Below.refl W.heap.size W).drew)
 have HMD := hid (HNX.out.mv.bel (Below.refl W.heap.size W).drew)
 have HRE : Hid (ρ E = 0) := HNX.out.z
 have g1 : (0 : Int) ≤ (k : Int) := by omega
 have g2 : (k : Int) < s.cells.length := by omega
 clear hrow hcv hcv' hv x0 x1 x2 x3 x4 x5 x6 x7 x8 x9
 go_region_with ((go_at_call 70; (with_reducible refine (pop1 HOD.out HVV.out hvl).mono ?_); rintro e2 w2 ⟨pg, pc, rfl, ⟨hc20, hc21, hc22, hc23⟩, ρ2, q2, o2, m2, cv2⟩; have HST := hid (set_cells HNX.out m2 o2 cv2 HCV.out HRE.out hkl v); obtain ⟨r1, r2⟩ := HST.out.1; have HO2 := hid HST.out.2.2.1; have HM2 := hid (HMD.out.trans (m2.trans HST.out.2.2.2.1)); obtain ⟨_, _, _, _, hs0, ⟨u1, hs1⟩, ⟨u2, hs2⟩, ⟨u3, hs3⟩, hs4⟩ := HST.out; have hf0 := hs4 (k * 3); have hf1 := hs4 (k * 3 + 1); have hf2 := hs4 (k * 3 + 2); have hm2 := HST.out.2.2.1.lt; have hmm2 := o2.lt; have hEl2 : E < w2.heap.size := Nat.lt_of_lt_of_le hEl m2.size; clear o2 m2 cv2 hs4))
 all_goals
  have hvl1 : ({ ({ s with todo := L } : St).pop 1 with cells := s.cells.set k v } : St).vals.length ≤ 10000000 := by
   show (s.vals.drop 1).length ≤ _
   rw [List.length_drop]
   omega
  go_wp2_with fail
  with_reducible refine (tell_any HO2.out ⟨5, 0, ⟨#[]⟩⟩ hvl1).mono ?_
  rintro e3 w3 ⟨rfl, ρ3, q3, o3, m3⟩
  have HO3 := hid o3
  have HM3 := hid (HM2.out.trans m3)
  clear o3 m3
  go_wp2_with fail
  go_end0
  exact ⟨rfl, ρ3, q3, by rw [← HL.out]; exact HO3.out, HM3.out⟩
end
section
variable {w0 w w' W wr : World} {ρ ρ' ρj : Nat → Nat} {m most : Nat} {s s' t : St} {q q' qj : Wh}
set_option maxHeartbeats 16000000 in
set_option maxRecDepth 100000 in
theorem next_call (h : RnO w0 w ρ m most s q) {d : Int} {e : Ex} {env : Env} {pos : Int} {l : List Todo} (ht : s.todo = ⟨d, e, env, pos⟩ :: l) (hd : d = 4) (H : Sm s) (hel : env.length ≤ 1000000) (henl : e.names.length ≤ 100000) (hekl : e.kids.length ≤ 100000)
  (v : Hp.V) (lr : List Hp.V) (k : Nat) (hk : pos = k) (hlr : lr.length + 1 = k) (hkl : k ≤ s.vals.length) (hpp : s.popped k = v :: lr) (hr : call (({ s with todo := l } : St).pop k) v lr = some s') :
  Calls Tryz.prog 56 #[.pointer (some ⟨m, 0, none⟩)] w (RnPost w0 ρ m most (s') w) := by
 subst hk
 obtain ⟨MT, ⟨xt, nv, dl, kv, ev⟩, hMT, hxt, rfl⟩ := top_of h ht
 dsimp only at hxt
 subst hxt
 have hxm : (⟨⟨d, e, env, (k : Int)⟩, nv, dl, kv, ev⟩ : TM) ∈ q.MT := by rw [hMT]; simp
 have hok := h.c.tok _ hxm
 obtain ⟨ea, ec, hee⟩ := hok.env.slice
 dsimp only at hee
 subst hee
 obtain ⟨⟨na, nn, nc, hne1⟩, ⟨da, dn, dc, hde1⟩, ⟨ka, kn, kc, hke1⟩⟩ := ExAt.slices hok.ex
 dsimp only at hne1 hde1 hke1
 subst hne1 hde1 hke1
 obtain ⟨hkids, hnames, _⟩ := ExAt.kids hok.ex
 dsimp only at hkids hnames
 obtain ⟨_, _, hkn, _, _⟩ := id hkids
 obtain rfl : kn = e.kids.length := by cases hkn; rfl
 have hnn : nn = e.names.length := by
  obtain ⟨_, _, e2⟩ := hnames.len
  cases e2
  exact strs_length _
 subst hnn
 obtain ⟨ta, tc, htv⟩ := h.c.todo.slice
 have hrow := h.c.todo
 rw [htv] at hrow
 obtain ⟨g, rfl, hgl, hcap, hgc⟩ := tm_at hrow rfl (j := MT.length) (y := ⟨⟨d, e, env, (k : Int)⟩, .slice na e.names.length nc, .slice da dn dc, .slice ka e.kids.length kc, .slice ea env.length ec⟩) (by rw [hMT]; simp)
 have hML : q.MT.length = MT.length + 1 := by rw [hMT]; simp
 rw [hML] at htv hcap
 have hNx := Nx.of h hMT htv
 have hm := h.lt
 have ca : w.cell? ⟨m, 10, none⟩ = some (.slice (some ⟨g, 0, none⟩) (MT.length + 1) tc) := by rw [h.cell 10, ← htv]; rfl
 have fa := h.fz 10
 obtain ⟨N, hN⟩ : ∃ N, N = MT.length + 1 := ⟨_, rfl⟩
 obtain ⟨K, hK⟩ : ∃ K, K = MT.length := ⟨_, rfl⟩
 have hMl : MT.length ≤ 100000 := by
  have h1 := H.todo
  rw [ht] at h1
  simp at h1
  omega
 have d0 := hgc 0 (by decide)
 have d1 := hgc 1 (by decide)
 have d2 := hgc 2 (by decide)
 have d3 := hgc 3 (by decide)
 have d4 := hgc 4 (by decide)
 have d5 := hgc 5 (by decide)
 have d6 := hgc 6 (by decide)
 have d7 := hgc 7 (by decide)
 have d8 := hgc 8 (by decide)
 have d9 := hgc 9 (by decide)
 have d10 := hgc 10 (by decide)
 simp only [TM.cells, List.getElem?_cons_zero, List.getElem?_cons_succ, Nat.add_zero] at d0 d1 d2 d3 d4 d5 d6 d7 d8 d9 d10
 rw [← hN] at ca hcap
 rw [← hK] at hNx d0 d1 d2 d3 d4 d5 d6 d7 d8 d9 d10
 have g1 : (0 : Int) ≤ (K : Int) := by omega
 have g2 : (K : Int) < (N : Int) := by omega
 have g3 : (K : Int) ≤ (tc : Int) := by omega
 have g4 : IntKind.i64.wrap ((N : Int) - 1) = (K : Int) := by rw [IntKind.wrap_i64]; omega
 have k0 : (d == 0) = false := by rw [hd]; rfl
 have k1 : (d == 1) = false := by rw [hd]; rfl
 have k2 : (d == 2) = false := by rw [hd]; rfl
 have k3 : (d == 3) = false := by rw [hd]; rfl
 have k4 : (d == 4) = true := by rw [hd]; rfl
 have HR := hid hr
 have HPP := hid hpp
 have HKL : Hid (k ≤ ({ s with todo := (MT.map TM.t).reverse } : St).vals.length) := hkl
 clear hr hpp hkl
 have HNX := hid hNx
 have HSM := hid H
 have HT0 := hid ht
 clear h ht hd hMT hxm hok hkids hnames hkn hrow hgc hML htv hN hK hMl hNx H
 unfold RnPost
 go_enter Tryz.func56, Tryz.ntmps56
 go_upto_region 17 with fail
 generalize hWW : (w.setCell ⟨m, 10, none⟩ (.slice (some ⟨g, 0, none⟩) K tc)).alloc (.cells #[.int .i64 d, .int .i64 e.kind, .string e.name, .slice na e.names.length nc, .int .i64 e.const.kind, .int .i64 e.const.int, .string e.const.text, .slice da dn dc, .slice ka e.kids.length kc, .slice ea env.length ec, .int .i64 (k : Int)] 87) = W at HNX ⊢
 clear hWW ca fa d0 d1 d2 d3 d4 d5 d6 d7 d8 d9 d10 g1 g2 g3 g4
 obtain ⟨E, hE⟩ : ∃ E, E = w.heap.size := ⟨_, rfl⟩
 rw [← hE] at HNX ⊢
 replace hE := hid hE
 have hm := HNX.out.o.lt
 have hEl : E < W.heap.size := (Array.getElem?_eq_some_iff.1 HNX.out.blk).1
 have x0 := cell_of_row W E 0 _ _ _ HNX.out.blk
 have x1 := cell_of_row W E 1 _ _ _ HNX.out.blk
 have x2 := cell_of_row W E 2 _ _ _ HNX.out.blk
 have x3 := cell_of_row W E 3 _ _ _ HNX.out.blk
 have x4 := cell_of_row W E 4 _ _ _ HNX.out.blk
 have x5 := cell_of_row W E 5 _ _ _ HNX.out.blk
 have x6 := cell_of_row W E 6 _ _ _ HNX.out.blk
 have x7 := cell_of_row W E 7 _ _ _ HNX.out.blk
 have x8 := cell_of_row W E 8 _ _ _ HNX.out.blk
 have x9 := cell_of_row W E 9 _ _ _ HNX.out.blk
 have x10 := cell_of_row W E 10 _ _ _ HNX.out.blk
 simp only [List.getElem?_toArray, List.getElem?_cons_zero, List.getElem?_cons_succ] at x0 x1 x2 x3 x4 x5 x6 x7 x8 x9 x10
 obtain ⟨L, hL⟩ : ∃ L, L = (MT.map TM.t).reverse := ⟨_, rfl⟩
 rw [← hL] at HNX
 have HX : Hid (ExAt w0 (exV e.kind e.name (.slice na e.names.length nc) e.const (.slice da dn dc) (.slice ka e.kids.length kc)) e) := HNX.out.ok.ex
 have HE : Hid (RowR W ρ 6 125 2 env.length (.slice ea env.length ec) (envC env)) := HNX.out.ok.env
 have HKI : Hid (KidsAt w0 (.slice ka e.kids.length kc) e.kids) := (ExAt.kids HX.out).1
 have HNS : Hid (Sl w0 (.slice na e.names.length nc) (strs e.names)) := (ExAt.kids HX.out).2.1
 have hLl : L.length ≤ 100000 := by
  have h1 := HSM.out.todo
  rw [HT0.out] at h1
  rw [hL]
  simp at h1 ⊢
  omega
 have HL := hid hL
 clear hL
 have hvl : s.vals.length ≤ 10000000 := by have := HSM.out.vals; omega
 have hvl2 : k ≤ s.vals.length := HKL.out
 have hs1 : lr.length ≤ 1000000 := by have := HSM.out.vals; omega
 have hs2 : (({ s with todo := L } : St).pop k).T.length ≤ 1000000 := by have := HSM.out.T; show s.T.length ≤ _; omega
 have hs3 : (({ s with todo := L } : St).pop k).procs.length ≤ 1000000 := by have := HSM.out.procs; show s.procs.length ≤ _; omega
 have hs4 : (({ s with todo := L } : St).pop k).todo.length ≤ 1000000 := by show L.length ≤ _; omega
 have hs5 : (({ s with todo := L } : St).pop k).vals.length ≤ 1000000 := by have := HSM.out.vals; show (s.vals.drop k).length ≤ _; rw [List.length_drop]; omega
 have hs6 : (({ s with todo := L } : St).pop k).cells.length ≤ 1000000 := by have := HSM.out.cells; show s.cells.length ≤ _; omega
 have HR2 : Hid (call (({ s with todo := L } : St).pop k) v lr = some s') := by rw [HL.out]; exact HR.out
 have HS5 := hid hs5
 have HS2 := hid hs2
 have HS3 := hid hs3
 have HS4 := hid hs4
 have HS6 := hid hs6
 clear hLl hs2 hs3 hs4 hs5 hs6 hvl2
 go_wp2_with fail
 have hpp2 : ({ s with todo := L } : St).popped k = v :: lr := HPP.out
 with_reducible refine (pop_any HNX.out.o k HKL.out hvl).mono ?_
 rintro e2 w2 ⟨lv, rfl, hown, ρ2, q2, o2, m2, r2, _⟩
 rw [hpp2] at hown
 have HVL := hid (pop_vr hown r2)
 have hk0 : 0 < k := by omega
 obtain ⟨g2, pc2, rfl, hg2, hcp⟩ : ∃ g2 pc2, lv = .slice (some ⟨g2, 0, none⟩) k pc2 ∧ g2 < w2.heap.size ∧ k ≤ pc2 := by
  obtain ⟨_, ⟨_, e2⟩ | ⟨g, c', cur, e, _, h1, h2, _⟩⟩ := id hown
  ·simp at e2
  ·refine ⟨g, c', ?_, (Array.getElem?_eq_some_iff.1 h1).1, ?_⟩
   ·rw [e, List.length_cons, hlr]
   ·rw [List.length_cons, hlr] at h2
    exact h2
 rw [List.length_cons, hlr] at hown
 have l0 : w2.cell? ⟨g2, 0, none⟩ = some (.int .i64 v.kind) := by rw [hown.cellAt 0 (by omega)]; rfl
 have l1 : w2.cell? ⟨g2, 1, none⟩ = some (.int .i64 v.int) := by rw [hown.cellAt 1 (by omega)]; rfl
 have l2 : w2.cell? ⟨g2, 2, none⟩ = some (.string v.text) := by rw [hown.cellAt 2 (by omega)]; rfl
 have HO2 := hid (o2.bel (Below.refl w2.heap.size w2).drew)
 have HM2 : Hid (Mv w ρ w2.drew ρ2) := HNX.out.mv.trans (m2.trans (mv_bel (Below.refl w2.heap.size w2).drew ρ2))
 have HVD := hid (HVL.out.mv (mv_bel (Below.refl w2.heap.size w2).drew ρ2))
 have HRO : Hid (ρ2 g2 = 0) := r2 g2 rfl
 have g6 : 1 ≤ k := by omega
 have g7 : k ≠ 0 := by omega
 have g3 : (0 : Int) < (k : Int) := by omega
 have g4 : (1 : Int) ≤ (k : Int) := by omega
 have g5 : (k : Int) ≤ (pc2 : Int) := by omega
 have HG2 : Hid ((⟨g2, 0, none⟩ : Addr).block < w2.drew.heap.size) := hg2
 have HLR := hid hlr
 have HCP := hid hcp
 clear hown o2 m2 r2 hpp2 hlr
 go_upto_region 18 with fail
 clear x0 x1 x2 x3 x4 x5 x6 x7 x8 x9 x10
 by_cases hc1 : pc2 = 1
 ·subst hc1
  obtain rfl : k = 1 := by have := HLR.out; have := HCP.out; omega
  obtain rfl : lr = [] := by have := HLR.out; exact List.length_eq_zero_iff.1 (by omega)
  go_still_tail 6, (by kernel_rfl)
  show wpList _ _ _ _ _ _
  go_wp2_with fail
  with_reducible refine (call_any HO2.out v [] _ (VR.none0 HG2.out HRO.out) HR2.out hs1 HS2.out HS3.out HS4.out HS5.out HS6.out).mono ?_
  rintro e4 w4 ⟨rfl, ρ4, q4, o4, m4⟩
  have HO4 := hid o4
  have HM4 := hid (HM2.out.trans m4)
  clear o4 m4
  go_wp2_with fail
  go_end0
  exact ⟨rfl, ρ4, q4, HO4.out, HM4.out⟩
 ·have HVR := hid (HVD.out.rest (by simp) hc1)
  have hc2 : ¬ (pc2 : Int) = 1 := by omega
  go_still_tail 6, (by kernel_rfl)
  show wpList _ _ _ _ _ _
  go_wp2_with fail
  with_reducible refine (call_any HO2.out v lr _ HVR.out HR2.out hs1 HS2.out HS3.out HS4.out HS5.out HS6.out).mono ?_
  rintro e4 w4 ⟨rfl, ρ4, q4, o4, m4⟩
  have HO4 := hid o4
  have HM4 := hid (HM2.out.trans m4)
  clear o4 m4
  go_wp2_with fail
  go_end0
  exact ⟨rfl, ρ4, q4, HO4.out, HM4.out⟩
end
section
variable {w0 w w' W wr : World} {ρ ρ' ρj : Nat → Nat} {m most : Nat} {s s' t : St} {q q' qj : Wh}
set_option maxHeartbeats 16000000 in
set_option maxRecDepth 100000 in
theorem next_prim (h : RnO w0 w ρ m most s q) {d : Int} {e : Ex} {env : Env} {pos : Int} {l : List Todo} (ht : s.todo = ⟨d, e, env, pos⟩ :: l) (hd : d = 5) (H : Sm s) (hel : env.length ≤ 1000000) (henl : e.names.length ≤ 100000) (hekl : e.kids.length ≤ 100000)
  (lr : List Hp.V) (hlr : lr.length = e.kids.length) (hF : Hp.FewP s.T) (hkl : e.kids.length ≤ s.vals.length) (hpp : s.popped e.kids.length = lr) (hr : prim (({ s with todo := l } : St).pop e.kids.length) e.name lr = some s') :
  Calls Tryz.prog 56 #[.pointer (some ⟨m, 0, none⟩)] w (RnPost w0 ρ m most (s') w) := by
 obtain ⟨MT, ⟨xt, nv, dl, kv, ev⟩, hMT, hxt, rfl⟩ := top_of h ht
 dsimp only at hxt
 subst hxt
 have hxm : (⟨⟨d, e, env, pos⟩, nv, dl, kv, ev⟩ : TM) ∈ q.MT := by rw [hMT]; simp
 have hok := h.c.tok _ hxm
 obtain ⟨ea, ec, hee⟩ := hok.env.slice
 dsimp only at hee
 subst hee
 obtain ⟨⟨na, nn, nc, hne1⟩, ⟨da, dn, dc, hde1⟩, ⟨ka, kn, kc, hke1⟩⟩ := ExAt.slices hok.ex
 dsimp only at hne1 hde1 hke1
 subst hne1 hde1 hke1
 obtain ⟨hkids, hnames, _⟩ := ExAt.kids hok.ex
 dsimp only at hkids hnames
 obtain ⟨_, _, hkn, _, _⟩ := id hkids
 obtain rfl : kn = e.kids.length := by cases hkn; rfl
 have hnn : nn = e.names.length := by
  obtain ⟨_, _, e2⟩ := hnames.len
  cases e2
  exact strs_length _
 subst hnn
 obtain ⟨ta, tc, htv⟩ := h.c.todo.slice
 have hrow := h.c.todo
 rw [htv] at hrow
 obtain ⟨g, rfl, hgl, hcap, hgc⟩ := tm_at hrow rfl (j := MT.length) (y := ⟨⟨d, e, env, pos⟩, .slice na e.names.length nc, .slice da dn dc, .slice ka e.kids.length kc, .slice ea env.length ec⟩) (by rw [hMT]; simp)
 have hML : q.MT.length = MT.length + 1 := by rw [hMT]; simp
 rw [hML] at htv hcap
 have hNx := Nx.of h hMT htv
 have hm := h.lt
 have ca : w.cell? ⟨m, 10, none⟩ = some (.slice (some ⟨g, 0, none⟩) (MT.length + 1) tc) := by rw [h.cell 10, ← htv]; rfl
 have fa := h.fz 10
 obtain ⟨N, hN⟩ : ∃ N, N = MT.length + 1 := ⟨_, rfl⟩
 obtain ⟨K, hK⟩ : ∃ K, K = MT.length := ⟨_, rfl⟩
 have hMl : MT.length ≤ 100000 := by
  have h1 := H.todo
  rw [ht] at h1
  simp at h1
  omega
 have d0 := hgc 0 (by decide)
 have d1 := hgc 1 (by decide)
 have d2 := hgc 2 (by decide)
 have d3 := hgc 3 (by decide)
 have d4 := hgc 4 (by decide)
 have d5 := hgc 5 (by decide)
 have d6 := hgc 6 (by decide)
 have d7 := hgc 7 (by decide)
 have d8 := hgc 8 (by decide)
 have d9 := hgc 9 (by decide)
 have d10 := hgc 10 (by decide)
 simp only [TM.cells, List.getElem?_cons_zero, List.getElem?_cons_succ, Nat.add_zero] at d0 d1 d2 d3 d4 d5 d6 d7 d8 d9 d10
 rw [← hN] at ca hcap
 rw [← hK] at hNx d0 d1 d2 d3 d4 d5 d6 d7 d8 d9 d10
 have g1 : (0 : Int) ≤ (K : Int) := by omega
 have g2 : (K : Int) < (N : Int) := by omega
 have g3 : (K : Int) ≤ (tc : Int) := by omega
 have g4 : IntKind.i64.wrap ((N : Int) - 1) = (K : Int) := by rw [IntKind.wrap_i64]; omega
 have k0 : (d == 0) = false := by rw [hd]; rfl
 have k1 : (d == 1) = false := by rw [hd]; rfl
 have k2 : (d == 2) = false := by rw [hd]; rfl
 have k3 : (d == 3) = false := by rw [hd]; rfl
 have k4 : (d == 4) = false := by rw [hd]; rfl
 have k5 : (d == 5) = true := by rw [hd]; rfl
 have HR := hid hr
 have HPP := hid hpp
 have HKL : Hid (e.kids.length ≤ ({ s with todo := (MT.map TM.t).reverse } : St).vals.length) := hkl
 clear hr hpp hkl
 have HNX := hid hNx
 have HSM := hid H
 have HT0 := hid ht
 clear h ht hd hMT hxm hok hkids hnames hkn hrow hgc hML htv hN hK hMl hNx H
 unfold RnPost
 go_enter Tryz.func56, Tryz.ntmps56
 go_upto_region 20 with fail
 generalize hWW : (w.setCell ⟨m, 10, none⟩ (.slice (some ⟨g, 0, none⟩) K tc)).alloc (.cells #[.int .i64 d, .int .i64 e.kind, .string e.name, .slice na e.names.length nc, .int .i64 e.const.kind, .int .i64 e.const.int, .string e.const.text, .slice da dn dc, .slice ka e.kids.length kc, .slice ea env.length ec, .int .i64 pos] 87) = W at HNX ⊢
 clear hWW ca fa d0 d1 d2 d3 d4 d5 d6 d7 d8 d9 d10 g1 g2 g3 g4
 obtain ⟨E, hE⟩ : ∃ E, E = w.heap.size := ⟨_, rfl⟩
 rw [← hE] at HNX ⊢
 replace hE := hid hE
 have hm := HNX.out.o.lt
 have hEl : E < W.heap.size := (Array.getElem?_eq_some_iff.1 HNX.out.blk).1
 have x0 := cell_of_row W E 0 _ _ _ HNX.out.blk
 have x1 := cell_of_row W E 1 _ _ _ HNX.out.blk
 have x2 := cell_of_row W E 2 _ _ _ HNX.out.blk
 have x3 := cell_of_row W E 3 _ _ _ HNX.out.blk
 have x4 := cell_of_row W E 4 _ _ _ HNX.out.blk
 have x5 := cell_of_row W E 5 _ _ _ HNX.out.blk
 have x6 := cell_of_row W E 6 _ _ _ HNX.out.blk
 have x7 := cell_of_row W E 7 _ _ _ HNX.out.blk
 have x8 := cell_of_row W E 8 _ _ _ HNX.out.blk
 have x9 := cell_of_row W E 9 _ _ _ HNX.out.blk
 have x10 := cell_of_row W E 10 _ _ _ HNX.out.blk
 simp only [List.getElem?_toArray, List.getElem?_cons_zero, List.getElem?_cons_succ] at x0 x1 x2 x3 x4 x5 x6 x7 x8 x9 x10
 obtain ⟨L, hL⟩ : ∃ L, L = (MT.map TM.t).reverse := ⟨_, rfl⟩
 rw [← hL] at HNX
 have HX : Hid (ExAt w0 (exV e.kind e.name (.slice na e.names.length nc) e.const (.slice da dn dc) (.slice ka e.kids.length kc)) e) := HNX.out.ok.ex
 have HE : Hid (RowR W ρ 6 125 2 env.length (.slice ea env.length ec) (envC env)) := HNX.out.ok.env
 have HKI : Hid (KidsAt w0 (.slice ka e.kids.length kc) e.kids) := (ExAt.kids HX.out).1
 have HNS : Hid (Sl w0 (.slice na e.names.length nc) (strs e.names)) := (ExAt.kids HX.out).2.1
 have hLl : L.length ≤ 100000 := by
  have h1 := HSM.out.todo
  rw [HT0.out] at h1
  rw [hL]
  simp at h1 ⊢
  omega
 have HL := hid hL
 clear hL
 have hvl : s.vals.length ≤ 10000000 := by have := HSM.out.vals; omega
 have hvl2 : e.kids.length ≤ s.vals.length := HKL.out
 have hs1 : lr.length ≤ 1000000 := by have := HSM.out.vals; omega
 have hs2 : Hid ((({ s with todo := L } : St).pop e.kids.length).T.length ≤ 1000000) := by have := HSM.out.T; show s.T.length ≤ _; omega
 have hs3 : Hid ((({ s with todo := L } : St).pop e.kids.length).out.length ≤ 1000000) := by have := HSM.out.out; show s.out.length ≤ _; omega
 have HS5 : Hid ((({ s with todo := L } : St).pop e.kids.length).vals.length ≤ 10000000) := by have := HSM.out.vals; unfold Hid; show (s.vals.drop e.kids.length).length ≤ _; rw [List.length_drop]; omega
 have HTX : Hid (∀ v ∈ lr, v.text.size ≤ maxLen) := fun v hv => by
  rw [← HPP.out] at hv
  unfold St.popped at hv
  exact HSM.out.text v (List.mem_of_mem_take (List.mem_reverse.1 hv))
 have HF : Hid (Hp.FewP (({ s with todo := L } : St).pop e.kids.length).T) := hF
 have HR2 : Hid (prim (({ s with todo := L } : St).pop e.kids.length) e.name lr = some s') := by rw [HL.out]; exact HR.out
 clear hLl hvl2 hF hlr
 go_wp2_with fail
 have hpp2 : ({ s with todo := L } : St).popped e.kids.length = lr := HPP.out
 with_reducible refine (pop_any HNX.out.o e.kids.length HKL.out hvl).mono ?_
 rintro e2 w2 ⟨lv, rfl, hown, ρ2, q2, o2, m2, r2, _⟩
 rw [hpp2] at hown
 have HVL := hid (pop_vr hown r2)
 obtain ⟨pa, pn, pc2, rfl⟩ : ∃ pa pn pc2, lv = .slice pa pn pc2 := by
  obtain ⟨a, c, e⟩ := HVL.out.sl.len
  exact ⟨_, _, _, e⟩
 have hb3 := (m2.keep E hEl (.inl HNX.out.z)).1.trans HNX.out.blk
 have y2 := cell_of_row w2 E 2 _ _ _ hb3
 simp only [List.getElem?_toArray, List.getElem?_cons_zero, List.getElem?_cons_succ] at y2
 have hE3 : E < w2.heap.size := (Array.getElem?_eq_some_iff.1 hb3).1
 have HO2 := hid o2
 have HM2 : Hid (Mv w ρ w2 ρ2) := HNX.out.mv.trans m2
 clear hown o2 m2 r2 hpp2 x0 x1 x2 x3 x4 x5 x6 x7 x8 x9 x10 hb3
 go_wp2_with fail
 with_reducible refine (prim_any HO2.out e.name lr _ HVL.out HR2.out hs1 HTX.out hs2.out HF.out HS5.out hs3.out).mono ?_
 rintro e4 w4 ⟨rfl, ρ4, q4, o4, m4⟩
 have HO4 := hid o4
 have HM4 := hid (HM2.out.trans m4)
 clear o4 m4
 go_wp2_with fail
 go_end0
 exact ⟨rfl, ρ4, q4, HO4.out, HM4.out⟩
end
end Rn
end Go.Proofs.YtkplkgdfphbldaaGreat
