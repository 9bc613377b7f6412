/- The reference's machine of expressions: next, by what is to be done (6). -/
import Derived.Test.YtkplkgdfphbldaaGreatHJbp
import Derived.Test.YtkplkgdfphbldaaGreatHJax
import Derived.Test.YtkplkgdfphbldaaGreatHJaw
import Derived.Test.YtkplkgdfphbldaaGreatHJay
import Derived.Deep.DeepCutAuto
import Derived.Deep.RegionHeld3
import Derived.Maps.AppendAt
import Derived.BigQuiet
import Derived.Deep.QuietTactic
import Derived.Test.YtkplkgdfphbldaaGreatHJaj
import Derived.Test.YtkplkgdfphbldaaGreatHJam
namespace Go.Proofs.YtkplkgdfphbldaaGreat
open Go.RowKit
open Go.Lib (hid)
set_option linter.unusedVariables false
set_option linter.unusedSimpArgs false
set_option linter.unnecessarySimpa false
set_option maxRecDepth 100000
namespace Rn
section
variable {w0 w w' W wr : World} {ρ ρ' ρj : Nat → Nat} {m most : Nat} {s s' t : St} {q q' qj : Wh}
set_option maxHeartbeats 16000000 in
set_option maxRecDepth 100000 in
theorem next_let (h : RnO w0 w ρ m most s q) {d : Int} {e : Ex} {env : Env} {pos : Int} {l : List Todo} (ht : s.todo = ⟨d, e, env, pos⟩ :: l) (hd : d = 6) (H : Sm s) (hel : env.length ≤ 1000000) (henl : e.names.length ≤ 100000) (hekl : e.kids.length ≤ 100000)
  (lr : List Hp.V) (hlr : lr.length = e.names.length) (hkl : e.names.length ≤ s.vals.length) (hpp : s.popped e.names.length = lr) (kd : Ex) (hkd : e.kids[e.names.length]? = some kd) :
  Calls Tryz.prog 56 #[.pointer (some ⟨m, 0, none⟩)] w (RnPost w0 ρ m most (((({ s with todo := l } : St).pop e.names.length).bind lr).push [eT kd (env ++ envF e.names s.cells.length)]) w) := by
 obtain ⟨MT, ⟨xt, nv, dl, kv, ev⟩, hMT, hxt, rfl⟩ := top_of h ht
 dsimp only at hxt
 subst hxt
 have hxm : (⟨⟨d, e, env, pos⟩, nv, dl, kv, ev⟩ : TM) ∈ q.MT := by rw [hMT]; simp
 have hok := h.c.tok _ hxm
 obtain ⟨ea, ec, hee⟩ := hok.env.slice
 dsimp only at hee
 subst hee
 obtain ⟨⟨na, nn, nc, hne1⟩, ⟨da, dn, dc, hde1⟩, ⟨ka, kn, kc, hke1⟩⟩ := ExAt.slices hok.ex
 dsimp only at hne1 hde1 hke1
 subst hne1 hde1 hke1
 obtain ⟨hkids, hnames, _⟩ := ExAt.kids hok.ex
 dsimp only at hkids hnames
 obtain ⟨_, _, hkn, _, _⟩ := id hkids
 obtain rfl : kn = e.kids.length := by cases hkn; rfl
 have hnn : nn = e.names.length := by
  obtain ⟨_, _, e2⟩ := hnames.len
  cases e2
  exact strs_length _
 subst hnn
 obtain ⟨ta, tc, htv⟩ := h.c.todo.slice
 have hrow := h.c.todo
 rw [htv] at hrow
 obtain ⟨g, rfl, hgl, hcap, hgc⟩ := tm_at hrow rfl (j := MT.length) (y := ⟨⟨d, e, env, pos⟩, .slice na e.names.length nc, .slice da dn dc, .slice ka e.kids.length kc, .slice ea env.length ec⟩) (by rw [hMT]; simp)
 have hML : q.MT.length = MT.length + 1 := by rw [hMT]; simp
 rw [hML] at htv hcap
 have hNx := Nx.of h hMT htv
 have hm := h.lt
 have ca : w.cell? ⟨m, 10, none⟩ = some (.slice (some ⟨g, 0, none⟩) (MT.length + 1) tc) := by rw [h.cell 10, ← htv]; rfl
 have fa := h.fz 10
 obtain ⟨N, hN⟩ : ∃ N, N = MT.length + 1 := ⟨_, rfl⟩
 obtain ⟨K, hK⟩ : ∃ K, K = MT.length := ⟨_, rfl⟩
 have hMl : MT.length ≤ 100000 := by
  have h1 := H.todo
  rw [ht] at h1
  simp at h1
  omega
 have d0 := hgc 0 (by decide)
 have d1 := hgc 1 (by decide)
 have d2 := hgc 2 (by decide)
 have d3 := hgc 3 (by decide)
 have d4 := hgc 4 (by decide)
 have d5 := hgc 5 (by decide)
 have d6 := hgc 6 (by decide)
 have d7 := hgc 7 (by decide)
 have d8 := hgc 8 (by decide)
 have d9 := hgc 9 (by decide)
 have d10 := hgc 10 (by decide)
 simp only [TM.cells, List.getElem?_cons_zero, List.getElem?_cons_succ, Nat.add_zero] at d0 d1 d2 d3 d4 d5 d6 d7 d8 d9 d10
 rw [← hN] at ca hcap
 rw [← hK] at hNx d0 d1 d2 d3 d4 d5 d6 d7 d8 d9 d10
 have g1 : (0 : Int) ≤ (K : Int) := by omega
 have g2 : (K : Int) < (N : Int) := by omega
 have g3 : (K : Int) ≤ (tc : Int) := by omega
 have g4 : IntKind.i64.wrap ((N : Int) - 1) = (K : Int) := by rw [IntKind.wrap_i64]; omega
 have k0 : (d == 0) = false := by rw [hd]; rfl
 have k1 : (d == 1) = false := by rw [hd]; rfl
 have k2 : (d == 2) = false := by rw [hd]; rfl
 have k3 : (d == 3) = false := by rw [hd]; rfl
 have k4 : (d == 4) = false := by rw [hd]; rfl
 have k5 : (d == 5) = false := by rw [hd]; rfl
 have k6 : (d == 6) = true := by rw [hd]; rfl
 have HPP := hid hpp
 have HKL : Hid (e.names.length ≤ ({ s with todo := (MT.map TM.t).reverse } : St).vals.length) := hkl
 clear hpp hkl
 have HNX := hid hNx
 have HSM := hid H
 have HT0 := hid ht
 clear h ht hd hMT hxm hok hkids hnames hkn hrow hgc hML htv hN hK hMl hNx H
 unfold RnPost
 go_enter Tryz.func56, Tryz.ntmps56
 go_upto_region 23 with fail
 generalize hWW : (w.setCell ⟨m, 10, none⟩ (.slice (some ⟨g, 0, none⟩) K tc)).alloc (.cells #[.int .i64 d, .int .i64 e.kind, .string e.name, .slice na e.names.length nc, .int .i64 e.const.kind, .int .i64 e.const.int, .string e.const.text, .slice da dn dc, .slice ka e.kids.length kc, .slice ea env.length ec, .int .i64 pos] 87) = W at HNX ⊢
 clear hWW ca fa d0 d1 d2 d3 d4 d5 d6 d7 d8 d9 d10 g1 g2 g3 g4
 obtain ⟨E, hE⟩ : ∃ E, E = w.heap.size := ⟨_, rfl⟩
 rw [← hE] at HNX ⊢
 replace hE := hid hE
 have hm := HNX.out.o.lt
 have hEl : E < W.heap.size := (Array.getElem?_eq_some_iff.1 HNX.out.blk).1
 have x0 := cell_of_row W E 0 _ _ _ HNX.out.blk
 have x1 := cell_of_row W E 1 _ _ _ HNX.out.blk
 have x2 := cell_of_row W E 2 _ _ _ HNX.out.blk
 have x3 := cell_of_row W E 3 _ _ _ HNX.out.blk
 have x4 := cell_of_row W E 4 _ _ _ HNX.out.blk
 have x5 := cell_of_row W E 5 _ _ _ HNX.out.blk
 have x6 := cell_of_row W E 6 _ _ _ HNX.out.blk
 have x7 := cell_of_row W E 7 _ _ _ HNX.out.blk
 have x8 := cell_of_row W E 8 _ _ _ HNX.out.blk
 have x9 := cell_of_row W E 9 _ _ _ HNX.out.blk
 have x10 := cell_of_row W E 10 _ _ _ HNX.out.blk
 simp only [List.getElem?_toArray, List.getElem?_cons_zero, List.getElem?_cons_succ] at x0 x1 x2 x3 x4 x5 x6 x7 x8 x9 x10
 obtain ⟨L, hL⟩ : ∃ L, L = (MT.map TM.t).reverse := ⟨_, rfl⟩
 rw [← hL] at HNX
 have HX : Hid (ExAt w0 (exV e.kind e.name (.slice na e.names.length nc) e.const (.slice da dn dc) (.slice ka e.kids.length kc)) e) := HNX.out.ok.ex
 have HE : Hid (RowR W ρ 6 125 2 env.length (.slice ea env.length ec) (envC env)) := HNX.out.ok.env
 have HKI : Hid (KidsAt w0 (.slice ka e.kids.length kc) e.kids) := (ExAt.kids HX.out).1
 have HNS : Hid (Sl w0 (.slice na e.names.length nc) (strs e.names)) := (ExAt.kids HX.out).2.1
 have hLl : L.length ≤ 100000 := by
  have h1 := HSM.out.todo
  rw [HT0.out] at h1
  rw [hL]
  simp at h1 ⊢
  omega
 have HL := hid hL
 clear hL
 have hvl : s.vals.length ≤ 10000000 := by have := HSM.out.vals; omega
 have hs4 : L.length ≤ 10000000 := by omega
 have hs6 : s.cells.length ≤ 10000000 := by have := HSM.out.cells; omega
 have hel6 : env.length ≤ 10000000 := by omega
 have hen6 : e.names.length ≤ 10000000 := by omega
 obtain ⟨_, kb, koff, rfl, hkb, knv, kdl, kkv, hkc⟩ := HKI.out.at hkd
 have HKC := hid hkc
 have hki : (e.names.length : Int) < e.kids.length := by have := (List.getElem?_eq_some_iff.1 hkd).1; omega
 have HKD := hid hkd
 have HLR := hid hlr
 have HKE := hid hkc.ex
 clear hkc hkd hLl hlr
 go_wp2_with fail
 have hpp2 : ({ s with todo := L } : St).popped e.names.length = lr := HPP.out
 with_reducible refine (pop_any HNX.out.o e.names.length HKL.out hvl).mono ?_
 rintro e2 w2 ⟨lv, rfl, hown, ρ2, q2, o2, m2, r2, _⟩
 rw [hpp2] at hown
 have HVL := hid (pop_vr hown r2)
 obtain ⟨pa, pn, pc2, rfl⟩ : ∃ pa pn pc2, lv = .slice pa pn pc2 := by
  obtain ⟨a, c, e⟩ := HVL.out.sl.len
  exact ⟨_, _, _, e⟩
 have hb3 := (m2.keep E hEl (.inl HNX.out.z)).1.trans HNX.out.blk
 have y3 := cell_of_row w2 E 3 _ _ _ hb3
 have y8 := cell_of_row w2 E 8 _ _ _ hb3
 have y9 := cell_of_row w2 E 9 _ _ _ hb3
 simp only [List.getElem?_toArray, List.getElem?_cons_zero, List.getElem?_cons_succ] at y3 y8 y9
 have hE3 : E < w2.heap.size := (Array.getElem?_eq_some_iff.1 hb3).1
 have HE0 : Hid (ρ2 E = 0) := (m2.keep E hEl (.inl HNX.out.z)).2.trans HNX.out.z
 obtain ⟨⟨c0, c1, c2, c3, c4, c5, c6, c7, _⟩, hkl3⟩ := o2.exc HKC.out hkb
 have HO := hid o2
 have HMV : Hid (Mv w ρ w2 ρ2) := HNX.out.mv.trans m2
 have HEV := hid (HE.out.mv m2)
 obtain ⟨inner, hin⟩ : ∃ inner, inner = env ++ envF e.names s.cells.length := ⟨_, rfl⟩
 have HBD : Hid (∀ W' : World, Below w2.heap.size w2 W' → Calls Tryz.prog 74 #[.pointer (some ⟨m, 0, none⟩), .slice ea env.length ec, .slice na e.names.length nc, .slice pa pn pc2] W' (BindPost w0 ρ2 m most ((({ s with todo := L } : St).pop e.names.length).bind lr) inner W')) := fun W' hb => by
  rw [hin]
  exact bind_any (HO.out.bel hb) env e.names lr _ _ _ (HEV.out.mv (mv_bel hb ρ2)) HNS.out (HVL.out.mv (mv_bel hb ρ2)) HLR.out hel6 hen6 hs6
 have HIN := hid hin
 have HSF : Hid (∀ (W' : World) (ρ' : Nat → Nat), Mv w2 ρ2 W' ρ' → W'.cell? ⟨E, 3, none⟩ = some (.slice na e.names.length nc) ∧ W'.cell? ⟨E, 8, none⟩ = some (.slice (some ⟨kb, koff, none⟩) e.kids.length kc) ∧ W'.cell? ⟨E, 9, none⟩ = some (.slice ea env.length ec) ∧ W'.cell? ⟨kb, koff + e.names.length * 8, none⟩ = some (.int .i64 kd.kind) ∧ W'.cell? ⟨kb, koff + e.names.length * 8 + 1, none⟩ = some (.string kd.name) ∧ W'.cell? ⟨kb, koff + e.names.length * 8 + 2, none⟩ = some knv ∧ W'.cell? ⟨kb, koff + e.names.length * 8 + 3, none⟩ = some (.int .i64 kd.const.kind) ∧ W'.cell? ⟨kb, koff + e.names.length * 8 + 4, none⟩ = some (.int .i64 kd.const.int) ∧ W'.cell? ⟨kb, koff + e.names.length * 8 + 5, none⟩ = some (.string kd.const.text) ∧ W'.cell? ⟨kb, koff + e.names.length * 8 + 6, none⟩ = some kdl ∧ W'.cell? ⟨kb, koff + e.names.length * 8 + 7, none⟩ = some kkv) := fun W' ρ' hm =>
  have k0 : ρ2 kb = 0 := HO.out.c.old hkb
  ⟨(hm.cell hE3 HE0.out).trans y3, (hm.cell hE3 HE0.out).trans y8, (hm.cell hE3 HE0.out).trans y9, (hm.cell hkl3 k0).trans c0, (hm.cell hkl3 k0).trans c1, (hm.cell hkl3 k0).trans c2, (hm.cell hkl3 k0).trans c3, (hm.cell hkl3 k0).trans c4, (hm.cell hkl3 k0).trans c5, (hm.cell hkl3 k0).trans c6, (hm.cell hkl3 k0).trans c7⟩
 have HS1 := hid (HSF.out w2.drew ρ2 (mv_bel (Below.refl _ _).drew ρ2))
 have HDR : Hid (Below w2.heap.size w2 w2.drew) := (Below.refl _ _).drew
 have HTL : Hid (((({ s with todo := L } : St).pop e.names.length).bind lr).todo.length ≤ 10000000) := hs4
 have g5 : (0 : Int) ≤ (e.names.length : Int) := by omega
 clear hown o2 m2 r2 hpp2 x0 x1 x2 x3 x4 x5 x6 x7 x8 x9 x10 hb3 hin
 go_upto_region 25 with fail
 clear y3 y8 y9 c0 c1 c2 c3 c4 c5 c6 c7
 go_region_held3 (fun w' => w'.cell? ⟨E, 3, none⟩ = some (.slice na e.names.length nc) ∧ w'.cell? ⟨E, 8, none⟩ = some (.slice (some ⟨kb, koff, none⟩) e.kids.length kc) ∧ w'.cell? ⟨E, 9, none⟩ = some (.slice ea env.length ec) ∧ w'.cell? ⟨kb, koff + e.names.length * 8, none⟩ = some (.int .i64 kd.kind) ∧ w'.cell? ⟨kb, koff + e.names.length * 8 + 1, none⟩ = some (.string kd.name) ∧ w'.cell? ⟨kb, koff + e.names.length * 8 + 2, none⟩ = some knv ∧ w'.cell? ⟨kb, koff + e.names.length * 8 + 3, none⟩ = some (.int .i64 kd.const.kind) ∧ w'.cell? ⟨kb, koff + e.names.length * 8 + 4, none⟩ = some (.int .i64 kd.const.int) ∧ w'.cell? ⟨kb, koff + e.names.length * 8 + 5, none⟩ = some (.string kd.const.text) ∧ w'.cell? ⟨kb, koff + e.names.length * 8 + 6, none⟩ = some kdl ∧ w'.cell? ⟨kb, koff + e.names.length * 8 + 7, none⟩ = some kkv)
  (first | with_reducible exact HS1.out | with_reducible exact HS2.out | with_reducible exact HS3.out)
  (first
   | (go_at_call 74; (with_reducible refine (HBD.out _ HDR.out).mono ?_); rintro e3 w3 ⟨lv, he3, ρ3, qw3, o3, m3, r3⟩; obtain ⟨la, lc, rfl⟩ := r3.slice; subst he3; have HM3 : Hid (Mv w2 ρ2 w3 ρ3) := (mv_bel HDR.out ρ2).trans m3; have HO3 := hid o3; have HL3 := hid r3; have HS2 := hid (HSF.out w3 ρ3 HM3.out); clear o3 m3 r3)
   | (go_at_call 55; (with_reducible refine (push_v HO3.out 0 0 kd _ knv kdl kkv _ HKE.out HL3.out HTL.out).mono ?_); rintro e4 w4 ⟨rfl, ρ4, qw4, o4, m4⟩; have HM4 : Hid (Mv w2 ρ2 w4 ρ4) := HM3.out.trans m4; have HO4 := hid o4; have HS3 := hid (HSF.out w4 ρ4 HM4.out); clear o4 m4))
 all_goals
  go_wp2_with fail
  go_end0
  exact ⟨rfl, ρ4, qw4, by rw [← HIN.out, ← HL.out]; exact HO4.out, HMV.out.trans HM4.out⟩
end
section
variable {w0 w w' W wr : World} {ρ ρ' ρj : Nat → Nat} {m most : Nat} {s s' t : St} {q q' qj : Wh}
theorem next_any (h : RnO w0 w ρ m most s q) (hmost : most ≤ 1000000) (hsm : s.steps ≤ most) (H : Sm s) (hF : Hp.FewP s.T) (hr : next most s = some s') :
  Calls Tryz.prog 56 #[.pointer (some ⟨m, 0, none⟩)] w (RnPost w0 ρ m most s' w) := by
 unfold next at hr
 cases ht : s.todo with
 | nil => rw [ht] at hr; cases hr
 | cons y l =>
  rw [ht] at hr
  obtain ⟨d, e, env, pos⟩ := y
  dsimp only at hr
  cases hsT : smallT ⟨d, e, env, pos⟩ with
  | false => rw [hsT, if_pos rfl] at hr; cases hr
  | true =>
   rw [hsT, if_neg (by decide)] at hr
   unfold smallT at hsT
   simp only [Bool.and_eq_true, decide_eq_true_eq] at hsT
   obtain ⟨⟨hel, henl⟩, hekl⟩ := hsT
   by_cases hd : d = 0
   ·rw [if_pos hd] at hr
    exact next_eval h ht hd H hel henl hekl hmost hsm hr
   rw [if_neg hd] at hr
   clear hd
   by_cases hd : d = 1
   ·rw [if_pos hd] at hr
    by_cases hv : s.vals = []
    ·rw [if_pos hv] at hr; cases hr
    ·rw [if_neg hv] at hr
     cases hr
     obtain ⟨v, r, e⟩ : ∃ v r, s.vals = v :: r := by cases h : s.vals with | nil => exact absurd h hv | cons v r => exact ⟨v, r, rfl⟩
     exact next_drop h ht hd H hel henl hekl v (by rw [e]; rfl)
   rw [if_neg hd] at hr
   clear hd
   by_cases hd : d = 2
   ·rw [if_pos hd] at hr
    obtain ⟨v, hv, hr⟩ := Option.bind_eq_some_iff.1 hr
    obtain ⟨s1, h1, rfl⟩ := Option.map_eq_some_iff.1 hr
    unfold setC at h1
    split at h1
    ·cases h1
    ·rename_i hp
     cases h1
     obtain ⟨k, rfl⟩ : ∃ k : Nat, pos = k := ⟨pos.toNat, by omega⟩
     exact next_set h ht hd H hel henl hekl v hv k rfl (by have : ¬ (s.cells.length : Int) ≤ k := fun e => hp (.inr e); omega)
   rw [if_neg hd] at hr
   clear hd
   by_cases hd : d = 3
   ·rw [if_pos hd] at hr
    cases hr
   rw [if_neg hd] at hr
   clear hd
   by_cases hd : d = 4
   ·rw [if_pos hd] at hr
    split at hr
    ·rename_i hp
     obtain ⟨k, rfl⟩ : ∃ k : Nat, pos = k := ⟨pos.toNat, by omega⟩
     have hkl : k ≤ s.vals.length := by omega
     have hl := popped_length s k hkl
     rw [Int.toNat_natCast] at hr
     cases hpp : s.popped k with
     | nil => rw [hpp] at hl; simp at hl; omega
     | cons v lr =>
      rw [hpp] at hl
      have hpp2 : ({ s with todo := l } : St).popped k = v :: lr := hpp
      rw [hpp2] at hr
      exact next_call h ht hd H hel henl hekl v lr k rfl (by simpa using hl) hkl hpp hr
    ·cases hr
   rw [if_neg hd] at hr
   clear hd
   by_cases hd : d = 5
   ·rw [if_pos hd] at hr
    split at hr
    ·rename_i hkl
     exact next_prim h ht hd H hel henl hekl _ (popped_length s _ hkl) hF hkl rfl hr
    ·cases hr
   rw [if_neg hd] at hr
   clear hd
   by_cases hd : d = 6
   ·rw [if_pos hd] at hr
    split at hr
    ·rename_i hkl
     obtain ⟨kd, hkd, rfl⟩ := Option.map_eq_some_iff.1 hr
     exact next_let h ht hd H hel henl hekl _ (popped_length s _ hkl) hkl rfl kd hkd
    ·cases hr
   rw [if_neg hd] at hr
   clear hd
   by_cases hd : d = 7
   ·rw [if_pos hd] at hr
    cases hr
   rw [if_neg hd] at hr
   cases hr
def may (most : Nat) (s : St) : Bool := fits s && s.T.all (fun t => decide (t.parts.length ≤ 1000000)) && decide (s.steps ≤ most)
structure May (most : Nat) (s : St) : Prop where
 sm : Sm s
 few : Hp.FewP s.T
 steps : s.steps ≤ most
theorem may_of (h : may most s = true) : May most s := by
 unfold may at h
 simp only [Bool.and_eq_true, decide_eq_true_eq, List.all_eq_true] at h
 exact ⟨sm_of h.1.1, fun t ht => h.1.2 t ht, h.2⟩
def turns (most : Nat) : Nat → St → Option St
 | 0, _ => none
 | n + 1, s => if may most s = false then none else if s.err ≠ 0 ∨ s.todo = [] then some s else (next most s).bind (turns most n)
end
end Rn
theorem res3 {fn : Func} {p q r : Tmp} {ty : TypeId} (h : fn.results = #[.cell p ty, .tmp q, .tmp r]) (tmps : Array Value) (w : World) (g : Nat) (t : TypeId) (cs : Array Value) (fr : Nat × Nat)
  (hp : tmps.getD p undef = .pointer (some ⟨g, 0, none⟩)) (hg : w.heap[g]? = some (.cells cs t fr)) (hd : ∃ fs, Tryz.prog.underlying ty = some (.struct fs)) (hi : (Tryz.prog.info? ty).map (·.size) = some cs.size) :
  (results fn tmps).run Tryz.prog w = .ok (.tuple #[.agg cs, tmps.getD q undef, tmps.getD r undef]) w := by
 obtain ⟨fs, hu⟩ := hd
 have hp' : tmps[p]?.getD undef = .pointer (some ⟨g, 0, none⟩) := by simpa using hp
 simp [results, h, hp', asAddr, run_loadVar_row w g t ty cs fr _ hg hu rfl hi]
def RTOut (r : Option (Dt × Nat)) (w : World) (e : Ending) (w' : World) : Prop :=
 ∃ (d : Dt) (a : Option Addr) (c : Nat) (ok : Bool) (s : Nat), e = .returned (.tuple #[.agg #[.int .i64 d.kind, .int .i64 d.int, .string d.text, .slice a d.list.length c], .int .i64 s, .bool ok]) ∧ DtAt w' (fun b => w.heap.size ≤ b) (.agg #[.int .i64 d.kind, .int .i64 d.int, .string d.text, .slice a d.list.length c]) d ∧ Below w.heap.size w w' ∧ (ok = true → ∃ left, r = some (d, left) ∧ s + left = 200) ∧ (ok = false → r = none)
theorem rtout_no {w w3 : World} (s : Nat) (hs : Below w.heap.size w w3) : RTOut none w (.returned (.tuple #[.agg #[.int .i64 0, .int .i64 0, .string ⟨#[]⟩, .slice none 0 0], .int .i64 s, .bool false])) w3 :=
 ⟨.mk 0 0 ⟨#[]⟩ [], none, 0, false, s, rfl, .nil _ _ _, hs, fun e => (by cases e), fun _ => rfl⟩
theorem rtout_leaf {w w3 : World} {s left : Nat} (hs : Below w.heap.size w w3) (hl : s + left = 200) (k i : Int) (t : ByteArray) : RTOut (some (.mk k i t [], left)) w (.returned (.tuple #[.agg #[.int .i64 k, .int .i64 i, .string t, .slice none 0 0], .int .i64 s, .bool true])) w3 :=
 ⟨.mk k i t [], none, 0, true, s, rfl, .nil k i t, hs, fun _ => ⟨left, rfl, hl⟩, fun e => by cases e⟩
set_option maxHeartbeats 2000000 in
set_option maxRecDepth 100000 in
theorem rtell_no (T : List Hp.Th) (n h : Nat) (v : Hp.V) (deep left s : Nat) (w : World) (hs : s + left = 200) (hno : left = 0 ∨ 32 < deep) :
  Calls Tryz.prog 76 #[.pointer (some ⟨h, 0, none⟩), v.val, .int .i64 deep, .int .i64 s] w (RTOut (Hp.tellF T n v deep left) w) := by
 have e : Hp.tellF T n v deep left = none := by
  cases n with
  | zero => rfl
  | succ n => rw [Hp.tellF, if_pos hno]
 rw [e]
 have HB : Hid (∀ o p, Below w.heap.size w ((w.alloc o).alloc p)) := fun o p => ((Below.refl _ _).alloc (Nat.le_refl _) _).alloc (by simp) _
 unfold Hp.V.val
 by_cases h0 : left = 0
 ·have g1 : decide ((200 : Int) ≤ s) = true := decide_eq_true (by omega)
  clear hno h0 e hs
  go_enter Tryz.func76, Tryz.ntmps76
  go_wp2_with fail
  refine bodyPost_ret (res3 rfl _ _ (w.heap.size + 1) 25 _ (0, 0) rfl (heap_new (by simp)) datumD datumSize) rfl ?_
  exact rtout_no s (HB.out _ _)
 ·have g1 : decide ((200 : Int) ≤ s) = false := decide_eq_false (by omega)
  have g2 : decide ((32 : Int) < deep) = true := decide_eq_true (by omega)
  clear hno h0 e hs
  go_enter Tryz.func76, Tryz.ntmps76
  go_wp2_with fail
  refine bodyPost_ret (res3 rfl _ _ (w.heap.size + 1) 25 _ (0, 0) rfl (heap_new (by simp)) datumD datumSize) rfl ?_
  exact rtout_no s (HB.out _ _)
set_option maxHeartbeats 8000000 in
set_option maxRecDepth 100000 in
theorem rtell_leaf (h : Nat) (v : Hp.V) (deep left s : Nat) (w : World) (hs : s + left = 200) (h0 : left ≠ 0) (hd : deep ≤ 32) (hk : (v.kind = 1 ∨ v.kind = 2 ∨ v.kind = 4 ∨ v.kind = 0) ∨ (v.kind = 3 ∨ v.kind = 5 ∨ v.kind = 6 ∨ v.kind = 7)) :
  Calls Tryz.prog 76 #[.pointer (some ⟨h, 0, none⟩), v.val, .int .i64 deep, .int .i64 s] w (RTOut (some (Hp.leafD v, left - 1)) w) := by
 have g1 : decide ((200 : Int) ≤ s) = false := decide_eq_false (by omega)
 have g2 : decide ((32 : Int) < deep) = false := decide_eq_false (by omega)
 have g3 : (0 : Int) ≤ s := by omega
 have g4 : (s : Int) ≤ 200 := by omega
 have g5 : IntKind.i64.wrap ((s : Int) + 1) = s + 1 := by rw [IntKind.wrap_i64]; omega
 have HE : Hid (s + 1 + (left - 1) = 200) := by show _ = _; omega
 have HB : Hid (∀ o p q r, Below w.heap.size w ((((w.alloc o).alloc p).alloc q).alloc r)) := fun o p q r => ((((Below.refl _ _).alloc (Nat.le_refl _) _).alloc (by simp) _).alloc (by simp; omega) _).alloc (by simp; omega) _
 obtain ⟨vk, vi, vt⟩ := v
 clear h0 hd hs
 unfold Hp.V.val
 dsimp only at *
 rcases hk with (rfl | rfl | rfl | rfl) | (rfl | rfl | rfl | rfl)
 all_goals
  go_enter Tryz.func76, Tryz.ntmps76
  go_wp2_with fail
  refine bodyPost_ret (res3 rfl _ _ (w.heap.size + 1) 25 _ (0, 0) rfl ((heap_alloc_old _ _ (by simp)).trans ((heap_alloc_old _ _ (by simp)).trans (heap_new (by simp)))) datumD datumSize) rfl ?_
  exact rtout_leaf (s := s + 1) (HB.out _ _ _ _) HE.out _ _ _
theorem rtell_n {h : Nat} {T : List Hp.Th} (n : Nat) (v : Hp.V) (deep left s : Nat) (w : World) (h2 : s + left = 200) (h4 : Hp.may T.length v = true) (h8 : v.kind ≠ 8) :
  Calls Tryz.prog 76 #[.pointer (some ⟨h, 0, none⟩), v.val, .int .i64 deep, .int .i64 s] w (RTOut (Hp.tellF T (n + 1) v deep left) w) := by
 by_cases hno : left = 0 ∨ 32 < deep
 ·exact rtell_no _ (n + 1) h v deep left s w h2 hno
 ·have e : Hp.tellF T (n + 1) v deep left = some (Hp.leafD v, left - 1) := by
   rw [Hp.tellF, if_neg hno, if_neg h8]
  rw [e]
  refine rtell_leaf h v deep left s w h2 (fun e => hno (.inl e)) (by omega) ?_
  rcases Hp.may_kinds h4 with hk | hk | hk
  ·exact .inl hk
  ·exact .inr hk
  ·exact absurd hk h8
set_option maxHeartbeats 4000000 in
set_option maxRecDepth 100000 in
theorem RTell_any {h : Nat} {O : Nat → Prop} {T : List Hp.Th} (v : Hp.V) (w : World) (H : HSt w 76 h O T) (h8 : v.kind ≠ 8) (ht : v.text.size ≤ maxLen) :
  Calls Tryz.prog 57 #[.pointer (some ⟨h, 0, none⟩), v.val] w (DtOut (Hp.tellT T v) w) := by
 obtain ⟨vt, M, HA, rfl⟩ := H
 have hhl := HA.lth
 obtain ⟨a, c, rfl⟩ := HA.shape
 have HM : Hid (∀ w1, Below w.heap.size w w1 → Calls Tryz.prog 75 #[.pointer (some ⟨h, 0, none⟩), v.val] w1 fun e w' => e = .returned (.bool (Hp.may M.length v)) ∧ Below w1.heap.size w1 w') := fun w1 hb => rmay_any h M.length c a v ht w1 (HA.below hb (Nat.le_refl _)).c0 (HA.below hb (Nat.le_refl _)).lth
 have HHA := hid HA
 have HW := hid h8
 have hb1 := ((Below.refl w.heap.size w).alloc (Nat.le_refl _) (.cells #[.int .i64 v.kind, .int .i64 v.int, .string v.text] 78)).alloc (by simp) (.cells #[.int .i64 0, .int .i64 0, .string ⟨#[]⟩, .slice none 0 0] 25)
 have HB1 := hid hb1
 clear HA h8 hb1
 cases hm : Hp.may M.length v with
 | false =>
  have e : Hp.tellT (M.map (·.1)) v = none := by rw [Hp.tellT, List.length_map, hm]; rfl
  rw [e]
  rw [hm] at HM
  clear e hm
  unfold Hp.V.val at *
  go_enter Tryz.func57, Tryz.ntmps57
  go_wp2_with fail
  with_reducible refine (HM.out _ HB1.out).mono ?_
  rintro e w3 ⟨rfl, hb3⟩
  have hr3 : w3.heap[w.heap.size + 1]? = some (.cells #[.int .i64 0, .int .i64 0, .string ⟨#[]⟩, .slice none 0 0] 25 (0, 0)) := (hb3.block _ (by simp)).trans (heap_new (by simp))
  obtain ⟨t0, t1, t2, t3, y0, y1, y2, y3⟩ := Blk4.of hr3
  have HR3 := hid hr3
  have HB3 := hid (HB1.out.trans (hb3.mono (by simp; omega)))
  clear hr3 hb3
  go_wp2_with fail
  refine bodyPost_ret (res2 rfl _ _ (w.heap.size + 1) 25 _ (0, 0) rfl (four_set _ _ _ _ _ _ _ _ _ _ _ HR3.out) datumD datumSize) rfl ?_
  exact dtout_no (below_four HB3.out (by omega) _ _ _ _)
 | true =>
  have HE : Hid (Hp.tellT (M.map (·.1)) v = (Hp.tellF (M.map (·.1)) 200 v 0 200).map (·.1)) := by show _ = _; rw [Hp.tellT, List.length_map, hm]; rfl
  have HMM := hid hm
  rw [hm] at HM
  clear hm
  have HT : Hid (∀ (w1 : World), HpAt w1 76 h O (.slice a M.length c) M → Calls Tryz.prog 76 #[.pointer (some ⟨h, 0, none⟩), v.val, .int .i64 0, .int .i64 0] w1 (RTOut (Hp.tellF (M.map (·.1)) 200 v 0 200) w1)) := fun w1 h1 =>
   rtell_n (T := M.map (·.1)) 199 v 0 200 0 w1 (by omega) (by rw [List.length_map]; exact HMM.out) HW.out
  rw [HE.out]
  generalize Hp.tellF (M.map (·.1)) 200 v 0 200 = r at *
  clear HE
  unfold Hp.V.val at *
  go_enter Tryz.func57, Tryz.ntmps57
  go_wp2_with fail
  with_reducible refine (HM.out _ HB1.out).mono ?_
  rintro e w3 ⟨rfl, hb3⟩
  have hr3 : w3.heap[w.heap.size + 1]? = some (.cells #[.int .i64 0, .int .i64 0, .string ⟨#[]⟩, .slice none 0 0] 25 (0, 0)) := (hb3.block _ (by simp)).trans (heap_new (by simp))
  have hx3 : w3.heap[w.heap.size]? = some (.cells #[.int .i64 v.kind, .int .i64 v.int, .string v.text] 78 (0, 0)) := (hb3.block _ (by simp; omega)).trans ((heap_alloc_old _ _ (by simp)).trans (heap_new rfl))
  have hz3 : w.heap.size + 1 < w3.heap.size := by have := hb3.size; simp at this; omega
  have hz3' : w.heap.size < w3.heap.size := by omega
  have q0 := cell_of_row w3 _ 0 _ _ _ hx3
  have q1 := cell_of_row w3 _ 1 _ _ _ hx3
  have q2 := cell_of_row w3 _ 2 _ _ _ hx3
  simp only [List.getElem?_toArray, List.getElem?_cons_zero, List.getElem?_cons_succ] at q0 q1 q2
  have HR3 := hid hr3
  have HB3 := hid (HB1.out.trans (hb3.mono (by simp; omega)))
  have HHA3 := hid (HHA.out.below HB3.out (Nat.le_refl _))
  clear hr3 hb3 hx3
  go_wp2_with fail
  with_reducible refine (HT.out w3 HHA3.out).mono ?_
  rintro e w5 ⟨d, ad, cd, ok, s5, rfl, hd, hb5, h4, h5⟩
  have hr5 : w5.heap[w.heap.size + 1]? = some (.cells #[.int .i64 0, .int .i64 0, .string ⟨#[]⟩, .slice none 0 0] 25 (0, 0)) := (hb5.block _ hz3).trans HR3.out
  have hz5 : w.heap.size + 1 < w5.heap.size := by have := hb5.size; omega
  obtain ⟨t0, t1, t2, t3, y0, y1, y2, y3⟩ := Blk4.of hr5
  have HR5 := hid hr5
  have HB5 := hid (HB3.out.trans (hb5.mono (by omega)))
  have HD5 := hid hd
  cases ok with
  | false =>
   have hn : r = none := h5 rfl
   clear hr5 hd hb5 h4 h5
   subst hn
   go_wp2_with fail
   refine bodyPost_ret (res2 rfl _ _ (w.heap.size + 1) 25 _ (0, 0) rfl ((heap_alloc_old _ _ (by simpa [World.setCell] using hz5)).trans (four_set _ _ _ _ _ _ _ _ _ _ _ HR5.out)) datumD datumSize) rfl ?_
   exact dtout_no ((below_four HB5.out (by omega) _ _ _ _).alloc (by simp [World.setCell]; omega) _)
  | true =>
   obtain ⟨left, hr, _⟩ := h4 rfl
   clear hr5 hd hb5 h4 h5
   subst hr
   go_wp2_with fail
   refine bodyPost_ret (res2 rfl _ _ (w.heap.size + 1) 25 _ (0, 0) rfl ((heap_alloc_old _ _ (by simpa [World.setCell] using hz5)).trans (four_set _ _ _ _ _ _ _ _ _ _ _ HR5.out)) datumD datumSize) rfl ?_
   have hB := below_four HB5.out (g := w.heap.size + 1) (by omega) (.int .i64 d.kind) (.int .i64 d.int) (.string d.text) (.slice ad d.list.length cd)
   have hD := HD5.out.four (g := w.heap.size + 1) (fun b hb => by omega) (.int .i64 d.kind) (.int .i64 d.int) (.string d.text) (.slice ad d.list.length cd)
   exact ⟨d, ad, cd, rfl, (hD.bel ((Below.refl _ _).alloc (Nat.le_refl _) _) (Nat.le_refl _)).mono fun b hb _ => by omega, hB.alloc (by simp [World.setCell]; omega) _, rfl⟩
namespace Rn
theorem outcomeD : ∃ fs, Tryz.prog.underlying 51 = some (.struct fs) := ⟨_, Tryz.underlying51⟩
theorem outcomeSize : (Tryz.prog.info? 51).map (·.size) = some 8 := by kernel_rfl
structure Res8 (w : World) (b : Nat) (a0 a1 a2 a3 a4 a5 a6 a7 : Value) : Prop where
 c0 : w.cell? ⟨b, 0, none⟩ = some a0
 c1 : w.cell? ⟨b, 1, none⟩ = some a1
 c2 : w.cell? ⟨b, 2, none⟩ = some a2
 c3 : w.cell? ⟨b, 3, none⟩ = some a3
 c4 : w.cell? ⟨b, 4, none⟩ = some a4
 c5 : w.cell? ⟨b, 5, none⟩ = some a5
 c6 : w.cell? ⟨b, 6, none⟩ = some a6
 c7 : w.cell? ⟨b, 7, none⟩ = some a7
 f : ∀ i, w.frozen? ⟨b, i, none⟩ = false
theorem Res8.of {w : World} {b : Nat} {a0 a1 a2 a3 a4 a5 a6 a7 : Value} {ty : TypeId} (h : w.heap[b]? = some (.cells #[a0, a1, a2, a3, a4, a5, a6, a7] ty (0, 0))) : Res8 w b a0 a1 a2 a3 a4 a5 a6 a7 :=
 ⟨cell_of_row w _ 0 _ _ _ h, cell_of_row w _ 1 _ _ _ h, cell_of_row w _ 2 _ _ _ h, cell_of_row w _ 3 _ _ _ h, cell_of_row w _ 4 _ _ _ h, cell_of_row w _ 5 _ _ _ h, cell_of_row w _ 6 _ _ _ h, cell_of_row w _ 7 _ _ _ h, fun i => frozen_of_row w _ i _ _ h⟩
theorem out_set (w : World) (g : Nat) (a0 a1 a2 a3 a4 a5 a6 a7 b0 b1 b2 b3 b4 b5 b6 b7 : Value) {t : TypeId} (h : w.heap[g]? = some (.cells #[a0, a1, a2, a3, a4, a5, a6, a7] t (0, 0))) :
  ((((((((w.setCell ⟨g, 0, none⟩ b0).setCell ⟨g, 1, none⟩ b1).setCell ⟨g, 2, none⟩ b2).setCell ⟨g, 3, none⟩ b3).setCell ⟨g, 4, none⟩ b4).setCell ⟨g, 5, none⟩ b5).setCell ⟨g, 6, none⟩ b6).setCell ⟨g, 7, none⟩ b7).heap[g]? = some (.cells #[b0, b1, b2, b3, b4, b5, b6, b7] t (0, 0)) := by
 have h0 : (w.setCell ⟨g, 0, none⟩ b0).heap[g]? = some (.cells #[b0, a1, a2, a3, a4, a5, a6, a7] t (0, 0)) := heap_setCell_same _ g 0 _ _ b0 h
 have h1 : ((w.setCell ⟨g, 0, none⟩ b0).setCell ⟨g, 1, none⟩ b1).heap[g]? = some (.cells #[b0, b1, a2, a3, a4, a5, a6, a7] t (0, 0)) := heap_setCell_same _ g 1 _ _ b1 h0
 have h2 : (((w.setCell ⟨g, 0, none⟩ b0).setCell ⟨g, 1, none⟩ b1).setCell ⟨g, 2, none⟩ b2).heap[g]? = some (.cells #[b0, b1, b2, a3, a4, a5, a6, a7] t (0, 0)) := heap_setCell_same _ g 2 _ _ b2 h1
 have h3 : ((((w.setCell ⟨g, 0, none⟩ b0).setCell ⟨g, 1, none⟩ b1).setCell ⟨g, 2, none⟩ b2).setCell ⟨g, 3, none⟩ b3).heap[g]? = some (.cells #[b0, b1, b2, b3, a4, a5, a6, a7] t (0, 0)) := heap_setCell_same _ g 3 _ _ b3 h2
 have h4 : (((((w.setCell ⟨g, 0, none⟩ b0).setCell ⟨g, 1, none⟩ b1).setCell ⟨g, 2, none⟩ b2).setCell ⟨g, 3, none⟩ b3).setCell ⟨g, 4, none⟩ b4).heap[g]? = some (.cells #[b0, b1, b2, b3, b4, a5, a6, a7] t (0, 0)) := heap_setCell_same _ g 4 _ _ b4 h3
 have h5 : ((((((w.setCell ⟨g, 0, none⟩ b0).setCell ⟨g, 1, none⟩ b1).setCell ⟨g, 2, none⟩ b2).setCell ⟨g, 3, none⟩ b3).setCell ⟨g, 4, none⟩ b4).setCell ⟨g, 5, none⟩ b5).heap[g]? = some (.cells #[b0, b1, b2, b3, b4, b5, a6, a7] t (0, 0)) := heap_setCell_same _ g 5 _ _ b5 h4
 have h6 : (((((((w.setCell ⟨g, 0, none⟩ b0).setCell ⟨g, 1, none⟩ b1).setCell ⟨g, 2, none⟩ b2).setCell ⟨g, 3, none⟩ b3).setCell ⟨g, 4, none⟩ b4).setCell ⟨g, 5, none⟩ b5).setCell ⟨g, 6, none⟩ b6).heap[g]? = some (.cells #[b0, b1, b2, b3, b4, b5, b6, a7] t (0, 0)) := heap_setCell_same _ g 6 _ _ b6 h5
 have h7 : ((((((((w.setCell ⟨g, 0, none⟩ b0).setCell ⟨g, 1, none⟩ b1).setCell ⟨g, 2, none⟩ b2).setCell ⟨g, 3, none⟩ b3).setCell ⟨g, 4, none⟩ b4).setCell ⟨g, 5, none⟩ b5).setCell ⟨g, 6, none⟩ b6).setCell ⟨g, 7, none⟩ b7).heap[g]? = some (.cells #[b0, b1, b2, b3, b4, b5, b6, b7] t (0, 0)) := heap_setCell_same _ g 7 _ _ b7 h6
 exact h7
structure Boxed (w w1 : World) (cs : Array Value) (t : TypeId) : Prop where
 eq : w1 = w.alloc (.cells cs t)
 below : Below w.heap.size w w1
 size : w1.heap.size = w.heap.size + 1
 blk : w1.heap[w.heap.size]? = some (.cells cs t (0, 0))
theorem boxed (w : World) (cs : Array Value) (t : TypeId) : ∃ w1, Boxed w w1 cs t := ⟨_, rfl, (Below.refl _ _).alloc (Nat.le_refl _) _, by simp, heap_alloc_new w _⟩
theorem cell_set_block (w : World) (v : Value) {m b i j : Nat} (h : b ≠ m) : (w.setCell ⟨m, i, none⟩ v).cell? ⟨b, j, none⟩ = w.cell? ⟨b, j, none⟩ := World.cell?_of_block (a := ⟨b, j, none⟩) (heap_setCell_other _ _ _ _ h)
theorem conv_out {w : World} {a : Option Addr} {n cc : Nat} (l : List UInt8) (hn : n = l.length) (h : w.ownsRow 0 5 1 (.slice a n cc) n (l.map fun b => Value.int .u8 b.toNat)) (k : Nat) : (convert 39 9 (.slice a n cc)).run Tryz.prog (w.drewN k) = .ok (.string ⟨l.toArray⟩) (w.drewN k) := by
 subst hn
 have h := own_drewN h k
 rcases own_shape h with ⟨e, e2, e3⟩ | ⟨g, cap, e, h0, h1, h2, h3⟩
 ·simp at e
  obtain ⟨rfl, h0, rfl⟩ := e
  have : l = [] := h0
  subst this
  exact run_convert_bytes_nil _ 39 5 Tryz.underlying39 Tryz.underlying5 _ _ 9 Tryz.underlying9
 ·simp at e
  obtain ⟨rfl, rfl⟩ := e
  have hmap : (l.map fun b => (b.toNat : Int)).map (fun x => UInt8.ofNat x.toNat) = l := by
   rw [List.map_map]
   conv => rhs; rw [← List.map_id l]
   apply List.map_congr_left
   intro b _
   simp
  have := run_convert_bytes_arg (w.drewN k) 39 5 Tryz.underlying39 Tryz.underlying5 g 0 l.length cc (l.map fun b => (b.toNat : Int)) (by simp) (fun i hi => ?_) 9 Tryz.underlying9
  ·rw [this]
   unfold strOfNums
   rw [hmap]
  ·rw [Nat.zero_add, h.cellAt i (by omega)]
   simp [List.getD, List.getElem?_eq_getElem hi]
theorem below8 {B : Nat} {w0 w : World} {g : Nat} (h : Below B w0 w) (hg : B ≤ g) (b0 b1 b2 b3 b4 b5 b6 b7 : Value) : Below B w0 ((((((((w.setCell ⟨g, 0, none⟩ b0).setCell ⟨g, 1, none⟩ b1).setCell ⟨g, 2, none⟩ b2).setCell ⟨g, 3, none⟩ b3).setCell ⟨g, 4, none⟩ b4).setCell ⟨g, 5, none⟩ b5).setCell ⟨g, 6, none⟩ b6).setCell ⟨g, 7, none⟩ b7) :=
 (((((((h.setCell (p := ⟨g, 0, none⟩) hg _).setCell (p := ⟨g, 1, none⟩) hg _).setCell (p := ⟨g, 2, none⟩) hg _).setCell (p := ⟨g, 3, none⟩) hg _).setCell (p := ⟨g, 4, none⟩) hg _).setCell (p := ⟨g, 5, none⟩) hg _).setCell (p := ⟨g, 6, none⟩) hg _).setCell (p := ⟨g, 7, none⟩) hg _
theorem drew_at {w : World} {g : Nat} {o : Option Obj} (h : w.heap[g]? = o) : w.drew.heap[g]? = o := h
theorem five_at {w : World} {q g i0 i1 i2 i3 i4 : Nat} {u0 u1 u2 u3 u4 : Value} {o : Option Obj} (hn : g ≠ q) (h : w.heap[g]? = o) : (((((w.setCell ⟨q, i0, none⟩ u0).setCell ⟨q, i1, none⟩ u1).setCell ⟨q, i2, none⟩ u2).setCell ⟨q, i3, none⟩ u3).setCell ⟨q, i4, none⟩ u4).heap[g]? = o := by
 rw [heap_setCell_other _ _ _ _ hn, heap_setCell_other _ _ _ _ hn, heap_setCell_other _ _ _ _ hn, heap_setCell_other _ _ _ _ hn, heap_setCell_other _ _ _ _ hn]
 exact h
def wfB (s : St) : Bool := match s.vals.getLast? with
 | none => false
 | some v => decide (v.kind ≠ 8)
def outR (s : St) : Option Out := if s.err ≠ 0 then some ⟨s.err, s.out, none, s.steps⟩ else if wfB s = false then none else match s.vals.getLast? with | none => none | some v => some ⟨0, s.out, Hp.tellT s.T v, s.steps⟩
def runR (n : Nat) (e : Ex) (input : List UInt8) (most : Nat) : Option Out := (turns most n (start e input)).bind outR
def RunPost (o : Out) (w : World) (e : Ending) (w' : World) : Prop :=
 ∃ (d : Dt) (a : Option Addr) (c : Nat), e = .returned (.agg #[.int .i64 o.err, .string ⟨o.output.toArray⟩, .int .i64 d.kind, .int .i64 d.int, .string d.text, .slice a d.list.length c, .bool o.shown.isSome, .int .i64 o.steps]) ∧ DtAt w' (fun b => w.heap.size ≤ b) (.agg #[.int .i64 d.kind, .int .i64 d.int, .string d.text, .slice a d.list.length c]) d ∧ Below w.heap.size w w' ∧ d = o.shown.getD (.mk 0 0 ⟨#[]⟩ [])
def st0 (input : List UInt8) : St := ⟨[], [], [], input, [], ⟨4, 0, ⟨#[]⟩⟩, 0, [], [], 0⟩
def wh0 (h : Nat) : Wh := ⟨h, .slice none 0 0, .slice none 0 0, .slice none 0 0, .slice none 0 0, .slice none 0 0, [], []⟩
def rho0 (h m : Nat) : Nat → Nat := fun b => if b = m then 1 else if b = h then 5 else 0
theorem RnO.init {w0 W : World} {h m most : Nat} (input : List UInt8) (hB : Below w0.heap.size w0 W) (hh : w0.heap.size ≤ h) (hhm : h < m) (hh1 : W.heap[h]? = some (.cells #[.slice none 0 0] 76 (0, 0))) (hm1 : W.heap[m]? = some (.cells (mCells (st0 input) most (wh0 h)) 83 (0, 0))) :
  RnO w0 W (rho0 h m) m most (st0 input) (wh0 h) := by
 have hl1 := (Array.getElem?_eq_some_iff.1 hh1).1
 have hl2 := (Array.getElem?_eq_some_iff.1 hm1).1
 have hr : ∀ b, rho0 h m b ≠ 0 → b = m ∨ b = h := fun b e => by
  unfold rho0 at e
  split at e
  ·exact .inl (by assumption)
  ·split at e
   ·exact .inr (by assumption)
   ·exact absurd rfl e
 have h5 : rho0 h m h = 5 := by unfold rho0; rw [if_neg (by omega), if_pos rfl]
 have hnil : ∀ r ty size, RowR W (rho0 h m) r ty size 0 (.slice none 0 0) [] := fun r ty size => RowR.none W _ r ty size
 refine ⟨⟨⟨.slice none 0 0, [], ⟨hh1, (hnil 0 _ 2).1, (fun m hm => nomatch hm), (by simp [Value.ownBlock]), (fun m hm => nomatch hm), (fun m hm => nomatch hm), List.Pairwise.nil, ⟨h5, (fun b e => by cases e), (fun m hm => nomatch hm)⟩, fun b e => ?_⟩, rfl⟩, hnil _ _ _, hnil _ _ _, hnil _ _ _, hnil _ _ _, hnil _ _ _, rfl, rfl, (fun x hx => nomatch hx), (fun x hx => nomatch hx), by unfold rho0; rw [if_pos rfl], fun b e => ?_, hB⟩, hm1⟩
 ·rcases hr b (by rw [e]; decide) with rfl | rfl <;> omega
 ·rcases hr b e with rfl | rfl <;> omega
theorem turns_cases {most n : Nat} {s r : St} (h : turns most n s = some r) : ∃ k, n = k + 1 ∧ May most s ∧ ((r = s ∧ (s.err ≠ 0 ∨ (s.err = 0 ∧ s.todo = []))) ∨ (s.err = 0 ∧ s.todo ≠ [] ∧ ∃ s1, next most s = some s1 ∧ turns most k s1 = some r)) := by
 cases n with
 | zero => cases h
 | succ k =>
  refine ⟨k, rfl, ?_⟩
  unfold turns at h
  cases hm : may most s with
  | false => rw [hm, if_pos rfl] at h; cases h
  | true =>
   rw [hm, if_neg (by decide)] at h
   refine ⟨may_of hm, ?_⟩
   split at h
   ·rename_i hc
    cases h
    refine .inl ⟨rfl, ?_⟩
    by_cases he : s.err = 0
    ·exact .inr ⟨he, hc.resolve_left (fun h => h he)⟩
    ·exact .inl he
   ·rename_i hc
    obtain ⟨s1, h1, h2⟩ := Option.bind_eq_some_iff.1 h
    exact .inr ⟨by by_cases he : s.err = 0; exact he; exact absurd (.inl he) hc, fun h => hc (.inr h), s1, h1, h2⟩
structure Lp (w wx : World) (m R most : Nat) (r : St) (gk : Nat) : Prop where
 ex : ∃ ρ q s, RnO w wx ρ m most s q ∧ turns most gk s = some r ∧ ρ R = 0 ∧ wx.heap[R]? = some (.cells #[.int .i64 0, .string ⟨#[]⟩, .int .i64 0, .int .i64 0, .string ⟨#[]⟩, .slice none 0 0, .bool false, .int .i64 0] 51 (0, 0))
theorem tc_set {w : World} {m g q i : Nat} {a b v0 v1 v2 u : Value} (h : w.cell? ⟨m, 0, none⟩ = some a ∧ w.cell? ⟨m, 11, none⟩ = some b ∧ w.cell? ⟨g, 0, none⟩ = some v0 ∧ w.cell? ⟨g, 1, none⟩ = some v1 ∧ w.cell? ⟨g, 2, none⟩ = some v2) (h1 : m ≠ q) (h2 : g ≠ q) :
  (w.setCell ⟨q, i, none⟩ u).cell? ⟨m, 0, none⟩ = some a ∧ (w.setCell ⟨q, i, none⟩ u).cell? ⟨m, 11, none⟩ = some b ∧ (w.setCell ⟨q, i, none⟩ u).cell? ⟨g, 0, none⟩ = some v0 ∧ (w.setCell ⟨q, i, none⟩ u).cell? ⟨g, 1, none⟩ = some v1 ∧ (w.setCell ⟨q, i, none⟩ u).cell? ⟨g, 2, none⟩ = some v2 :=
 ⟨(cell_set_block _ _ h1).trans h.1, (cell_set_block _ _ h1).trans h.2.1, (cell_set_block _ _ h2).trans h.2.2.1, (cell_set_block _ _ h2).trans h.2.2.2.1, (cell_set_block _ _ h2).trans h.2.2.2.2⟩
theorem tc_of {w0 w : World} {ρ : Nat → Nat} {m most : Nat} {s : St} {q : Wh} {v : Hp.V} (h : RnO w0 w ρ m most s q) (hv : s.vals.getLast? = some v) : ∃ g c, (w.cell? ⟨m, 0, none⟩ = some (.pointer (some ⟨q.h, 0, none⟩)) ∧ w.cell? ⟨m, 11, none⟩ = some (.slice (some ⟨g, 0, none⟩) s.vals.length c) ∧ w.cell? ⟨g, 0, none⟩ = some (.int .i64 v.kind) ∧ w.cell? ⟨g, 1, none⟩ = some (.int .i64 v.int) ∧ w.cell? ⟨g, 2, none⟩ = some (.string v.text)) ∧ g < w.heap.size ∧ ρ g = 8 ∧ 0 < s.vals.length ∧ q.vv = .slice (some ⟨g, 0, none⟩) s.vals.length c := by
 have hvr : ∃ l, s.vals.reverse = v :: l := by
  rw [List.getLast?_eq_head?_reverse] at hv
  cases h : s.vals.reverse with
  | nil => rw [h] at hv; cases hv
  | cons u l => rw [h] at hv; cases hv; exact ⟨l, rfl⟩
 obtain ⟨l, hl⟩ := hvr
 have hlen : 0 < s.vals.length := by rw [← List.length_reverse, hl]; simp
 have hrow := h.c.vals
 have hrow1 := hrow.1
 rcases own_shape hrow1 with ⟨_, e2, _⟩ | ⟨g, c, e, h0, h1, h2, h3⟩
 ·omega
 ·rw [e] at hrow1
  rw [hl] at hrow1
  refine ⟨g, c, ⟨h.cell 0, by rw [h.cell 11, ← e]; rfl, ?_, ?_, ?_⟩, h1, hrow.2 g (by rw [e]; rfl), hlen, e⟩
  ·rw [hrow1.cellAt 0 (by omega)]; rfl
  ·rw [hrow1.cellAt 1 (by omega)]; rfl
  ·rw [hrow1.cellAt 2 (by omega)]; rfl
set_option maxHeartbeats 16000000 in
theorem Run_any {w : World} (e : Ex) (nv dl kv : Value) (input : List UInt8) (most n : Nat) (o : Out) (hmost : most ≤ 1000000) (hx : ExAt w (exV e.kind e.name nv e.const dl kv) e) (hrun : runR n e input most = some o)
  (hC : ∀ W, Below w.heap.size w W → Calls Tryz.prog 27 #[.agg #[.int .i64 e.kind, .string e.name, nv, .int .i64 e.const.kind, .int .i64 e.const.int, .string e.const.text, dl, kv]] W fun e w' => e = .returned (.int .i64 0) ∧ Below W.heap.size W w')
  (hF : ∀ W, Below w.heap.size w W → Calls Tryz.prog 30 #[.agg #[.int .i64 e.kind, .string e.name, nv, .int .i64 e.const.kind, .int .i64 e.const.int, .string e.const.text, dl, kv]] W fun e w' => (∃ a c, e = .returned (.slice a 0 c)) ∧ Below W.heap.size W w') :
  Calls Tryz.prog 34 #[.agg #[.int .i64 e.kind, .string e.name, nv, .int .i64 e.const.kind, .int .i64 e.const.int, .string e.const.text, dl, kv], .string ⟨input.toArray⟩, .int .i64 most] w (RunPost o w) := by
 have g1 : decide ((most : Int) < 0) = false := decide_eq_false (by omega)
 have g2 : decide ((1000000 : Int) < most) = false := decide_eq_false (by omega)
 have g2' : decide (1000000 < most) = false := decide_eq_false (by omega)
 obtain ⟨r, hr, ho⟩ := Option.bind_eq_some_iff.1 hrun
 obtain ⟨⟨na, nn, nc, rfl⟩, ⟨da, dn, dc, rfl⟩, ⟨ka, kn, kc, rfl⟩⟩ := ExAt.slices hx
 obtain ⟨w1, B1⟩ := boxed w #[.int .i64 e.kind, .string e.name, .slice na nn nc, .int .i64 e.const.kind, .int .i64 e.const.int, .string e.const.text, .slice da dn dc, .slice ka kn kc] 28
 obtain ⟨w2, B2⟩ := boxed w1 #[.int .i64 0, .string ⟨#[]⟩, .int .i64 0, .int .i64 0, .string ⟨#[]⟩, .slice none 0 0, .bool false, .int .i64 0] 51
 have hs1 := B1.size
 have hs2 := B2.size
 have hB2 : Below w.heap.size w w2 := B1.below.trans (B2.below.mono B1.below.size)
 have HCK := hid (hC w2 hB2)
 have HFR := hid hF
 have HE := hid hx
 have HR := hid hr
 have HO := hid ho
 have HB1 := hid B1
 have HB2 := hid B2
 have HB := hid hB2
 have k1 := (B2.below.block w.heap.size (by omega)).trans B1.blk
 have HK1 := hid k1
 have hl2 : w.heap.size < w2.heap.size := by omega
 have x0 := cell_of_row w2 w.heap.size 0 _ _ _ k1
 have x1 := cell_of_row w2 w.heap.size 1 _ _ _ k1
 have x2 := cell_of_row w2 w.heap.size 2 _ _ _ k1
 have x3 := cell_of_row w2 w.heap.size 3 _ _ _ k1
 have x4 := cell_of_row w2 w.heap.size 4 _ _ _ k1
 have x5 := cell_of_row w2 w.heap.size 5 _ _ _ k1
 have x6 := cell_of_row w2 w.heap.size 6 _ _ _ k1
 have x7 := cell_of_row w2 w.heap.size 7 _ _ _ k1
 simp only [List.getElem?_toArray, List.getElem?_cons_zero, List.getElem?_cons_succ] at x0 x1 x2 x3 x4 x5 x6 x7
 clear B1 B2 hB2 hC hF hx hr ho hrun k1
 go_enter Tryz.func34, Tryz.ntmps34
 go_wp2_with fail
 rw [← HB1.out.eq, ← HB2.out.eq]
 go_wp2_with fail
 with_reducible refine HCK.out.mono ?_
 rintro e2 w3 ⟨rfl, hb3⟩
 have HB3 : Hid (Below w.heap.size w w3) := HB.out.trans (hb3.mono HB.out.size)
 have k1 := (hb3.block w.heap.size hl2).trans HK1.out
 have HK3 := hid k1
 have hr3 := (hb3.block w1.heap.size (by omega)).trans HB2.out.blk
 have HR3 := hid hr3
 have hs3 := hb3.size
 have hl3 : w.heap.size < w3.heap.size := by omega
 have x0 := cell_of_row w3 w.heap.size 0 _ _ _ k1
 have x1 := cell_of_row w3 w.heap.size 1 _ _ _ k1
 have x2 := cell_of_row w3 w.heap.size 2 _ _ _ k1
 have x3 := cell_of_row w3 w.heap.size 3 _ _ _ k1
 have x4 := cell_of_row w3 w.heap.size 4 _ _ _ k1
 have x5 := cell_of_row w3 w.heap.size 5 _ _ _ k1
 have x6 := cell_of_row w3 w.heap.size 6 _ _ _ k1
 have x7 := cell_of_row w3 w.heap.size 7 _ _ _ k1
 simp only [List.getElem?_toArray, List.getElem?_cons_zero, List.getElem?_cons_succ] at x0 x1 x2 x3 x4 x5 x6 x7
 clear hb3 k1 hr3
 go_wp2_with fail
 with_reducible refine (HFR.out _ HB3.out).mono ?_
 rintro e2 w4 ⟨⟨fa, fc, rfl⟩, hb4⟩
 have HB4 : Hid (Below w.heap.size w w4) := HB3.out.trans (hb4.mono HB3.out.size)
 have k1 := (hb4.block w.heap.size hl3).trans HK3.out
 have HK4 := hid k1
 have hr4 := (hb4.block w1.heap.size (by omega)).trans HR3.out
 have HR4 := hid hr4
 have hs4 := hb4.size
 have hl4 : w.heap.size < w4.heap.size := by omega
 have x0 := cell_of_row w4 w.heap.size 0 _ _ _ k1
 have x1 := cell_of_row w4 w.heap.size 1 _ _ _ k1
 have x2 := cell_of_row w4 w.heap.size 2 _ _ _ k1
 have x3 := cell_of_row w4 w.heap.size 3 _ _ _ k1
 have x4 := cell_of_row w4 w.heap.size 4 _ _ _ k1
 have x5 := cell_of_row w4 w.heap.size 5 _ _ _ k1
 have x6 := cell_of_row w4 w.heap.size 6 _ _ _ k1
 have x7 := cell_of_row w4 w.heap.size 7 _ _ _ k1
 simp only [List.getElem?_toArray, List.getElem?_cons_zero, List.getElem?_cons_succ] at x0 x1 x2 x3 x4 x5 x6 x7
 obtain ⟨w5, B5⟩ := boxed w4 #[.slice none 0 0] 76
 obtain ⟨w6, B6⟩ := boxed w5 #[.pointer (some ⟨w4.heap.size, 0, none⟩), .slice none 0 0, .slice none 0 0, .string ⟨input.toArray⟩, .slice none 0 0, .int .i64 4, .int .i64 0, .string ⟨#[]⟩, .int .i64 0, .int .i64 most, .slice none 0 0, .slice none 0 0, .int .i64 0] 83
 have hs5 := B5.size
 have hs6 := B6.size
 have HB5 := hid B5
 have HB6 := hid B6
 have hB6 : Below w4.heap.size w4 w6 := B5.below.trans (B6.below.mono B5.below.size)
 have HX0 : Hid (RnO w w6 (rho0 w4.heap.size w5.heap.size) w5.heap.size most (st0 input) (wh0 w4.heap.size)) := RnO.init input (HB4.out.trans (hB6.mono HB4.out.size)) HB4.out.size (by omega) ((B6.below.block w4.heap.size (by omega)).trans B5.blk) B6.blk
 have k1 := (hB6.block w.heap.size hl4).trans HK4.out
 have hr6 := (hB6.block w1.heap.size (by omega)).trans HR4.out
 have HR6 := hid hr6
 have hl6 : w.heap.size < w6.heap.size := by omega
 have y0 := cell_of_row w6 w.heap.size 0 _ _ _ k1
 have y1 := cell_of_row w6 w.heap.size 1 _ _ _ k1
 have y2 := cell_of_row w6 w.heap.size 2 _ _ _ k1
 have y3 := cell_of_row w6 w.heap.size 3 _ _ _ k1
 have y4 := cell_of_row w6 w.heap.size 4 _ _ _ k1
 have y5 := cell_of_row w6 w.heap.size 5 _ _ _ k1
 have y6 := cell_of_row w6 w.heap.size 6 _ _ _ k1
 have y7 := cell_of_row w6 w.heap.size 7 _ _ _ k1
 simp only [List.getElem?_toArray, List.getElem?_cons_zero, List.getElem?_cons_succ] at y0 y1 y2 y3 y4 y5 y6 y7
 have HTD : Hid ((st0 input).todo.length ≤ 10000000) := by show 0 ≤ _; omega
 have HNL := hid (RowR.none w6 (rho0 w4.heap.size w5.heap.size) 6 125 2)
 have hz6 : Hid (rho0 w4.heap.size w5.heap.size (w.heap.size + 1) = 0) := by
  unfold Hid rho0
  rw [if_neg (by omega), if_neg (by omega)]
 clear hb4 k1 hr4 hr6 B5 B6 hB6
 go_wp2_with fail
 rw [← HB5.out.eq, ← HB6.out.eq]
 obtain ⟨R, hR⟩ : ∃ R, R = w.heap.size + 1 := ⟨_, rfl⟩
 have hR6 := HR6.out
 rw [hs1, ← hR] at hR6
 have hz7 := hz6.out
 rw [← hR] at hz7
 have HRR : Hid (w.heap.size ≤ R) := by unfold Hid; omega
 have HPU := hid (push_v HX0.out 0 0 e [] (.slice na nn nc) (.slice da dn dc) (.slice ka kn kc) (.slice none 0 0) HE.out HNL.out HTD.out)
 rw [← hR, ← hs5]
 have HR7 := hid hR6
 have HZ7 := hid hz7
 obtain ⟨m, hm5⟩ : ∃ m, m = w5.heap.size := ⟨_, rfl⟩
 rw [← hm5] at HX0 HPU HZ7 ⊢
 have hR6l : R < w6.heap.size := (Array.getElem?_eq_some_iff.1 hR6).1
 clear x0 x1 x2 x3 x4 x5 x6 x7 y0 y1 y2 y3 y4 y5 y6 y7 hR6 hz7 hz6 HR6 hs6 hs5 hs4 hs3 hs2 hs1 hl2 hl3 hl4 hl6 hR hm5
 with_reducible refine HPU.out.mono ?_
 rintro e2 w7 ⟨rfl, ρ7, q7, o7, m7⟩
 have hL0 : Lp w w7 m R most r n := by
  have hk := m7.keep R hR6l (.inl HZ7.out)
  exact ⟨⟨ρ7, q7, _, o7, HR.out, hk.2.trans HZ7.out, hk.1.trans HR7.out⟩⟩
 have HL0 := hid hL0
 clear hL0 o7 m7
 go_wp2_with fail
 go_loopg [] n (fun gk wx => Hid (Lp w wx m R most r gk))
 case atStart => exact HL0.out
 case round =>
  obtain ⟨ρ, q, s, X, ht, hzR, hres⟩ := (hrel : Hid _).out.ex
  obtain ⟨k, rfl, hmay, hcs⟩ := turns_cases ht
  have hmr := X.lt
  have c12 : wr.cell? ⟨m, 12, none⟩ = some (.int .i64 s.err) := X.cell 12
  rcases hcs with ⟨hre, he | ⟨hz, htd⟩⟩ | ⟨he, htd, s1, hs1, ht1⟩
  ·have HOUT : Hid (⟨s.err, s.out, none, s.steps⟩ = o) := by
    have h := HO.out
    rw [hre] at h
    unfold outR at h
    rw [if_pos he] at h
    exact Option.some.inj h
   have k1 : (s.err == 0) = false := beq_eq_false_iff_ne.2 he
   have hrow := X.c.out.1
   obtain ⟨ao, co, hov⟩ := X.c.out.slice
   rw [hov] at hrow
   have hconv := fun k => conv_out s.out rfl hrow k
   have hconv1 : (convert 39 9 (.slice ao s.out.length co)).run Tryz.prog wr.drew = .ok (.string ⟨s.out.toArray⟩) wr.drew := hconv 1
   have hconv0 : (convert 39 9 (.slice ao s.out.length co)).run Tryz.prog wr = .ok (.string ⟨s.out.toArray⟩) wr := hconv 0
   have hconvA : ∀ o, (convert 39 9 (.slice ao s.out.length co)).run Tryz.prog (wr.alloc o).drew = .ok (.string ⟨s.out.toArray⟩) (wr.alloc o).drew := fun o => conv_out s.out rfl (hrow.alloc o) 1
   have c4 : wr.cell? ⟨m, 4, none⟩ = some (.slice ao s.out.length co) := by rw [X.cell 4, ← hov]; rfl
   have c6 : wr.cell? ⟨m, 8, none⟩ = some (.int .i64 s.steps) := X.cell 8
   have hl7 : R < wr.heap.size := (Array.getElem?_eq_some_iff.1 hres).1
   obtain ⟨z0, z1, z2, z3, z4, z5, z6, z7, zf⟩ := Res8.of hres
   have y0 := zf 0
   have y1 := zf 1
   have y2 := zf 2
   have y3 := zf 3
   have y4 := zf 4
   have y5 := zf 5
   have y6 := zf 6
   have y7 := zf 7
   have HRES := hid hres
   have HBB := hid X.c.below
   have HX := hid X
   have hmR : m ≠ R := fun e => by have := X.c.me; rw [e, hzR] at this; cases this
   obtain ⟨w7, B7⟩ := boxed wr #[.int .i64 s.err, .string ⟨s.out.toArray⟩, .int .i64 0, .int .i64 0, .string ⟨#[]⟩, .slice none 0 0, .bool false, .int .i64 s.steps] 51
   have hs7 := B7.size
   have X7 := HX.out.bel B7.below
   have m12 : w7.cell? ⟨m, 12, none⟩ = some (.int .i64 s.err) := X7.cell 12
   have hm7 := X7.lt
   have hres7 := (B7.below.block R hl7).trans HRES.out
   have hl8 : R < w7.heap.size := by omega
   have hl9 : wr.heap.size < w7.heap.size := by omega
   have hn7 : wr.heap.size ≠ R := by omega
   have hn8 : R ≠ wr.heap.size := by omega
   have HRES7 := hid hres7
   have HB7 := hid B7
   obtain ⟨t0, t1, t2, t3, t4, t5, t6, t7, tf⟩ := Res8.of hres7
   have tf0 := tf 0
   have tf1 := tf 1
   have tf2 := tf 2
   have tf3 := tf 3
   have tf4 := tf 4
   have tf5 := tf 5
   have tf6 := tf 6
   have tf7 := tf 7
   obtain ⟨q0, q1, q2, q3, q4, q5, q6, q7, qf⟩ := Res8.of B7.blk
   clear hres7 tf qf B7 X7 X hrow hconv hres zf hov
   go_wp2_with fail
   go_region
   rw [← HB7.out.eq]
   go_wp2_with fail
   refine bodyPost_ret (res1 rfl _ _ R 51 _ (0, 0) rfl (drew_at (out_set _ _ _ _ _ _ _ _ _ _ _ _ _ _ _ _ _ _ HRES7.out)) outcomeD outcomeSize) rfl ?_
   rw [← HOUT.out]
   refine ⟨.mk 0 0 ⟨#[]⟩ [], none, 0, ?_, .nil _ _ _, ?_, ?_⟩
   ·rfl
   ·exact (below8 (HBB.out.trans (HB7.out.below.mono HBB.out.size)) HRR.out _ _ _ _ _ _ _ _).drew
   ·rfl
  ·have hmt : q.MT = [] := by
    have := X.c.mt
    rw [htd] at this
    simpa using this
   obtain ⟨ta, tc, htv⟩ := X.c.todo.slice
   rw [hmt] at htv
   have c10 : wr.cell? ⟨m, 10, none⟩ = some (.slice ta 0 tc) := by
    rw [X.cell 10]
    show some q.tv = _
    rw [htv]
    rfl
   have k1 : (s.err == 0) = true := by rw [hz]; rfl
   have hwf : wfB s = true := by
    have h := HO.out
    rw [hre] at h
    unfold outR at h
    rw [if_neg (by simpa using hz)] at h
    split at h
    ·cases h
    ·rename_i hw
     exact (by simpa using hw)
   obtain ⟨v, hv, HOUT⟩ : ∃ v, s.vals.getLast? = some v ∧ Hid (⟨s.err, s.out, Hp.tellT s.T v, s.steps⟩ = o) := by
    have h := HO.out
    rw [hre] at h
    unfold outR at h
    rw [if_neg (by simpa using hz)] at h
    split at h
    ·cases h
    ·split at h
     ·cases h
     ·rename_i v hv
      exact ⟨v, hv, by rw [hz]; exact Option.some.inj h⟩
   have htx : v.text.size ≤ maxLen := hmay.sm.text v (List.mem_of_getLast? hv)
   have hrow := X.c.out.1
   obtain ⟨ao, co, hov⟩ := X.c.out.slice
   rw [hov] at hrow
   have hconv := fun k => conv_out s.out rfl hrow k
   have hconv1 : (convert 39 9 (.slice ao s.out.length co)).run Tryz.prog wr.drew = .ok (.string ⟨s.out.toArray⟩) wr.drew := hconv 1
   have hconv0 : (convert 39 9 (.slice ao s.out.length co)).run Tryz.prog wr = .ok (.string ⟨s.out.toArray⟩) wr := hconv 0
   have hconvA : ∀ o, (convert 39 9 (.slice ao s.out.length co)).run Tryz.prog (wr.alloc o).drew = .ok (.string ⟨s.out.toArray⟩) (wr.alloc o).drew := fun o => conv_out s.out rfl (hrow.alloc o) 1
   have c4 : wr.cell? ⟨m, 4, none⟩ = some (.slice ao s.out.length co) := by rw [X.cell 4, ← hov]; rfl
   have c6 : wr.cell? ⟨m, 8, none⟩ = some (.int .i64 s.steps) := X.cell 8
   have hl7 : R < wr.heap.size := (Array.getElem?_eq_some_iff.1 hres).1
   obtain ⟨z0, z1, z2, z3, z4, z5, z6, z7, zf⟩ := Res8.of hres
   have y0 := zf 0
   have y1 := zf 1
   have y2 := zf 2
   have y3 := zf 3
   have y4 := zf 4
   have y5 := zf 5
   have y6 := zf 6
   have y7 := zf 7
   have HRES := hid hres
   have HBB := hid X.c.below
   have HX := hid X
   have hmR : m ≠ R := fun e => by have := X.c.me; rw [e, hzR] at this; cases this
   obtain ⟨w7, B7⟩ := boxed wr #[.int .i64 s.err, .string ⟨s.out.toArray⟩, .int .i64 0, .int .i64 0, .string ⟨#[]⟩, .slice none 0 0, .bool false, .int .i64 s.steps] 51
   have hs7 := B7.size
   have X7 := HX.out.bel B7.below
   have m12 : w7.cell? ⟨m, 12, none⟩ = some (.int .i64 s.err) := X7.cell 12
   have hm7 := X7.lt
   have hres7 := (B7.below.block R hl7).trans HRES.out
   have hl8 : R < w7.heap.size := by omega
   have hl9 : wr.heap.size < w7.heap.size := by omega
   have hn7 : wr.heap.size ≠ R := by omega
   have hn8 : R ≠ wr.heap.size := by omega
   have HRES7 := hid hres7
   have HB7 := hid B7
   obtain ⟨g, vc, hsc, hgl, hg8, hvl, _⟩ := tc_of X7 hv
   have hgn : g ≠ wr.heap.size := fun e => by
    have := (X.c.lo g (by rw [hg8]; decide)).2
    omega
   have hgR : g ≠ R := fun e => by rw [e, hzR] at hg8; cases hg8
   have hmn : m ≠ wr.heap.size := by have := X.lt; omega
   have hvl2 : (0 : Int) < s.vals.length := by omega
   obtain ⟨m0, m11, g0, g1, g2⟩ := id hsc
   have HF7 : Hid (w7.cell? ⟨m, 0, none⟩ = some (.pointer (some ⟨q.h, 0, none⟩)) ∧ w7.cell? ⟨m, 11, none⟩ = some (.slice (some ⟨g, 0, none⟩) s.vals.length vc) ∧ w7.cell? ⟨g, 0, none⟩ = some (.int .i64 v.kind) ∧ w7.cell? ⟨g, 1, none⟩ = some (.int .i64 v.int) ∧ w7.cell? ⟨g, 2, none⟩ = some (.string v.text)) := hsc
   have HF7a : Hid (w7.drew.drew.cell? ⟨m, 0, none⟩ = some (.pointer (some ⟨q.h, 0, none⟩)) ∧ w7.drew.drew.cell? ⟨m, 11, none⟩ = some (.slice (some ⟨g, 0, none⟩) s.vals.length vc) ∧ w7.drew.drew.cell? ⟨g, 0, none⟩ = some (.int .i64 v.kind) ∧ w7.drew.drew.cell? ⟨g, 1, none⟩ = some (.int .i64 v.int) ∧ w7.drew.drew.cell? ⟨g, 2, none⟩ = some (.string v.text)) := hsc
   have HF7b : Hid (w7.drew.cell? ⟨m, 0, none⟩ = some (.pointer (some ⟨q.h, 0, none⟩)) ∧ w7.drew.cell? ⟨m, 11, none⟩ = some (.slice (some ⟨g, 0, none⟩) s.vals.length vc) ∧ w7.drew.cell? ⟨g, 0, none⟩ = some (.int .i64 v.kind) ∧ w7.drew.cell? ⟨g, 1, none⟩ = some (.int .i64 v.int) ∧ w7.drew.cell? ⟨g, 2, none⟩ = some (.string v.text)) := hsc
   have HTL := hid (RTell_any v w7.drew.drew (X7.bel ((Below.refl _ _).drew.drew)).c.heap (by unfold wfB at hwf; rw [hv] at hwf; simpa using hwf) htx)
   unfold Hp.V.val at HTL
   obtain ⟨q0, q1, q2, q3, q4, q5, q6, q7, qf⟩ := Res8.of B7.blk
   have hbq := B7.blk
   have HBQ := hid hbq
   have X7L := hid X7
   have HSC := hid hsc
   rw [hz] at HB7 m12
   clear X7 B7 hres7 qf hbq X hrow hconv hres zf hov hsc
   go_wp2_with fail
   go_region
   rw [← HB7.out.eq]
   go_wp2_with fail
   go_region_held3 (fun w' => w'.cell? ⟨m, 0, none⟩ = some (.pointer (some ⟨q.h, 0, none⟩)) ∧ w'.cell? ⟨m, 11, none⟩ = some (.slice (some ⟨g, 0, none⟩) s.vals.length vc) ∧ w'.cell? ⟨g, 0, none⟩ = some (.int .i64 v.kind) ∧ w'.cell? ⟨g, 1, none⟩ = some (.int .i64 v.int) ∧ w'.cell? ⟨g, 2, none⟩ = some (.string v.text))
    (first | with_reducible exact HF7a.out | with_reducible exact HF7.out | with_reducible exact HF7b.out | with_reducible exact HF8.out | with_reducible exact HF9.out _ _ _ _ | with_reducible exact HF10.out _ _ _ _ _)
    (first
     | (go_at_call 57; (with_reducible refine HTL.out.mono ?_); rintro e w8 ⟨d, ad, cd, rfl, hdt, hb8, hde⟩; have hb78 : Below w7.heap.size w7 w8 := (((Below.refl _ _).drew).drew).trans hb8; have HDT := hid hdt; have HDE := hid hde; have HB78 := hid hb78; have X8 := X7L.out.bel hb78; have n1 := (hb78.cell (p := ⟨m, 0, none⟩) hm7).trans HSC.out.1; have n2 := (hb78.cell (p := ⟨m, 11, none⟩) hm7).trans HSC.out.2.1; have n3 := (hb78.cell (p := ⟨g, 0, none⟩) hgl).trans HSC.out.2.2.1; have n4 := (hb78.cell (p := ⟨g, 1, none⟩) hgl).trans HSC.out.2.2.2.1; have n5 := (hb78.cell (p := ⟨g, 2, none⟩) hgl).trans HSC.out.2.2.2.2; have HF8 : Hid (w8.cell? ⟨m, 0, none⟩ = some (.pointer (some ⟨q.h, 0, none⟩)) ∧ w8.cell? ⟨m, 11, none⟩ = some (.slice (some ⟨g, 0, none⟩) s.vals.length vc) ∧ w8.cell? ⟨g, 0, none⟩ = some (.int .i64 v.kind) ∧ w8.cell? ⟨g, 1, none⟩ = some (.int .i64 v.int) ∧ w8.cell? ⟨g, 2, none⟩ = some (.string v.text)) := ⟨n1, n2, n3, n4, n5⟩; have HF9 : Hid (∀ u0 u1 u2 u3 : Value, ((((w8.setCell ⟨wr.heap.size, 2, none⟩ u0).setCell ⟨wr.heap.size, 2 + 1, none⟩ u1).setCell ⟨wr.heap.size, 2 + 2, none⟩ u2).setCell ⟨wr.heap.size, 2 + 3, none⟩ u3).cell? ⟨m, 0, none⟩ = some (.pointer (some ⟨q.h, 0, none⟩)) ∧ ((((w8.setCell ⟨wr.heap.size, 2, none⟩ u0).setCell ⟨wr.heap.size, 2 + 1, none⟩ u1).setCell ⟨wr.heap.size, 2 + 2, none⟩ u2).setCell ⟨wr.heap.size, 2 + 3, none⟩ u3).cell? ⟨m, 11, none⟩ = some (.slice (some ⟨g, 0, none⟩) s.vals.length vc) ∧ ((((w8.setCell ⟨wr.heap.size, 2, none⟩ u0).setCell ⟨wr.heap.size, 2 + 1, none⟩ u1).setCell ⟨wr.heap.size, 2 + 2, none⟩ u2).setCell ⟨wr.heap.size, 2 + 3, none⟩ u3).cell? ⟨g, 0, none⟩ = some (.int .i64 v.kind) ∧ ((((w8.setCell ⟨wr.heap.size, 2, none⟩ u0).setCell ⟨wr.heap.size, 2 + 1, none⟩ u1).setCell ⟨wr.heap.size, 2 + 2, none⟩ u2).setCell ⟨wr.heap.size, 2 + 3, none⟩ u3).cell? ⟨g, 1, none⟩ = some (.int .i64 v.int) ∧ ((((w8.setCell ⟨wr.heap.size, 2, none⟩ u0).setCell ⟨wr.heap.size, 2 + 1, none⟩ u1).setCell ⟨wr.heap.size, 2 + 2, none⟩ u2).setCell ⟨wr.heap.size, 2 + 3, none⟩ u3).cell? ⟨g, 2, none⟩ = some (.string v.text)) := fun u0 u1 u2 u3 => tc_set (tc_set (tc_set (tc_set HF8.out hmn hgn) hmn hgn) hmn hgn) hmn hgn; have HF10 : Hid (∀ u0 u1 u2 u3 u4 : Value, (((((w8.setCell ⟨wr.heap.size, 2, none⟩ u0).setCell ⟨wr.heap.size, 2 + 1, none⟩ u1).setCell ⟨wr.heap.size, 2 + 2, none⟩ u2).setCell ⟨wr.heap.size, 2 + 3, none⟩ u3).setCell ⟨wr.heap.size, 6, none⟩ u4).cell? ⟨m, 0, none⟩ = some (.pointer (some ⟨q.h, 0, none⟩)) ∧ (((((w8.setCell ⟨wr.heap.size, 2, none⟩ u0).setCell ⟨wr.heap.size, 2 + 1, none⟩ u1).setCell ⟨wr.heap.size, 2 + 2, none⟩ u2).setCell ⟨wr.heap.size, 2 + 3, none⟩ u3).setCell ⟨wr.heap.size, 6, none⟩ u4).cell? ⟨m, 11, none⟩ = some (.slice (some ⟨g, 0, none⟩) s.vals.length vc) ∧ (((((w8.setCell ⟨wr.heap.size, 2, none⟩ u0).setCell ⟨wr.heap.size, 2 + 1, none⟩ u1).setCell ⟨wr.heap.size, 2 + 2, none⟩ u2).setCell ⟨wr.heap.size, 2 + 3, none⟩ u3).setCell ⟨wr.heap.size, 6, none⟩ u4).cell? ⟨g, 0, none⟩ = some (.int .i64 v.kind) ∧ (((((w8.setCell ⟨wr.heap.size, 2, none⟩ u0).setCell ⟨wr.heap.size, 2 + 1, none⟩ u1).setCell ⟨wr.heap.size, 2 + 2, none⟩ u2).setCell ⟨wr.heap.size, 2 + 3, none⟩ u3).setCell ⟨wr.heap.size, 6, none⟩ u4).cell? ⟨g, 1, none⟩ = some (.int .i64 v.int) ∧ (((((w8.setCell ⟨wr.heap.size, 2, none⟩ u0).setCell ⟨wr.heap.size, 2 + 1, none⟩ u1).setCell ⟨wr.heap.size, 2 + 2, none⟩ u2).setCell ⟨wr.heap.size, 2 + 3, none⟩ u3).setCell ⟨wr.heap.size, 6, none⟩ u4).cell? ⟨g, 2, none⟩ = some (.string v.text)) := fun u0 u1 u2 u3 u4 => tc_set (HF9.out u0 u1 u2 u3) hmn hgn; have hbq8 := (hb78.block wr.heap.size hl9).trans HBQ.out; have HBQ8 := hid hbq8; obtain ⟨r0, r1, r2, r3, r4, r5, r6, r7, rf⟩ := Res8.of hbq8; have rf2 := rf 2; have rf3 := rf 3; have rf4 := rf 4; have rf5 := rf 5; have rf6 := rf 6; have hres8 := (hb78.block R hl8).trans HRES7.out; have HRES8 := hid hres8; obtain ⟨t0, t1, t2, t3, t4, t5, t6, t7, tf⟩ := Res8.of hres8; have tf0 := tf 0; have tf1 := tf 1; have tf2 := tf 2; have tf3 := tf 3; have tf4 := tf 4; have tf5 := tf 5; have tf6 := tf 6; have tf7 := tf 7; have hl88 : R < w8.heap.size := Nat.lt_of_lt_of_le hl8 hb78.size; have hl98 : wr.heap.size < w8.heap.size := Nat.lt_of_lt_of_le hl9 hb78.size; have hm8 := X8.lt; have hg8 : g < w8.heap.size := Nat.lt_of_lt_of_le hgl hb78.size; clear hdt hb8 hde hb78 X8 hbq8 rf hres8 tf n1 n2 n3 n4 n5))
   all_goals
    go_wp2_with fail
    refine bodyPost_ret (res1 rfl _ _ R 51 _ (0, 0) rfl (out_set _ _ _ _ _ _ _ _ _ _ _ _ _ _ _ _ _ _ (five_at hn8 HRES8.out)) outcomeD outcomeSize) rfl ?_
    rw [← HOUT.out, hz]
    have hb8 : Below w.heap.size w w8 := (HBB.out.trans (HB7.out.below.mono HBB.out.size)).trans (HB78.out.mono (by have := HBB.out.size; omega))
    have hq : w.heap.size ≤ wr.heap.size := HBB.out.size
    refine ⟨d, ad, cd, ?_, ?_, ?_, HDE.out⟩
    ·rfl
    ·refine HDT.out.same (fun b h1 h2 => ?_) ?_ fun b h1 h2 => ?_
     ·have h3 : w7.heap.size ≤ b := h1
      omega
     ·simp [World.setCell]
     ·have h3 : w7.heap.size ≤ b := h1
      have e1 : b ≠ wr.heap.size := by omega
      have e2 : b ≠ R := by omega
      rw [heap_setCell_other _ _ _ _ e2, heap_setCell_other _ _ _ _ e2, heap_setCell_other _ _ _ _ e2, heap_setCell_other _ _ _ _ e2, heap_setCell_other _ _ _ _ e2, heap_setCell_other _ _ _ _ e2, heap_setCell_other _ _ _ _ e2, heap_setCell_other _ _ _ _ e2, heap_setCell_other _ _ _ _ e1, heap_setCell_other _ _ _ _ e1, heap_setCell_other _ _ _ _ e1, heap_setCell_other _ _ _ _ e1, heap_setCell_other _ _ _ _ e1]
    ·exact below8 (((((hb8.setCell (p := ⟨wr.heap.size, 2, none⟩) hq _).setCell (p := ⟨wr.heap.size, 3, none⟩) hq _).setCell (p := ⟨wr.heap.size, 4, none⟩) hq _).setCell (p := ⟨wr.heap.size, 5, none⟩) hq _).setCell (p := ⟨wr.heap.size, 6, none⟩) hq _) HRR.out _ _ _ _ _ _ _ _
  ·have hl : 0 < s.todo.length := List.length_pos_iff.2 htd
   obtain ⟨ta, tc, htv⟩ := X.c.todo.slice
   have hml : q.MT.length = s.todo.length := by
    have := congrArg List.length X.c.mt
    simpa using this
   have c10 : wr.cell? ⟨m, 10, none⟩ = some (.slice ta s.todo.length tc) := by rw [X.cell 10, ← hml, ← htv]; rfl
   have k1 : (s.err == 0) = true := by rw [he]; rfl
   have hl2 : (0 : Int) < s.todo.length := by omega
   have HN := hid (next_any X hmost hmay.steps hmay.sm hmay.few hs1)
   have HZR := hid hzR
   have HRES := hid hres
   have hRl := (Array.getElem?_eq_some_iff.1 hres).1
   have HT1 := hid ht1
   clear X ht hmay hs1 ht1 hzR hres htv hml htd
   go_wp2_with fail
   with_reducible refine HN.out.mono ?_
   rintro e2 w8 ⟨rfl, ρ8, q8, o8, m8⟩
   have hL : Hid (Lp w w8 m R most r k) := by
    have hk := m8.keep R hRl (.inl HZR.out)
    exact ⟨⟨ρ8, q8, _, o8, HT1.out, hk.2.trans HZR.out, hk.1.trans HRES.out⟩⟩
   clear o8 m8
   go_wp2_with fail
   go_roundg k
   case measure => omega
   case rel => exact hL.out
end Rn
end Go.Proofs.YtkplkgdfphbldaaGreat
