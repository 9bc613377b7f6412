/- box: Box. -/
import Derived.Test.YtkplkgdfphbldaaGreatHJbl
import Derived.Test.YtkplkgdfphbldaaGreatHJbm
import Derived.Test.YtkplkgdfphbldaaGreatHJbk
import Derived.Test.YtkplkgdfphbldaaGreatHJay
import Derived.Test.YtkplkgdfphbldaaGreatHJbc
import Derived.Test.YtkplkgdfphbldaaGreatHJbe
import Derived.Test.YtkplkgdfphbldaaGreatHJan
import Derived.Test.YtkplkgdfphbldaaGreatHJbj
import Derived.Test.YtkplkgdfphbldaaGreatHJbg
namespace Go.Proofs.YtkplkgdfphbldaaGreat
open Go.RowKit
open Go.Lib (hid)
set_option linter.unusedVariables false
set_option linter.unusedSimpArgs false
set_option linter.unnecessarySimpa false
set_option maxRecDepth 100000
namespace Ew
open Rn
def BoxPost (e : Ex) (w : World) (en : Ending) (w' : World) : Prop :=
 (Ex.mayBox e = false ∧ en = .returned (.tuple #[zeroV, .int .i64 100]) ∧ Below w.heap.size w w') ∨ (Ex.mayBox e = true ∧ ToldPost (Ex.boxE Ex.noB e) w en w')
theorem bv_zero : BV (fun _ => 0) = Ex.noB := by
 funext s
 rfl
theorem op_of {w : World} {x : XM} (h : ExAt w x.val x.e) : ∃ na nc da dn dc ka kc, x.nv = .slice na x.e.names.length nc ∧ x.dl = .slice da dn dc ∧ x.kv = .slice ka x.e.kids.length kc ∧ Op w x.e na nc da dn dc ka kc := by
 obtain ⟨e, nv, dl, kv⟩ := x
 exact Op.of h
theorem box_sizes {e : Ex} (h : Ex.ok e = true) : Ex.all Ex.form (Ex.boxE Ex.noB e) = true ∧ (Ex.boxE Ex.noB e).size ≤ 100000 ∧ Ex.Fit (Ex.boxE Ex.noB e) := by
 obtain ⟨a, b, c⟩ := (Ex.ok_iff e).1 h
 have h1 := Ex.form_boxE e Ex.noB a
 have h2 := Ex.size_boxE e a Ex.noB
 have h3 := Ex.nbox_le e a [] List.nodup_nil (fun s hs => by simp at hs)
 have h4 := Ex.nsets_le e
 simp at h3
 exact ⟨h1, by omega, fit_of_form _ h1 (by omega)⟩
set_option maxHeartbeats 16000000 in
theorem pBox_any (e : Ex) {w : World} {na : Option Addr} {nc : Nat} {da : Option Addr} {dn dc : Nat} {ka : Option Addr} {kc : Nat} (hf : Ex.Fit e) (ho : Op w e na nc da dn dc ka kc) :
  Calls Tryz.prog 18 #[.agg #[.int .i64 e.kind, .string e.name, .slice na e.names.length nc, .int .i64 e.const.kind, .int .i64 e.const.int, .string e.const.text, .slice da dn dc, .slice ka e.kids.length kc]] w (BoxPost e w) := by
 obtain ⟨w1, B1⟩ := boxedE w e na nc da dn dc ka kc
 obtain ⟨w2, B2⟩ := boxed w1 #[.int .i64 0, .string ⟨#[]⟩, .slice none 0 0, .int .i64 0, .int .i64 0, .string ⟨#[]⟩, .slice none 0 0, .slice none 0 0] 28
 have hB02 : Below w.heap.size w w2 := B1.below.trans (B2.below.mono B1.below.size)
 have hsz2 : w2.heap.size = w.heap.size + 2 := by rw [B2.size, B1.size]
 have hZ : w2.heap[w.heap.size + 1]? = some (.cells #[.int .i64 0, .string ⟨#[]⟩, .slice none 0 0, .int .i64 0, .int .i64 0, .string ⟨#[]⟩, .slice none 0 0, .slice none 0 0] 28 (0, 0)) := by
  have := B2.blk
  rw [B1.size] at this
  exact this
 have hP := (B2.below.block _ (by rw [B1.size]; omega)).trans B1.blk
 have HBA := hid B1
 have HBB := hid B2
 have HZB := hid hZ
 have HPB := hid hP
 have HB02 := hid hB02
 have HS2 := hid hsz2
 have HO := hid ho
 have HCK := hid (pCheck_any e hf (ho.bel hB02))
 have HCZ := hid (chkC_zero hf)
 have HBAD : Hid (∀ W, Few e → Below w.heap.size w W → Calls Tryz.prog 36 #[.agg #[.int .i64 e.kind, .string e.name, .slice na e.names.length nc, .int .i64 e.const.kind, .int .i64 e.const.int, .string e.const.text, .slice da dn dc, .slice ka e.kids.length kc], .map (some W.heap.size)] (W.alloc (.map #[] 0)) (Says (.bool (Ex.badE (fun _ => 0) e)) (W.alloc (.map #[] 0)))) := fun W hfe hW => bad_any e hfe (ho.bel (hW.alloc hW.size _)) (IM.made W)
 obtain ⟨f, hfv⟩ : ∃ f, (Ex.chk formC e 0 0).2 = f := ⟨_, rfl⟩
 rw [hfv] at HCK HCZ
 obtain ⟨x0, x1, x2, x3, x4, x5, x6, x7, hbl⟩ := Row.of hP
 clear B1 B2 hB02 hsz2 hZ hP ho hf hfv
 go_enter Tryz.func18, Tryz.ntmps18
 go_upto_region 1 with fail
 rw [← HBA.out.eq, ← HBB.out.eq]
 have hmm : ∀ w, (Instr.makeMap 55 none).run Tryz.prog w = .ok (.map (some w.heap.size)) (w.alloc (.map #[] 0)) := fun w => run_makeMap _ w
 by_cases hz : f = 0
 ·have hok := HCZ.out.1 hz
  subst hz
  have HOK := hid hok
  have HFW := hid (few_of_ok hok).1
  have HFO := hid ((Ex.ok_iff e).1 hok).1
  have HFS := hid (box_sizes hok)
  clear hok
  go_wp2_with fail
  with_reducible refine HCK.out.mono ?_
  rintro e2 w3 ⟨rfl, hb3⟩
  have hp3 := (hb3.block w.heap.size (by rw [HS2.out]; omega)).trans HPB.out
  have HZ3 := hid ((hb3.block (w.heap.size + 1) (by rw [HS2.out]; omega)).trans HZB.out)
  have HB3 : Hid (Below w.heap.size w w3) := HB02.out.trans (hb3.mono HB02.out.size)
  have hs3 : w.heap.size + 2 ≤ w3.heap.size := by have h1 := hb3.size; have h2 := HS2.out; omega
  have HS3 := hid hs3
  obtain ⟨y0, y1, y2, y3, y4, y5, y6, y7, ybl⟩ := Row.of hp3
  have HPC := hid hp3
  have HBC := hid (HBAD.out w3 HFW.out HB3.out)
  clear hb3 hp3 hs3
  go_wp2_with fail
  with_reducible refine HBC.out.mono ?_
  rintro e2 w4 ⟨rfl, hb4⟩
  have hb34 : Below w3.heap.size w3 w4 := ((Below.refl w3.heap.size w3).alloc (Nat.le_refl _) (.map #[] 0)).trans (hb4.mono (by simp))
  have HB4 : Hid (Below w.heap.size w w4) := HB3.out.trans (hb34.mono HB3.out.size)
  have hp4 := (hb34.block w.heap.size (by have := HS3.out; omega)).trans HPC.out
  have hz4 := (hb34.block (w.heap.size + 1) (by have := HS3.out; omega)).trans HZ3.out
  have HZ4 := hid hz4
  have HS4 : Hid (w.heap.size + 2 ≤ w4.heap.size) := Nat.le_trans HS3.out hb34.size
  clear y0 y1 y2 y3 y4 y5 y6 y7 ybl
  obtain ⟨y0, y1, y2, y3, y4, y5, y6, y7, ybl⟩ := Row.of hp4
  clear hb4 hb34 hp4
  cases hbd : Ex.badE (fun _ => 0) e with
  | true =>
   have HMB : Hid (Ex.mayBox e = false) := by unfold Hid Ex.mayBox; rw [hbd]; simp
   obtain ⟨⟨_, s0⟩, ⟨_, s1⟩, ⟨_, s2⟩, ⟨_, s3⟩, ⟨_, s4⟩, ⟨_, s5⟩, ⟨_, s6⟩, ⟨_, s7⟩, q0, q1, q2, q3, q4, q5, q6, q7, sbl⟩ := blk8 hz4
   clear hbd hz4
   go_wp2_with fail
   refine bodyPost_ret (res2 rfl _ _ (w.heap.size + 1) 28 #[.int .i64 0, .string ⟨#[]⟩, .slice none 0 0, .int .i64 0, .int .i64 0, .string ⟨#[]⟩, .slice none 0 0, .slice none 0 0] (0, 0) rfl (eight_set _ _ _ _ _ _ _ _ _ _ _ (.int .i64 0) (.string ⟨#[]⟩) (.slice none 0 0) (.int .i64 0) (.int .i64 0) (.string ⟨#[]⟩) (.slice none 0 0) (.slice none 0 0) HZ4.out) exprD exprSize) rfl ?_
   show BoxPost e w _ (put8 w4 (w.heap.size + 1) (.int .i64 0) (.string ⟨#[]⟩) (.slice none 0 0) (.int .i64 0) (.int .i64 0) (.string ⟨#[]⟩) (.slice none 0 0) (.slice none 0 0))
   exact .inl ⟨HMB.out, rfl, below_put8 HB4.out (Nat.le_succ _) _ _ _ _ _ _ _ _⟩
  | false =>
  have HMB : Hid (Ex.mayBox e = true) := by unfold Hid Ex.mayBox; rw [hbd, HOK.out]; rfl
  have hbA : Below w4.heap.size w4 (w4.alloc (.map #[] 0)) := (Below.refl _ _).alloc (Nat.le_refl _) _
  have hfx := box_any w e HFW.out HFO.out HO.out (HB4.out.trans (hbA.mono HB4.out.size)) (IM.made w4)
  rw [bv_zero] at hfx
  have HFX := hid hfx
  unfold MadePost at HFX
  have HB3 := hid (HB4.out.trans (hbA.mono HB4.out.size))
  have HZ3 := hid ((hbA.block _ (Array.getElem?_eq_some_iff.1 HZ4.out).1).trans HZ4.out)
  have HS3 : Hid (w.heap.size + 2 ≤ (w4.alloc (.map #[] 0)).heap.size) := Nat.le_trans HS4.out hbA.size
  clear hbd hz4 hbA hfx
  go_wp2_with fail
  with_reducible refine HFX.out.mono ?_
  rintro e2 w5 ⟨x, hxe, rfl, hon, hb5⟩
  obtain ⟨na5, nc5, da5, dn5, dc5, ka5, kc5, v1, v2, v3, hop⟩ := op_of hon.at
  obtain ⟨xe, xn, xd, xk⟩ := x
  dsimp only at hxe v1 v2 v3 hop
  subst v1 v2 v3
  unfold XM.val exV
  dsimp only
  have HTD := hid (told_any xe (by rw [hxe]; exact HFS.out.2.2) hop)
  have HXE := hid hxe
  have HB5 := hid hb5
  have hz5 := (hb5.block (w.heap.size + 1) (by have := HS3.out; omega)).trans HZ3.out
  have HZ5 := hid hz5
  clear hxe hon hop hb5 hz5
  go_wp2_with fail
  with_reducible refine HTD.out.mono ?_
  rintro e2 w6 (⟨hok2, ⟨ye, yn, yd, yk⟩, hye, rfl, hex, hb6⟩ | ⟨hok2, rfl, hb6⟩)
  ·obtain ⟨⟨yan, ynn, ycn, u1⟩, ⟨yad, ynd, ycd, u2⟩, ⟨yak, nyk, yck, u3⟩⟩ := sliced_at hex.at
   dsimp only at u1 u2 u3 hye hex
   subst u1 u2 u3
   unfold XM.val exV
   dsimp only
   rw [HXE.out] at hok2
   have HYE := hid (hye.trans HXE.out)
   have HEX := hid hex
   have HK2 := hid hok2
   have hz6 := (hb6.block (w.heap.size + 1) (Array.getElem?_eq_some_iff.1 HZ5.out).1).trans HZ5.out
   have HZ6 := hid hz6
   have HB6 := hid ((HB3.out.trans (HB5.out.mono HB3.out.size)).trans (hb6.mono (Nat.le_trans HB3.out.size HB5.out.size)))
   obtain ⟨⟨_, s0⟩, ⟨_, s1⟩, ⟨_, s2⟩, ⟨_, s3⟩, ⟨_, s4⟩, ⟨_, s5⟩, ⟨_, s6⟩, ⟨_, s7⟩, q0, q1, q2, q3, q4, q5, q6, q7, sbl⟩ := blk8 hz6
   clear hb6 hz6 hye hex hok2
   go_wp2_with fail
   refine bodyPost_ret (res2 rfl _ _ (w.heap.size + 1) 28 #[.int .i64 ye.kind, .string ye.name, .slice yan ynn ycn, .int .i64 ye.const.kind, .int .i64 ye.const.int, .string ye.const.text, .slice yad ynd ycd, .slice yak nyk yck] (0, 0) rfl (eight_set _ _ _ _ _ _ _ _ _ _ _ (.int .i64 ye.kind) (.string ye.name) (.slice yan ynn ycn) (.int .i64 ye.const.kind) (.int .i64 ye.const.int) (.string ye.const.text) (.slice yad ynd ycd) (.slice yak nyk yck) HZ6.out) exprD exprSize) rfl ?_
   show BoxPost e w _ (put8 w6 (w.heap.size + 1) (.int .i64 ye.kind) (.string ye.name) (.slice yan ynn ycn) (.int .i64 ye.const.kind) (.int .i64 ye.const.int) (.string ye.const.text) (.slice yad ynd ycd) (.slice yak nyk yck))
   have h5 := HB3.out.size
   have h6 := HB5.out.size
   have h7 := HS3.out
   refine .inr ⟨HMB.out, .inl ⟨HK2.out, ⟨ye, .slice yan ynn ycn, .slice yad ynd ycd, .slice yak nyk yck⟩, HYE.out, rfl, ?_, below_put8 HB6.out (Nat.le_succ _) _ _ _ _ _ _ _ _⟩⟩
   exact (on_put8 HEX.out (by show ¬ (w5.heap.size ≤ w.heap.size + 1); omega) _ _ _ _ _ _ _ _).mono fun b hb _ => by show w.heap.size ≤ b; have : w5.heap.size ≤ b := hb; omega
  ·rw [HXE.out] at hok2
   have HK2 := hid hok2
   have hz6 := (hb6.block (w.heap.size + 1) (Array.getElem?_eq_some_iff.1 HZ5.out).1).trans HZ5.out
   have HZ6 := hid hz6
   have HB6 := hid ((HB3.out.trans (HB5.out.mono HB3.out.size)).trans (hb6.mono (Nat.le_trans HB3.out.size HB5.out.size)))
   obtain ⟨⟨_, s0⟩, ⟨_, s1⟩, ⟨_, s2⟩, ⟨_, s3⟩, ⟨_, s4⟩, ⟨_, s5⟩, ⟨_, s6⟩, ⟨_, s7⟩, q0, q1, q2, q3, q4, q5, q6, q7, sbl⟩ := blk8 hz6
   clear hb6 hz6 hok2
   go_wp2_with fail
   refine bodyPost_ret (res2 rfl _ _ (w.heap.size + 1) 28 #[.int .i64 0, .string ⟨#[]⟩, .slice none 0 0, .int .i64 0, .int .i64 0, .string ⟨#[]⟩, .slice none 0 0, .slice none 0 0] (0, 0) rfl (eight_set _ _ _ _ _ _ _ _ _ _ _ (.int .i64 0) (.string ⟨#[]⟩) (.slice none 0 0) (.int .i64 0) (.int .i64 0) (.string ⟨#[]⟩) (.slice none 0 0) (.slice none 0 0) HZ6.out) exprD exprSize) rfl ?_
   show BoxPost e w _ (put8 w6 (w.heap.size + 1) (.int .i64 0) (.string ⟨#[]⟩) (.slice none 0 0) (.int .i64 0) (.int .i64 0) (.string ⟨#[]⟩) (.slice none 0 0) (.slice none 0 0))
   exact .inr ⟨HMB.out, .inr ⟨HK2.out, rfl, below_put8 HB6.out (Nat.le_succ _) _ _ _ _ _ _ _ _⟩⟩
 ·have hok : Ex.ok e = false := by
   rw [Bool.eq_false_iff]
   exact fun h => hz (HCZ.out.2 h)
  have HOK : Hid (Ex.mayBox e = false) := by unfold Hid Ex.mayBox; rw [hok]; rfl
  have kz : (f != 0) = true := by rw [bne_iff_ne]; exact hz
  clear hok hz
  go_wp2_with (first
   | (go_at_call 23; (with_reducible refine HCK.out.mono ?_); rintro e2 w3 ⟨rfl, hb3⟩; have hz3 := (hb3.block (w.heap.size + 1) (by rw [HS2.out]; omega)).trans HZB.out; have HZ3 := hid hz3; have HB3 : Hid (Below w.heap.size w w3) := HB02.out.trans (hb3.mono HB02.out.size); obtain ⟨⟨_, s0⟩, ⟨_, s1⟩, ⟨_, s2⟩, ⟨_, s3⟩, ⟨_, s4⟩, ⟨_, s5⟩, ⟨_, s6⟩, ⟨_, s7⟩, q0, q1, q2, q3, q4, q5, q6, q7, sbl⟩ := blk8 hz3; clear hb3 hz3)
   | fail)
  refine bodyPost_ret (res2 rfl _ _ (w.heap.size + 1) 28 #[.int .i64 0, .string ⟨#[]⟩, .slice none 0 0, .int .i64 0, .int .i64 0, .string ⟨#[]⟩, .slice none 0 0, .slice none 0 0] (0, 0) rfl (eight_set _ _ _ _ _ _ _ _ _ _ _ (.int .i64 0) (.string ⟨#[]⟩) (.slice none 0 0) (.int .i64 0) (.int .i64 0) (.string ⟨#[]⟩) (.slice none 0 0) (.slice none 0 0) HZ3.out) exprD exprSize) rfl ?_
  show BoxPost e w _ (put8 w3 (w.heap.size + 1) (.int .i64 0) (.string ⟨#[]⟩) (.slice none 0 0) (.int .i64 0) (.int .i64 0) (.string ⟨#[]⟩) (.slice none 0 0) (.slice none 0 0))
  exact .inl ⟨HOK.out, rfl, below_put8 HB3.out (Nat.le_succ _) _ _ _ _ _ _ _ _⟩
def numE (k : Int) : Ex := .mk 0 ⟨#[]⟩ [] (.mk 1 k ⟨#[]⟩ []) []
set_option maxHeartbeats 4000000 in
theorem num_any (k : Int) (w : World) : Calls Tryz.prog 22 #[.int .i64 k] w fun en w' => en = .returned (.agg #[.int .i64 0, .string ⟨#[]⟩, .slice none 0 0, .int .i64 1, .int .i64 k, .string ⟨#[]⟩, .slice none 0 0, .slice none 0 0]) ∧ Below w.heap.size w w' := by
 go_enter Tryz.func22, Tryz.ntmps22
 go_wp2_with fail
 refine bodyPost_ret (res1 rfl _ _ w.heap.size 28 #[.int .i64 0, .string ⟨#[]⟩, .slice none 0 0, .int .i64 1, .int .i64 k, .string ⟨#[]⟩, .slice none 0 0, .slice none 0 0] (0, 0) rfl (heap_alloc_new w _) exprD exprSize) rfl ?_
 exact ⟨rfl, (Below.refl _ _).alloc (Nat.le_refl _) _⟩
def setX1 (s : ByteArray) (a b : Ex) : Ex := .mk 8 ⟨#[]⟩ [s] Dt.zero [a, .mk 4 ⟨#[]⟩ [] Dt.zero [.mk 2 s [] Dt.zero [b], .mk 1 s [] Dt.zero []]]
theorem four_alloc (P : World) (o1 o2 o3 o4 : Obj) : ((((P.alloc o1).alloc o2).alloc o3).alloc o4).heap[P.heap.size]? = some o1 ∧ ((((P.alloc o1).alloc o2).alloc o3).alloc o4).heap[P.heap.size + 1]? = some o2 ∧ ((((P.alloc o1).alloc o2).alloc o3).alloc o4).heap[P.heap.size + 1 + 1]? = some o3 ∧ ((((P.alloc o1).alloc o2).alloc o3).alloc o4).heap[P.heap.size + 1 + 1 + 1]? = some o4 ∧ Below P.heap.size P ((((P.alloc o1).alloc o2).alloc o3).alloc o4) := by
 refine ⟨?_, ?_, ?_, heap_new (by simp), (((((Below.refl _ _).alloc (Nat.le_refl _) _).alloc (by simp) _).alloc (by simp <;> omega) _).alloc (by simp <;> omega) _)⟩
 ·rw [heap_alloc_old _ _ (by simp <;> omega), heap_alloc_old _ _ (by simp <;> omega), heap_alloc_old _ _ (by simp)]
  exact heap_alloc_new _ _
 ·rw [heap_alloc_old _ _ (by simp <;> omega), heap_alloc_old _ _ (by simp)]
  exact heap_new (by simp)
 ·rw [heap_alloc_old _ _ (by simp)]
  exact heap_new (by simp)
theorem set_at {s : ByteArray} {a b : Ex} {w W : World} {ana : Option Addr} {anc : Nat} {ada : Option Addr} {adn adc : Nat} {aka : Option Addr} {akc : Nat} {bna : Option Addr} {bnc : Nat} {bda : Option Addr} {bdn bdc : Nat} {bka : Option Addr} {bkc : Nat} (ha : Op w a ana anc ada adn adc aka akc) (hb : Op w b bna bnc bda bdn bdc bka bkc) {N : Nat} (hw : Below w.heap.size w W)
  (f1 : W.heap[N]? = some (.cells #[.string s] 9 (0, 0))) (f2 : W.heap[N + 1]? = some (.cells #[.int .i64 b.kind, .string b.name, .slice bna b.names.length bnc, .int .i64 b.const.kind, .int .i64 b.const.int, .string b.const.text, .slice bda bdn bdc, .slice bka b.kids.length bkc] 28 (0, 0))) (f3 : W.heap[N + 1 + 1]? = some (.cells #[.int .i64 2, .string s, .slice none 0 0, .int .i64 0, .int .i64 0, .string ⟨#[]⟩, .slice none 0 0, .slice (some ⟨N + 1, 0, none⟩) 1 1, .int .i64 1, .string s, .slice none 0 0, .int .i64 0, .int .i64 0, .string ⟨#[]⟩, .slice none 0 0, .slice none 0 0] 28 (0, 0))) (f4 : W.heap[N + 1 + 1 + 1]? = some (.cells #[.int .i64 a.kind, .string a.name, .slice ana a.names.length anc, .int .i64 a.const.kind, .int .i64 a.const.int, .string a.const.text, .slice ada adn adc, .slice aka a.kids.length akc, .int .i64 4, .string ⟨#[]⟩, .slice none 0 0, .int .i64 0, .int .i64 0, .string ⟨#[]⟩, .slice none 0 0, .slice (some ⟨N + 1 + 1, 0, none⟩) 2 2] 28 (0, 0))) :
  ExAt W (exV 8 ⟨#[]⟩ (.slice (some ⟨N, 0, none⟩) 1 1) Dt.zero (.slice none 0 0) (.slice (some ⟨N + 1 + 1 + 1, 0, none⟩) 2 2)) (setX1 s a b) := by
 have hn : Sl W (.slice (some ⟨N, 0, none⟩) 1 1) (strs [s]) := by
  refine ⟨_, 1, rfl, .inr ⟨_, rfl, fun j u hu => ?_⟩⟩
  rw [Addr.add_mid, Nat.zero_add, cell_of_row _ _ _ _ _ _ f1]
  simpa [strs] using hu
 have hb1 : KidsAt W (.slice (some ⟨N + 1, 0, none⟩) 1 1) [b] := kids_row (M := [⟨b, .slice bna b.names.length bnc, .slice bda bdn bdc, .slice bka b.kids.length bkc⟩]) (own_lit1 f2) (fun y hy => by
  simp at hy
  subst hy
  exact hb.ex.bel hw)
 have hset : ExAt W (exV 2 s (.slice none 0 0) Dt.zero (.slice none 0 0) (.slice (some ⟨N + 1, 0, none⟩) 1 1)) (.mk 2 s [] Dt.zero [b]) := exAt_mk ⟨none, 0, rfl, .inl ⟨rfl, rfl, rfl⟩⟩ (zero_const _) room_nil hb1
 have hx : ExAt W (exV 1 s (.slice none 0 0) Dt.zero (.slice none 0 0) (.slice none 0 0)) (.mk 1 s [] Dt.zero []) := exAt_mk ⟨none, 0, rfl, .inl ⟨rfl, rfl, rfl⟩⟩ (zero_const _) room_nil ⟨none, 0, rfl, Nat.le_refl _, .inl rfl⟩
 have hk2 : KidsAt W (.slice (some ⟨N + 1 + 1, 0, none⟩) 2 2) [.mk 2 s [] Dt.zero [b], .mk 1 s [] Dt.zero []] := kids_row (M := [⟨.mk 2 s [] Dt.zero [b], .slice none 0 0, .slice none 0 0, .slice (some ⟨N + 1, 0, none⟩) 1 1⟩, ⟨.mk 1 s [] Dt.zero [], .slice none 0 0, .slice none 0 0, .slice none 0 0⟩]) (own_lit2 f3) (fun y hy => by
  simp at hy
  rcases hy with rfl | rfl
  ·exact hset
  ·exact hx)
 have hq : ExAt W (exV 4 ⟨#[]⟩ (.slice none 0 0) Dt.zero (.slice none 0 0) (.slice (some ⟨N + 1 + 1, 0, none⟩) 2 2)) (.mk 4 ⟨#[]⟩ [] Dt.zero [.mk 2 s [] Dt.zero [b], .mk 1 s [] Dt.zero []]) := exAt_mk ⟨none, 0, rfl, .inl ⟨rfl, rfl, rfl⟩⟩ (zero_const _) room_nil hk2
 have hk3 : KidsAt W (.slice (some ⟨N + 1 + 1 + 1, 0, none⟩) 2 2) [a, .mk 4 ⟨#[]⟩ [] Dt.zero [.mk 2 s [] Dt.zero [b], .mk 1 s [] Dt.zero []]] := kids_row (M := [⟨a, .slice ana a.names.length anc, .slice ada adn adc, .slice aka a.kids.length akc⟩, ⟨.mk 4 ⟨#[]⟩ [] Dt.zero [.mk 2 s [] Dt.zero [b], .mk 1 s [] Dt.zero []], .slice none 0 0, .slice none 0 0, .slice (some ⟨N + 1 + 1, 0, none⟩) 2 2⟩]) (own_lit2 f4) (fun y hy => by
  simp at hy
  rcases hy with rfl | rfl
  ·exact ha.ex.bel hw
  ·exact hq)
 exact exAt_mk hn (zero_const _) ⟨_, _, _, rfl, Nat.le_refl _⟩ hk3
set_option maxHeartbeats 8000000 in
theorem set_any (s : ByteArray) (a b : Ex) {w : World} {ana : Option Addr} {anc : Nat} {ada : Option Addr} {adn adc : Nat} {aka : Option Addr} {akc : Nat} {bna : Option Addr} {bnc : Nat} {bda : Option Addr} {bdn bdc : Nat} {bka : Option Addr} {bkc : Nat} (ha : Op w a ana anc ada adn adc aka akc) (hb : Op w b bna bnc bda bdn bdc bka bkc) :
  Calls Tryz.prog 38 #[.string s, .agg #[.int .i64 a.kind, .string a.name, .slice ana a.names.length anc, .int .i64 a.const.kind, .int .i64 a.const.int, .string a.const.text, .slice ada adn adc, .slice aka a.kids.length akc], .agg #[.int .i64 b.kind, .string b.name, .slice bna b.names.length bnc, .int .i64 b.const.kind, .int .i64 b.const.int, .string b.const.text, .slice bda bdn bdc, .slice bka b.kids.length bkc]] w fun en w' => ∃ x : XM, x.e = setX1 s a b ∧ en = .returned x.val ∧ ExAt w' x.val x.e ∧ Below w.heap.size w w' := by
 obtain ⟨w1, B1⟩ := boxedE w a ana anc ada adn adc aka akc
 obtain ⟨w2, B2⟩ := boxedE w1 b bna bnc bda bdn bdc bka bkc
 obtain ⟨w3, B3⟩ := boxed w2 #[.int .i64 0, .string ⟨#[]⟩, .slice none 0 0, .int .i64 0, .int .i64 0, .string ⟨#[]⟩, .slice none 0 0, .slice none 0 0] 28
 obtain ⟨w4, B4⟩ := boxed w3 #[.int .i64 1, .string s, .slice none 0 0, .int .i64 0, .int .i64 0, .string ⟨#[]⟩, .slice none 0 0, .slice none 0 0] 28
 have z1 := B1.size
 have z2 := B2.size
 have z3 := B3.size
 have z4 := B4.size
 have hb24 : Below w2.heap.size w2 w4 := B3.below.trans (B4.below.mono B3.below.size)
 have hb14 : Below w1.heap.size w1 w4 := B2.below.trans (hb24.mono B2.below.size)
 have hw4 : Below w.heap.size w w4 := B1.below.trans (hb14.mono B1.below.size)
 have hA := (hb14.block w.heap.size (by omega)).trans B1.blk
 have hB : w4.heap[w.heap.size + 1]? = some (.cells #[.int .i64 b.kind, .string b.name, .slice bna b.names.length bnc, .int .i64 b.const.kind, .int .i64 b.const.int, .string b.const.text, .slice bda bdn bdc, .slice bka b.kids.length bkc] 28 (0, 0)) := by
  have := B2.blk
  rw [z1] at this
  exact (hb24.block _ (by omega)).trans this
 have hZ : w4.heap[w.heap.size + 1 + 1]? = some (.cells #[.int .i64 0, .string ⟨#[]⟩, .slice none 0 0, .int .i64 0, .int .i64 0, .string ⟨#[]⟩, .slice none 0 0, .slice none 0 0] 28 (0, 0)) := by
  have := B3.blk
  rw [z2, z1] at this
  exact (B4.below.block _ (by omega)).trans this
 have hX : w4.heap[w.heap.size + 1 + 1 + 1]? = some (.cells #[.int .i64 1, .string s, .slice none 0 0, .int .i64 0, .int .i64 0, .string ⟨#[]⟩, .slice none 0 0, .slice none 0 0] 28 (0, 0)) := by
  have := B4.blk
  rw [z3, z2, z1] at this
  exact this
 have HB1 := hid B1
 have HB2 := hid B2
 have HB3 := hid B3
 have HB4 := hid B4
 have HZ := hid hZ
 have HW4 := hid hw4
 have HA := hid ha
 have HBO := hid hb
 obtain ⟨x0, x1, x2, x3, x4, x5, x6, x7, xl⟩ := Row.of hA
 obtain ⟨o0, o1, o2, o3, o4, o5, o6, o7, ol⟩ := Row.of hB
 obtain ⟨y0, y1, y2, y3, y4, y5, y6, y7, yl⟩ := Row.of hX
 obtain ⟨⟨_, s0⟩, ⟨_, s1⟩, ⟨_, s2⟩, ⟨_, s3⟩, ⟨_, s4⟩, ⟨_, s5⟩, ⟨_, s6⟩, ⟨_, s7⟩, q0, q1, q2, q3, q4, q5, q6, q7, sbl⟩ := blk8 hZ
 clear B1 B2 B3 B4 z1 z2 z3 z4 hb24 hb14 hA hB hZ hX hw4 ha hb
 go_enter Tryz.func38, Tryz.ntmps38
 go_upto_region 2 with fail
 rw [← HB1.out.eq, ← HB2.out.eq, ← HB3.out.eq, ← HB4.out.eq]
 go_wp2_with fail
 have hk8 := put8_kp (g := w.heap.size + 1 + 1) (w := w4) (.int .i64 8) (.string ⟨#[]⟩) (.slice (some ⟨w4.heap.size, 0, none⟩) 1 1) (.int .i64 0) (.int .i64 0) (.string ⟨#[]⟩) (.slice none 0 0) (.slice (some ⟨w4.heap.size + 1 + 1 + 1, 0, none⟩) 2 2)
 have hr8 : (put8 w4 (w.heap.size + 1 + 1) (.int .i64 8) (.string ⟨#[]⟩) (.slice (some ⟨w4.heap.size, 0, none⟩) 1 1) (.int .i64 0) (.int .i64 0) (.string ⟨#[]⟩) (.slice none 0 0) (.slice (some ⟨w4.heap.size + 1 + 1 + 1, 0, none⟩) 2 2)).heap[w.heap.size + 1 + 1]? = some (.cells #[.int .i64 8, .string ⟨#[]⟩, .slice (some ⟨w4.heap.size, 0, none⟩) 1 1, .int .i64 0, .int .i64 0, .string ⟨#[]⟩, .slice none 0 0, .slice (some ⟨w4.heap.size + 1 + 1 + 1, 0, none⟩) 2 2] 28 (0, 0)) := by
  unfold put8
  exact eight_set _ _ _ _ _ _ _ _ _ _ _ (.int .i64 8) (.string ⟨#[]⟩) (.slice (some ⟨w4.heap.size, 0, none⟩) 1 1) (.int .i64 0) (.int .i64 0) (.string ⟨#[]⟩) (.slice none 0 0) (.slice (some ⟨w4.heap.size + 1 + 1 + 1, 0, none⟩) 2 2) HZ.out
 have hbP := below_put8 HW4.out (g := w.heap.size + 1 + 1) (by omega) (.int .i64 8) (.string ⟨#[]⟩) (.slice (some ⟨w4.heap.size, 0, none⟩) 1 1) (.int .i64 0) (.int .i64 0) (.string ⟨#[]⟩) (.slice none 0 0) (.slice (some ⟨w4.heap.size + 1 + 1 + 1, 0, none⟩) 2 2)
 obtain ⟨f1, f2, f3, f4, fb⟩ := four_alloc (put8 w4 (w.heap.size + 1 + 1) (.int .i64 8) (.string ⟨#[]⟩) (.slice (some ⟨w4.heap.size, 0, none⟩) 1 1) (.int .i64 0) (.int .i64 0) (.string ⟨#[]⟩) (.slice none 0 0) (.slice (some ⟨w4.heap.size + 1 + 1 + 1, 0, none⟩) 2 2)) (.cells #[.string s] 9) (.cells #[.int .i64 b.kind, .string b.name, .slice bna b.names.length bnc, .int .i64 b.const.kind, .int .i64 b.const.int, .string b.const.text, .slice bda bdn bdc, .slice bka b.kids.length bkc] 28) (.cells #[.int .i64 2, .string s, .slice none 0 0, .int .i64 0, .int .i64 0, .string ⟨#[]⟩, .slice none 0 0, .slice (some ⟨w4.heap.size + 1, 0, none⟩) 1 1, .int .i64 1, .string s, .slice none 0 0, .int .i64 0, .int .i64 0, .string ⟨#[]⟩, .slice none 0 0, .slice none 0 0] 28) (.cells #[.int .i64 a.kind, .string a.name, .slice ana a.names.length anc, .int .i64 a.const.kind, .int .i64 a.const.int, .string a.const.text, .slice ada adn adc, .slice aka a.kids.length akc, .int .i64 4, .string ⟨#[]⟩, .slice none 0 0, .int .i64 0, .int .i64 0, .string ⟨#[]⟩, .slice none 0 0, .slice (some ⟨w4.heap.size + 1 + 1, 0, none⟩) 2 2] 28)
 have hr5 := (fb.block (w.heap.size + 1 + 1) (by rw [hk8.1]; exact (Array.getElem?_eq_some_iff.1 HZ.out).1)).trans hr8
 have hb5 := hbP.trans (fb.mono hbP.size)
 rw [hk8.1] at f1 f2 f3 f4
 have hex := set_at HA.out HBO.out hb5 f1 f2 f3 f4
 unfold put8 at hr5 hb5 hex
 clear hk8 hr8 hbP f1 f2 f3 f4 fb
 refine bodyPost_ret (res1 rfl _ _ (w.heap.size + 1 + 1) 28 #[.int .i64 8, .string ⟨#[]⟩, .slice (some ⟨w4.heap.size, 0, none⟩) 1 1, .int .i64 0, .int .i64 0, .string ⟨#[]⟩, .slice none 0 0, .slice (some ⟨w4.heap.size + 1 + 1 + 1, 0, none⟩) 2 2] (0, 0) rfl hr5 exprD exprSize) rfl ?_
 exact ⟨⟨setX1 s a b, .slice (some ⟨w4.heap.size, 0, none⟩) 1 1, .slice none 0 0, .slice (some ⟨w4.heap.size + 1 + 1 + 1, 0, none⟩) 2 2⟩, rfl, rfl, hex, hb5⟩
def sxB : ByteArray := ⟨#[120]⟩
def oneB : Ex := numE 1
def twoB : Ex := numE 2
def bx1 : Ex := setX1 sxB oneB twoB
def setB : Ex := .mk 2 sxB [] Dt.zero [oneB]
theorem ok_bx1 : Ex.ok bx1 = true := by kernel_rfl
theorem free_bx1 : Ex.freeNames bx1 = [] := by kernel_rfl
theorem may_bx1 : Ex.mayBox bx1 = true := by kernel_rfl
theorem okb_bx1 : Ex.ok (Ex.boxE Ex.noB bx1) = true := by kernel_rfl
theorem freeb_bx1 : Ex.freeNames (Ex.boxE Ex.noB bx1) = [] := by kernel_rfl
theorem hasb_bx1 : Ex.has 2 (Ex.boxE Ex.noB bx1) = false := by kernel_rfl
theorem ok_setB : Ex.ok setB = true := by kernel_rfl
theorem may_setB : Ex.mayBox setB = false := by kernel_rfl
theorem fit_okB {e : Ex} (h : Ex.ok e = true) : Ex.Fit e := by
 obtain ⟨a, _, c⟩ := (Ex.ok_iff e).1 h
 exact fit_of_form e a (by omega)
theorem no_opB (w : World) (k : Int) (n : ByteArray) (c : Dt) (hc : ConstAt w c (.slice none 0 0)) : Op w (.mk k n [] c []) none 0 none 0 0 none 0 :=
 ⟨exAt_mk ⟨none, 0, rfl, .inl ⟨rfl, rfl, rfl⟩⟩ hc ⟨_, _, _, rfl, Nat.le_refl _⟩ ⟨none, 0, rfl, Nat.le_refl _, .inl rfl⟩, ⟨none, 0, rfl, .inl ⟨rfl, rfl, rfl⟩⟩, ⟨none, 0, rfl, Nat.le_refl _, .inl rfl⟩, Nat.le_refl _, hc⟩
theorem op_num (w : World) (k : Int) : Op w (numE k) none 0 none 0 0 none 0 := no_opB w 0 ⟨#[]⟩ (.mk 1 k ⟨#[]⟩ []) (.nil 1 k _)
theorem set_call (w : World) : Calls Tryz.prog 38 #[.string ⟨#[120]⟩, .agg #[.int .i64 0, .string ⟨#[]⟩, .slice none 0 0, .int .i64 1, .int .i64 1, .string ⟨#[]⟩, .slice none 0 0, .slice none 0 0], .agg #[.int .i64 0, .string ⟨#[]⟩, .slice none 0 0, .int .i64 1, .int .i64 2, .string ⟨#[]⟩, .slice none 0 0, .slice none 0 0]] w fun en w' => ∃ x : XM, x.e = bx1 ∧ en = .returned x.val ∧ ExAt w' x.val x.e ∧ Below w.heap.size w w' :=
 set_any sxB oneB twoB (op_num w 1) (op_num w 2)
theorem box_set {w : World} {na : Option Addr} {nc : Nat} {da : Option Addr} {dn dc : Nat} {ka : Option Addr} {kc : Nat} (ho : Op w setB na nc da dn dc ka kc) : Calls Tryz.prog 18 #[.agg #[.int .i64 setB.kind, .string setB.name, .slice na setB.names.length nc, .int .i64 setB.const.kind, .int .i64 setB.const.int, .string setB.const.text, .slice da dn dc, .slice ka setB.kids.length kc]] w fun en w' => en = .returned (.tuple #[zeroV, .int .i64 100]) ∧ Below w.heap.size w w' :=
 (pBox_any setB (fit_okB ok_setB) ho).mono fun en w' h => by
  rcases h with ⟨_, h1, h2⟩ | ⟨h1, _⟩
  ·exact ⟨h1, h2⟩
  ·rw [may_setB] at h1
   cases h1
theorem box_bx1 {w : World} {re : Ex} (hre : re = bx1) {na : Option Addr} {nc : Nat} {da : Option Addr} {dn dc : Nat} {ka : Option Addr} {kc : Nat} (ho : Op w re na nc da dn dc ka kc) : Calls Tryz.prog 18 #[.agg #[.int .i64 re.kind, .string re.name, .slice na re.names.length nc, .int .i64 re.const.kind, .int .i64 re.const.int, .string re.const.text, .slice da dn dc, .slice ka re.kids.length kc]] w fun en w' => ∃ x : XM, x.e = Ex.boxE Ex.noB bx1 ∧ en = .returned (.tuple #[x.val, .int .i64 0]) ∧ ExAt w' x.val x.e ∧ Below w.heap.size w w' := by
 subst hre
 exact (pBox_any bx1 (fit_okB ok_bx1) ho).mono fun en w' h => by
  rcases h with ⟨h1, _⟩ | ⟨_, ⟨_, x, h1, h2, h3, h4⟩ | ⟨h1, _⟩⟩
  ·rw [may_bx1] at h1
   cases h1
  ·exact ⟨x, h1, h2, h3.at, h4⟩
  ·rw [okb_bx1] at h1
   cases h1
theorem run_bx1 : runR 60 bx1 [] 1500 = some ⟨0, [], some (.mk 1 2 ⟨#[]⟩ []), 6⟩ := by kernel_rfl
theorem run_bxb : runR 60 (Ex.boxE Ex.noB bx1) [] (4 * 6 + 4) = some ⟨0, [], some (.mk 1 2 ⟨#[]⟩ []), 9⟩ := by kernel_rfl
theorem size_bxb : (Ex.boxE Ex.noB bx1).size ≤ 100000 := by
 have h := ((Ex.ok_iff _).1 okb_bx1).2.2
 omega
theorem means_box {a b : Ex} (ha : a = bx1) (hb : b = Ex.boxE Ex.noB bx1) {w : World} {ana : Option Addr} {anc : Nat} {ada : Option Addr} {adn adc : Nat} {aka : Option Addr} {akc : Nat} {bna : Option Addr} {bnc : Nat} {bda : Option Addr} {bdn bdc : Nat} {bka : Option Addr} {bkc : Nat} (hoa : Op w a ana anc ada adn adc aka akc) (hob : Op w b bna bnc bda bdn bdc bka bkc) :
  Calls Tryz.prog 17 #[.agg #[.int .i64 a.kind, .string a.name, .slice ana a.names.length anc, .int .i64 a.const.kind, .int .i64 a.const.int, .string a.const.text, .slice ada adn adc, .slice aka a.kids.length akc], .agg #[.int .i64 b.kind, .string b.name, .slice bna b.names.length bnc, .int .i64 b.const.kind, .int .i64 b.const.int, .string b.const.text, .slice bda bdn bdc, .slice bka b.kids.length bkc], .slice none 0 0, .string ⟨#[]⟩, .int .i64 4, .int .i64 4] w (Says (.bool true) w) := by
 subst ha
 subst hb
 exact rmeans_yes bx1 (Ex.boxE Ex.noB bx1) 4 4 (fit_okB ok_bx1) ok_bx1 free_bx1 hoa (fit_okB okb_bx1) okb_bx1 freeb_bx1 hob 60 60 6 9 0 [] (some (.mk 1 2 ⟨#[]⟩ [])) (Dt.short_of (by decide)) run_bx1 run_bxb (by decide) (by decide)
theorem has_box2 {b : Ex} (hb : b = Ex.boxE Ex.noB bx1) {w : World} {bna : Option Addr} {bnc : Nat} {bda : Option Addr} {bdn bdc : Nat} {bka : Option Addr} {bkc : Nat} (hob : Op w b bna bnc bda bdn bdc bka bkc) :
  Calls Tryz.prog 12 #[.agg #[.int .i64 b.kind, .string b.name, .slice bna b.names.length bnc, .int .i64 b.const.kind, .int .i64 b.const.int, .string b.const.text, .slice bda bdn bdc, .slice bka b.kids.length bkc], .int .i64 2] w (Says (.bool false) w) := by
 subst hb
 have h := rhas_any 2 (Ex.boxE Ex.noB bx1) size_bxb hob
 rw [hasb_bx1] at h
 exact h
theorem op_setB {W : World} {N : Nat} (h : W.heap[N]? = some (.cells #[.int .i64 0, .string ⟨#[]⟩, .slice none 0 0, .int .i64 1, .int .i64 1, .string ⟨#[]⟩, .slice none 0 0, .slice none 0 0] 28 (0, 0))) : Op W setB none 0 none 0 0 (some ⟨N, 0, none⟩) 1 := by
 have hk : KidsAt W (.slice (some ⟨N, 0, none⟩) 1 1) [oneB] := kids_row (M := [⟨oneB, .slice none 0 0, .slice none 0 0, .slice none 0 0⟩]) (own_lit1 h) (fun y hy => by
  simp at hy
  subst hy
  exact (op_num W 1).ex)
 exact ⟨exAt_mk ⟨none, 0, rfl, .inl ⟨rfl, rfl, rfl⟩⟩ (zero_const _) room_nil hk, ⟨none, 0, rfl, .inl ⟨rfl, rfl, rfl⟩⟩, hk, Nat.le_refl _, zero_const _⟩
theorem box_lit {W : World} {N : Nat} (h : W.heap[N]? = some (.cells #[.int .i64 0, .string ⟨#[]⟩, .slice none 0 0, .int .i64 1, .int .i64 1, .string ⟨#[]⟩, .slice none 0 0, .slice none 0 0] 28 (0, 0))) : Calls Tryz.prog 18 #[.agg #[.int .i64 2, .string ⟨#[120]⟩, .slice none 0 0, .int .i64 0, .int .i64 0, .string ⟨#[]⟩, .slice none 0 0, .slice (some ⟨N, 0, none⟩) 1 1]] W fun en w' => en = .returned (.tuple #[zeroV, .int .i64 100]) ∧ Below W.heap.size W w' := box_set (op_setB h)
set_option maxHeartbeats 16000000 in
theorem fixed11_any (w : World) : Calls Tryz.prog 19 #[] w (Says (.bool true) w) := by
 go_enter Tryz.func19, Tryz.ntmps19
 go_upto_region 2 with (first
  | (go_at_call 22; (first | ((with_reducible refine (num_any 1 w).mono ?_); rintro e2 w0 ⟨rfl, hb⟩; have HB0 := hid hb; clear hb) | ((with_reducible refine (num_any 2 w0).mono ?_); rintro e2 w1 ⟨rfl, hb⟩; have HB1 : Hid (Below w.heap.size w w1) := HB0.out.trans (hb.mono HB0.out.size); clear hb)))
  | (go_at_call 38; (with_reducible refine (set_call w1).mono ?_); rintro e2 w2 ⟨⟨re, rn, rd, rk⟩, hre, rfl, hex, hb⟩; obtain ⟨rna, rnc, rda, rdn, rdc, rka, rkc, v1, v2, v3, hop⟩ := op_of hex; dsimp only at hre v1 v2 v3 hop; subst v1 v2 v3; unfold XM.val exV; dsimp only; have HRE := hid hre; have HROP := hid hop; have HB2 : Hid (Below w.heap.size w w2) := HB1.out.trans (hb.mono HB1.out.size); clear hre hop hex hb)
  | fail)
 obtain ⟨w3, B3⟩ := boxedE w2 re rna rnc rda rdn rdc rka rkc
 rw [← B3.eq]
 have HKR := hid B3.blk
 have HB3 := hid (HB2.out.trans (B3.below.mono HB2.out.size))
 have HROP3 := hid (HROP.out.bel B3.below)
 obtain ⟨x0, x1, x2, x3, x4, x5, x6, x7, xl⟩ := Row.of B3.blk
 clear B3
 go_upto_region 3 with (first
  | (go_at_call 18; (with_reducible refine (box_bx1 HRE.out HROP3.out).mono ?_); rintro e2 w4 ⟨⟨ye, yn, yd, yk⟩, hye, rfl, hex, hb⟩; obtain ⟨yna, ync, yda, ydn, ydc, yka, ykc, v1, v2, v3, hop⟩ := op_of hex; dsimp only at hye v1 v2 v3 hop; subst v1 v2 v3; unfold XM.val exV; dsimp only; have HYE := hid hye; have HOP := hid hop; have HB34 := hid hb; clear hye hop hex hb)
  | fail)
 obtain ⟨w5, B5⟩ := boxedE w4 ye yna ync yda ydn ydc yka ykc
 rw [← B5.eq]
 have HKY := hid B5.blk
 have HB35 := hid (HB34.out.trans (B5.below.mono HB34.out.size))
 have HOP5 := hid (HOP.out.bel B5.below)
 clear B5 x0 x1 x2 x3 x4 x5 x6 x7 xl
 go_upto_region 4 with (first
  | (go_at_call 22; (with_reducible refine (num_any 1 w5).mono ?_); rintro e2 w6 ⟨rfl, hb⟩; have HB56 := hid hb; clear hb)
  | (go_at_call 18; have HL := hid (heap_alloc_new w6 (.cells #[.int .i64 0, .string ⟨#[]⟩, .slice none 0 0, .int .i64 1, .int .i64 1, .string ⟨#[]⟩, .slice none 0 0, .slice none 0 0] 28)); (with_reducible refine (box_lit HL.out).mono ?_); rintro e2 w7 ⟨rfl, hb⟩; have HB57 : Hid (Below w5.heap.size w5 w7) := HB56.out.trans ((((Below.refl _ w6).alloc (Nat.le_refl _) _).trans (hb.mono (by simp))).mono HB56.out.size); clear hb)
  | fail)
 obtain ⟨w8, B8⟩ := boxed w7 #[.int .i64 0, .string ⟨#[]⟩, .slice none 0 0, .int .i64 0, .int .i64 0, .string ⟨#[]⟩, .slice none 0 0, .slice none 0 0] 28
 rw [← B8.eq]
 have hb58 : Below w5.heap.size w5 w8 := HB57.out.trans (B8.below.mono HB57.out.size)
 have hb38 : Below w3.heap.size w3 w8 := HB35.out.trans (hb58.mono HB35.out.size)
 have hY8 := (hb58.block _ (Array.getElem?_eq_some_iff.1 HKY.out).1).trans HKY.out
 have hR8 := (hb38.block _ (Array.getElem?_eq_some_iff.1 HKR.out).1).trans HKR.out
 have HY8 := hid hY8
 have HR8 := hid hR8
 have HOP8 := hid (HOP5.out.bel hb58)
 have HROP8 := hid (HROP3.out.bel hb38)
 have HB08 := hid (HB3.out.trans (hb38.mono HB3.out.size))
 obtain ⟨x0, x1, x2, x3, x4, x5, x6, x7, xl⟩ := Row.of hR8
 obtain ⟨o0, o1, o2, o3, o4, o5, o6, o7, ol⟩ := Row.of hY8
 clear B8 hb58 hb38 hY8 hR8
 go_wp2_with (first
  | (go_at_call 12; (with_reducible refine (has_box2 HYE.out HOP8.out).mono ?_); rintro e2 wa ⟨rfl, hb⟩; have HBwa := hid hb; clear hb x0 x1 x2 x3 x4 x5 x6 x7 xl o0 o1 o2 o3 o4 o5 o6 o7 ol; obtain ⟨x0, x1, x2, x3, x4, x5, x6, x7, xl⟩ := Row.of ((HBwa.out.block _ (Array.getElem?_eq_some_iff.1 HR8.out).1).trans HR8.out); obtain ⟨o0, o1, o2, o3, o4, o5, o6, o7, ol⟩ := Row.of ((HBwa.out.block _ (Array.getElem?_eq_some_iff.1 HY8.out).1).trans HY8.out))
  | (go_at_call 17; (with_reducible refine (means_box HRE.out HYE.out (HROP8.out.bel HBwa.out) (HOP8.out.bel HBwa.out)).mono ?_); rintro e2 wc ⟨rfl, hb⟩; have HBwc : Hid (Below w8.heap.size w8 wc) := HBwa.out.trans (hb.mono HBwa.out.size); clear hb)
  | fail)
 go_ret
 exact ⟨rfl, HB08.out.trans (HBwc.out.mono HB08.out.size)⟩
set_option maxHeartbeats 16000000 in
theorem btold_fine (e : Ex) {w : World} {na : Option Addr} {nc : Nat} {da : Option Addr} {dn dc : Nat} {ka : Option Addr} {kc : Nat} (x : Ex) {xna : Option Addr} {xnc : Nat} {xda : Option Addr} {xdn xdc : Nat} {xka : Option Addr} {xkc : Nat} (hf : Ex.Fit e) (ho : Op w e na nc da dn dc ka kc) (hok : Ex.ok e = true) (hmb : Ex.mayBox e = true) (hxf : Ex.Fit x) (hx : Op w x xna xnc xda xdn xdc xka xkc) (hxk : Ex.ok x = true) (h9 : Ex.has 9 x = false) (hfs : Ex.has 2 x = false) (hfn : Ex.freeNames x = Ex.freeNames e) :
  Calls Tryz.prog 20 #[.agg #[.int .i64 e.kind, .string e.name, .slice na e.names.length nc, .int .i64 e.const.kind, .int .i64 e.const.int, .string e.const.text, .slice da dn dc, .slice ka e.kids.length kc], .agg #[.int .i64 x.kind, .string x.name, .slice xna x.names.length xnc, .int .i64 x.const.kind, .int .i64 x.const.int, .string x.const.text, .slice xda xdn xdc, .slice xka x.kids.length xkc], .int .i64 0] w (Says (.bool true) w) := by
 obtain ⟨w1, B1⟩ := boxedE w e na nc da dn dc ka kc
 obtain ⟨w2, B2⟩ := boxedE w1 x xna xnc xda xdn xdc xka xkc
 have hB02 : Below w.heap.size w w2 := B1.below.trans (B2.below.mono B1.below.size)
 have hsz2 : w2.heap.size = w.heap.size + 2 := by rw [B2.size, B1.size]
 have hZ : w2.heap[w.heap.size + 1]? = some (.cells #[.int .i64 x.kind, .string x.name, .slice xna x.names.length xnc, .int .i64 x.const.kind, .int .i64 x.const.int, .string x.const.text, .slice xda xdn xdc, .slice xka x.kids.length xkc] 28 (0, 0)) := by
  have := B2.blk
  rw [B1.size] at this
  exact this
 have hP := (B2.below.block _ (by rw [B1.size]; omega)).trans B1.blk
 have HBA := hid B1
 have HBB := hid B2
 have HB02 := hid hB02
 have HRE := hid (Row.of hP)
 have HRX := hid (Row.of hZ)
 obtain ⟨x0, x1, x2, x3, x4, x5, x6, x7, xl⟩ := Row.of hP
 obtain ⟨o0, o1, o2, o3, o4, o5, o6, o7, ol⟩ := Row.of hZ
 have HCK := hid (rmay_any' e hf (ho.bel hB02))
 rw [hmb] at HCK
 have hfe := few_of_ok hok
 have hfx := few_of_ok hxk
 have hse := ((Ex.ok_iff e).1 hok).2.2
 have hsx := ((Ex.ok_iff x).1 hxk).2.2
 have HCX : Hid (∀ W, Below w2.heap.size w2 W → Calls Tryz.prog 27 #[.agg #[.int .i64 x.kind, .string x.name, .slice xna x.names.length xnc, .int .i64 x.const.kind, .int .i64 x.const.int, .string x.const.text, .slice xda xdn xdc, .slice xka x.kids.length xkc]] W (Says (.int .i64 0) W)) := fun W hW => by
  have h := rCheck_any x hxf ((hx.bel hB02).bel hW)
  rw [(Ex.chk_form x).2 hxk] at h
  exact h
 have HHS : Hid (∀ W, Below w2.heap.size w2 W → Calls Tryz.prog 12 #[.agg #[.int .i64 x.kind, .string x.name, .slice xna x.names.length xnc, .int .i64 x.const.kind, .int .i64 x.const.int, .string x.const.text, .slice xda xdn xdc, .slice xka x.kids.length xkc], .int .i64 9] W (Says (.bool false) W)) := fun W hW => by
  have h := rhas_any 9 x (by omega) ((hx.bel hB02).bel hW)
  rw [h9] at h
  exact h
 have HFS : Hid (∀ W, Below w2.heap.size w2 W → Calls Tryz.prog 12 #[.agg #[.int .i64 x.kind, .string x.name, .slice xna x.names.length xnc, .int .i64 x.const.kind, .int .i64 x.const.int, .string x.const.text, .slice xda xdn xdc, .slice xka x.kids.length xkc], .int .i64 2] W (Says (.bool false) W)) := fun W hW => by
  have h := rhas_any 2 x (by omega) ((hx.bel hB02).bel hW)
  rw [hfs] at h
  exact h
 have HFX : Hid (∀ W, Below w2.heap.size w2 W → Calls Tryz.prog 30 #[.agg #[.int .i64 x.kind, .string x.name, .slice xna x.names.length xnc, .int .i64 x.const.kind, .int .i64 x.const.int, .string x.const.text, .slice xda xdn xdc, .slice xka x.kids.length xkc]] W (TextsPost (Ex.freeNames e) W)) := fun W hW => by
  have h := rFree_any x hfx.1 hfx.2 (by omega) ((hx.bel hB02).bel hW)
  rw [hfn] at h
  exact h
 have HFE : Hid (∀ W, Below w2.heap.size w2 W → Calls Tryz.prog 30 #[.agg #[.int .i64 e.kind, .string e.name, .slice na e.names.length nc, .int .i64 e.const.kind, .int .i64 e.const.int, .string e.const.text, .slice da dn dc, .slice ka e.kids.length kc]] W (TextsPost (Ex.freeNames e) W)) := fun W hW => rFree_any e hfe.1 hfe.2 (by omega) ((ho.bel hB02).bel hW)
 have hfl : (Ex.freeNames e).length ≤ 10000000000 := by have := frees_len e [] []; unfold Ex.freeNames; simp at this; omega
 have HST : Hid (∀ (W : World) (a c b d : _), Sl W (.slice a (Ex.freeNames e).length c) (strs (Ex.freeNames e)) → Sl W (.slice b (Ex.freeNames e).length d) (strs (Ex.freeNames e)) → Calls Tryz.prog 29 #[.slice a (Ex.freeNames e).length c, .slice b (Ex.freeNames e).length d] W (Says (.bool true) W)) := fun W a c b d h1 h2 => by
  have h := sametexts_any (Ex.freeNames e) (Ex.freeNames e) h1 h2 hfl
  rw [decide_eq_true rfl] at h
  exact h
 have hS : ∀ w', Below w2.heap.size w2 w' → (w'.cell? ⟨w.heap.size, 0, none⟩ = some (.int .i64 e.kind) ∧ w'.cell? ⟨w.heap.size, 1, none⟩ = some (.string e.name) ∧ w'.cell? ⟨w.heap.size, 2, none⟩ = some (.slice na e.names.length nc) ∧ w'.cell? ⟨w.heap.size, 3, none⟩ = some (.int .i64 e.const.kind) ∧ w'.cell? ⟨w.heap.size, 4, none⟩ = some (.int .i64 e.const.int) ∧ w'.cell? ⟨w.heap.size, 5, none⟩ = some (.string e.const.text) ∧ w'.cell? ⟨w.heap.size, 6, none⟩ = some (.slice da dn dc) ∧ w'.cell? ⟨w.heap.size, 7, none⟩ = some (.slice ka e.kids.length kc) ∧ w'.cell? ⟨w.heap.size + 1, 0, none⟩ = some (.int .i64 x.kind) ∧ w'.cell? ⟨w.heap.size + 1, 1, none⟩ = some (.string x.name) ∧ w'.cell? ⟨w.heap.size + 1, 2, none⟩ = some (.slice xna x.names.length xnc) ∧ w'.cell? ⟨w.heap.size + 1, 3, none⟩ = some (.int .i64 x.const.kind) ∧ w'.cell? ⟨w.heap.size + 1, 4, none⟩ = some (.int .i64 x.const.int) ∧ w'.cell? ⟨w.heap.size + 1, 5, none⟩ = some (.string x.const.text) ∧ w'.cell? ⟨w.heap.size + 1, 6, none⟩ = some (.slice xda xdn xdc) ∧ w'.cell? ⟨w.heap.size + 1, 7, none⟩ = some (.slice xka x.kids.length xkc)) := fun w' hb => by
  have h1 := HRE.out.bel hb
  have h2 := HRX.out.bel hb
  exact ⟨h1.c0, h1.c1, h1.c2, h1.c3, h1.c4, h1.c5, h1.c6, h1.c7, h2.c0, h2.c1, h2.c2, h2.c3, h2.c4, h2.c5, h2.c6, h2.c7⟩
 have HSS := hid hS
 clear hS
 generalize Ex.freeNames e = FN at *
 unfold TextsPost at HFX HFE
 clear B1 B2 hB02 hsz2 hZ hP ho hf hok hmb hxf hx hxk h9 hfs hfn hfe hfx hse hsx hfl
 go_enter Tryz.func20, Tryz.ntmps20
 go_upto_region 1 with fail
 rw [← HBA.out.eq, ← HBB.out.eq]
 go_upto_region 5 with (first
  | (go_at_call 39; (with_reducible refine HCK.out.mono ?_); rintro e2 w3 ⟨rfl, hb⟩; have HB3 := hid hb; obtain ⟨x0, x1, x2, x3, x4, x5, x6, x7, xl⟩ := HRE.out.bel hb; obtain ⟨o0, o1, o2, o3, o4, o5, o6, o7, ol⟩ := HRX.out.bel hb; have HS3 : Hid (w3.cell? ⟨w.heap.size, 0, none⟩ = some (.int .i64 e.kind) ∧ w3.cell? ⟨w.heap.size, 1, none⟩ = some (.string e.name) ∧ w3.cell? ⟨w.heap.size, 2, none⟩ = some (.slice na e.names.length nc) ∧ w3.cell? ⟨w.heap.size, 3, none⟩ = some (.int .i64 e.const.kind) ∧ w3.cell? ⟨w.heap.size, 4, none⟩ = some (.int .i64 e.const.int) ∧ w3.cell? ⟨w.heap.size, 5, none⟩ = some (.string e.const.text) ∧ w3.cell? ⟨w.heap.size, 6, none⟩ = some (.slice da dn dc) ∧ w3.cell? ⟨w.heap.size, 7, none⟩ = some (.slice ka e.kids.length kc) ∧ w3.cell? ⟨w.heap.size + 1, 0, none⟩ = some (.int .i64 x.kind) ∧ w3.cell? ⟨w.heap.size + 1, 1, none⟩ = some (.string x.name) ∧ w3.cell? ⟨w.heap.size + 1, 2, none⟩ = some (.slice xna x.names.length xnc) ∧ w3.cell? ⟨w.heap.size + 1, 3, none⟩ = some (.int .i64 x.const.kind) ∧ w3.cell? ⟨w.heap.size + 1, 4, none⟩ = some (.int .i64 x.const.int) ∧ w3.cell? ⟨w.heap.size + 1, 5, none⟩ = some (.string x.const.text) ∧ w3.cell? ⟨w.heap.size + 1, 6, none⟩ = some (.slice xda xdn xdc) ∧ w3.cell? ⟨w.heap.size + 1, 7, none⟩ = some (.slice xka x.kids.length xkc)) := HSS.out _ hb; clear hb)
  | fail)
 have HB3D : Hid (Below w2.heap.size w2 w3.drew) := HB3.out.drew
 have HS3D : Hid (w3.drew.cell? ⟨w.heap.size, 0, none⟩ = some (.int .i64 e.kind) ∧ w3.drew.cell? ⟨w.heap.size, 1, none⟩ = some (.string e.name) ∧ w3.drew.cell? ⟨w.heap.size, 2, none⟩ = some (.slice na e.names.length nc) ∧ w3.drew.cell? ⟨w.heap.size, 3, none⟩ = some (.int .i64 e.const.kind) ∧ w3.drew.cell? ⟨w.heap.size, 4, none⟩ = some (.int .i64 e.const.int) ∧ w3.drew.cell? ⟨w.heap.size, 5, none⟩ = some (.string e.const.text) ∧ w3.drew.cell? ⟨w.heap.size, 6, none⟩ = some (.slice da dn dc) ∧ w3.drew.cell? ⟨w.heap.size, 7, none⟩ = some (.slice ka e.kids.length kc) ∧ w3.drew.cell? ⟨w.heap.size + 1, 0, none⟩ = some (.int .i64 x.kind) ∧ w3.drew.cell? ⟨w.heap.size + 1, 1, none⟩ = some (.string x.name) ∧ w3.drew.cell? ⟨w.heap.size + 1, 2, none⟩ = some (.slice xna x.names.length xnc) ∧ w3.drew.cell? ⟨w.heap.size + 1, 3, none⟩ = some (.int .i64 x.const.kind) ∧ w3.drew.cell? ⟨w.heap.size + 1, 4, none⟩ = some (.int .i64 x.const.int) ∧ w3.drew.cell? ⟨w.heap.size + 1, 5, none⟩ = some (.string x.const.text) ∧ w3.drew.cell? ⟨w.heap.size + 1, 6, none⟩ = some (.slice xda xdn xdc) ∧ w3.drew.cell? ⟨w.heap.size + 1, 7, none⟩ = some (.slice xka x.kids.length xkc)) := HSS.out _ HB3D.out
 have xl1 : w.heap.size < w3.heap.size := xl
 clear x0 x1 x2 x3 x4 x5 x6 x7 xl o0 o1 o2 o3 o4 o5 o6 o7 ol
 go_region_held3 (fun w' => w'.cell? ⟨w.heap.size, 0, none⟩ = some (.int .i64 e.kind) ∧ w'.cell? ⟨w.heap.size, 1, none⟩ = some (.string e.name) ∧ w'.cell? ⟨w.heap.size, 2, none⟩ = some (.slice na e.names.length nc) ∧ w'.cell? ⟨w.heap.size, 3, none⟩ = some (.int .i64 e.const.kind) ∧ w'.cell? ⟨w.heap.size, 4, none⟩ = some (.int .i64 e.const.int) ∧ w'.cell? ⟨w.heap.size, 5, none⟩ = some (.string e.const.text) ∧ w'.cell? ⟨w.heap.size, 6, none⟩ = some (.slice da dn dc) ∧ w'.cell? ⟨w.heap.size, 7, none⟩ = some (.slice ka e.kids.length kc) ∧ w'.cell? ⟨w.heap.size + 1, 0, none⟩ = some (.int .i64 x.kind) ∧ w'.cell? ⟨w.heap.size + 1, 1, none⟩ = some (.string x.name) ∧ w'.cell? ⟨w.heap.size + 1, 2, none⟩ = some (.slice xna x.names.length xnc) ∧ w'.cell? ⟨w.heap.size + 1, 3, none⟩ = some (.int .i64 x.const.kind) ∧ w'.cell? ⟨w.heap.size + 1, 4, none⟩ = some (.int .i64 x.const.int) ∧ w'.cell? ⟨w.heap.size + 1, 5, none⟩ = some (.string x.const.text) ∧ w'.cell? ⟨w.heap.size + 1, 6, none⟩ = some (.slice xda xdn xdc) ∧ w'.cell? ⟨w.heap.size + 1, 7, none⟩ = some (.slice xka x.kids.length xkc))
  (first | with_reducible exact HSwf.out | with_reducible exact HSwe.out | with_reducible exact HSwd.out | with_reducible exact HSwc.out | with_reducible exact HSwb.out | with_reducible exact HSwa.out | with_reducible exact HS3D.out | exact HS3D.out | fail)
  (first
   | (go_at_call 27; (with_reducible refine (HCX.out _ HB3D.out).mono ?_); rintro e2 wa ⟨rfl, hb⟩; have HBwa : Hid (Below w2.heap.size w2 wa) := HB3D.out.trans (hb.mono HB3D.out.size); have HSwa : Hid (wa.cell? ⟨w.heap.size, 0, none⟩ = some (.int .i64 e.kind) ∧ wa.cell? ⟨w.heap.size, 1, none⟩ = some (.string e.name) ∧ wa.cell? ⟨w.heap.size, 2, none⟩ = some (.slice na e.names.length nc) ∧ wa.cell? ⟨w.heap.size, 3, none⟩ = some (.int .i64 e.const.kind) ∧ wa.cell? ⟨w.heap.size, 4, none⟩ = some (.int .i64 e.const.int) ∧ wa.cell? ⟨w.heap.size, 5, none⟩ = some (.string e.const.text) ∧ wa.cell? ⟨w.heap.size, 6, none⟩ = some (.slice da dn dc) ∧ wa.cell? ⟨w.heap.size, 7, none⟩ = some (.slice ka e.kids.length kc) ∧ wa.cell? ⟨w.heap.size + 1, 0, none⟩ = some (.int .i64 x.kind) ∧ wa.cell? ⟨w.heap.size + 1, 1, none⟩ = some (.string x.name) ∧ wa.cell? ⟨w.heap.size + 1, 2, none⟩ = some (.slice xna x.names.length xnc) ∧ wa.cell? ⟨w.heap.size + 1, 3, none⟩ = some (.int .i64 x.const.kind) ∧ wa.cell? ⟨w.heap.size + 1, 4, none⟩ = some (.int .i64 x.const.int) ∧ wa.cell? ⟨w.heap.size + 1, 5, none⟩ = some (.string x.const.text) ∧ wa.cell? ⟨w.heap.size + 1, 6, none⟩ = some (.slice xda xdn xdc) ∧ wa.cell? ⟨w.heap.size + 1, 7, none⟩ = some (.slice xka x.kids.length xkc)) := HSS.out _ HBwa.out; clear hb)
   | (go_at_call 12; (with_reducible refine (HHS.out wa HBwa.out).mono ?_); rintro e2 wb ⟨rfl, hb⟩; have HBwb : Hid (Below w2.heap.size w2 wb) := HBwa.out.trans (hb.mono HBwa.out.size); have HSwb : Hid (wb.cell? ⟨w.heap.size, 0, none⟩ = some (.int .i64 e.kind) ∧ wb.cell? ⟨w.heap.size, 1, none⟩ = some (.string e.name) ∧ wb.cell? ⟨w.heap.size, 2, none⟩ = some (.slice na e.names.length nc) ∧ wb.cell? ⟨w.heap.size, 3, none⟩ = some (.int .i64 e.const.kind) ∧ wb.cell? ⟨w.heap.size, 4, none⟩ = some (.int .i64 e.const.int) ∧ wb.cell? ⟨w.heap.size, 5, none⟩ = some (.string e.const.text) ∧ wb.cell? ⟨w.heap.size, 6, none⟩ = some (.slice da dn dc) ∧ wb.cell? ⟨w.heap.size, 7, none⟩ = some (.slice ka e.kids.length kc) ∧ wb.cell? ⟨w.heap.size + 1, 0, none⟩ = some (.int .i64 x.kind) ∧ wb.cell? ⟨w.heap.size + 1, 1, none⟩ = some (.string x.name) ∧ wb.cell? ⟨w.heap.size + 1, 2, none⟩ = some (.slice xna x.names.length xnc) ∧ wb.cell? ⟨w.heap.size + 1, 3, none⟩ = some (.int .i64 x.const.kind) ∧ wb.cell? ⟨w.heap.size + 1, 4, none⟩ = some (.int .i64 x.const.int) ∧ wb.cell? ⟨w.heap.size + 1, 5, none⟩ = some (.string x.const.text) ∧ wb.cell? ⟨w.heap.size + 1, 6, none⟩ = some (.slice xda xdn xdc) ∧ wb.cell? ⟨w.heap.size + 1, 7, none⟩ = some (.slice xka x.kids.length xkc)) := HSS.out _ HBwb.out; clear hb)
   | (go_at_call 12; (with_reducible refine (HFS.out wb HBwb.out).mono ?_); rintro e2 wc ⟨rfl, hb⟩; have HBwc : Hid (Below w2.heap.size w2 wc) := HBwb.out.trans (hb.mono HBwb.out.size); have HSwc : Hid (wc.cell? ⟨w.heap.size, 0, none⟩ = some (.int .i64 e.kind) ∧ wc.cell? ⟨w.heap.size, 1, none⟩ = some (.string e.name) ∧ wc.cell? ⟨w.heap.size, 2, none⟩ = some (.slice na e.names.length nc) ∧ wc.cell? ⟨w.heap.size, 3, none⟩ = some (.int .i64 e.const.kind) ∧ wc.cell? ⟨w.heap.size, 4, none⟩ = some (.int .i64 e.const.int) ∧ wc.cell? ⟨w.heap.size, 5, none⟩ = some (.string e.const.text) ∧ wc.cell? ⟨w.heap.size, 6, none⟩ = some (.slice da dn dc) ∧ wc.cell? ⟨w.heap.size, 7, none⟩ = some (.slice ka e.kids.length kc) ∧ wc.cell? ⟨w.heap.size + 1, 0, none⟩ = some (.int .i64 x.kind) ∧ wc.cell? ⟨w.heap.size + 1, 1, none⟩ = some (.string x.name) ∧ wc.cell? ⟨w.heap.size + 1, 2, none⟩ = some (.slice xna x.names.length xnc) ∧ wc.cell? ⟨w.heap.size + 1, 3, none⟩ = some (.int .i64 x.const.kind) ∧ wc.cell? ⟨w.heap.size + 1, 4, none⟩ = some (.int .i64 x.const.int) ∧ wc.cell? ⟨w.heap.size + 1, 5, none⟩ = some (.string x.const.text) ∧ wc.cell? ⟨w.heap.size + 1, 6, none⟩ = some (.slice xda xdn xdc) ∧ wc.cell? ⟨w.heap.size + 1, 7, none⟩ = some (.slice xka x.kids.length xkc)) := HSS.out _ HBwc.out; clear hb)
   | (go_at_call 30; (with_reducible refine (HFX.out wc HBwc.out).mono ?_); rintro e2 wd ⟨ax, cx, rfl, hsl, _, hb⟩; have HSX := hid hsl; clear hsl; have HBwd : Hid (Below w2.heap.size w2 wd) := HBwc.out.trans (hb.mono HBwc.out.size); have HSwd : Hid (wd.cell? ⟨w.heap.size, 0, none⟩ = some (.int .i64 e.kind) ∧ wd.cell? ⟨w.heap.size, 1, none⟩ = some (.string e.name) ∧ wd.cell? ⟨w.heap.size, 2, none⟩ = some (.slice na e.names.length nc) ∧ wd.cell? ⟨w.heap.size, 3, none⟩ = some (.int .i64 e.const.kind) ∧ wd.cell? ⟨w.heap.size, 4, none⟩ = some (.int .i64 e.const.int) ∧ wd.cell? ⟨w.heap.size, 5, none⟩ = some (.string e.const.text) ∧ wd.cell? ⟨w.heap.size, 6, none⟩ = some (.slice da dn dc) ∧ wd.cell? ⟨w.heap.size, 7, none⟩ = some (.slice ka e.kids.length kc) ∧ wd.cell? ⟨w.heap.size + 1, 0, none⟩ = some (.int .i64 x.kind) ∧ wd.cell? ⟨w.heap.size + 1, 1, none⟩ = some (.string x.name) ∧ wd.cell? ⟨w.heap.size + 1, 2, none⟩ = some (.slice xna x.names.length xnc) ∧ wd.cell? ⟨w.heap.size + 1, 3, none⟩ = some (.int .i64 x.const.kind) ∧ wd.cell? ⟨w.heap.size + 1, 4, none⟩ = some (.int .i64 x.const.int) ∧ wd.cell? ⟨w.heap.size + 1, 5, none⟩ = some (.string x.const.text) ∧ wd.cell? ⟨w.heap.size + 1, 6, none⟩ = some (.slice xda xdn xdc) ∧ wd.cell? ⟨w.heap.size + 1, 7, none⟩ = some (.slice xka x.kids.length xkc)) := HSS.out _ HBwd.out; clear hb)
   | (go_at_call 30; (with_reducible refine (HFE.out wc HBwc.out).mono ?_); rintro e2 wd ⟨ae, ce, rfl, hsl, _, hb⟩; have HSE := hid hsl; clear hsl; have HBwd : Hid (Below w2.heap.size w2 wd) := HBwc.out.trans (hb.mono HBwc.out.size); have HSwd : Hid (wd.cell? ⟨w.heap.size, 0, none⟩ = some (.int .i64 e.kind) ∧ wd.cell? ⟨w.heap.size, 1, none⟩ = some (.string e.name) ∧ wd.cell? ⟨w.heap.size, 2, none⟩ = some (.slice na e.names.length nc) ∧ wd.cell? ⟨w.heap.size, 3, none⟩ = some (.int .i64 e.const.kind) ∧ wd.cell? ⟨w.heap.size, 4, none⟩ = some (.int .i64 e.const.int) ∧ wd.cell? ⟨w.heap.size, 5, none⟩ = some (.string e.const.text) ∧ wd.cell? ⟨w.heap.size, 6, none⟩ = some (.slice da dn dc) ∧ wd.cell? ⟨w.heap.size, 7, none⟩ = some (.slice ka e.kids.length kc) ∧ wd.cell? ⟨w.heap.size + 1, 0, none⟩ = some (.int .i64 x.kind) ∧ wd.cell? ⟨w.heap.size + 1, 1, none⟩ = some (.string x.name) ∧ wd.cell? ⟨w.heap.size + 1, 2, none⟩ = some (.slice xna x.names.length xnc) ∧ wd.cell? ⟨w.heap.size + 1, 3, none⟩ = some (.int .i64 x.const.kind) ∧ wd.cell? ⟨w.heap.size + 1, 4, none⟩ = some (.int .i64 x.const.int) ∧ wd.cell? ⟨w.heap.size + 1, 5, none⟩ = some (.string x.const.text) ∧ wd.cell? ⟨w.heap.size + 1, 6, none⟩ = some (.slice xda xdn xdc) ∧ wd.cell? ⟨w.heap.size + 1, 7, none⟩ = some (.slice xka x.kids.length xkc)) := HSS.out _ HBwd.out; clear hb)
   | (go_at_call 30; (with_reducible refine (HFE.out wd HBwd.out).mono ?_); rintro e2 we ⟨ae, ce, rfl, hsl, _, hb⟩; have HSE := hid hsl; have HSX := hid (sl_bel HSX.out hb); clear hsl; have HBwe : Hid (Below w2.heap.size w2 we) := HBwd.out.trans (hb.mono HBwd.out.size); have HSwe : Hid (we.cell? ⟨w.heap.size, 0, none⟩ = some (.int .i64 e.kind) ∧ we.cell? ⟨w.heap.size, 1, none⟩ = some (.string e.name) ∧ we.cell? ⟨w.heap.size, 2, none⟩ = some (.slice na e.names.length nc) ∧ we.cell? ⟨w.heap.size, 3, none⟩ = some (.int .i64 e.const.kind) ∧ we.cell? ⟨w.heap.size, 4, none⟩ = some (.int .i64 e.const.int) ∧ we.cell? ⟨w.heap.size, 5, none⟩ = some (.string e.const.text) ∧ we.cell? ⟨w.heap.size, 6, none⟩ = some (.slice da dn dc) ∧ we.cell? ⟨w.heap.size, 7, none⟩ = some (.slice ka e.kids.length kc) ∧ we.cell? ⟨w.heap.size + 1, 0, none⟩ = some (.int .i64 x.kind) ∧ we.cell? ⟨w.heap.size + 1, 1, none⟩ = some (.string x.name) ∧ we.cell? ⟨w.heap.size + 1, 2, none⟩ = some (.slice xna x.names.length xnc) ∧ we.cell? ⟨w.heap.size + 1, 3, none⟩ = some (.int .i64 x.const.kind) ∧ we.cell? ⟨w.heap.size + 1, 4, none⟩ = some (.int .i64 x.const.int) ∧ we.cell? ⟨w.heap.size + 1, 5, none⟩ = some (.string x.const.text) ∧ we.cell? ⟨w.heap.size + 1, 6, none⟩ = some (.slice xda xdn xdc) ∧ we.cell? ⟨w.heap.size + 1, 7, none⟩ = some (.slice xka x.kids.length xkc)) := HSS.out _ HBwe.out; clear hb)
   | (go_at_call 30; (with_reducible refine (HFX.out wd HBwd.out).mono ?_); rintro e2 we ⟨ax, cx, rfl, hsl, _, hb⟩; have HSX := hid hsl; have HSE := hid (sl_bel HSE.out hb); clear hsl; have HBwe : Hid (Below w2.heap.size w2 we) := HBwd.out.trans (hb.mono HBwd.out.size); have HSwe : Hid (we.cell? ⟨w.heap.size, 0, none⟩ = some (.int .i64 e.kind) ∧ we.cell? ⟨w.heap.size, 1, none⟩ = some (.string e.name) ∧ we.cell? ⟨w.heap.size, 2, none⟩ = some (.slice na e.names.length nc) ∧ we.cell? ⟨w.heap.size, 3, none⟩ = some (.int .i64 e.const.kind) ∧ we.cell? ⟨w.heap.size, 4, none⟩ = some (.int .i64 e.const.int) ∧ we.cell? ⟨w.heap.size, 5, none⟩ = some (.string e.const.text) ∧ we.cell? ⟨w.heap.size, 6, none⟩ = some (.slice da dn dc) ∧ we.cell? ⟨w.heap.size, 7, none⟩ = some (.slice ka e.kids.length kc) ∧ we.cell? ⟨w.heap.size + 1, 0, none⟩ = some (.int .i64 x.kind) ∧ we.cell? ⟨w.heap.size + 1, 1, none⟩ = some (.string x.name) ∧ we.cell? ⟨w.heap.size + 1, 2, none⟩ = some (.slice xna x.names.length xnc) ∧ we.cell? ⟨w.heap.size + 1, 3, none⟩ = some (.int .i64 x.const.kind) ∧ we.cell? ⟨w.heap.size + 1, 4, none⟩ = some (.int .i64 x.const.int) ∧ we.cell? ⟨w.heap.size + 1, 5, none⟩ = some (.string x.const.text) ∧ we.cell? ⟨w.heap.size + 1, 6, none⟩ = some (.slice xda xdn xdc) ∧ we.cell? ⟨w.heap.size + 1, 7, none⟩ = some (.slice xka x.kids.length xkc)) := HSS.out _ HBwe.out; clear hb)
   | (go_at_call 29; (with_reducible refine (HST.out we ax cx ae ce HSX.out HSE.out).mono ?_); rintro e2 wf ⟨rfl, hb⟩; have HBwf : Hid (Below w2.heap.size w2 wf) := HBwe.out.trans (hb.mono HBwe.out.size); have HSwf : Hid (wf.cell? ⟨w.heap.size, 0, none⟩ = some (.int .i64 e.kind) ∧ wf.cell? ⟨w.heap.size, 1, none⟩ = some (.string e.name) ∧ wf.cell? ⟨w.heap.size, 2, none⟩ = some (.slice na e.names.length nc) ∧ wf.cell? ⟨w.heap.size, 3, none⟩ = some (.int .i64 e.const.kind) ∧ wf.cell? ⟨w.heap.size, 4, none⟩ = some (.int .i64 e.const.int) ∧ wf.cell? ⟨w.heap.size, 5, none⟩ = some (.string e.const.text) ∧ wf.cell? ⟨w.heap.size, 6, none⟩ = some (.slice da dn dc) ∧ wf.cell? ⟨w.heap.size, 7, none⟩ = some (.slice ka e.kids.length kc) ∧ wf.cell? ⟨w.heap.size + 1, 0, none⟩ = some (.int .i64 x.kind) ∧ wf.cell? ⟨w.heap.size + 1, 1, none⟩ = some (.string x.name) ∧ wf.cell? ⟨w.heap.size + 1, 2, none⟩ = some (.slice xna x.names.length xnc) ∧ wf.cell? ⟨w.heap.size + 1, 3, none⟩ = some (.int .i64 x.const.kind) ∧ wf.cell? ⟨w.heap.size + 1, 4, none⟩ = some (.int .i64 x.const.int) ∧ wf.cell? ⟨w.heap.size + 1, 5, none⟩ = some (.string x.const.text) ∧ wf.cell? ⟨w.heap.size + 1, 6, none⟩ = some (.slice xda xdn xdc) ∧ wf.cell? ⟨w.heap.size + 1, 7, none⟩ = some (.slice xka x.kids.length xkc)) := HSS.out _ HBwf.out; clear hb)
   | fail)
 all_goals
  go_wp2_with fail
  go_ret
  exact ⟨rfl, HB02.out.trans (HBwf.out.mono HB02.out.size)⟩
set_option maxHeartbeats 4000000 in
theorem ref_exact (s : ByteArray) (w : World) : Calls Tryz.prog 21 #[.string s] w fun en w' => en = .returned (.agg #[.int .i64 1, .string s, .slice none 0 0, .int .i64 0, .int .i64 0, .string ⟨#[]⟩, .slice none 0 0, .slice none 0 0]) ∧ w' = w.alloc (.cells #[.int .i64 1, .string s, .slice none 0 0, .int .i64 0, .int .i64 0, .string ⟨#[]⟩, .slice none 0 0, .slice none 0 0] 28) := by
 go_enter Tryz.func21, Tryz.ntmps21
 go_wp2_with fail
 refine bodyPost_ret (res1 rfl _ _ w.heap.size 28 #[.int .i64 1, .string s, .slice none 0 0, .int .i64 0, .int .i64 0, .string ⟨#[]⟩, .slice none 0 0, .slice none 0 0] (0, 0) rfl (heap_alloc_new w _) exprD exprSize) rfl ?_
 exact ⟨rfl, rfl⟩
set_option maxHeartbeats 4000000 in
theorem num_exact (k : Int) (w : World) : Calls Tryz.prog 22 #[.int .i64 k] w fun en w' => en = .returned (.agg #[.int .i64 0, .string ⟨#[]⟩, .slice none 0 0, .int .i64 1, .int .i64 k, .string ⟨#[]⟩, .slice none 0 0, .slice none 0 0]) ∧ w' = w.alloc (.cells #[.int .i64 0, .string ⟨#[]⟩, .slice none 0 0, .int .i64 1, .int .i64 k, .string ⟨#[]⟩, .slice none 0 0, .slice none 0 0] 28) := by
 go_enter Tryz.func22, Tryz.ntmps22
 go_wp2_with fail
 refine bodyPost_ret (res1 rfl _ _ w.heap.size 28 #[.int .i64 0, .string ⟨#[]⟩, .slice none 0 0, .int .i64 1, .int .i64 k, .string ⟨#[]⟩, .slice none 0 0, .slice none 0 0] (0, 0) rfl (heap_alloc_new w _) exprD exprSize) rfl ?_
 exact ⟨rfl, rfl⟩
theorem mk_ex {W : World} {k : Int} {n : ByteArray} {kv : Value} {ks : List Ex} (hk : KidsAt W kv ks) : ExAt W (exV k n (.slice none 0 0) Dt.zero (.slice none 0 0) kv) (.mk k n [] Dt.zero ks) := exAt_mk ⟨none, 0, rfl, .inl ⟨rfl, rfl, rfl⟩⟩ (zero_const _) room_nil hk
theorem nokids (W : World) : KidsAt W (.slice none 0 0) [] := ⟨none, 0, rfl, Nat.le_refl _, .inl rfl⟩
theorem ref_ex (W : World) (s : ByteArray) : ExAt W (exV 1 s (.slice none 0 0) Dt.zero (.slice none 0 0) (.slice none 0 0)) (Ex.refE s) := mk_ex (nokids W)
theorem num_ex (W : World) (k : Int) : ExAt W (exV 0 ⟨#[]⟩ (.slice none 0 0) (.mk 1 k ⟨#[]⟩ []) (.slice none 0 0) (.slice none 0 0)) (numE k) := (op_num W k).ex
theorem kids1 {W : World} {g : Nat} {x : XM} (h : W.heap[g]? = some (.cells #[.int .i64 x.e.kind, .string x.e.name, x.nv, .int .i64 x.e.const.kind, .int .i64 x.e.const.int, .string x.e.const.text, x.dl, x.kv] 28 (0, 0))) (hx : ExAt W x.val x.e) : KidsAt W (.slice (some ⟨g, 0, none⟩) 1 1) [x.e] :=
 kids_row (M := [x]) (own_lit1 h) fun y hy => by
  simp at hy
  subst hy
  exact hx
theorem kids2 {W : World} {g : Nat} {x y : XM} (h : W.heap[g]? = some (.cells #[.int .i64 x.e.kind, .string x.e.name, x.nv, .int .i64 x.e.const.kind, .int .i64 x.e.const.int, .string x.e.const.text, x.dl, x.kv, .int .i64 y.e.kind, .string y.e.name, y.nv, .int .i64 y.e.const.kind, .int .i64 y.e.const.int, .string y.e.const.text, y.dl, y.kv] 28 (0, 0))) (hx : ExAt W x.val x.e) (hy : ExAt W y.val y.e) : KidsAt W (.slice (some ⟨g, 0, none⟩) 2 2) [x.e, y.e] :=
 kids_row (M := [x, y]) (own_lit2 h) fun z hz => by
  simp at hz
  rcases hz with rfl | rfl
  ·exact hx
  ·exact hy
theorem own_lit3 {w : World} {g : Nat} {x y z : XM} (h : w.heap[g]? = some (.cells #[.int .i64 x.e.kind, .string x.e.name, x.nv, .int .i64 x.e.const.kind, .int .i64 x.e.const.int, .string x.e.const.text, x.dl, x.kv, .int .i64 y.e.kind, .string y.e.name, y.nv, .int .i64 y.e.const.kind, .int .i64 y.e.const.int, .string y.e.const.text, y.dl, y.kv, .int .i64 z.e.kind, .string z.e.name, z.nv, .int .i64 z.e.const.kind, .int .i64 z.e.const.int, .string z.e.const.text, z.dl, z.kv] 28 (0, 0))) : w.ownsRow 0 28 8 (.slice (some ⟨g, 0, none⟩) 3 3) 3 (flatX [x, y, z]) :=
 ⟨by rw [flatX_length]; rfl, .inr ⟨g, 3, _, rfl, Nat.zero_le _, h, Nat.le_refl _, by decide, rfl, rfl⟩⟩
theorem kids3 {W : World} {g : Nat} {x y z : XM} (h : W.heap[g]? = some (.cells #[.int .i64 x.e.kind, .string x.e.name, x.nv, .int .i64 x.e.const.kind, .int .i64 x.e.const.int, .string x.e.const.text, x.dl, x.kv, .int .i64 y.e.kind, .string y.e.name, y.nv, .int .i64 y.e.const.kind, .int .i64 y.e.const.int, .string y.e.const.text, y.dl, y.kv, .int .i64 z.e.kind, .string z.e.name, z.nv, .int .i64 z.e.const.kind, .int .i64 z.e.const.int, .string z.e.const.text, z.dl, z.kv] 28 (0, 0))) (hx : ExAt W x.val x.e) (hy : ExAt W y.val y.e) (hz : ExAt W z.val z.e) : KidsAt W (.slice (some ⟨g, 0, none⟩) 3 3) [x.e, y.e, z.e] :=
 kids_row (M := [x, y, z]) (own_lit3 h) fun u hu => by
  simp at hu
  rcases hu with rfl | rfl | rfl
  ·exact hx
  ·exact hy
  ·exact hz
theorem names_new {W : World} {g : Nat} {l : List ByteArray} (h : W.heap[g]? = some (.cells ((strs l).toArray) 9 (0, 0))) : Sl W (.slice (some ⟨g, 0, none⟩) l.length l.length) (strs l) := by
 refine ⟨_, l.length, by rw [strs_length], .inr ⟨_, rfl, fun j u hu => ?_⟩⟩
 rw [Addr.add_mid, Nat.zero_add, cell_of_row _ _ _ _ _ _ h]
 simpa using hu
structure VarX (w0 wx : World) (g : Nat) (x : XM) : Prop where
 blk : wx.heap[g]? = some (.cells #[.int .i64 x.e.kind, .string x.e.name, x.nv, .int .i64 x.e.const.kind, .int .i64 x.e.const.int, .string x.e.const.text, x.dl, x.kv] 28 (0, 0))
 ex : ExAt wx x.val x.e
 below : Below w0.heap.size w0 wx
theorem VarX.bel {w0 wx wy : World} {g : Nat} {x : XM} (h : VarX w0 wx g x) (hb : Below wx.heap.size wx wy) : VarX w0 wy g x :=
 ⟨(hb.block _ (Array.getElem?_eq_some_iff.1 h.blk).1).trans h.blk, h.ex.bel hb, h.below.trans (hb.mono h.below.size)⟩
def noX (k : Int) (n : ByteArray) (ks : List Ex) (kv : Value) : XM := ⟨.mk k n [] Dt.zero ks, .slice none 0 0, .slice none 0 0, kv⟩
theorem more_var (w : World) {W : World} (hW : W = ((((w.alloc (.cells #[.int .i64 1, .string ⟨#[120]⟩, .slice none 0 0, .int .i64 0, .int .i64 0, .string ⟨#[]⟩, .slice none 0 0, .slice none 0 0] 28)).alloc (.cells #[.int .i64 0, .string ⟨#[]⟩, .slice none 0 0, .int .i64 1, .int .i64 1, .string ⟨#[]⟩, .slice none 0 0, .slice none 0 0] 28)).alloc (.cells #[.int .i64 1, .string ⟨#[120]⟩, .slice none 0 0, .int .i64 0, .int .i64 0, .string ⟨#[]⟩, .slice none 0 0, .slice none 0 0, .int .i64 0, .string ⟨#[]⟩, .slice none 0 0, .int .i64 1, .int .i64 1, .string ⟨#[]⟩, .slice none 0 0, .slice none 0 0] 28)).alloc (.cells #[.int .i64 7, .string ⟨#[43]⟩, .slice none 0 0, .int .i64 0, .int .i64 0, .string ⟨#[]⟩, .slice none 0 0, .slice (some ⟨w.heap.size + 1 + 1, 0, none⟩) 2 2] 28)).alloc (.cells #[.int .i64 2, .string ⟨#[120]⟩, .slice none 0 0, .int .i64 0, .int .i64 0, .string ⟨#[]⟩, .slice none 0 0, .slice (some ⟨w.heap.size + 1 + 1 + 1, 0, none⟩) 1 1] 28)) :
  VarX w W (w.heap.size + 1 + 1 + 1 + 1) (noX 2 Bc.sx [Ex.primE sPlus [Ex.refE Bc.sx, numE 1]] (.slice (some ⟨w.heap.size + 1 + 1 + 1, 0, none⟩) 1 1)) := by
 have a1 : W.heap[w.heap.size + 1 + 1]? = some (.cells #[.int .i64 1, .string ⟨#[120]⟩, .slice none 0 0, .int .i64 0, .int .i64 0, .string ⟨#[]⟩, .slice none 0 0, .slice none 0 0, .int .i64 0, .string ⟨#[]⟩, .slice none 0 0, .int .i64 1, .int .i64 1, .string ⟨#[]⟩, .slice none 0 0, .slice none 0 0] 28 (0, 0)) := by
  rw [hW, heap_alloc_old _ _ (by simp <;> omega), heap_alloc_old _ _ (by simp)]
  exact heap_new (by simp)
 have a2 : W.heap[w.heap.size + 1 + 1 + 1]? = some (.cells #[.int .i64 7, .string ⟨#[43]⟩, .slice none 0 0, .int .i64 0, .int .i64 0, .string ⟨#[]⟩, .slice none 0 0, .slice (some ⟨w.heap.size + 1 + 1, 0, none⟩) 2 2] 28 (0, 0)) := by
  rw [hW, heap_alloc_old _ _ (by simp)]
  exact heap_new (by simp)
 have hb : Below w.heap.size w W := by
  rw [hW]
  exact ((((((Below.refl _ _).alloc (Nat.le_refl _) _).alloc (by simp) _).alloc (by simp <;> omega) _).alloc (by simp <;> omega) _).alloc (by simp <;> omega) _)
 refine ⟨by rw [hW]; exact heap_new (by simp), ?_, hb⟩
 exact mk_ex (kids1 (x := noX 7 sPlus [Ex.refE Bc.sx, numE 1] (.slice (some ⟨w.heap.size + 1 + 1, 0, none⟩) 2 2)) a2 (mk_ex (kids2 (x := noX 1 Bc.sx [] (.slice none 0 0)) (y := ⟨numE 1, .slice none 0 0, .slice none 0 0, .slice none 0 0⟩) a1 (ref_ex W Bc.sx) (num_ex W 1))))
theorem call1_on {S : Nat → Prop} {w : World} {g : Nat} {x : XM} (h : w.heap[g]? = some (.cells #[.int .i64 x.e.kind, .string x.e.name, x.nv, .int .i64 x.e.const.kind, .int .i64 x.e.const.int, .string x.e.const.text, x.dl, x.kv] 28 (0, 0))) (hg : S g) (hx : On S w (fun w => ExAt w x.val x.e)) :
  On S w (fun w => ExAt w (exV 6 ⟨#[]⟩ (.slice none 0 0) Dt.zero (.slice none 0 0) (.slice (some ⟨g, 0, none⟩) 1 1)) (.mk 6 ⟨#[]⟩ [] Dt.zero [x.e])) := by
 have hk : On S w (fun w => KidsAt w (.slice (some ⟨g, 0, none⟩) 1 1) [x.e]) := On.kids (M := [x]) (own_lit1 h) (fun b e => by cases e; exact hg) (fun y hy => by simp at hy; subst hy; exact hx)
 exact On.mk On.nil On.zero room_nil hk
theorem Bx.many {B : Nat} {e : Ex} {nv dl : Value} {w5 : World} {ρ0 : Nat → Nat} {ob : Nat} {wr : World} {ρ : Nat → Nat} {kv : Value} {M : List XM} (h : Bx B e nv dl w5 ρ0 ob wr ρ kv M) {YS : List XM} (hy : ∀ y ∈ YS, Free0 ρ wr (fun w => ExAt w y.val y.e)) {w1 w2 : World} {v' : Value} (hb : Below wr.heap.size wr w1) (hown : w2.ownsRow 0 28 8 v' (M.length + YS.length) (flatX M ++ flatX YS)) (hg : w1.grownBy w2 kv.ownBlock) (hl : v'.ownBlock = kv.ownBlock ∨ v'.ownBlock = some w1.heap.size) :
  ∃ ρ', Bx B e nv dl w5 ρ0 ob (w2.setCell ⟨ob, 7, none⟩ v') ρ' v' (M ++ YS) := by
 obtain ⟨ρ', h1, k2, k3⟩ := row_grow h.row.row h.ri (by decide) hb hown hg hl
 have k1 : XR w2 ρ' 2 v' (M ++ YS) := ⟨by rw [flatX_app, List.length_append]; exact h1, fun y hy' => by
  rcases List.mem_append.1 hy' with hy' | hy'
  ·exact free_gr (h.row.els y hy') (by decide) k2
  ·exact free_gr (hy y hy') (by decide) k2⟩
 have hol := (Array.getElem?_eq_some_iff.1 h.blk).1
 have ho2 : ρ' ob = 1 := (k2.role ob hol).trans h.ro
 have hs : Gr 1 w2 ρ' (w2.setCell ⟨ob, 7, none⟩ v') ρ' := Gr.set v' ho2
 exact ⟨ρ', heap_setCell_same w2 ob 7 _ _ v' ((k2.keep ob hol (by rw [h.ro]; decide)).trans h.blk), k1.gr (by decide) (by decide) hs, k3.set, (h.gr.trans (k2.toS (.inr rfl))).trans (hs.toS (.inl rfl)), ho2⟩
theorem step_app {W : World} {ops : Array Oper} {o : Oper} {a : Act} {K : Act → World → Prop} {Q : Exit → Act → World → Prop} {E : Prop} {v : Value} {n m xb : Nat} {xs : List Value} (cs : List Value) (t1 t2 : Nat) (hgd : o.guard = none)
  (ho : o.op = .call { callee := .builtin .append, args := #[.tmp t1, .tmp t2], argTypes := #[26, 26] }) (hs : a.eval (.tmp t1) = v) (hx : a.eval (.tmp t2) = .slice (some ⟨xb, 0, none⟩) m m) (hown : W.ownsRow 0 28 8 v n xs) (hn : n ≤ 200000) (hm : m ≤ 1000)
  (hxb : W.heap[xb]? = some (.cells cs.toArray 28 (0, 0))) (hcl : cs.length = m * 8) (h1 : ∀ u ∈ cs, u.oneCell' = true) (hlt : xb < W.heap.size)
  (h : ∀ g7 c7 w7, w7.ownsRow 0 28 8 (.slice (some ⟨g7, 0, none⟩) (n + m) c7) (n + m) (xs ++ cs) → W.grownBy w7 v.ownBlock → ((Value.slice (some ⟨g7, 0, none⟩) (n + m) c7).ownBlock = v.ownBlock ∨ (Value.slice (some ⟨g7, 0, none⟩) (n + m) c7).ownBlock = some W.heap.size) → K (a.put o.dst (.slice (some ⟨g7, 0, none⟩) (n + m) c7)) w7) (hm0 : 0 < m) : if Region.wanted o (yielded ops a.tmps) = true then Oper.wp Tryz.prog o a W K Q else E := by
 obtain ⟨i0, hi0, hz0, hz1, hz2⟩ := info_parts infoExpr
 refine step_append_v hgd (.tmp t1) (.tmp t2) 26 ho 0 28 i0 _ 8 128 Tryz.underlying26 hi0 hz0 hz1 hz2 rfl (by decide) v n xs hs hown (some ⟨xb, 0, none⟩) m m cs hx hcl (.inr ⟨_, rfl, World.news_of_block hxb⟩) h1 (by simp only [maxLen]; omega) (by omega) (Nat.zero_le _) _ rfl ?_
 intro av cv w7 hown hg hl
 rcases own_shape hown with ⟨e, e2, _⟩ | ⟨g7, c7, e7, _⟩
 ·omega
 ·rw [e7] at hown hl ⊢
  exact h g7 c7 w7 hown hg hl
theorem bref_any (s : ByteArray) (w : World) : Calls Tryz.prog 21 #[.string s] w fun en w' => en = .returned (.agg #[.int .i64 1, .string s, .slice none 0 0, .int .i64 0, .int .i64 0, .string ⟨#[]⟩, .slice none 0 0, .slice none 0 0]) ∧ Below w.heap.size w w' :=
 (ref_exact s w).mono fun en w' ⟨h1, h2⟩ => ⟨h1, by rw [h2]; exact (Below.refl _ _).alloc (Nat.le_refl _) _⟩
theorem get_one (g : Nat) : ∀ u ∈ flatX [⟨numE 0, .slice none 0 0, .slice none 0 0, .slice none 0 0⟩, noX 6 ⟨#[]⟩ [Ex.refE Bc.sget] (.slice (some ⟨g, 0, none⟩) 1 1)], u.oneCell' = true := by
 intro u hu
 rw [show flatX [⟨numE 0, .slice none 0 0, .slice none 0 0, .slice none 0 0⟩, noX 6 ⟨#[]⟩ [Ex.refE Bc.sget] (.slice (some ⟨g, 0, none⟩) 1 1)] = XM.cells ⟨numE 0, .slice none 0 0, .slice none 0 0, .slice none 0 0⟩ ++ XM.cells (noX 6 ⟨#[]⟩ [Ex.refE Bc.sget] (.slice (some ⟨g, 0, none⟩) 1 1)) from rfl] at hu
 rcases List.mem_append.1 hu with hu | hu
 ·exact XM.oneCell _ ⟨_, _, _, rfl⟩ ⟨_, _, _, rfl⟩ ⟨_, _, _, rfl⟩ u hu
 ·exact XM.oneCell _ ⟨_, _, _, rfl⟩ ⟨_, _, _, rfl⟩ ⟨_, _, _, rfl⟩ u hu
theorem get_on {ρ : Nat → Nat} (w8 : World) (h : ρ w8.heap.size = 0) : ∀ y ∈ [(⟨numE 0, .slice none 0 0, .slice none 0 0, .slice none 0 0⟩ : XM), noX 6 ⟨#[]⟩ [Ex.refE Bc.sget] (.slice (some ⟨w8.heap.size, 0, none⟩) 1 1)], Free0 ρ ((w8.alloc (.cells #[.int .i64 1, .string ⟨#[103, 101, 116]⟩, .slice none 0 0, .int .i64 0, .int .i64 0, .string ⟨#[]⟩, .slice none 0 0, .slice none 0 0] 28))) (fun w => ExAt w y.val y.e) := by
 intro y hy
 rcases List.mem_cons.1 hy with rfl | hy
 ·exact fun w' _ _ => num_ex w' 0
 ·obtain rfl := List.mem_singleton.1 hy
  exact call1_on (x := noX 1 Bc.sget [] (.slice none 0 0)) (heap_alloc_new w8 _) h (fun w' _ _ => ref_ex w' Bc.sget)
theorem body_var {W W5 wr : World} {ρ : Nat → Nat} {kv : Value} {M : List XM} {N : Nat} (h : Bx W.heap.size (.mk 4 ⟨#[]⟩ [] Dt.zero []) (.slice none 0 0) (.slice none 0 0) W5 (fun b => if b = W.heap.size then 1 else 0) W.heap.size wr ρ kv M) (hes : M.map (·.e) = Bc.bodyL N) (hb : Below W.heap.size W W5) : VarX W wr W.heap.size (noX 4 ⟨#[]⟩ (Bc.bodyL N) kv) := by
 have hk := h.kids.at
 rw [hes] at hk
 refine ⟨h.blk, mk_ex hk, hb.trans (h.below (fun b hb => ?_) hb.size)⟩
 have e : (if b = W.heap.size then 1 else 0) = 0 := if_neg (by omega)
 rw [e]
 exact ⟨by decide, by decide⟩
def letX (n : Nat) (a d : Nat) : XM := ⟨.mk 8 ⟨#[]⟩ [Bc.sup, Bc.sget] Dt.zero [.mk 5 ⟨#[]⟩ [] Dt.zero [.mk 2 Bc.sx [] Dt.zero [Ex.primE sPlus [Ex.refE Bc.sx, numE 1]]], .mk 5 ⟨#[]⟩ [] Dt.zero [Ex.refE Bc.sx], .mk 4 ⟨#[]⟩ [] Dt.zero (Bc.bodyL n)], .slice (some ⟨a, 0, none⟩) 2 2, .slice none 0 0, .slice (some ⟨d, 0, none⟩) 3 3⟩
theorem let_var {w0 W1 wr X : World} {n gm gb g a b c d : Nat} {kvm kv2 : Value} (hm : VarX w0 wr gm (noX 2 Bc.sx [Ex.primE sPlus [Ex.refE Bc.sx, numE 1]] kvm)) (hbd : VarX W1 wr gb (noX 4 ⟨#[]⟩ (Bc.bodyL n) kv2)) (hb : Below wr.heap.size wr X)
  (hg : X.heap[g]? = some (.cells #[.int .i64 8, .string ⟨#[]⟩, .slice (some ⟨a, 0, none⟩) 2 2, .int .i64 0, .int .i64 0, .string ⟨#[]⟩, .slice none 0 0, .slice (some ⟨d, 0, none⟩) 3 3] 28 (0, 0)))
  (hd : X.heap[d]? = some (.cells #[.int .i64 5, .string ⟨#[]⟩, .slice none 0 0, .int .i64 0, .int .i64 0, .string ⟨#[]⟩, .slice none 0 0, .slice (some ⟨b, 0, none⟩) 1 1, .int .i64 5, .string ⟨#[]⟩, .slice none 0 0, .int .i64 0, .int .i64 0, .string ⟨#[]⟩, .slice none 0 0, .slice (some ⟨c, 0, none⟩) 1 1, .int .i64 4, .string ⟨#[]⟩, .slice none 0 0, .int .i64 0, .int .i64 0, .string ⟨#[]⟩, .slice none 0 0, kv2] 28 (0, 0)))
  (ha : X.heap[a]? = some (.cells #[.string ⟨#[117, 112]⟩, .string ⟨#[103, 101, 116]⟩] 9 (0, 0)))
  (hbb : X.heap[b]? = some (.cells #[.int .i64 2, .string ⟨#[120]⟩, .slice none 0 0, .int .i64 0, .int .i64 0, .string ⟨#[]⟩, .slice none 0 0, kvm] 28 (0, 0)))
  (hc : X.heap[c]? = some (.cells #[.int .i64 1, .string ⟨#[120]⟩, .slice none 0 0, .int .i64 0, .int .i64 0, .string ⟨#[]⟩, .slice none 0 0, .slice none 0 0] 28 (0, 0))) : VarX w0 X g (letX n a d) := by
 have k1 := kids1 (x := noX 2 Bc.sx [Ex.primE sPlus [Ex.refE Bc.sx, numE 1]] kvm) hbb (hm.ex.bel hb)
 have k2 := kids1 (x := noX 1 Bc.sx [] (.slice none 0 0)) hc (ref_ex X Bc.sx)
 have k3 := kids3 (x := noX 5 ⟨#[]⟩ [.mk 2 Bc.sx [] Dt.zero [Ex.primE sPlus [Ex.refE Bc.sx, numE 1]]] (.slice (some ⟨b, 0, none⟩) 1 1)) (y := noX 5 ⟨#[]⟩ [Ex.refE Bc.sx] (.slice (some ⟨c, 0, none⟩) 1 1)) (z := noX 4 ⟨#[]⟩ (Bc.bodyL n) kv2) hd (mk_ex k1) (mk_ex k2) (hbd.ex.bel hb)
 exact ⟨hg, exAt_mk (names_new (l := [Bc.sup, Bc.sget]) ha) (zero_const _) ⟨_, _, _, rfl, Nat.le_refl _⟩ k3, hm.below.trans (hb.mono hm.below.size)⟩
def lamX (n : Nat) (a b : Nat) : XM := ⟨.mk 5 ⟨#[]⟩ [Bc.sx] Dt.zero [(letX n 0 0).e], .slice (some ⟨a, 0, none⟩) 1 1, .slice none 0 0, .slice (some ⟨b, 0, none⟩) 1 1⟩
theorem lam_var {w0 wl X : World} {n g a d : Nat} (h : VarX w0 wl g (letX n a d)) (hX : X = ((wl.alloc (.cells #[.string ⟨#[120]⟩] 9)).alloc (.cells #[.int .i64 8, .string ⟨#[]⟩, .slice (some ⟨a, 0, none⟩) 2 2, .int .i64 0, .int .i64 0, .string ⟨#[]⟩, .slice none 0 0, .slice (some ⟨d, 0, none⟩) 3 3] 28)).alloc (.cells #[.int .i64 5, .string ⟨#[]⟩, .slice (some ⟨wl.heap.size, 0, none⟩) 1 1, .int .i64 0, .int .i64 0, .string ⟨#[]⟩, .slice none 0 0, .slice (some ⟨wl.heap.size + 1, 0, none⟩) 1 1] 28)) : VarX w0 X (wl.heap.size + 1 + 1) (lamX n wl.heap.size (wl.heap.size + 1)) := by
 have a1 : X.heap[wl.heap.size]? = some (.cells #[.string ⟨#[120]⟩] 9 (0, 0)) := by
  rw [hX, heap_alloc_old _ _ (by simp <;> omega), heap_alloc_old _ _ (by simp)]
  exact heap_new (by simp)
 have a2 : X.heap[wl.heap.size + 1]? = some (.cells #[.int .i64 8, .string ⟨#[]⟩, .slice (some ⟨a, 0, none⟩) 2 2, .int .i64 0, .int .i64 0, .string ⟨#[]⟩, .slice none 0 0, .slice (some ⟨d, 0, none⟩) 3 3] 28 (0, 0)) := by
  rw [hX, heap_alloc_old _ _ (by simp)]
  exact heap_new (by simp)
 have hb : Below wl.heap.size wl X := by
  rw [hX]
  exact ((((Below.refl _ _).alloc (Nat.le_refl _) _).alloc (by simp) _).alloc (by simp <;> omega) _)
 exact ⟨by rw [hX]; exact heap_new (by simp), exAt_mk (names_new (l := [Bc.sx]) a1) (zero_const _) ⟨_, _, _, rfl, Nat.le_refl _⟩ (kids1 (x := letX n a d) a2 (h.ex.bel hb)), h.below.trans (hb.mono h.below.size)⟩
def allX (n : Nat) (f : Int) (k : Nat) : XM := ⟨Bc.allE n f, .slice none 0 0, .slice none 0 0, .slice (some ⟨k, 0, none⟩) 2 2⟩
theorem all_var {w0 wl X : World} {n gl a b g k : Nat} {f : Int} (h : VarX w0 wl gl (lamX n a b)) (hb : Below wl.heap.size wl X) (hg : X.heap[g]? = some (.cells #[.int .i64 6, .string ⟨#[]⟩, .slice none 0 0, .int .i64 0, .int .i64 0, .string ⟨#[]⟩, .slice none 0 0, .slice (some ⟨k, 0, none⟩) 2 2] 28 (0, 0))) (hk : X.heap[k]? = some (.cells #[.int .i64 5, .string ⟨#[]⟩, .slice (some ⟨a, 0, none⟩) 1 1, .int .i64 0, .int .i64 0, .string ⟨#[]⟩, .slice none 0 0, .slice (some ⟨b, 0, none⟩) 1 1, .int .i64 0, .string ⟨#[]⟩, .slice none 0 0, .int .i64 1, .int .i64 f, .string ⟨#[]⟩, .slice none 0 0, .slice none 0 0] 28 (0, 0))) : VarX w0 X g (allX n f k) :=
 ⟨hg, mk_ex (kids2 (x := lamX n a b) (y := ⟨numE f, .slice none 0 0, .slice none 0 0, .slice none 0 0⟩) hk (h.ex.bel hb) (num_ex X f)), h.below.trans (hb.mono h.below.size)⟩
theorem all_var_ex {w0 wl X : World} {n gl a b g : Nat} {f : Int} (h : VarX w0 wl gl (lamX n a b)) (hb : Below wl.heap.size wl X) (hg : ∃ k, X.heap[g]? = some (.cells #[.int .i64 6, .string ⟨#[]⟩, .slice none 0 0, .int .i64 0, .int .i64 0, .string ⟨#[]⟩, .slice none 0 0, .slice (some ⟨k, 0, none⟩) 2 2] 28 (0, 0)) ∧ X.heap[k]? = some (.cells #[.int .i64 5, .string ⟨#[]⟩, .slice (some ⟨a, 0, none⟩) 1 1, .int .i64 0, .int .i64 0, .string ⟨#[]⟩, .slice none 0 0, .slice (some ⟨b, 0, none⟩) 1 1, .int .i64 0, .string ⟨#[]⟩, .slice none 0 0, .int .i64 1, .int .i64 f, .string ⟨#[]⟩, .slice none 0 0, .slice none 0 0] 28 (0, 0))) : ∃ k, VarX w0 X.drew g (allX n f k) := by
 obtain ⟨k, h1, h2⟩ := hg
 exact ⟨k, (all_var h hb h1 h2).bel (Below.refl _ _).drew⟩
theorem all_rel {w0 X : World} {n g : Nat} {f : Int} {s : Value} (hs : s = .pointer (some ⟨g, 0, none⟩)) (h : ∃ k, VarX w0 X g (allX n f k)) : ∃ k, s = .pointer (some ⟨g, 0, none⟩) ∧ Hid (VarX w0 X g (allX n f k)) := by
 obtain ⟨k, hk⟩ := h
 exact ⟨k, hs, hk⟩
theorem isN_near {f : Int} {n : Nat} (hn : n ≤ 30) (h1 : -1000 ≤ f) (h2 : f ≤ 1000) (i : Nat) (hi : i ≤ n) : isN (f + i) = true := isN_true ⟨by omega, by omega⟩
theorem op_all {w : World} {n k : Nat} {f : Int} (hx : ExAt w (allX n f k).val (allX n f k).e) : Op w (Bc.allE n f) none 0 none 0 0 (some ⟨k, 0, none⟩) 2 := by
 obtain ⟨na, nc, da, dn, dc, ka, kc, e1, e2, e3, ho⟩ := Op.of (nv := .slice none 0 0) (dl := .slice none 0 0) (kv := .slice (some ⟨k, 0, none⟩) 2 2) hx
 cases e1
 cases e2
 cases e3
 exact ho
theorem box_counts {w : World} {n k : Nat} {f : Int} (hn : n ≤ 30) (h1 : -1000 ≤ f) (h2 : f ≤ 1000) (hx : ExAt w (allX n f k).val (allX n f k).e) : Calls Tryz.prog 18 #[.agg #[.int .i64 6, .string ⟨#[]⟩, .slice none 0 0, .int .i64 0, .int .i64 0, .string ⟨#[]⟩, .slice none 0 0, .slice (some ⟨k, 0, none⟩) 2 2]] w fun en w' => ∃ x : XM, x.e = Bc.outE n f ∧ en = .returned (.tuple #[x.val, .int .i64 0]) ∧ ExAt w' x.val x.e ∧ Below w.heap.size w w' := by
 have hf0 := isN_near hn h1 h2 0 (Nat.zero_le _)
 rw [show f + ((0 : Nat) : Int) = f by omega] at hf0
 obtain ⟨k1, k2, k3, k4, k5, k6⟩ := Bc.all_facts hn hf0
 have ho : Op w (Bc.allE n f) none 0 none 0 0 (some ⟨k, 0, none⟩) 2 := op_all hx
 refine (pBox_any (Bc.allE n f) (fit_okB k1) ho).mono fun en w' h => ?_
 have hm : Ex.mayBox (Bc.allE n f) = true := by
  rw [Ex.mayBox_eq, k1, k3, k4]
  unfold Ex.freeSet
  rw [k2]
  rfl
 have hbok : Ex.ok (Ex.boxE Ex.noB (Bc.allE n f)) = true := Ex.small_box k1 k5 k6 _
 rcases h with ⟨h, _⟩ | ⟨_, ⟨_, x, h1, h2, h3, h4⟩ | ⟨h1, _⟩⟩
 ·rw [hm] at h
  cases h
 ·exact ⟨x, by rw [h1, Bc.box_all f n hn], h2, h3.at, h4⟩
 ·rw [hbok] at h1
  cases h1
theorem out_facts {n : Nat} (hn : n ≤ 30) {f : Int} (hf : isN f = true) : Ex.ok (Bc.outE n f) = true ∧ Ex.freeNames (Bc.outE n f) = [] ∧ Ex.has 9 (Bc.outE n f) = false ∧ Ex.has 2 (Bc.outE n f) = false := by
 obtain ⟨k1, k2, k3, k4, k5, k6⟩ := Bc.all_facts hn hf
 rw [← Bc.box_all f n hn]
 refine ⟨Ex.small_box k1 k5 k6 _, ?_, ?_, Ex.noset_boxE _ _⟩
 ·rw [← k2]
  exact Ex.freeNames_eq fun s => by
   have := Ex.free_boxE s (Bc.allE n f) Ex.noB ((Ex.ok_iff _).1 k1).1
   cases h : Ex.isFree s (Bc.allE n f)
   ·cases h' : Ex.isFree s (Ex.boxE Ex.noB (Bc.allE n f))
    ·rfl
    ·exact absurd (this.1 h') (by rw [h]; decide)
   ·exact this.2 h
 ·cases h : Ex.has 9 (Ex.boxE Ex.noB (Bc.allE n f)) with
  | false => rfl
  | true => exact absurd (Ex.has_boxE 9 (by decide) (by decide) (by decide) (by decide) _ _ h).2 (by rw [k3]; decide)
theorem told_counts {w : World} {n k : Nat} {f : Int} {x : Ex} (hx : x = Bc.outE n f) (hn : n ≤ 30) (h1 : -1000 ≤ f) (h2 : f ≤ 1000) (ha : ExAt w (allX n f k).val (allX n f k).e) {xna : Option Addr} {xnc : Nat} {xda : Option Addr} {xdn xdc : Nat} {xka : Option Addr} {xkc : Nat} (ho : Op w x xna xnc xda xdn xdc xka xkc) :
  Calls Tryz.prog 20 #[.agg #[.int .i64 6, .string ⟨#[]⟩, .slice none 0 0, .int .i64 0, .int .i64 0, .string ⟨#[]⟩, .slice none 0 0, .slice (some ⟨k, 0, none⟩) 2 2], .agg #[.int .i64 x.kind, .string x.name, .slice xna x.names.length xnc, .int .i64 x.const.kind, .int .i64 x.const.int, .string x.const.text, .slice xda xdn xdc, .slice xka x.kids.length xkc], .int .i64 0] w (Says (.bool true) w) := by
 have hf0 := isN_near hn h1 h2 0 (Nat.zero_le _)
 rw [show f + ((0 : Nat) : Int) = f by omega] at hf0
 obtain ⟨k1, k2, k3, k4, k5, k6⟩ := Bc.all_facts hn hf0
 obtain ⟨o1, o2, o3, o4⟩ := out_facts hn hf0
 have hm : Ex.mayBox (Bc.allE n f) = true := by
  rw [Ex.mayBox_eq, k1, k3, k4]
  unfold Ex.freeSet
  rw [k2]
  rfl
 subst hx
 exact btold_fine (Bc.allE n f) (Bc.outE n f) (fit_okB k1) (op_all ha) k1 hm (fit_okB o1) ho o1 o3 o4 (o2.trans k2.symm)
theorem means_counts {w : World} {n : Nat} {f : Int} {x : Ex} (hx : x = Bc.outE n f) (hn : n ≤ 30) (h1 : -1000 ≤ f) (h2 : f ≤ 1000) {xna : Option Addr} {xnc : Nat} {xda : Option Addr} {xdn xdc : Nat} {xka : Option Addr} {xkc : Nat} (ho : Op w x xna xnc xda xdn xdc xka xkc) :
  Calls Tryz.prog 17 #[.agg #[.int .i64 0, .string ⟨#[]⟩, .slice none 0 0, .int .i64 1, .int .i64 (f + n), .string ⟨#[]⟩, .slice none 0 0, .slice none 0 0], .agg #[.int .i64 x.kind, .string x.name, .slice xna x.names.length xnc, .int .i64 x.const.kind, .int .i64 x.const.int, .string x.const.text, .slice xda xdn xdc, .slice xka x.kids.length xkc], .slice none 0 0, .string ⟨#[]⟩, .int .i64 1, .int .i64 3000] w (Says (.bool true) w) := by
 have hf0 := isN_near hn h1 h2 0 (Nat.zero_le _)
 rw [show f + ((0 : Nat) : Int) = f by omega] at hf0
 have hfn := isN_near hn h1 h2 n (Nat.le_refl _)
 obtain ⟨o1, o2, o3, o4⟩ := out_facts hn hf0
 have n1 : Ex.ok (numE (f + n)) = true := (Ex.ok_iff _).2 ⟨Bc.all_num hfn, by show 1 ≤ 250; decide, by show 1 ≤ 4096; decide⟩
 subst hx
 exact rmeans_yes (numE (f + n)) (Bc.outE n f) 1 3000 (fit_okB n1) n1 rfl (op_num w (f + n)) (fit_okB o1) o1 o2 ho 2 (1 + (13 * n + 22)) 1 (8 * n + 15) 0 [] (some (.mk 1 (f + n) ⟨#[]⟩ [])) (Dt.short_of (by simp [Dt.nodes, Dt.nodess])) (Bc.run_num hfn) (Bc.run_out f hn (isN_near hn h1 h2)) (by decide) (by decide)
end Ew
end Go.Proofs.YtkplkgdfphbldaaGreat
