/- box: Box. -/
import Derived.Test.YtkplkgdfphbldaaGreatGJbk
import Derived.Test.YtkplkgdfphbldaaGreatGJbl
import Derived.Test.YtkplkgdfphbldaaGreatGJbj
import Derived.Test.YtkplkgdfphbldaaGreatGJav
import Derived.Test.YtkplkgdfphbldaaGreatGJbc
import Derived.Test.YtkplkgdfphbldaaGreatGJba
import Derived.Test.YtkplkgdfphbldaaGreatGJbi
import Derived.Test.YtkplkgdfphbldaaGreatGJbg
set_option linter.unusedVariables false
set_option linter.unusedSimpArgs false
set_option linter.unnecessarySimpa false
namespace Go.Proofs.YtkplkgdfphbldaaGreat
open Go.RowKit
set_option linter.unusedVariables false
set_option linter.unusedSimpArgs false
set_option maxRecDepth 100000
namespace Ew
open Rn
def BoxPost (e : Ex) (w : World) (en : Ending) (w' : World) : Prop :=
  (Ex.mayBox e = false ∧ en = .returned (.tuple #[zeroV, .int .i64 100]) ∧ Below w.heap.size w w') ∨ (Ex.mayBox e = true ∧ ToldPost (Ex.boxE Ex.noB e) w en w')
theorem bv_zero : BV (fun _ => 0) = Ex.noB := by
  funext s
  rfl
theorem op_of {w : World} {x : XM} (h : ExAt w x.val x.e) : ∃ na nc da dn dc ka kc, x.nv = .slice na x.e.names.length nc ∧ x.dl = .slice da dn dc ∧ x.kv = .slice ka x.e.kids.length kc ∧ Op w x.e na nc da dn dc ka kc := by
  obtain ⟨e, nv, dl, kv⟩ := x
  exact Op.of h
theorem box_sizes {e : Ex} (h : Ex.ok e = true) : Ex.all Ex.form (Ex.boxE Ex.noB e) = true ∧ (Ex.boxE Ex.noB e).size ≤ 100000 ∧ Ex.Fit (Ex.boxE Ex.noB e) := by
  obtain ⟨a, b, c⟩ := (Ex.ok_iff e).1 h
  have h1 := Ex.form_boxE e Ex.noB a
  have h2 := Ex.size_boxE e a Ex.noB
  have h3 := Ex.nbox_le e a [] List.nodup_nil (fun s hs => by simp at hs)
  have h4 := Ex.nsets_le e
  simp at h3
  exact ⟨h1, by omega, fit_of_form _ h1 (by omega)⟩
set_option maxHeartbeats 16000000 in
theorem pBox_any (e : Ex) {w : World} {na : Option Addr} {nc : Nat} {da : Option Addr} {dn dc : Nat} {ka : Option Addr} {kc : Nat} (hf : Ex.Fit e) (ho : Op w e na nc da dn dc ka kc) :
    Calls Tryz.prog 18 #[.agg #[.int .i64 e.kind, .string e.name, .slice na e.names.length nc, .int .i64 e.const.kind, .int .i64 e.const.int, .string e.const.text, .slice da dn dc, .slice ka e.kids.length kc]] w (BoxPost e w) := by
  obtain ⟨w1, B1⟩ := boxed w #[.int .i64 e.kind, .string e.name, .slice na e.names.length nc, .int .i64 e.const.kind, .int .i64 e.const.int, .string e.const.text, .slice da dn dc, .slice ka e.kids.length kc] 28
  obtain ⟨w2, B2⟩ := boxed w1 #[.int .i64 0, .string ⟨#[]⟩, .slice none 0 0, .int .i64 0, .int .i64 0, .string ⟨#[]⟩, .slice none 0 0, .slice none 0 0] 28
  have hB02 : Below w.heap.size w w2 := B1.below.trans (B2.below.mono B1.below.size)
  have hsz2 : w2.heap.size = w.heap.size + 2 := by rw [B2.size, B1.size]
  have hZ : w2.heap[w.heap.size + 1]? = some (.cells #[.int .i64 0, .string ⟨#[]⟩, .slice none 0 0, .int .i64 0, .int .i64 0, .string ⟨#[]⟩, .slice none 0 0, .slice none 0 0] 28 (0, 0)) := by
    have := B2.blk
    rw [B1.size] at this
    exact this
  have hP := (B2.below.block _ (by rw [B1.size]; omega)).trans B1.blk
  have HBA := Lib.hid B1
  have HBB := Lib.hid B2
  have HZB := Lib.hid hZ
  have HPB := Lib.hid hP
  have HB02 := Lib.hid hB02
  have HS2 := Lib.hid hsz2
  have HO := Lib.hid ho
  have HCK := Lib.hid (pCheck_any e hf (ho.bel hB02))
  have HCZ := Lib.hid (chkC_zero hf)
  have HBAD : Hid (∀ W, Few e → Below w.heap.size w W → Calls Tryz.prog 36 #[.agg #[.int .i64 e.kind, .string e.name, .slice na e.names.length nc, .int .i64 e.const.kind, .int .i64 e.const.int, .string e.const.text, .slice da dn dc, .slice ka e.kids.length kc], .map (some W.heap.size)] (W.alloc (.map #[] 0)) (Says (.bool (Ex.badE (fun _ => 0) e)) (W.alloc (.map #[] 0)))) := fun W hfe hW => bad_any e hfe (ho.bel (hW.alloc hW.size _)) (IM.made W)
  obtain ⟨f, hfv⟩ : ∃ f, (Ex.chk formC e 0 0).2 = f := ⟨_, rfl⟩
  rw [hfv] at HCK HCZ
  obtain ⟨x0, x1, x2, x3, x4, x5, x6, x7, hbl⟩ := Row.of hP
  clear B1 B2 hB02 hsz2 hZ hP ho hf hfv
  go_enter Tryz.func18, Tryz.ntmps18
  go_upto_region 1 with fail
  rw [← HBA.out.eq, ← HBB.out.eq]
  have hmm : ∀ w, (Instr.makeMap 55 none).run Tryz.prog w = .ok (.map (some w.heap.size)) (w.alloc (.map #[] 0)) := fun w => run_makeMap _ w
  by_cases hz : f = 0
  · have hok := HCZ.out.1 hz
    subst hz
    have HOK := Lib.hid hok
    have HFW := Lib.hid (few_of_ok hok).1
    have HFO := Lib.hid ((Ex.ok_iff e).1 hok).1
    have HFS := Lib.hid (box_sizes hok)
    clear hok
    go_wp2_with fail
    with_reducible refine HCK.out.mono ?_
    rintro e2 w3 ⟨rfl, hb3⟩
    have hp3 := (hb3.block w.heap.size (by rw [HS2.out]; omega)).trans HPB.out
    have HZ3 := Lib.hid ((hb3.block (w.heap.size + 1) (by rw [HS2.out]; omega)).trans HZB.out)
    have HB3 : Hid (Below w.heap.size w w3) := HB02.out.trans (hb3.mono HB02.out.size)
    have hs3 : w.heap.size + 2 ≤ w3.heap.size := by have h1 := hb3.size; have h2 := HS2.out; omega
    have HS3 := Lib.hid hs3
    obtain ⟨y0, y1, y2, y3, y4, y5, y6, y7, ybl⟩ := Row.of hp3
    have HPC := Lib.hid hp3
    have HBC := Lib.hid (HBAD.out w3 HFW.out HB3.out)
    clear hb3 hp3 hs3
    go_wp2_with fail
    with_reducible refine HBC.out.mono ?_
    rintro e2 w4 ⟨rfl, hb4⟩
    have hb34 : Below w3.heap.size w3 w4 := ((Below.refl w3.heap.size w3).alloc (Nat.le_refl _) (.map #[] 0)).trans (hb4.mono (by simp))
    have HB4 : Hid (Below w.heap.size w w4) := HB3.out.trans (hb34.mono HB3.out.size)
    have hp4 := (hb34.block w.heap.size (by have := HS3.out; omega)).trans HPC.out
    have hz4 := (hb34.block (w.heap.size + 1) (by have := HS3.out; omega)).trans HZ3.out
    have HZ4 := Lib.hid hz4
    have HS4 : Hid (w.heap.size + 2 ≤ w4.heap.size) := Nat.le_trans HS3.out hb34.size
    clear y0 y1 y2 y3 y4 y5 y6 y7 ybl
    obtain ⟨y0, y1, y2, y3, y4, y5, y6, y7, ybl⟩ := Row.of hp4
    clear hb4 hb34 hp4
    cases hbd : Ex.badE (fun _ => 0) e with
    | true =>
      have HMB : Hid (Ex.mayBox e = false) := by unfold Hid Ex.mayBox; rw [hbd]; simp
      obtain ⟨⟨_, s0⟩, ⟨_, s1⟩, ⟨_, s2⟩, ⟨_, s3⟩, ⟨_, s4⟩, ⟨_, s5⟩, ⟨_, s6⟩, ⟨_, s7⟩, q0, q1, q2, q3, q4, q5, q6, q7, sbl⟩ := blk8 hz4
      clear hbd hz4
      go_wp2_with fail
      refine bodyPost_ret (res2 rfl _ _ (w.heap.size + 1) 28 #[.int .i64 0, .string ⟨#[]⟩, .slice none 0 0, .int .i64 0, .int .i64 0, .string ⟨#[]⟩, .slice none 0 0, .slice none 0 0] (0, 0) rfl (eight_set _ _ _ _ _ _ _ _ _ _ _ (.int .i64 0) (.string ⟨#[]⟩) (.slice none 0 0) (.int .i64 0) (.int .i64 0) (.string ⟨#[]⟩) (.slice none 0 0) (.slice none 0 0) HZ4.out) exprD exprSize) rfl ?_
      show BoxPost e w _ (put8 w4 (w.heap.size + 1) (.int .i64 0) (.string ⟨#[]⟩) (.slice none 0 0) (.int .i64 0) (.int .i64 0) (.string ⟨#[]⟩) (.slice none 0 0) (.slice none 0 0))
      exact .inl ⟨HMB.out, rfl, below_put8 HB4.out (Nat.le_succ _) _ _ _ _ _ _ _ _⟩
    | false =>
    have HMB : Hid (Ex.mayBox e = true) := by unfold Hid Ex.mayBox; rw [hbd, HOK.out]; rfl
    have hbA : Below w4.heap.size w4 (w4.alloc (.map #[] 0)) := (Below.refl _ _).alloc (Nat.le_refl _) _
    have hfx := box_any w e HFW.out HFO.out HO.out (HB4.out.trans (hbA.mono HB4.out.size)) (IM.made w4)
    rw [bv_zero] at hfx
    have HFX := Lib.hid hfx
    unfold MadePost at HFX
    have HB3 := Lib.hid (HB4.out.trans (hbA.mono HB4.out.size))
    have HZ3 := Lib.hid ((hbA.block _ (Array.getElem?_eq_some_iff.1 HZ4.out).1).trans HZ4.out)
    have HS3 : Hid (w.heap.size + 2 ≤ (w4.alloc (.map #[] 0)).heap.size) := Nat.le_trans HS4.out hbA.size
    clear hbd hz4 hbA hfx
    go_wp2_with fail
    with_reducible refine HFX.out.mono ?_
    rintro e2 w5 ⟨x, hxe, rfl, hon, hb5⟩
    obtain ⟨na5, nc5, da5, dn5, dc5, ka5, kc5, v1, v2, v3, hop⟩ := op_of hon.at
    obtain ⟨xe, xn, xd, xk⟩ := x
    dsimp only at hxe v1 v2 v3 hop
    subst v1 v2 v3
    unfold XM.val exV
    dsimp only
    have HTD := Lib.hid (told_any xe (by rw [hxe]; exact HFS.out.2.2) hop)
    have HXE := Lib.hid hxe
    have HB5 := Lib.hid hb5
    have hz5 := (hb5.block (w.heap.size + 1) (by have := HS3.out; omega)).trans HZ3.out
    have HZ5 := Lib.hid hz5
    clear hxe hon hop hb5 hz5
    go_wp2_with fail
    with_reducible refine HTD.out.mono ?_
    rintro e2 w6 (⟨hok2, ⟨ye, yn, yd, yk⟩, hye, rfl, hex, hb6⟩ | ⟨hok2, rfl, hb6⟩)
    · obtain ⟨⟨yan, ynn, ycn, u1⟩, ⟨yad, ynd, ycd, u2⟩, ⟨yak, nyk, yck, u3⟩⟩ := sliced_at hex.at
      dsimp only at u1 u2 u3 hye hex
      subst u1 u2 u3
      unfold XM.val exV
      dsimp only
      rw [HXE.out] at hok2
      have HYE := Lib.hid (hye.trans HXE.out)
      have HEX := Lib.hid hex
      have HK2 := Lib.hid hok2
      have hz6 := (hb6.block (w.heap.size + 1) (Array.getElem?_eq_some_iff.1 HZ5.out).1).trans HZ5.out
      have HZ6 := Lib.hid hz6
      have HB6 := Lib.hid ((HB3.out.trans (HB5.out.mono HB3.out.size)).trans (hb6.mono (Nat.le_trans HB3.out.size HB5.out.size)))
      obtain ⟨⟨_, s0⟩, ⟨_, s1⟩, ⟨_, s2⟩, ⟨_, s3⟩, ⟨_, s4⟩, ⟨_, s5⟩, ⟨_, s6⟩, ⟨_, s7⟩, q0, q1, q2, q3, q4, q5, q6, q7, sbl⟩ := blk8 hz6
      clear hb6 hz6 hye hex hok2
      go_wp2_with fail
      refine bodyPost_ret (res2 rfl _ _ (w.heap.size + 1) 28 #[.int .i64 ye.kind, .string ye.name, .slice yan ynn ycn, .int .i64 ye.const.kind, .int .i64 ye.const.int, .string ye.const.text, .slice yad ynd ycd, .slice yak nyk yck] (0, 0) rfl (eight_set _ _ _ _ _ _ _ _ _ _ _ (.int .i64 ye.kind) (.string ye.name) (.slice yan ynn ycn) (.int .i64 ye.const.kind) (.int .i64 ye.const.int) (.string ye.const.text) (.slice yad ynd ycd) (.slice yak nyk yck) HZ6.out) exprD exprSize) rfl ?_
      show BoxPost e w _ (put8 w6 (w.heap.size + 1) (.int .i64 ye.kind) (.string ye.name) (.slice yan ynn ycn) (.int .i64 ye.const.kind) (.int .i64 ye.const.int) (.string ye.const.text) (.slice yad ynd ycd) (.slice yak nyk yck))
      have h5 := HB3.out.size
      have h6 := HB5.out.size
      have h7 := HS3.out
      refine .inr ⟨HMB.out, .inl ⟨HK2.out, ⟨ye, .slice yan ynn ycn, .slice yad ynd ycd, .slice yak nyk yck⟩, HYE.out, rfl, ?_, below_put8 HB6.out (Nat.le_succ _) _ _ _ _ _ _ _ _⟩⟩
      exact (on_put8 HEX.out (by show ¬ (w5.heap.size ≤ w.heap.size + 1); omega) _ _ _ _ _ _ _ _).mono fun b hb _ => by show w.heap.size ≤ b; have : w5.heap.size ≤ b := hb; omega
    · rw [HXE.out] at hok2
      have HK2 := Lib.hid hok2
      have hz6 := (hb6.block (w.heap.size + 1) (Array.getElem?_eq_some_iff.1 HZ5.out).1).trans HZ5.out
      have HZ6 := Lib.hid hz6
      have HB6 := Lib.hid ((HB3.out.trans (HB5.out.mono HB3.out.size)).trans (hb6.mono (Nat.le_trans HB3.out.size HB5.out.size)))
      obtain ⟨⟨_, s0⟩, ⟨_, s1⟩, ⟨_, s2⟩, ⟨_, s3⟩, ⟨_, s4⟩, ⟨_, s5⟩, ⟨_, s6⟩, ⟨_, s7⟩, q0, q1, q2, q3, q4, q5, q6, q7, sbl⟩ := blk8 hz6
      clear hb6 hz6 hok2
      go_wp2_with fail
      refine bodyPost_ret (res2 rfl _ _ (w.heap.size + 1) 28 #[.int .i64 0, .string ⟨#[]⟩, .slice none 0 0, .int .i64 0, .int .i64 0, .string ⟨#[]⟩, .slice none 0 0, .slice none 0 0] (0, 0) rfl (eight_set _ _ _ _ _ _ _ _ _ _ _ (.int .i64 0) (.string ⟨#[]⟩) (.slice none 0 0) (.int .i64 0) (.int .i64 0) (.string ⟨#[]⟩) (.slice none 0 0) (.slice none 0 0) HZ6.out) exprD exprSize) rfl ?_
      show BoxPost e w _ (put8 w6 (w.heap.size + 1) (.int .i64 0) (.string ⟨#[]⟩) (.slice none 0 0) (.int .i64 0) (.int .i64 0) (.string ⟨#[]⟩) (.slice none 0 0) (.slice none 0 0))
      exact .inr ⟨HMB.out, .inr ⟨HK2.out, rfl, below_put8 HB6.out (Nat.le_succ _) _ _ _ _ _ _ _ _⟩⟩
  · have hok : Ex.ok e = false := by
      rw [Bool.eq_false_iff]
      exact fun h => hz (HCZ.out.2 h)
    have HOK : Hid (Ex.mayBox e = false) := by unfold Hid Ex.mayBox; rw [hok]; rfl
    have kz : (f != 0) = true := by rw [bne_iff_ne]; exact hz
    clear hok hz
    go_wp2_with (first
      | (go_at_call 23; (with_reducible refine HCK.out.mono ?_); rintro e2 w3 ⟨rfl, hb3⟩; have hz3 := (hb3.block (w.heap.size + 1) (by rw [HS2.out]; omega)).trans HZB.out; have HZ3 := Lib.hid hz3; have HB3 : Hid (Below w.heap.size w w3) := HB02.out.trans (hb3.mono HB02.out.size); obtain ⟨⟨_, s0⟩, ⟨_, s1⟩, ⟨_, s2⟩, ⟨_, s3⟩, ⟨_, s4⟩, ⟨_, s5⟩, ⟨_, s6⟩, ⟨_, s7⟩, q0, q1, q2, q3, q4, q5, q6, q7, sbl⟩ := blk8 hz3; clear hb3 hz3)
      | fail)
    refine bodyPost_ret (res2 rfl _ _ (w.heap.size + 1) 28 #[.int .i64 0, .string ⟨#[]⟩, .slice none 0 0, .int .i64 0, .int .i64 0, .string ⟨#[]⟩, .slice none 0 0, .slice none 0 0] (0, 0) rfl (eight_set _ _ _ _ _ _ _ _ _ _ _ (.int .i64 0) (.string ⟨#[]⟩) (.slice none 0 0) (.int .i64 0) (.int .i64 0) (.string ⟨#[]⟩) (.slice none 0 0) (.slice none 0 0) HZ3.out) exprD exprSize) rfl ?_
    show BoxPost e w _ (put8 w3 (w.heap.size + 1) (.int .i64 0) (.string ⟨#[]⟩) (.slice none 0 0) (.int .i64 0) (.int .i64 0) (.string ⟨#[]⟩) (.slice none 0 0) (.slice none 0 0))
    exact .inl ⟨HOK.out, rfl, below_put8 HB3.out (Nat.le_succ _) _ _ _ _ _ _ _ _⟩
end Ew
end Go.Proofs.YtkplkgdfphbldaaGreat
namespace Go.Proofs.YtkplkgdfphbldaaGreat
open Go.RowKit
set_option linter.unusedVariables false
set_option linter.unusedSimpArgs false
set_option maxRecDepth 100000
namespace Ew
open Rn
theorem few_zero : Few Ex.zero := ⟨by decide, by decide⟩
theorem op_zero (w : World) : Op w Ex.zero none 0 none 0 0 none 0 := ⟨zero_at w, ⟨none, 0, rfl, .inl ⟨rfl, rfl, rfl⟩⟩, ⟨none, 0, rfl, Nat.le_refl _, .inl rfl⟩, Nat.le_refl _, zero_const w⟩
theorem zero_same : Ex.same Ex.zero Ex.zero = true := by decide
theorem same_zero_any (w : World) : Calls Tryz.prog 14 #[zeroV, zeroV] w (Says (.bool true) w) := by
  have h := r6same_any Ex.zero Ex.zero few_zero few_zero (op_zero w) (op_zero w)
  rw [zero_same] at h
  exact h
set_option maxHeartbeats 16000000 in
theorem btold_form (e : Ex) {w : World} {na : Option Addr} {nc : Nat} {da : Option Addr} {dn dc : Nat} {ka : Option Addr} {kc : Nat} (hf : Ex.Fit e) (ho : Op w e na nc da dn dc ka kc) (hok : Ex.mayBox e = false) :
    Calls Tryz.prog 20 #[.agg #[.int .i64 e.kind, .string e.name, .slice na e.names.length nc, .int .i64 e.const.kind, .int .i64 e.const.int, .string e.const.text, .slice da dn dc, .slice ka e.kids.length kc], zeroV, .int .i64 100] w (Says (.bool true) w) := by
  obtain ⟨w1, B1⟩ := boxed w #[.int .i64 e.kind, .string e.name, .slice na e.names.length nc, .int .i64 e.const.kind, .int .i64 e.const.int, .string e.const.text, .slice da dn dc, .slice ka e.kids.length kc] 28
  obtain ⟨w2, B2⟩ := boxed w1 #[.int .i64 0, .string ⟨#[]⟩, .slice none 0 0, .int .i64 0, .int .i64 0, .string ⟨#[]⟩, .slice none 0 0, .slice none 0 0] 28
  have hB02 : Below w.heap.size w w2 := B1.below.trans (B2.below.mono B1.below.size)
  have hsz2 : w2.heap.size = w.heap.size + 2 := by rw [B2.size, B1.size]
  have hZ : w2.heap[w.heap.size + 1]? = some (.cells #[.int .i64 0, .string ⟨#[]⟩, .slice none 0 0, .int .i64 0, .int .i64 0, .string ⟨#[]⟩, .slice none 0 0, .slice none 0 0] 28 (0, 0)) := by
    have := B2.blk
    rw [B1.size] at this
    exact this
  have hP := (B2.below.block _ (by rw [B1.size]; omega)).trans B1.blk
  have HBA := Lib.hid B1
  have HBB := Lib.hid B2
  have HB02 := Lib.hid hB02
  have HRE := Lib.hid (Row.of hP)
  have HRX := Lib.hid (Row.of hZ)
  obtain ⟨x0, x1, x2, x3, x4, x5, x6, x7, xl⟩ := Row.of hP
  obtain ⟨o0, o1, o2, o3, o4, o5, o6, o7, ol⟩ := Row.of hZ
  have HCK := Lib.hid (rmay_any' e hf (ho.bel hB02))
  rw [hok] at HCK
  have HSM := Lib.hid same_zero_any
  clear B1 B2 hB02 hsz2 hZ hP ho hf hok
  go_enter Tryz.func20, Tryz.ntmps20
  go_upto_region 1 with fail
  rw [← HBA.out.eq, ← HBB.out.eq]
  go_wp2_with (first
    | (go_at_call 39; (with_reducible refine HCK.out.mono ?_); rintro e2 w3 ⟨rfl, hb3⟩; have HB3 : Hid (Below w.heap.size w w3) := HB02.out.trans (hb3.mono HB02.out.size); obtain ⟨o0, o1, o2, o3, o4, o5, o6, o7, ol⟩ := HRX.out.bel hb3; clear hb3)
    | (go_at_call 14; (with_reducible refine (HSM.out _).mono ?_); rintro e2 w4 ⟨rfl, hb4⟩; have HB4 : Hid (Below w.heap.size w w4) := HB3.out.trans (hb4.mono HB3.out.size); clear hb4)
    | fail)
  go_ret
  exact ⟨rfl, HB4.out⟩
set_option maxHeartbeats 16000000 in
theorem btold_many (e : Ex) {w : World} {na : Option Addr} {nc : Nat} {da : Option Addr} {dn dc : Nat} {ka : Option Addr} {kc : Nat} (hf : Ex.Fit e) (ho : Op w e na nc da dn dc ka kc) (hok : Ex.ok e = true) (hmb : Ex.mayBox e = true) (hsm : (decide (e.size ≤ 400) && decide (e.deep ≤ 25)) = false) :
    Calls Tryz.prog 20 #[.agg #[.int .i64 e.kind, .string e.name, .slice na e.names.length nc, .int .i64 e.const.kind, .int .i64 e.const.int, .string e.const.text, .slice da dn dc, .slice ka e.kids.length kc], zeroV, .int .i64 101] w (Says (.bool true) w) := by
  obtain ⟨w1, B1⟩ := boxed w #[.int .i64 e.kind, .string e.name, .slice na e.names.length nc, .int .i64 e.const.kind, .int .i64 e.const.int, .string e.const.text, .slice da dn dc, .slice ka e.kids.length kc] 28
  obtain ⟨w2, B2⟩ := boxed w1 #[.int .i64 0, .string ⟨#[]⟩, .slice none 0 0, .int .i64 0, .int .i64 0, .string ⟨#[]⟩, .slice none 0 0, .slice none 0 0] 28
  have hB02 : Below w.heap.size w w2 := B1.below.trans (B2.below.mono B1.below.size)
  have hsz2 : w2.heap.size = w.heap.size + 2 := by rw [B2.size, B1.size]
  have hZ : w2.heap[w.heap.size + 1]? = some (.cells #[.int .i64 0, .string ⟨#[]⟩, .slice none 0 0, .int .i64 0, .int .i64 0, .string ⟨#[]⟩, .slice none 0 0, .slice none 0 0] 28 (0, 0)) := by
    have := B2.blk
    rw [B1.size] at this
    exact this
  have hP := (B2.below.block _ (by rw [B1.size]; omega)).trans B1.blk
  have HBA := Lib.hid B1
  have HBB := Lib.hid B2
  have HB02 := Lib.hid hB02
  have HRE := Lib.hid (Row.of hP)
  have HRX := Lib.hid (Row.of hZ)
  obtain ⟨x0, x1, x2, x3, x4, x5, x6, x7, xl⟩ := Row.of hP
  obtain ⟨o0, o1, o2, o3, o4, o5, o6, o7, ol⟩ := Row.of hZ
  have HCK := Lib.hid (rmay_any' e hf (ho.bel hB02))
  rw [hmb] at HCK
  have hsz := ((Ex.ok_iff e).1 hok).2.2
  have HSL : Hid (∀ W, Below w2.heap.size w2 W → Calls Tryz.prog 28 #[.agg #[.int .i64 e.kind, .string e.name, .slice na e.names.length nc, .int .i64 e.const.kind, .int .i64 e.const.int, .string e.const.text, .slice da dn dc, .slice ka e.kids.length kc]] W (Says (.bool false) W)) := fun W hW => by
    have h := rsmall_any e (by omega) ((ho.bel hB02).bel hW)
    rw [hsm] at h
    exact h
  have HSM := Lib.hid same_zero_any
  clear B1 B2 hB02 hsz2 hZ hP ho hf hok hmb hsm hsz
  go_enter Tryz.func20, Tryz.ntmps20
  go_upto_region 1 with fail
  rw [← HBA.out.eq, ← HBB.out.eq]
  go_wp2_with (first
    | (go_at_call 39; (with_reducible refine HCK.out.mono ?_); rintro e2 w3 ⟨rfl, hb3⟩; have HB3 := Lib.hid hb3; obtain ⟨o0, o1, o2, o3, o4, o5, o6, o7, ol⟩ := HRX.out.bel hb3; clear hb3)
    | (go_at_call 14; (with_reducible refine (HSM.out _).mono ?_); rintro e2 w4 ⟨rfl, hb4⟩; have HB4 : Hid (Below w2.heap.size w2 w4) := HB3.out.trans (hb4.mono HB3.out.size); obtain ⟨x0, x1, x2, x3, x4, x5, x6, x7, xl⟩ := HRE.out.bel HB4.out; clear hb4)
    | (go_at_call 28; (with_reducible refine (HSL.out _ HB4.out).mono ?_); rintro e2 w5 ⟨rfl, hb5⟩; have HB5 : Hid (Below w2.heap.size w2 w5) := HB4.out.trans (hb5.mono HB4.out.size); clear hb5)
    | fail)
  go_ret
  exact ⟨rfl, HB02.out.trans (HB5.out.mono HB02.out.size)⟩
set_option maxHeartbeats 16000000 in
theorem btold_fine (e : Ex) {w : World} {na : Option Addr} {nc : Nat} {da : Option Addr} {dn dc : Nat} {ka : Option Addr} {kc : Nat} (x : Ex) {xna : Option Addr} {xnc : Nat} {xda : Option Addr} {xdn xdc : Nat} {xka : Option Addr} {xkc : Nat} (hf : Ex.Fit e) (ho : Op w e na nc da dn dc ka kc) (hok : Ex.ok e = true) (hmb : Ex.mayBox e = true) (hxf : Ex.Fit x) (hx : Op w x xna xnc xda xdn xdc xka xkc) (hxk : Ex.ok x = true) (h9 : Ex.has 9 x = false) (hfs : Ex.has 2 x = false) (hfn : Ex.freeNames x = Ex.freeNames e) :
    Calls Tryz.prog 20 #[.agg #[.int .i64 e.kind, .string e.name, .slice na e.names.length nc, .int .i64 e.const.kind, .int .i64 e.const.int, .string e.const.text, .slice da dn dc, .slice ka e.kids.length kc], .agg #[.int .i64 x.kind, .string x.name, .slice xna x.names.length xnc, .int .i64 x.const.kind, .int .i64 x.const.int, .string x.const.text, .slice xda xdn xdc, .slice xka x.kids.length xkc], .int .i64 0] w (Says (.bool true) w) := by
  obtain ⟨w1, B1⟩ := boxed w #[.int .i64 e.kind, .string e.name, .slice na e.names.length nc, .int .i64 e.const.kind, .int .i64 e.const.int, .string e.const.text, .slice da dn dc, .slice ka e.kids.length kc] 28
  obtain ⟨w2, B2⟩ := boxed w1 #[.int .i64 x.kind, .string x.name, .slice xna x.names.length xnc, .int .i64 x.const.kind, .int .i64 x.const.int, .string x.const.text, .slice xda xdn xdc, .slice xka x.kids.length xkc] 28
  have hB02 : Below w.heap.size w w2 := B1.below.trans (B2.below.mono B1.below.size)
  have hsz2 : w2.heap.size = w.heap.size + 2 := by rw [B2.size, B1.size]
  have hZ : w2.heap[w.heap.size + 1]? = some (.cells #[.int .i64 x.kind, .string x.name, .slice xna x.names.length xnc, .int .i64 x.const.kind, .int .i64 x.const.int, .string x.const.text, .slice xda xdn xdc, .slice xka x.kids.length xkc] 28 (0, 0)) := by
    have := B2.blk
    rw [B1.size] at this
    exact this
  have hP := (B2.below.block _ (by rw [B1.size]; omega)).trans B1.blk
  have HBA := Lib.hid B1
  have HBB := Lib.hid B2
  have HB02 := Lib.hid hB02
  have HRE := Lib.hid (Row.of hP)
  have HRX := Lib.hid (Row.of hZ)
  obtain ⟨x0, x1, x2, x3, x4, x5, x6, x7, xl⟩ := Row.of hP
  obtain ⟨o0, o1, o2, o3, o4, o5, o6, o7, ol⟩ := Row.of hZ
  have HCK := Lib.hid (rmay_any' e hf (ho.bel hB02))
  rw [hmb] at HCK
  have hfe := few_of_ok hok
  have hfx := few_of_ok hxk
  have hse := ((Ex.ok_iff e).1 hok).2.2
  have hsx := ((Ex.ok_iff x).1 hxk).2.2
  have HCX : Hid (∀ W, Below w2.heap.size w2 W → Calls Tryz.prog 27 #[.agg #[.int .i64 x.kind, .string x.name, .slice xna x.names.length xnc, .int .i64 x.const.kind, .int .i64 x.const.int, .string x.const.text, .slice xda xdn xdc, .slice xka x.kids.length xkc]] W (Says (.int .i64 0) W)) := fun W hW => by
    have h := rCheck_any x hxf ((hx.bel hB02).bel hW)
    rw [(Ex.chk_form x).2 hxk] at h
    exact h
  have HHS : Hid (∀ W, Below w2.heap.size w2 W → Calls Tryz.prog 12 #[.agg #[.int .i64 x.kind, .string x.name, .slice xna x.names.length xnc, .int .i64 x.const.kind, .int .i64 x.const.int, .string x.const.text, .slice xda xdn xdc, .slice xka x.kids.length xkc], .int .i64 9] W (Says (.bool false) W)) := fun W hW => by
    have h := rhas_any 9 x (by omega) ((hx.bel hB02).bel hW)
    rw [h9] at h
    exact h
  have HFS : Hid (∀ W, Below w2.heap.size w2 W → Calls Tryz.prog 12 #[.agg #[.int .i64 x.kind, .string x.name, .slice xna x.names.length xnc, .int .i64 x.const.kind, .int .i64 x.const.int, .string x.const.text, .slice xda xdn xdc, .slice xka x.kids.length xkc], .int .i64 2] W (Says (.bool false) W)) := fun W hW => by
    have h := rhas_any 2 x (by omega) ((hx.bel hB02).bel hW)
    rw [hfs] at h
    exact h
  have HFX : Hid (∀ W, Below w2.heap.size w2 W → Calls Tryz.prog 30 #[.agg #[.int .i64 x.kind, .string x.name, .slice xna x.names.length xnc, .int .i64 x.const.kind, .int .i64 x.const.int, .string x.const.text, .slice xda xdn xdc, .slice xka x.kids.length xkc]] W (TextsPost (Ex.freeNames e) W)) := fun W hW => by
    have h := rFree_any x hfx.1 hfx.2 (by omega) ((hx.bel hB02).bel hW)
    rw [hfn] at h
    exact h
  have HFE : Hid (∀ W, Below w2.heap.size w2 W → Calls Tryz.prog 30 #[.agg #[.int .i64 e.kind, .string e.name, .slice na e.names.length nc, .int .i64 e.const.kind, .int .i64 e.const.int, .string e.const.text, .slice da dn dc, .slice ka e.kids.length kc]] W (TextsPost (Ex.freeNames e) W)) := fun W hW => rFree_any e hfe.1 hfe.2 (by omega) ((ho.bel hB02).bel hW)
  have hfl : (Ex.freeNames e).length ≤ 10000000000 := by have := frees_len e [] []; unfold Ex.freeNames; simp at this; omega
  have HST : Hid (∀ (W : World) (a c b d : _), Sl W (.slice a (Ex.freeNames e).length c) (strs (Ex.freeNames e)) → Sl W (.slice b (Ex.freeNames e).length d) (strs (Ex.freeNames e)) → Calls Tryz.prog 29 #[.slice a (Ex.freeNames e).length c, .slice b (Ex.freeNames e).length d] W (Says (.bool true) W)) := fun W a c b d h1 h2 => by
    have h := sametexts_any (Ex.freeNames e) (Ex.freeNames e) h1 h2 hfl
    rw [decide_eq_true rfl] at h
    exact h
  have hS : ∀ w', Below w2.heap.size w2 w' → (w'.cell? ⟨w.heap.size, 0, none⟩ = some (.int .i64 e.kind) ∧ w'.cell? ⟨w.heap.size, 1, none⟩ = some (.string e.name) ∧ w'.cell? ⟨w.heap.size, 2, none⟩ = some (.slice na e.names.length nc) ∧ w'.cell? ⟨w.heap.size, 3, none⟩ = some (.int .i64 e.const.kind) ∧ w'.cell? ⟨w.heap.size, 4, none⟩ = some (.int .i64 e.const.int) ∧ w'.cell? ⟨w.heap.size, 5, none⟩ = some (.string e.const.text) ∧ w'.cell? ⟨w.heap.size, 6, none⟩ = some (.slice da dn dc) ∧ w'.cell? ⟨w.heap.size, 7, none⟩ = some (.slice ka e.kids.length kc) ∧ w'.cell? ⟨w.heap.size + 1, 0, none⟩ = some (.int .i64 x.kind) ∧ w'.cell? ⟨w.heap.size + 1, 1, none⟩ = some (.string x.name) ∧ w'.cell? ⟨w.heap.size + 1, 2, none⟩ = some (.slice xna x.names.length xnc) ∧ w'.cell? ⟨w.heap.size + 1, 3, none⟩ = some (.int .i64 x.const.kind) ∧ w'.cell? ⟨w.heap.size + 1, 4, none⟩ = some (.int .i64 x.const.int) ∧ w'.cell? ⟨w.heap.size + 1, 5, none⟩ = some (.string x.const.text) ∧ w'.cell? ⟨w.heap.size + 1, 6, none⟩ = some (.slice xda xdn xdc) ∧ w'.cell? ⟨w.heap.size + 1, 7, none⟩ = some (.slice xka x.kids.length xkc)) := fun w' hb => by
    have h1 := HRE.out.bel hb
    have h2 := HRX.out.bel hb
    exact ⟨h1.c0, h1.c1, h1.c2, h1.c3, h1.c4, h1.c5, h1.c6, h1.c7, h2.c0, h2.c1, h2.c2, h2.c3, h2.c4, h2.c5, h2.c6, h2.c7⟩
  have HSS := Lib.hid hS
  clear hS
  generalize Ex.freeNames e = FN at *
  unfold TextsPost at HFX HFE
  clear B1 B2 hB02 hsz2 hZ hP ho hf hok hmb hxf hx hxk h9 hfs hfn hfe hfx hse hsx hfl
  go_enter Tryz.func20, Tryz.ntmps20
  go_upto_region 1 with fail
  rw [← HBA.out.eq, ← HBB.out.eq]
  go_upto_region 5 with (first
    | (go_at_call 39; (with_reducible refine HCK.out.mono ?_); rintro e2 w3 ⟨rfl, hb⟩; have HB3 := Lib.hid hb; obtain ⟨x0, x1, x2, x3, x4, x5, x6, x7, xl⟩ := HRE.out.bel hb; obtain ⟨o0, o1, o2, o3, o4, o5, o6, o7, ol⟩ := HRX.out.bel hb; have HS3 : Hid (w3.cell? ⟨w.heap.size, 0, none⟩ = some (.int .i64 e.kind) ∧ w3.cell? ⟨w.heap.size, 1, none⟩ = some (.string e.name) ∧ w3.cell? ⟨w.heap.size, 2, none⟩ = some (.slice na e.names.length nc) ∧ w3.cell? ⟨w.heap.size, 3, none⟩ = some (.int .i64 e.const.kind) ∧ w3.cell? ⟨w.heap.size, 4, none⟩ = some (.int .i64 e.const.int) ∧ w3.cell? ⟨w.heap.size, 5, none⟩ = some (.string e.const.text) ∧ w3.cell? ⟨w.heap.size, 6, none⟩ = some (.slice da dn dc) ∧ w3.cell? ⟨w.heap.size, 7, none⟩ = some (.slice ka e.kids.length kc) ∧ w3.cell? ⟨w.heap.size + 1, 0, none⟩ = some (.int .i64 x.kind) ∧ w3.cell? ⟨w.heap.size + 1, 1, none⟩ = some (.string x.name) ∧ w3.cell? ⟨w.heap.size + 1, 2, none⟩ = some (.slice xna x.names.length xnc) ∧ w3.cell? ⟨w.heap.size + 1, 3, none⟩ = some (.int .i64 x.const.kind) ∧ w3.cell? ⟨w.heap.size + 1, 4, none⟩ = some (.int .i64 x.const.int) ∧ w3.cell? ⟨w.heap.size + 1, 5, none⟩ = some (.string x.const.text) ∧ w3.cell? ⟨w.heap.size + 1, 6, none⟩ = some (.slice xda xdn xdc) ∧ w3.cell? ⟨w.heap.size + 1, 7, none⟩ = some (.slice xka x.kids.length xkc)) := HSS.out _ hb; clear hb)
    | fail)
  have HB3D : Hid (Below w2.heap.size w2 w3.drew) := HB3.out.drew
  have HS3D : Hid (w3.drew.cell? ⟨w.heap.size, 0, none⟩ = some (.int .i64 e.kind) ∧ w3.drew.cell? ⟨w.heap.size, 1, none⟩ = some (.string e.name) ∧ w3.drew.cell? ⟨w.heap.size, 2, none⟩ = some (.slice na e.names.length nc) ∧ w3.drew.cell? ⟨w.heap.size, 3, none⟩ = some (.int .i64 e.const.kind) ∧ w3.drew.cell? ⟨w.heap.size, 4, none⟩ = some (.int .i64 e.const.int) ∧ w3.drew.cell? ⟨w.heap.size, 5, none⟩ = some (.string e.const.text) ∧ w3.drew.cell? ⟨w.heap.size, 6, none⟩ = some (.slice da dn dc) ∧ w3.drew.cell? ⟨w.heap.size, 7, none⟩ = some (.slice ka e.kids.length kc) ∧ w3.drew.cell? ⟨w.heap.size + 1, 0, none⟩ = some (.int .i64 x.kind) ∧ w3.drew.cell? ⟨w.heap.size + 1, 1, none⟩ = some (.string x.name) ∧ w3.drew.cell? ⟨w.heap.size + 1, 2, none⟩ = some (.slice xna x.names.length xnc) ∧ w3.drew.cell? ⟨w.heap.size + 1, 3, none⟩ = some (.int .i64 x.const.kind) ∧ w3.drew.cell? ⟨w.heap.size + 1, 4, none⟩ = some (.int .i64 x.const.int) ∧ w3.drew.cell? ⟨w.heap.size + 1, 5, none⟩ = some (.string x.const.text) ∧ w3.drew.cell? ⟨w.heap.size + 1, 6, none⟩ = some (.slice xda xdn xdc) ∧ w3.drew.cell? ⟨w.heap.size + 1, 7, none⟩ = some (.slice xka x.kids.length xkc)) := HSS.out _ HB3D.out
  have xl1 : w.heap.size < w3.heap.size := xl
  clear x0 x1 x2 x3 x4 x5 x6 x7 xl o0 o1 o2 o3 o4 o5 o6 o7 ol
  go_region_held3 (fun w' => w'.cell? ⟨w.heap.size, 0, none⟩ = some (.int .i64 e.kind) ∧ w'.cell? ⟨w.heap.size, 1, none⟩ = some (.string e.name) ∧ w'.cell? ⟨w.heap.size, 2, none⟩ = some (.slice na e.names.length nc) ∧ w'.cell? ⟨w.heap.size, 3, none⟩ = some (.int .i64 e.const.kind) ∧ w'.cell? ⟨w.heap.size, 4, none⟩ = some (.int .i64 e.const.int) ∧ w'.cell? ⟨w.heap.size, 5, none⟩ = some (.string e.const.text) ∧ w'.cell? ⟨w.heap.size, 6, none⟩ = some (.slice da dn dc) ∧ w'.cell? ⟨w.heap.size, 7, none⟩ = some (.slice ka e.kids.length kc) ∧ w'.cell? ⟨w.heap.size + 1, 0, none⟩ = some (.int .i64 x.kind) ∧ w'.cell? ⟨w.heap.size + 1, 1, none⟩ = some (.string x.name) ∧ w'.cell? ⟨w.heap.size + 1, 2, none⟩ = some (.slice xna x.names.length xnc) ∧ w'.cell? ⟨w.heap.size + 1, 3, none⟩ = some (.int .i64 x.const.kind) ∧ w'.cell? ⟨w.heap.size + 1, 4, none⟩ = some (.int .i64 x.const.int) ∧ w'.cell? ⟨w.heap.size + 1, 5, none⟩ = some (.string x.const.text) ∧ w'.cell? ⟨w.heap.size + 1, 6, none⟩ = some (.slice xda xdn xdc) ∧ w'.cell? ⟨w.heap.size + 1, 7, none⟩ = some (.slice xka x.kids.length xkc))
    (first | with_reducible exact HSwf.out | with_reducible exact HSwe.out | with_reducible exact HSwd.out | with_reducible exact HSwc.out | with_reducible exact HSwb.out | with_reducible exact HSwa.out | with_reducible exact HS3D.out | exact HS3D.out | fail)
    (first
      | (go_at_call 27; (with_reducible refine (HCX.out _ HB3D.out).mono ?_); rintro e2 wa ⟨rfl, hb⟩; have HBwa : Hid (Below w2.heap.size w2 wa) := HB3D.out.trans (hb.mono HB3D.out.size); have HSwa : Hid (wa.cell? ⟨w.heap.size, 0, none⟩ = some (.int .i64 e.kind) ∧ wa.cell? ⟨w.heap.size, 1, none⟩ = some (.string e.name) ∧ wa.cell? ⟨w.heap.size, 2, none⟩ = some (.slice na e.names.length nc) ∧ wa.cell? ⟨w.heap.size, 3, none⟩ = some (.int .i64 e.const.kind) ∧ wa.cell? ⟨w.heap.size, 4, none⟩ = some (.int .i64 e.const.int) ∧ wa.cell? ⟨w.heap.size, 5, none⟩ = some (.string e.const.text) ∧ wa.cell? ⟨w.heap.size, 6, none⟩ = some (.slice da dn dc) ∧ wa.cell? ⟨w.heap.size, 7, none⟩ = some (.slice ka e.kids.length kc) ∧ wa.cell? ⟨w.heap.size + 1, 0, none⟩ = some (.int .i64 x.kind) ∧ wa.cell? ⟨w.heap.size + 1, 1, none⟩ = some (.string x.name) ∧ wa.cell? ⟨w.heap.size + 1, 2, none⟩ = some (.slice xna x.names.length xnc) ∧ wa.cell? ⟨w.heap.size + 1, 3, none⟩ = some (.int .i64 x.const.kind) ∧ wa.cell? ⟨w.heap.size + 1, 4, none⟩ = some (.int .i64 x.const.int) ∧ wa.cell? ⟨w.heap.size + 1, 5, none⟩ = some (.string x.const.text) ∧ wa.cell? ⟨w.heap.size + 1, 6, none⟩ = some (.slice xda xdn xdc) ∧ wa.cell? ⟨w.heap.size + 1, 7, none⟩ = some (.slice xka x.kids.length xkc)) := HSS.out _ HBwa.out; clear hb)
      | (go_at_call 12; (with_reducible refine (HHS.out wa HBwa.out).mono ?_); rintro e2 wb ⟨rfl, hb⟩; have HBwb : Hid (Below w2.heap.size w2 wb) := HBwa.out.trans (hb.mono HBwa.out.size); have HSwb : Hid (wb.cell? ⟨w.heap.size, 0, none⟩ = some (.int .i64 e.kind) ∧ wb.cell? ⟨w.heap.size, 1, none⟩ = some (.string e.name) ∧ wb.cell? ⟨w.heap.size, 2, none⟩ = some (.slice na e.names.length nc) ∧ wb.cell? ⟨w.heap.size, 3, none⟩ = some (.int .i64 e.const.kind) ∧ wb.cell? ⟨w.heap.size, 4, none⟩ = some (.int .i64 e.const.int) ∧ wb.cell? ⟨w.heap.size, 5, none⟩ = some (.string e.const.text) ∧ wb.cell? ⟨w.heap.size, 6, none⟩ = some (.slice da dn dc) ∧ wb.cell? ⟨w.heap.size, 7, none⟩ = some (.slice ka e.kids.length kc) ∧ wb.cell? ⟨w.heap.size + 1, 0, none⟩ = some (.int .i64 x.kind) ∧ wb.cell? ⟨w.heap.size + 1, 1, none⟩ = some (.string x.name) ∧ wb.cell? ⟨w.heap.size + 1, 2, none⟩ = some (.slice xna x.names.length xnc) ∧ wb.cell? ⟨w.heap.size + 1, 3, none⟩ = some (.int .i64 x.const.kind) ∧ wb.cell? ⟨w.heap.size + 1, 4, none⟩ = some (.int .i64 x.const.int) ∧ wb.cell? ⟨w.heap.size + 1, 5, none⟩ = some (.string x.const.text) ∧ wb.cell? ⟨w.heap.size + 1, 6, none⟩ = some (.slice xda xdn xdc) ∧ wb.cell? ⟨w.heap.size + 1, 7, none⟩ = some (.slice xka x.kids.length xkc)) := HSS.out _ HBwb.out; clear hb)
      | (go_at_call 12; (with_reducible refine (HFS.out wb HBwb.out).mono ?_); rintro e2 wc ⟨rfl, hb⟩; have HBwc : Hid (Below w2.heap.size w2 wc) := HBwb.out.trans (hb.mono HBwb.out.size); have HSwc : Hid (wc.cell? ⟨w.heap.size, 0, none⟩ = some (.int .i64 e.kind) ∧ wc.cell? ⟨w.heap.size, 1, none⟩ = some (.string e.name) ∧ wc.cell? ⟨w.heap.size, 2, none⟩ = some (.slice na e.names.length nc) ∧ wc.cell? ⟨w.heap.size, 3, none⟩ = some (.int .i64 e.const.kind) ∧ wc.cell? ⟨w.heap.size, 4, none⟩ = some (.int .i64 e.const.int) ∧ wc.cell? ⟨w.heap.size, 5, none⟩ = some (.string e.const.text) ∧ wc.cell? ⟨w.heap.size, 6, none⟩ = some (.slice da dn dc) ∧ wc.cell? ⟨w.heap.size, 7, none⟩ = some (.slice ka e.kids.length kc) ∧ wc.cell? ⟨w.heap.size + 1, 0, none⟩ = some (.int .i64 x.kind) ∧ wc.cell? ⟨w.heap.size + 1, 1, none⟩ = some (.string x.name) ∧ wc.cell? ⟨w.heap.size + 1, 2, none⟩ = some (.slice xna x.names.length xnc) ∧ wc.cell? ⟨w.heap.size + 1, 3, none⟩ = some (.int .i64 x.const.kind) ∧ wc.cell? ⟨w.heap.size + 1, 4, none⟩ = some (.int .i64 x.const.int) ∧ wc.cell? ⟨w.heap.size + 1, 5, none⟩ = some (.string x.const.text) ∧ wc.cell? ⟨w.heap.size + 1, 6, none⟩ = some (.slice xda xdn xdc) ∧ wc.cell? ⟨w.heap.size + 1, 7, none⟩ = some (.slice xka x.kids.length xkc)) := HSS.out _ HBwc.out; clear hb)
      | (go_at_call 30; (with_reducible refine (HFX.out wc HBwc.out).mono ?_); rintro e2 wd ⟨ax, cx, rfl, hsl, _, hb⟩; have HSX := Lib.hid hsl; clear hsl; have HBwd : Hid (Below w2.heap.size w2 wd) := HBwc.out.trans (hb.mono HBwc.out.size); have HSwd : Hid (wd.cell? ⟨w.heap.size, 0, none⟩ = some (.int .i64 e.kind) ∧ wd.cell? ⟨w.heap.size, 1, none⟩ = some (.string e.name) ∧ wd.cell? ⟨w.heap.size, 2, none⟩ = some (.slice na e.names.length nc) ∧ wd.cell? ⟨w.heap.size, 3, none⟩ = some (.int .i64 e.const.kind) ∧ wd.cell? ⟨w.heap.size, 4, none⟩ = some (.int .i64 e.const.int) ∧ wd.cell? ⟨w.heap.size, 5, none⟩ = some (.string e.const.text) ∧ wd.cell? ⟨w.heap.size, 6, none⟩ = some (.slice da dn dc) ∧ wd.cell? ⟨w.heap.size, 7, none⟩ = some (.slice ka e.kids.length kc) ∧ wd.cell? ⟨w.heap.size + 1, 0, none⟩ = some (.int .i64 x.kind) ∧ wd.cell? ⟨w.heap.size + 1, 1, none⟩ = some (.string x.name) ∧ wd.cell? ⟨w.heap.size + 1, 2, none⟩ = some (.slice xna x.names.length xnc) ∧ wd.cell? ⟨w.heap.size + 1, 3, none⟩ = some (.int .i64 x.const.kind) ∧ wd.cell? ⟨w.heap.size + 1, 4, none⟩ = some (.int .i64 x.const.int) ∧ wd.cell? ⟨w.heap.size + 1, 5, none⟩ = some (.string x.const.text) ∧ wd.cell? ⟨w.heap.size + 1, 6, none⟩ = some (.slice xda xdn xdc) ∧ wd.cell? ⟨w.heap.size + 1, 7, none⟩ = some (.slice xka x.kids.length xkc)) := HSS.out _ HBwd.out; clear hb)
      | (go_at_call 30; (with_reducible refine (HFE.out wc HBwc.out).mono ?_); rintro e2 wd ⟨ae, ce, rfl, hsl, _, hb⟩; have HSE := Lib.hid hsl; clear hsl; have HBwd : Hid (Below w2.heap.size w2 wd) := HBwc.out.trans (hb.mono HBwc.out.size); have HSwd : Hid (wd.cell? ⟨w.heap.size, 0, none⟩ = some (.int .i64 e.kind) ∧ wd.cell? ⟨w.heap.size, 1, none⟩ = some (.string e.name) ∧ wd.cell? ⟨w.heap.size, 2, none⟩ = some (.slice na e.names.length nc) ∧ wd.cell? ⟨w.heap.size, 3, none⟩ = some (.int .i64 e.const.kind) ∧ wd.cell? ⟨w.heap.size, 4, none⟩ = some (.int .i64 e.const.int) ∧ wd.cell? ⟨w.heap.size, 5, none⟩ = some (.string e.const.text) ∧ wd.cell? ⟨w.heap.size, 6, none⟩ = some (.slice da dn dc) ∧ wd.cell? ⟨w.heap.size, 7, none⟩ = some (.slice ka e.kids.length kc) ∧ wd.cell? ⟨w.heap.size + 1, 0, none⟩ = some (.int .i64 x.kind) ∧ wd.cell? ⟨w.heap.size + 1, 1, none⟩ = some (.string x.name) ∧ wd.cell? ⟨w.heap.size + 1, 2, none⟩ = some (.slice xna x.names.length xnc) ∧ wd.cell? ⟨w.heap.size + 1, 3, none⟩ = some (.int .i64 x.const.kind) ∧ wd.cell? ⟨w.heap.size + 1, 4, none⟩ = some (.int .i64 x.const.int) ∧ wd.cell? ⟨w.heap.size + 1, 5, none⟩ = some (.string x.const.text) ∧ wd.cell? ⟨w.heap.size + 1, 6, none⟩ = some (.slice xda xdn xdc) ∧ wd.cell? ⟨w.heap.size + 1, 7, none⟩ = some (.slice xka x.kids.length xkc)) := HSS.out _ HBwd.out; clear hb)
      | (go_at_call 30; (with_reducible refine (HFE.out wd HBwd.out).mono ?_); rintro e2 we ⟨ae, ce, rfl, hsl, _, hb⟩; have HSE := Lib.hid hsl; have HSX := Lib.hid (sl_bel HSX.out hb); clear hsl; have HBwe : Hid (Below w2.heap.size w2 we) := HBwd.out.trans (hb.mono HBwd.out.size); have HSwe : Hid (we.cell? ⟨w.heap.size, 0, none⟩ = some (.int .i64 e.kind) ∧ we.cell? ⟨w.heap.size, 1, none⟩ = some (.string e.name) ∧ we.cell? ⟨w.heap.size, 2, none⟩ = some (.slice na e.names.length nc) ∧ we.cell? ⟨w.heap.size, 3, none⟩ = some (.int .i64 e.const.kind) ∧ we.cell? ⟨w.heap.size, 4, none⟩ = some (.int .i64 e.const.int) ∧ we.cell? ⟨w.heap.size, 5, none⟩ = some (.string e.const.text) ∧ we.cell? ⟨w.heap.size, 6, none⟩ = some (.slice da dn dc) ∧ we.cell? ⟨w.heap.size, 7, none⟩ = some (.slice ka e.kids.length kc) ∧ we.cell? ⟨w.heap.size + 1, 0, none⟩ = some (.int .i64 x.kind) ∧ we.cell? ⟨w.heap.size + 1, 1, none⟩ = some (.string x.name) ∧ we.cell? ⟨w.heap.size + 1, 2, none⟩ = some (.slice xna x.names.length xnc) ∧ we.cell? ⟨w.heap.size + 1, 3, none⟩ = some (.int .i64 x.const.kind) ∧ we.cell? ⟨w.heap.size + 1, 4, none⟩ = some (.int .i64 x.const.int) ∧ we.cell? ⟨w.heap.size + 1, 5, none⟩ = some (.string x.const.text) ∧ we.cell? ⟨w.heap.size + 1, 6, none⟩ = some (.slice xda xdn xdc) ∧ we.cell? ⟨w.heap.size + 1, 7, none⟩ = some (.slice xka x.kids.length xkc)) := HSS.out _ HBwe.out; clear hb)
      | (go_at_call 30; (with_reducible refine (HFX.out wd HBwd.out).mono ?_); rintro e2 we ⟨ax, cx, rfl, hsl, _, hb⟩; have HSX := Lib.hid hsl; have HSE := Lib.hid (sl_bel HSE.out hb); clear hsl; have HBwe : Hid (Below w2.heap.size w2 we) := HBwd.out.trans (hb.mono HBwd.out.size); have HSwe : Hid (we.cell? ⟨w.heap.size, 0, none⟩ = some (.int .i64 e.kind) ∧ we.cell? ⟨w.heap.size, 1, none⟩ = some (.string e.name) ∧ we.cell? ⟨w.heap.size, 2, none⟩ = some (.slice na e.names.length nc) ∧ we.cell? ⟨w.heap.size, 3, none⟩ = some (.int .i64 e.const.kind) ∧ we.cell? ⟨w.heap.size, 4, none⟩ = some (.int .i64 e.const.int) ∧ we.cell? ⟨w.heap.size, 5, none⟩ = some (.string e.const.text) ∧ we.cell? ⟨w.heap.size, 6, none⟩ = some (.slice da dn dc) ∧ we.cell? ⟨w.heap.size, 7, none⟩ = some (.slice ka e.kids.length kc) ∧ we.cell? ⟨w.heap.size + 1, 0, none⟩ = some (.int .i64 x.kind) ∧ we.cell? ⟨w.heap.size + 1, 1, none⟩ = some (.string x.name) ∧ we.cell? ⟨w.heap.size + 1, 2, none⟩ = some (.slice xna x.names.length xnc) ∧ we.cell? ⟨w.heap.size + 1, 3, none⟩ = some (.int .i64 x.const.kind) ∧ we.cell? ⟨w.heap.size + 1, 4, none⟩ = some (.int .i64 x.const.int) ∧ we.cell? ⟨w.heap.size + 1, 5, none⟩ = some (.string x.const.text) ∧ we.cell? ⟨w.heap.size + 1, 6, none⟩ = some (.slice xda xdn xdc) ∧ we.cell? ⟨w.heap.size + 1, 7, none⟩ = some (.slice xka x.kids.length xkc)) := HSS.out _ HBwe.out; clear hb)
      | (go_at_call 29; (with_reducible refine (HST.out we ax cx ae ce HSX.out HSE.out).mono ?_); rintro e2 wf ⟨rfl, hb⟩; have HBwf : Hid (Below w2.heap.size w2 wf) := HBwe.out.trans (hb.mono HBwe.out.size); have HSwf : Hid (wf.cell? ⟨w.heap.size, 0, none⟩ = some (.int .i64 e.kind) ∧ wf.cell? ⟨w.heap.size, 1, none⟩ = some (.string e.name) ∧ wf.cell? ⟨w.heap.size, 2, none⟩ = some (.slice na e.names.length nc) ∧ wf.cell? ⟨w.heap.size, 3, none⟩ = some (.int .i64 e.const.kind) ∧ wf.cell? ⟨w.heap.size, 4, none⟩ = some (.int .i64 e.const.int) ∧ wf.cell? ⟨w.heap.size, 5, none⟩ = some (.string e.const.text) ∧ wf.cell? ⟨w.heap.size, 6, none⟩ = some (.slice da dn dc) ∧ wf.cell? ⟨w.heap.size, 7, none⟩ = some (.slice ka e.kids.length kc) ∧ wf.cell? ⟨w.heap.size + 1, 0, none⟩ = some (.int .i64 x.kind) ∧ wf.cell? ⟨w.heap.size + 1, 1, none⟩ = some (.string x.name) ∧ wf.cell? ⟨w.heap.size + 1, 2, none⟩ = some (.slice xna x.names.length xnc) ∧ wf.cell? ⟨w.heap.size + 1, 3, none⟩ = some (.int .i64 x.const.kind) ∧ wf.cell? ⟨w.heap.size + 1, 4, none⟩ = some (.int .i64 x.const.int) ∧ wf.cell? ⟨w.heap.size + 1, 5, none⟩ = some (.string x.const.text) ∧ wf.cell? ⟨w.heap.size + 1, 6, none⟩ = some (.slice xda xdn xdc) ∧ wf.cell? ⟨w.heap.size + 1, 7, none⟩ = some (.slice xka x.kids.length xkc)) := HSS.out _ HBwf.out; clear hb)
      | fail)
  all_goals
    go_wp2_with fail
    go_ret
    exact ⟨rfl, HB02.out.trans (HBwf.out.mono HB02.out.size)⟩
end Ew
end Go.Proofs.YtkplkgdfphbldaaGreat
namespace Go.Proofs.YtkplkgdfphbldaaGreat
open Go.RowKit
set_option linter.unusedVariables false
set_option linter.unusedSimpArgs false
set_option maxRecDepth 100000
namespace Ew
open Rn
def numE (k : Int) : Ex := .mk 0 ⟨#[]⟩ [] (.mk 1 k ⟨#[]⟩ []) []
set_option maxHeartbeats 4000000 in
theorem num_any (k : Int) (w : World) : Calls Tryz.prog 22 #[.int .i64 k] w fun en w' => en = .returned (.agg #[.int .i64 0, .string ⟨#[]⟩, .slice none 0 0, .int .i64 1, .int .i64 k, .string ⟨#[]⟩, .slice none 0 0, .slice none 0 0]) ∧ Below w.heap.size w w' := by
  go_enter Tryz.func22, Tryz.ntmps22
  go_wp2_with fail
  refine bodyPost_ret (res1 rfl _ _ w.heap.size 28 #[.int .i64 0, .string ⟨#[]⟩, .slice none 0 0, .int .i64 1, .int .i64 k, .string ⟨#[]⟩, .slice none 0 0, .slice none 0 0] (0, 0) rfl (heap_alloc_new w _) exprD exprSize) rfl ?_
  exact ⟨rfl, (Below.refl _ _).alloc (Nat.le_refl _) _⟩
def setX1 (s : ByteArray) (a b : Ex) : Ex := .mk 8 ⟨#[]⟩ [s] Dt.zero [a, .mk 4 ⟨#[]⟩ [] Dt.zero [.mk 2 s [] Dt.zero [b], .mk 1 s [] Dt.zero []]]
theorem four_alloc (P : World) (o1 o2 o3 o4 : Obj) : ((((P.alloc o1).alloc o2).alloc o3).alloc o4).heap[P.heap.size]? = some o1 ∧ ((((P.alloc o1).alloc o2).alloc o3).alloc o4).heap[P.heap.size + 1]? = some o2 ∧ ((((P.alloc o1).alloc o2).alloc o3).alloc o4).heap[P.heap.size + 1 + 1]? = some o3 ∧ ((((P.alloc o1).alloc o2).alloc o3).alloc o4).heap[P.heap.size + 1 + 1 + 1]? = some o4 ∧ Below P.heap.size P ((((P.alloc o1).alloc o2).alloc o3).alloc o4) := by
  refine ⟨?_, ?_, ?_, heap_new (by simp), (((((Below.refl _ _).alloc (Nat.le_refl _) _).alloc (by simp) _).alloc (by simp <;> omega) _).alloc (by simp <;> omega) _)⟩
  · rw [heap_alloc_old _ _ (by simp <;> omega), heap_alloc_old _ _ (by simp <;> omega), heap_alloc_old _ _ (by simp)]
    exact heap_alloc_new _ _
  · rw [heap_alloc_old _ _ (by simp <;> omega), heap_alloc_old _ _ (by simp)]
    exact heap_new (by simp)
  · rw [heap_alloc_old _ _ (by simp)]
    exact heap_new (by simp)
theorem set_at {s : ByteArray} {a b : Ex} {w W : World} {ana : Option Addr} {anc : Nat} {ada : Option Addr} {adn adc : Nat} {aka : Option Addr} {akc : Nat} {bna : Option Addr} {bnc : Nat} {bda : Option Addr} {bdn bdc : Nat} {bka : Option Addr} {bkc : Nat} (ha : Op w a ana anc ada adn adc aka akc) (hb : Op w b bna bnc bda bdn bdc bka bkc) {N : Nat} (hw : Below w.heap.size w W)
    (f1 : W.heap[N]? = some (.cells #[.string s] 9 (0, 0))) (f2 : W.heap[N + 1]? = some (.cells #[.int .i64 b.kind, .string b.name, .slice bna b.names.length bnc, .int .i64 b.const.kind, .int .i64 b.const.int, .string b.const.text, .slice bda bdn bdc, .slice bka b.kids.length bkc] 28 (0, 0))) (f3 : W.heap[N + 1 + 1]? = some (.cells #[.int .i64 2, .string s, .slice none 0 0, .int .i64 0, .int .i64 0, .string ⟨#[]⟩, .slice none 0 0, .slice (some ⟨N + 1, 0, none⟩) 1 1, .int .i64 1, .string s, .slice none 0 0, .int .i64 0, .int .i64 0, .string ⟨#[]⟩, .slice none 0 0, .slice none 0 0] 28 (0, 0))) (f4 : W.heap[N + 1 + 1 + 1]? = some (.cells #[.int .i64 a.kind, .string a.name, .slice ana a.names.length anc, .int .i64 a.const.kind, .int .i64 a.const.int, .string a.const.text, .slice ada adn adc, .slice aka a.kids.length akc, .int .i64 4, .string ⟨#[]⟩, .slice none 0 0, .int .i64 0, .int .i64 0, .string ⟨#[]⟩, .slice none 0 0, .slice (some ⟨N + 1 + 1, 0, none⟩) 2 2] 28 (0, 0))) :
    ExAt W (exV 8 ⟨#[]⟩ (.slice (some ⟨N, 0, none⟩) 1 1) Dt.zero (.slice none 0 0) (.slice (some ⟨N + 1 + 1 + 1, 0, none⟩) 2 2)) (setX1 s a b) := by
  have hn : Sl W (.slice (some ⟨N, 0, none⟩) 1 1) (strs [s]) := by
    refine ⟨_, 1, rfl, .inr ⟨_, rfl, fun j u hu => ?_⟩⟩
    rw [Addr.add_mid, Nat.zero_add, cell_of_row _ _ _ _ _ _ f1]
    simpa [strs] using hu
  have hb1 : KidsAt W (.slice (some ⟨N + 1, 0, none⟩) 1 1) [b] := kids_row (M := [⟨b, .slice bna b.names.length bnc, .slice bda bdn bdc, .slice bka b.kids.length bkc⟩]) (own_lit1 f2) (fun y hy => by
    simp at hy
    subst hy
    exact hb.ex.bel hw)
  have hset : ExAt W (exV 2 s (.slice none 0 0) Dt.zero (.slice none 0 0) (.slice (some ⟨N + 1, 0, none⟩) 1 1)) (.mk 2 s [] Dt.zero [b]) := exAt_mk ⟨none, 0, rfl, .inl ⟨rfl, rfl, rfl⟩⟩ (zero_const _) room_nil hb1
  have hx : ExAt W (exV 1 s (.slice none 0 0) Dt.zero (.slice none 0 0) (.slice none 0 0)) (.mk 1 s [] Dt.zero []) := exAt_mk ⟨none, 0, rfl, .inl ⟨rfl, rfl, rfl⟩⟩ (zero_const _) room_nil ⟨none, 0, rfl, Nat.le_refl _, .inl rfl⟩
  have hk2 : KidsAt W (.slice (some ⟨N + 1 + 1, 0, none⟩) 2 2) [.mk 2 s [] Dt.zero [b], .mk 1 s [] Dt.zero []] := kids_row (M := [⟨.mk 2 s [] Dt.zero [b], .slice none 0 0, .slice none 0 0, .slice (some ⟨N + 1, 0, none⟩) 1 1⟩, ⟨.mk 1 s [] Dt.zero [], .slice none 0 0, .slice none 0 0, .slice none 0 0⟩]) (own_lit2 f3) (fun y hy => by
    simp at hy
    rcases hy with rfl | rfl
    · exact hset
    · exact hx)
  have hq : ExAt W (exV 4 ⟨#[]⟩ (.slice none 0 0) Dt.zero (.slice none 0 0) (.slice (some ⟨N + 1 + 1, 0, none⟩) 2 2)) (.mk 4 ⟨#[]⟩ [] Dt.zero [.mk 2 s [] Dt.zero [b], .mk 1 s [] Dt.zero []]) := exAt_mk ⟨none, 0, rfl, .inl ⟨rfl, rfl, rfl⟩⟩ (zero_const _) room_nil hk2
  have hk3 : KidsAt W (.slice (some ⟨N + 1 + 1 + 1, 0, none⟩) 2 2) [a, .mk 4 ⟨#[]⟩ [] Dt.zero [.mk 2 s [] Dt.zero [b], .mk 1 s [] Dt.zero []]] := kids_row (M := [⟨a, .slice ana a.names.length anc, .slice ada adn adc, .slice aka a.kids.length akc⟩, ⟨.mk 4 ⟨#[]⟩ [] Dt.zero [.mk 2 s [] Dt.zero [b], .mk 1 s [] Dt.zero []], .slice none 0 0, .slice none 0 0, .slice (some ⟨N + 1 + 1, 0, none⟩) 2 2⟩]) (own_lit2 f4) (fun y hy => by
    simp at hy
    rcases hy with rfl | rfl
    · exact ha.ex.bel hw
    · exact hq)
  exact exAt_mk hn (zero_const _) ⟨_, _, _, rfl, Nat.le_refl _⟩ hk3
set_option maxHeartbeats 8000000 in
theorem set_any (s : ByteArray) (a b : Ex) {w : World} {ana : Option Addr} {anc : Nat} {ada : Option Addr} {adn adc : Nat} {aka : Option Addr} {akc : Nat} {bna : Option Addr} {bnc : Nat} {bda : Option Addr} {bdn bdc : Nat} {bka : Option Addr} {bkc : Nat} (ha : Op w a ana anc ada adn adc aka akc) (hb : Op w b bna bnc bda bdn bdc bka bkc) :
    Calls Tryz.prog 38 #[.string s, .agg #[.int .i64 a.kind, .string a.name, .slice ana a.names.length anc, .int .i64 a.const.kind, .int .i64 a.const.int, .string a.const.text, .slice ada adn adc, .slice aka a.kids.length akc], .agg #[.int .i64 b.kind, .string b.name, .slice bna b.names.length bnc, .int .i64 b.const.kind, .int .i64 b.const.int, .string b.const.text, .slice bda bdn bdc, .slice bka b.kids.length bkc]] w fun en w' => ∃ x : XM, x.e = setX1 s a b ∧ en = .returned x.val ∧ ExAt w' x.val x.e ∧ Below w.heap.size w w' := by
  obtain ⟨w1, B1⟩ := boxed w #[.int .i64 a.kind, .string a.name, .slice ana a.names.length anc, .int .i64 a.const.kind, .int .i64 a.const.int, .string a.const.text, .slice ada adn adc, .slice aka a.kids.length akc] 28
  obtain ⟨w2, B2⟩ := boxed w1 #[.int .i64 b.kind, .string b.name, .slice bna b.names.length bnc, .int .i64 b.const.kind, .int .i64 b.const.int, .string b.const.text, .slice bda bdn bdc, .slice bka b.kids.length bkc] 28
  obtain ⟨w3, B3⟩ := boxed w2 #[.int .i64 0, .string ⟨#[]⟩, .slice none 0 0, .int .i64 0, .int .i64 0, .string ⟨#[]⟩, .slice none 0 0, .slice none 0 0] 28
  obtain ⟨w4, B4⟩ := boxed w3 #[.int .i64 1, .string s, .slice none 0 0, .int .i64 0, .int .i64 0, .string ⟨#[]⟩, .slice none 0 0, .slice none 0 0] 28
  have z1 := B1.size
  have z2 := B2.size
  have z3 := B3.size
  have z4 := B4.size
  have hb24 : Below w2.heap.size w2 w4 := B3.below.trans (B4.below.mono B3.below.size)
  have hb14 : Below w1.heap.size w1 w4 := B2.below.trans (hb24.mono B2.below.size)
  have hw4 : Below w.heap.size w w4 := B1.below.trans (hb14.mono B1.below.size)
  have hA := (hb14.block w.heap.size (by omega)).trans B1.blk
  have hB : w4.heap[w.heap.size + 1]? = some (.cells #[.int .i64 b.kind, .string b.name, .slice bna b.names.length bnc, .int .i64 b.const.kind, .int .i64 b.const.int, .string b.const.text, .slice bda bdn bdc, .slice bka b.kids.length bkc] 28 (0, 0)) := by
    have := B2.blk
    rw [z1] at this
    exact (hb24.block _ (by omega)).trans this
  have hZ : w4.heap[w.heap.size + 1 + 1]? = some (.cells #[.int .i64 0, .string ⟨#[]⟩, .slice none 0 0, .int .i64 0, .int .i64 0, .string ⟨#[]⟩, .slice none 0 0, .slice none 0 0] 28 (0, 0)) := by
    have := B3.blk
    rw [z2, z1] at this
    exact (B4.below.block _ (by omega)).trans this
  have hX : w4.heap[w.heap.size + 1 + 1 + 1]? = some (.cells #[.int .i64 1, .string s, .slice none 0 0, .int .i64 0, .int .i64 0, .string ⟨#[]⟩, .slice none 0 0, .slice none 0 0] 28 (0, 0)) := by
    have := B4.blk
    rw [z3, z2, z1] at this
    exact this
  have HB1 := Lib.hid B1
  have HB2 := Lib.hid B2
  have HB3 := Lib.hid B3
  have HB4 := Lib.hid B4
  have HZ := Lib.hid hZ
  have HW4 := Lib.hid hw4
  have HA := Lib.hid ha
  have HBO := Lib.hid hb
  obtain ⟨x0, x1, x2, x3, x4, x5, x6, x7, xl⟩ := Row.of hA
  obtain ⟨o0, o1, o2, o3, o4, o5, o6, o7, ol⟩ := Row.of hB
  obtain ⟨y0, y1, y2, y3, y4, y5, y6, y7, yl⟩ := Row.of hX
  obtain ⟨⟨_, s0⟩, ⟨_, s1⟩, ⟨_, s2⟩, ⟨_, s3⟩, ⟨_, s4⟩, ⟨_, s5⟩, ⟨_, s6⟩, ⟨_, s7⟩, q0, q1, q2, q3, q4, q5, q6, q7, sbl⟩ := blk8 hZ
  clear B1 B2 B3 B4 z1 z2 z3 z4 hb24 hb14 hA hB hZ hX hw4 ha hb
  go_enter Tryz.func38, Tryz.ntmps38
  go_upto_region 2 with fail
  rw [← HB1.out.eq, ← HB2.out.eq, ← HB3.out.eq, ← HB4.out.eq]
  go_wp2_with fail
  have hk8 := put8_kp (g := w.heap.size + 1 + 1) (w := w4) (.int .i64 8) (.string ⟨#[]⟩) (.slice (some ⟨w4.heap.size, 0, none⟩) 1 1) (.int .i64 0) (.int .i64 0) (.string ⟨#[]⟩) (.slice none 0 0) (.slice (some ⟨w4.heap.size + 1 + 1 + 1, 0, none⟩) 2 2)
  have hr8 : (put8 w4 (w.heap.size + 1 + 1) (.int .i64 8) (.string ⟨#[]⟩) (.slice (some ⟨w4.heap.size, 0, none⟩) 1 1) (.int .i64 0) (.int .i64 0) (.string ⟨#[]⟩) (.slice none 0 0) (.slice (some ⟨w4.heap.size + 1 + 1 + 1, 0, none⟩) 2 2)).heap[w.heap.size + 1 + 1]? = some (.cells #[.int .i64 8, .string ⟨#[]⟩, .slice (some ⟨w4.heap.size, 0, none⟩) 1 1, .int .i64 0, .int .i64 0, .string ⟨#[]⟩, .slice none 0 0, .slice (some ⟨w4.heap.size + 1 + 1 + 1, 0, none⟩) 2 2] 28 (0, 0)) := by
    unfold put8
    exact eight_set _ _ _ _ _ _ _ _ _ _ _ (.int .i64 8) (.string ⟨#[]⟩) (.slice (some ⟨w4.heap.size, 0, none⟩) 1 1) (.int .i64 0) (.int .i64 0) (.string ⟨#[]⟩) (.slice none 0 0) (.slice (some ⟨w4.heap.size + 1 + 1 + 1, 0, none⟩) 2 2) HZ.out
  have hbP := below_put8 HW4.out (g := w.heap.size + 1 + 1) (by omega) (.int .i64 8) (.string ⟨#[]⟩) (.slice (some ⟨w4.heap.size, 0, none⟩) 1 1) (.int .i64 0) (.int .i64 0) (.string ⟨#[]⟩) (.slice none 0 0) (.slice (some ⟨w4.heap.size + 1 + 1 + 1, 0, none⟩) 2 2)
  obtain ⟨f1, f2, f3, f4, fb⟩ := four_alloc (put8 w4 (w.heap.size + 1 + 1) (.int .i64 8) (.string ⟨#[]⟩) (.slice (some ⟨w4.heap.size, 0, none⟩) 1 1) (.int .i64 0) (.int .i64 0) (.string ⟨#[]⟩) (.slice none 0 0) (.slice (some ⟨w4.heap.size + 1 + 1 + 1, 0, none⟩) 2 2)) (.cells #[.string s] 9) (.cells #[.int .i64 b.kind, .string b.name, .slice bna b.names.length bnc, .int .i64 b.const.kind, .int .i64 b.const.int, .string b.const.text, .slice bda bdn bdc, .slice bka b.kids.length bkc] 28) (.cells #[.int .i64 2, .string s, .slice none 0 0, .int .i64 0, .int .i64 0, .string ⟨#[]⟩, .slice none 0 0, .slice (some ⟨w4.heap.size + 1, 0, none⟩) 1 1, .int .i64 1, .string s, .slice none 0 0, .int .i64 0, .int .i64 0, .string ⟨#[]⟩, .slice none 0 0, .slice none 0 0] 28) (.cells #[.int .i64 a.kind, .string a.name, .slice ana a.names.length anc, .int .i64 a.const.kind, .int .i64 a.const.int, .string a.const.text, .slice ada adn adc, .slice aka a.kids.length akc, .int .i64 4, .string ⟨#[]⟩, .slice none 0 0, .int .i64 0, .int .i64 0, .string ⟨#[]⟩, .slice none 0 0, .slice (some ⟨w4.heap.size + 1 + 1, 0, none⟩) 2 2] 28)
  have hr5 := (fb.block (w.heap.size + 1 + 1) (by rw [hk8.1]; exact (Array.getElem?_eq_some_iff.1 HZ.out).1)).trans hr8
  have hb5 := hbP.trans (fb.mono hbP.size)
  rw [hk8.1] at f1 f2 f3 f4
  have hex := set_at HA.out HBO.out hb5 f1 f2 f3 f4
  unfold put8 at hr5 hb5 hex
  clear hk8 hr8 hbP f1 f2 f3 f4 fb
  refine bodyPost_ret (res1 rfl _ _ (w.heap.size + 1 + 1) 28 #[.int .i64 8, .string ⟨#[]⟩, .slice (some ⟨w4.heap.size, 0, none⟩) 1 1, .int .i64 0, .int .i64 0, .string ⟨#[]⟩, .slice none 0 0, .slice (some ⟨w4.heap.size + 1 + 1 + 1, 0, none⟩) 2 2] (0, 0) rfl hr5 exprD exprSize) rfl ?_
  exact ⟨⟨setX1 s a b, .slice (some ⟨w4.heap.size, 0, none⟩) 1 1, .slice none 0 0, .slice (some ⟨w4.heap.size + 1 + 1 + 1, 0, none⟩) 2 2⟩, rfl, rfl, hex, hb5⟩
end Ew
end Go.Proofs.YtkplkgdfphbldaaGreat
namespace Go.Proofs.YtkplkgdfphbldaaGreat
open Go.RowKit
set_option linter.unusedVariables false
set_option linter.unusedSimpArgs false
set_option maxRecDepth 100000
namespace Ew
open Rn
def sxB : ByteArray := ⟨#[120]⟩
def oneB : Ex := numE 1
def twoB : Ex := numE 2
def bx1 : Ex := setX1 sxB oneB twoB
def setB : Ex := .mk 2 sxB [] Dt.zero [oneB]
theorem ok_bx1 : Ex.ok bx1 = true := by kernel_rfl
theorem free_bx1 : Ex.freeNames bx1 = [] := by kernel_rfl
theorem may_bx1 : Ex.mayBox bx1 = true := by kernel_rfl
theorem okb_bx1 : Ex.ok (Ex.boxE Ex.noB bx1) = true := by kernel_rfl
theorem freeb_bx1 : Ex.freeNames (Ex.boxE Ex.noB bx1) = [] := by kernel_rfl
theorem hasb_bx1 : Ex.has 2 (Ex.boxE Ex.noB bx1) = false := by kernel_rfl
theorem ok_setB : Ex.ok setB = true := by kernel_rfl
theorem may_setB : Ex.mayBox setB = false := by kernel_rfl
theorem fit_okB {e : Ex} (h : Ex.ok e = true) : Ex.Fit e := by
  obtain ⟨a, _, c⟩ := (Ex.ok_iff e).1 h
  exact fit_of_form e a (by omega)
theorem no_opB (w : World) (k : Int) (n : ByteArray) (c : Dt) (hc : ConstAt w c (.slice none 0 0)) : Op w (.mk k n [] c []) none 0 none 0 0 none 0 :=
  ⟨exAt_mk ⟨none, 0, rfl, .inl ⟨rfl, rfl, rfl⟩⟩ hc ⟨_, _, _, rfl, Nat.le_refl _⟩ ⟨none, 0, rfl, Nat.le_refl _, .inl rfl⟩, ⟨none, 0, rfl, .inl ⟨rfl, rfl, rfl⟩⟩, ⟨none, 0, rfl, Nat.le_refl _, .inl rfl⟩, Nat.le_refl _, hc⟩
theorem op_num (w : World) (k : Int) : Op w (numE k) none 0 none 0 0 none 0 := no_opB w 0 ⟨#[]⟩ (.mk 1 k ⟨#[]⟩ []) (.nil 1 k _)
theorem set_call (w : World) : Calls Tryz.prog 38 #[.string ⟨#[120]⟩, .agg #[.int .i64 0, .string ⟨#[]⟩, .slice none 0 0, .int .i64 1, .int .i64 1, .string ⟨#[]⟩, .slice none 0 0, .slice none 0 0], .agg #[.int .i64 0, .string ⟨#[]⟩, .slice none 0 0, .int .i64 1, .int .i64 2, .string ⟨#[]⟩, .slice none 0 0, .slice none 0 0]] w fun en w' => ∃ x : XM, x.e = bx1 ∧ en = .returned x.val ∧ ExAt w' x.val x.e ∧ Below w.heap.size w w' :=
  set_any sxB oneB twoB (op_num w 1) (op_num w 2)
theorem box_set {w : World} {na : Option Addr} {nc : Nat} {da : Option Addr} {dn dc : Nat} {ka : Option Addr} {kc : Nat} (ho : Op w setB na nc da dn dc ka kc) : Calls Tryz.prog 18 #[.agg #[.int .i64 setB.kind, .string setB.name, .slice na setB.names.length nc, .int .i64 setB.const.kind, .int .i64 setB.const.int, .string setB.const.text, .slice da dn dc, .slice ka setB.kids.length kc]] w fun en w' => en = .returned (.tuple #[zeroV, .int .i64 100]) ∧ Below w.heap.size w w' :=
  (pBox_any setB (fit_okB ok_setB) ho).mono fun en w' h => by
    rcases h with ⟨_, h1, h2⟩ | ⟨h1, _⟩
    · exact ⟨h1, h2⟩
    · rw [may_setB] at h1
      cases h1
theorem box_bx1 {w : World} {re : Ex} (hre : re = bx1) {na : Option Addr} {nc : Nat} {da : Option Addr} {dn dc : Nat} {ka : Option Addr} {kc : Nat} (ho : Op w re na nc da dn dc ka kc) : Calls Tryz.prog 18 #[.agg #[.int .i64 re.kind, .string re.name, .slice na re.names.length nc, .int .i64 re.const.kind, .int .i64 re.const.int, .string re.const.text, .slice da dn dc, .slice ka re.kids.length kc]] w fun en w' => ∃ x : XM, x.e = Ex.boxE Ex.noB bx1 ∧ en = .returned (.tuple #[x.val, .int .i64 0]) ∧ ExAt w' x.val x.e ∧ Below w.heap.size w w' := by
  subst hre
  exact (pBox_any bx1 (fit_okB ok_bx1) ho).mono fun en w' h => by
    rcases h with ⟨h1, _⟩ | ⟨_, ⟨_, x, h1, h2, h3, h4⟩ | ⟨h1, _⟩⟩
    · rw [may_bx1] at h1
      cases h1
    · exact ⟨x, h1, h2, h3.at, h4⟩
    · rw [okb_bx1] at h1
      cases h1
end Ew
end Go.Proofs.YtkplkgdfphbldaaGreat
namespace Go.Proofs.YtkplkgdfphbldaaGreat
open Go.RowKit
set_option linter.unusedVariables false
set_option linter.unusedSimpArgs false
set_option maxRecDepth 100000
namespace Ew
open Rn
theorem run_bx1 : runR 60 bx1 [] 1500 = some ⟨0, [], some (.mk 1 2 ⟨#[]⟩ []), 6⟩ := by kernel_rfl
theorem run_bxb : runR 60 (Ex.boxE Ex.noB bx1) [] (4 * 6 + 4) = some ⟨0, [], some (.mk 1 2 ⟨#[]⟩ []), 9⟩ := by kernel_rfl
theorem size_bxb : (Ex.boxE Ex.noB bx1).size ≤ 100000 := by
  have h := ((Ex.ok_iff _).1 okb_bx1).2.2
  omega
theorem means_box {a b : Ex} (ha : a = bx1) (hb : b = Ex.boxE Ex.noB bx1) {w : World} {ana : Option Addr} {anc : Nat} {ada : Option Addr} {adn adc : Nat} {aka : Option Addr} {akc : Nat} {bna : Option Addr} {bnc : Nat} {bda : Option Addr} {bdn bdc : Nat} {bka : Option Addr} {bkc : Nat} (hoa : Op w a ana anc ada adn adc aka akc) (hob : Op w b bna bnc bda bdn bdc bka bkc) :
    Calls Tryz.prog 17 #[.agg #[.int .i64 a.kind, .string a.name, .slice ana a.names.length anc, .int .i64 a.const.kind, .int .i64 a.const.int, .string a.const.text, .slice ada adn adc, .slice aka a.kids.length akc], .agg #[.int .i64 b.kind, .string b.name, .slice bna b.names.length bnc, .int .i64 b.const.kind, .int .i64 b.const.int, .string b.const.text, .slice bda bdn bdc, .slice bka b.kids.length bkc], .slice none 0 0, .string ⟨#[]⟩, .int .i64 4, .int .i64 4] w (Says (.bool true) w) := by
  subst ha
  subst hb
  exact rmeans_yes bx1 (Ex.boxE Ex.noB bx1) 4 4 (fit_okB ok_bx1) ok_bx1 free_bx1 hoa (fit_okB okb_bx1) okb_bx1 freeb_bx1 hob 60 60 6 9 0 [] (some (.mk 1 2 ⟨#[]⟩ [])) (Dt.short_of (by decide)) run_bx1 run_bxb (by decide) (by decide)
theorem has_box2 {b : Ex} (hb : b = Ex.boxE Ex.noB bx1) {w : World} {bna : Option Addr} {bnc : Nat} {bda : Option Addr} {bdn bdc : Nat} {bka : Option Addr} {bkc : Nat} (hob : Op w b bna bnc bda bdn bdc bka bkc) :
    Calls Tryz.prog 12 #[.agg #[.int .i64 b.kind, .string b.name, .slice bna b.names.length bnc, .int .i64 b.const.kind, .int .i64 b.const.int, .string b.const.text, .slice bda bdn bdc, .slice bka b.kids.length bkc], .int .i64 2] w (Says (.bool false) w) := by
  subst hb
  have h := rhas_any 2 (Ex.boxE Ex.noB bx1) size_bxb hob
  rw [hasb_bx1] at h
  exact h
theorem op_setB {W : World} {N : Nat} (h : W.heap[N]? = some (.cells #[.int .i64 0, .string ⟨#[]⟩, .slice none 0 0, .int .i64 1, .int .i64 1, .string ⟨#[]⟩, .slice none 0 0, .slice none 0 0] 28 (0, 0))) : Op W setB none 0 none 0 0 (some ⟨N, 0, none⟩) 1 := by
  have hk : KidsAt W (.slice (some ⟨N, 0, none⟩) 1 1) [oneB] := kids_row (M := [⟨oneB, .slice none 0 0, .slice none 0 0, .slice none 0 0⟩]) (own_lit1 h) (fun y hy => by
    simp at hy
    subst hy
    exact (op_num W 1).ex)
  exact ⟨exAt_mk ⟨none, 0, rfl, .inl ⟨rfl, rfl, rfl⟩⟩ (zero_const _) room_nil hk, ⟨none, 0, rfl, .inl ⟨rfl, rfl, rfl⟩⟩, hk, Nat.le_refl _, zero_const _⟩
theorem box_lit {W : World} {N : Nat} (h : W.heap[N]? = some (.cells #[.int .i64 0, .string ⟨#[]⟩, .slice none 0 0, .int .i64 1, .int .i64 1, .string ⟨#[]⟩, .slice none 0 0, .slice none 0 0] 28 (0, 0))) : Calls Tryz.prog 18 #[.agg #[.int .i64 2, .string ⟨#[120]⟩, .slice none 0 0, .int .i64 0, .int .i64 0, .string ⟨#[]⟩, .slice none 0 0, .slice (some ⟨N, 0, none⟩) 1 1]] W fun en w' => en = .returned (.tuple #[zeroV, .int .i64 100]) ∧ Below W.heap.size W w' := box_set (op_setB h)
set_option maxHeartbeats 16000000 in
theorem fixed11_any (w : World) : Calls Tryz.prog 19 #[] w (Says (.bool true) w) := by
  go_enter Tryz.func19, Tryz.ntmps19
  go_upto_region 2 with (first
    | (go_at_call 22; (first | ((with_reducible refine (num_any 1 w).mono ?_); rintro e2 w0 ⟨rfl, hb⟩; have HB0 := Lib.hid hb; clear hb) | ((with_reducible refine (num_any 2 w0).mono ?_); rintro e2 w1 ⟨rfl, hb⟩; have HB1 : Hid (Below w.heap.size w w1) := HB0.out.trans (hb.mono HB0.out.size); clear hb)))
    | (go_at_call 38; (with_reducible refine (set_call w1).mono ?_); rintro e2 w2 ⟨⟨re, rn, rd, rk⟩, hre, rfl, hex, hb⟩; obtain ⟨rna, rnc, rda, rdn, rdc, rka, rkc, v1, v2, v3, hop⟩ := op_of hex; dsimp only at hre v1 v2 v3 hop; subst v1 v2 v3; unfold XM.val exV; dsimp only; have HRE := Lib.hid hre; have HROP := Lib.hid hop; have HB2 : Hid (Below w.heap.size w w2) := HB1.out.trans (hb.mono HB1.out.size); clear hre hop hex hb)
    | fail)
  obtain ⟨w3, B3⟩ := boxed w2 #[.int .i64 re.kind, .string re.name, .slice rna re.names.length rnc, .int .i64 re.const.kind, .int .i64 re.const.int, .string re.const.text, .slice rda rdn rdc, .slice rka re.kids.length rkc] 28
  rw [← B3.eq]
  have HKR := Lib.hid B3.blk
  have HB3 := Lib.hid (HB2.out.trans (B3.below.mono HB2.out.size))
  have HROP3 := Lib.hid (HROP.out.bel B3.below)
  obtain ⟨x0, x1, x2, x3, x4, x5, x6, x7, xl⟩ := Row.of B3.blk
  clear B3
  go_upto_region 3 with (first
    | (go_at_call 18; (with_reducible refine (box_bx1 HRE.out HROP3.out).mono ?_); rintro e2 w4 ⟨⟨ye, yn, yd, yk⟩, hye, rfl, hex, hb⟩; obtain ⟨yna, ync, yda, ydn, ydc, yka, ykc, v1, v2, v3, hop⟩ := op_of hex; dsimp only at hye v1 v2 v3 hop; subst v1 v2 v3; unfold XM.val exV; dsimp only; have HYE := Lib.hid hye; have HOP := Lib.hid hop; have HB34 := Lib.hid hb; clear hye hop hex hb)
    | fail)
  obtain ⟨w5, B5⟩ := boxed w4 #[.int .i64 ye.kind, .string ye.name, .slice yna ye.names.length ync, .int .i64 ye.const.kind, .int .i64 ye.const.int, .string ye.const.text, .slice yda ydn ydc, .slice yka ye.kids.length ykc] 28
  rw [← B5.eq]
  have HKY := Lib.hid B5.blk
  have HB35 := Lib.hid (HB34.out.trans (B5.below.mono HB34.out.size))
  have HOP5 := Lib.hid (HOP.out.bel B5.below)
  clear B5 x0 x1 x2 x3 x4 x5 x6 x7 xl
  go_upto_region 4 with (first
    | (go_at_call 22; (with_reducible refine (num_any 1 w5).mono ?_); rintro e2 w6 ⟨rfl, hb⟩; have HB56 := Lib.hid hb; clear hb)
    | (go_at_call 18; have HL := Lib.hid (heap_alloc_new w6 (.cells #[.int .i64 0, .string ⟨#[]⟩, .slice none 0 0, .int .i64 1, .int .i64 1, .string ⟨#[]⟩, .slice none 0 0, .slice none 0 0] 28)); (with_reducible refine (box_lit HL.out).mono ?_); rintro e2 w7 ⟨rfl, hb⟩; have HB57 : Hid (Below w5.heap.size w5 w7) := HB56.out.trans ((((Below.refl _ w6).alloc (Nat.le_refl _) _).trans (hb.mono (by simp))).mono HB56.out.size); clear hb)
    | fail)
  obtain ⟨w8, B8⟩ := boxed w7 #[.int .i64 0, .string ⟨#[]⟩, .slice none 0 0, .int .i64 0, .int .i64 0, .string ⟨#[]⟩, .slice none 0 0, .slice none 0 0] 28
  rw [← B8.eq]
  have hb58 : Below w5.heap.size w5 w8 := HB57.out.trans (B8.below.mono HB57.out.size)
  have hb38 : Below w3.heap.size w3 w8 := HB35.out.trans (hb58.mono HB35.out.size)
  have hY8 := (hb58.block _ (Array.getElem?_eq_some_iff.1 HKY.out).1).trans HKY.out
  have hR8 := (hb38.block _ (Array.getElem?_eq_some_iff.1 HKR.out).1).trans HKR.out
  have HY8 := Lib.hid hY8
  have HR8 := Lib.hid hR8
  have HOP8 := Lib.hid (HOP5.out.bel hb58)
  have HROP8 := Lib.hid (HROP3.out.bel hb38)
  have HB08 := Lib.hid (HB3.out.trans (hb38.mono HB3.out.size))
  obtain ⟨x0, x1, x2, x3, x4, x5, x6, x7, xl⟩ := Row.of hR8
  obtain ⟨o0, o1, o2, o3, o4, o5, o6, o7, ol⟩ := Row.of hY8
  clear B8 hb58 hb38 hY8 hR8
  go_wp2_with (first
    | (go_at_call 12; (with_reducible refine (has_box2 HYE.out HOP8.out).mono ?_); rintro e2 wa ⟨rfl, hb⟩; have HBwa := Lib.hid hb; clear hb x0 x1 x2 x3 x4 x5 x6 x7 xl o0 o1 o2 o3 o4 o5 o6 o7 ol; obtain ⟨x0, x1, x2, x3, x4, x5, x6, x7, xl⟩ := Row.of ((HBwa.out.block _ (Array.getElem?_eq_some_iff.1 HR8.out).1).trans HR8.out); obtain ⟨o0, o1, o2, o3, o4, o5, o6, o7, ol⟩ := Row.of ((HBwa.out.block _ (Array.getElem?_eq_some_iff.1 HY8.out).1).trans HY8.out))
    | (go_at_call 17; (with_reducible refine (means_box HRE.out HYE.out (HROP8.out.bel HBwa.out) (HOP8.out.bel HBwa.out)).mono ?_); rintro e2 wc ⟨rfl, hb⟩; have HBwc : Hid (Below w8.heap.size w8 wc) := HBwa.out.trans (hb.mono HBwa.out.size); clear hb)
    | fail)
  go_ret
  exact ⟨rfl, HB08.out.trans (HBwc.out.mono HB08.out.size)⟩
end Ew
end Go.Proofs.YtkplkgdfphbldaaGreat
namespace Go.Proofs.YtkplkgdfphbldaaGreat
open Go.RowKit
set_option linter.unusedVariables false
set_option linter.unusedSimpArgs false
set_option maxRecDepth 100000
namespace Ew
open Rn
theorem may_ok {e : Ex} (h : Ex.mayBox e = true) : Ex.ok e = true ∧ Ex.has 9 e = false := by
  rw [Ex.mayBox_eq] at h
  simp only [Bool.and_eq_true, Bool.not_eq_true'] at h
  exact ⟨h.1, h.2.1⟩
set_option maxHeartbeats 16000000 in
theorem boxedForms_any (e : Ex) {w : World} {na : Option Addr} {nc : Nat} {da : Option Addr} {dn dc : Nat} {ka : Option Addr} {kc : Nat} (hf : Ex.Fit e) (ho : Op w e na nc da dn dc ka kc) :
    Calls Tryz.prog 6 #[.agg #[.int .i64 e.kind, .string e.name, .slice na e.names.length nc, .int .i64 e.const.kind, .int .i64 e.const.int, .string e.const.text, .slice da dn dc, .slice ka e.kids.length kc]] w (Says (.bool true) w) := by
  obtain ⟨w1, B1⟩ := boxed w #[.int .i64 e.kind, .string e.name, .slice na e.names.length nc, .int .i64 e.const.kind, .int .i64 e.const.int, .string e.const.text, .slice da dn dc, .slice ka e.kids.length kc] 28
  have HFX := Lib.hid (pBox_any e hf (ho.bel B1.below))
  have HF := Lib.hid hf
  have HO := Lib.hid (ho.bel B1.below)
  have HB1 := Lib.hid B1
  have HPB := Lib.hid B1.blk
  obtain ⟨x0, x1, x2, x3, x4, x5, x6, x7, xl⟩ := Row.of B1.blk
  clear B1 hf ho
  go_enter Tryz.func6, Tryz.ntmps6
  go_upto_region 1 with fail
  rw [← HB1.out.eq]
  go_wp2_with fail
  with_reducible refine HFX.out.mono ?_
  rintro e2 w3 (⟨hok, rfl, hb3⟩ | ⟨hok, ⟨hk2, ⟨ye, yn, yd, yk⟩, hye, rfl, hex, hb3⟩ | ⟨hk2, rfl, hb3⟩⟩)
  · have HOK := Lib.hid hok
    have HB3 := Lib.hid hb3
    clear hok hb3
    go_upto_region 2 with fail
    · skip
      obtain ⟨w4, B4⟩ := boxed w3 #[.int .i64 0, .string ⟨#[]⟩, .slice none 0 0, .int .i64 0, .int .i64 0, .string ⟨#[]⟩, .slice none 0 0, .slice none 0 0] 28
      rw [← B4.eq]
      have hb14 : Below w1.heap.size w1 w4 := HB3.out.trans (B4.below.mono HB3.out.size)
      have HKO := Lib.hid B4.blk
      have HB14 := Lib.hid hb14
      have HPE := Lib.hid ((hb14.block _ (Array.getElem?_eq_some_iff.1 HPB.out).1).trans HPB.out)
      have HB34 := Lib.hid B4.below
      clear hb14 B4 x0 x1 x2 x3 x4 x5 x6 x7 xl
      go_wp2_with (first
        | (go_at_call 19; (with_reducible refine (fixed11_any _).mono ?_); rintro e2 w5 ⟨rfl, hb5⟩; have HB15 : Hid (Below w1.heap.size w1 w5) := HB14.out.trans (hb5.mono HB14.out.size); obtain ⟨x0, x1, x2, x3, x4, x5, x6, x7, xl⟩ := Row.of ((hb5.block _ (Array.getElem?_eq_some_iff.1 HPE.out).1).trans HPE.out); obtain ⟨o0, o1, o2, o3, o4, o5, o6, o7, ol⟩ := Row.of ((hb5.block _ (Array.getElem?_eq_some_iff.1 HKO.out).1).trans HKO.out); have HB35 : Hid (Below w3.heap.size w3 w5) := HB34.out.trans (hb5.mono HB34.out.size); clear hb5)
        | (go_at_call 20; (with_reducible refine (btold_form e HF.out (HO.out.bel HB15.out) HOK.out).mono ?_); rintro e2 w6 ⟨rfl, hb6⟩; have HB6 : Hid (Below w1.heap.size w1 w6) := HB15.out.trans (hb6.mono HB15.out.size); clear hb6)
        | fail)
      go_ret
      exact ⟨rfl, HB1.out.below.trans (HB6.out.mono HB1.out.below.size)⟩
  · obtain ⟨yna, ync, yda, ydn, ydc, yka, ykc, v1, v2, v3, hop⟩ := op_of hex.at
    dsimp only at hye v1 v2 v3 hop
    subst v1 v2 v3
    unfold XM.val exV
    dsimp only
    have HOK := Lib.hid hok
    have HK2 := Lib.hid hk2
    have HYE := Lib.hid hye
    have HOP := Lib.hid hop
    have HB3 := Lib.hid hb3
    have HFM := Lib.hid ((Ex.ok_iff e).1 (may_ok hok).1).1
    clear hok hk2 hye hop hex hb3
    go_upto_region 2 with fail
    · skip
      obtain ⟨w4, B4⟩ := boxed w3 #[.int .i64 ye.kind, .string ye.name, .slice yna ye.names.length ync, .int .i64 ye.const.kind, .int .i64 ye.const.int, .string ye.const.text, .slice yda ydn ydc, .slice yka ye.kids.length ykc] 28
      rw [← B4.eq]
      have hb14 : Below w1.heap.size w1 w4 := HB3.out.trans (B4.below.mono HB3.out.size)
      have HKO := Lib.hid B4.blk
      have HB14 := Lib.hid hb14
      have HPE := Lib.hid ((hb14.block _ (Array.getElem?_eq_some_iff.1 HPB.out).1).trans HPB.out)
      have HB34 := Lib.hid B4.below
      clear hb14 B4 x0 x1 x2 x3 x4 x5 x6 x7 xl
      go_wp2_with (first
        | (go_at_call 19; (with_reducible refine (fixed11_any _).mono ?_); rintro e2 w5 ⟨rfl, hb5⟩; have HB15 : Hid (Below w1.heap.size w1 w5) := HB14.out.trans (hb5.mono HB14.out.size); obtain ⟨x0, x1, x2, x3, x4, x5, x6, x7, xl⟩ := Row.of ((hb5.block _ (Array.getElem?_eq_some_iff.1 HPE.out).1).trans HPE.out); obtain ⟨o0, o1, o2, o3, o4, o5, o6, o7, ol⟩ := Row.of ((hb5.block _ (Array.getElem?_eq_some_iff.1 HKO.out).1).trans HKO.out); have HB35 : Hid (Below w3.heap.size w3 w5) := HB34.out.trans (hb5.mono HB34.out.size); clear hb5)
        | (go_at_call 20; (with_reducible refine (btold_fine e ye HF.out (HO.out.bel HB15.out) (may_ok HOK.out).1 HOK.out (by rw [HYE.out]; exact (box_sizes (may_ok HOK.out).1).2.2) (HOP.out.bel HB35.out) (by rw [HYE.out]; exact HK2.out) (by rw [HYE.out]; exact Ex.norec_boxE Ex.noB e (may_ok HOK.out).2) (by rw [HYE.out]; exact Ex.noset_boxE Ex.noB e) (by rw [HYE.out]; exact Ex.freeNames_eq fun s => Bool.eq_iff_iff.2 (Ex.free_boxE s e Ex.noB HFM.out))).mono ?_); rintro e2 w6 ⟨rfl, hb6⟩; have HB6 : Hid (Below w1.heap.size w1 w6) := HB15.out.trans (hb6.mono HB15.out.size); clear hb6)
        | fail)
      go_ret
      exact ⟨rfl, HB1.out.below.trans (HB6.out.mono HB1.out.below.size)⟩
  · have HOK := Lib.hid hok
    have HK2 := Lib.hid hk2
    have HB3 := Lib.hid hb3
    have HSM : Hid ((decide (e.size ≤ 400) && decide (e.deep ≤ 25)) = false) := by
      unfold Hid
      rw [Bool.eq_false_iff]
      intro h
      rw [Bool.and_eq_true, decide_eq_true_eq, decide_eq_true_eq] at h
      rw [Ex.small_box (may_ok hok).1 h.1 h.2 Ex.noB] at hk2
      cases hk2
    clear hok hk2 hb3
    go_upto_region 2 with fail
    · skip
      obtain ⟨w4, B4⟩ := boxed w3 #[.int .i64 0, .string ⟨#[]⟩, .slice none 0 0, .int .i64 0, .int .i64 0, .string ⟨#[]⟩, .slice none 0 0, .slice none 0 0] 28
      rw [← B4.eq]
      have hb14 : Below w1.heap.size w1 w4 := HB3.out.trans (B4.below.mono HB3.out.size)
      have HKO := Lib.hid B4.blk
      have HB14 := Lib.hid hb14
      have HPE := Lib.hid ((hb14.block _ (Array.getElem?_eq_some_iff.1 HPB.out).1).trans HPB.out)
      have HB34 := Lib.hid B4.below
      clear hb14 B4 x0 x1 x2 x3 x4 x5 x6 x7 xl
      go_wp2_with (first
        | (go_at_call 19; (with_reducible refine (fixed11_any _).mono ?_); rintro e2 w5 ⟨rfl, hb5⟩; have HB15 : Hid (Below w1.heap.size w1 w5) := HB14.out.trans (hb5.mono HB14.out.size); obtain ⟨x0, x1, x2, x3, x4, x5, x6, x7, xl⟩ := Row.of ((hb5.block _ (Array.getElem?_eq_some_iff.1 HPE.out).1).trans HPE.out); obtain ⟨o0, o1, o2, o3, o4, o5, o6, o7, ol⟩ := Row.of ((hb5.block _ (Array.getElem?_eq_some_iff.1 HKO.out).1).trans HKO.out); have HB35 : Hid (Below w3.heap.size w3 w5) := HB34.out.trans (hb5.mono HB34.out.size); clear hb5)
        | (go_at_call 20; (with_reducible refine (btold_many e HF.out (HO.out.bel HB15.out) (may_ok HOK.out).1 HOK.out HSM.out).mono ?_); rintro e2 w6 ⟨rfl, hb6⟩; have HB6 : Hid (Below w1.heap.size w1 w6) := HB15.out.trans (hb6.mono HB15.out.size); clear hb6)
        | fail)
      go_ret
      exact ⟨rfl, HB1.out.below.trans (HB6.out.mono HB1.out.below.size)⟩
end Ew
end Go.Proofs.YtkplkgdfphbldaaGreat
namespace Go.Proofs.YtkplkgdfphbldaaGreat
open Go.RowKit
set_option linter.unusedVariables false
set_option linter.unusedSimpArgs false
set_option maxRecDepth 100000
namespace Ew
open Rn
theorem bad_none {y : Ex} (h9 : Ex.has 9 y = false) (h2 : Ex.has 2 y = false) (hf : Ex.fixSet y = false) : Ex.badE (fun _ => 0) y = false := by
  rw [Bool.eq_false_iff]
  intro h
  rcases (Ex.bad_law y _).1 h with h | ⟨s, h, _⟩ | h
  · rw [h9] at h; cases h
  · have := Ex.sets_has s y h
    rw [h2] at this; cases this
  · rw [hf] at h; cases h
theorem fixset_none (e : Ex) : Ex.has 2 e = false → Ex.fixSet e = false := by
  induction e using Ex.byKids with
  | h e ih =>
  intro h2
  rw [Bool.eq_false_iff]
  intro h
  rcases (Ex.fixSet_iff e).1 h with ⟨_, s, _, ha⟩ | ⟨x, hx, hs⟩
  · have := Ex.assigned_has ha
    rw [h2] at this; cases this
  · have hk : Ex.has 2 x = false := by
      rw [Bool.eq_false_iff]
      intro hc
      rw [(Ex.has_iff 2 e).2 (.inr ⟨x, hx, hc⟩)] at h2
      cases h2
    rw [ih x hx hk] at hs; cases hs
theorem box_again {y : Ex} {w : World} {na : Option Addr} {nc : Nat} {da : Option Addr} {dn dc : Nat} {ka : Option Addr} {kc : Nat} (hok : Ex.ok y = true) (h9 : Ex.has 9 y = false) (hs : Ex.has 2 y = false) (ho : Op w y na nc da dn dc ka kc) :
    Calls Tryz.prog 18 #[.agg #[.int .i64 y.kind, .string y.name, .slice na y.names.length nc, .int .i64 y.const.kind, .int .i64 y.const.int, .string y.const.text, .slice da dn dc, .slice ka y.kids.length kc]] w fun en w' => ∃ x : XM, x.e = y ∧ en = .returned (.tuple #[x.val, .int .i64 0]) ∧ ExAt w' x.val x.e ∧ Below w.heap.size w w' := by
  have hid := Ex.boxE_id y ((Ex.ok_iff y).1 hok).1 hs
  have hmb : Ex.mayBox y = true := by unfold Ex.mayBox; rw [hok, bad_none h9 hs (fixset_none y hs)]; rfl
  refine (pBox_any y (by obtain ⟨a, b, c⟩ := (Ex.ok_iff y).1 hok; exact fit_of_form y a (by omega)) ho).mono fun en w' h => ?_
  rcases h with ⟨h1, _⟩ | ⟨_, ⟨_, x, h1, h2, h3, h4⟩ | ⟨h1, _⟩⟩
  · rw [hmb] at h1
    cases h1
  · exact ⟨x, h1.trans hid, h2, h3.at, h4⟩
  · rw [hid, hok] at h1
    cases h1
set_option maxHeartbeats 16000000 in
theorem boxedAgain_any (e : Ex) {w : World} {na : Option Addr} {nc : Nat} {da : Option Addr} {dn dc : Nat} {ka : Option Addr} {kc : Nat} (hf : Ex.Fit e) (ho : Op w e na nc da dn dc ka kc) :
    Calls Tryz.prog 7 #[.agg #[.int .i64 e.kind, .string e.name, .slice na e.names.length nc, .int .i64 e.const.kind, .int .i64 e.const.int, .string e.const.text, .slice da dn dc, .slice ka e.kids.length kc]] w (Says (.bool true) w) := by
  obtain ⟨w1, B1⟩ := boxed w #[.int .i64 e.kind, .string e.name, .slice na e.names.length nc, .int .i64 e.const.kind, .int .i64 e.const.int, .string e.const.text, .slice da dn dc, .slice ka e.kids.length kc] 28
  have HFX := Lib.hid (pBox_any e hf (ho.bel B1.below))
  have HF := Lib.hid hf
  have HO := Lib.hid (ho.bel B1.below)
  have HB1 := Lib.hid B1
  have HPB := Lib.hid B1.blk
  obtain ⟨x0, x1, x2, x3, x4, x5, x6, x7, xl⟩ := Row.of B1.blk
  clear B1 hf ho
  go_enter Tryz.func7, Tryz.ntmps7
  go_upto_region 1 with fail
  rw [← HB1.out.eq]
  go_wp2_with fail
  with_reducible refine HFX.out.mono ?_
  rintro e2 w3 (⟨hok, rfl, hb3⟩ | ⟨hok, ⟨hk2, ⟨ye, yn, yd, yk⟩, hye, rfl, hex, hb3⟩ | ⟨hk2, rfl, hb3⟩⟩)
  · have HB3 := Lib.hid hb3
    clear hok hb3
    obtain ⟨w4, B4⟩ := boxed w3 #[.int .i64 0, .string ⟨#[]⟩, .slice none 0 0, .int .i64 0, .int .i64 0, .string ⟨#[]⟩, .slice none 0 0, .slice none 0 0] 28
    go_upto_region 2 with fail
    rw [← B4.eq]
    have HB14 : Hid (Below w1.heap.size w1 w4) := HB3.out.trans (B4.below.mono HB3.out.size)
    clear B4 x0 x1 x2 x3 x4 x5 x6 x7 xl
    go_upto_region 3 with (first
      | (go_at_call 19; (with_reducible refine (fixed11_any _).mono ?_); rintro e2 w5 ⟨rfl, hb5⟩; have HB15 : Hid (Below w1.heap.size w1 w5) := HB14.out.trans (hb5.mono HB14.out.size); clear hb5)
      | fail)
    go_wp2_with (first
      | (go_at_call 19; (with_reducible refine (fixed11_any _).mono ?_); rintro e2 w6 ⟨rfl, hb6⟩; have HB6 : Hid (Below w1.heap.size w1 w6) := HB15.out.trans (hb6.mono HB15.out.size); clear hb6)
      | fail)
    go_ret
    exact ⟨rfl, HB1.out.below.trans (HB6.out.mono HB1.out.below.size)⟩
  · obtain ⟨yna, ync, yda, ydn, ydc, yka, ykc, v1, v2, v3, hop⟩ := op_of hex.at
    dsimp only at hye v1 v2 v3 hop
    subst v1 v2 v3
    unfold XM.val exV
    dsimp only
    have hmb := hok
    have hok := (may_ok hmb).1
    have hfm := ((Ex.ok_iff e).1 hok).1
    have HYK : Hid (Ex.ok ye = true) := by unfold Hid; rw [hye]; exact hk2
    have HY9 : Hid (Ex.has 9 ye = false) := by unfold Hid; rw [hye]; exact Ex.norec_boxE Ex.noB e (may_ok hmb).2
    have HYF : Hid (Ex.has 2 ye = false) := by unfold Hid; rw [hye]; exact Ex.noset_boxE Ex.noB e
    have HSE : Hid (Ex.has 2 e = false → Ex.same ye e = true) := fun h1 => by rw [hye, Ex.boxE_id e hfm h1]; exact Ex.same_refl e
    have HFE := Lib.hid (few_of_ok hok).1
    have HFY := Lib.hid (few_of_ok HYK.out).1
    have HOP := Lib.hid hop
    have HB3 := Lib.hid hb3
    have HES := Lib.hid ((Ex.ok_iff e).1 hok).2.2
    clear hok hmb hk2 hye hop hex hb3 hfm
    obtain ⟨w4, B4⟩ := boxed w3 #[.int .i64 ye.kind, .string ye.name, .slice yna ye.names.length ync, .int .i64 ye.const.kind, .int .i64 ye.const.int, .string ye.const.text, .slice yda ydn ydc, .slice yka ye.kids.length ykc] 28
    go_upto_region 2 with fail
    rw [← B4.eq]
    have hb14 : Below w1.heap.size w1 w4 := HB3.out.trans (B4.below.mono HB3.out.size)
    have HB14 := Lib.hid hb14
    have HKY := Lib.hid B4.blk
    have HOP4 := Lib.hid (HOP.out.bel B4.below)
    have HPE := Lib.hid ((hb14.block _ (Array.getElem?_eq_some_iff.1 HPB.out).1).trans HPB.out)
    clear B4 hb14 x0 x1 x2 x3 x4 x5 x6 x7 xl
    go_upto_region 4 with (first
      | (go_at_call 19; (with_reducible refine (fixed11_any _).mono ?_); rintro e2 w5 ⟨rfl, hb5⟩; have HB45 := Lib.hid hb5; clear hb5)
      | fail)
    have HOE5 := Lib.hid ((HO.out.bel HB14.out).bel HB45.out)
    have HOP5 := Lib.hid (HOP4.out.bel HB45.out)
    have HPE5 := Lib.hid ((HB45.out.block _ (Array.getElem?_eq_some_iff.1 HPE.out).1).trans HPE.out)
    have HKY5 := Lib.hid ((HB45.out.block _ (Array.getElem?_eq_some_iff.1 HKY.out).1).trans HKY.out)
    go_cut [27] (fun s wx => s = .bool false ∧ Hid (Below w5.heap.size w5 wx))
    case first =>
      obtain ⟨x0, x1, x2, x3, x4, x5, x6, x7, xl⟩ := Row.of HPE5.out
      have HH := Lib.hid (rhas_any 2 e (by have := HES.out; omega) HOE5.out)
      have HSA : Hid (∀ W, Below w5.heap.size w5 W → Calls Tryz.prog 14 #[.agg #[.int .i64 ye.kind, .string ye.name, .slice yna ye.names.length ync, .int .i64 ye.const.kind, .int .i64 ye.const.int, .string ye.const.text, .slice yda ydn ydc, .slice yka ye.kids.length ykc], .agg #[.int .i64 e.kind, .string e.name, .slice na e.names.length nc, .int .i64 e.const.kind, .int .i64 e.const.int, .string e.const.text, .slice da dn dc, .slice ka e.kids.length kc]] W (Says (.bool (Ex.same ye e)) W)) := fun W hW => r6same_any ye e HFY.out HFE.out (HOP5.out.bel hW) (HOE5.out.bel hW)
      cases h9 : Ex.has 2 e with
      | true =>
        rw [h9] at HH
        clear h9
        go_wp2_with fail
        with_reducible refine HH.out.mono ?_
        rintro e2 w6 ⟨rfl, hb6⟩
        have HB6 := Lib.hid hb6
        clear hb6
        go_wp2_with fail
        go_meet
        exact ⟨rfl, HB6.out⟩
      | false =>
        rw [h9] at HH
        have hse := HSE.out h9
        rw [hse] at HSA
        clear h9 hse
        go_wp2_with fail
        with_reducible refine HH.out.mono ?_
        rintro e2 w6 ⟨rfl, hb6⟩
        have HB6 := Lib.hid hb6
        clear hb6 x0 x1 x2 x3 x4 x5 x6 x7 xl
        obtain ⟨x0, x1, x2, x3, x4, x5, x6, x7, xl⟩ := (Row.of HPE5.out).bel HB6.out
        obtain ⟨o0, o1, o2, o3, o4, o5, o6, o7, ol⟩ := (Row.of HKY5.out).bel HB6.out
        go_wp2_with fail
        with_reducible refine (HSA.out _ HB6.out).mono ?_
        rintro e2 w8 ⟨rfl, hb8⟩
        have HB8 := Lib.hid (HB6.out.trans (hb8.mono HB6.out.size))
        clear hb8
        go_wp2_with fail
        go_meet
        exact ⟨rfl, HB8.out⟩
    case rest =>
      obtain ⟨rfl, hbc⟩ := hcut
      obtain ⟨o0, o1, o2, o3, o4, o5, o6, o7, ol⟩ := (Row.of HKY5.out).bel hbc.out
      have HOPC := Lib.hid (HOP5.out.bel hbc.out)
      have HAG := Lib.hid (box_again HYK.out HY9.out HYF.out HOPC.out)
      go_upto_region 7 with (first
        | (go_at_call 18; (with_reducible refine HAG.out.mono ?_); rintro e2 w9 ⟨⟨ze, zn, zd, zk⟩, hze, rfl, hex, hb9⟩; obtain ⟨zna, znc, zda, zdn, zdc, zka, zkc, v1, v2, v3, hop⟩ := op_of hex; dsimp only at hze v1 v2 v3 hop; subst v1 v2 v3; unfold XM.val exV; dsimp only; have HZE := Lib.hid hze; have HZP := Lib.hid hop; have HB9 := Lib.hid hb9; clear hze hop hex hb9)
        | fail)
      obtain ⟨wt, BT⟩ := boxed w9 #[.int .i64 ze.kind, .string ze.name, .slice zna ze.names.length znc, .int .i64 ze.const.kind, .int .i64 ze.const.int, .string ze.const.text, .slice zda zdn zdc, .slice zka ze.kids.length zkc] 28
      rw [← BT.eq]
      have hbt : Below wc.heap.size wc wt := HB9.out.trans (BT.below.mono HB9.out.size)
      have HSZ := Lib.hid (r6same_any ze ye (by rw [HZE.out]; exact HFY.out) HFY.out (HZP.out.bel BT.below) (HOPC.out.bel hbt))
      have hzs : Ex.same ze ye = true := by rw [HZE.out]; exact Ex.same_refl ye
      rw [hzs] at HSZ
      have HBT := Lib.hid hbt
      obtain ⟨k0, k1, k2, k3, k4, k5, k6, k7, kl⟩ := Row.of BT.blk
      clear o0 o1 o2 o3 o4 o5 o6 o7 ol
      obtain ⟨o0, o1, o2, o3, o4, o5, o6, o7, ol⟩ := ((Row.of HKY5.out).bel hbc.out).bel hbt
      clear BT hbt hzs
      go_wp2_with (first
        | (go_at_call 14; (with_reducible refine HSZ.out.mono ?_); rintro e2 wu ⟨rfl, hbu⟩; have HBU := Lib.hid (HBT.out.trans (hbu.mono HBT.out.size)); clear hbu)
        | fail)
      go_ret
      exact ⟨rfl, HB1.out.below.trans ((HB14.out.trans ((HB45.out.trans ((hbc.out.trans (HBU.out.mono hbc.out.size)).mono HB45.out.size)).mono HB14.out.size)).mono HB1.out.below.size)⟩
  · have HB3 := Lib.hid hb3
    clear hok hk2 hb3
    obtain ⟨w4, B4⟩ := boxed w3 #[.int .i64 0, .string ⟨#[]⟩, .slice none 0 0, .int .i64 0, .int .i64 0, .string ⟨#[]⟩, .slice none 0 0, .slice none 0 0] 28
    go_upto_region 2 with fail
    rw [← B4.eq]
    have HB14 : Hid (Below w1.heap.size w1 w4) := HB3.out.trans (B4.below.mono HB3.out.size)
    clear B4 x0 x1 x2 x3 x4 x5 x6 x7 xl
    go_upto_region 3 with (first
      | (go_at_call 19; (with_reducible refine (fixed11_any _).mono ?_); rintro e2 w5 ⟨rfl, hb5⟩; have HB15 : Hid (Below w1.heap.size w1 w5) := HB14.out.trans (hb5.mono HB14.out.size); clear hb5)
      | fail)
    go_wp2_with (first
      | (go_at_call 19; (with_reducible refine (fixed11_any _).mono ?_); rintro e2 w6 ⟨rfl, hb6⟩; have HB6 : Hid (Below w1.heap.size w1 w6) := HB15.out.trans (hb6.mono HB15.out.size); clear hb6)
      | fail)
    go_ret
    exact ⟨rfl, HB1.out.below.trans (HB6.out.mono HB1.out.below.size)⟩
end Ew
end Go.Proofs.YtkplkgdfphbldaaGreat
namespace Go.Proofs.YtkplkgdfphbldaaGreat
open Go.RowKit
set_option linter.unusedVariables false
namespace Ew
open Rn
theorem boxedForms_open (e : Ex) (nv dl kv : Value) {W : World} (h : ExAt W (exV e.kind e.name nv e.const dl kv) e) (hf : Ex.Fit e) : Calls Tryz.prog 6 #[exV e.kind e.name nv e.const dl kv] W fun en W' => en = .returned (.bool true) ∧ Below W.heap.size W W' := by
  obtain ⟨na, nc, da, dn, dc, ka, kc, rfl, rfl, rfl, ho⟩ := Op.of h
  exact boxedForms_any e hf ho
theorem boxedAgain_open (e : Ex) (nv dl kv : Value) {W : World} (h : ExAt W (exV e.kind e.name nv e.const dl kv) e) (hf : Ex.Fit e) : Calls Tryz.prog 7 #[exV e.kind e.name nv e.const dl kv] W fun en W' => en = .returned (.bool true) ∧ Below W.heap.size W W' := by
  obtain ⟨na, nc, da, dn, dc, ka, kc, rfl, rfl, rfl, ho⟩ := Op.of h
  exact boxedAgain_any e hf ho
end Ew
end Go.Proofs.YtkplkgdfphbldaaGreat
