/- fix: Fix. -/
import Derived.Test.YtkplkgdfphbldaaGreatFJbh
import Derived.Test.YtkplkgdfphbldaaGreatFJbg
import Derived.Test.YtkplkgdfphbldaaGreatFJba
import Derived.Test.YtkplkgdfphbldaaGreatFJbk
import Derived.Test.YtkplkgdfphbldaaGreatFJal
import Derived.Test.YtkplkgdfphbldaaGreatFJbf
import Derived.Test.YtkplkgdfphbldaaGreatFJat
set_option linter.unusedVariables false
set_option linter.unusedSimpArgs false
set_option linter.unnecessarySimpa false
namespace Go.Proofs.YtkplkgdfphbldaaGreat
open Go.RowKit
set_option linter.unusedVariables false
set_option linter.unusedSimpArgs false
set_option maxRecDepth 100000
namespace Ew
open Rn
def FixPost (e : Ex) (w : World) (en : Ending) (w' : World) : Prop :=
  (Ex.ok e = false ∧ en = .returned (.tuple #[zeroV, .int .i64 100]) ∧ Below w.heap.size w w') ∨ (Ex.ok e = true ∧ ToldPost (Ex.fixE e) w en w')
theorem op_of {w : World} {x : XM} (h : ExAt w x.val x.e) : ∃ na nc da dn dc ka kc, x.nv = .slice na x.e.names.length nc ∧ x.dl = .slice da dn dc ∧ x.kv = .slice ka x.e.kids.length kc ∧ Op w x.e na nc da dn dc ka kc := by
  obtain ⟨e, nv, dl, kv⟩ := x
  exact Op.of h
theorem fix_sizes {e : Ex} (h : Ex.ok e = true) : Ex.all Ex.form (Ex.fixE e) = true ∧ (Ex.fixE e).size ≤ 100000 ∧ Ex.Fit (Ex.fixE e) := by
  obtain ⟨a, b, c⟩ := (Ex.ok_iff e).1 h
  have h1 := Ex.form_fixE e a
  have h2 := Ex.size_fixE e a
  exact ⟨h1, by omega, fit_of_form _ h1 (by omega)⟩
set_option maxHeartbeats 16000000 in
theorem pFix_any (e : Ex) {w : World} {na : Option Addr} {nc : Nat} {da : Option Addr} {dn dc : Nat} {ka : Option Addr} {kc : Nat} (hf : Ex.Fit e) (ho : Op w e na nc da dn dc ka kc) :
    Calls Tryz.prog 9 #[.agg #[.int .i64 e.kind, .string e.name, .slice na e.names.length nc, .int .i64 e.const.kind, .int .i64 e.const.int, .string e.const.text, .slice da dn dc, .slice ka e.kids.length kc]] w (FixPost e w) := by
  obtain ⟨w1, B1⟩ := boxed w #[.int .i64 e.kind, .string e.name, .slice na e.names.length nc, .int .i64 e.const.kind, .int .i64 e.const.int, .string e.const.text, .slice da dn dc, .slice ka e.kids.length kc] 28
  obtain ⟨w2, B2⟩ := boxed w1 #[.int .i64 0, .string ⟨#[]⟩, .slice none 0 0, .int .i64 0, .int .i64 0, .string ⟨#[]⟩, .slice none 0 0, .slice none 0 0] 28
  have hB02 : Below w.heap.size w w2 := B1.below.trans (B2.below.mono B1.below.size)
  have hsz2 : w2.heap.size = w.heap.size + 2 := by rw [B2.size, B1.size]
  have hZ : w2.heap[w.heap.size + 1]? = some (.cells #[.int .i64 0, .string ⟨#[]⟩, .slice none 0 0, .int .i64 0, .int .i64 0, .string ⟨#[]⟩, .slice none 0 0, .slice none 0 0] 28 (0, 0)) := by
    have := B2.blk
    rw [B1.size] at this
    exact this
  have hP := (B2.below.block _ (by rw [B1.size]; omega)).trans B1.blk
  have HBA := Lib.hid B1
  have HBB := Lib.hid B2
  have HZB := Lib.hid hZ
  have HPB := Lib.hid hP
  have HB02 := Lib.hid hB02
  have HS2 := Lib.hid hsz2
  have HO := Lib.hid ho
  have HCK := Lib.hid (pCheck_any e hf (ho.bel hB02))
  have HCZ := Lib.hid (chkC_zero hf)
  obtain ⟨f, hfv⟩ : ∃ f, (Ex.chk formC e 0 0).2 = f := ⟨_, rfl⟩
  rw [hfv] at HCK HCZ
  obtain ⟨x0, x1, x2, x3, x4, x5, x6, x7, hbl⟩ := Row.of hP
  clear B1 B2 hB02 hsz2 hZ hP ho hf hfv
  go_enter Tryz.func9, Tryz.ntmps9
  go_upto_region 1 with fail
  rw [← HBA.out.eq, ← HBB.out.eq]
  by_cases hz : f = 0
  · have hok := HCZ.out.1 hz
    subst hz
    have HOK := Lib.hid hok
    have HFW := Lib.hid (few_of_ok hok).1
    have HFO := Lib.hid ((Ex.ok_iff e).1 hok).1
    have HFS := Lib.hid (fix_sizes hok)
    clear hok
    go_wp2_with (first
      | (go_at_call 23; (with_reducible refine HCK.out.mono ?_); rintro e2 w3 ⟨rfl, hb3⟩; have hp3 := (hb3.block w.heap.size (by rw [HS2.out]; omega)).trans HPB.out; have HZ3 := Lib.hid ((hb3.block (w.heap.size + 1) (by rw [HS2.out]; omega)).trans HZB.out); have HB3 : Hid (Below w.heap.size w w3) := HB02.out.trans (hb3.mono HB02.out.size); have hs3 : w.heap.size + 2 ≤ w3.heap.size := (by have h1 := hb3.size; have h2 := HS2.out; omega); have HS3 := Lib.hid hs3; obtain ⟨y0, y1, y2, y3, y4, y5, y6, y7, ybl⟩ := Row.of hp3; have HFX := Lib.hid (fix_any w e HFW.out HFO.out HO.out HB3.out); unfold MadePost at HFX; clear hb3 hp3 hs3)
      | (go_at_call 25; (with_reducible refine HFX.out.mono ?_); rintro e2 w5 ⟨x, hxe, rfl, hon, hb5⟩; obtain ⟨na5, nc5, da5, dn5, dc5, ka5, kc5, v1, v2, v3, hop⟩ := op_of hon.at; obtain ⟨xe, xn, xd, xk⟩ := x; dsimp only at hxe v1 v2 v3 hop; subst v1 v2 v3; unfold XM.val exV; dsimp only; have HTD := Lib.hid (told_any xe (by rw [hxe]; exact HFS.out.2.2) hop); have HXE := Lib.hid hxe; have HB5 := Lib.hid hb5; have hz5 := (hb5.block (w.heap.size + 1) (by have := HS3.out; omega)).trans HZ3.out; have HZ5 := Lib.hid hz5; clear hxe hon hop hb5 hz5)
      | fail)
    with_reducible refine HTD.out.mono ?_
    rintro e2 w6 (⟨hok2, ⟨ye, yn, yd, yk⟩, hye, rfl, hex, hb6⟩ | ⟨hok2, rfl, hb6⟩)
    · obtain ⟨⟨yan, ynn, ycn, u1⟩, ⟨yad, ynd, ycd, u2⟩, ⟨yak, nyk, yck, u3⟩⟩ := sliced_at hex.at
      dsimp only at u1 u2 u3 hye hex
      subst u1 u2 u3
      unfold XM.val exV
      dsimp only
      rw [HXE.out] at hok2
      have HYE := Lib.hid (hye.trans HXE.out)
      have HEX := Lib.hid hex
      have HK2 := Lib.hid hok2
      have hz6 := (hb6.block (w.heap.size + 1) (Array.getElem?_eq_some_iff.1 HZ5.out).1).trans HZ5.out
      have HZ6 := Lib.hid hz6
      have HB6 := Lib.hid ((HB3.out.trans (HB5.out.mono HB3.out.size)).trans (hb6.mono (Nat.le_trans HB3.out.size HB5.out.size)))
      obtain ⟨⟨_, s0⟩, ⟨_, s1⟩, ⟨_, s2⟩, ⟨_, s3⟩, ⟨_, s4⟩, ⟨_, s5⟩, ⟨_, s6⟩, ⟨_, s7⟩, q0, q1, q2, q3, q4, q5, q6, q7, sbl⟩ := blk8 hz6
      clear hb6 hz6 hye hex hok2
      go_wp2_with fail
      refine bodyPost_ret (res2 rfl _ _ (w.heap.size + 1) 28 #[.int .i64 ye.kind, .string ye.name, .slice yan ynn ycn, .int .i64 ye.const.kind, .int .i64 ye.const.int, .string ye.const.text, .slice yad ynd ycd, .slice yak nyk yck] (0, 0) rfl (eight_set _ _ _ _ _ _ _ _ _ _ _ (.int .i64 ye.kind) (.string ye.name) (.slice yan ynn ycn) (.int .i64 ye.const.kind) (.int .i64 ye.const.int) (.string ye.const.text) (.slice yad ynd ycd) (.slice yak nyk yck) HZ6.out) exprD exprSize) rfl ?_
      show FixPost e w _ (put8 w6 (w.heap.size + 1) (.int .i64 ye.kind) (.string ye.name) (.slice yan ynn ycn) (.int .i64 ye.const.kind) (.int .i64 ye.const.int) (.string ye.const.text) (.slice yad ynd ycd) (.slice yak nyk yck))
      have h5 := HB3.out.size
      have h6 := HB5.out.size
      have h7 := HS3.out
      refine .inr ⟨HOK.out, .inl ⟨HK2.out, ⟨ye, .slice yan ynn ycn, .slice yad ynd ycd, .slice yak nyk yck⟩, HYE.out, rfl, ?_, below_put8 HB6.out (Nat.le_succ _) _ _ _ _ _ _ _ _⟩⟩
      exact (on_put8 HEX.out (by show ¬ (w5.heap.size ≤ w.heap.size + 1); omega) _ _ _ _ _ _ _ _).mono fun b hb _ => by show w.heap.size ≤ b; have : w5.heap.size ≤ b := hb; omega
    · rw [HXE.out] at hok2
      have HK2 := Lib.hid hok2
      have hz6 := (hb6.block (w.heap.size + 1) (Array.getElem?_eq_some_iff.1 HZ5.out).1).trans HZ5.out
      have HZ6 := Lib.hid hz6
      have HB6 := Lib.hid ((HB3.out.trans (HB5.out.mono HB3.out.size)).trans (hb6.mono (Nat.le_trans HB3.out.size HB5.out.size)))
      obtain ⟨⟨_, s0⟩, ⟨_, s1⟩, ⟨_, s2⟩, ⟨_, s3⟩, ⟨_, s4⟩, ⟨_, s5⟩, ⟨_, s6⟩, ⟨_, s7⟩, q0, q1, q2, q3, q4, q5, q6, q7, sbl⟩ := blk8 hz6
      clear hb6 hz6 hok2
      go_wp2_with fail
      refine bodyPost_ret (res2 rfl _ _ (w.heap.size + 1) 28 #[.int .i64 0, .string ⟨#[]⟩, .slice none 0 0, .int .i64 0, .int .i64 0, .string ⟨#[]⟩, .slice none 0 0, .slice none 0 0] (0, 0) rfl (eight_set _ _ _ _ _ _ _ _ _ _ _ (.int .i64 0) (.string ⟨#[]⟩) (.slice none 0 0) (.int .i64 0) (.int .i64 0) (.string ⟨#[]⟩) (.slice none 0 0) (.slice none 0 0) HZ6.out) exprD exprSize) rfl ?_
      show FixPost e w _ (put8 w6 (w.heap.size + 1) (.int .i64 0) (.string ⟨#[]⟩) (.slice none 0 0) (.int .i64 0) (.int .i64 0) (.string ⟨#[]⟩) (.slice none 0 0) (.slice none 0 0))
      exact .inr ⟨HOK.out, .inr ⟨HK2.out, rfl, below_put8 HB6.out (Nat.le_succ _) _ _ _ _ _ _ _ _⟩⟩
  · have hok : Ex.ok e = false := by
      rw [Bool.eq_false_iff]
      exact fun h => hz (HCZ.out.2 h)
    have HOK := Lib.hid hok
    have kz : (f != 0) = true := by rw [bne_iff_ne]; exact hz
    clear hok hz
    go_wp2_with (first
      | (go_at_call 23; (with_reducible refine HCK.out.mono ?_); rintro e2 w3 ⟨rfl, hb3⟩; have hz3 := (hb3.block (w.heap.size + 1) (by rw [HS2.out]; omega)).trans HZB.out; have HZ3 := Lib.hid hz3; have HB3 : Hid (Below w.heap.size w w3) := HB02.out.trans (hb3.mono HB02.out.size); obtain ⟨⟨_, s0⟩, ⟨_, s1⟩, ⟨_, s2⟩, ⟨_, s3⟩, ⟨_, s4⟩, ⟨_, s5⟩, ⟨_, s6⟩, ⟨_, s7⟩, q0, q1, q2, q3, q4, q5, q6, q7, sbl⟩ := blk8 hz3; clear hb3 hz3)
      | fail)
    refine bodyPost_ret (res2 rfl _ _ (w.heap.size + 1) 28 #[.int .i64 0, .string ⟨#[]⟩, .slice none 0 0, .int .i64 0, .int .i64 0, .string ⟨#[]⟩, .slice none 0 0, .slice none 0 0] (0, 0) rfl (eight_set _ _ _ _ _ _ _ _ _ _ _ (.int .i64 0) (.string ⟨#[]⟩) (.slice none 0 0) (.int .i64 0) (.int .i64 0) (.string ⟨#[]⟩) (.slice none 0 0) (.slice none 0 0) HZ3.out) exprD exprSize) rfl ?_
    show FixPost e w _ (put8 w3 (w.heap.size + 1) (.int .i64 0) (.string ⟨#[]⟩) (.slice none 0 0) (.int .i64 0) (.int .i64 0) (.string ⟨#[]⟩) (.slice none 0 0) (.slice none 0 0))
    exact .inl ⟨HOK.out, rfl, below_put8 HB3.out (Nat.le_succ _) _ _ _ _ _ _ _ _⟩
end Ew
end Go.Proofs.YtkplkgdfphbldaaGreat
namespace Go.Proofs.YtkplkgdfphbldaaGreat
open Go.RowKit
set_option linter.unusedVariables false
set_option linter.unusedSimpArgs false
set_option maxRecDepth 100000
mutual
theorem Dt.same_self : ∀ d : Dt, Dt.same d d = true
  | .mk k i t l => by
    rw [Dt.same, Dt.sames_self l]
    simp
theorem Dt.sames_self : ∀ l : List Dt, Dt.sames l l = true
  | [] => by rw [Dt.sames]
  | x :: l => by
    rw [Dt.sames, Dt.same_self x, Dt.sames_self l]
    rfl
end
namespace Ew
open Rn
set_option maxHeartbeats 4000000 in
theorem ralike_yes (e : Int) (o : ByteArray) (d : Dt) (l1 l2 : Value) (ok : Bool) (st1 st2 : Int) (w : World) (hs : Dt.Short d)
    (h1 : DtAt w (fun _ => True) (.agg #[.int .i64 d.kind, .int .i64 d.int, .string d.text, l1]) d) (h2 : DtAt w (fun _ => True) (.agg #[.int .i64 d.kind, .int .i64 d.int, .string d.text, l2]) d) :
    Calls Tryz.prog 35 #[.agg #[.int .i64 e, .string o, .int .i64 d.kind, .int .i64 d.int, .string d.text, l1, .bool ok, .int .i64 st1], .agg #[.int .i64 e, .string o, .int .i64 d.kind, .int .i64 d.int, .string d.text, l2, .bool ok, .int .i64 st2]] w (Says (.bool true) w) := by
  have H1 := Lib.hid h1
  have H2 := Lib.hid h2
  have HS := Lib.hid hs
  clear h1 h2 hs
  obtain ⟨w1, B1⟩ := boxed w #[.int .i64 e, .string o, .int .i64 d.kind, .int .i64 d.int, .string d.text, l1, .bool ok, .int .i64 st1] 51
  obtain ⟨w2, B2⟩ := boxed w1 #[.int .i64 e, .string o, .int .i64 d.kind, .int .i64 d.int, .string d.text, l2, .bool ok, .int .i64 st2] 51
  have hB2 : Below w.heap.size w w2 := B1.below.trans (B2.below.mono B1.below.size)
  have HC0 := same_any d d _ _ w2 HS.out HS.out (H1.out.bel hB2 (Nat.le_refl _)) (H2.out.bel hB2 (Nat.le_refl _))
  rw [Dt.same_self] at HC0
  have HC := Lib.hid HC0
  have HB := Lib.hid hB2
  have HB1 := Lib.hid B1
  have HB2 := Lib.hid B2
  have hP := (B2.below.block _ (by rw [B1.size]; omega)).trans B1.blk
  have hZ : w2.heap[w.heap.size + 1]? = some (.cells #[.int .i64 e, .string o, .int .i64 d.kind, .int .i64 d.int, .string d.text, l2, .bool ok, .int .i64 st2] 51 (0, 0)) := by
    have := B2.blk
    rw [B1.size] at this
    exact this
  obtain ⟨x0, x1, x2, x3, x4, x5, x6, x7, xl⟩ := Row.of hP
  obtain ⟨o0, o1, o2, o3, o4, o5, o6, o7, ol⟩ := Row.of hZ
  clear HC0 hB2 B1 B2 hP hZ
  go_enter Tryz.func35, Tryz.ntmps35
  go_upto_region 1 with fail
  rw [← HB1.out.eq, ← HB2.out.eq]
  go_wp2_with fail
  with_reducible refine HC.out.mono ?_
  rintro e w3 ⟨rfl, hb3⟩
  have HB3 := Lib.hid (HB.out.trans (hb3.mono HB.out.size))
  clear hb3
  go_wp2_with fail
  go_ret
  exact ⟨rfl, HB3.out⟩
set_option maxHeartbeats 4000000 in
theorem rclosed_none (a : Ex) {w : World} {ana : Option Addr} {anc : Nat} {ada : Option Addr} {adn adc : Nat} {aka : Option Addr} {akc : Nat} (hf : Few a) (ht : Ex.all thin a = true) (hz : 6 * a.size ≤ 1000000) (ho : Op w a ana anc ada adn adc aka akc) (hn : Ex.freeNames a = []) :
    Calls Tryz.prog 33 #[.agg #[.int .i64 a.kind, .string a.name, .slice ana a.names.length anc, .int .i64 a.const.kind, .int .i64 a.const.int, .string a.const.text, .slice ada adn adc, .slice aka a.kids.length akc], .slice none 0 0] w (Says (.agg #[.int .i64 a.kind, .string a.name, .slice ana a.names.length anc, .int .i64 a.const.kind, .int .i64 a.const.int, .string a.const.text, .slice ada adn adc, .slice aka a.kids.length akc]) w) := by
  obtain ⟨w1, B1⟩ := boxed w #[.int .i64 a.kind, .string a.name, .slice ana a.names.length anc, .int .i64 a.const.kind, .int .i64 a.const.int, .string a.const.text, .slice ada adn adc, .slice aka a.kids.length akc] 28
  obtain ⟨w2, B2⟩ := boxed w1 #[.int .i64 0, .string ⟨#[]⟩, .slice none 0 0, .int .i64 0, .int .i64 0, .string ⟨#[]⟩, .slice none 0 0, .slice none 0 0] 28
  have hB02 : Below w.heap.size w w2 := B1.below.trans (B2.below.mono B1.below.size)
  have hsz2 : w2.heap.size = w.heap.size + 2 := by rw [B2.size, B1.size]
  have hZ : w2.heap[w.heap.size + 1]? = some (.cells #[.int .i64 0, .string ⟨#[]⟩, .slice none 0 0, .int .i64 0, .int .i64 0, .string ⟨#[]⟩, .slice none 0 0, .slice none 0 0] 28 (0, 0)) := by
    have := B2.blk
    rw [B1.size] at this
    exact this
  have hP := (B2.below.block _ (by rw [B1.size]; omega)).trans B1.blk
  have hF := rFree_any a hf ht hz (ho.bel hB02)
  rw [hn] at hF
  unfold TextsPost at hF
  have HFR := Lib.hid hF
  have HBA := Lib.hid B1
  have HBB := Lib.hid B2
  have HZB := Lib.hid hZ
  have HPB := Lib.hid hP
  have HB02 := Lib.hid hB02
  have HS2 := Lib.hid hsz2
  obtain ⟨x0, x1, x2, x3, x4, x5, x6, x7, hbl⟩ := Row.of hP
  clear B1 B2 hB02 hsz2 hZ hP hF hf ht hz ho hn
  go_enter Tryz.func33, Tryz.ntmps33
  go_upto_region 1 with fail
  rw [← HBA.out.eq, ← HBB.out.eq]
  go_wp2_with (first
    | (go_at_call 30; (with_reducible refine HFR.out.mono ?_); rintro e2 w3 ⟨fa, fc, rfl, _, _, hb3⟩; rw [List.length_nil]; have HZ3 := Lib.hid ((hb3.block (w.heap.size + 1) (by rw [HS2.out]; omega)).trans HZB.out); have HB3 : Hid (Below w.heap.size w w3) := HB02.out.trans (hb3.mono HB02.out.size); obtain ⟨x0, x1, x2, x3, x4, x5, x6, x7, hbl⟩ := Row.of ((hb3.block w.heap.size (by rw [HS2.out]; omega)).trans HPB.out); obtain ⟨⟨_, s0⟩, ⟨_, s1⟩, ⟨_, s2⟩, ⟨_, s3⟩, ⟨_, s4⟩, ⟨_, s5⟩, ⟨_, s6⟩, ⟨_, s7⟩, q0, q1, q2, q3, q4, q5, q6, q7, sbl⟩ := blk8 HZ3.out; clear hb3)
    | fail)
  refine bodyPost_ret (res1 rfl _ _ (w.heap.size + 1) 28 #[.int .i64 a.kind, .string a.name, .slice ana a.names.length anc, .int .i64 a.const.kind, .int .i64 a.const.int, .string a.const.text, .slice ada adn adc, .slice aka a.kids.length akc] (0, 0) rfl (eight_set _ _ _ _ _ _ _ _ _ _ _ (.int .i64 a.kind) (.string a.name) (.slice ana a.names.length anc) (.int .i64 a.const.kind) (.int .i64 a.const.int) (.string a.const.text) (.slice ada adn adc) (.slice aka a.kids.length akc) HZ3.out) exprD exprSize) rfl ?_
  exact ⟨rfl, below_put8 HB3.out (Nat.le_succ _) _ _ _ _ _ _ _ _⟩
end Ew
end Go.Proofs.YtkplkgdfphbldaaGreat
namespace Go.Proofs.YtkplkgdfphbldaaGreat
open Go.RowKit
set_option linter.unusedVariables false
set_option linter.unusedSimpArgs false
set_option maxRecDepth 100000
namespace Ew
open Rn
theorem run_of (a : Ex) {w : World} {ana : Option Addr} {anc : Nat} {ada : Option Addr} {adn adc : Nat} {aka : Option Addr} {akc : Nat} (hf : Ex.Fit a) (hok : Ex.ok a = true) (hn : Ex.freeNames a = []) (ho : Op w a ana anc ada adn adc aka akc) (n most : Nat) (o : Out) (hm : most ≤ 1000000) (hr : runR n a [] most = some o) :
    Calls Tryz.prog 34 #[.agg #[.int .i64 a.kind, .string a.name, .slice ana a.names.length anc, .int .i64 a.const.kind, .int .i64 a.const.int, .string a.const.text, .slice ada adn adc, .slice aka a.kids.length akc], .string ⟨#[]⟩, .int .i64 most] w (RunPost o w) := by
  have hfe := few_of_ok hok
  have hse := ((Ex.ok_iff a).1 hok).2.2
  refine Run_any a _ _ _ [] most n o hm ho.ex hr (fun W hW => ?_) (fun W hW => ?_)
  · have h := rCheck_any a hf (ho.bel hW)
    rw [(Ex.chk_form a).2 hok] at h
    exact h
  · have h := rFree_any a hfe.1 hfe.2 (by omega) (ho.bel hW)
    rw [hn] at h
    exact h.mono fun en w' ⟨fa, fc, h1, _, _, h2⟩ => ⟨⟨fa, fc, h1⟩, h2⟩
set_option maxHeartbeats 16000000 in
theorem rmeans_yes (a b : Ex) (times more : Nat) {w : World} {ana : Option Addr} {anc : Nat} {ada : Option Addr} {adn adc : Nat} {aka : Option Addr} {akc : Nat} {bna : Option Addr} {bnc : Nat} {bda : Option Addr} {bdn bdc : Nat} {bka : Option Addr} {bkc : Nat}
    (hfa : Ex.Fit a) (hoka : Ex.ok a = true) (hna : Ex.freeNames a = []) (ha : Op w a ana anc ada adn adc aka akc) (hfb : Ex.Fit b) (hokb : Ex.ok b = true) (hnb : Ex.freeNames b = []) (hb : Op w b bna bnc bda bdn bdc bka bkc)
    (n1 n2 m1 m2 : Nat) (err : Int) (out : List UInt8) (d : Option Dt) (hd : Dt.Short (d.getD (.mk 0 0 ⟨#[]⟩ []))) (h1 : runR n1 a [] 1500 = some ⟨err, out, d, m1⟩) (h2 : runR n2 b [] (times * m1 + more) = some ⟨err, out, d, m2⟩) (he : err ≠ 93 ∧ err ≠ 94) (hm : times * m1 + more ≤ 1000000) :
    Calls Tryz.prog 17 #[.agg #[.int .i64 a.kind, .string a.name, .slice ana a.names.length anc, .int .i64 a.const.kind, .int .i64 a.const.int, .string a.const.text, .slice ada adn adc, .slice aka a.kids.length akc], .agg #[.int .i64 b.kind, .string b.name, .slice bna b.names.length bnc, .int .i64 b.const.kind, .int .i64 b.const.int, .string b.const.text, .slice bda bdn bdc, .slice bka b.kids.length bkc], .slice none 0 0, .string ⟨#[]⟩, .int .i64 times, .int .i64 more] w (Says (.bool true) w) := by
  obtain ⟨w1, B1⟩ := boxed w #[.int .i64 a.kind, .string a.name, .slice ana a.names.length anc, .int .i64 a.const.kind, .int .i64 a.const.int, .string a.const.text, .slice ada adn adc, .slice aka a.kids.length akc] 28
  obtain ⟨w2, B2⟩ := boxed w1 #[.int .i64 b.kind, .string b.name, .slice bna b.names.length bnc, .int .i64 b.const.kind, .int .i64 b.const.int, .string b.const.text, .slice bda bdn bdc, .slice bka b.kids.length bkc] 28
  have hB02 : Below w.heap.size w w2 := B1.below.trans (B2.below.mono B1.below.size)
  have hsz2 : w2.heap.size = w.heap.size + 2 := by rw [B2.size, B1.size]
  have hZ : w2.heap[w.heap.size + 1]? = some (.cells #[.int .i64 b.kind, .string b.name, .slice bna b.names.length bnc, .int .i64 b.const.kind, .int .i64 b.const.int, .string b.const.text, .slice bda bdn bdc, .slice bka b.kids.length bkc] 28 (0, 0)) := by
    have := B2.blk
    rw [B1.size] at this
    exact this
  have hP := (B2.below.block _ (by rw [B1.size]; omega)).trans B1.blk
  have hfe := few_of_ok hoka
  have hse := ((Ex.ok_iff a).1 hoka).2.2
  have HCL := Lib.hid (rclosed_none a hfe.1 hfe.2 (by omega) (ha.bel hB02) hna)
  have HFR : Hid (∀ W, Below w.heap.size w W → Calls Tryz.prog 30 #[.agg #[.int .i64 a.kind, .string a.name, .slice ana a.names.length anc, .int .i64 a.const.kind, .int .i64 a.const.int, .string a.const.text, .slice ada adn adc, .slice aka a.kids.length akc]] W fun en w' => (∃ fa fc, en = .returned (.slice fa 0 fc)) ∧ Below W.heap.size W w') := fun W hW => by
    have h := rFree_any a hfe.1 hfe.2 (by omega) (ha.bel hW)
    rw [hna] at h
    exact h.mono fun en w' ⟨fa, fc, h1, _, _, h2⟩ => ⟨⟨fa, fc, h1⟩, h2⟩
  have HR1 : Hid (∀ W, Below w.heap.size w W → Calls Tryz.prog 34 #[.agg #[.int .i64 a.kind, .string a.name, .slice ana a.names.length anc, .int .i64 a.const.kind, .int .i64 a.const.int, .string a.const.text, .slice ada adn adc, .slice aka a.kids.length akc], .string ⟨#[]⟩, .int .i64 1500] W (RunPost ⟨err, out, d, m1⟩ W)) := fun W hW => run_of a hfa hoka hna (ha.bel hW) n1 1500 _ (by omega) h1
  have HR2 : Hid (∀ W, Below w.heap.size w W → Calls Tryz.prog 34 #[.agg #[.int .i64 b.kind, .string b.name, .slice bna b.names.length bnc, .int .i64 b.const.kind, .int .i64 b.const.int, .string b.const.text, .slice bda bdn bdc, .slice bka b.kids.length bkc], .string ⟨#[]⟩, .int .i64 ((times : Int) * (m1 : Int) + (more : Int))] W (RunPost ⟨err, out, d, m2⟩ W)) := fun W hW => by
    have h := run_of b hfb hokb hnb (hb.bel hW) n2 _ _ hm h2
    rw [show ((times * m1 + more : Nat) : Int) = (times : Int) * (m1 : Int) + (more : Int) by push_cast; rfl] at h
    exact h
  have gm : IntKind.i64.wrap ((times : Int) * (m1 : Int)) = (times : Int) * (m1 : Int) := by
    have h : (times : Int) * (m1 : Int) = ((times * m1 : Nat) : Int) := by push_cast; rfl
    rw [h, IntKind.wrap_i64]
    omega
  have ga : IntKind.i64.wrap ((times : Int) * (m1 : Int) + (more : Int)) = (times : Int) * (m1 : Int) + (more : Int) := by
    have h : (times : Int) * (m1 : Int) + (more : Int) = ((times * m1 + more : Nat) : Int) := by push_cast; rfl
    rw [h, IntKind.wrap_i64]
    omega
  have k93 : (err == 93) = false := beq_eq_false_iff_ne.2 he.1
  have k94 : (err == 94) = false := beq_eq_false_iff_ne.2 he.2
  have HBA := Lib.hid B1
  have HBB := Lib.hid B2
  have HZB := Lib.hid hZ
  have HPB := Lib.hid hP
  have HB02 := Lib.hid hB02
  have HS2 := Lib.hid hsz2
  have HD := Lib.hid hd
  obtain ⟨x0, x1, x2, x3, x4, x5, x6, x7, xl⟩ := Row.of hP
  obtain ⟨o0, o1, o2, o3, o4, o5, o6, o7, ol⟩ := Row.of hZ
  unfold RunPost at HR1 HR2
  clear B1 B2 hB02 hsz2 hZ hP hfe hse hfa hoka hna ha hfb hokb hnb hb h1 h2 he hm hd
  go_enter Tryz.func17, Tryz.ntmps17
  go_upto_region 1 with fail
  rw [← HBA.out.eq, ← HBB.out.eq]
  go_upto_region 2 with (first
    | (go_at_call 33; (with_reducible refine HCL.out.mono ?_); rintro e2 w3 ⟨rfl, hb3⟩; have HB3 := Lib.hid hb3; clear hb3)
    | fail)
  obtain ⟨wx, BX⟩ := boxed w3 #[.int .i64 a.kind, .string a.name, .slice ana a.names.length anc, .int .i64 a.const.kind, .int .i64 a.const.int, .string a.const.text, .slice ada adn adc, .slice aka a.kids.length akc] 28
  rw [← BX.eq]
  have hb2x : Below w2.heap.size w2 wx := HB3.out.trans (BX.below.mono HB3.out.size)
  have HB2X := Lib.hid hb2x
  have HKX := Lib.hid BX.blk
  have HPX := Lib.hid ((hb2x.block _ (Array.getElem?_eq_some_iff.1 HPB.out).1).trans HPB.out)
  have HZX := Lib.hid ((hb2x.block _ (Array.getElem?_eq_some_iff.1 HZB.out).1).trans HZB.out)
  clear x0 x1 x2 x3 x4 x5 x6 x7 xl o0 o1 o2 o3 o4 o5 o6 o7 ol hb2x BX
  obtain ⟨o0, o1, o2, o3, o4, o5, o6, o7, ol⟩ := Row.of HZX.out
  go_upto_region 3 with fail
  obtain ⟨wy, BY⟩ := boxed wx #[.int .i64 b.kind, .string b.name, .slice bna b.names.length bnc, .int .i64 b.const.kind, .int .i64 b.const.int, .string b.const.text, .slice bda bdn bdc, .slice bka b.kids.length bkc] 28
  rw [← BY.eq]
  have HBXY := Lib.hid BY.below
  have HKY := Lib.hid BY.blk
  have HPY := Lib.hid ((BY.below.block _ (Array.getElem?_eq_some_iff.1 HPX.out).1).trans HPX.out)
  have HKXY := Lib.hid ((BY.below.block _ (Array.getElem?_eq_some_iff.1 HKX.out).1).trans HKX.out)
  have HB0Y := Lib.hid (HB02.out.trans ((HB2X.out.trans (BY.below.mono HB2X.out.size)).mono HB02.out.size))
  clear o0 o1 o2 o3 o4 o5 o6 o7 ol BY
  obtain ⟨x0, x1, x2, x3, x4, x5, x6, x7, xl⟩ := Row.of HPY.out
  go_upto_region 6 with (first
    | (go_at_call 30; (with_reducible refine (HFR.out _ HB0Y.out).mono ?_); rintro e2 w5 ⟨⟨fa, fc, rfl⟩, hb5⟩; have HKX5 := Lib.hid ((hb5.block _ (Array.getElem?_eq_some_iff.1 HKXY.out).1).trans HKXY.out); have HKY5 := Lib.hid ((hb5.block _ (Array.getElem?_eq_some_iff.1 HKY.out).1).trans HKY.out); have HB05 : Hid (Below w.heap.size w w5) := HB0Y.out.trans (hb5.mono HB0Y.out.size); obtain ⟨o0, o1, o2, o3, o4, o5, o6, o7, ol⟩ := Row.of HKX5.out; clear hb5)
    | fail)
  go_upto_region 7 with (first
    | (go_at_call 34; (with_reducible refine (HR1.out _ HB05.out).mono ?_); rintro e2 w6 ⟨dd, pa, pc, rfl, hdt, hb6, hdd⟩; have HDT := Lib.hid hdt; have HDD := Lib.hid hdd; have HKY6 := Lib.hid ((hb6.block _ (Array.getElem?_eq_some_iff.1 HKY5.out).1).trans HKY5.out); have HB06 : Hid (Below w.heap.size w w6) := HB05.out.trans (hb6.mono HB05.out.size); dsimp only; clear hdt hdd hb6)
    | fail)
  clear x0 x1 x2 x3 x4 x5 x6 x7 xl o0 o1 o2 o3 o4 o5 o6 o7 ol
  obtain ⟨wp, BP⟩ := boxed w6 #[.int .i64 err, .string ⟨out.toArray⟩, .int .i64 dd.kind, .int .i64 dd.int, .string dd.text, .slice pa dd.list.length pc, .bool d.isSome, .int .i64 m1] 51
  rw [← BP.eq]
  have HKP := Lib.hid BP.blk
  have HB6P := Lib.hid BP.below
  have HKYP := Lib.hid ((BP.below.block _ (Array.getElem?_eq_some_iff.1 HKY6.out).1).trans HKY6.out)
  have HB0P := Lib.hid (HB06.out.trans (BP.below.mono HB06.out.size))
  clear BP
  obtain ⟨x0, x1, x2, x3, x4, x5, x6, x7, xl⟩ := Row.of HKP.out
  obtain ⟨o0, o1, o2, o3, o4, o5, o6, o7, ol⟩ := Row.of HKYP.out
  go_upto_region 10 with (first
    | (go_at_call 34; (with_reducible refine (HR2.out _ HB0P.out).mono ?_); rintro e2 w8 ⟨dd2, qa, qc, rfl, hdt2, hb8, hdd2⟩; have h12 : dd2 = dd := hdd2.trans HDD.out.symm; subst h12; have HDT2 := Lib.hid hdt2; have HKP8 := Lib.hid ((hb8.block _ (Array.getElem?_eq_some_iff.1 HKP.out).1).trans HKP.out); have HBP8 := Lib.hid hb8; dsimp only; clear hdt2 hdd2 hb8)
    | fail)
  clear x0 x1 x2 x3 x4 x5 x6 x7 xl o0 o1 o2 o3 o4 o5 o6 o7 ol
  obtain ⟨wq, BQ⟩ := boxed w8 #[.int .i64 err, .string ⟨out.toArray⟩, .int .i64 dd2.kind, .int .i64 dd2.int, .string dd2.text, .slice qa dd2.list.length qc, .bool d.isSome, .int .i64 m2] 51
  rw [← BQ.eq]
  have hb6q : Below w6.heap.size w6 wq := HB6P.out.trans ((HBP8.out.trans (BQ.below.mono HBP8.out.size)).mono HB6P.out.size)
  have h1q := HDT.out.bel hb6q (Nat.le_refl _)
  have h2q := HDT2.out.bel BQ.below (Nat.le_refl _)
  have HAL := Lib.hid (ralike_yes err ⟨out.toArray⟩ dd2 _ _ d.isSome m1 m2 wq (by rw [HDD.out]; exact HD.out) (h1q.mono fun _ _ _ => trivial) (h2q.mono fun _ _ _ => trivial))
  have HBQ := Lib.hid (HB0P.out.trans ((HBP8.out.trans (BQ.below.mono HBP8.out.size)).mono HB0P.out.size))
  obtain ⟨x0, x1, x2, x3, x4, x5, x6, x7, xl⟩ := Row.of ((BQ.below.block _ (Array.getElem?_eq_some_iff.1 HKP8.out).1).trans HKP8.out)
  obtain ⟨o0, o1, o2, o3, o4, o5, o6, o7, ol⟩ := Row.of BQ.blk
  clear BQ hb6q h1q h2q
  go_wp2_with (first
    | (go_at_call 35; (with_reducible refine HAL.out.mono ?_); rintro e2 w9 ⟨rfl, hb9⟩; have HB9 : Hid (Below w.heap.size w w9) := HBQ.out.trans (hb9.mono HBQ.out.size); clear hb9)
    | fail)
  go_ret
  exact ⟨rfl, HB9.out⟩
end Ew
end Go.Proofs.YtkplkgdfphbldaaGreat
namespace Go.Proofs.YtkplkgdfphbldaaGreat
open Go.RowKit
set_option linter.unusedVariables false
set_option linter.unusedSimpArgs false
set_option maxRecDepth 100000
namespace Ew
open Rn
def sx : ByteArray := ⟨#[120]⟩
def one : Ex := .mk 0 ⟨#[]⟩ [] (.mk 1 1 ⟨#[]⟩ []) []
def refx : Ex := .mk 1 sx [] Dt.zero []
def rec1 : Ex := .mk 9 ⟨#[]⟩ [sx] Dt.zero [one, refx]
theorem run_rec1 : runR 60 rec1 [] 1500 = some ⟨0, [], some (.mk 1 1 ⟨#[]⟩ []), 3⟩ := by kernel_rfl
theorem run_fix1 : runR 60 (Ex.fixE rec1) [] (4 * 3 + 4) = some ⟨0, [], some (.mk 1 1 ⟨#[]⟩ []), 6⟩ := by kernel_rfl
theorem ok_rec1 : Ex.ok rec1 = true := by kernel_rfl
theorem free_rec1 : Ex.freeNames rec1 = [] := by kernel_rfl
theorem old_alloc9 {w : World} {b : Nat} {o p : Obj} (h : w.heap[b]? = some o) : (w.alloc p).heap[b]? = some o := (Below.heap_alloc w p b (Array.getElem?_eq_some_iff.1 h).1).trans h
theorem own_lit2 {w : World} {g : Nat} {x y : XM} (h : w.heap[g]? = some (.cells #[.int .i64 x.e.kind, .string x.e.name, x.nv, .int .i64 x.e.const.kind, .int .i64 x.e.const.int, .string x.e.const.text, x.dl, x.kv, .int .i64 y.e.kind, .string y.e.name, y.nv, .int .i64 y.e.const.kind, .int .i64 y.e.const.int, .string y.e.const.text, y.dl, y.kv] 28 (0, 0))) : w.ownsRow 0 28 8 (.slice (some ⟨g, 0, none⟩) 2 2) 2 (flatX [x, y]) :=
  ⟨by rw [flatX_length]; rfl, .inr ⟨g, 2, _, rfl, Nat.zero_le _, h, Nat.le_refl _, by decide, rfl, rfl⟩⟩
set_option maxHeartbeats 8000000 in
theorem rec_any (s : ByteArray) (a b : Ex) {w : World} {ana : Option Addr} {anc : Nat} {ada : Option Addr} {adn adc : Nat} {aka : Option Addr} {akc : Nat} {bna : Option Addr} {bnc : Nat} {bda : Option Addr} {bdn bdc : Nat} {bka : Option Addr} {bkc : Nat} (ha : Op w a ana anc ada adn adc aka akc) (hb : Op w b bna bnc bda bdn bdc bka bkc) :
    Calls Tryz.prog 26 #[.string s, .agg #[.int .i64 a.kind, .string a.name, .slice ana a.names.length anc, .int .i64 a.const.kind, .int .i64 a.const.int, .string a.const.text, .slice ada adn adc, .slice aka a.kids.length akc], .agg #[.int .i64 b.kind, .string b.name, .slice bna b.names.length bnc, .int .i64 b.const.kind, .int .i64 b.const.int, .string b.const.text, .slice bda bdn bdc, .slice bka b.kids.length bkc]] w fun en w' => ∃ x : XM, x.e = .mk 9 ⟨#[]⟩ [s] Dt.zero [a, b] ∧ en = .returned x.val ∧ ExAt w' x.val x.e ∧ Below w.heap.size w w' := by
  obtain ⟨w1, B1⟩ := boxed w #[.int .i64 a.kind, .string a.name, .slice ana a.names.length anc, .int .i64 a.const.kind, .int .i64 a.const.int, .string a.const.text, .slice ada adn adc, .slice aka a.kids.length akc] 28
  obtain ⟨w2, B2⟩ := boxed w1 #[.int .i64 b.kind, .string b.name, .slice bna b.names.length bnc, .int .i64 b.const.kind, .int .i64 b.const.int, .string b.const.text, .slice bda bdn bdc, .slice bka b.kids.length bkc] 28
  obtain ⟨w3, B3⟩ := boxed w2 #[.int .i64 0, .string ⟨#[]⟩, .slice none 0 0, .int .i64 0, .int .i64 0, .string ⟨#[]⟩, .slice none 0 0, .slice none 0 0] 28
  have z1 := B1.size
  have z2 := B2.size
  have z3 := B3.size
  have hb13 : Below w1.heap.size w1 w3 := B2.below.trans (B3.below.mono B2.below.size)
  have hA3 := (hb13.block w.heap.size (by omega)).trans B1.blk
  have hB3 : w3.heap[w.heap.size + 1]? = some (.cells #[.int .i64 b.kind, .string b.name, .slice bna b.names.length bnc, .int .i64 b.const.kind, .int .i64 b.const.int, .string b.const.text, .slice bda bdn bdc, .slice bka b.kids.length bkc] 28 (0, 0)) := by
    have := B2.blk
    rw [z1] at this
    exact (B3.below.block _ (by omega)).trans this
  have hZ3 : w3.heap[w.heap.size + 1 + 1]? = some (.cells #[.int .i64 0, .string ⟨#[]⟩, .slice none 0 0, .int .i64 0, .int .i64 0, .string ⟨#[]⟩, .slice none 0 0, .slice none 0 0] 28 (0, 0)) := by
    have := B3.blk
    rw [z2, z1] at this
    exact this
  have hw3 : Below w.heap.size w w3 := B1.below.trans (hb13.mono B1.below.size)
  have hsz : w3.heap.size = w.heap.size + 3 := by omega
  have HB1 := Lib.hid B1
  have HB2 := Lib.hid B2
  have HB3 := Lib.hid B3
  have HZ3 := Lib.hid hZ3
  have HW3 := Lib.hid hw3
  have HSZ := Lib.hid hsz
  have HA := Lib.hid ha
  have HBO := Lib.hid hb
  obtain ⟨x0, x1, x2, x3, x4, x5, x6, x7, xl⟩ := Row.of hA3
  obtain ⟨o0, o1, o2, o3, o4, o5, o6, o7, ol⟩ := Row.of hB3
  obtain ⟨⟨_, s0⟩, ⟨_, s1⟩, ⟨_, s2⟩, ⟨_, s3⟩, ⟨_, s4⟩, ⟨_, s5⟩, ⟨_, s6⟩, ⟨_, s7⟩, q0, q1, q2, q3, q4, q5, q6, q7, sbl⟩ := blk8 hZ3
  clear B1 B2 B3 z1 z2 z3 hb13 hA3 hB3 hZ3 hw3 ha hb hsz
  go_enter Tryz.func26, Tryz.ntmps26
  go_upto_region 1 with fail
  rw [← HB1.out.eq, ← HB2.out.eq, ← HB3.out.eq]
  go_wp2_with fail
  have hk8 := put8_kp (g := w.heap.size + 1 + 1) (w := w3) (.int .i64 9) (.string ⟨#[]⟩) (.slice (some ⟨w3.heap.size, 0, none⟩) 1 1) (.int .i64 0) (.int .i64 0) (.string ⟨#[]⟩) (.slice none 0 0) (.slice (some ⟨w3.heap.size + 1, 0, none⟩) 2 2)
  have hr8 : (put8 w3 (w.heap.size + 1 + 1) (.int .i64 9) (.string ⟨#[]⟩) (.slice (some ⟨w3.heap.size, 0, none⟩) 1 1) (.int .i64 0) (.int .i64 0) (.string ⟨#[]⟩) (.slice none 0 0) (.slice (some ⟨w3.heap.size + 1, 0, none⟩) 2 2)).heap[w.heap.size + 1 + 1]? = some (.cells #[.int .i64 9, .string ⟨#[]⟩, .slice (some ⟨w3.heap.size, 0, none⟩) 1 1, .int .i64 0, .int .i64 0, .string ⟨#[]⟩, .slice none 0 0, .slice (some ⟨w3.heap.size + 1, 0, none⟩) 2 2] 28 (0, 0)) := by
    unfold put8
    exact eight_set _ _ _ _ _ _ _ _ _ _ _ (.int .i64 9) (.string ⟨#[]⟩) (.slice (some ⟨w3.heap.size, 0, none⟩) 1 1) (.int .i64 0) (.int .i64 0) (.string ⟨#[]⟩) (.slice none 0 0) (.slice (some ⟨w3.heap.size + 1, 0, none⟩) 2 2) HZ3.out
  have hb8 := below_put8 HW3.out (g := w.heap.size + 1 + 1) (by omega) (.int .i64 9) (.string ⟨#[]⟩) (.slice (some ⟨w3.heap.size, 0, none⟩) 1 1) (.int .i64 0) (.int .i64 0) (.string ⟨#[]⟩) (.slice none 0 0) (.slice (some ⟨w3.heap.size + 1, 0, none⟩) 2 2)
  have hb5 : Below w.heap.size w (((put8 w3 (w.heap.size + 1 + 1) (.int .i64 9) (.string ⟨#[]⟩) (.slice (some ⟨w3.heap.size, 0, none⟩) 1 1) (.int .i64 0) (.int .i64 0) (.string ⟨#[]⟩) (.slice none 0 0) (.slice (some ⟨w3.heap.size + 1, 0, none⟩) 2 2)).alloc (.cells #[.string s] 9)).alloc (.cells #[.int .i64 a.kind, .string a.name, .slice ana a.names.length anc, .int .i64 a.const.kind, .int .i64 a.const.int, .string a.const.text, .slice ada adn adc, .slice aka a.kids.length akc, .int .i64 b.kind, .string b.name, .slice bna b.names.length bnc, .int .i64 b.const.kind, .int .i64 b.const.int, .string b.const.text, .slice bda bdn bdc, .slice bka b.kids.length bkc] 28)) := (hb8.alloc hb8.size _).alloc (by have := hb8.size; simp; omega) _
  have hl8 : w.heap.size + 1 + 1 < (put8 w3 (w.heap.size + 1 + 1) (.int .i64 9) (.string ⟨#[]⟩) (.slice (some ⟨w3.heap.size, 0, none⟩) 1 1) (.int .i64 0) (.int .i64 0) (.string ⟨#[]⟩) (.slice none 0 0) (.slice (some ⟨w3.heap.size + 1, 0, none⟩) 2 2)).heap.size := (Array.getElem?_eq_some_iff.1 hr8).1
  have hr5 : (((put8 w3 (w.heap.size + 1 + 1) (.int .i64 9) (.string ⟨#[]⟩) (.slice (some ⟨w3.heap.size, 0, none⟩) 1 1) (.int .i64 0) (.int .i64 0) (.string ⟨#[]⟩) (.slice none 0 0) (.slice (some ⟨w3.heap.size + 1, 0, none⟩) 2 2)).alloc (.cells #[.string s] 9)).alloc (.cells #[.int .i64 a.kind, .string a.name, .slice ana a.names.length anc, .int .i64 a.const.kind, .int .i64 a.const.int, .string a.const.text, .slice ada adn adc, .slice aka a.kids.length akc, .int .i64 b.kind, .string b.name, .slice bna b.names.length bnc, .int .i64 b.const.kind, .int .i64 b.const.int, .string b.const.text, .slice bda bdn bdc, .slice bka b.kids.length bkc] 28)).heap[w.heap.size + 1 + 1]? = some (.cells #[.int .i64 9, .string ⟨#[]⟩, .slice (some ⟨w3.heap.size, 0, none⟩) 1 1, .int .i64 0, .int .i64 0, .string ⟨#[]⟩, .slice none 0 0, .slice (some ⟨w3.heap.size + 1, 0, none⟩) 2 2] 28 (0, 0)) := old_alloc9 (old_alloc9 hr8)
  have hn5 : (((put8 w3 (w.heap.size + 1 + 1) (.int .i64 9) (.string ⟨#[]⟩) (.slice (some ⟨w3.heap.size, 0, none⟩) 1 1) (.int .i64 0) (.int .i64 0) (.string ⟨#[]⟩) (.slice none 0 0) (.slice (some ⟨w3.heap.size + 1, 0, none⟩) 2 2)).alloc (.cells #[.string s] 9)).alloc (.cells #[.int .i64 a.kind, .string a.name, .slice ana a.names.length anc, .int .i64 a.const.kind, .int .i64 a.const.int, .string a.const.text, .slice ada adn adc, .slice aka a.kids.length akc, .int .i64 b.kind, .string b.name, .slice bna b.names.length bnc, .int .i64 b.const.kind, .int .i64 b.const.int, .string b.const.text, .slice bda bdn bdc, .slice bka b.kids.length bkc] 28)).heap[w3.heap.size]? = some (.cells #[.string s] 9 (0, 0)) := by
    have h := heap_alloc_new (put8 w3 (w.heap.size + 1 + 1) (.int .i64 9) (.string ⟨#[]⟩) (.slice (some ⟨w3.heap.size, 0, none⟩) 1 1) (.int .i64 0) (.int .i64 0) (.string ⟨#[]⟩) (.slice none 0 0) (.slice (some ⟨w3.heap.size + 1, 0, none⟩) 2 2)) (.cells #[.string s] 9)
    rw [hk8.1] at h
    exact old_alloc9 h
  have hk5 : (((put8 w3 (w.heap.size + 1 + 1) (.int .i64 9) (.string ⟨#[]⟩) (.slice (some ⟨w3.heap.size, 0, none⟩) 1 1) (.int .i64 0) (.int .i64 0) (.string ⟨#[]⟩) (.slice none 0 0) (.slice (some ⟨w3.heap.size + 1, 0, none⟩) 2 2)).alloc (.cells #[.string s] 9)).alloc (.cells #[.int .i64 a.kind, .string a.name, .slice ana a.names.length anc, .int .i64 a.const.kind, .int .i64 a.const.int, .string a.const.text, .slice ada adn adc, .slice aka a.kids.length akc, .int .i64 b.kind, .string b.name, .slice bna b.names.length bnc, .int .i64 b.const.kind, .int .i64 b.const.int, .string b.const.text, .slice bda bdn bdc, .slice bka b.kids.length bkc] 28)).heap[w3.heap.size + 1]? = some (.cells #[.int .i64 a.kind, .string a.name, .slice ana a.names.length anc, .int .i64 a.const.kind, .int .i64 a.const.int, .string a.const.text, .slice ada adn adc, .slice aka a.kids.length akc, .int .i64 b.kind, .string b.name, .slice bna b.names.length bnc, .int .i64 b.const.kind, .int .i64 b.const.int, .string b.const.text, .slice bda bdn bdc, .slice bka b.kids.length bkc] 28 (0, 0)) := by
    have h := heap_alloc_new ((put8 w3 (w.heap.size + 1 + 1) (.int .i64 9) (.string ⟨#[]⟩) (.slice (some ⟨w3.heap.size, 0, none⟩) 1 1) (.int .i64 0) (.int .i64 0) (.string ⟨#[]⟩) (.slice none 0 0) (.slice (some ⟨w3.heap.size + 1, 0, none⟩) 2 2)).alloc (.cells #[.string s] 9)) (.cells #[.int .i64 a.kind, .string a.name, .slice ana a.names.length anc, .int .i64 a.const.kind, .int .i64 a.const.int, .string a.const.text, .slice ada adn adc, .slice aka a.kids.length akc, .int .i64 b.kind, .string b.name, .slice bna b.names.length bnc, .int .i64 b.const.kind, .int .i64 b.const.int, .string b.const.text, .slice bda bdn bdc, .slice bka b.kids.length bkc] 28)
    rw [World.heap_size_alloc, hk8.1] at h
    exact h
  unfold put8 at hb5 hr5 hn5 hk5
  clear hk8 hr8 hb8 hl8
  refine bodyPost_ret (res1 rfl _ _ (w.heap.size + 1 + 1) 28 #[.int .i64 9, .string ⟨#[]⟩, .slice (some ⟨w3.heap.size, 0, none⟩) 1 1, .int .i64 0, .int .i64 0, .string ⟨#[]⟩, .slice none 0 0, .slice (some ⟨w3.heap.size + 1, 0, none⟩) 2 2] (0, 0) rfl hr5 exprD exprSize) rfl ?_
  generalize (((((((((((w3.setCell ⟨w.heap.size + 1 + 1, 0, none⟩ (.int .i64 9)).setCell ⟨w.heap.size + 1 + 1, 1, none⟩ (.string ⟨#[]⟩)).setCell ⟨w.heap.size + 1 + 1, 2, none⟩ (.slice (some ⟨w3.heap.size, 0, none⟩) 1 1)).setCell ⟨w.heap.size + 1 + 1, 3, none⟩ (.int .i64 0)).setCell ⟨w.heap.size + 1 + 1, 4, none⟩ (.int .i64 0)).setCell ⟨w.heap.size + 1 + 1, 5, none⟩ (.string ⟨#[]⟩)).setCell ⟨w.heap.size + 1 + 1, 6, none⟩ (.slice none 0 0)).setCell ⟨w.heap.size + 1 + 1, 7, none⟩ (.slice (some ⟨w3.heap.size + 1, 0, none⟩) 2 2))).alloc (.cells #[.string s] 9)).alloc (.cells #[.int .i64 a.kind, .string a.name, .slice ana a.names.length anc, .int .i64 a.const.kind, .int .i64 a.const.int, .string a.const.text, .slice ada adn adc, .slice aka a.kids.length akc, .int .i64 b.kind, .string b.name, .slice bna b.names.length bnc, .int .i64 b.const.kind, .int .i64 b.const.int, .string b.const.text, .slice bda bdn bdc, .slice bka b.kids.length bkc] 28)) = w5 at hb5 hr5 hn5 hk5 ⊢
  refine ⟨⟨.mk 9 ⟨#[]⟩ [s] Dt.zero [a, b], .slice (some ⟨w3.heap.size, 0, none⟩) 1 1, .slice none 0 0, .slice (some ⟨w3.heap.size + 1, 0, none⟩) 2 2⟩, rfl, rfl, ?_, hb5⟩
  have hn : Sl w5 (.slice (some ⟨w3.heap.size, 0, none⟩) 1 1) (strs [s]) := by
    refine ⟨_, 1, rfl, .inr ⟨_, rfl, fun j u hu => ?_⟩⟩
    rw [Addr.add_mid, Nat.zero_add, cell_of_row _ _ _ _ _ _ hn5]
    simpa [strs] using hu
  have hk : KidsAt w5 (.slice (some ⟨w3.heap.size + 1, 0, none⟩) 2 2) [a, b] := kids_row (M := [⟨a, .slice ana a.names.length anc, .slice ada adn adc, .slice aka a.kids.length akc⟩, ⟨b, .slice bna b.names.length bnc, .slice bda bdn bdc, .slice bka b.kids.length bkc⟩]) (own_lit2 hk5) (fun y hy => by
    simp at hy
    rcases hy with rfl | rfl
    · exact HA.out.ex.bel hb5
    · exact HBO.out.ex.bel hb5)
  exact exAt_mk hn (zero_const _) ⟨_, _, _, rfl, Nat.le_refl _⟩ hk
end Ew
end Go.Proofs.YtkplkgdfphbldaaGreat
namespace Go.Proofs.YtkplkgdfphbldaaGreat
open Go.RowKit
set_option linter.unusedVariables false
set_option linter.unusedSimpArgs false
set_option maxRecDepth 100000
namespace Ew
open Rn
theorem okf_rec1 : Ex.ok (Ex.fixE rec1) = true := by kernel_rfl
theorem freef_rec1 : Ex.freeNames (Ex.fixE rec1) = [] := by kernel_rfl
theorem hasf_rec1 : Ex.has 9 (Ex.fixE rec1) = false := by kernel_rfl
def ifE : Ex := .mk 3 ⟨#[]⟩ [] Dt.zero []
theorem ok_if : Ex.ok ifE = false := by kernel_rfl
theorem fit_if : Ex.Fit ifE := .mk 3 ⟨#[]⟩ [] Dt.zero [] (Nat.zero_le _) (by simp) (by simp) zero_fit (by simp) (by simp)
theorem fit_ok {e : Ex} (h : Ex.ok e = true) : Ex.Fit e := by
  obtain ⟨a, _, c⟩ := (Ex.ok_iff e).1 h
  exact fit_of_form e a (by omega)
theorem no_op (w : World) (k : Int) (n : ByteArray) (c : Dt) (hc : ConstAt w c (.slice none 0 0)) : Op w (.mk k n [] c []) none 0 none 0 0 none 0 :=
  ⟨exAt_mk ⟨none, 0, rfl, .inl ⟨rfl, rfl, rfl⟩⟩ hc ⟨_, _, _, rfl, Nat.le_refl _⟩ ⟨none, 0, rfl, Nat.le_refl _, .inl rfl⟩, ⟨none, 0, rfl, .inl ⟨rfl, rfl, rfl⟩⟩, ⟨none, 0, rfl, Nat.le_refl _, .inl rfl⟩, Nat.le_refl _, hc⟩
theorem op_one (w : World) : Op w one none 0 none 0 0 none 0 := no_op w 0 ⟨#[]⟩ (.mk 1 1 ⟨#[]⟩ []) (.nil 1 1 _)
theorem op_refx (w : World) : Op w refx none 0 none 0 0 none 0 := no_op w 1 sx Dt.zero (zero_const w)
theorem op_if (w : World) : Op w ifE none 0 none 0 0 none 0 := no_op w 3 ⟨#[]⟩ Dt.zero (zero_const w)
theorem rec_call (w : World) : Calls Tryz.prog 26 #[.string ⟨#[120]⟩, .agg #[.int .i64 0, .string ⟨#[]⟩, .slice none 0 0, .int .i64 1, .int .i64 1, .string ⟨#[]⟩, .slice none 0 0, .slice none 0 0], .agg #[.int .i64 1, .string ⟨#[120]⟩, .slice none 0 0, .int .i64 0, .int .i64 0, .string ⟨#[]⟩, .slice none 0 0, .slice none 0 0]] w fun en w' => ∃ x : XM, x.e = rec1 ∧ en = .returned x.val ∧ ExAt w' x.val x.e ∧ Below w.heap.size w w' :=
  rec_any sx one refx (op_one w) (op_refx w)
theorem fix_if (w : World) : Calls Tryz.prog 9 #[.agg #[.int .i64 3, .string ⟨#[]⟩, .slice none 0 0, .int .i64 0, .int .i64 0, .string ⟨#[]⟩, .slice none 0 0, .slice none 0 0]] w fun en w' => en = .returned (.tuple #[zeroV, .int .i64 100]) ∧ Below w.heap.size w w' :=
  (pFix_any ifE fit_if (op_if w)).mono fun en w' h => by
    rcases h with ⟨_, h1, h2⟩ | ⟨h1, _⟩
    · exact ⟨h1, h2⟩
    · rw [ok_if] at h1
      cases h1
theorem fix_rec {w : World} {re : Ex} (hre : re = rec1) {na : Option Addr} {nc : Nat} {da : Option Addr} {dn dc : Nat} {ka : Option Addr} {kc : Nat} (ho : Op w re na nc da dn dc ka kc) : Calls Tryz.prog 9 #[.agg #[.int .i64 re.kind, .string re.name, .slice na re.names.length nc, .int .i64 re.const.kind, .int .i64 re.const.int, .string re.const.text, .slice da dn dc, .slice ka re.kids.length kc]] w fun en w' => ∃ x : XM, x.e = Ex.fixE rec1 ∧ en = .returned (.tuple #[x.val, .int .i64 0]) ∧ ExAt w' x.val x.e ∧ Below w.heap.size w w' := by
  subst hre
  exact (pFix_any rec1 (fit_ok ok_rec1) ho).mono fun en w' h => by
    rcases h with ⟨h1, _⟩ | ⟨_, ⟨_, x, h1, h2, h3, h4⟩ | ⟨h1, _⟩⟩
    · rw [ok_rec1] at h1
      cases h1
    · exact ⟨x, h1, h2, h3.at, h4⟩
    · rw [okf_rec1] at h1
      cases h1
theorem means_fix {a b : Ex} (ha : a = rec1) (hb : b = Ex.fixE rec1) {w : World} {ana : Option Addr} {anc : Nat} {ada : Option Addr} {adn adc : Nat} {aka : Option Addr} {akc : Nat} {bna : Option Addr} {bnc : Nat} {bda : Option Addr} {bdn bdc : Nat} {bka : Option Addr} {bkc : Nat} (hoa : Op w a ana anc ada adn adc aka akc) (hob : Op w b bna bnc bda bdn bdc bka bkc) :
    Calls Tryz.prog 17 #[.agg #[.int .i64 a.kind, .string a.name, .slice ana a.names.length anc, .int .i64 a.const.kind, .int .i64 a.const.int, .string a.const.text, .slice ada adn adc, .slice aka a.kids.length akc], .agg #[.int .i64 b.kind, .string b.name, .slice bna b.names.length bnc, .int .i64 b.const.kind, .int .i64 b.const.int, .string b.const.text, .slice bda bdn bdc, .slice bka b.kids.length bkc], .slice none 0 0, .string ⟨#[]⟩, .int .i64 4, .int .i64 4] w (Says (.bool true) w) := by
  subst ha
  subst hb
  exact rmeans_yes rec1 (Ex.fixE rec1) 4 4 (fit_ok ok_rec1) ok_rec1 free_rec1 hoa (fit_ok okf_rec1) okf_rec1 freef_rec1 hob 60 60 3 6 0 [] (some (.mk 1 1 ⟨#[]⟩ [])) (Dt.short_of (by decide)) run_rec1 run_fix1 (by decide) (by decide)
theorem has_fix {b : Ex} (hb : b = Ex.fixE rec1) {w : World} {bna : Option Addr} {bnc : Nat} {bda : Option Addr} {bdn bdc : Nat} {bka : Option Addr} {bkc : Nat} (hob : Op w b bna bnc bda bdn bdc bka bkc) :
    Calls Tryz.prog 12 #[.agg #[.int .i64 b.kind, .string b.name, .slice bna b.names.length bnc, .int .i64 b.const.kind, .int .i64 b.const.int, .string b.const.text, .slice bda bdn bdc, .slice bka b.kids.length bkc], .int .i64 9] w (Says (.bool false) w) := by
  subst hb
  have h := rhas_any 9 (Ex.fixE rec1) (fix_sizes ok_rec1).2.1 hob
  rw [hasf_rec1] at h
  exact h
set_option maxHeartbeats 16000000 in
theorem fixed10_any (w : World) : Calls Tryz.prog 10 #[] w (Says (.bool true) w) := by
  obtain ⟨w1, B1⟩ := boxed w #[.int .i64 0, .string ⟨#[]⟩, .slice none 0 0, .int .i64 1, .int .i64 1, .string ⟨#[]⟩, .slice none 0 0, .slice none 0 0] 28
  obtain ⟨w2, B2⟩ := boxed w1 #[.int .i64 1, .string ⟨#[120]⟩, .slice none 0 0, .int .i64 0, .int .i64 0, .string ⟨#[]⟩, .slice none 0 0, .slice none 0 0] 28
  have hb2 : Below w.heap.size w w2 := B1.below.trans (B2.below.mono B1.below.size)
  have hO := (B2.below.block _ (by rw [B1.size]; omega)).trans B1.blk
  have HO2 := Lib.hid hO
  have hX2 := B2.blk
  rw [B1.size] at hX2
  have HX2 := Lib.hid hX2
  have HB2 := Lib.hid hb2
  have HS1 := Lib.hid B1.size
  have HBA := Lib.hid B1
  have HBB := Lib.hid B2
  obtain ⟨x0, x1, x2, x3, x4, x5, x6, x7, xl⟩ := Row.of hO
  obtain ⟨o0, o1, o2, o3, o4, o5, o6, o7, ol⟩ := Row.of hX2
  clear B1 B2 hb2 hO hX2
  go_enter Tryz.func10, Tryz.ntmps10
  go_upto_region 3 with fail
  rw [← HBA.out.eq, ← HBB.out.eq]
  go_upto_region 4 with (first
    | (go_at_call 26; (with_reducible refine (rec_call _).mono ?_); rintro e2 w3 ⟨⟨re, rn, rd, rk⟩, hre, rfl, hex, hb3⟩; obtain ⟨rna, rnc, rda, rdn, rdc, rka, rkc, v1, v2, v3, hop⟩ := op_of hex; dsimp only at hre v1 v2 v3 hop; subst v1 v2 v3; unfold XM.val exV; dsimp only; have HFX := Lib.hid (fix_rec hre hop); have HB3 := Lib.hid hb3; clear hre hop hex hb3)
    | (go_at_call 9; (with_reducible refine HFX.out.mono ?_); rintro e2 w4 ⟨⟨ye, yn, yd, yk⟩, hye, rfl, hex, hb4⟩; obtain ⟨yna, ync, yda, ydn, ydc, yka, ykc, v1, v2, v3, hop⟩ := op_of hex; dsimp only at hye v1 v2 v3 hop; subst v1 v2 v3; unfold XM.val exV; dsimp only; have HYE := Lib.hid hye; have HOP := Lib.hid hop; have HB4 : Hid (Below w2.heap.size w2 w4) := HB3.out.trans (hb4.mono HB3.out.size); clear hye hop hex hb4)
    | fail)
  obtain ⟨w5, B5⟩ := boxed w4 #[.int .i64 ye.kind, .string ye.name, .slice yna ye.names.length ync, .int .i64 ye.const.kind, .int .i64 ye.const.int, .string ye.const.text, .slice yda ydn ydc, .slice yka ye.kids.length ykc] 28
  rw [← B5.eq]
  have HKY := Lib.hid B5.blk
  have HB25 := Lib.hid (HB4.out.trans (B5.below.mono HB4.out.size))
  have HOP5 := Lib.hid (HOP.out.bel B5.below)
  have hys : w4.heap.size < w5.heap.size := by rw [B5.size]; omega
  have HYS := Lib.hid hys
  clear B5 hys x0 x1 x2 x3 x4 x5 x6 x7 xl o0 o1 o2 o3 o4 o5 o6 o7 ol
  go_upto_region 5 with (first
    | (go_at_call 9; (with_reducible refine (fix_if _).mono ?_); rintro e2 w6 ⟨rfl, hb6⟩; have HB6 := Lib.hid hb6; clear hb6)
    | fail)
  obtain ⟨w7, B7⟩ := boxed w6 #[.int .i64 0, .string ⟨#[]⟩, .slice none 0 0, .int .i64 0, .int .i64 0, .string ⟨#[]⟩, .slice none 0 0, .slice none 0 0] 28
  rw [← B7.eq]
  have hb57 : Below w5.heap.size w5 w7 := HB6.out.trans (B7.below.mono HB6.out.size)
  have hb27 : Below w2.heap.size w2 w7 := HB25.out.trans (hb57.mono HB25.out.size)
  have hY7 := (hb57.block _ HYS.out).trans HKY.out
  have hO7 := (hb27.block _ (Array.getElem?_eq_some_iff.1 HO2.out).1).trans HO2.out
  have hX7 := (hb27.block _ (Array.getElem?_eq_some_iff.1 HX2.out).1).trans HX2.out
  have hS : ∀ w', Below w7.heap.size w7 w' → (w'.cell? ⟨w4.heap.size, 0, none⟩ = some (.int .i64 ye.kind) ∧ w'.cell? ⟨w4.heap.size, 1, none⟩ = some (.string ye.name) ∧ w'.cell? ⟨w4.heap.size, 2, none⟩ = some (.slice yna ye.names.length ync) ∧ w'.cell? ⟨w4.heap.size, 3, none⟩ = some (.int .i64 ye.const.kind) ∧ w'.cell? ⟨w4.heap.size, 4, none⟩ = some (.int .i64 ye.const.int) ∧ w'.cell? ⟨w4.heap.size, 5, none⟩ = some (.string ye.const.text) ∧ w'.cell? ⟨w4.heap.size, 6, none⟩ = some (.slice yda ydn ydc) ∧ w'.cell? ⟨w4.heap.size, 7, none⟩ = some (.slice yka ye.kids.length ykc) ∧ w'.cell? ⟨w.heap.size, 0, none⟩ = some (.int .i64 0) ∧ w'.cell? ⟨w.heap.size, 1, none⟩ = some (.string ⟨#[]⟩) ∧ w'.cell? ⟨w.heap.size, 2, none⟩ = some (.slice none 0 0) ∧ w'.cell? ⟨w.heap.size, 3, none⟩ = some (.int .i64 1) ∧ w'.cell? ⟨w.heap.size, 4, none⟩ = some (.int .i64 1) ∧ w'.cell? ⟨w.heap.size, 5, none⟩ = some (.string ⟨#[]⟩) ∧ w'.cell? ⟨w.heap.size, 6, none⟩ = some (.slice none 0 0) ∧ w'.cell? ⟨w.heap.size, 7, none⟩ = some (.slice none 0 0) ∧ w'.cell? ⟨w.heap.size + 1, 0, none⟩ = some (.int .i64 1) ∧ w'.cell? ⟨w.heap.size + 1, 1, none⟩ = some (.string ⟨#[120]⟩) ∧ w'.cell? ⟨w.heap.size + 1, 2, none⟩ = some (.slice none 0 0) ∧ w'.cell? ⟨w.heap.size + 1, 3, none⟩ = some (.int .i64 0) ∧ w'.cell? ⟨w.heap.size + 1, 4, none⟩ = some (.int .i64 0) ∧ w'.cell? ⟨w.heap.size + 1, 5, none⟩ = some (.string ⟨#[]⟩) ∧ w'.cell? ⟨w.heap.size + 1, 6, none⟩ = some (.slice none 0 0) ∧ w'.cell? ⟨w.heap.size + 1, 7, none⟩ = some (.slice none 0 0)) := fun w' hb => by
    have h1 := (Row.of hY7).bel hb
    have h2 := (Row.of hO7).bel hb
    have h3 := (Row.of hX7).bel hb
    exact ⟨h1.c0, h1.c1, h1.c2, h1.c3, h1.c4, h1.c5, h1.c6, h1.c7, h2.c0, h2.c1, h2.c2, h2.c3, h2.c4, h2.c5, h2.c6, h2.c7, h3.c0, h3.c1, h3.c2, h3.c3, h3.c4, h3.c5, h3.c6, h3.c7⟩
  have HSS := Lib.hid hS
  have HOP7 := Lib.hid (HOP5.out.bel hb57)
  have HB07 := Lib.hid (HB2.out.trans (hb27.mono HB2.out.size))
  have HBD : Hid (Below w7.heap.size w7 w7.drew) := (Below.refl _ _).drew
  have HSD : Hid (w7.drew.cell? ⟨w4.heap.size, 0, none⟩ = some (.int .i64 ye.kind) ∧ w7.drew.cell? ⟨w4.heap.size, 1, none⟩ = some (.string ye.name) ∧ w7.drew.cell? ⟨w4.heap.size, 2, none⟩ = some (.slice yna ye.names.length ync) ∧ w7.drew.cell? ⟨w4.heap.size, 3, none⟩ = some (.int .i64 ye.const.kind) ∧ w7.drew.cell? ⟨w4.heap.size, 4, none⟩ = some (.int .i64 ye.const.int) ∧ w7.drew.cell? ⟨w4.heap.size, 5, none⟩ = some (.string ye.const.text) ∧ w7.drew.cell? ⟨w4.heap.size, 6, none⟩ = some (.slice yda ydn ydc) ∧ w7.drew.cell? ⟨w4.heap.size, 7, none⟩ = some (.slice yka ye.kids.length ykc) ∧ w7.drew.cell? ⟨w.heap.size, 0, none⟩ = some (.int .i64 0) ∧ w7.drew.cell? ⟨w.heap.size, 1, none⟩ = some (.string ⟨#[]⟩) ∧ w7.drew.cell? ⟨w.heap.size, 2, none⟩ = some (.slice none 0 0) ∧ w7.drew.cell? ⟨w.heap.size, 3, none⟩ = some (.int .i64 1) ∧ w7.drew.cell? ⟨w.heap.size, 4, none⟩ = some (.int .i64 1) ∧ w7.drew.cell? ⟨w.heap.size, 5, none⟩ = some (.string ⟨#[]⟩) ∧ w7.drew.cell? ⟨w.heap.size, 6, none⟩ = some (.slice none 0 0) ∧ w7.drew.cell? ⟨w.heap.size, 7, none⟩ = some (.slice none 0 0) ∧ w7.drew.cell? ⟨w.heap.size + 1, 0, none⟩ = some (.int .i64 1) ∧ w7.drew.cell? ⟨w.heap.size + 1, 1, none⟩ = some (.string ⟨#[120]⟩) ∧ w7.drew.cell? ⟨w.heap.size + 1, 2, none⟩ = some (.slice none 0 0) ∧ w7.drew.cell? ⟨w.heap.size + 1, 3, none⟩ = some (.int .i64 0) ∧ w7.drew.cell? ⟨w.heap.size + 1, 4, none⟩ = some (.int .i64 0) ∧ w7.drew.cell? ⟨w.heap.size + 1, 5, none⟩ = some (.string ⟨#[]⟩) ∧ w7.drew.cell? ⟨w.heap.size + 1, 6, none⟩ = some (.slice none 0 0) ∧ w7.drew.cell? ⟨w.heap.size + 1, 7, none⟩ = some (.slice none 0 0)) := HSS.out _ HBD.out
  have l1 : w4.heap.size < w7.heap.size := Nat.lt_of_lt_of_le HYS.out hb57.size
  have l2 : w.heap.size < w7.heap.size := (Array.getElem?_eq_some_iff.1 hO7).1
  have l3 : w.heap.size + 1 < w7.heap.size := (Array.getElem?_eq_some_iff.1 hX7).1
  clear B7 hb57 hb27 hY7 hO7 hX7 hS
  go_region_held3 (fun w' => w'.cell? ⟨w4.heap.size, 0, none⟩ = some (.int .i64 ye.kind) ∧ w'.cell? ⟨w4.heap.size, 1, none⟩ = some (.string ye.name) ∧ w'.cell? ⟨w4.heap.size, 2, none⟩ = some (.slice yna ye.names.length ync) ∧ w'.cell? ⟨w4.heap.size, 3, none⟩ = some (.int .i64 ye.const.kind) ∧ w'.cell? ⟨w4.heap.size, 4, none⟩ = some (.int .i64 ye.const.int) ∧ w'.cell? ⟨w4.heap.size, 5, none⟩ = some (.string ye.const.text) ∧ w'.cell? ⟨w4.heap.size, 6, none⟩ = some (.slice yda ydn ydc) ∧ w'.cell? ⟨w4.heap.size, 7, none⟩ = some (.slice yka ye.kids.length ykc) ∧ w'.cell? ⟨w.heap.size, 0, none⟩ = some (.int .i64 0) ∧ w'.cell? ⟨w.heap.size, 1, none⟩ = some (.string ⟨#[]⟩) ∧ w'.cell? ⟨w.heap.size, 2, none⟩ = some (.slice none 0 0) ∧ w'.cell? ⟨w.heap.size, 3, none⟩ = some (.int .i64 1) ∧ w'.cell? ⟨w.heap.size, 4, none⟩ = some (.int .i64 1) ∧ w'.cell? ⟨w.heap.size, 5, none⟩ = some (.string ⟨#[]⟩) ∧ w'.cell? ⟨w.heap.size, 6, none⟩ = some (.slice none 0 0) ∧ w'.cell? ⟨w.heap.size, 7, none⟩ = some (.slice none 0 0) ∧ w'.cell? ⟨w.heap.size + 1, 0, none⟩ = some (.int .i64 1) ∧ w'.cell? ⟨w.heap.size + 1, 1, none⟩ = some (.string ⟨#[120]⟩) ∧ w'.cell? ⟨w.heap.size + 1, 2, none⟩ = some (.slice none 0 0) ∧ w'.cell? ⟨w.heap.size + 1, 3, none⟩ = some (.int .i64 0) ∧ w'.cell? ⟨w.heap.size + 1, 4, none⟩ = some (.int .i64 0) ∧ w'.cell? ⟨w.heap.size + 1, 5, none⟩ = some (.string ⟨#[]⟩) ∧ w'.cell? ⟨w.heap.size + 1, 6, none⟩ = some (.slice none 0 0) ∧ w'.cell? ⟨w.heap.size + 1, 7, none⟩ = some (.slice none 0 0))
    (first | with_reducible exact HSwc.out | with_reducible exact HSwb.out | with_reducible exact HSwa.out | with_reducible exact HSD.out | exact HSD.out | fail)
    (first
      | (go_at_call 12; (with_reducible refine (has_fix HYE.out (HOP7.out.bel HBD.out)).mono ?_); rintro e2 wa ⟨rfl, hb⟩; have HBwa : Hid (Below w7.heap.size w7 wa) := HBD.out.trans (hb.mono HBD.out.size); have HSwa : Hid (wa.cell? ⟨w4.heap.size, 0, none⟩ = some (.int .i64 ye.kind) ∧ wa.cell? ⟨w4.heap.size, 1, none⟩ = some (.string ye.name) ∧ wa.cell? ⟨w4.heap.size, 2, none⟩ = some (.slice yna ye.names.length ync) ∧ wa.cell? ⟨w4.heap.size, 3, none⟩ = some (.int .i64 ye.const.kind) ∧ wa.cell? ⟨w4.heap.size, 4, none⟩ = some (.int .i64 ye.const.int) ∧ wa.cell? ⟨w4.heap.size, 5, none⟩ = some (.string ye.const.text) ∧ wa.cell? ⟨w4.heap.size, 6, none⟩ = some (.slice yda ydn ydc) ∧ wa.cell? ⟨w4.heap.size, 7, none⟩ = some (.slice yka ye.kids.length ykc) ∧ wa.cell? ⟨w.heap.size, 0, none⟩ = some (.int .i64 0) ∧ wa.cell? ⟨w.heap.size, 1, none⟩ = some (.string ⟨#[]⟩) ∧ wa.cell? ⟨w.heap.size, 2, none⟩ = some (.slice none 0 0) ∧ wa.cell? ⟨w.heap.size, 3, none⟩ = some (.int .i64 1) ∧ wa.cell? ⟨w.heap.size, 4, none⟩ = some (.int .i64 1) ∧ wa.cell? ⟨w.heap.size, 5, none⟩ = some (.string ⟨#[]⟩) ∧ wa.cell? ⟨w.heap.size, 6, none⟩ = some (.slice none 0 0) ∧ wa.cell? ⟨w.heap.size, 7, none⟩ = some (.slice none 0 0) ∧ wa.cell? ⟨w.heap.size + 1, 0, none⟩ = some (.int .i64 1) ∧ wa.cell? ⟨w.heap.size + 1, 1, none⟩ = some (.string ⟨#[120]⟩) ∧ wa.cell? ⟨w.heap.size + 1, 2, none⟩ = some (.slice none 0 0) ∧ wa.cell? ⟨w.heap.size + 1, 3, none⟩ = some (.int .i64 0) ∧ wa.cell? ⟨w.heap.size + 1, 4, none⟩ = some (.int .i64 0) ∧ wa.cell? ⟨w.heap.size + 1, 5, none⟩ = some (.string ⟨#[]⟩) ∧ wa.cell? ⟨w.heap.size + 1, 6, none⟩ = some (.slice none 0 0) ∧ wa.cell? ⟨w.heap.size + 1, 7, none⟩ = some (.slice none 0 0)) := HSS.out _ HBwa.out; clear hb)
      | (go_at_call 26; (with_reducible refine (rec_call wa).mono ?_); rintro e2 wb ⟨⟨re, rn, rd, rk⟩, hre, rfl, hex, hb⟩; obtain ⟨rna, rnc, rda, rdn, rdc, rka, rkc, v1, v2, v3, hop⟩ := op_of hex; dsimp only at hre v1 v2 v3 hop; subst v1 v2 v3; unfold XM.val exV; dsimp only; have HRE := Lib.hid hre; have HROP := Lib.hid hop; clear hre hex hop; have HBwb : Hid (Below w7.heap.size w7 wb) := HBwa.out.trans (hb.mono HBwa.out.size); have HSwb : Hid (wb.cell? ⟨w4.heap.size, 0, none⟩ = some (.int .i64 ye.kind) ∧ wb.cell? ⟨w4.heap.size, 1, none⟩ = some (.string ye.name) ∧ wb.cell? ⟨w4.heap.size, 2, none⟩ = some (.slice yna ye.names.length ync) ∧ wb.cell? ⟨w4.heap.size, 3, none⟩ = some (.int .i64 ye.const.kind) ∧ wb.cell? ⟨w4.heap.size, 4, none⟩ = some (.int .i64 ye.const.int) ∧ wb.cell? ⟨w4.heap.size, 5, none⟩ = some (.string ye.const.text) ∧ wb.cell? ⟨w4.heap.size, 6, none⟩ = some (.slice yda ydn ydc) ∧ wb.cell? ⟨w4.heap.size, 7, none⟩ = some (.slice yka ye.kids.length ykc) ∧ wb.cell? ⟨w.heap.size, 0, none⟩ = some (.int .i64 0) ∧ wb.cell? ⟨w.heap.size, 1, none⟩ = some (.string ⟨#[]⟩) ∧ wb.cell? ⟨w.heap.size, 2, none⟩ = some (.slice none 0 0) ∧ wb.cell? ⟨w.heap.size, 3, none⟩ = some (.int .i64 1) ∧ wb.cell? ⟨w.heap.size, 4, none⟩ = some (.int .i64 1) ∧ wb.cell? ⟨w.heap.size, 5, none⟩ = some (.string ⟨#[]⟩) ∧ wb.cell? ⟨w.heap.size, 6, none⟩ = some (.slice none 0 0) ∧ wb.cell? ⟨w.heap.size, 7, none⟩ = some (.slice none 0 0) ∧ wb.cell? ⟨w.heap.size + 1, 0, none⟩ = some (.int .i64 1) ∧ wb.cell? ⟨w.heap.size + 1, 1, none⟩ = some (.string ⟨#[120]⟩) ∧ wb.cell? ⟨w.heap.size + 1, 2, none⟩ = some (.slice none 0 0) ∧ wb.cell? ⟨w.heap.size + 1, 3, none⟩ = some (.int .i64 0) ∧ wb.cell? ⟨w.heap.size + 1, 4, none⟩ = some (.int .i64 0) ∧ wb.cell? ⟨w.heap.size + 1, 5, none⟩ = some (.string ⟨#[]⟩) ∧ wb.cell? ⟨w.heap.size + 1, 6, none⟩ = some (.slice none 0 0) ∧ wb.cell? ⟨w.heap.size + 1, 7, none⟩ = some (.slice none 0 0)) := HSS.out _ HBwb.out; clear hb)
      | (go_at_call 17; (with_reducible refine (means_fix HRE.out HYE.out HROP.out (HOP7.out.bel HBwb.out)).mono ?_); rintro e2 wc ⟨rfl, hb⟩; have HBwc : Hid (Below w7.heap.size w7 wc) := HBwb.out.trans (hb.mono HBwb.out.size); have HSwc : Hid (wc.cell? ⟨w4.heap.size, 0, none⟩ = some (.int .i64 ye.kind) ∧ wc.cell? ⟨w4.heap.size, 1, none⟩ = some (.string ye.name) ∧ wc.cell? ⟨w4.heap.size, 2, none⟩ = some (.slice yna ye.names.length ync) ∧ wc.cell? ⟨w4.heap.size, 3, none⟩ = some (.int .i64 ye.const.kind) ∧ wc.cell? ⟨w4.heap.size, 4, none⟩ = some (.int .i64 ye.const.int) ∧ wc.cell? ⟨w4.heap.size, 5, none⟩ = some (.string ye.const.text) ∧ wc.cell? ⟨w4.heap.size, 6, none⟩ = some (.slice yda ydn ydc) ∧ wc.cell? ⟨w4.heap.size, 7, none⟩ = some (.slice yka ye.kids.length ykc) ∧ wc.cell? ⟨w.heap.size, 0, none⟩ = some (.int .i64 0) ∧ wc.cell? ⟨w.heap.size, 1, none⟩ = some (.string ⟨#[]⟩) ∧ wc.cell? ⟨w.heap.size, 2, none⟩ = some (.slice none 0 0) ∧ wc.cell? ⟨w.heap.size, 3, none⟩ = some (.int .i64 1) ∧ wc.cell? ⟨w.heap.size, 4, none⟩ = some (.int .i64 1) ∧ wc.cell? ⟨w.heap.size, 5, none⟩ = some (.string ⟨#[]⟩) ∧ wc.cell? ⟨w.heap.size, 6, none⟩ = some (.slice none 0 0) ∧ wc.cell? ⟨w.heap.size, 7, none⟩ = some (.slice none 0 0) ∧ wc.cell? ⟨w.heap.size + 1, 0, none⟩ = some (.int .i64 1) ∧ wc.cell? ⟨w.heap.size + 1, 1, none⟩ = some (.string ⟨#[120]⟩) ∧ wc.cell? ⟨w.heap.size + 1, 2, none⟩ = some (.slice none 0 0) ∧ wc.cell? ⟨w.heap.size + 1, 3, none⟩ = some (.int .i64 0) ∧ wc.cell? ⟨w.heap.size + 1, 4, none⟩ = some (.int .i64 0) ∧ wc.cell? ⟨w.heap.size + 1, 5, none⟩ = some (.string ⟨#[]⟩) ∧ wc.cell? ⟨w.heap.size + 1, 6, none⟩ = some (.slice none 0 0) ∧ wc.cell? ⟨w.heap.size + 1, 7, none⟩ = some (.slice none 0 0)) := HSS.out _ HBwc.out; clear hb)
      | fail)
  all_goals
    go_wp2_with fail
    go_ret
    exact ⟨rfl, HB07.out.trans (HBwc.out.mono HB07.out.size)⟩
end Ew
end Go.Proofs.YtkplkgdfphbldaaGreat
namespace Go.Proofs.YtkplkgdfphbldaaGreat
open Go.RowKit
set_option linter.unusedVariables false
set_option linter.unusedSimpArgs false
set_option maxRecDepth 100000
namespace Ew
open Rn
theorem few_zero : Few Ex.zero := ⟨by decide, by decide⟩
theorem op_zero (w : World) : Op w Ex.zero none 0 none 0 0 none 0 := ⟨zero_at w, ⟨none, 0, rfl, .inl ⟨rfl, rfl, rfl⟩⟩, ⟨none, 0, rfl, Nat.le_refl _, .inl rfl⟩, Nat.le_refl _, zero_const w⟩
theorem zero_same : Ex.same Ex.zero Ex.zero = true := by decide
theorem same_zero_any (w : World) : Calls Tryz.prog 14 #[zeroV, zeroV] w (Says (.bool true) w) := by
  have h := r6same_any Ex.zero Ex.zero few_zero few_zero (op_zero w) (op_zero w)
  rw [zero_same] at h
  exact h
set_option maxHeartbeats 16000000 in
theorem told_form (e : Ex) {w : World} {na : Option Addr} {nc : Nat} {da : Option Addr} {dn dc : Nat} {ka : Option Addr} {kc : Nat} (hf : Ex.Fit e) (ho : Op w e na nc da dn dc ka kc) (hok : Ex.ok e = false) :
    Calls Tryz.prog 11 #[.agg #[.int .i64 e.kind, .string e.name, .slice na e.names.length nc, .int .i64 e.const.kind, .int .i64 e.const.int, .string e.const.text, .slice da dn dc, .slice ka e.kids.length kc], zeroV, .int .i64 100] w (Says (.bool true) w) := by
  obtain ⟨w1, B1⟩ := boxed w #[.int .i64 e.kind, .string e.name, .slice na e.names.length nc, .int .i64 e.const.kind, .int .i64 e.const.int, .string e.const.text, .slice da dn dc, .slice ka e.kids.length kc] 28
  obtain ⟨w2, B2⟩ := boxed w1 #[.int .i64 0, .string ⟨#[]⟩, .slice none 0 0, .int .i64 0, .int .i64 0, .string ⟨#[]⟩, .slice none 0 0, .slice none 0 0] 28
  have hB02 : Below w.heap.size w w2 := B1.below.trans (B2.below.mono B1.below.size)
  have hsz2 : w2.heap.size = w.heap.size + 2 := by rw [B2.size, B1.size]
  have hZ : w2.heap[w.heap.size + 1]? = some (.cells #[.int .i64 0, .string ⟨#[]⟩, .slice none 0 0, .int .i64 0, .int .i64 0, .string ⟨#[]⟩, .slice none 0 0, .slice none 0 0] 28 (0, 0)) := by
    have := B2.blk
    rw [B1.size] at this
    exact this
  have hP := (B2.below.block _ (by rw [B1.size]; omega)).trans B1.blk
  have HBA := Lib.hid B1
  have HBB := Lib.hid B2
  have HB02 := Lib.hid hB02
  have HRE := Lib.hid (Row.of hP)
  have HRX := Lib.hid (Row.of hZ)
  obtain ⟨x0, x1, x2, x3, x4, x5, x6, x7, xl⟩ := Row.of hP
  obtain ⟨o0, o1, o2, o3, o4, o5, o6, o7, ol⟩ := Row.of hZ
  have HCK := Lib.hid (rCheck_any e hf (ho.bel hB02))
  obtain ⟨f, hfv⟩ : ∃ f, (Ex.chk Ex.form e 0 0).2 = f := ⟨_, rfl⟩
  have hz : f ≠ 0 := fun h => by rw [← hfv, Ex.chk_form, hok] at h; cases h
  rw [hfv] at HCK
  have kz : (f != 0) = true := by rw [bne_iff_ne]; exact hz
  have HSM := Lib.hid same_zero_any
  clear B1 B2 hB02 hsz2 hZ hP ho hf hok hfv hz
  go_enter Tryz.func11, Tryz.ntmps11
  go_upto_region 1 with fail
  rw [← HBA.out.eq, ← HBB.out.eq]
  go_wp2_with (first
    | (go_at_call 27; (with_reducible refine HCK.out.mono ?_); rintro e2 w3 ⟨rfl, hb3⟩; have HB3 : Hid (Below w.heap.size w w3) := HB02.out.trans (hb3.mono HB02.out.size); obtain ⟨o0, o1, o2, o3, o4, o5, o6, o7, ol⟩ := HRX.out.bel hb3; clear hb3)
    | (go_at_call 14; (with_reducible refine (HSM.out _).mono ?_); rintro e2 w4 ⟨rfl, hb4⟩; have HB4 : Hid (Below w.heap.size w w4) := HB3.out.trans (hb4.mono HB3.out.size); clear hb4)
    | fail)
  go_ret
  exact ⟨rfl, HB4.out⟩
set_option maxHeartbeats 16000000 in
theorem told_many (e : Ex) {w : World} {na : Option Addr} {nc : Nat} {da : Option Addr} {dn dc : Nat} {ka : Option Addr} {kc : Nat} (hf : Ex.Fit e) (ho : Op w e na nc da dn dc ka kc) (hok : Ex.ok e = true) (hsm : (decide (e.size ≤ 400) && decide (e.deep ≤ 25)) = false) :
    Calls Tryz.prog 11 #[.agg #[.int .i64 e.kind, .string e.name, .slice na e.names.length nc, .int .i64 e.const.kind, .int .i64 e.const.int, .string e.const.text, .slice da dn dc, .slice ka e.kids.length kc], zeroV, .int .i64 101] w (Says (.bool true) w) := by
  obtain ⟨w1, B1⟩ := boxed w #[.int .i64 e.kind, .string e.name, .slice na e.names.length nc, .int .i64 e.const.kind, .int .i64 e.const.int, .string e.const.text, .slice da dn dc, .slice ka e.kids.length kc] 28
  obtain ⟨w2, B2⟩ := boxed w1 #[.int .i64 0, .string ⟨#[]⟩, .slice none 0 0, .int .i64 0, .int .i64 0, .string ⟨#[]⟩, .slice none 0 0, .slice none 0 0] 28
  have hB02 : Below w.heap.size w w2 := B1.below.trans (B2.below.mono B1.below.size)
  have hsz2 : w2.heap.size = w.heap.size + 2 := by rw [B2.size, B1.size]
  have hZ : w2.heap[w.heap.size + 1]? = some (.cells #[.int .i64 0, .string ⟨#[]⟩, .slice none 0 0, .int .i64 0, .int .i64 0, .string ⟨#[]⟩, .slice none 0 0, .slice none 0 0] 28 (0, 0)) := by
    have := B2.blk
    rw [B1.size] at this
    exact this
  have hP := (B2.below.block _ (by rw [B1.size]; omega)).trans B1.blk
  have HBA := Lib.hid B1
  have HBB := Lib.hid B2
  have HB02 := Lib.hid hB02
  have HRE := Lib.hid (Row.of hP)
  have HRX := Lib.hid (Row.of hZ)
  obtain ⟨x0, x1, x2, x3, x4, x5, x6, x7, xl⟩ := Row.of hP
  obtain ⟨o0, o1, o2, o3, o4, o5, o6, o7, ol⟩ := Row.of hZ
  have HCK := Lib.hid (rCheck_any e hf (ho.bel hB02))
  rw [(Ex.chk_form e).2 hok] at HCK
  have hsz := ((Ex.ok_iff e).1 hok).2.2
  have HSL : Hid (∀ W, Below w2.heap.size w2 W → Calls Tryz.prog 28 #[.agg #[.int .i64 e.kind, .string e.name, .slice na e.names.length nc, .int .i64 e.const.kind, .int .i64 e.const.int, .string e.const.text, .slice da dn dc, .slice ka e.kids.length kc]] W (Says (.bool false) W)) := fun W hW => by
    have h := rsmall_any e (by omega) ((ho.bel hB02).bel hW)
    rw [hsm] at h
    exact h
  have HSM := Lib.hid same_zero_any
  clear B1 B2 hB02 hsz2 hZ hP ho hf hok hsm hsz
  go_enter Tryz.func11, Tryz.ntmps11
  go_upto_region 1 with fail
  rw [← HBA.out.eq, ← HBB.out.eq]
  go_wp2_with (first
    | (go_at_call 27; (with_reducible refine HCK.out.mono ?_); rintro e2 w3 ⟨rfl, hb3⟩; have HB3 := Lib.hid hb3; obtain ⟨o0, o1, o2, o3, o4, o5, o6, o7, ol⟩ := HRX.out.bel hb3; clear hb3)
    | (go_at_call 14; (with_reducible refine (HSM.out _).mono ?_); rintro e2 w4 ⟨rfl, hb4⟩; have HB4 : Hid (Below w2.heap.size w2 w4) := HB3.out.trans (hb4.mono HB3.out.size); obtain ⟨x0, x1, x2, x3, x4, x5, x6, x7, xl⟩ := HRE.out.bel HB4.out; clear hb4)
    | (go_at_call 28; (with_reducible refine (HSL.out _ HB4.out).mono ?_); rintro e2 w5 ⟨rfl, hb5⟩; have HB5 : Hid (Below w2.heap.size w2 w5) := HB4.out.trans (hb5.mono HB4.out.size); clear hb5)
    | fail)
  go_ret
  exact ⟨rfl, HB02.out.trans (HB5.out.mono HB02.out.size)⟩
set_option maxHeartbeats 16000000 in
theorem told_fine (e : Ex) {w : World} {na : Option Addr} {nc : Nat} {da : Option Addr} {dn dc : Nat} {ka : Option Addr} {kc : Nat} (x : Ex) {xna : Option Addr} {xnc : Nat} {xda : Option Addr} {xdn xdc : Nat} {xka : Option Addr} {xkc : Nat} (hf : Ex.Fit e) (ho : Op w e na nc da dn dc ka kc) (hok : Ex.ok e = true) (hxf : Ex.Fit x) (hx : Op w x xna xnc xda xdn xdc xka xkc) (hxk : Ex.ok x = true) (h9 : Ex.has 9 x = false) (hfs : Ex.fixSet x = false) (hfn : Ex.freeNames x = Ex.freeNames e) :
    Calls Tryz.prog 11 #[.agg #[.int .i64 e.kind, .string e.name, .slice na e.names.length nc, .int .i64 e.const.kind, .int .i64 e.const.int, .string e.const.text, .slice da dn dc, .slice ka e.kids.length kc], .agg #[.int .i64 x.kind, .string x.name, .slice xna x.names.length xnc, .int .i64 x.const.kind, .int .i64 x.const.int, .string x.const.text, .slice xda xdn xdc, .slice xka x.kids.length xkc], .int .i64 0] w (Says (.bool true) w) := by
  obtain ⟨w1, B1⟩ := boxed w #[.int .i64 e.kind, .string e.name, .slice na e.names.length nc, .int .i64 e.const.kind, .int .i64 e.const.int, .string e.const.text, .slice da dn dc, .slice ka e.kids.length kc] 28
  obtain ⟨w2, B2⟩ := boxed w1 #[.int .i64 x.kind, .string x.name, .slice xna x.names.length xnc, .int .i64 x.const.kind, .int .i64 x.const.int, .string x.const.text, .slice xda xdn xdc, .slice xka x.kids.length xkc] 28
  have hB02 : Below w.heap.size w w2 := B1.below.trans (B2.below.mono B1.below.size)
  have hsz2 : w2.heap.size = w.heap.size + 2 := by rw [B2.size, B1.size]
  have hZ : w2.heap[w.heap.size + 1]? = some (.cells #[.int .i64 x.kind, .string x.name, .slice xna x.names.length xnc, .int .i64 x.const.kind, .int .i64 x.const.int, .string x.const.text, .slice xda xdn xdc, .slice xka x.kids.length xkc] 28 (0, 0)) := by
    have := B2.blk
    rw [B1.size] at this
    exact this
  have hP := (B2.below.block _ (by rw [B1.size]; omega)).trans B1.blk
  have HBA := Lib.hid B1
  have HBB := Lib.hid B2
  have HB02 := Lib.hid hB02
  have HRE := Lib.hid (Row.of hP)
  have HRX := Lib.hid (Row.of hZ)
  obtain ⟨x0, x1, x2, x3, x4, x5, x6, x7, xl⟩ := Row.of hP
  obtain ⟨o0, o1, o2, o3, o4, o5, o6, o7, ol⟩ := Row.of hZ
  have HCK := Lib.hid (rCheck_any e hf (ho.bel hB02))
  rw [(Ex.chk_form e).2 hok] at HCK
  have hfe := few_of_ok hok
  have hfx := few_of_ok hxk
  have hse := ((Ex.ok_iff e).1 hok).2.2
  have hsx := ((Ex.ok_iff x).1 hxk).2.2
  have HCX : Hid (∀ W, Below w2.heap.size w2 W → Calls Tryz.prog 27 #[.agg #[.int .i64 x.kind, .string x.name, .slice xna x.names.length xnc, .int .i64 x.const.kind, .int .i64 x.const.int, .string x.const.text, .slice xda xdn xdc, .slice xka x.kids.length xkc]] W (Says (.int .i64 0) W)) := fun W hW => by
    have h := rCheck_any x hxf ((hx.bel hB02).bel hW)
    rw [(Ex.chk_form x).2 hxk] at h
    exact h
  have HHS : Hid (∀ W, Below w2.heap.size w2 W → Calls Tryz.prog 12 #[.agg #[.int .i64 x.kind, .string x.name, .slice xna x.names.length xnc, .int .i64 x.const.kind, .int .i64 x.const.int, .string x.const.text, .slice xda xdn xdc, .slice xka x.kids.length xkc], .int .i64 9] W (Says (.bool false) W)) := fun W hW => by
    have h := rhas_any 9 x (by omega) ((hx.bel hB02).bel hW)
    rw [h9] at h
    exact h
  have HFS : Hid (∀ W, Below w2.heap.size w2 W → Calls Tryz.prog 13 #[.agg #[.int .i64 x.kind, .string x.name, .slice xna x.names.length xnc, .int .i64 x.const.kind, .int .i64 x.const.int, .string x.const.text, .slice xda xdn xdc, .slice xka x.kids.length xkc]] W (Says (.bool false) W)) := fun W hW => by
    have h := rfixset_any x hfx.1 ((hx.bel hB02).bel hW)
    rw [hfs] at h
    exact h
  have HFX : Hid (∀ W, Below w2.heap.size w2 W → Calls Tryz.prog 30 #[.agg #[.int .i64 x.kind, .string x.name, .slice xna x.names.length xnc, .int .i64 x.const.kind, .int .i64 x.const.int, .string x.const.text, .slice xda xdn xdc, .slice xka x.kids.length xkc]] W (TextsPost (Ex.freeNames e) W)) := fun W hW => by
    have h := rFree_any x hfx.1 hfx.2 (by omega) ((hx.bel hB02).bel hW)
    rw [hfn] at h
    exact h
  have HFE : Hid (∀ W, Below w2.heap.size w2 W → Calls Tryz.prog 30 #[.agg #[.int .i64 e.kind, .string e.name, .slice na e.names.length nc, .int .i64 e.const.kind, .int .i64 e.const.int, .string e.const.text, .slice da dn dc, .slice ka e.kids.length kc]] W (TextsPost (Ex.freeNames e) W)) := fun W hW => rFree_any e hfe.1 hfe.2 (by omega) ((ho.bel hB02).bel hW)
  have hfl : (Ex.freeNames e).length ≤ 10000000000 := by have := frees_len e [] []; unfold Ex.freeNames; simp at this; omega
  have HST : Hid (∀ (W : World) (a c b d : _), Sl W (.slice a (Ex.freeNames e).length c) (strs (Ex.freeNames e)) → Sl W (.slice b (Ex.freeNames e).length d) (strs (Ex.freeNames e)) → Calls Tryz.prog 29 #[.slice a (Ex.freeNames e).length c, .slice b (Ex.freeNames e).length d] W (Says (.bool true) W)) := fun W a c b d h1 h2 => by
    have h := sametexts_any (Ex.freeNames e) (Ex.freeNames e) h1 h2 hfl
    rw [decide_eq_true rfl] at h
    exact h
  have hS : ∀ w', Below w2.heap.size w2 w' → (w'.cell? ⟨w.heap.size, 0, none⟩ = some (.int .i64 e.kind) ∧ w'.cell? ⟨w.heap.size, 1, none⟩ = some (.string e.name) ∧ w'.cell? ⟨w.heap.size, 2, none⟩ = some (.slice na e.names.length nc) ∧ w'.cell? ⟨w.heap.size, 3, none⟩ = some (.int .i64 e.const.kind) ∧ w'.cell? ⟨w.heap.size, 4, none⟩ = some (.int .i64 e.const.int) ∧ w'.cell? ⟨w.heap.size, 5, none⟩ = some (.string e.const.text) ∧ w'.cell? ⟨w.heap.size, 6, none⟩ = some (.slice da dn dc) ∧ w'.cell? ⟨w.heap.size, 7, none⟩ = some (.slice ka e.kids.length kc) ∧ w'.cell? ⟨w.heap.size + 1, 0, none⟩ = some (.int .i64 x.kind) ∧ w'.cell? ⟨w.heap.size + 1, 1, none⟩ = some (.string x.name) ∧ w'.cell? ⟨w.heap.size + 1, 2, none⟩ = some (.slice xna x.names.length xnc) ∧ w'.cell? ⟨w.heap.size + 1, 3, none⟩ = some (.int .i64 x.const.kind) ∧ w'.cell? ⟨w.heap.size + 1, 4, none⟩ = some (.int .i64 x.const.int) ∧ w'.cell? ⟨w.heap.size + 1, 5, none⟩ = some (.string x.const.text) ∧ w'.cell? ⟨w.heap.size + 1, 6, none⟩ = some (.slice xda xdn xdc) ∧ w'.cell? ⟨w.heap.size + 1, 7, none⟩ = some (.slice xka x.kids.length xkc)) := fun w' hb => by
    have h1 := HRE.out.bel hb
    have h2 := HRX.out.bel hb
    exact ⟨h1.c0, h1.c1, h1.c2, h1.c3, h1.c4, h1.c5, h1.c6, h1.c7, h2.c0, h2.c1, h2.c2, h2.c3, h2.c4, h2.c5, h2.c6, h2.c7⟩
  have HSS := Lib.hid hS
  clear hS
  generalize Ex.freeNames e = FN at *
  unfold TextsPost at HFX HFE
  clear B1 B2 hB02 hsz2 hZ hP ho hf hok hxf hx hxk h9 hfs hfn hfe hfx hse hsx hfl
  go_enter Tryz.func11, Tryz.ntmps11
  go_upto_region 1 with fail
  rw [← HBA.out.eq, ← HBB.out.eq]
  go_upto_region 5 with (first
    | (go_at_call 27; (with_reducible refine HCK.out.mono ?_); rintro e2 w3 ⟨rfl, hb⟩; have HB3 := Lib.hid hb; obtain ⟨x0, x1, x2, x3, x4, x5, x6, x7, xl⟩ := HRE.out.bel hb; obtain ⟨o0, o1, o2, o3, o4, o5, o6, o7, ol⟩ := HRX.out.bel hb; have HS3 : Hid (w3.cell? ⟨w.heap.size, 0, none⟩ = some (.int .i64 e.kind) ∧ w3.cell? ⟨w.heap.size, 1, none⟩ = some (.string e.name) ∧ w3.cell? ⟨w.heap.size, 2, none⟩ = some (.slice na e.names.length nc) ∧ w3.cell? ⟨w.heap.size, 3, none⟩ = some (.int .i64 e.const.kind) ∧ w3.cell? ⟨w.heap.size, 4, none⟩ = some (.int .i64 e.const.int) ∧ w3.cell? ⟨w.heap.size, 5, none⟩ = some (.string e.const.text) ∧ w3.cell? ⟨w.heap.size, 6, none⟩ = some (.slice da dn dc) ∧ w3.cell? ⟨w.heap.size, 7, none⟩ = some (.slice ka e.kids.length kc) ∧ w3.cell? ⟨w.heap.size + 1, 0, none⟩ = some (.int .i64 x.kind) ∧ w3.cell? ⟨w.heap.size + 1, 1, none⟩ = some (.string x.name) ∧ w3.cell? ⟨w.heap.size + 1, 2, none⟩ = some (.slice xna x.names.length xnc) ∧ w3.cell? ⟨w.heap.size + 1, 3, none⟩ = some (.int .i64 x.const.kind) ∧ w3.cell? ⟨w.heap.size + 1, 4, none⟩ = some (.int .i64 x.const.int) ∧ w3.cell? ⟨w.heap.size + 1, 5, none⟩ = some (.string x.const.text) ∧ w3.cell? ⟨w.heap.size + 1, 6, none⟩ = some (.slice xda xdn xdc) ∧ w3.cell? ⟨w.heap.size + 1, 7, none⟩ = some (.slice xka x.kids.length xkc)) := HSS.out _ hb; clear hb)
    | fail)
  have HB3D : Hid (Below w2.heap.size w2 w3.drew) := HB3.out.drew
  have HS3D : Hid (w3.drew.cell? ⟨w.heap.size, 0, none⟩ = some (.int .i64 e.kind) ∧ w3.drew.cell? ⟨w.heap.size, 1, none⟩ = some (.string e.name) ∧ w3.drew.cell? ⟨w.heap.size, 2, none⟩ = some (.slice na e.names.length nc) ∧ w3.drew.cell? ⟨w.heap.size, 3, none⟩ = some (.int .i64 e.const.kind) ∧ w3.drew.cell? ⟨w.heap.size, 4, none⟩ = some (.int .i64 e.const.int) ∧ w3.drew.cell? ⟨w.heap.size, 5, none⟩ = some (.string e.const.text) ∧ w3.drew.cell? ⟨w.heap.size, 6, none⟩ = some (.slice da dn dc) ∧ w3.drew.cell? ⟨w.heap.size, 7, none⟩ = some (.slice ka e.kids.length kc) ∧ w3.drew.cell? ⟨w.heap.size + 1, 0, none⟩ = some (.int .i64 x.kind) ∧ w3.drew.cell? ⟨w.heap.size + 1, 1, none⟩ = some (.string x.name) ∧ w3.drew.cell? ⟨w.heap.size + 1, 2, none⟩ = some (.slice xna x.names.length xnc) ∧ w3.drew.cell? ⟨w.heap.size + 1, 3, none⟩ = some (.int .i64 x.const.kind) ∧ w3.drew.cell? ⟨w.heap.size + 1, 4, none⟩ = some (.int .i64 x.const.int) ∧ w3.drew.cell? ⟨w.heap.size + 1, 5, none⟩ = some (.string x.const.text) ∧ w3.drew.cell? ⟨w.heap.size + 1, 6, none⟩ = some (.slice xda xdn xdc) ∧ w3.drew.cell? ⟨w.heap.size + 1, 7, none⟩ = some (.slice xka x.kids.length xkc)) := HSS.out _ HB3D.out
  have xl1 : w.heap.size < w3.heap.size := xl
  clear x0 x1 x2 x3 x4 x5 x6 x7 xl o0 o1 o2 o3 o4 o5 o6 o7 ol
  go_region_held3 (fun w' => w'.cell? ⟨w.heap.size, 0, none⟩ = some (.int .i64 e.kind) ∧ w'.cell? ⟨w.heap.size, 1, none⟩ = some (.string e.name) ∧ w'.cell? ⟨w.heap.size, 2, none⟩ = some (.slice na e.names.length nc) ∧ w'.cell? ⟨w.heap.size, 3, none⟩ = some (.int .i64 e.const.kind) ∧ w'.cell? ⟨w.heap.size, 4, none⟩ = some (.int .i64 e.const.int) ∧ w'.cell? ⟨w.heap.size, 5, none⟩ = some (.string e.const.text) ∧ w'.cell? ⟨w.heap.size, 6, none⟩ = some (.slice da dn dc) ∧ w'.cell? ⟨w.heap.size, 7, none⟩ = some (.slice ka e.kids.length kc) ∧ w'.cell? ⟨w.heap.size + 1, 0, none⟩ = some (.int .i64 x.kind) ∧ w'.cell? ⟨w.heap.size + 1, 1, none⟩ = some (.string x.name) ∧ w'.cell? ⟨w.heap.size + 1, 2, none⟩ = some (.slice xna x.names.length xnc) ∧ w'.cell? ⟨w.heap.size + 1, 3, none⟩ = some (.int .i64 x.const.kind) ∧ w'.cell? ⟨w.heap.size + 1, 4, none⟩ = some (.int .i64 x.const.int) ∧ w'.cell? ⟨w.heap.size + 1, 5, none⟩ = some (.string x.const.text) ∧ w'.cell? ⟨w.heap.size + 1, 6, none⟩ = some (.slice xda xdn xdc) ∧ w'.cell? ⟨w.heap.size + 1, 7, none⟩ = some (.slice xka x.kids.length xkc))
    (first | with_reducible exact HSwf.out | with_reducible exact HSwe.out | with_reducible exact HSwd.out | with_reducible exact HSwc.out | with_reducible exact HSwb.out | with_reducible exact HSwa.out | with_reducible exact HS3D.out | exact HS3D.out | fail)
    (first
      | (go_at_call 27; (with_reducible refine (HCX.out _ HB3D.out).mono ?_); rintro e2 wa ⟨rfl, hb⟩; have HBwa : Hid (Below w2.heap.size w2 wa) := HB3D.out.trans (hb.mono HB3D.out.size); have HSwa : Hid (wa.cell? ⟨w.heap.size, 0, none⟩ = some (.int .i64 e.kind) ∧ wa.cell? ⟨w.heap.size, 1, none⟩ = some (.string e.name) ∧ wa.cell? ⟨w.heap.size, 2, none⟩ = some (.slice na e.names.length nc) ∧ wa.cell? ⟨w.heap.size, 3, none⟩ = some (.int .i64 e.const.kind) ∧ wa.cell? ⟨w.heap.size, 4, none⟩ = some (.int .i64 e.const.int) ∧ wa.cell? ⟨w.heap.size, 5, none⟩ = some (.string e.const.text) ∧ wa.cell? ⟨w.heap.size, 6, none⟩ = some (.slice da dn dc) ∧ wa.cell? ⟨w.heap.size, 7, none⟩ = some (.slice ka e.kids.length kc) ∧ wa.cell? ⟨w.heap.size + 1, 0, none⟩ = some (.int .i64 x.kind) ∧ wa.cell? ⟨w.heap.size + 1, 1, none⟩ = some (.string x.name) ∧ wa.cell? ⟨w.heap.size + 1, 2, none⟩ = some (.slice xna x.names.length xnc) ∧ wa.cell? ⟨w.heap.size + 1, 3, none⟩ = some (.int .i64 x.const.kind) ∧ wa.cell? ⟨w.heap.size + 1, 4, none⟩ = some (.int .i64 x.const.int) ∧ wa.cell? ⟨w.heap.size + 1, 5, none⟩ = some (.string x.const.text) ∧ wa.cell? ⟨w.heap.size + 1, 6, none⟩ = some (.slice xda xdn xdc) ∧ wa.cell? ⟨w.heap.size + 1, 7, none⟩ = some (.slice xka x.kids.length xkc)) := HSS.out _ HBwa.out; clear hb)
      | (go_at_call 12; (with_reducible refine (HHS.out wa HBwa.out).mono ?_); rintro e2 wb ⟨rfl, hb⟩; have HBwb : Hid (Below w2.heap.size w2 wb) := HBwa.out.trans (hb.mono HBwa.out.size); have HSwb : Hid (wb.cell? ⟨w.heap.size, 0, none⟩ = some (.int .i64 e.kind) ∧ wb.cell? ⟨w.heap.size, 1, none⟩ = some (.string e.name) ∧ wb.cell? ⟨w.heap.size, 2, none⟩ = some (.slice na e.names.length nc) ∧ wb.cell? ⟨w.heap.size, 3, none⟩ = some (.int .i64 e.const.kind) ∧ wb.cell? ⟨w.heap.size, 4, none⟩ = some (.int .i64 e.const.int) ∧ wb.cell? ⟨w.heap.size, 5, none⟩ = some (.string e.const.text) ∧ wb.cell? ⟨w.heap.size, 6, none⟩ = some (.slice da dn dc) ∧ wb.cell? ⟨w.heap.size, 7, none⟩ = some (.slice ka e.kids.length kc) ∧ wb.cell? ⟨w.heap.size + 1, 0, none⟩ = some (.int .i64 x.kind) ∧ wb.cell? ⟨w.heap.size + 1, 1, none⟩ = some (.string x.name) ∧ wb.cell? ⟨w.heap.size + 1, 2, none⟩ = some (.slice xna x.names.length xnc) ∧ wb.cell? ⟨w.heap.size + 1, 3, none⟩ = some (.int .i64 x.const.kind) ∧ wb.cell? ⟨w.heap.size + 1, 4, none⟩ = some (.int .i64 x.const.int) ∧ wb.cell? ⟨w.heap.size + 1, 5, none⟩ = some (.string x.const.text) ∧ wb.cell? ⟨w.heap.size + 1, 6, none⟩ = some (.slice xda xdn xdc) ∧ wb.cell? ⟨w.heap.size + 1, 7, none⟩ = some (.slice xka x.kids.length xkc)) := HSS.out _ HBwb.out; clear hb)
      | (go_at_call 13; (with_reducible refine (HFS.out wb HBwb.out).mono ?_); rintro e2 wc ⟨rfl, hb⟩; have HBwc : Hid (Below w2.heap.size w2 wc) := HBwb.out.trans (hb.mono HBwb.out.size); have HSwc : Hid (wc.cell? ⟨w.heap.size, 0, none⟩ = some (.int .i64 e.kind) ∧ wc.cell? ⟨w.heap.size, 1, none⟩ = some (.string e.name) ∧ wc.cell? ⟨w.heap.size, 2, none⟩ = some (.slice na e.names.length nc) ∧ wc.cell? ⟨w.heap.size, 3, none⟩ = some (.int .i64 e.const.kind) ∧ wc.cell? ⟨w.heap.size, 4, none⟩ = some (.int .i64 e.const.int) ∧ wc.cell? ⟨w.heap.size, 5, none⟩ = some (.string e.const.text) ∧ wc.cell? ⟨w.heap.size, 6, none⟩ = some (.slice da dn dc) ∧ wc.cell? ⟨w.heap.size, 7, none⟩ = some (.slice ka e.kids.length kc) ∧ wc.cell? ⟨w.heap.size + 1, 0, none⟩ = some (.int .i64 x.kind) ∧ wc.cell? ⟨w.heap.size + 1, 1, none⟩ = some (.string x.name) ∧ wc.cell? ⟨w.heap.size + 1, 2, none⟩ = some (.slice xna x.names.length xnc) ∧ wc.cell? ⟨w.heap.size + 1, 3, none⟩ = some (.int .i64 x.const.kind) ∧ wc.cell? ⟨w.heap.size + 1, 4, none⟩ = some (.int .i64 x.const.int) ∧ wc.cell? ⟨w.heap.size + 1, 5, none⟩ = some (.string x.const.text) ∧ wc.cell? ⟨w.heap.size + 1, 6, none⟩ = some (.slice xda xdn xdc) ∧ wc.cell? ⟨w.heap.size + 1, 7, none⟩ = some (.slice xka x.kids.length xkc)) := HSS.out _ HBwc.out; clear hb)
      | (go_at_call 30; (with_reducible refine (HFX.out wc HBwc.out).mono ?_); rintro e2 wd ⟨ax, cx, rfl, hsl, _, hb⟩; have HSX := Lib.hid hsl; clear hsl; have HBwd : Hid (Below w2.heap.size w2 wd) := HBwc.out.trans (hb.mono HBwc.out.size); have HSwd : Hid (wd.cell? ⟨w.heap.size, 0, none⟩ = some (.int .i64 e.kind) ∧ wd.cell? ⟨w.heap.size, 1, none⟩ = some (.string e.name) ∧ wd.cell? ⟨w.heap.size, 2, none⟩ = some (.slice na e.names.length nc) ∧ wd.cell? ⟨w.heap.size, 3, none⟩ = some (.int .i64 e.const.kind) ∧ wd.cell? ⟨w.heap.size, 4, none⟩ = some (.int .i64 e.const.int) ∧ wd.cell? ⟨w.heap.size, 5, none⟩ = some (.string e.const.text) ∧ wd.cell? ⟨w.heap.size, 6, none⟩ = some (.slice da dn dc) ∧ wd.cell? ⟨w.heap.size, 7, none⟩ = some (.slice ka e.kids.length kc) ∧ wd.cell? ⟨w.heap.size + 1, 0, none⟩ = some (.int .i64 x.kind) ∧ wd.cell? ⟨w.heap.size + 1, 1, none⟩ = some (.string x.name) ∧ wd.cell? ⟨w.heap.size + 1, 2, none⟩ = some (.slice xna x.names.length xnc) ∧ wd.cell? ⟨w.heap.size + 1, 3, none⟩ = some (.int .i64 x.const.kind) ∧ wd.cell? ⟨w.heap.size + 1, 4, none⟩ = some (.int .i64 x.const.int) ∧ wd.cell? ⟨w.heap.size + 1, 5, none⟩ = some (.string x.const.text) ∧ wd.cell? ⟨w.heap.size + 1, 6, none⟩ = some (.slice xda xdn xdc) ∧ wd.cell? ⟨w.heap.size + 1, 7, none⟩ = some (.slice xka x.kids.length xkc)) := HSS.out _ HBwd.out; clear hb)
      | (go_at_call 30; (with_reducible refine (HFE.out wc HBwc.out).mono ?_); rintro e2 wd ⟨ae, ce, rfl, hsl, _, hb⟩; have HSE := Lib.hid hsl; clear hsl; have HBwd : Hid (Below w2.heap.size w2 wd) := HBwc.out.trans (hb.mono HBwc.out.size); have HSwd : Hid (wd.cell? ⟨w.heap.size, 0, none⟩ = some (.int .i64 e.kind) ∧ wd.cell? ⟨w.heap.size, 1, none⟩ = some (.string e.name) ∧ wd.cell? ⟨w.heap.size, 2, none⟩ = some (.slice na e.names.length nc) ∧ wd.cell? ⟨w.heap.size, 3, none⟩ = some (.int .i64 e.const.kind) ∧ wd.cell? ⟨w.heap.size, 4, none⟩ = some (.int .i64 e.const.int) ∧ wd.cell? ⟨w.heap.size, 5, none⟩ = some (.string e.const.text) ∧ wd.cell? ⟨w.heap.size, 6, none⟩ = some (.slice da dn dc) ∧ wd.cell? ⟨w.heap.size, 7, none⟩ = some (.slice ka e.kids.length kc) ∧ wd.cell? ⟨w.heap.size + 1, 0, none⟩ = some (.int .i64 x.kind) ∧ wd.cell? ⟨w.heap.size + 1, 1, none⟩ = some (.string x.name) ∧ wd.cell? ⟨w.heap.size + 1, 2, none⟩ = some (.slice xna x.names.length xnc) ∧ wd.cell? ⟨w.heap.size + 1, 3, none⟩ = some (.int .i64 x.const.kind) ∧ wd.cell? ⟨w.heap.size + 1, 4, none⟩ = some (.int .i64 x.const.int) ∧ wd.cell? ⟨w.heap.size + 1, 5, none⟩ = some (.string x.const.text) ∧ wd.cell? ⟨w.heap.size + 1, 6, none⟩ = some (.slice xda xdn xdc) ∧ wd.cell? ⟨w.heap.size + 1, 7, none⟩ = some (.slice xka x.kids.length xkc)) := HSS.out _ HBwd.out; clear hb)
      | (go_at_call 30; (with_reducible refine (HFE.out wd HBwd.out).mono ?_); rintro e2 we ⟨ae, ce, rfl, hsl, _, hb⟩; have HSE := Lib.hid hsl; have HSX := Lib.hid (sl_bel HSX.out hb); clear hsl; have HBwe : Hid (Below w2.heap.size w2 we) := HBwd.out.trans (hb.mono HBwd.out.size); have HSwe : Hid (we.cell? ⟨w.heap.size, 0, none⟩ = some (.int .i64 e.kind) ∧ we.cell? ⟨w.heap.size, 1, none⟩ = some (.string e.name) ∧ we.cell? ⟨w.heap.size, 2, none⟩ = some (.slice na e.names.length nc) ∧ we.cell? ⟨w.heap.size, 3, none⟩ = some (.int .i64 e.const.kind) ∧ we.cell? ⟨w.heap.size, 4, none⟩ = some (.int .i64 e.const.int) ∧ we.cell? ⟨w.heap.size, 5, none⟩ = some (.string e.const.text) ∧ we.cell? ⟨w.heap.size, 6, none⟩ = some (.slice da dn dc) ∧ we.cell? ⟨w.heap.size, 7, none⟩ = some (.slice ka e.kids.length kc) ∧ we.cell? ⟨w.heap.size + 1, 0, none⟩ = some (.int .i64 x.kind) ∧ we.cell? ⟨w.heap.size + 1, 1, none⟩ = some (.string x.name) ∧ we.cell? ⟨w.heap.size + 1, 2, none⟩ = some (.slice xna x.names.length xnc) ∧ we.cell? ⟨w.heap.size + 1, 3, none⟩ = some (.int .i64 x.const.kind) ∧ we.cell? ⟨w.heap.size + 1, 4, none⟩ = some (.int .i64 x.const.int) ∧ we.cell? ⟨w.heap.size + 1, 5, none⟩ = some (.string x.const.text) ∧ we.cell? ⟨w.heap.size + 1, 6, none⟩ = some (.slice xda xdn xdc) ∧ we.cell? ⟨w.heap.size + 1, 7, none⟩ = some (.slice xka x.kids.length xkc)) := HSS.out _ HBwe.out; clear hb)
      | (go_at_call 30; (with_reducible refine (HFX.out wd HBwd.out).mono ?_); rintro e2 we ⟨ax, cx, rfl, hsl, _, hb⟩; have HSX := Lib.hid hsl; have HSE := Lib.hid (sl_bel HSE.out hb); clear hsl; have HBwe : Hid (Below w2.heap.size w2 we) := HBwd.out.trans (hb.mono HBwd.out.size); have HSwe : Hid (we.cell? ⟨w.heap.size, 0, none⟩ = some (.int .i64 e.kind) ∧ we.cell? ⟨w.heap.size, 1, none⟩ = some (.string e.name) ∧ we.cell? ⟨w.heap.size, 2, none⟩ = some (.slice na e.names.length nc) ∧ we.cell? ⟨w.heap.size, 3, none⟩ = some (.int .i64 e.const.kind) ∧ we.cell? ⟨w.heap.size, 4, none⟩ = some (.int .i64 e.const.int) ∧ we.cell? ⟨w.heap.size, 5, none⟩ = some (.string e.const.text) ∧ we.cell? ⟨w.heap.size, 6, none⟩ = some (.slice da dn dc) ∧ we.cell? ⟨w.heap.size, 7, none⟩ = some (.slice ka e.kids.length kc) ∧ we.cell? ⟨w.heap.size + 1, 0, none⟩ = some (.int .i64 x.kind) ∧ we.cell? ⟨w.heap.size + 1, 1, none⟩ = some (.string x.name) ∧ we.cell? ⟨w.heap.size + 1, 2, none⟩ = some (.slice xna x.names.length xnc) ∧ we.cell? ⟨w.heap.size + 1, 3, none⟩ = some (.int .i64 x.const.kind) ∧ we.cell? ⟨w.heap.size + 1, 4, none⟩ = some (.int .i64 x.const.int) ∧ we.cell? ⟨w.heap.size + 1, 5, none⟩ = some (.string x.const.text) ∧ we.cell? ⟨w.heap.size + 1, 6, none⟩ = some (.slice xda xdn xdc) ∧ we.cell? ⟨w.heap.size + 1, 7, none⟩ = some (.slice xka x.kids.length xkc)) := HSS.out _ HBwe.out; clear hb)
      | (go_at_call 29; (with_reducible refine (HST.out we ax cx ae ce HSX.out HSE.out).mono ?_); rintro e2 wf ⟨rfl, hb⟩; have HBwf : Hid (Below w2.heap.size w2 wf) := HBwe.out.trans (hb.mono HBwe.out.size); have HSwf : Hid (wf.cell? ⟨w.heap.size, 0, none⟩ = some (.int .i64 e.kind) ∧ wf.cell? ⟨w.heap.size, 1, none⟩ = some (.string e.name) ∧ wf.cell? ⟨w.heap.size, 2, none⟩ = some (.slice na e.names.length nc) ∧ wf.cell? ⟨w.heap.size, 3, none⟩ = some (.int .i64 e.const.kind) ∧ wf.cell? ⟨w.heap.size, 4, none⟩ = some (.int .i64 e.const.int) ∧ wf.cell? ⟨w.heap.size, 5, none⟩ = some (.string e.const.text) ∧ wf.cell? ⟨w.heap.size, 6, none⟩ = some (.slice da dn dc) ∧ wf.cell? ⟨w.heap.size, 7, none⟩ = some (.slice ka e.kids.length kc) ∧ wf.cell? ⟨w.heap.size + 1, 0, none⟩ = some (.int .i64 x.kind) ∧ wf.cell? ⟨w.heap.size + 1, 1, none⟩ = some (.string x.name) ∧ wf.cell? ⟨w.heap.size + 1, 2, none⟩ = some (.slice xna x.names.length xnc) ∧ wf.cell? ⟨w.heap.size + 1, 3, none⟩ = some (.int .i64 x.const.kind) ∧ wf.cell? ⟨w.heap.size + 1, 4, none⟩ = some (.int .i64 x.const.int) ∧ wf.cell? ⟨w.heap.size + 1, 5, none⟩ = some (.string x.const.text) ∧ wf.cell? ⟨w.heap.size + 1, 6, none⟩ = some (.slice xda xdn xdc) ∧ wf.cell? ⟨w.heap.size + 1, 7, none⟩ = some (.slice xka x.kids.length xkc)) := HSS.out _ HBwf.out; clear hb)
      | fail)
  all_goals
    go_wp2_with fail
    go_ret
    exact ⟨rfl, HB02.out.trans (HBwf.out.mono HB02.out.size)⟩
end Ew
end Go.Proofs.YtkplkgdfphbldaaGreat
namespace Go.Proofs.YtkplkgdfphbldaaGreat
open Go.RowKit
set_option linter.unusedVariables false
set_option linter.unusedSimpArgs false
set_option maxRecDepth 100000
namespace Ew
open Rn
set_option maxHeartbeats 16000000 in
theorem tiedForms_any (e : Ex) {w : World} {na : Option Addr} {nc : Nat} {da : Option Addr} {dn dc : Nat} {ka : Option Addr} {kc : Nat} (hf : Ex.Fit e) (ho : Op w e na nc da dn dc ka kc) :
    Calls Tryz.prog 3 #[.agg #[.int .i64 e.kind, .string e.name, .slice na e.names.length nc, .int .i64 e.const.kind, .int .i64 e.const.int, .string e.const.text, .slice da dn dc, .slice ka e.kids.length kc]] w (Says (.bool true) w) := by
  obtain ⟨w1, B1⟩ := boxed w #[.int .i64 e.kind, .string e.name, .slice na e.names.length nc, .int .i64 e.const.kind, .int .i64 e.const.int, .string e.const.text, .slice da dn dc, .slice ka e.kids.length kc] 28
  have HFX := Lib.hid (pFix_any e hf (ho.bel B1.below))
  have HF := Lib.hid hf
  have HO := Lib.hid (ho.bel B1.below)
  have HB1 := Lib.hid B1
  have HPB := Lib.hid B1.blk
  obtain ⟨x0, x1, x2, x3, x4, x5, x6, x7, xl⟩ := Row.of B1.blk
  clear B1 hf ho
  go_enter Tryz.func3, Tryz.ntmps3
  go_upto_region 1 with fail
  rw [← HB1.out.eq]
  go_wp2_with fail
  with_reducible refine HFX.out.mono ?_
  rintro e2 w3 (⟨hok, rfl, hb3⟩ | ⟨hok, ⟨hk2, ⟨ye, yn, yd, yk⟩, hye, rfl, hex, hb3⟩ | ⟨hk2, rfl, hb3⟩⟩)
  · have HOK := Lib.hid hok
    have HB3 := Lib.hid hb3
    clear hok hb3
    go_upto_region 2 with fail
    · skip
      obtain ⟨w4, B4⟩ := boxed w3 #[.int .i64 0, .string ⟨#[]⟩, .slice none 0 0, .int .i64 0, .int .i64 0, .string ⟨#[]⟩, .slice none 0 0, .slice none 0 0] 28
      rw [← B4.eq]
      have hb14 : Below w1.heap.size w1 w4 := HB3.out.trans (B4.below.mono HB3.out.size)
      have HKO := Lib.hid B4.blk
      have HB14 := Lib.hid hb14
      have HPE := Lib.hid ((hb14.block _ (Array.getElem?_eq_some_iff.1 HPB.out).1).trans HPB.out)
      have HB34 := Lib.hid B4.below
      clear hb14 B4 x0 x1 x2 x3 x4 x5 x6 x7 xl
      go_wp2_with (first
        | (go_at_call 10; (with_reducible refine (fixed10_any _).mono ?_); rintro e2 w5 ⟨rfl, hb5⟩; have HB15 : Hid (Below w1.heap.size w1 w5) := HB14.out.trans (hb5.mono HB14.out.size); obtain ⟨x0, x1, x2, x3, x4, x5, x6, x7, xl⟩ := Row.of ((hb5.block _ (Array.getElem?_eq_some_iff.1 HPE.out).1).trans HPE.out); obtain ⟨o0, o1, o2, o3, o4, o5, o6, o7, ol⟩ := Row.of ((hb5.block _ (Array.getElem?_eq_some_iff.1 HKO.out).1).trans HKO.out); have HB35 : Hid (Below w3.heap.size w3 w5) := HB34.out.trans (hb5.mono HB34.out.size); clear hb5)
        | (go_at_call 11; (with_reducible refine (told_form e HF.out (HO.out.bel HB15.out) HOK.out).mono ?_); rintro e2 w6 ⟨rfl, hb6⟩; have HB6 : Hid (Below w1.heap.size w1 w6) := HB15.out.trans (hb6.mono HB15.out.size); clear hb6)
        | fail)
      go_ret
      exact ⟨rfl, HB1.out.below.trans (HB6.out.mono HB1.out.below.size)⟩
  · obtain ⟨yna, ync, yda, ydn, ydc, yka, ykc, v1, v2, v3, hop⟩ := op_of hex.at
    dsimp only at hye v1 v2 v3 hop
    subst v1 v2 v3
    unfold XM.val exV
    dsimp only
    have HOK := Lib.hid hok
    have HK2 := Lib.hid hk2
    have HYE := Lib.hid hye
    have HOP := Lib.hid hop
    have HB3 := Lib.hid hb3
    have HFM := Lib.hid ((Ex.ok_iff e).1 hok).1
    clear hok hk2 hye hop hex hb3
    go_upto_region 2 with fail
    · skip
      obtain ⟨w4, B4⟩ := boxed w3 #[.int .i64 ye.kind, .string ye.name, .slice yna ye.names.length ync, .int .i64 ye.const.kind, .int .i64 ye.const.int, .string ye.const.text, .slice yda ydn ydc, .slice yka ye.kids.length ykc] 28
      rw [← B4.eq]
      have hb14 : Below w1.heap.size w1 w4 := HB3.out.trans (B4.below.mono HB3.out.size)
      have HKO := Lib.hid B4.blk
      have HB14 := Lib.hid hb14
      have HPE := Lib.hid ((hb14.block _ (Array.getElem?_eq_some_iff.1 HPB.out).1).trans HPB.out)
      have HB34 := Lib.hid B4.below
      clear hb14 B4 x0 x1 x2 x3 x4 x5 x6 x7 xl
      go_wp2_with (first
        | (go_at_call 10; (with_reducible refine (fixed10_any _).mono ?_); rintro e2 w5 ⟨rfl, hb5⟩; have HB15 : Hid (Below w1.heap.size w1 w5) := HB14.out.trans (hb5.mono HB14.out.size); obtain ⟨x0, x1, x2, x3, x4, x5, x6, x7, xl⟩ := Row.of ((hb5.block _ (Array.getElem?_eq_some_iff.1 HPE.out).1).trans HPE.out); obtain ⟨o0, o1, o2, o3, o4, o5, o6, o7, ol⟩ := Row.of ((hb5.block _ (Array.getElem?_eq_some_iff.1 HKO.out).1).trans HKO.out); have HB35 : Hid (Below w3.heap.size w3 w5) := HB34.out.trans (hb5.mono HB34.out.size); clear hb5)
        | (go_at_call 11; (with_reducible refine (told_fine e ye HF.out (HO.out.bel HB15.out) HOK.out (by rw [HYE.out]; exact (fix_sizes HOK.out).2.2) (HOP.out.bel HB35.out) (by rw [HYE.out]; exact HK2.out) (by rw [HYE.out]; exact Ex.norec_fixE e HFM.out) (by rw [HYE.out]; exact Ex.fixSet_fixE e HFM.out) (by rw [HYE.out]; exact Ex.freeNames_fixE HFM.out)).mono ?_); rintro e2 w6 ⟨rfl, hb6⟩; have HB6 : Hid (Below w1.heap.size w1 w6) := HB15.out.trans (hb6.mono HB15.out.size); clear hb6)
        | fail)
      go_ret
      exact ⟨rfl, HB1.out.below.trans (HB6.out.mono HB1.out.below.size)⟩
  · have HOK := Lib.hid hok
    have HK2 := Lib.hid hk2
    have HB3 := Lib.hid hb3
    have HSM : Hid ((decide (e.size ≤ 400) && decide (e.deep ≤ 25)) = false) := by
      unfold Hid
      rw [Bool.eq_false_iff]
      intro h
      rw [Bool.and_eq_true, decide_eq_true_eq, decide_eq_true_eq] at h
      rw [Ex.small_ok hok h.1 h.2] at hk2
      cases hk2
    clear hok hk2 hb3
    go_upto_region 2 with fail
    · skip
      obtain ⟨w4, B4⟩ := boxed w3 #[.int .i64 0, .string ⟨#[]⟩, .slice none 0 0, .int .i64 0, .int .i64 0, .string ⟨#[]⟩, .slice none 0 0, .slice none 0 0] 28
      rw [← B4.eq]
      have hb14 : Below w1.heap.size w1 w4 := HB3.out.trans (B4.below.mono HB3.out.size)
      have HKO := Lib.hid B4.blk
      have HB14 := Lib.hid hb14
      have HPE := Lib.hid ((hb14.block _ (Array.getElem?_eq_some_iff.1 HPB.out).1).trans HPB.out)
      have HB34 := Lib.hid B4.below
      clear hb14 B4 x0 x1 x2 x3 x4 x5 x6 x7 xl
      go_wp2_with (first
        | (go_at_call 10; (with_reducible refine (fixed10_any _).mono ?_); rintro e2 w5 ⟨rfl, hb5⟩; have HB15 : Hid (Below w1.heap.size w1 w5) := HB14.out.trans (hb5.mono HB14.out.size); obtain ⟨x0, x1, x2, x3, x4, x5, x6, x7, xl⟩ := Row.of ((hb5.block _ (Array.getElem?_eq_some_iff.1 HPE.out).1).trans HPE.out); obtain ⟨o0, o1, o2, o3, o4, o5, o6, o7, ol⟩ := Row.of ((hb5.block _ (Array.getElem?_eq_some_iff.1 HKO.out).1).trans HKO.out); have HB35 : Hid (Below w3.heap.size w3 w5) := HB34.out.trans (hb5.mono HB34.out.size); clear hb5)
        | (go_at_call 11; (with_reducible refine (told_many e HF.out (HO.out.bel HB15.out) HOK.out HSM.out).mono ?_); rintro e2 w6 ⟨rfl, hb6⟩; have HB6 : Hid (Below w1.heap.size w1 w6) := HB15.out.trans (hb6.mono HB15.out.size); clear hb6)
        | fail)
      go_ret
      exact ⟨rfl, HB1.out.below.trans (HB6.out.mono HB1.out.below.size)⟩
end Ew
end Go.Proofs.YtkplkgdfphbldaaGreat
namespace Go.Proofs.YtkplkgdfphbldaaGreat
open Go.RowKit
set_option linter.unusedVariables false
set_option linter.unusedSimpArgs false
set_option maxRecDepth 100000
namespace Ew
open Rn
theorem fix_again {y : Ex} {w : World} {na : Option Addr} {nc : Nat} {da : Option Addr} {dn dc : Nat} {ka : Option Addr} {kc : Nat} (hok : Ex.ok y = true) (h9 : Ex.has 9 y = false) (hs : Ex.fixSet y = false) (ho : Op w y na nc da dn dc ka kc) :
    Calls Tryz.prog 9 #[.agg #[.int .i64 y.kind, .string y.name, .slice na y.names.length nc, .int .i64 y.const.kind, .int .i64 y.const.int, .string y.const.text, .slice da dn dc, .slice ka y.kids.length kc]] w fun en w' => ∃ x : XM, x.e = y ∧ en = .returned (.tuple #[x.val, .int .i64 0]) ∧ ExAt w' x.val x.e ∧ Below w.heap.size w w' := by
  have hid := Ex.fixE_id y ((Ex.ok_iff y).1 hok).1 h9 hs
  refine (pFix_any y (fit_ok hok) ho).mono fun en w' h => ?_
  rcases h with ⟨h1, _⟩ | ⟨_, ⟨_, x, h1, h2, h3, h4⟩ | ⟨h1, _⟩⟩
  · rw [hok] at h1
    cases h1
  · exact ⟨x, h1.trans hid, h2, h3.at, h4⟩
  · rw [hid, hok] at h1
    cases h1
set_option maxHeartbeats 16000000 in
theorem tiedAgain_any (e : Ex) {w : World} {na : Option Addr} {nc : Nat} {da : Option Addr} {dn dc : Nat} {ka : Option Addr} {kc : Nat} (hf : Ex.Fit e) (ho : Op w e na nc da dn dc ka kc) :
    Calls Tryz.prog 4 #[.agg #[.int .i64 e.kind, .string e.name, .slice na e.names.length nc, .int .i64 e.const.kind, .int .i64 e.const.int, .string e.const.text, .slice da dn dc, .slice ka e.kids.length kc]] w (Says (.bool true) w) := by
  obtain ⟨w1, B1⟩ := boxed w #[.int .i64 e.kind, .string e.name, .slice na e.names.length nc, .int .i64 e.const.kind, .int .i64 e.const.int, .string e.const.text, .slice da dn dc, .slice ka e.kids.length kc] 28
  have HFX := Lib.hid (pFix_any e hf (ho.bel B1.below))
  have HF := Lib.hid hf
  have HO := Lib.hid (ho.bel B1.below)
  have HB1 := Lib.hid B1
  have HPB := Lib.hid B1.blk
  obtain ⟨x0, x1, x2, x3, x4, x5, x6, x7, xl⟩ := Row.of B1.blk
  clear B1 hf ho
  go_enter Tryz.func4, Tryz.ntmps4
  go_upto_region 1 with fail
  rw [← HB1.out.eq]
  go_wp2_with fail
  with_reducible refine HFX.out.mono ?_
  rintro e2 w3 (⟨hok, rfl, hb3⟩ | ⟨hok, ⟨hk2, ⟨ye, yn, yd, yk⟩, hye, rfl, hex, hb3⟩ | ⟨hk2, rfl, hb3⟩⟩)
  · have HB3 := Lib.hid hb3
    clear hok hb3
    obtain ⟨w4, B4⟩ := boxed w3 #[.int .i64 0, .string ⟨#[]⟩, .slice none 0 0, .int .i64 0, .int .i64 0, .string ⟨#[]⟩, .slice none 0 0, .slice none 0 0] 28
    go_upto_region 2 with fail
    rw [← B4.eq]
    have HB14 : Hid (Below w1.heap.size w1 w4) := HB3.out.trans (B4.below.mono HB3.out.size)
    clear B4 x0 x1 x2 x3 x4 x5 x6 x7 xl
    go_upto_region 3 with (first
      | (go_at_call 10; (with_reducible refine (fixed10_any _).mono ?_); rintro e2 w5 ⟨rfl, hb5⟩; have HB15 : Hid (Below w1.heap.size w1 w5) := HB14.out.trans (hb5.mono HB14.out.size); clear hb5)
      | fail)
    go_wp2_with (first
      | (go_at_call 10; (with_reducible refine (fixed10_any _).mono ?_); rintro e2 w6 ⟨rfl, hb6⟩; have HB6 : Hid (Below w1.heap.size w1 w6) := HB15.out.trans (hb6.mono HB15.out.size); clear hb6)
      | fail)
    go_ret
    exact ⟨rfl, HB1.out.below.trans (HB6.out.mono HB1.out.below.size)⟩
  · obtain ⟨yna, ync, yda, ydn, ydc, yka, ykc, v1, v2, v3, hop⟩ := op_of hex.at
    dsimp only at hye v1 v2 v3 hop
    subst v1 v2 v3
    unfold XM.val exV
    dsimp only
    have hfm := ((Ex.ok_iff e).1 hok).1
    have HYK : Hid (Ex.ok ye = true) := by unfold Hid; rw [hye]; exact hk2
    have HY9 : Hid (Ex.has 9 ye = false) := by unfold Hid; rw [hye]; exact Ex.norec_fixE e hfm
    have HYF : Hid (Ex.fixSet ye = false) := by unfold Hid; rw [hye]; exact Ex.fixSet_fixE e hfm
    have HSE : Hid (Ex.has 9 e = false → Ex.fixSet e = false → Ex.same ye e = true) := fun h1 h2 => by rw [hye, Ex.fixE_id e hfm h1 h2]; exact Ex.same_refl e
    have HFE := Lib.hid (few_of_ok hok).1
    have HFY := Lib.hid (few_of_ok HYK.out).1
    have HOP := Lib.hid hop
    have HB3 := Lib.hid hb3
    have HES := Lib.hid ((Ex.ok_iff e).1 hok).2.2
    clear hok hk2 hye hop hex hb3 hfm
    obtain ⟨w4, B4⟩ := boxed w3 #[.int .i64 ye.kind, .string ye.name, .slice yna ye.names.length ync, .int .i64 ye.const.kind, .int .i64 ye.const.int, .string ye.const.text, .slice yda ydn ydc, .slice yka ye.kids.length ykc] 28
    go_upto_region 2 with fail
    rw [← B4.eq]
    have hb14 : Below w1.heap.size w1 w4 := HB3.out.trans (B4.below.mono HB3.out.size)
    have HB14 := Lib.hid hb14
    have HKY := Lib.hid B4.blk
    have HOP4 := Lib.hid (HOP.out.bel B4.below)
    have HPE := Lib.hid ((hb14.block _ (Array.getElem?_eq_some_iff.1 HPB.out).1).trans HPB.out)
    clear B4 hb14 x0 x1 x2 x3 x4 x5 x6 x7 xl
    go_upto_region 4 with (first
      | (go_at_call 10; (with_reducible refine (fixed10_any _).mono ?_); rintro e2 w5 ⟨rfl, hb5⟩; have HB45 := Lib.hid hb5; clear hb5)
      | fail)
    have HOE5 := Lib.hid ((HO.out.bel HB14.out).bel HB45.out)
    have HOP5 := Lib.hid (HOP4.out.bel HB45.out)
    have HPE5 := Lib.hid ((HB45.out.block _ (Array.getElem?_eq_some_iff.1 HPE.out).1).trans HPE.out)
    have HKY5 := Lib.hid ((HB45.out.block _ (Array.getElem?_eq_some_iff.1 HKY.out).1).trans HKY.out)
    go_cut [32] (fun s wx => s = .bool false ∧ Hid (Below w5.heap.size w5 wx))
    case first =>
      obtain ⟨x0, x1, x2, x3, x4, x5, x6, x7, xl⟩ := Row.of HPE5.out
      have HH := Lib.hid (rhas_any 9 e (by have := HES.out; omega) HOE5.out)
      have HFS : Hid (∀ W, Below w5.heap.size w5 W → Calls Tryz.prog 13 #[.agg #[.int .i64 e.kind, .string e.name, .slice na e.names.length nc, .int .i64 e.const.kind, .int .i64 e.const.int, .string e.const.text, .slice da dn dc, .slice ka e.kids.length kc]] W (Says (.bool (Ex.fixSet e)) W)) := fun W hW => rfixset_any e HFE.out (HOE5.out.bel hW)
      have HSA : Hid (∀ W, Below w5.heap.size w5 W → Calls Tryz.prog 14 #[.agg #[.int .i64 ye.kind, .string ye.name, .slice yna ye.names.length ync, .int .i64 ye.const.kind, .int .i64 ye.const.int, .string ye.const.text, .slice yda ydn ydc, .slice yka ye.kids.length ykc], .agg #[.int .i64 e.kind, .string e.name, .slice na e.names.length nc, .int .i64 e.const.kind, .int .i64 e.const.int, .string e.const.text, .slice da dn dc, .slice ka e.kids.length kc]] W (Says (.bool (Ex.same ye e)) W)) := fun W hW => r6same_any ye e HFY.out HFE.out (HOP5.out.bel hW) (HOE5.out.bel hW)
      cases h9 : Ex.has 9 e with
      | true =>
        rw [h9] at HH
        clear h9
        go_wp2_with fail
        with_reducible refine HH.out.mono ?_
        rintro e2 w6 ⟨rfl, hb6⟩
        have HB6 := Lib.hid hb6
        clear hb6
        go_wp2_with fail
        go_meet
        exact ⟨rfl, HB6.out⟩
      | false =>
        rw [h9] at HH
        have H9 := Lib.hid h9
        clear h9
        go_wp2_with fail
        with_reducible refine HH.out.mono ?_
        rintro e2 w6 ⟨rfl, hb6⟩
        have HB6 := Lib.hid hb6
        clear hb6 x0 x1 x2 x3 x4 x5 x6 x7 xl
        obtain ⟨x0, x1, x2, x3, x4, x5, x6, x7, xl⟩ := (Row.of HPE5.out).bel HB6.out
        cases hs : Ex.fixSet e with
        | true =>
          rw [hs] at HFS
          clear hs
          go_wp2_with fail
          with_reducible refine (HFS.out _ HB6.out).mono ?_
          rintro e2 w7 ⟨rfl, hb7⟩
          have HB7 := Lib.hid (HB6.out.trans (hb7.mono HB6.out.size))
          clear hb7
          go_wp2_with fail
          go_meet
          exact ⟨rfl, HB7.out⟩
        | false =>
          rw [hs] at HFS
          have hse := HSE.out H9.out hs
          rw [hse] at HSA
          clear hs hse
          go_wp2_with fail
          with_reducible refine (HFS.out _ HB6.out).mono ?_
          rintro e2 w7 ⟨rfl, hb7⟩
          have HB7 := Lib.hid (HB6.out.trans (hb7.mono HB6.out.size))
          clear hb7 x0 x1 x2 x3 x4 x5 x6 x7 xl
          obtain ⟨x0, x1, x2, x3, x4, x5, x6, x7, xl⟩ := (Row.of HPE5.out).bel HB7.out
          obtain ⟨o0, o1, o2, o3, o4, o5, o6, o7, ol⟩ := (Row.of HKY5.out).bel HB7.out
          go_wp2_with fail
          with_reducible refine (HSA.out _ HB7.out).mono ?_
          rintro e2 w8 ⟨rfl, hb8⟩
          have HB8 := Lib.hid (HB7.out.trans (hb8.mono HB7.out.size))
          clear hb8
          go_wp2_with fail
          go_meet
          exact ⟨rfl, HB8.out⟩
    case rest =>
      obtain ⟨rfl, hbc⟩ := hcut
      obtain ⟨o0, o1, o2, o3, o4, o5, o6, o7, ol⟩ := (Row.of HKY5.out).bel hbc.out
      have HOPC := Lib.hid (HOP5.out.bel hbc.out)
      have HAG := Lib.hid (fix_again HYK.out HY9.out HYF.out HOPC.out)
      go_upto_region 7 with (first
        | (go_at_call 9; (with_reducible refine HAG.out.mono ?_); rintro e2 w9 ⟨⟨ze, zn, zd, zk⟩, hze, rfl, hex, hb9⟩; obtain ⟨zna, znc, zda, zdn, zdc, zka, zkc, v1, v2, v3, hop⟩ := op_of hex; dsimp only at hze v1 v2 v3 hop; subst v1 v2 v3; unfold XM.val exV; dsimp only; have HZE := Lib.hid hze; have HZP := Lib.hid hop; have HB9 := Lib.hid hb9; clear hze hop hex hb9)
        | fail)
      obtain ⟨wt, BT⟩ := boxed w9 #[.int .i64 ze.kind, .string ze.name, .slice zna ze.names.length znc, .int .i64 ze.const.kind, .int .i64 ze.const.int, .string ze.const.text, .slice zda zdn zdc, .slice zka ze.kids.length zkc] 28
      rw [← BT.eq]
      have hbt : Below wc.heap.size wc wt := HB9.out.trans (BT.below.mono HB9.out.size)
      have HSZ := Lib.hid (r6same_any ze ye (by rw [HZE.out]; exact HFY.out) HFY.out (HZP.out.bel BT.below) (HOPC.out.bel hbt))
      have hzs : Ex.same ze ye = true := by rw [HZE.out]; exact Ex.same_refl ye
      rw [hzs] at HSZ
      have HBT := Lib.hid hbt
      obtain ⟨k0, k1, k2, k3, k4, k5, k6, k7, kl⟩ := Row.of BT.blk
      clear o0 o1 o2 o3 o4 o5 o6 o7 ol
      obtain ⟨o0, o1, o2, o3, o4, o5, o6, o7, ol⟩ := ((Row.of HKY5.out).bel hbc.out).bel hbt
      clear BT hbt hzs
      go_wp2_with (first
        | (go_at_call 14; (with_reducible refine HSZ.out.mono ?_); rintro e2 wu ⟨rfl, hbu⟩; have HBU := Lib.hid (HBT.out.trans (hbu.mono HBT.out.size)); clear hbu)
        | fail)
      go_ret
      exact ⟨rfl, HB1.out.below.trans ((HB14.out.trans ((HB45.out.trans ((hbc.out.trans (HBU.out.mono hbc.out.size)).mono HB45.out.size)).mono HB14.out.size)).mono HB1.out.below.size)⟩
  · have HB3 := Lib.hid hb3
    clear hok hk2 hb3
    obtain ⟨w4, B4⟩ := boxed w3 #[.int .i64 0, .string ⟨#[]⟩, .slice none 0 0, .int .i64 0, .int .i64 0, .string ⟨#[]⟩, .slice none 0 0, .slice none 0 0] 28
    go_upto_region 2 with fail
    rw [← B4.eq]
    have HB14 : Hid (Below w1.heap.size w1 w4) := HB3.out.trans (B4.below.mono HB3.out.size)
    clear B4 x0 x1 x2 x3 x4 x5 x6 x7 xl
    go_upto_region 3 with (first
      | (go_at_call 10; (with_reducible refine (fixed10_any _).mono ?_); rintro e2 w5 ⟨rfl, hb5⟩; have HB15 : Hid (Below w1.heap.size w1 w5) := HB14.out.trans (hb5.mono HB14.out.size); clear hb5)
      | fail)
    go_wp2_with (first
      | (go_at_call 10; (with_reducible refine (fixed10_any _).mono ?_); rintro e2 w6 ⟨rfl, hb6⟩; have HB6 : Hid (Below w1.heap.size w1 w6) := HB15.out.trans (hb6.mono HB15.out.size); clear hb6)
      | fail)
    go_ret
    exact ⟨rfl, HB1.out.below.trans (HB6.out.mono HB1.out.below.size)⟩
end Ew
end Go.Proofs.YtkplkgdfphbldaaGreat
