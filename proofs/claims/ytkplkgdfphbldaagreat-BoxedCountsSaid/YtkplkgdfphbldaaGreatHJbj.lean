/- Expressions: the reference's form, kind 10. -/
import Derived.Test.YtkplkgdfphbldaaGreatHJbi
namespace Go.Proofs.YtkplkgdfphbldaaGreat
open Go.RowKit
open Go.Lib (hid)
set_option linter.unusedVariables false
set_option linter.unusedSimpArgs false
set_option linter.unnecessarySimpa false
set_option maxRecDepth 100000
namespace Ew
open Rn
set_option maxHeartbeats 16000000 in
theorem rform_10 (e : Ex) {w : World} {na : Option Addr} {nc : Nat} {da : Option Addr} {dn dc : Nat} {ka : Option Addr} {kc : Nat} (hf : Fits e) (ho : Op w e na nc da dn dc ka kc) (hk : e.kind = 10) :
  Calls Tryz.prog 65 #[.agg #[.int .i64 e.kind, .string e.name, .slice na e.names.length nc, .int .i64 e.const.kind, .int .i64 e.const.int, .string e.const.text, .slice da dn dc, .slice ka e.kids.length kc]] w (Says (.bool (Ex.form e)) w) := by
 obtain ⟨w1, B1⟩ := boxedE w e na nc da dn dc ka kc
 have hdn := ho.dn
 have hR := Row.of B1.blk
 have HO := hid (ho.bel B1.below)
 have HB := hid B1
 have HR := hid hR
 have HFT := hid hf
 have hnl := hf.nl
 have hkl := hf.kl
 obtain ⟨x0, x1, x2, x3, x4, x5, x6, x7, hbl⟩ := hR
 clear B1 ho
 have hdl : dn ≤ 9223372036854775807 := by rw [hdn]; exact hf.cl
 have HDN := hid hdn
 have q0 : (e.kind == 0) = false := by rw [hk]; rfl
 have q1 : (e.kind == 1) = false := by rw [hk]; rfl
 have q2 : (e.kind == 2) = false := by rw [hk]; rfl
 have q3 : (e.kind == 3) = false := by rw [hk]; rfl
 have q4 : (e.kind == 4) = false := by rw [hk]; rfl
 have q5 : (e.kind == 5) = false := by rw [hk]; rfl
 have q6 : (e.kind == 6) = false := by rw [hk]; rfl
 have q7 : (e.kind == 7) = false := by rw [hk]; rfl
 have q8 : (e.kind == 8) = false := by rw [hk]; rfl
 have q9 : (e.kind == 9) = false := by rw [hk]; rfl
 have q10 : (e.kind == 10) = true := by rw [hk]; rfl
 obtain ⟨W, hW⟩ : ∃ W, IntKind.i64.wrap ((e.names.length : Int) + 1) = W := ⟨_, rfl⟩
 have hW2 : (e.kids.length : Int) = W ↔ e.kids.length = e.names.length + 1 := by rw [← hW, IntKind.wrap_i64]; omega
 obtain ⟨tn1, tn2, tn3⟩ := text_nil e.name
 have hne : ((e.names.length : Int) == 0) = e.names.isEmpty := by
  cases h : e.names with
  | nil => rfl
  | cons a l => rw [List.length_cons]; simp; omega
 have hke : ((e.kids.length : Int) == 0) = e.kids.isEmpty := by
  cases h : e.kids with
  | nil => rfl
  | cons a l => rw [List.length_cons]; simp; omega
 obtain ⟨cs, hcs⟩ : ∃ b, Dt.same e.const Dt.zero = b := ⟨_, rfl⟩
 obtain ⟨nm, hnm⟩ : ∃ b, Ex.namesB e.names = b := ⟨_, rfl⟩
 obtain ⟨b1, h1⟩ : ∃ b, Nm.nameB e.name = b := ⟨_, rfl⟩
 obtain ⟨b2, h2⟩ : ∃ b, e.names.isEmpty = b := ⟨_, rfl⟩
 obtain ⟨b3, h3⟩ : ∃ b, decide (e.name = ⟨#[]⟩) = b := ⟨_, rfl⟩
 obtain ⟨c1, d1⟩ : ∃ b, (decide (1 ≤ e.names.length) : Bool) = b := ⟨_, rfl⟩
 obtain ⟨c2, d2⟩ : ∃ b, (decide (e.kids.length = e.names.length + 1) : Bool) = b := ⟨_, rfl⟩
 obtain ⟨c3, d3⟩ : ∃ b, (e.kids.take e.names.length).all (fun x => decide (x.kind = 5)) = b := ⟨_, rfl⟩
 have HF : Hid (Ex.form e = (cs && nm && (b3 && c1 && c2 && c3))) := by
  unfold Hid Ex.form
  rw [hk]
  rw [if_neg (by decide : ¬ (10 : Int) = 0)]
  rw [if_neg (by decide : ¬ (10 : Int) = 1)]
  rw [if_neg (by decide : ¬ (10 : Int) = 2)]
  rw [if_neg (by decide : ¬ (10 : Int) = 3)]
  rw [if_neg (by decide : ¬ (10 : Int) = 4)]
  rw [if_neg (by decide : ¬ (10 : Int) = 5)]
  rw [if_neg (by decide : ¬ (10 : Int) = 6)]
  rw [if_neg (by decide : ¬ (10 : Int) = 7)]
  rw [if_neg (by decide : ¬ (10 : Int) = 8)]
  rw [if_neg (by decide : ¬ (10 : Int) = 9)]
  rw [if_pos rfl]
  rw [hcs, hnm, h3, d1, d2, d3]
 have f0 : decide ((e.names.length : Int) < 1) = !c1 := by
  rw [← d1]
  by_cases h : 1 ≤ e.names.length
  ·rw [decide_eq_true h]; exact decide_eq_false (by omega)
  ·rw [decide_eq_false h]; exact decide_eq_true (by omega)
 have f1 : ((e.kids.length : Int) != W) = !c2 := by
  rw [← d2]
  by_cases h : (e.kids.length : Int) = W
  ·rw [decide_eq_true (hW2.1 h), h]; simp
  ·rw [decide_eq_false (fun x => h (hW2.2 x))]; simpa using h
 have HSC : Hid (Calls Tryz.prog 32 #[.agg #[.int .i64 e.const.kind, .int .i64 e.const.int, .string e.const.text, .slice da dn dc], .agg #[.int .i64 0, .int .i64 0, .string ⟨#[]⟩, .slice none 0 0]] w1 (Says (.bool cs) w1)) := by
  have h := rsame_bare e.const.kind e.const.int e.const.text da dn dc hdl w1
  rw [hdn, ← same_zero, hcs, ← hdn] at h
  exact h
 have HNM : Hid (∀ w2, Below w1.heap.size w1 w2 → Calls Tryz.prog 86 #[.slice na e.names.length nc] w2 (Says (.bool nm) w2)) := fun w2 hb => by
  rw [← hnm]
  exact rnames_any e.names (HO.out.bel hb).names HO.out.room hnl HFT.out.names
 have HN1 : Hid (∀ w2, Calls Tryz.prog 87 #[.string e.name] w2 fun e' w' => e' = .returned (.bool b1) ∧ w2 = w') := fun w2 => by
  rw [← h1]
  exact rname_any e.name HFT.out.name w2
 have D3 := hid d3
 have D2 := hid d2
 rw [h3] at tn1 tn2 tn3
 rw [h2] at hne
 have HKE := hid hke
 have HW2 := hid hW2
 clear hke hW2 hcs hnm h1 h2 h3 hdn d1 d2 d3 hk
 cases cs with
 | false =>
  go_enter Tryz.func65, Tryz.ntmps65
  go_upto_region 1 with fail
  rw [← HB.out.eq]
  go_wp2_with fail
  with_reducible refine HSC.out.mono ?_
  rintro e2 w2 ⟨rfl, hb2⟩
  have HBW : Hid (Below w1.heap.size w1 w2) := hb2
  clear hb2
  obtain ⟨y0, y1, y2, y3, y4, y5, y6, y7, ybl⟩ := HR.out.bel HBW.out
  go_wp2_with fail
  go_ret
  exact ⟨by rw [HF.out]; rfl, HB.out.below.trans (HBW.out.mono HB.out.below.size)⟩
 | true =>
  cases nm with
  | false =>
   go_enter Tryz.func65, Tryz.ntmps65
   go_upto_region 1 with fail
   rw [← HB.out.eq]
   go_wp2_with fail
   with_reducible refine HSC.out.mono ?_
   rintro e2 w2 ⟨rfl, hb2⟩
   have HBW : Hid (Below w1.heap.size w1 w2) := hb2
   clear hb2
   obtain ⟨y0, y1, y2, y3, y4, y5, y6, y7, ybl⟩ := HR.out.bel HBW.out
   go_wp2_with fail
   with_reducible refine (HNM.out _ HBW.out).mono ?_
   rintro e2 w3 ⟨rfl, hb2⟩
   have HBW : Hid (Below w1.heap.size w1 w3) := HBW.out.trans (hb2.mono HBW.out.size)
   clear hb2
   obtain ⟨y0, y1, y2, y3, y4, y5, y6, y7, ybl⟩ := HR.out.bel HBW.out
   go_wp2_with fail
   go_ret
   exact ⟨by rw [HF.out]; rfl, HB.out.below.trans (HBW.out.mono HB.out.below.size)⟩
  | true =>
   cases b3 with
   | false =>
    cases b1 <;> cases b2
    all_goals
     go_enter Tryz.func65, Tryz.ntmps65
     go_upto_region 1 with fail
     rw [← HB.out.eq]
     go_wp2_with fail
     with_reducible refine HSC.out.mono ?_
     rintro e2 w2 ⟨rfl, hb2⟩
     have HBW : Hid (Below w1.heap.size w1 w2) := hb2
     clear hb2
     obtain ⟨y0, y1, y2, y3, y4, y5, y6, y7, ybl⟩ := HR.out.bel HBW.out
     go_wp2_with fail
     with_reducible refine (HNM.out _ HBW.out).mono ?_
     rintro e2 w3 ⟨rfl, hb2⟩
     have HBW : Hid (Below w1.heap.size w1 w3) := HBW.out.trans (hb2.mono HBW.out.size)
     clear hb2
     obtain ⟨y0, y1, y2, y3, y4, y5, y6, y7, ybl⟩ := HR.out.bel HBW.out
     go_wp2_with fail
     with_reducible refine (HN1.out _).mono ?_
     rintro e2 v2 ⟨rfl, rfl⟩
     go_wp2_with fail
     go_ret
     exact ⟨by rw [HF.out]; rfl, HB.out.below.trans (HBW.out.mono HB.out.below.size)⟩
   | true =>
    cases c1 with
    | false =>
     cases b1 <;> cases b2
     all_goals
      go_enter Tryz.func65, Tryz.ntmps65
      go_upto_region 1 with fail
      rw [← HB.out.eq]
      go_wp2_with fail
      with_reducible refine HSC.out.mono ?_
      rintro e2 w2 ⟨rfl, hb2⟩
      have HBW : Hid (Below w1.heap.size w1 w2) := hb2
      clear hb2
      obtain ⟨y0, y1, y2, y3, y4, y5, y6, y7, ybl⟩ := HR.out.bel HBW.out
      go_wp2_with fail
      with_reducible refine (HNM.out _ HBW.out).mono ?_
      rintro e2 w3 ⟨rfl, hb2⟩
      have HBW : Hid (Below w1.heap.size w1 w3) := HBW.out.trans (hb2.mono HBW.out.size)
      clear hb2
      obtain ⟨y0, y1, y2, y3, y4, y5, y6, y7, ybl⟩ := HR.out.bel HBW.out
      go_wp2_with fail
      with_reducible refine (HN1.out _).mono ?_
      rintro e2 v2 ⟨rfl, rfl⟩
      go_wp2_with fail
      go_ret
      exact ⟨by rw [HF.out]; rfl, HB.out.below.trans (HBW.out.mono HB.out.below.size)⟩
    | true =>
     cases c2 with
     | false =>
      cases b1 <;> cases b2
      all_goals
       go_enter Tryz.func65, Tryz.ntmps65
       go_upto_region 1 with fail
       rw [← HB.out.eq]
       go_wp2_with fail
       with_reducible refine HSC.out.mono ?_
       rintro e2 w2 ⟨rfl, hb2⟩
       have HBW : Hid (Below w1.heap.size w1 w2) := hb2
       clear hb2
       obtain ⟨y0, y1, y2, y3, y4, y5, y6, y7, ybl⟩ := HR.out.bel HBW.out
       go_wp2_with fail
       with_reducible refine (HNM.out _ HBW.out).mono ?_
       rintro e2 w3 ⟨rfl, hb2⟩
       have HBW : Hid (Below w1.heap.size w1 w3) := HBW.out.trans (hb2.mono HBW.out.size)
       clear hb2
       obtain ⟨y0, y1, y2, y3, y4, y5, y6, y7, ybl⟩ := HR.out.bel HBW.out
       go_wp2_with fail
       with_reducible refine (HN1.out _).mono ?_
       rintro e2 v2 ⟨rfl, rfl⟩
       go_wp2_with fail
       go_ret
       exact ⟨by rw [HF.out]; rfl, HB.out.below.trans (HBW.out.mono HB.out.below.size)⟩
     | true =>
      cases b1 <;> cases b2
      all_goals
       go_enter Tryz.func65, Tryz.ntmps65
       go_upto_region 1 with fail
       rw [← HB.out.eq]
       go_wp2_with fail
       with_reducible refine HSC.out.mono ?_
       rintro e2 w2 ⟨rfl, hb2⟩
       have HBW : Hid (Below w1.heap.size w1 w2) := hb2
       clear hb2
       obtain ⟨y0, y1, y2, y3, y4, y5, y6, y7, ybl⟩ := HR.out.bel HBW.out
       go_wp2_with fail
       with_reducible refine (HNM.out _ HBW.out).mono ?_
       rintro e2 w3 ⟨rfl, hb2⟩
       have HBW : Hid (Below w1.heap.size w1 w3) := HBW.out.trans (hb2.mono HBW.out.size)
       clear hb2
       obtain ⟨y0, y1, y2, y3, y4, y5, y6, y7, ybl⟩ := HR.out.bel HBW.out
       go_wp2_with fail
       with_reducible refine (HN1.out _).mono ?_
       rintro e2 v2 ⟨rfl, rfl⟩
       go_wp2_with fail
       go_loopg [7] e.names.length (fun g i wx => ∃ j : Nat, j ≤ e.names.length ∧ g = e.names.length - j ∧ i = .int .i64 j ∧ w3 = wx ∧ (e.kids.take j).all (fun x => decide (x.kind = 5)) = true)
       case atStart => exact ⟨0, Nat.zero_le _, rfl, rfl, rfl, by rw [List.take_zero]; rfl⟩
       case round =>
        obtain ⟨j, hj, rfl, rfl, rfl, hall⟩ := hrel
        have HA := hid hall
        clear hall
        by_cases hlt : j < e.names.length
        ·obtain ⟨x, hx⟩ : ∃ x, e.kids[j]? = some x := ⟨_, List.getElem?_eq_getElem (by have := of_decide_eq_true D2.out; omega)⟩
         have HX := hid hx
         obtain ⟨kb, koff, na2, nc2, da2, dn2, dc2, ya2, yc2, hk⟩ := (HO.out.bel HBW.out).kid hx
         obtain ⟨e1, hkb, ⟨g1, g2⟩, _, z0, z1, z2, z3, z4, z5, z6, z7⟩ := hk
         subst e1
         have gw : IntKind.i64.wrap ((j : Int) + 1) = ((j + 1 : Nat) : Int) := by rw [IntKind.wrap_i64]; omega
         clear hx
         by_cases h5 : x.kind = 5
         ·have k5 : (x.kind != 5) = false := by rw [h5]; rfl
          have H5 := hid h5
          clear h5
          go_wp2_with fail
          go_roundg (e.names.length - (j + 1))
          case measure => omega
          case rel =>
           refine ⟨j + 1, by omega, rfl, by go_num, rfl, ?_⟩
           rw [List.take_add_one, HX.out]
           show ((e.kids.take j) ++ [x]).all _ = true
           rw [List.all_append, HA.out]
           simp [H5.out]
         ·have k5 : (x.kind != 5) = true := by rw [bne_iff_ne]; exact h5
          have HC3 : Hid (c3 = false) := by
           have h := D3.out
           unfold Hid
           rw [← h, List.all_eq_false]
           refine ⟨x, ?_, by simpa using h5⟩
           rw [List.mem_iff_getElem?]
           exact ⟨j, by rw [List.getElem?_take, if_pos hlt]; exact HX.out⟩
          clear h5
          go_wp2_with fail
          go_ret
          exact ⟨by rw [HF.out, HC3.out]; rfl, HB.out.below.trans (HBW.out.mono HB.out.below.size)⟩
        ·have hje : j = e.names.length := by omega
         have HC3 : Hid (c3 = true) := by
          have h := D3.out
          unfold Hid
          rw [← h, ← hje]
          exact HA.out
         have hge : (e.names.length : Int) ≤ j := by omega
         clear hje
         go_wp2_with fail
         go_ret
         exact ⟨by rw [HF.out, HC3.out]; rfl, HB.out.below.trans (HBW.out.mono HB.out.below.size)⟩
theorem rform_any (e : Ex) {w : World} {na : Option Addr} {nc : Nat} {da : Option Addr} {dn dc : Nat} {ka : Option Addr} {kc : Nat} (hf : Fits e) (ho : Op w e na nc da dn dc ka kc) :
  Calls Tryz.prog 65 #[.agg #[.int .i64 e.kind, .string e.name, .slice na e.names.length nc, .int .i64 e.const.kind, .int .i64 e.const.int, .string e.const.text, .slice da dn dc, .slice ka e.kids.length kc]] w (Says (.bool (Ex.form e)) w) := by
 by_cases h0 : e.kind = 0
 ·exact rform_0 e hf ho h0
 by_cases h1 : e.kind = 1
 ·exact rform_1 e hf ho h1
 by_cases h2 : e.kind = 2
 ·exact rform_2 e hf ho h2
 by_cases h3 : e.kind = 3
 ·exact rform_3 e hf ho h3
 by_cases h4 : e.kind = 4
 ·exact rform_4 e hf ho h4
 by_cases h5 : e.kind = 5
 ·exact rform_5 e hf ho h5
 by_cases h6 : e.kind = 6
 ·exact rform_6 e hf ho h6
 by_cases h7 : e.kind = 7
 ·exact rform_7 e hf ho h7
 by_cases h8 : e.kind = 8
 ·exact rform_8 e hf ho h8
 by_cases h9 : e.kind = 9
 ·exact rform_9 e hf ho h9
 by_cases h10 : e.kind = 10
 ·exact rform_10 e hf ho h10
 exact rform_11 e hf ho ⟨h0, h1, h2, h3, h4, h5, h6, h7, h8, h9, h10⟩
theorem fit_kid {e x : Ex} (h : Ex.Fit e) (hx : x ∈ e.kids) : Ex.Fit x := by
 cases h with
 | mk k n l c ks hn hl hll hc hkl hk => exact hk x hx
theorem chk_le (e : Ex) (d s : Nat) (hs : s ≤ 4096) : (Ex.chk Ex.form e d s).1 ≤ 4096 := (Ex.chk_ok Ex.form e.deep e (Nat.le_refl _) d s hs).1.2
set_option maxHeartbeats 8000000 in
theorem rchk_any (e : Ex) : ∀ {w : World} {na : Option Addr} {nc : Nat} {da : Option Addr} {dn dc : Nat} {ka : Option Addr} {kc : Nat} (d s : Nat), d ≤ 250 → s ≤ 4096 → Ex.Fit e → Op w e na nc da dn dc ka kc →
  Calls Tryz.prog 48 #[.agg #[.int .i64 e.kind, .string e.name, .slice na e.names.length nc, .int .i64 e.const.kind, .int .i64 e.const.int, .string e.const.text, .slice da dn dc, .slice ka e.kids.length kc], .int .i64 d, .int .i64 s] w fun e' w' => e' = .returned (.tuple #[.int .i64 (Ex.chk Ex.form e d s).1, .int .i64 (Ex.chk Ex.form e d s).2]) ∧ Below w.heap.size w w' := by
 induction e using Ex.byKids with
 | h e ih =>
 intro w na nc da dn dc ka kc d s hd hs hf ho
 obtain ⟨w1, B1⟩ := boxedE w e na nc da dn dc ka kc
 have hR := Row.of B1.blk
 have HO := hid (ho.bel B1.below)
 have HB := hid B1
 have HR := hid hR
 have HIH := hid ih
 have HF := hid hf
 have hkl := (fits_of hf).kl
 obtain ⟨x0, x1, x2, x3, x4, x5, x6, x7, hbl⟩ := hR
 have hce := Ex.chk_eq Ex.form e d s
 clear B1 ho ih hf
 by_cases h1 : s = 4096
 ·subst h1
  rw [if_pos rfl] at hce
  have HCE := hid hce
  clear hce
  go_enter Tryz.func48, Tryz.ntmps48
  go_upto_region 1 with fail
  rw [← HB.out.eq]
  go_wp2_with fail
  go_ret2
  exact ⟨by rw [HCE.out]; rfl, HB.out.below⟩
 ·rw [if_neg h1] at hce
  have k1 : ((s : Int) == 4096) = false := by rw [beq_eq_false_iff_ne]; omega
  have gs : IntKind.i64.wrap ((s : Int) + 1) = (s : Int) + 1 := by rw [IntKind.wrap_i64]; omega
  have HS1 : Hid (s + 1 ≤ 4096) := by unfold Hid; omega
  clear h1
  by_cases h2 : 250 ≤ d
  ·rw [if_pos h2] at hce
   have k2 : decide ((250 : Int) ≤ (d : Int)) = true := decide_eq_true (by omega)
   have k3 : (250 : Int) ≤ (d : Int) := by omega
   have HCE := hid hce
   clear hce h2
   go_enter Tryz.func48, Tryz.ntmps48
   go_upto_region 1 with fail
   rw [← HB.out.eq]
   go_wp2_with fail
   go_ret2
   exact ⟨by rw [HCE.out]; rfl, HB.out.below⟩
  ·rw [if_neg h2] at hce
   have k2 : decide ((250 : Int) ≤ (d : Int)) = false := decide_eq_false (by omega)
   have gd : IntKind.i64.wrap ((d : Int) + 1) = (d : Int) + 1 := by rw [IntKind.wrap_i64]; omega
   have HD1 : Hid (d + 1 ≤ 250) := by unfold Hid; omega
   have HFM := hid (rform_any e (fits_of HF.out) HO.out)
   clear h2
   cases hfm : Ex.form e with
   | false =>
    rw [hfm] at hce HFM
    have HCE := hid hce
    clear hce hfm
    go_enter Tryz.func48, Tryz.ntmps48
    go_upto_region 1 with fail
    rw [← HB.out.eq]
    go_wp2_with fail
    with_reducible refine HFM.out.mono ?_
    rintro e2 w2 ⟨rfl, hb2⟩
    have HB2 := hid hb2
    clear hb2
    go_wp2_with fail
    go_ret2
    exact ⟨by rw [HCE.out]; rfl, HB.out.below.trans (HB2.out.mono HB.out.below.size)⟩
   | true =>
    rw [hfm] at hce HFM
    simp only [if_true] at hce
    have HCE := hid hce
    clear hce hfm
    go_enter Tryz.func48, Tryz.ntmps48
    go_upto_region 1 with fail
    rw [← HB.out.eq]
    go_wp2_with fail
    with_reducible refine HFM.out.mono ?_
    rintro e2 w2 ⟨rfl, hb2⟩
    have HBW := hid hb2
    obtain ⟨y0, y1, y2, y3, y4, y5, y6, y7, ybl⟩ := HR.out.bel hb2
    clear hb2
    go_wp2_with fail
    go_loopg [2, 8, 9] e.kids.length (fun g sv fv i wr => ∃ (j S : Nat), j ≤ e.kids.length ∧ g = e.kids.length - j ∧ i = .int .i64 j ∧ sv = .int .i64 S ∧ fv = .int .i64 0 ∧ S ≤ 4096 ∧ Below w1.heap.size w1 wr ∧ Ex.chks Ex.form e.kids (d + 1) (s + 1) = Ex.chks Ex.form (e.kids.drop j) (d + 1) S)
    case atStart => exact ⟨0, s + 1, Nat.zero_le _, rfl, rfl, rfl, rfl, HS1.out, HBW.out, by rw [List.drop_zero]⟩
    case round =>
     obtain ⟨j, S, hj, rfl, rfl, rfl, rfl, hS, hb, hrel2⟩ := hrel
     have HBW := hid hb
     have HRL := hid hrel2
     obtain ⟨y0, y1, y2, y3, y4, y5, y6, y7, ybl⟩ := HR.out.bel hb
     clear hb hrel2
     by_cases hlt : j < e.kids.length
     ·obtain ⟨x, hx⟩ : ∃ x, e.kids[j]? = some x := ⟨_, List.getElem?_eq_getElem hlt⟩
      have HX := hid hx
      obtain ⟨kb, koff, na2, nc2, da2, dn2, dc2, ya2, yc2, hk⟩ := (HO.out.bel HBW.out).kid hx
      have hc := HIH.out x (List.mem_of_getElem? hx) (d + 1) S HD1.out hS (fit_kid HF.out (List.mem_of_getElem? hx)) hk.op
      rw [show ((d + 1 : Nat) : Int) = (d : Int) + 1 from rfl] at hc
      have HC := hid hc
      obtain ⟨e1, hkb, ⟨g1, g2⟩, _, z0, z1, z2, z3, z4, z5, z6, z7⟩ := hk
      subst e1
      have gw : IntKind.i64.wrap ((j : Int) + 1) = ((j + 1 : Nat) : Int) := by rw [IntKind.wrap_i64]; omega
      have hdr : e.kids.drop j = x :: e.kids.drop (j + 1) := by rw [List.drop_eq_getElem_cons hlt]; congr 1; rw [List.getElem?_eq_getElem hlt] at hx; exact Option.some.inj hx
      have hst : Ex.chks Ex.form e.kids (d + 1) (s + 1) = if (Ex.chk Ex.form x (d + 1) S).2 = 0 then Ex.chks Ex.form (e.kids.drop (j + 1)) (d + 1) (Ex.chk Ex.form x (d + 1) S).1 else Ex.chk Ex.form x (d + 1) S := by
       rw [HRL.out, hdr, Ex.chks]
      have hle2 := chk_le x (d + 1) S hS
      obtain ⟨⟨S2, f2⟩, hr⟩ : ∃ r, Ex.chk Ex.form x (d + 1) S = r := ⟨_, rfl⟩
      rw [hr] at HC hst hle2
      dsimp only at HC hst hle2
      have HST := hid hst
      clear hx hc hdr hst hr
      go_wp2_with fail
      with_reducible refine HC.out.mono ?_
      rintro e2 w3 ⟨rfl, hb3⟩
      have HB3 : Hid (Below w1.heap.size w1 w3) := HBW.out.trans (hb3.mono HBW.out.size)
      clear hb3
      by_cases hz : f2 = 0
      ·subst hz
       go_wp2_with fail
       go_roundg (e.kids.length - (j + 1))
       case measure => omega
       case rel => exact ⟨j + 1, S2, by omega, rfl, by go_num, rfl, rfl, hle2, HB3.out, by rw [HST.out]; simp⟩
      ·have kz : (f2 != 0) = true := by rw [bne_iff_ne]; exact hz
       have HZ := hid hz
       clear hz
       go_wp2_with fail
       go_ret2
       exact ⟨by rw [HCE.out, HST.out, if_neg HZ.out]; rfl, HB.out.below.trans (HB3.out.mono HB.out.below.size)⟩
     ·have hje : j = e.kids.length := by omega
      have HH : Hid (Ex.chks Ex.form e.kids (d + 1) (s + 1) = (S, 0)) := by
       unfold Hid
       rw [HRL.out, hje, List.drop_length, Ex.chks]
      have hge : (e.kids.length : Int) ≤ j := by omega
      clear hje
      go_wp2_with fail
      go_ret2
      exact ⟨by rw [HCE.out, HH.out]; rfl, HB.out.below.trans (HBW.out.mono HB.out.below.size)⟩
set_option maxHeartbeats 2000000 in
theorem rCheck_any (e : Ex) {w : World} {na : Option Addr} {nc : Nat} {da : Option Addr} {dn dc : Nat} {ka : Option Addr} {kc : Nat} (hf : Ex.Fit e) (ho : Op w e na nc da dn dc ka kc) :
  Calls Tryz.prog 27 #[.agg #[.int .i64 e.kind, .string e.name, .slice na e.names.length nc, .int .i64 e.const.kind, .int .i64 e.const.int, .string e.const.text, .slice da dn dc, .slice ka e.kids.length kc]] w (Says (.int .i64 (Ex.chk Ex.form e 0 0).2) w) := by
 obtain ⟨w1, B1⟩ := boxedE w e na nc da dn dc ka kc
 have hR := Row.of B1.blk
 have HB := hid B1
 have hc := rchk_any e 0 0 (by omega) (by omega) hf (ho.bel B1.below)
 rw [show ((0 : Nat) : Int) = 0 from rfl] at hc
 have HC := hid hc
 clear hc
 obtain ⟨x0, x1, x2, x3, x4, x5, x6, x7, hbl⟩ := hR
 clear B1 ho
 go_enter Tryz.func27, Tryz.ntmps27
 go_upto_region 1 with fail
 rw [← HB.out.eq]
 go_wp2_with fail
 with_reducible refine HC.out.mono ?_
 rintro e2 w2 ⟨rfl, hb2⟩
 have HB2 := hid hb2
 clear hb2
 go_wp2_with fail
 go_ret
 exact ⟨rfl, HB.out.below.trans (HB2.out.mono HB.out.below.size)⟩
structure Kp (c : Nat) (w w' : World) : Prop where
 os : w'.os = w.os
 tape : w'.tape = w.tape
 output : w'.output = w.output
 size : w.heap.size ≤ w'.heap.size
 block : ∀ k, k < w.heap.size → k ≠ c → w'.heap[k]? = w.heap[k]?
theorem Kp.trans {c : Nat} {a b d : World} (h : Kp c a b) (k : Kp c b d) : Kp c a d :=
 ⟨k.os.trans h.os, k.tape.trans h.tape, k.output.trans h.output, Nat.le_trans h.size k.size, fun i hi hc => (k.block i (Nat.lt_of_lt_of_le hi h.size) hc).trans (h.block i hi hc)⟩
theorem Kp.of {c : Nat} {w w' : World} (h : Below w.heap.size w w') : Kp c w w' := ⟨h.os, h.tape, h.output, h.size, fun k hk _ => h.block k hk⟩
theorem Kp.below {c B : Nat} {w w' : World} (h : Kp c w w') (hc : B ≤ c) (hB : B ≤ w.heap.size) : Below B w w' := ⟨h.os, h.tape, h.output, h.size, fun k hk => h.block k (by omega) (by omega)⟩
theorem Kp.set {c i : Nat} {w : World} (v : Value) : Kp c w (w.setCell ⟨c, i, none⟩ v) :=
 ⟨rfl, rfl, rfl, by simp [World.setCell], fun k hk hc => heap_setCell_other _ _ _ _ hc⟩
theorem Row.kp {c : Nat} {w w' : World} {b : Nat} {c0 c1 c2 c3 c4 c5 c6 c7 : Value} (h : Row w b c0 c1 c2 c3 c4 c5 c6 c7) (hb : Kp c w w') (hc : b ≠ c) : Row w' b c0 c1 c2 c3 c4 c5 c6 c7 :=
 have e : ∀ i, w'.cell? ⟨b, i, none⟩ = w.cell? ⟨b, i, none⟩ := fun i => World.cell?_of_block (a := ⟨b, i, none⟩) (hb.block b h.lt hc)
 ⟨(e _).trans h.c0, (e _).trans h.c1, (e _).trans h.c2, (e _).trans h.c3, (e _).trans h.c4, (e _).trans h.c5, (e _).trans h.c6, (e _).trans h.c7, Nat.lt_of_lt_of_le h.lt hb.size⟩
structure Cnt (w : World) (c : Nat) (s : Nat) : Prop where
 blk : w.heap[c]? = some (.cells #[.int .i64 (s : Int)] 3 (0, 0))
theorem Cnt.cell {w : World} {c s : Nat} (h : Cnt w c s) : w.cell? ⟨c, 0, none⟩ = some (.int .i64 (s : Int)) ∧ w.frozen? ⟨c, 0, none⟩ = false ∧ c < w.heap.size :=
 ⟨cell_of_row w c 0 _ _ _ h.blk, frozen_of_row w c 0 _ _ h.blk, (Array.getElem?_eq_some_iff.1 h.blk).1⟩
theorem Cnt.bel {w w' : World} {c s : Nat} (h : Cnt w c s) (hb : Below w.heap.size w w') : Cnt w' c s := ⟨(hb.block c (Array.getElem?_eq_some_iff.1 h.blk).1).trans h.blk⟩
theorem Cnt.set {w : World} {c s t : Nat} (h : Cnt w c s) : Cnt (w.setCell ⟨c, 0, none⟩ (.int .i64 (t : Int))) c t := ⟨heap_setCell_same _ c 0 _ _ _ h.blk⟩
theorem pchk_le (e : Ex) (d s : Nat) (hs : s ≤ 4096) : (Ex.chk formC e d s).1 ≤ 4096 := (Ex.chk_ok formC e.deep e (Nat.le_refl _) d s hs).1.2
set_option maxHeartbeats 16000000 in
theorem pchk_any (w0 : World) (cb : Nat) (hcb : w0.heap.size ≤ cb) (e : Ex) : ∀ {w : World} {na : Option Addr} {nc : Nat} {da : Option Addr} {dn dc : Nat} {ka : Option Addr} {kc : Nat} (d s : Nat), d ≤ 250 → s ≤ 4096 → Ex.Fit e → Op w0 e na nc da dn dc ka kc → Below w0.heap.size w0 w → Cnt w cb s →
  Calls Tryz.prog 40 #[.agg #[.int .i64 e.kind, .string e.name, .slice na e.names.length nc, .int .i64 e.const.kind, .int .i64 e.const.int, .string e.const.text, .slice da dn dc, .slice ka e.kids.length kc], .int .i64 d, .pointer (some ⟨cb, 0, none⟩)] w fun e' w' => e' = .returned (.int .i64 (Ex.chk formC e d s).2) ∧ Cnt w' cb (Ex.chk formC e d s).1 ∧ Kp cb w w' := by
 induction e using Ex.byKids with
 | h e ih =>
 intro w na nc da dn dc ka kc d s hd hs hf ho hb0 hcn
 obtain ⟨w1, B1⟩ := boxedE w e na nc da dn dc ka kc
 have hR := Row.of B1.blk
 have hc1 := hcn.bel B1.below
 have hb1 : Below w0.heap.size w0 w1 := hb0.trans (B1.below.mono hb0.size)
 have HO := hid ho
 have HB := hid B1
 have HR := hid hR
 have HIH := hid ih
 have HF := hid hf
 have HB0 := hid hb1
 have HC1 := hid hc1
 have hkl := (fits_of hf).kl
 have hne : w.heap.size ≠ cb := by have := hcn.cell.2.2; omega
 have HNE := hid hne
 obtain ⟨t0, tf, tl⟩ := hc1.cell
 obtain ⟨x0, x1, x2, x3, x4, x5, x6, x7, hbl⟩ := hR
 have hce := Ex.chk_eq formC e d s
 clear B1 ho ih hf hb0 hcn hc1 hb1
 by_cases h1 : s = 4096
 ·subst h1
  rw [if_pos rfl] at hce
  have HCE := hid hce
  clear hce
  go_enter Tryz.func40, Tryz.ntmps40
  go_upto_region 1 with fail
  rw [← HB.out.eq]
  go_wp2_with fail
  go_ret
  exact ⟨by rw [HCE.out]; rfl, by rw [HCE.out]; exact HC1.out, Kp.of HB.out.below⟩
 ·rw [if_neg h1] at hce
  have k1 : ((s : Int) == 4096) = false := by rw [beq_eq_false_iff_ne]; omega
  have gs : IntKind.i64.wrap ((s : Int) + 1) = (s : Int) + 1 := by rw [IntKind.wrap_i64]; omega
  have HS1 : Hid (s + 1 ≤ 4096) := by unfold Hid; omega
  clear h1
  go_enter Tryz.func40, Tryz.ntmps40
  go_upto_region 1 with fail
  rw [← HB.out.eq]
  go_upto_region 4 with fail
  generalize hww : w1.setCell ⟨cb, 0, none⟩ (.int .i64 ((s : Int) + 1)) = w2
  have hK2 : Kp cb w1 w2 := by rw [← hww]; exact Kp.set _
  have hC2 : Cnt w2 cb (s + 1) := by rw [← hww]; exact HC1.out.set (t := s + 1)
  have HK2 := hid hK2
  have HC2 := hid hC2
  have HB02 : Hid (Below w0.heap.size w0 w2) := HB0.out.trans (hK2.below hcb HB0.out.size)
  clear hK2 hC2 hww t0 tf tl x0 x1 x2 x3 x4 x5 x6 x7 hbl
  obtain ⟨t0, tf, tl⟩ := HC2.out.cell
  have hR2 := HR.out.kp HK2.out HNE.out
  have HR2 := hid hR2
  obtain ⟨x0, x1, x2, x3, x4, x5, x6, x7, hbl⟩ := hR2
  have HKW : Hid (Kp cb w w2) := (Kp.of HB.out.below).trans HK2.out
  by_cases h2 : 250 ≤ d
  ·rw [if_pos h2] at hce
   have k2 : decide ((250 : Int) ≤ (d : Int)) = true := decide_eq_true (by omega)
   have k3 : (250 : Int) ≤ (d : Int) := by omega
   have HCE := hid hce
   clear hce h2
   go_wp2_with fail
   go_ret
   exact ⟨by rw [HCE.out]; rfl, by rw [HCE.out]; exact HC2.out, HKW.out⟩
  ·rw [if_neg h2] at hce
   have k2 : decide ((250 : Int) ≤ (d : Int)) = false := decide_eq_false (by omega)
   have gd : IntKind.i64.wrap ((d : Int) + 1) = (d : Int) + 1 := by rw [IntKind.wrap_i64]; omega
   have HD1 : Hid (d + 1 ≤ 250) := by unfold Hid; omega
   have HFM := hid (pform_any e (fits_of HF.out) (HO.out.bel HB02.out))
   clear h2
   cases hfm : formC e with
   | false =>
    rw [hfm] at hce HFM
    have HCE := hid hce
    clear hce hfm
    go_wp2_with fail
    with_reducible refine HFM.out.mono ?_
    rintro e2 w3 ⟨rfl, hb2⟩
    have HB2 := hid hb2
    clear hb2
    go_wp2_with fail
    go_ret
    exact ⟨by rw [HCE.out]; rfl, by rw [HCE.out]; exact HC2.out.bel HB2.out, HKW.out.trans (Kp.of HB2.out)⟩
   | true =>
    rw [hfm] at hce HFM
    simp only [if_true] at hce
    have HCE := hid hce
    clear hce hfm
    go_wp2_with fail
    with_reducible refine HFM.out.mono ?_
    rintro e2 w3 ⟨rfl, hb2⟩
    have HB2 := hid hb2
    have HC3 : Hid (Cnt w3 cb (s + 1)) := HC2.out.bel hb2
    have HK3 : Hid (Kp cb w w3) := HKW.out.trans (Kp.of hb2)
    have HB03 : Hid (Below w0.heap.size w0 w3) := HB02.out.trans (hb2.mono HB02.out.size)
    have hR3 := HR2.out.bel hb2
    have HR3 := hid hR3
    obtain ⟨y0, y1, y2, y3, y4, y5, y6, y7, ybl⟩ := hR3
    clear hb2 t0 tf tl x0 x1 x2 x3 x4 x5 x6 x7 hbl
    go_wp2_with fail
    go_loopg [27] e.kids.length (fun g i wr => ∃ (j S : Nat), j ≤ e.kids.length ∧ g = e.kids.length - j ∧ i = .int .i64 j ∧ S ≤ 4096 ∧ Cnt wr cb S ∧ Kp cb w3 wr ∧ Ex.chks formC e.kids (d + 1) (s + 1) = Ex.chks formC (e.kids.drop j) (d + 1) S)
    case atStart => exact ⟨0, s + 1, Nat.zero_le _, rfl, rfl, HS1.out, HC3.out, Kp.of (Below.refl _ _), by rw [List.drop_zero]⟩
    case round =>
     obtain ⟨j, S, hj, rfl, rfl, hS, hcn, hk, hrel2⟩ := hrel
     have HCN := hid hcn
     have HKR := hid hk
     have HRL := hid hrel2
     have HB0R : Hid (Below w0.heap.size w0 wr) := HB03.out.trans (hk.below hcb HB03.out.size)
     obtain ⟨y0, y1, y2, y3, y4, y5, y6, y7, ybl⟩ := HR3.out.kp hk HNE.out
     clear hcn hk hrel2
     by_cases hlt : j < e.kids.length
     ·obtain ⟨x, hx⟩ : ∃ x, e.kids[j]? = some x := ⟨_, List.getElem?_eq_getElem hlt⟩
      have HX := hid hx
      obtain ⟨kb, koff, na2, nc2, da2, dn2, dc2, ya2, yc2, hkid⟩ := HO.out.kid hx
      obtain ⟨kb', koff', na', nc', da', dn', dc', ya', yc', hkid2⟩ := (HO.out.bel HB0R.out).kid hx
      obtain ⟨wk, BK⟩ := boxed wr #[.int .i64 x.kind, .string x.name, .slice na' x.names.length nc', .int .i64 x.const.kind, .int .i64 x.const.int, .string x.const.text, .slice da' dn' dc', .slice ya' x.kids.length yc'] 28
      have hRK := Row.of BK.blk
      have HBK := hid BK
      obtain ⟨e1, hkb, ⟨g1, g2⟩, hop, z0, z1, z2, z3, z4, z5, z6, z7⟩ := hkid
      obtain ⟨e1', hkb', _, hop', z0', z1', z2', z3', z4', z5', z6', z7'⟩ := hkid2
      rw [e1] at e1'
      cases e1'
      have e2 : Value.slice na' x.names.length nc' = .slice na2 x.names.length nc2 := Option.some.inj (z2'.symm.trans ((HB0R.out.cell (p := ⟨kb, koff + j * 8 + 2, none⟩) hkb).trans z2))
      have e6 : Value.slice da' dn' dc' = .slice da2 dn2 dc2 := Option.some.inj (z6'.symm.trans ((HB0R.out.cell (p := ⟨kb, koff + j * 8 + 6, none⟩) hkb).trans z6))
      have e7 : Value.slice ya' x.kids.length yc' = .slice ya2 x.kids.length yc2 := Option.some.inj (z7'.symm.trans ((HB0R.out.cell (p := ⟨kb, koff + j * 8 + 7, none⟩) hkb).trans z7))
      cases e2
      cases e6
      cases e7
      have hc := HIH.out x (List.mem_of_getElem? hx) (w := wk) (d + 1) S HD1.out hS (fit_kid HF.out (List.mem_of_getElem? hx)) hop (HB0R.out.trans (BK.below.mono HB0R.out.size)) (HCN.out.bel BK.below)
      rw [show ((d + 1 : Nat) : Int) = (d : Int) + 1 from rfl] at hc
      have HC := hid hc
      subst e1
      have gw : IntKind.i64.wrap ((j : Int) + 1) = ((j + 1 : Nat) : Int) := by rw [IntKind.wrap_i64]; omega
      have hdr : e.kids.drop j = x :: e.kids.drop (j + 1) := by rw [List.drop_eq_getElem_cons hlt]; congr 1; rw [List.getElem?_eq_getElem hlt] at hx; exact Option.some.inj hx
      have hst : Ex.chks formC e.kids (d + 1) (s + 1) = if (Ex.chk formC x (d + 1) S).2 = 0 then Ex.chks formC (e.kids.drop (j + 1)) (d + 1) (Ex.chk formC x (d + 1) S).1 else Ex.chk formC x (d + 1) S := by
       rw [HRL.out, hdr, Ex.chks]
      have hle2 := pchk_le x (d + 1) S hS
      obtain ⟨⟨S2, f2⟩, hr⟩ : ∃ r, Ex.chk formC x (d + 1) S = r := ⟨_, rfl⟩
      rw [hr] at HC hst hle2
      dsimp only at HC hst hle2
      have HST := hid hst
      obtain ⟨v0, v1, v2, v3, v4, v5, v6, v7, vbl⟩ := hRK
      clear hx hc hdr hst hr BK hop hop' z0 z1 z2 z3 z4 z5 z6 z7 hkb
      go_upto_region 11 with fail
      rw [← HBK.out.eq]
      go_wp2_with fail
      with_reducible refine HC.out.mono ?_
      rintro e2 w4 ⟨rfl, hcn4, hk4⟩
      have HCN4 := hid hcn4
      have HK4 : Hid (Kp cb w3 w4) := HKR.out.trans ((Kp.of HBK.out.below).trans hk4)
      clear hcn4 hk4
      by_cases hz : f2 = 0
      ·subst hz
       go_wp2_with fail
       go_roundg (e.kids.length - (j + 1))
       case measure => omega
       case rel => exact ⟨j + 1, S2, by omega, rfl, by go_num, hle2, HCN4.out, HK4.out, by rw [HST.out]; simp⟩
      ·have kz : (f2 != 0) = true := by rw [bne_iff_ne]; exact hz
       have HZ := hid hz
       clear hz
       go_wp2_with fail
       go_ret
       exact ⟨by rw [HCE.out, HST.out, if_neg HZ.out]; rfl, by rw [HCE.out, HST.out, if_neg HZ.out]; exact HCN4.out, HK3.out.trans HK4.out⟩
     ·have hje : j = e.kids.length := by omega
      have HH : Hid (Ex.chks formC e.kids (d + 1) (s + 1) = (S, 0)) := by
       unfold Hid
       rw [HRL.out, hje, List.drop_length, Ex.chks]
      have hge : (e.kids.length : Int) ≤ j := by omega
      clear hje
      go_wp2_with fail
      go_ret
      exact ⟨by rw [HCE.out, HH.out]; rfl, by rw [HCE.out, HH.out]; exact HCN.out, HK3.out.trans HKR.out⟩
set_option maxHeartbeats 4000000 in
theorem pCheck_any (e : Ex) {w : World} {na : Option Addr} {nc : Nat} {da : Option Addr} {dn dc : Nat} {ka : Option Addr} {kc : Nat} (hf : Ex.Fit e) (ho : Op w e na nc da dn dc ka kc) :
  Calls Tryz.prog 23 #[.agg #[.int .i64 e.kind, .string e.name, .slice na e.names.length nc, .int .i64 e.const.kind, .int .i64 e.const.int, .string e.const.text, .slice da dn dc, .slice ka e.kids.length kc]] w (Says (.int .i64 (Ex.chk formC e 0 0).2) w) := by
 obtain ⟨w1, B1⟩ := boxedE w e na nc da dn dc ka kc
 have hR := Row.of B1.blk
 have HB := hid B1
 obtain ⟨w2, B2⟩ := boxed w1 #[.int .i64 0] 3
 have hc := pchk_any w1 w1.heap.size (Nat.le_refl _) e (w := w2) 0 0 (by omega) (by omega) hf (ho.bel B1.below) B2.below ⟨B2.blk⟩
 rw [show ((0 : Nat) : Int) = 0 from rfl] at hc
 have HC := hid hc
 have HB2 := hid B2
 clear hc
 obtain ⟨x0, x1, x2, x3, x4, x5, x6, x7, hbl⟩ := hR
 clear B1 ho B2
 go_enter Tryz.func23, Tryz.ntmps23
 go_upto_region 1 with fail
 rw [← HB.out.eq]
 go_wp2_with (first | (go_at_call 40; (rw [← HB2.out.eq]); (with_reducible refine HC.out.mono ?_); rintro e2 w3 ⟨rfl, hcn, hk⟩; have HK := hid hk; clear hcn hk) | fail)
 go_ret
 exact ⟨rfl, HB.out.below.trans ((HB2.out.below.trans (HK.out.below (Nat.le_refl _) HB2.out.below.size)).mono HB.out.below.size)⟩
end Ew
end Go.Proofs.YtkplkgdfphbldaaGreat
