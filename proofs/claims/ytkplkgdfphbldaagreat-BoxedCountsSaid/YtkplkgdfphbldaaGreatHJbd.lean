/- Maps of names to numbers; maps.Clone. -/
import Derived.Shelf.SlMaps.Clone
import Derived.Test.YtkplkgdfphbldaaGreatHJac
import Derived.Test.YtkplkgdfphbldaaGreatHJbc
import Derived.Test.YtkplkgdfphbldaaGreatHJay
namespace Go.Proofs.YtkplkgdfphbldaaGreat
open Go.RowKit
open Go.Lib (hid)
set_option linter.unusedVariables false
set_option linter.unusedSimpArgs false
set_option linter.unnecessarySimpa false
set_option maxRecDepth 100000
namespace Ew
def IM (w : World) (b : Nat) (V : ByteArray → Int) : Prop := ∃ L : List (ByteArray × Value), AMap Value.string w b L ∧ ∀ s, (alook L s).getD (.int .i64 0) = .int .i64 (V s)
def setV (V : ByteArray → Int) (k : ByteArray) (n : Int) : ByteArray → Int := fun s => if s = k then n else V s
theorem im_put {L : List (ByteArray × Value)} {V : ByteArray → Int} (h : ∀ s, (alook L s).getD (.int .i64 0) = .int .i64 (V s)) (k : ByteArray) (n : Int) : ∀ s, (alook (aput L k (.int .i64 n)) s).getD (.int .i64 0) = .int .i64 (setV V k n s) := by
 intro s
 rw [alook_aput]
 unfold setV
 split
 ·rfl
 ·exact h s
section
variable {w w' : World} {b : Nat} {V : ByteArray → Int}
theorem IM.lt (h : IM w b V) : b < w.heap.size := by
 obtain ⟨L, h, _⟩ := h
 exact h.lt
theorem IM.kept (h : IM w b V) (hb : w'.heap[b]? = w.heap[b]?) : IM w' b V := by
 obtain ⟨L, h, k⟩ := h
 exact ⟨L, h.kept hb, k⟩
theorem IM.bel (h : IM w b V) (hb : Below w.heap.size w w') : IM w' b V := h.kept (hb.block b h.lt)
theorem IM.made (w : World) : IM (w.alloc (.map #[] 0)) w.heap.size (fun _ => 0) := ⟨[], AMap.made w _, fun s => rfl⟩
theorem zeroI (w : World) : (zeroValue 3).run Tryz.prog w = .ok (.int .i64 0) w := by kernel_rfl
theorem IM.look (h : IM w b V) (k : ByteArray) : (Instr.lookup 55 (.map (some b)) (.string k) false).run Tryz.prog w = .ok (.int .i64 (V k)) w := by
 obtain ⟨L, h, hv⟩ := h
 have := AMap.lookup h (keyOk_string Tryz.underlying9) Tryz.underlying55 (zeroI w) k false
 rw [this]
 rw [if_neg Bool.false_ne_true, hv]
end
set_option maxHeartbeats 2000000 in
theorem clone_map (b : Nat) (V : ByteArray → Int) (w : World) (h : IM w b V) :
  Calls Tryz.prog 58 #[.map (some b)] w fun e w' => e = .returned (.map (some w.heap.size)) ∧ IM w' w.heap.size V ∧ Below w.heap.size w w' := by
 obtain ⟨L, ⟨es, clock, hb, he⟩, hv⟩ := h
 have hq := fun w => run_eql_map_nil_sl (P := Tryz.prog) w 55 _ _ (some b) Tryz.underlying55
 have HR : Hid (IM (w.alloc (.map es clock)) w.heap.size V ∧ Below w.heap.size w (w.alloc (.map es clock))) := ⟨⟨L, ⟨es, clock, heap_alloc_new w _, he⟩, hv⟩, (Below.refl _ _).alloc (Nat.le_refl _) _⟩
 clear he hv
 go_enter Tryz.func58, Tryz.ntmps58
 go_wp2
 rw [run_callFunc_extern Tryz.func77 (by kernel_rfl) (by kernel_rfl) (by kernel_rfl) (e := Extern.MapsClone.clone) (by kernel_rfl), run_maps_clone_sl w 55 hb]
 simp only [Result.andThen]
 rw [Oper.upon_value]
 go_wp2
 rw [run_typeAssert_map_sl _ 55 20 _ _ _ Tryz.underlying55]
 simp only [Result.andThen]
 rw [Oper.upon_value]
 go_wp2
 go_ret
 exact ⟨rfl, HR.out⟩
def badAt (e : Ex) (V : ByteArray → Int) (j : Nat) (x : Ex) : Bool := Ex.badE (if Ex.binds e.kind e.kids.length j then Ex.innerV e V else V) x
theorem bad_yes {e : Ex} {V : ByteArray → Int} {j : Nat} {x : Ex} (hx : e.kids[j]? = some x) (h : badAt e V j x = true) : Ex.badE V e = true := (Ex.badE_iff V e).2 (.inr (.inr ⟨j, x, hx, h⟩))
theorem bad_no {e : Ex} {V : ByteArray → Int} (h1 : (decide (e.kind = 9) || decide (e.kind = 2) && decide (V e.name ≠ 1)) = false) (h : ∀ i y, i < e.kids.length → e.kids[i]? = some y → badAt e V i y = false) : Ex.badE V e = false := by
 rw [Bool.eq_false_iff]
 intro hc
 simp only [Bool.or_eq_false_iff, Bool.and_eq_false_iff, decide_eq_false_iff_not] at h1
 rcases (Ex.badE_iff V e).1 hc with hc | ⟨hc, hd⟩ | ⟨j, x, hx, hb⟩
 ·exact h1.1 hc
 ·rcases h1.2 with h | h
  ·exact h hc
  ·exact h hd
 ·have := h j x (List.getElem?_eq_some_iff.1 hx).1 hx
  unfold badAt at this
  rw [hb] at this
  cases this
def upV (e : Ex) (V : ByteArray → Int) (j : Nat) : ByteArray → Int := fun s => if Ex.inN (e.names.take j) s then (if e.kind = 10 then 2 else 1) else V s
theorem upV_zero (e : Ex) (V : ByteArray → Int) : upV e V 0 = V := rfl
theorem upV_step {e : Ex} {V : ByteArray → Int} {j : Nat} {n : ByteArray} (hn : e.names[j]? = some n) : setV (upV e V j) n (if e.kind = 10 then 2 else 1) = upV e V (j + 1) := by
 funext s
 unfold setV upV Ex.inN
 generalize (if e.kind = 10 then (2 : Int) else 1) = q
 rw [List.take_add_one, hn, List.any_append]
 simp only [Option.toList_some, List.any_cons, List.any_nil, Bool.or_false, Bool.or_eq_true, decide_eq_true_eq]
 by_cases h : s = n
 ·rw [if_pos h, if_pos (.inr h.symm)]
 ·rw [if_neg h]
  by_cases h2 : ((e.names.take j).any fun x => decide (x = s)) = true
  ·rw [if_pos h2, if_pos (.inl h2)]
  ·rw [if_neg h2, if_neg (fun k => k.elim h2 fun k => h k.symm)]
theorem setV_twice (V : ByteArray → Int) (n : ByteArray) (a b : Int) : setV (setV V n a) n b = setV V n b := by
 funext s
 unfold setV
 split <;> rfl
theorem upV_end (e : Ex) (V : ByteArray → Int) : upV e V e.names.length = Ex.innerV e V := by
 unfold upV
 rw [List.take_length]
 rfl
theorem im_of {w' : World} {b : Nat} {L : List (ByteArray × Value)} {V : ByteArray → Int} {n : ByteArray} {k : Int} (h : ∀ s, (alook L s).getD (.int .i64 0) = .int .i64 (V s)) (ha : AMap Value.string w' b (aput L n (.int .i64 k))) : IM w' b (setV V n k) := ⟨_, ha, im_put h n k⟩
theorem grown_bel {B b : Nat} {w w1 w2 : World} (h : Below B w w1) (hg : w1.grownBy w2 (some b)) (hb : B ≤ b) (hw : B ≤ w1.heap.size) : Below B w w2 := h.grown hg hw fun q hq => by cases hq; exact hb
set_option maxHeartbeats 16000000 in
theorem bad_any (e : Ex) : ∀ {w : World} {mb : Nat} {V : ByteArray → Int} {na : Option Addr} {nc : Nat} {da : Option Addr} {dn dc : Nat} {ka : Option Addr} {kc : Nat}, Few e → Op w e na nc da dn dc ka kc → IM w mb V →
  Calls Tryz.prog 36 #[.agg #[.int .i64 e.kind, .string e.name, .slice na e.names.length nc, .int .i64 e.const.kind, .int .i64 e.const.int, .string e.const.text, .slice da dn dc, .slice ka e.kids.length kc], .map (some mb)] w (Says (.bool (Ex.badE V e)) w) := by
 induction e using Ex.byKids with
 | h e ih =>
 intro w mb V na nc da dn dc ka kc hsz ho hm
 obtain ⟨w1, B1⟩ := boxedE w e na nc da dn dc ka kc
 have hR := Row.of B1.blk
 have HO := hid (ho.bel B1.below)
 have HM := hid (hm.bel B1.below)
 have HB := hid B1
 have HR := hid hR
 have HIH := hid ih
 have hl := hsz.len
 have HSZ := hid hsz
 have hlk := (hm.bel B1.below).look e.name
 obtain ⟨x0, x1, x2, x3, x4, x5, x6, x7, hbl⟩ := hR
 obtain ⟨T, hT⟩ : ∃ T, (decide (e.kind = 9) || decide (e.kind = 2) && decide (V e.name ≠ 1)) = T := ⟨_, rfl⟩
 have HT := hid hT
 clear B1 ho hsz ih hm hT
 go_enter Tryz.func36, Tryz.ntmps36
 go_upto_region 1 with fail
 rw [← HB.out.eq]
 go_cut [25] (fun s wx => s = .bool T ∧ wx = w1)
 case first =>
  by_cases h9 : e.kind = 9
  ·have k9 : (e.kind == 9) = true := by rw [h9]; rfl
   have HQ : Hid (T = true) := by unfold Hid; rw [← HT.out, decide_eq_true h9]; rfl
   clear h9 hl
   go_wp2_with fail
   go_meet
   exact ⟨by rw [HQ.out], rfl⟩
  ·have k9 : (e.kind == 9) = false := beq_eq_false_iff_ne.2 h9
   by_cases h2 : e.kind = 2
   ·have k2 : (e.kind == 2) = true := by rw [h2]; rfl
    by_cases hv : V e.name = 1
    ·have kv : (V e.name != 1) = false := by rw [hv]; rfl
     have HQ : Hid (T = false) := by unfold Hid; rw [← HT.out, decide_eq_false h9, hv]; simp
     clear h9 h2 hv hl
     go_wp2_with fail
     go_meet
     exact ⟨by rw [HQ.out], rfl⟩
    ·have kv : (V e.name != 1) = true := bne_iff_ne.2 hv
     have HQ : Hid (T = true) := by unfold Hid; rw [← HT.out, decide_eq_true h2, decide_eq_true (show V e.name ≠ 1 from hv)]; simp
     clear h9 h2 hv hl
     go_wp2_with fail
     go_meet
     exact ⟨by rw [HQ.out], rfl⟩
   ·have k2 : (e.kind == 2) = false := beq_eq_false_iff_ne.2 h2
    have HQ : Hid (T = false) := by unfold Hid; rw [← HT.out, decide_eq_false h9, decide_eq_false h2]; rfl
    clear h9 h2 hl
    go_wp2_with fail
    go_meet
    exact ⟨by rw [HQ.out], rfl⟩
 case rest =>
  obtain ⟨rfl, hwc⟩ := hcut
  subst hwc
  obtain ⟨w1, hw1⟩ : ∃ z, z = wc := ⟨_, rfl⟩
  subst hw1
  cases T with
  | true =>
   have HH : Hid (Ex.badE V e = true) := by
    have h := HT.out
    simp only [Bool.or_eq_true, Bool.and_eq_true, decide_eq_true_eq] at h
    exact (Ex.badE_iff V e).2 (h.imp id .inl)
   clear hl hlk
   go_wp2_with fail
   go_ret
   exact ⟨by rw [HH.out]; rfl, HB.out.below⟩
  | false =>
   have HCL := hid (clone_map mb V w1 HM.out)
   clear hlk x0 x1 x2 x3 x4 x5 x6 x7 hbl
   have HLK : Hid (e.kids.length ≤ 100000) := hl
   have HNL : Hid (e.names.length ≤ 1000000) := by have := HSZ.out.nl; unfold Hid; omega
   clear hl
   go_wp2_with fail
   with_reducible refine HCL.out.mono ?_
   rintro e2 w2 ⟨rfl, hi2, hb2⟩
   have HI2 := hid hi2
   have HB2 := hid hb2
   obtain ⟨x0, x1, x2, x3, x4, x5, x6, x7, hbl⟩ := HR.out.bel hb2
   clear hi2 hb2
   go_wp2_with fail
   go_loopg [31] e.names.length (fun g i wr => ∃ j : Nat, j ≤ e.names.length ∧ g = e.names.length - j ∧ i = .int .i64 j ∧ Below w1.heap.size w1 wr ∧ w1.heap.size < wr.heap.size ∧ IM wr w1.heap.size (upV e V j))
   case atStart => exact ⟨0, Nat.zero_le _, rfl, rfl, HB2.out, HI2.out.lt, by rw [upV_zero]; exact HI2.out⟩
   case round =>
    obtain ⟨j, hj, rfl, rfl, hb, hlt0, hi⟩ := hrel
    have HBW := hid hb
    have HLT := hid hlt0
    have HI := hid hi
    obtain ⟨x0, x1, x2, x3, x4, x5, x6, x7, hbl⟩ := HR.out.bel hb
    clear hb hlt0
    by_cases hlt : j < e.names.length
    ·obtain ⟨n, hn⟩ : ∃ n, e.names[j]? = some n := ⟨_, List.getElem?_eq_getElem hlt⟩
     have gw : IntKind.i64.wrap ((j : Int) + 1) = ((j + 1 : Nat) : Int) := by rw [IntKind.wrap_i64]; have := HNL.out; omega
     obtain ⟨nb, noff, hna, hnb, hnc⟩ := text_at (HO.out.bel HBW.out).names hn
     have HN := hid hn
     subst hna
     obtain ⟨L, ha, hv⟩ := hi
     have HA := hid ha
     have HV := hid hv
     clear hn ha hv HI
     by_cases hk : e.kind = 10
     ·have k10 : (e.kind == 10) = true := by rw [hk]; rfl
      have HK : Hid ((if e.kind = 10 then (2 : Int) else 1) = 2) := if_pos hk
      clear hk
      go_wp2_with (first
       | (at_mapUpdate; refine wpList_update_amap rfl (.tmp 35) (.tmp 36) (.const (.int .i64 1)) rfl (keyOk_string Tryz.underlying9) Tryz.underlying55 HA.out rfl n (.int .i64 1) rfl rfl ?_; intro w3 hm3 hg3; have HM3 := hid hm3; have HG3 := hid hg3; have HB3 := hid (grown_bel HBW.out hg3 (Nat.le_refl _) HBW.out.size); obtain ⟨x0, x1, x2, x3, x4, x5, x6, x7, hbl⟩ := HR.out.bel HB3.out; clear hm3 hg3)
       | (at_mapUpdate; refine wpList_update_amap rfl (.tmp 40) (.tmp 41) (.const (.int .i64 2)) rfl (keyOk_string Tryz.underlying9) Tryz.underlying55 HM3.out rfl n (.int .i64 2) rfl rfl ?_; intro w4 hm4 hg4; have HM4 := hid hm4; have HG4 := hid hg4; clear hm4 hg4)
       | fail)
      have HI4 : Hid (IM w4 w1.heap.size (upV e V (j + 1))) := by
       have h := im_of (im_put HV.out n 1) HM4.out
       rw [setV_twice] at h
       rw [← upV_step HN.out, HK.out]
       exact h
      have HB4 := hid (grown_bel HB3.out HG4.out (Nat.le_refl _) HB3.out.size)
      go_roundg (e.names.length - (j + 1))
      case measure => omega
      case rel => exact ⟨j + 1, by omega, rfl, by go_num, HB4.out, HI4.out.lt, HI4.out⟩
     ·have k10 : (e.kind == 10) = false := beq_eq_false_iff_ne.2 hk
      have HK : Hid ((if e.kind = 10 then (2 : Int) else 1) = 1) := if_neg hk
      clear hk
      go_wp2_with (first
       | (at_mapUpdate; refine wpList_update_amap rfl (.tmp 35) (.tmp 36) (.const (.int .i64 1)) rfl (keyOk_string Tryz.underlying9) Tryz.underlying55 HA.out rfl n (.int .i64 1) rfl rfl ?_; intro w3 hm3 hg3; have HM3 := hid hm3; have HG3 := hid hg3; have HB3 := hid (grown_bel HBW.out hg3 (Nat.le_refl _) HBW.out.size); obtain ⟨x0, x1, x2, x3, x4, x5, x6, x7, hbl⟩ := HR.out.bel HB3.out; clear hm3 hg3)
       | fail)
      have HI4 : Hid (IM w3 w1.heap.size (upV e V (j + 1))) := by
       have h := im_of HV.out HM3.out
       rw [← upV_step HN.out, HK.out]
       exact h
      go_roundg (e.names.length - (j + 1))
      case measure => omega
      case rel => exact ⟨j + 1, by omega, rfl, by go_num, HB3.out, HI4.out.lt, HI4.out⟩
    ·obtain rfl : j = e.names.length := by omega
     have hge : ¬ ((e.names.length : Int) < (e.names.length : Int)) := by omega
     rw [upV_end] at hi HI
     obtain ⟨wk, hwk⟩ : ∃ z, z = wr := ⟨_, rfl⟩
     subst hwk
     have HMK := hid (HM.out.bel HBW.out)
     clear hi hlt hj
     go_wp2_with fail
     go_loopg [46] e.kids.length (fun g i wr => ∃ j : Nat, j ≤ e.kids.length ∧ g = e.kids.length - j ∧ i = .int .i64 j ∧ Below wk.heap.size wk wr ∧ ∀ i y, i < j → e.kids[i]? = some y → badAt e V i y = false)
     case atStart => exact ⟨0, Nat.zero_le _, rfl, rfl, Below.refl _ _, fun i y hi => absurd hi (Nat.not_lt_zero _)⟩
     case round =>
      obtain ⟨j, hj, rfl, rfl, hb, hall⟩ := hrel
      have HKW := hid hb
      have HA := hid hall
      have HBR : Hid (Below w1.heap.size w1 wr) := HBW.out.trans (hb.mono HBW.out.size)
      obtain ⟨y0, y1, y2, y3, y4, y5, y6, y7, ybl⟩ := HR.out.bel HBR.out
      clear hb hall x0 x1 x2 x3 x4 x5 x6 x7 hbl
      by_cases hlt : j < e.kids.length
      ·obtain ⟨x, hx⟩ : ∃ x, e.kids[j]? = some x := ⟨_, List.getElem?_eq_getElem hlt⟩
       have HX := hid hx
       have gw : IntKind.i64.wrap ((j : Int) + 1) = ((j + 1 : Nat) : Int) := by rw [IntKind.wrap_i64]; have := HLK.out; omega
       have HJ : Hid (j ≤ 100000) := by have := HLK.out; unfold Hid; omega
       clear hx
       obtain ⟨kb, koff, na2, nc2, da2, dn2, dc2, ya2, yc2, hk⟩ := (HO.out.bel HBR.out).kid HX.out
       have HKO := hid hk.op
       obtain ⟨e1, hkb, ⟨g1, g2⟩, _, c0, c1, c2, c3, c4, c5, c6, c7⟩ := hk
       subst e1
       obtain ⟨w5, B5⟩ := boxedE wr x na2 nc2 da2 dn2 dc2 ya2 yc2
       have HB5 := hid B5
       have HXR := hid (Row.of B5.blk)
       clear B5
       go_upto_region 14 with fail
       rw [← HB5.out.eq]
       have HWX : Hid (Below wr.heap.size wr w5) := HB5.out.below
       have HBX : Hid (Below w1.heap.size w1 w5) := HBR.out.trans (HWX.out.mono HBR.out.size)
       obtain ⟨y0, y1, y2, y3, y4, y5, y6, y7, ybl⟩ := HR.out.bel HBX.out
       obtain ⟨v0, v1, v2, v3, v4, v5, v6, v7, vbl⟩ := HXR.out
       clear c0 c1 c2 c3 c4 c5 c6 c7
       have HC := hid (pbinds_any j HJ.out e HLK.out (HO.out.bel HBX.out))
       go_wp2_with fail
       with_reducible refine HC.out.mono ?_
       rintro e2 w6 ⟨rfl, hb6⟩
       have HWX : Hid (Below wr.heap.size wr w6) := HWX.out.trans (hb6.mono HWX.out.size)
       have HBX : Hid (Below w1.heap.size w1 w6) := HBX.out.trans (hb6.mono HBX.out.size)
       have HXR := hid (HXR.out.bel hb6)
       have HKX : Hid (Below wk.heap.size wk w6) := HKW.out.trans (HWX.out.mono HKW.out.size)
       clear hb6
       obtain ⟨y0, y1, y2, y3, y4, y5, y6, y7, ybl⟩ := HR.out.bel HBX.out
       obtain ⟨v0, v1, v2, v3, v4, v5, v6, v7, vbl⟩ := HXR.out
       cases hbd : Ex.binds e.kind e.kids.length j with
       | false =>
        have HBD := hid hbd
        clear hbd
        have HC := hid (HIH.out x (List.mem_of_getElem? HX.out) (HSZ.out.kid (List.mem_of_getElem? HX.out)) (HKO.out.bel HWX.out) (HMK.out.bel HKX.out))
        go_wp2_with fail
        with_reducible refine HC.out.mono ?_
        rintro e2 w7 ⟨rfl, hb7⟩
        have HBX : Hid (Below w1.heap.size w1 w7) := HBX.out.trans (hb7.mono HBX.out.size)
        have HKX : Hid (Below wk.heap.size wk w7) := HKX.out.trans (hb7.mono HKX.out.size)
        clear hb7
        obtain ⟨y0, y1, y2, y3, y4, y5, y6, y7, ybl⟩ := HR.out.bel HBX.out
        cases hh : Ex.badE (V) x with
        | true =>
         have HP : Hid (badAt e V j x = true) := by unfold Hid badAt; rw [HBD.out]; exact hh
         clear hh
         have HH := hid (bad_yes HX.out HP.out)
         go_wp2_with fail
         go_ret
         exact ⟨by rw [HH.out]; rfl, HB.out.below.trans (HBX.out.mono HB.out.below.size)⟩
        | false =>
         have HP : Hid (badAt e V j x = false) := by unfold Hid badAt; rw [HBD.out]; exact hh
         clear hh
         go_wp2_with fail
         go_roundg (e.kids.length - (j + 1))
         case measure => omega
         case rel => exact ⟨j + 1, by omega, rfl, by go_num, HKX.out, upto_step HA.out HX.out HP.out⟩
       | true =>
        have HBD := hid hbd
        clear hbd
        have HC := hid (HIH.out x (List.mem_of_getElem? HX.out) (HSZ.out.kid (List.mem_of_getElem? HX.out)) (HKO.out.bel HWX.out) (HI.out.bel HKX.out))
        go_wp2_with fail
        with_reducible refine HC.out.mono ?_
        rintro e2 w7 ⟨rfl, hb7⟩
        have HBX : Hid (Below w1.heap.size w1 w7) := HBX.out.trans (hb7.mono HBX.out.size)
        have HKX : Hid (Below wk.heap.size wk w7) := HKX.out.trans (hb7.mono HKX.out.size)
        clear hb7
        obtain ⟨y0, y1, y2, y3, y4, y5, y6, y7, ybl⟩ := HR.out.bel HBX.out
        cases hh : Ex.badE (Ex.innerV e V) x with
        | true =>
         have HP : Hid (badAt e V j x = true) := by unfold Hid badAt; rw [HBD.out]; exact hh
         clear hh
         have HH := hid (bad_yes HX.out HP.out)
         go_wp2_with fail
         go_ret
         exact ⟨by rw [HH.out]; rfl, HB.out.below.trans (HBX.out.mono HB.out.below.size)⟩
        | false =>
         have HP : Hid (badAt e V j x = false) := by unfold Hid badAt; rw [HBD.out]; exact hh
         clear hh
         go_wp2_with fail
         go_roundg (e.kids.length - (j + 1))
         case measure => omega
         case rel => exact ⟨j + 1, by omega, rfl, by go_num, HKX.out, upto_step HA.out HX.out HP.out⟩
      ·obtain rfl : j = e.kids.length := by omega
       have hge : ¬ ((e.kids.length : Int) < (e.kids.length : Int)) := by omega
       have HH := hid (bad_no HT.out HA.out)
       clear hlt hj
       go_wp2_with fail
       go_ret
       exact ⟨by rw [HH.out]; rfl, HB.out.below.trans (HBR.out.mono HB.out.below.size)⟩
end Ew
end Go.Proofs.YtkplkgdfphbldaaGreat
