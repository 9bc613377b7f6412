/- What may be handed to Box: the document's answer. -/
import Derived.Test.YtkplkgdfphbldaaGreatHJbd
import Derived.Test.YtkplkgdfphbldaaGreatHJbc
import Derived.Test.YtkplkgdfphbldaaGreatHJbe
import Derived.Test.YtkplkgdfphbldaaGreatHJbg
import Derived.Test.YtkplkgdfphbldaaGreatHJbk
import Derived.Test.YtkplkgdfphbldaaGreatHJbj
namespace Go.Proofs.YtkplkgdfphbldaaGreat
open Go.RowKit
open Go.Lib (hid)
set_option linter.unusedVariables false
set_option linter.unusedSimpArgs false
set_option linter.unnecessarySimpa false
set_option maxRecDepth 100000
namespace Ex
theorem sets_free (s : ByteArray) (e : Ex) : sets s e = true → isFree s e = true := by
 induction e using byKids with
 | h e ih =>
 intro h
 rcases (sets_iff s e).1 h with ⟨h1, h2⟩ | ⟨j, x, hx, hb, hs⟩
 ·exact (isFree_iff s e).2 (.inl ⟨.inr h1, h2⟩)
 ·exact (isFree_iff s e).2 (.inr ⟨j, x, hx, hb, ih x (List.mem_of_getElem? hx) hs⟩)
def freeSet (e : Ex) : Bool := (freeNames e).any fun s => sets s e
theorem freeSet_iff (e : Ex) : freeSet e = true ↔ ∃ s, sets s e = true := by
 unfold freeSet
 rw [List.any_eq_true]
 constructor
 ·rintro ⟨s, _, h⟩
  exact ⟨s, h⟩
 ·rintro ⟨s, h⟩
  exact ⟨s, (frees_mem s e [] []).2 (.inr ⟨sets_free s e h, by simp⟩), h⟩
def mayBox (e : Ex) : Bool := ok e && !badE (fun _ => 0) e
theorem mayBox_eq (e : Ex) : mayBox e = (ok e && (!has 9 e && (!freeSet e && !fixSet e))) := by
 unfold mayBox
 congr 1
 cases hb : badE (fun _ => 0) e with
 | true =>
  rcases (bad_law e _).1 hb with h | ⟨s, h, _⟩ | h
  ·rw [h]; rfl
  ·rw [(freeSet_iff e).2 ⟨s, h⟩]; simp
  ·rw [h]; simp
 | false =>
  have k : ∀ P : Prop, P → (P → badE (fun _ => 0) e = true) → False := fun P p f => by have := f p; rw [hb] at this; cases this
  have h1 : has 9 e = false := Bool.eq_false_iff.2 fun h => k _ h fun h => (bad_law e _).2 (.inl h)
  have h2 : freeSet e = false := Bool.eq_false_iff.2 fun h => by
   obtain ⟨s, h⟩ := (freeSet_iff e).1 h
   exact k _ h fun h => (bad_law e _).2 (.inr (.inl ⟨s, h, by decide⟩))
  have h3 : fixSet e = false := Bool.eq_false_iff.2 fun h => k _ h fun h => (bad_law e _).2 (.inr (.inr h))
  rw [h1, h2, h3]
  rfl
end Ex
namespace Ew
open Rn
set_option maxHeartbeats 8000000 in
theorem rfreeset_any (e : Ex) {w : World} {na : Option Addr} {nc : Nat} {da : Option Addr} {dn dc : Nat} {ka : Option Addr} {kc : Nat} (hs : Few e) (ht : Ex.all thin e = true) (hz : 6 * e.size ≤ 1000000) (ho : Op w e na nc da dn dc ka kc) :
  Calls Tryz.prog 61 #[.agg #[.int .i64 e.kind, .string e.name, .slice na e.names.length nc, .int .i64 e.const.kind, .int .i64 e.const.int, .string e.const.text, .slice da dn dc, .slice ka e.kids.length kc]] w (Says (.bool (Ex.freeSet e)) w) := by
 obtain ⟨w1, B1⟩ := boxedE w e na nc da dn dc ka kc
 have hR := Row.of B1.blk
 have HO := hid (ho.bel B1.below)
 have HB := hid B1
 have HR := hid hR
 have HSZ := hid hs
 have hF := rFree_any e hs ht hz (ho.bel B1.below)
 unfold TextsPost at hF
 have HFR := hid hF
 obtain ⟨l, hl⟩ : ∃ l, Ex.freeNames e = l := ⟨_, rfl⟩
 have HL := hid hl
 rw [hl] at HFR
 have HLL : Hid (l.length ≤ 10000000000) := by have := frees_len e [] []; unfold Hid; rw [← hl]; unfold Ex.freeNames; simp at this; omega
 obtain ⟨x0, x1, x2, x3, x4, x5, x6, x7, hbl⟩ := hR
 clear B1 ho hs ht hz hF hl
 go_enter Tryz.func61, Tryz.ntmps61
 go_upto_region 1 with fail
 rw [← HB.out.eq]
 go_wp2_with fail
 with_reducible refine HFR.out.mono ?_
 rintro e2 w2 ⟨fa, fc, rfl, hsl, hfc, hb2⟩
 have HSL := hid hsl
 have HB2 := hid hb2
 obtain ⟨y0, y1, y2, y3, y4, y5, y6, y7, ybl⟩ := HR.out.bel hb2
 clear hsl hb2 x0 x1 x2 x3 x4 x5 x6 x7 hbl
 go_wp2_with fail
 go_loopg [4] l.length (fun g i wr => ∃ j : Nat, j ≤ l.length ∧ g = l.length - j ∧ i = .int .i64 j ∧ Below w2.heap.size w2 wr ∧ ∀ s ∈ l.take j, Ex.sets s e = false)
 case atStart => exact ⟨0, Nat.zero_le _, rfl, rfl, Below.refl _ _, fun s hs => by simp at hs⟩
 case round =>
  obtain ⟨j, hj, rfl, rfl, hb, hall⟩ := hrel
  have HBW := hid hb
  have HA := hid hall
  have HBR : Hid (Below w1.heap.size w1 wr) := HB2.out.trans (hb.mono HB2.out.size)
  obtain ⟨y0, y1, y2, y3, y4, y5, y6, y7, ybl⟩ := HR.out.bel HBR.out
  clear hb hall
  by_cases hlt : j < l.length
  ·obtain ⟨s, hs⟩ : ∃ s, l[j]? = some s := ⟨_, List.getElem?_eq_getElem hlt⟩
   obtain ⟨b, off, rfl, hbl, hc⟩ := text_at (sl_bel HSL.out HBW.out) hs
   have HS := hid hs
   have g1 : (0 : Int) ≤ j := by omega
   have g2 : (j : Int) < l.length := by omega
   have gw : IntKind.i64.wrap ((j : Int) + 1) = ((j + 1 : Nat) : Int) := by rw [IntKind.wrap_i64]; have := HLL.out; omega
   have HDR : Hid (Below w1.heap.size w1 wr.drew) := HBR.out.drew
   have HDW : Hid (Below w2.heap.size w2 wr.drew) := HBW.out.drew
   have HC := hid (rsets_any s e HSZ.out (HO.out.bel HDR.out))
   clear hs
   go_upto_region 5 with fail
   go_still_tail 5, (by kernel_rfl)
   show wpList _ _ _ _ _ _
   go_wp2_with fail
   with_reducible refine HC.out.mono ?_
   rintro e2 w3 ⟨rfl, hb3⟩
   have HB3 : Hid (Below w2.heap.size w2 w3) := HDW.out.trans (hb3.mono HDW.out.size)
   clear hb3
   cases hh : Ex.sets s e with
   | true =>
    have HH : Hid (Ex.freeSet e = true) := (Ex.freeSet_iff e).2 ⟨s, hh⟩
    clear hh
    go_wp2_with fail
    go_ret
    exact ⟨by rw [HH.out]; rfl, HB.out.below.trans ((HB2.out.trans (HB3.out.mono HB2.out.size)).mono HB.out.below.size)⟩
   | false =>
    have HH := hid hh
    clear hh
    go_wp2_with fail
    go_roundg (l.length - (j + 1))
    case measure => omega
    case rel => exact ⟨j + 1, by omega, rfl, by go_num, HB3.out, fun u hu => by
     rw [List.take_add_one, HS.out, List.mem_append] at hu
     rcases hu with hu | hu
     ·exact HA.out u hu
     ·simp at hu
      rw [hu]
      exact HH.out⟩
  ·obtain rfl : j = l.length := by omega
   have hge : ¬ ((l.length : Int) < (l.length : Int)) := by omega
   have HH : Hid (Ex.freeSet e = false) := by
    unfold Hid Ex.freeSet
    rw [HL.out, List.any_eq_false]
    intro s hs
    rw [HA.out s (by rw [List.take_length]; exact hs)]
    simp
   clear hlt hj
   go_wp2_with fail
   go_ret
   exact ⟨by rw [HH.out]; rfl, HB.out.below.trans (HBR.out.mono HB.out.below.size)⟩
set_option maxHeartbeats 8000000 in
theorem rmay_any' (e : Ex) {w : World} {na : Option Addr} {nc : Nat} {da : Option Addr} {dn dc : Nat} {ka : Option Addr} {kc : Nat} (hf : Ex.Fit e) (ho : Op w e na nc da dn dc ka kc) :
  Calls Tryz.prog 39 #[.agg #[.int .i64 e.kind, .string e.name, .slice na e.names.length nc, .int .i64 e.const.kind, .int .i64 e.const.int, .string e.const.text, .slice da dn dc, .slice ka e.kids.length kc]] w (Says (.bool (Ex.mayBox e)) w) := by
 obtain ⟨w1, B1⟩ := boxedE w e na nc da dn dc ka kc
 have hR := Row.of B1.blk
 have HO := hid (ho.bel B1.below)
 have HB := hid B1
 have HR := hid hR
 have HCK := hid (rCheck_any e hf (ho.bel B1.below))
 have HMB := hid (Ex.mayBox_eq e)
 obtain ⟨x0, x1, x2, x3, x4, x5, x6, x7, hbl⟩ := hR
 by_cases hok : Ex.ok e = true
 ·rw [(Ex.chk_form e).2 hok] at HCK
  obtain ⟨hoa, hos, hod⟩ := (Ex.ok_iff e).1 hok
  have HFE := hid (few_of_ok hok)
  have HSZ : Hid (e.size ≤ 100000 ∧ 6 * e.size ≤ 1000000) := ⟨by omega, by omega⟩
  rw [hok] at HMB
  clear B1 ho hf hok hoa hos hod
  go_enter Tryz.func39, Tryz.ntmps39
  go_upto_region 1 with fail
  rw [← HB.out.eq]
  go_wp2_with fail
  with_reducible refine HCK.out.mono ?_
  rintro e2 w2 ⟨rfl, hb2⟩
  have HB2 := hid hb2
  have HC2 := hid (rhas_any 9 e HSZ.out.1 (HO.out.bel hb2))
  obtain ⟨y0, y1, y2, y3, y4, y5, y6, y7, ybl⟩ := HR.out.bel hb2
  clear hb2 x0 x1 x2 x3 x4 x5 x6 x7 hbl
  go_wp2_with fail
  with_reducible refine HC2.out.mono ?_
  rintro e2 w3 ⟨rfl, hb3⟩
  have HB3 : Hid (Below w1.heap.size w1 w3) := HB2.out.trans (hb3.mono HB2.out.size)
  clear hb3 y0 y1 y2 y3 y4 y5 y6 y7 ybl
  cases h9 : Ex.has 9 e with
  | true =>
   rw [h9] at HMB
   clear h9
   go_wp2_with fail
   go_ret
   exact ⟨by rw [HMB.out]; rfl, HB.out.below.trans (HB3.out.mono HB.out.below.size)⟩
  | false =>
   rw [h9] at HMB
   have HC3 := hid (rfreeset_any e HFE.out.1 HFE.out.2 HSZ.out.2 (HO.out.bel HB3.out))
   obtain ⟨y0, y1, y2, y3, y4, y5, y6, y7, ybl⟩ := HR.out.bel HB3.out
   clear h9
   go_wp2_with fail
   with_reducible refine HC3.out.mono ?_
   rintro e2 w4 ⟨rfl, hb4⟩
   have HB4 : Hid (Below w1.heap.size w1 w4) := HB3.out.trans (hb4.mono HB3.out.size)
   clear hb4 y0 y1 y2 y3 y4 y5 y6 y7 ybl
   cases h9 : Ex.freeSet e with
   | true =>
    rw [h9] at HMB
    clear h9
    go_wp2_with fail
    go_ret
    exact ⟨by rw [HMB.out]; rfl, HB.out.below.trans (HB4.out.mono HB.out.below.size)⟩
   | false =>
    rw [h9] at HMB
    have HC4 := hid (rfixset_any e HFE.out.1 (HO.out.bel HB4.out))
    obtain ⟨y0, y1, y2, y3, y4, y5, y6, y7, ybl⟩ := HR.out.bel HB4.out
    clear h9
    go_wp2_with fail
    with_reducible refine HC4.out.mono ?_
    rintro e2 w5 ⟨rfl, hb5⟩
    have HB5 : Hid (Below w1.heap.size w1 w5) := HB4.out.trans (hb5.mono HB4.out.size)
    clear hb5 y0 y1 y2 y3 y4 y5 y6 y7 ybl
    go_wp2_with fail
    go_ret
    exact ⟨by rw [HMB.out]; rfl, HB.out.below.trans (HB5.out.mono HB.out.below.size)⟩
 ·have hz : ¬ (Ex.chk Ex.form e 0 0).2 = 0 := fun h => hok ((Ex.chk_form e).1 h)
  obtain ⟨f, hfv⟩ : ∃ f, (Ex.chk Ex.form e 0 0).2 = f := ⟨_, rfl⟩
  rw [hfv] at HCK hz
  have kz : (f == 0) = false := beq_eq_false_iff_ne.2 hz
  rw [Bool.not_eq_true] at hok
  rw [hok] at HMB
  clear B1 ho hf hok hz hfv
  go_enter Tryz.func39, Tryz.ntmps39
  go_upto_region 1 with fail
  rw [← HB.out.eq]
  go_wp2_with fail
  with_reducible refine HCK.out.mono ?_
  rintro e2 w2 ⟨rfl, hb2⟩
  have HB2 := hid hb2
  clear hb2
  go_wp2_with fail
  go_ret
  exact ⟨by rw [HMB.out]; rfl, HB.out.below.trans (HB2.out.mono HB.out.below.size)⟩
end Ew
end Go.Proofs.YtkplkgdfphbldaaGreat
