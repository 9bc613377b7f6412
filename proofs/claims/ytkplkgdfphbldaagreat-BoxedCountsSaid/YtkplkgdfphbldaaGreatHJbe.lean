/- Expressions: SameTexts, FixSet. -/
import Derived.Test.YtkplkgdfphbldaaGreatHJbc
import Derived.Test.YtkplkgdfphbldaaGreatHJah
import Derived.Test.YtkplkgdfphbldaaGreatHJax
import Derived.Test.YtkplkgdfphbldaaGreatHJay
import Derived.Test.YtkplkgdfphbldaaGreatHJba
import Derived.BigQuiet
import Derived.Deep.QuietTactic
import Derived.Deep.RegionHeld3
import Derived.Test.YtkplkgdfphbldaaGreatHJbo
namespace Go.Proofs.YtkplkgdfphbldaaGreat
open Go.RowKit
open Go.Lib (hid)
set_option linter.unusedVariables false
set_option linter.unusedSimpArgs false
set_option linter.unnecessarySimpa false
set_option maxRecDepth 100000
namespace Ew
open Rn
set_option maxHeartbeats 8000000 in
theorem sametexts_any (l m : List ByteArray) {w : World} {la : Option Addr} {lc : Nat} {ma : Option Addr} {mc : Nat} (hl : Sl w (.slice la l.length lc) (strs l)) (hm : Sl w (.slice ma m.length mc) (strs m)) (hll : l.length ≤ 10000000000) :
  Calls Tryz.prog 29 #[.slice la l.length lc, .slice ma m.length mc] w (Says (.bool (decide (l = m))) w) := by
 have HL := hid hl
 have HM := hid hm
 clear hl hm
 by_cases hlen : l.length = m.length
 ·have k1 : ((l.length : Int) != (m.length : Int)) = false := by rw [hlen]; simp
  have HLEN := hid hlen
  clear hlen
  go_enter Tryz.func29, Tryz.ntmps29
  go_wp2_with fail
  go_loopg [5] l.length (fun g i wr => ∃ j : Nat, j ≤ l.length ∧ g = l.length - j ∧ i = .int .i64 j ∧ Below w.heap.size w wr ∧ l.take j = m.take j)
  case atStart => exact ⟨0, Nat.zero_le _, rfl, rfl, Below.refl _ _, rfl⟩
  case round =>
   obtain ⟨j, hj, rfl, rfl, hb, hall⟩ := hrel
   have HB2 := hid hb
   have HA := hid hall
   clear hb hall
   by_cases hlt : j < l.length
   ·obtain ⟨x, hx⟩ : ∃ x, l[j]? = some x := ⟨_, List.getElem?_eq_getElem hlt⟩
    obtain ⟨y, hy⟩ : ∃ y, m[j]? = some y := ⟨_, List.getElem?_eq_getElem (by have := HLEN.out; omega)⟩
    obtain ⟨b, off, rfl, hbl, hc⟩ := text_at (sl_bel HL.out HB2.out) hx
    obtain ⟨b2, off2, rfl, hbl2, hc2⟩ := text_at (sl_bel HM.out HB2.out) hy
    have HX := hid hx
    have HY := hid hy
    have g1 : (0 : Int) ≤ j := by omega
    have g2 : (j : Int) < l.length := by omega
    have g3 : (j : Int) < m.length := by have := HLEN.out; omega
    have gw : IntKind.i64.wrap ((j : Int) + 1) = ((j + 1 : Nat) : Int) := by rw [IntKind.wrap_i64]; omega
    clear hx hy
    by_cases hs : x = y
    ·have hs2 : (x.toList == y.toList) = true := by rw [hs]; exact beq_self_eq_true _
     have hs3 : (x.toList != y.toList) = false := by rw [hs]; simp
     have HS := hid hs
     clear hs
     go_wp2_with fail
     go_quiet (fail)
     go_wp2_with fail
     go_roundg (l.length - (j + 1))
     case measure => omega
     case rel =>
      refine ⟨j + 1, by omega, rfl, by go_num, below_drewN HB2.out _, ?_⟩
      rw [List.take_add_one, HX.out, List.take_add_one, HY.out, HA.out, HS.out]
    ·have hs2 : (x.toList == y.toList) = false := beq_eq_false_iff_ne.2 fun h => hs (toList_inj' h)
     have hs3 : (x.toList != y.toList) = true := by rw [bne_iff_ne]; exact fun h => hs (toList_inj' h)
     have HH : Hid (decide (l = m) = false) := by
      apply decide_eq_false
      intro e
      have h1 := HX.out
      rw [e, HY.out] at h1
      exact hs (Option.some.inj h1).symm
     clear hs
     go_wp2_with fail
     go_quiet (fail)
     go_wp2_with fail
     go_ret
     exact ⟨by rw [HH.out]; rfl, below_drewN HB2.out _⟩
   ·have hje : j = l.length := by omega
    have HH : Hid (decide (l = m) = true) := by
     apply decide_eq_true
     have h := HA.out
     rw [hje, List.take_length, HLEN.out, List.take_length] at h
     exact h
    have hge : (l.length : Int) ≤ j := by omega
    go_wp2_with fail
    go_ret
    exact ⟨by rw [HH.out]; rfl, HB2.out⟩
 ·have k1 : ((l.length : Int) != (m.length : Int)) = true := by rw [bne_iff_ne]; omega
  have HH : Hid (decide (l = m) = false) := decide_eq_false fun e => hlen (by rw [e])
  clear hlen
  go_enter Tryz.func29, Tryz.ntmps29
  go_wp2_with fail
  go_ret
  exact ⟨by rw [HH.out]; rfl, Below.refl _ _⟩
set_option maxHeartbeats 8000000 in
theorem rfixset_any (e : Ex) : ∀ {w : World} {na : Option Addr} {nc : Nat} {da : Option Addr} {dn dc : Nat} {ka : Option Addr} {kc : Nat}, Few e → Op w e na nc da dn dc ka kc →
  Calls Tryz.prog 13 #[.agg #[.int .i64 e.kind, .string e.name, .slice na e.names.length nc, .int .i64 e.const.kind, .int .i64 e.const.int, .string e.const.text, .slice da dn dc, .slice ka e.kids.length kc]] w (Says (.bool (Ex.fixSet e)) w) := by
 induction e using Ex.byKids with
 | h e ih =>
 intro w na nc da dn dc ka kc hsz ho
 obtain ⟨w1, B1⟩ := boxedE w e na nc da dn dc ka kc
 have hR := Row.of B1.blk
 have HO := hid (ho.bel B1.below)
 have HB := hid B1
 have HR := hid hR
 have HIH := hid ih
 clear ih
 have hl := hsz.len
 have HSZ := hid hsz
 obtain ⟨x0, x1, x2, x3, x4, x5, x6, x7, hbl⟩ := hR
 clear B1 ho hsz
 have hnl : e.names.length ≤ 1000000 := HSZ.out.nl
 go_enter Tryz.func13, Tryz.ntmps13
 go_upto_region 1 with fail
 rw [← HB.out.eq]
 go_wp2_with fail
 go_loopg [3] e.names.length (fun g i wr => ∃ j : Nat, j ≤ e.names.length ∧ g = e.names.length - j ∧ i = .int .i64 j ∧ Below w1.heap.size w1 wr ∧ (e.kind = 10 ∨ j = 0) ∧ ∀ s ∈ e.names.take j, Ex.assigned e s = false)
 case atStart => exact ⟨0, Nat.zero_le _, rfl, rfl, Below.refl _ _, .inr rfl, fun s hs => by simp at hs⟩
 case round =>
  obtain ⟨j, hj, rfl, rfl, hb, hk, hall⟩ := hrel
  have HBW := hid hb
  have HA := hid hall
  obtain ⟨y0, y1, y2, y3, y4, y5, y6, y7, ybl⟩ := HR.out.bel hb
  clear hb hall
  have hcase : (j < e.names.length ∧ e.kind = 10) ∨ (j < e.names.length ∧ e.kind ≠ 10) ∨ j = e.names.length := by omega
  have HK := hid hk
  clear hk
  rcases hcase with ⟨hlt, hk⟩ | hcase
  ·have k1 : (e.kind == 10) = true := by rw [hk]; rfl
   have HK10 := hid hk
   obtain ⟨s, hs⟩ : ∃ s, e.names[j]? = some s := ⟨_, List.getElem?_eq_getElem hlt⟩
   obtain ⟨b, off, rfl, hbl, hc⟩ := text_at (HO.out.bel HBW.out).names hs
   have HS := hid hs
   have g1 : (0 : Int) ≤ j := by omega
   have g2 : (j : Int) < e.names.length := by omega
   have gw : IntKind.i64.wrap ((j : Int) + 1) = ((j + 1 : Nat) : Int) := by rw [IntKind.wrap_i64]; omega
   have HDR : Hid (Below w1.heap.size w1 wr.drew) := HBW.out.drew
   have HC := hid (rasg_any s e HSZ.out (HO.out.bel HDR.out))
   clear hs hk
   go_upto_region 4 with fail
   go_still_tail 6, (by kernel_rfl)
   show wpList _ _ _ _ _ _
   go_wp2_with fail
   with_reducible refine HC.out.mono ?_
   rintro e2 w2 ⟨rfl, hb2⟩
   have HB3 : Hid (Below w1.heap.size w1 w2) := HDR.out.trans (hb2.mono HDR.out.size)
   clear hb2
   cases hh : Ex.assigned e s with
   | true =>
    have HH : Hid (Ex.fixSet e = true) := (Ex.fixSet_iff e).2 (.inl ⟨HK10.out, s, List.mem_of_getElem? HS.out, hh⟩)
    clear hh
    go_wp2_with fail
    go_ret
    exact ⟨by rw [HH.out]; rfl, HB.out.below.trans (HB3.out.mono HB.out.below.size)⟩
   | false =>
    have HH := hid hh
    clear hh
    go_wp2_with fail
    go_roundg (e.names.length - (j + 1))
    case measure => omega
    case rel =>
     refine ⟨j + 1, by omega, rfl, by go_num, HB3.out, .inl HK10.out, fun y hy => ?_⟩
     rw [List.take_add_one, HS.out] at hy
     simp at hy
     rcases hy with hy | rfl
     ·exact HA.out y hy
     ·exact HH.out
  ·have HN : Hid (¬ (e.kind = 10 ∧ ∃ s ∈ e.names, Ex.assigned e s = true)) := by
    rintro ⟨h10, s, hs, h⟩
    rcases hcase with ⟨_, h1⟩ | h1
    ·exact h1 h10
    ·have := HA.out s (by rw [h1, List.take_length]; exact hs)
     rw [this] at h
     cases h
   rcases hcase with ⟨hlt, hk⟩ | hje
   ·have k1 : (e.kind == 10) = false := beq_eq_false_iff_ne.2 hk
    have g2 : (j : Int) < e.names.length := by omega
    clear hk
    go_wp2_with fail
    go_loopg [4] e.kids.length (fun g i wx => ∃ k : Nat, k ≤ e.kids.length ∧ g = e.kids.length - k ∧ i = .int .i64 k ∧ Below w1.heap.size w1 wx ∧ ∀ y ∈ e.kids.take k, Ex.fixSet y = false)
    case atStart => exact ⟨0, Nat.zero_le _, rfl, rfl, HBW.out, fun y hy => by simp at hy⟩
    case round =>
     obtain ⟨k, hj2, rfl, rfl, hb, hall⟩ := hrel
     have HBW := hid hb
     have HA2 := hid hall
     obtain ⟨y0, y1, y2, y3, y4, y5, y6, y7, ybl⟩ := HR.out.bel hb
     clear hb hall
     by_cases hlt2 : k < e.kids.length
     ·obtain ⟨x, hx⟩ : ∃ x, e.kids[k]? = some x := ⟨_, List.getElem?_eq_getElem hlt2⟩
      have HX := hid hx
      obtain ⟨kb, koff, na2, nc2, da2, dn2, dc2, ya2, yc2, hk⟩ := (HO.out.bel HBW.out).kid hx
      have HKO := hid hk.op
      obtain ⟨e1, hkb, ⟨g1, g2⟩, _, c0, c1, c2, c3, c4, c5, c6, c7⟩ := hk
      subst e1
      have gw : IntKind.i64.wrap ((k : Int) + 1) = ((k + 1 : Nat) : Int) := by rw [IntKind.wrap_i64]; omega
      have HC := hid (HIH.out x (List.mem_of_getElem? HX.out) (HSZ.out.kid (List.mem_of_getElem? HX.out)) HKO.out)
      clear hx
      go_wp2_with fail
      with_reducible refine HC.out.mono ?_
      rintro e2 w2 ⟨rfl, hb2⟩
      have HB3 : Hid (Below w1.heap.size w1 w2) := HBW.out.trans (hb2.mono HBW.out.size)
      clear hb2
      cases hh : Ex.fixSet x with
      | true =>
       have HH : Hid (Ex.fixSet e = true) := (Ex.fixSet_iff e).2 (.inr ⟨x, List.mem_of_getElem? HX.out, hh⟩)
       clear hh
       go_wp2_with fail
       go_ret
       exact ⟨by rw [HH.out]; rfl, HB.out.below.trans (HB3.out.mono HB.out.below.size)⟩
      | false =>
       have HH := hid hh
       clear hh
       go_wp2_with fail
       go_roundg (e.kids.length - (k + 1))
       case measure => omega
       case rel =>
        refine ⟨k + 1, by omega, rfl, by go_num, HB3.out, fun y hy => ?_⟩
        rw [List.take_add_one, HX.out] at hy
        simp at hy
        rcases hy with hy | rfl
        ·exact HA2.out y hy
        ·exact HH.out
     ·have hje2 : k = e.kids.length := by omega
      have HH : Hid (Ex.fixSet e = false) := by
       unfold Hid
       rw [Bool.eq_false_iff]
       intro h
       rcases (Ex.fixSet_iff e).1 h with h | ⟨x, hx, h⟩
       ·exact HN.out h
       ·have := HA2.out x (by rw [hje2, List.take_length]; exact hx)
        rw [this] at h
        cases h
      have hge2 : (e.kids.length : Int) ≤ k := by omega
      go_wp2_with fail
      go_ret
      exact ⟨by rw [HH.out]; rfl, HB.out.below.trans (HBW.out.mono HB.out.below.size)⟩
   ·have hge : (e.names.length : Int) ≤ j := by omega
    clear hje
    go_wp2_with fail
    go_loopg [4] e.kids.length (fun g i wx => ∃ k : Nat, k ≤ e.kids.length ∧ g = e.kids.length - k ∧ i = .int .i64 k ∧ Below w1.heap.size w1 wx ∧ ∀ y ∈ e.kids.take k, Ex.fixSet y = false)
    case atStart => exact ⟨0, Nat.zero_le _, rfl, rfl, HBW.out, fun y hy => by simp at hy⟩
    case round =>
     obtain ⟨k, hj2, rfl, rfl, hb, hall⟩ := hrel
     have HBW := hid hb
     have HA2 := hid hall
     obtain ⟨y0, y1, y2, y3, y4, y5, y6, y7, ybl⟩ := HR.out.bel hb
     clear hb hall
     by_cases hlt2 : k < e.kids.length
     ·obtain ⟨x, hx⟩ : ∃ x, e.kids[k]? = some x := ⟨_, List.getElem?_eq_getElem hlt2⟩
      have HX := hid hx
      obtain ⟨kb, koff, na2, nc2, da2, dn2, dc2, ya2, yc2, hk⟩ := (HO.out.bel HBW.out).kid hx
      have HKO := hid hk.op
      obtain ⟨e1, hkb, ⟨g1, g2⟩, _, c0, c1, c2, c3, c4, c5, c6, c7⟩ := hk
      subst e1
      have gw : IntKind.i64.wrap ((k : Int) + 1) = ((k + 1 : Nat) : Int) := by rw [IntKind.wrap_i64]; omega
      have HC := hid (HIH.out x (List.mem_of_getElem? HX.out) (HSZ.out.kid (List.mem_of_getElem? HX.out)) HKO.out)
      clear hx
      go_wp2_with fail
      with_reducible refine HC.out.mono ?_
      rintro e2 w2 ⟨rfl, hb2⟩
      have HB3 : Hid (Below w1.heap.size w1 w2) := HBW.out.trans (hb2.mono HBW.out.size)
      clear hb2
      cases hh : Ex.fixSet x with
      | true =>
       have HH : Hid (Ex.fixSet e = true) := (Ex.fixSet_iff e).2 (.inr ⟨x, List.mem_of_getElem? HX.out, hh⟩)
       clear hh
       go_wp2_with fail
       go_ret
       exact ⟨by rw [HH.out]; rfl, HB.out.below.trans (HB3.out.mono HB.out.below.size)⟩
      | false =>
       have HH := hid hh
       clear hh
       go_wp2_with fail
       go_roundg (e.kids.length - (k + 1))
       case measure => omega
       case rel =>
        refine ⟨k + 1, by omega, rfl, by go_num, HB3.out, fun y hy => ?_⟩
        rw [List.take_add_one, HX.out] at hy
        simp at hy
        rcases hy with hy | rfl
        ·exact HA2.out y hy
        ·exact HH.out
     ·have hje2 : k = e.kids.length := by omega
      have HH : Hid (Ex.fixSet e = false) := by
       unfold Hid
       rw [Bool.eq_false_iff]
       intro h
       rcases (Ex.fixSet_iff e).1 h with h | ⟨x, hx, h⟩
       ·exact HN.out h
       ·have := HA2.out x (by rw [hje2, List.take_length]; exact hx)
        rw [this] at h
        cases h
      have hge2 : (e.kids.length : Int) ≤ k := by omega
      go_wp2_with fail
      go_ret
      exact ⟨by rw [HH.out]; rfl, HB.out.below.trans (HBW.out.mono HB.out.below.size)⟩
theorem quiet_l {P : Program} {f : FuncId} {args : Array Value} {w : World} {n : Nat} {v : Value}
  (h : Calls P f args (w.drewN n) fun e w' => e = .returned v ∧ w.drewN n = w') : Calls P f args (w.drewN n) fun e w'' => e = .returned v ∧ ∃ m, w'' = w.drewN m :=
 h.mono fun _ _ ⟨he, hm⟩ => ⟨he, n, hm.symm⟩
theorem namesB_take (l : List ByteArray) (j : Nat) (x : ByteArray) (hx : l[j]? = some x) : Ex.namesB (l.take (j + 1)) = (Ex.namesB (l.take j) && Nm.nameB x && !Ex.inN (l.take j) x) := by
 have hin : Ex.inN (l.take j) x = false ↔ x ∉ l.take j := by
  rw [← Ex.inN_iff]
  simp
 rw [Bool.eq_iff_iff, Bool.and_eq_true, Bool.and_eq_true, Bool.not_eq_true', hin, Ex.namesB_iff, Ex.namesB_iff, List.take_add_one, hx]
 show (∀ s ∈ l.take j ++ [x], Nm.nameB s = true) ∧ (l.take j ++ [x]).Nodup ↔ _
 rw [List.nodup_append]
 constructor
 ·rintro ⟨h1, h2, _, h4⟩
  exact ⟨⟨⟨fun s hs => h1 s (List.mem_append_left _ hs), h2⟩, h1 x (by simp)⟩, fun hm => h4 x hm x (by simp) rfl⟩
 ·rintro ⟨⟨⟨h1, h2⟩, h3⟩, h4⟩
  refine ⟨fun s hs => ?_, h2, by simp, fun a ha b hb e => ?_⟩
  ·rcases List.mem_append.1 hs with hs | hs
   ·exact h1 s hs
   ·simp at hs
    rw [hs]
    exact h3
  ·simp at hb
   subst hb
   subst e
   exact h4 ha
theorem namesB_sub {l : List ByteArray} (h : Ex.namesB l = true) (j : Nat) : Ex.namesB (l.take j) = true := by
 unfold Ex.namesB at *
 rw [Bool.and_eq_true] at *
 exact ⟨List.all_eq_true.2 fun x hx => List.all_eq_true.1 h.1 x (List.mem_of_mem_take hx), decide_eq_true ((List.take_sublist _ _).nodup (of_decide_eq_true h.2))⟩
theorem namesB_bad {l : List ByteArray} {j : Nat} (h : Ex.namesB (l.take j) = false) : Ex.namesB l = false := by
 rw [Bool.eq_false_iff]
 intro e
 rw [namesB_sub e j] at h
 cases h
set_option maxHeartbeats 8000000 in
theorem rnames_any (l : List ByteArray) {w : World} {na : Option Addr} {nc : Nat} (hn : Sl w (.slice na l.length nc) (strs l)) (hr : l.length ≤ nc) (hl : l.length ≤ 9223372036854775807) (hs : ∀ s ∈ l, s.size ≤ maxLen) :
  Calls Tryz.prog 86 #[.slice na l.length nc] w (Says (.bool (Ex.namesB l)) w) := by
 have HN := hid hn
 have HS := hid hs
 clear hn hs
 go_enter Tryz.func86, Tryz.ntmps86
 go_wp2_with fail
 go_loopg [3] l.length (fun g i wr => ∃ j : Nat, j ≤ l.length ∧ g = l.length - j ∧ i = .int .i64 j ∧ Below w.heap.size w wr ∧ Ex.namesB (l.take j) = true)
 case atStart => exact ⟨0, Nat.zero_le _, rfl, rfl, Below.refl _ _, by rw [List.take_zero]; rfl⟩
 case round =>
  obtain ⟨j, hj, rfl, rfl, hb, hall⟩ := hrel
  have HB2 := hid hb
  have HA := hid hall
  clear hb hall
  by_cases hlt : j < l.length
  ·obtain ⟨x, hx⟩ : ∃ x, l[j]? = some x := ⟨_, List.getElem?_eq_getElem hlt⟩
   have hsl := sl_bel HN.out HB2.out
   have hst := sl_take hsl j hlt
   obtain ⟨b, off, rfl, hbl, hc⟩ := text_at hsl hx
   have HX := hid hx
   have HST := hid hst
   have hxs : x.size ≤ maxLen := HS.out x (List.mem_of_getElem? hx)
   have g1 : (0 : Int) ≤ j := by omega
   have g2 : (j : Int) < l.length := by omega
   have g3 : (j : Int) ≤ nc := by omega
   have g4 : j ≤ nc := by omega
   have gw : IntKind.i64.wrap ((j : Int) + 1) = ((j + 1 : Nat) : Int) := by rw [IntKind.wrap_i64]; omega
   have hle : (l.take j).length = j := by rw [List.length_take]; omega
   have HTK := hid (namesB_take l j x hx)
   clear hx hsl hst
   have HIN : Hid (∀ k, Calls Tryz.prog 66 #[.slice (some ⟨b, off, none⟩) j nc, .string x] (wr.drewN k) fun e w' => e = .returned (.bool (Ex.inN (l.take j) x)) ∧ wr.drewN k = w') := fun k => by
    have h := rin_at (l.take j) x (w := wr.drewN k) (na := some ⟨b, off, none⟩) (nc := nc) (by rw [hle]; exact sl_bel HST.out (below_drewN (Below.refl _ _) k)) (by omega)
    rw [hle] at h
    exact h
   have HNM := hid (rname_any x hxs)
   cases hnb : Nm.nameB x with
   | false =>
    rw [hnb] at HNM HTK
    have HH : Hid (Ex.namesB l = false) := namesB_bad (j := j + 1) (by rw [HTK.out]; simp)
    clear hnb hle
    go_wp2_with fail
    go_quiet (first | (go_at_call 87; first | exact quiet_l (HNM.out _) | exact quiet_al (HNM.out _)))
    go_wp2_with fail
    go_ret
    exact ⟨by rw [HH.out]; rfl, below_drewN HB2.out _⟩
   | true =>
    rw [hnb] at HNM HTK
    clear hnb hle
    cases hin : Ex.inN (l.take j) x with
    | true =>
     rw [hin] at HIN HTK
     have HH : Hid (Ex.namesB l = false) := namesB_bad (j := j + 1) (by rw [HTK.out]; simp)
     clear hin
     go_wp2_with fail
     go_quiet (first | (go_at_call 87; first | exact quiet_l (HNM.out _) | exact quiet_al (HNM.out _)) | (go_at_call 66; first | exact quiet_l (HIN.out _) | exact quiet_al (HIN.out _)))
     go_wp2_with fail
     go_ret
     exact ⟨by rw [HH.out]; rfl, below_drewN HB2.out _⟩
    | false =>
     rw [hin] at HIN HTK
     clear hin
     go_wp2_with fail
     go_quiet (first | (go_at_call 87; first | exact quiet_l (HNM.out _) | exact quiet_al (HNM.out _)) | (go_at_call 66; first | exact quiet_l (HIN.out _) | exact quiet_al (HIN.out _)))
     go_wp2_with fail
     go_roundg (l.length - (j + 1))
     case measure => omega
     case rel => exact ⟨j + 1, by omega, rfl, by go_num, below_drewN HB2.out _, by rw [HTK.out, HA.out]; rfl⟩
  ·have hje : j = l.length := by omega
   have HH : Hid (Ex.namesB l = true) := by
    have h := HA.out
    rw [hje, List.take_length] at h
    exact h
   have hge : (l.length : Int) ≤ j := by omega
   clear hje
   go_wp2_with fail
   go_ret
   exact ⟨by rw [HH.out]; rfl, HB2.out⟩
set_option maxHeartbeats 2000000 in
theorem rsame_bare (k i : Int) (t : ByteArray) (a : Option Addr) (n c : Nat) (hn : n ≤ 9223372036854775807) (w : World) : Calls Tryz.prog 32 #[.agg #[.int .i64 k, .int .i64 i, .string t, .slice a n c], .agg #[.int .i64 0, .int .i64 0, .string ⟨#[]⟩, .slice none 0 0]] w fun e w' => e = .returned (.bool (decide (k = 0) && decide (i = 0) && decide (t = ⟨#[]⟩) && decide (n = 0))) ∧ Below w.heap.size w w' := by
 have hB : Below w.heap.size w ((w.alloc (.cells #[.int .i64 k, .int .i64 i, .string t, .slice a n c] 25)).alloc (.cells #[.int .i64 0, .int .i64 0, .string ⟨#[]⟩, .slice none 0 0] 25)) := ((Below.refl _ _).alloc (Nat.le_refl _) _).alloc (by simp) _
 have HB := hid hB
 clear hB
 by_cases hk : k = 0
 ·subst hk
  by_cases hi : i = 0
  ·subst hi
   by_cases ht : t = ⟨#[]⟩
   ·subst ht
    by_cases h0 : n = 0
    ·subst h0
     go_enter Tryz.func32, Tryz.ntmps32
     go_wp2_with fail
     refine wp_loop_rounds 1 ?_
     rw [rounds_succ]
     go_wp2_with fail
     go_ret
     exact ⟨by simp, HB.out⟩
    ·have g1 : ((n : Int) == 0) = false := by rw [beq_eq_false_iff_ne]; omega
     have g2 : (n == 0) = false := by rw [beq_eq_false_iff_ne]; exact h0
     have g3 : ((n : Int) != 0) = true := by rw [bne_iff_ne]; omega
     have g4 : (n != 0) = true := by rw [bne_iff_ne]; exact h0
     have e : (decide ((0 : Int) = 0) && decide ((0 : Int) = 0) && decide ((⟨#[]⟩ : ByteArray) = ⟨#[]⟩) && decide (n = 0)) = false := by simp [h0]
     rw [e]
     clear h0
     go_enter Tryz.func32, Tryz.ntmps32
     go_wp2_with fail
     go_ret
     exact ⟨rfl, HB.out⟩
   ·have z3 : ¬ t.toList = [] := fun e => ht (by rw [Lib.toList_data] at e; obtain ⟨d⟩ := t; have h4 : d = #[] := Array.toList_eq_nil_iff.1 e; rw [h4])
    have z4 : t.toList.isEmpty = false := by simpa using z3
    have z5 : (t.toList == []) = false := by simpa using z3
    have e : (decide ((0 : Int) = 0) && decide ((0 : Int) = 0) && decide (t = (⟨#[]⟩ : ByteArray)) && decide (n = 0)) = false := by simp [ht]
    rw [e]
    have g5 := bytes_ne ht
    clear ht
    go_enter Tryz.func32, Tryz.ntmps32
    go_wp2_with fail
    go_ret
    exact ⟨rfl, HB.out⟩
  ·have g1 : (i == 0) = false := beq_eq_false_iff_ne.2 hi
   have g2 : (i != 0) = true := by rw [bne_iff_ne]; exact hi
   have e : (decide ((0 : Int) = 0) && decide (i = 0) && decide (t = (⟨#[]⟩ : ByteArray)) && decide (n = 0)) = false := by simp [hi]
   rw [e]
   clear hi
   go_enter Tryz.func32, Tryz.ntmps32
   go_wp2_with fail
   go_ret
   exact ⟨rfl, HB.out⟩
 ·have g1 : (k == 0) = false := beq_eq_false_iff_ne.2 hk
  have g2 : (k != 0) = true := by rw [bne_iff_ne]; exact hk
  have e : (decide (k = 0) && decide (i = 0) && decide (t = (⟨#[]⟩ : ByteArray)) && decide (n = 0)) = false := by simp [hk]
  rw [e]
  clear hk
  go_enter Tryz.func32, Tryz.ntmps32
  go_wp2_with fail
  go_ret
  exact ⟨rfl, HB.out⟩
set_option maxHeartbeats 4000000 in
theorem rconst6_any (d : Dt) (v : Value) (w : World) (hd : DtAt w (fun _ => True) v d) (hf : Dt.Fit d) : Calls Tryz.prog 54 #[v] w fun e w' => e = .returned (.bool (constF d).2) ∧ Below w.heap.size w w' := by
 obtain ⟨a, c, rfl, _⟩ := hd.inv
 obtain ⟨w1, hw1, hW⟩ : ∃ w1, w1 = w.alloc (.cells #[.int .i64 d.kind, .int .i64 d.int, .string d.text, .slice a d.list.length c] 25) ∧ w1.heap[w.heap.size]? = some (.cells #[.int .i64 d.kind, .int .i64 d.int, .string d.text, .slice a d.list.length c] 25 (0, 0)) := ⟨_, rfl, heap_new rfl⟩
 have hB : Below w.heap.size w w1 := by rw [hw1]; exact (Below.refl _ _).alloc (Nat.le_refl _) _
 have hsz : w1.heap.size = w.heap.size + 1 := by rw [hw1]; simp
 have HC := hid (rcheck_any d _ w1 (hd.bel hB (Nat.le_refl _)) hf)
 have HW := hid hw1
 have HB := hid hB
 have HWB := hid hW
 have hll : d.list.length ≤ 9223372036854775807 := by cases hf; assumption
 clear hd hf hw1 hB hW
 have hcf : (constF d).2 = (decide (d.chkE = 0) && (decide (d.kind = 0) || decide (d.kind = 1) || decide (d.kind = 2) || decide (d.kind = 4) || (decide (d.kind = 5) && decide (d.list = [])))) := by
  unfold constF
  by_cases hE : d.chkE = 0
  ·simp only [hE, ne_eq, not_true_eq_false, if_false, decide_true, Bool.true_and]
   by_cases k0 : d.kind = 0
   ·simp [k0]
   by_cases k1 : d.kind = 1
   ·simp [k1]
   by_cases k2 : d.kind = 2
   ·simp [k2]
   by_cases k4 : d.kind = 4
   ·simp [k4]
   by_cases k5 : d.kind = 5 ∧ d.list = []
   ·simp [k5.1, k5.2]
   ·by_cases k6 : d.kind = 5
    ·have : ¬ d.list = [] := fun e => k5 ⟨k6, e⟩
     simp [k6, this]
    ·simp [k0, k1, k2, k4, k6]
  ·simp [hE]
 rw [hcf]
 obtain ⟨k, i, t, l⟩ := d
 simp only [Dt.kind_mk, Dt.int_mk, Dt.text_mk, Dt.list_mk] at *
 generalize (Dt.mk k i t l).chkE = E at *
 clear hcf
 by_cases hE : E = 0
 ·subst hE
  rcases (by omega : k = 0 ∨ k = 1 ∨ k = 2 ∨ k = 4 ∨ k = 5 ∨ (¬ k = 0 ∧ ¬ k = 1 ∧ ¬ k = 2 ∧ ¬ k = 4 ∧ ¬ k = 5)) with rfl | rfl | rfl | rfl | rfl | hk
  ·skip
   go_enter Tryz.func54, Tryz.ntmps54
   go_wp2_with fail
   rw [← HW.out]
   with_reducible refine HC.out.mono ?_
   rintro e w3 ⟨rfl, hb3⟩
   have HB3 : Hid (Below w.heap.size w w3) := HB.out.trans (hb3.mono HB.out.size)
   have hx := (hb3.block w.heap.size (by omega)).trans HWB.out
   have x0 := cell_of_row w3 w.heap.size 0 _ _ _ hx
   have x3 := cell_of_row w3 w.heap.size 3 _ _ _ hx
   simp only [List.getElem?_toArray, List.getElem?_cons_zero, List.getElem?_cons_succ] at x0 x3
   have hq3 : w.heap.size < w3.heap.size := by have := hb3.size; omega
   clear hb3 hx
   go_wp2_with fail
   go_ret
   exact ⟨by first | rfl | simp, HB3.out⟩
  ·skip
   go_enter Tryz.func54, Tryz.ntmps54
   go_wp2_with fail
   rw [← HW.out]
   with_reducible refine HC.out.mono ?_
   rintro e w3 ⟨rfl, hb3⟩
   have HB3 : Hid (Below w.heap.size w w3) := HB.out.trans (hb3.mono HB.out.size)
   have hx := (hb3.block w.heap.size (by omega)).trans HWB.out
   have x0 := cell_of_row w3 w.heap.size 0 _ _ _ hx
   have x3 := cell_of_row w3 w.heap.size 3 _ _ _ hx
   simp only [List.getElem?_toArray, List.getElem?_cons_zero, List.getElem?_cons_succ] at x0 x3
   have hq3 : w.heap.size < w3.heap.size := by have := hb3.size; omega
   clear hb3 hx
   go_wp2_with fail
   go_ret
   exact ⟨by first | rfl | simp, HB3.out⟩
  ·skip
   go_enter Tryz.func54, Tryz.ntmps54
   go_wp2_with fail
   rw [← HW.out]
   with_reducible refine HC.out.mono ?_
   rintro e w3 ⟨rfl, hb3⟩
   have HB3 : Hid (Below w.heap.size w w3) := HB.out.trans (hb3.mono HB.out.size)
   have hx := (hb3.block w.heap.size (by omega)).trans HWB.out
   have x0 := cell_of_row w3 w.heap.size 0 _ _ _ hx
   have x3 := cell_of_row w3 w.heap.size 3 _ _ _ hx
   simp only [List.getElem?_toArray, List.getElem?_cons_zero, List.getElem?_cons_succ] at x0 x3
   have hq3 : w.heap.size < w3.heap.size := by have := hb3.size; omega
   clear hb3 hx
   go_wp2_with fail
   go_ret
   exact ⟨by first | rfl | simp, HB3.out⟩
  ·skip
   go_enter Tryz.func54, Tryz.ntmps54
   go_wp2_with fail
   rw [← HW.out]
   with_reducible refine HC.out.mono ?_
   rintro e w3 ⟨rfl, hb3⟩
   have HB3 : Hid (Below w.heap.size w w3) := HB.out.trans (hb3.mono HB.out.size)
   have hx := (hb3.block w.heap.size (by omega)).trans HWB.out
   have x0 := cell_of_row w3 w.heap.size 0 _ _ _ hx
   have x3 := cell_of_row w3 w.heap.size 3 _ _ _ hx
   simp only [List.getElem?_toArray, List.getElem?_cons_zero, List.getElem?_cons_succ] at x0 x3
   have hq3 : w.heap.size < w3.heap.size := by have := hb3.size; omega
   clear hb3 hx
   go_wp2_with fail
   go_ret
   exact ⟨by first | rfl | simp, HB3.out⟩
  ·by_cases hl : l = []
   ·subst hl
    simp only [List.length_nil] at HC HW HWB hll ⊢
    go_enter Tryz.func54, Tryz.ntmps54
    go_wp2_with fail
    rw [← HW.out]
    with_reducible refine HC.out.mono ?_
    rintro e w3 ⟨rfl, hb3⟩
    have HB3 : Hid (Below w.heap.size w w3) := HB.out.trans (hb3.mono HB.out.size)
    have hx := (hb3.block w.heap.size (by omega)).trans HWB.out
    have x0 := cell_of_row w3 w.heap.size 0 _ _ _ hx
    have x3 := cell_of_row w3 w.heap.size 3 _ _ _ hx
    simp only [List.getElem?_toArray, List.getElem?_cons_zero, List.getElem?_cons_succ] at x0 x3
    have hq3 : w.heap.size < w3.heap.size := by have := hb3.size; omega
    clear hb3 hx
    go_wp2_with fail
    go_ret
    exact ⟨by first | rfl | simp, HB3.out⟩
   ·have hln : ((l.length : Int) == 0) = false := by
     rw [beq_eq_false_iff_ne]
     have : l.length ≠ 0 := by simpa using hl
     omega
    have HL := hid hl
    clear hl
    go_enter Tryz.func54, Tryz.ntmps54
    go_wp2_with fail
    rw [← HW.out]
    with_reducible refine HC.out.mono ?_
    rintro e w3 ⟨rfl, hb3⟩
    have HB3 : Hid (Below w.heap.size w w3) := HB.out.trans (hb3.mono HB.out.size)
    have hx := (hb3.block w.heap.size (by omega)).trans HWB.out
    have x0 := cell_of_row w3 w.heap.size 0 _ _ _ hx
    have x3 := cell_of_row w3 w.heap.size 3 _ _ _ hx
    simp only [List.getElem?_toArray, List.getElem?_cons_zero, List.getElem?_cons_succ] at x0 x3
    have hq3 : w.heap.size < w3.heap.size := by have := hb3.size; omega
    clear hb3 hx
    go_wp2_with fail
    go_ret
    exact ⟨by have := HL.out; first | rfl | simp [this], HB3.out⟩
  ·obtain ⟨k0, k1, k2, k4, k5⟩ := hk
   have e0 : (k == 0) = false := beq_eq_false_iff_ne.2 k0
   have e1 : (k == 1) = false := beq_eq_false_iff_ne.2 k1
   have e2 : (k == 2) = false := beq_eq_false_iff_ne.2 k2
   have e4 : (k == 4) = false := beq_eq_false_iff_ne.2 k4
   have e5 : (k == 5) = false := beq_eq_false_iff_ne.2 k5
   have HK : Hid (¬ k = 0 ∧ ¬ k = 1 ∧ ¬ k = 2 ∧ ¬ k = 4 ∧ ¬ k = 5) := ⟨k0, k1, k2, k4, k5⟩
   clear k0 k1 k2 k4 k5
   go_enter Tryz.func54, Tryz.ntmps54
   go_wp2_with fail
   rw [← HW.out]
   with_reducible refine HC.out.mono ?_
   rintro e w3 ⟨rfl, hb3⟩
   have HB3 : Hid (Below w.heap.size w w3) := HB.out.trans (hb3.mono HB.out.size)
   have hx := (hb3.block w.heap.size (by omega)).trans HWB.out
   have x0 := cell_of_row w3 w.heap.size 0 _ _ _ hx
   have x3 := cell_of_row w3 w.heap.size 3 _ _ _ hx
   simp only [List.getElem?_toArray, List.getElem?_cons_zero, List.getElem?_cons_succ] at x0 x3
   have hq3 : w.heap.size < w3.heap.size := by have := hb3.size; omega
   clear hb3 hx
   go_wp2_with fail
   go_ret
   exact ⟨by obtain ⟨k0, k1, k2, k4, k5⟩ := HK.out; simp [k0, k1, k2, k4, k5], HB3.out⟩
 ·have hE2 : (E != 0) = true := by simpa using hE
  have HE := hid hE
  clear hE
  go_enter Tryz.func54, Tryz.ntmps54
  go_wp2_with fail
  rw [← HW.out]
  with_reducible refine HC.out.mono ?_
  rintro e w3 ⟨rfl, hb3⟩
  have HB3 : Hid (Below w.heap.size w w3) := HB.out.trans (hb3.mono HB.out.size)
  have hx := (hb3.block w.heap.size (by omega)).trans HWB.out
  have x0 := cell_of_row w3 w.heap.size 0 _ _ _ hx
  have x3 := cell_of_row w3 w.heap.size 3 _ _ _ hx
  simp only [List.getElem?_toArray, List.getElem?_cons_zero, List.getElem?_cons_succ] at x0 x3
  have hq3 : w.heap.size < w3.heap.size := by have := hb3.size; omega
  clear hb3 hx
  go_wp2_with fail
  go_ret
  exact ⟨by simp [HE.out], HB3.out⟩
set_option maxHeartbeats 16000000 in
theorem arity_at0 : ∀ x ∈ Ex.prims0, ∀ w : World, Calls Tryz.prog 99 #[.string x] w fun e w' => e = .returned (.int .i64 0) ∧ w = w' := by
 intro x hx
 simp only [Ex.prims0, Ex.prims1, Ex.prims2, Ex.prims3, List.mem_cons, List.not_mem_nil, or_false] at hx
 rcases hx with rfl | rfl | rfl | rfl | rfl
 all_goals
  intro w
  go_enter Tryz.func99, Tryz.ntmps99
  go_wp2_with fail
  go_ret
  exact ⟨rfl, rfl⟩
set_option maxHeartbeats 16000000 in
theorem arity_at1 : ∀ x ∈ Ex.prims1, ∀ w : World, Calls Tryz.prog 99 #[.string x] w fun e w' => e = .returned (.int .i64 1) ∧ w = w' := by
 intro x hx
 simp only [Ex.prims0, Ex.prims1, Ex.prims2, Ex.prims3, List.mem_cons, List.not_mem_nil, or_false] at hx
 rcases hx with rfl | rfl | rfl | rfl | rfl | rfl | rfl | rfl | rfl | rfl | rfl | rfl | rfl | rfl | rfl | rfl | rfl | rfl | rfl | rfl | rfl
 all_goals
  intro w
  go_enter Tryz.func99, Tryz.ntmps99
  go_wp2_with fail
  go_ret
  exact ⟨rfl, rfl⟩
set_option maxHeartbeats 16000000 in
theorem arity_at2 : ∀ x ∈ Ex.prims2, ∀ w : World, Calls Tryz.prog 99 #[.string x] w fun e w' => e = .returned (.int .i64 2) ∧ w = w' := by
 intro x hx
 simp only [Ex.prims0, Ex.prims1, Ex.prims2, Ex.prims3, List.mem_cons, List.not_mem_nil, or_false] at hx
 rcases hx with rfl | rfl | rfl | rfl | rfl | rfl | rfl | rfl | rfl | rfl | rfl | rfl | rfl | rfl | rfl | rfl
 all_goals
  intro w
  go_enter Tryz.func99, Tryz.ntmps99
  go_wp2_with fail
  go_ret
  exact ⟨rfl, rfl⟩
set_option maxHeartbeats 16000000 in
theorem arity_at3 : ∀ x ∈ Ex.prims3, ∀ w : World, Calls Tryz.prog 99 #[.string x] w fun e w' => e = .returned (.int .i64 3) ∧ w = w' := by
 intro x hx
 simp only [Ex.prims0, Ex.prims1, Ex.prims2, Ex.prims3, List.mem_cons, List.not_mem_nil, or_false] at hx
 rcases hx with rfl | rfl
 all_goals
  intro w
  go_enter Tryz.func99, Tryz.ntmps99
  go_wp2_with fail
  go_ret
  exact ⟨rfl, rfl⟩
theorem inN_no {l : List ByteArray} {s : ByteArray} (h : Ex.inN l s = false) : ∀ x ∈ l, s ≠ x := fun x hx e => by
 unfold Ex.inN at h
 rw [List.any_eq_false] at h
 exact h x hx (by simp [e])
theorem ba_no {p : ByteArray} {l : List UInt8} (h : p ≠ ⟨l.toArray⟩) : (p.toList == l) = false := by
 rw [beq_eq_false_iff_ne]
 intro e
 apply h
 rw [Lib.toList_data] at e
 obtain ⟨d⟩ := p
 rw [← e]
set_option maxHeartbeats 16000000 in
theorem arity_any (s : ByteArray) (w : World) : Calls Tryz.prog 99 #[.string s] w fun e w' => e = .returned (.int .i64 (Ex.arity s)) ∧ w = w' := by
 cases h0 : Ex.inN Ex.prims0 s with
 | true =>
  have e : Ex.arity s = 0 := by unfold Ex.arity; rw [h0]; rfl
  rw [e]
  obtain ⟨x, hx, he⟩ : ∃ x ∈ Ex.prims0, s = x := by
   unfold Ex.inN at h0
   obtain ⟨x, hx, he⟩ := List.any_eq_true.1 h0
   exact ⟨x, hx, by simpa using (of_decide_eq_true he).symm⟩
  subst he
  exact arity_at0 s hx w
 | false =>
  cases h1 : Ex.inN Ex.prims1 s with
  | true =>
   have e : Ex.arity s = 1 := by unfold Ex.arity; rw [h0, h1]; rfl
   rw [e]
   obtain ⟨x, hx, he⟩ : ∃ x ∈ Ex.prims1, s = x := by
    unfold Ex.inN at h1
    obtain ⟨x, hx, he⟩ := List.any_eq_true.1 h1
    exact ⟨x, hx, by simpa using (of_decide_eq_true he).symm⟩
   subst he
   exact arity_at1 s hx w
  | false =>
   cases h2 : Ex.inN Ex.prims2 s with
   | true =>
    have e : Ex.arity s = 2 := by unfold Ex.arity; rw [h0, h1, h2]; rfl
    rw [e]
    obtain ⟨x, hx, he⟩ : ∃ x ∈ Ex.prims2, s = x := by
     unfold Ex.inN at h2
     obtain ⟨x, hx, he⟩ := List.any_eq_true.1 h2
     exact ⟨x, hx, by simpa using (of_decide_eq_true he).symm⟩
    subst he
    exact arity_at2 s hx w
   | false =>
    cases h3 : Ex.inN Ex.prims3 s with
    | true =>
     have e : Ex.arity s = 3 := by unfold Ex.arity; rw [h0, h1, h2, h3]; rfl
     rw [e]
     obtain ⟨x, hx, he⟩ : ∃ x ∈ Ex.prims3, s = x := by
      unfold Ex.inN at h3
      obtain ⟨x, hx, he⟩ := List.any_eq_true.1 h3
      exact ⟨x, hx, by simpa using (of_decide_eq_true he).symm⟩
     subst he
     exact arity_at3 s hx w
    | false =>
     have e : Ex.arity s = -1 := by unfold Ex.arity; rw [h0, h1, h2, h3]; rfl
     rw [e]
     have q0 : (s.toList == [114, 101, 97, 100, 45, 117, 56]) = false := ba_no (inN_no h0 ⟨#[114, 101, 97, 100, 45, 117, 56]⟩ (by simp [Ex.prims0]))
     have q1 : (s.toList == [101, 114, 114, 111, 114]) = false := ba_no (inN_no h0 ⟨#[101, 114, 114, 111, 114]⟩ (by simp [Ex.prims0]))
     have q2 : (s.toList == [118, 111, 105, 100]) = false := ba_no (inN_no h0 ⟨#[118, 111, 105, 100]⟩ (by simp [Ex.prims0]))
     have q3 : (s.toList == [37, 119, 105, 110, 100, 101, 114, 115]) = false := ba_no (inN_no h0 ⟨#[37, 119, 105, 110, 100, 101, 114, 115]⟩ (by simp [Ex.prims0]))
     have q4 : (s.toList == [37, 117, 110, 115, 101, 116]) = false := ba_no (inN_no h0 ⟨#[37, 117, 110, 115, 101, 116]⟩ (by simp [Ex.prims0]))
     have q5 : (s.toList == [110, 117, 108, 108, 63]) = false := ba_no (inN_no h1 ⟨#[110, 117, 108, 108, 63]⟩ (by simp [Ex.prims1]))
     have q6 : (s.toList == [112, 97, 105, 114, 63]) = false := ba_no (inN_no h1 ⟨#[112, 97, 105, 114, 63]⟩ (by simp [Ex.prims1]))
     have q7 : (s.toList == [118, 101, 99, 116, 111, 114, 63]) = false := ba_no (inN_no h1 ⟨#[118, 101, 99, 116, 111, 114, 63]⟩ (by simp [Ex.prims1]))
     have q8 : (s.toList == [115, 116, 114, 105, 110, 103, 63]) = false := ba_no (inN_no h1 ⟨#[115, 116, 114, 105, 110, 103, 63]⟩ (by simp [Ex.prims1]))
     have q9 : (s.toList == [115, 121, 109, 98, 111, 108, 63]) = false := ba_no (inN_no h1 ⟨#[115, 121, 109, 98, 111, 108, 63]⟩ (by simp [Ex.prims1]))
     have q10 : (s.toList == [99, 104, 97, 114, 63]) = false := ba_no (inN_no h1 ⟨#[99, 104, 97, 114, 63]⟩ (by simp [Ex.prims1]))
     have q11 : (s.toList == [105, 110, 116, 101, 103, 101, 114, 63]) = false := ba_no (inN_no h1 ⟨#[105, 110, 116, 101, 103, 101, 114, 63]⟩ (by simp [Ex.prims1]))
     have q12 : (s.toList == [98, 111, 111, 108, 101, 97, 110, 63]) = false := ba_no (inN_no h1 ⟨#[98, 111, 111, 108, 101, 97, 110, 63]⟩ (by simp [Ex.prims1]))
     have q13 : (s.toList == [112, 114, 111, 99, 101, 100, 117, 114, 101, 63]) = false := ba_no (inN_no h1 ⟨#[112, 114, 111, 99, 101, 100, 117, 114, 101, 63]⟩ (by simp [Ex.prims1]))
     have q14 : (s.toList == [101, 111, 102, 45, 111, 98, 106, 101, 99, 116, 63]) = false := ba_no (inN_no h1 ⟨#[101, 111, 102, 45, 111, 98, 106, 101, 99, 116, 63]⟩ (by simp [Ex.prims1]))
     have q15 : (s.toList == [99, 97, 114]) = false := ba_no (inN_no h1 ⟨#[99, 97, 114]⟩ (by simp [Ex.prims1]))
     have q16 : (s.toList == [99, 100, 114]) = false := ba_no (inN_no h1 ⟨#[99, 100, 114]⟩ (by simp [Ex.prims1]))
     have q17 : (s.toList == [118, 101, 99, 116, 111, 114, 45, 108, 101, 110, 103, 116, 104]) = false := ba_no (inN_no h1 ⟨#[118, 101, 99, 116, 111, 114, 45, 108, 101, 110, 103, 116, 104]⟩ (by simp [Ex.prims1]))
     have q18 : (s.toList == [115, 116, 114, 105, 110, 103, 45, 108, 101, 110, 103, 116, 104]) = false := ba_no (inN_no h1 ⟨#[115, 116, 114, 105, 110, 103, 45, 108, 101, 110, 103, 116, 104]⟩ (by simp [Ex.prims1]))
     have q19 : (s.toList == [99, 104, 97, 114, 45, 62, 105, 110, 116, 101, 103, 101, 114]) = false := ba_no (inN_no h1 ⟨#[99, 104, 97, 114, 45, 62, 105, 110, 116, 101, 103, 101, 114]⟩ (by simp [Ex.prims1]))
     have q20 : (s.toList == [105, 110, 116, 101, 103, 101, 114, 45, 62, 99, 104, 97, 114]) = false := ba_no (inN_no h1 ⟨#[105, 110, 116, 101, 103, 101, 114, 45, 62, 99, 104, 97, 114]⟩ (by simp [Ex.prims1]))
     have q21 : (s.toList == [119, 114, 105, 116, 101, 45, 117, 56]) = false := ba_no (inN_no h1 ⟨#[119, 114, 105, 116, 101, 45, 117, 56]⟩ (by simp [Ex.prims1]))
     have q22 : (s.toList == [37, 98, 111, 120]) = false := ba_no (inN_no h1 ⟨#[37, 98, 111, 120]⟩ (by simp [Ex.prims1]))
     have q23 : (s.toList == [37, 117, 110, 98, 111, 120]) = false := ba_no (inN_no h1 ⟨#[37, 117, 110, 98, 111, 120]⟩ (by simp [Ex.prims1]))
     have q24 : (s.toList == [37, 119, 105, 110, 100, 33]) = false := ba_no (inN_no h1 ⟨#[37, 119, 105, 110, 100, 33]⟩ (by simp [Ex.prims1]))
     have q25 : (s.toList == [37, 99, 97, 108, 108, 99, 99]) = false := ba_no (inN_no h1 ⟨#[37, 99, 97, 108, 108, 99, 99]⟩ (by simp [Ex.prims1]))
     have q26 : (s.toList == [43]) = false := ba_no (inN_no h2 ⟨#[43]⟩ (by simp [Ex.prims2]))
     have q27 : (s.toList == [45]) = false := ba_no (inN_no h2 ⟨#[45]⟩ (by simp [Ex.prims2]))
     have q28 : (s.toList == [42]) = false := ba_no (inN_no h2 ⟨#[42]⟩ (by simp [Ex.prims2]))
     have q29 : (s.toList == [113, 117, 111, 116, 105, 101, 110, 116]) = false := ba_no (inN_no h2 ⟨#[113, 117, 111, 116, 105, 101, 110, 116]⟩ (by simp [Ex.prims2]))
     have q30 : (s.toList == [114, 101, 109, 97, 105, 110, 100, 101, 114]) = false := ba_no (inN_no h2 ⟨#[114, 101, 109, 97, 105, 110, 100, 101, 114]⟩ (by simp [Ex.prims2]))
     have q31 : (s.toList == [60]) = false := ba_no (inN_no h2 ⟨#[60]⟩ (by simp [Ex.prims2]))
     have q32 : (s.toList == [61]) = false := ba_no (inN_no h2 ⟨#[61]⟩ (by simp [Ex.prims2]))
     have q33 : (s.toList == [101, 113, 63]) = false := ba_no (inN_no h2 ⟨#[101, 113, 63]⟩ (by simp [Ex.prims2]))
     have q34 : (s.toList == [99, 111, 110, 115]) = false := ba_no (inN_no h2 ⟨#[99, 111, 110, 115]⟩ (by simp [Ex.prims2]))
     have q35 : (s.toList == [115, 101, 116, 45, 99, 97, 114, 33]) = false := ba_no (inN_no h2 ⟨#[115, 101, 116, 45, 99, 97, 114, 33]⟩ (by simp [Ex.prims2]))
     have q36 : (s.toList == [115, 101, 116, 45, 99, 100, 114, 33]) = false := ba_no (inN_no h2 ⟨#[115, 101, 116, 45, 99, 100, 114, 33]⟩ (by simp [Ex.prims2]))
     have q37 : (s.toList == [109, 97, 107, 101, 45, 118, 101, 99, 116, 111, 114]) = false := ba_no (inN_no h2 ⟨#[109, 97, 107, 101, 45, 118, 101, 99, 116, 111, 114]⟩ (by simp [Ex.prims2]))
     have q38 : (s.toList == [118, 101, 99, 116, 111, 114, 45, 114, 101, 102]) = false := ba_no (inN_no h2 ⟨#[118, 101, 99, 116, 111, 114, 45, 114, 101, 102]⟩ (by simp [Ex.prims2]))
     have q39 : (s.toList == [109, 97, 107, 101, 45, 115, 116, 114, 105, 110, 103]) = false := ba_no (inN_no h2 ⟨#[109, 97, 107, 101, 45, 115, 116, 114, 105, 110, 103]⟩ (by simp [Ex.prims2]))
     have q40 : (s.toList == [115, 116, 114, 105, 110, 103, 45, 114, 101, 102]) = false := ba_no (inN_no h2 ⟨#[115, 116, 114, 105, 110, 103, 45, 114, 101, 102]⟩ (by simp [Ex.prims2]))
     have q41 : (s.toList == [37, 115, 101, 116, 45, 98, 111, 120, 33]) = false := ba_no (inN_no h2 ⟨#[37, 115, 101, 116, 45, 98, 111, 120, 33]⟩ (by simp [Ex.prims2]))
     have q42 : (s.toList == [118, 101, 99, 116, 111, 114, 45, 115, 101, 116, 33]) = false := ba_no (inN_no h3 ⟨#[118, 101, 99, 116, 111, 114, 45, 115, 101, 116, 33]⟩ (by simp [Ex.prims3]))
     have q43 : (s.toList == [115, 116, 114, 105, 110, 103, 45, 115, 101, 116, 33]) = false := ba_no (inN_no h3 ⟨#[115, 116, 114, 105, 110, 103, 45, 115, 101, 116, 33]⟩ (by simp [Ex.prims3]))
     clear h0 h1 h2 h3 e
     go_enter Tryz.func99, Tryz.ntmps99
     go_wp2_with fail
     go_ret
     exact ⟨rfl, rfl⟩
set_option maxHeartbeats 16000000 in
theorem rarity_at0 : ∀ x ∈ Ex.prims0, ∀ w : World, Calls Tryz.prog 88 #[.string x] w fun e w' => e = .returned (.int .i64 0) ∧ w = w' := by
 intro x hx
 simp only [Ex.prims0, Ex.prims1, Ex.prims2, Ex.prims3, List.mem_cons, List.not_mem_nil, or_false] at hx
 rcases hx with rfl | rfl | rfl | rfl | rfl
 all_goals
  intro w
  go_enter Tryz.func88, Tryz.ntmps88
  go_wp2_with fail
  go_ret
  exact ⟨rfl, rfl⟩
set_option maxHeartbeats 16000000 in
theorem rarity_at1 : ∀ x ∈ Ex.prims1, ∀ w : World, Calls Tryz.prog 88 #[.string x] w fun e w' => e = .returned (.int .i64 1) ∧ w = w' := by
 intro x hx
 simp only [Ex.prims0, Ex.prims1, Ex.prims2, Ex.prims3, List.mem_cons, List.not_mem_nil, or_false] at hx
 rcases hx with rfl | rfl | rfl | rfl | rfl | rfl | rfl | rfl | rfl | rfl | rfl | rfl | rfl | rfl | rfl | rfl | rfl | rfl | rfl | rfl | rfl
 all_goals
  intro w
  go_enter Tryz.func88, Tryz.ntmps88
  go_wp2_with fail
  go_ret
  exact ⟨rfl, rfl⟩
set_option maxHeartbeats 16000000 in
theorem rarity_at2 : ∀ x ∈ Ex.prims2, ∀ w : World, Calls Tryz.prog 88 #[.string x] w fun e w' => e = .returned (.int .i64 2) ∧ w = w' := by
 intro x hx
 simp only [Ex.prims0, Ex.prims1, Ex.prims2, Ex.prims3, List.mem_cons, List.not_mem_nil, or_false] at hx
 rcases hx with rfl | rfl | rfl | rfl | rfl | rfl | rfl | rfl | rfl | rfl | rfl | rfl | rfl | rfl | rfl | rfl
 all_goals
  intro w
  go_enter Tryz.func88, Tryz.ntmps88
  go_wp2_with fail
  go_ret
  exact ⟨rfl, rfl⟩
set_option maxHeartbeats 16000000 in
theorem rarity_at3 : ∀ x ∈ Ex.prims3, ∀ w : World, Calls Tryz.prog 88 #[.string x] w fun e w' => e = .returned (.int .i64 3) ∧ w = w' := by
 intro x hx
 simp only [Ex.prims0, Ex.prims1, Ex.prims2, Ex.prims3, List.mem_cons, List.not_mem_nil, or_false] at hx
 rcases hx with rfl | rfl
 all_goals
  intro w
  go_enter Tryz.func88, Tryz.ntmps88
  go_wp2_with fail
  go_ret
  exact ⟨rfl, rfl⟩
set_option maxHeartbeats 16000000 in
theorem rarity_any (s : ByteArray) (w : World) : Calls Tryz.prog 88 #[.string s] w fun e w' => e = .returned (.int .i64 (Ex.arity s)) ∧ w = w' := by
 cases h0 : Ex.inN Ex.prims0 s with
 | true =>
  have e : Ex.arity s = 0 := by unfold Ex.arity; rw [h0]; rfl
  rw [e]
  obtain ⟨x, hx, he⟩ : ∃ x ∈ Ex.prims0, s = x := by
   unfold Ex.inN at h0
   obtain ⟨x, hx, he⟩ := List.any_eq_true.1 h0
   exact ⟨x, hx, by simpa using (of_decide_eq_true he).symm⟩
  subst he
  exact rarity_at0 s hx w
 | false =>
  cases h1 : Ex.inN Ex.prims1 s with
  | true =>
   have e : Ex.arity s = 1 := by unfold Ex.arity; rw [h0, h1]; rfl
   rw [e]
   obtain ⟨x, hx, he⟩ : ∃ x ∈ Ex.prims1, s = x := by
    unfold Ex.inN at h1
    obtain ⟨x, hx, he⟩ := List.any_eq_true.1 h1
    exact ⟨x, hx, by simpa using (of_decide_eq_true he).symm⟩
   subst he
   exact rarity_at1 s hx w
  | false =>
   cases h2 : Ex.inN Ex.prims2 s with
   | true =>
    have e : Ex.arity s = 2 := by unfold Ex.arity; rw [h0, h1, h2]; rfl
    rw [e]
    obtain ⟨x, hx, he⟩ : ∃ x ∈ Ex.prims2, s = x := by
     unfold Ex.inN at h2
     obtain ⟨x, hx, he⟩ := List.any_eq_true.1 h2
     exact ⟨x, hx, by simpa using (of_decide_eq_true he).symm⟩
    subst he
    exact rarity_at2 s hx w
   | false =>
    cases h3 : Ex.inN Ex.prims3 s with
    | true =>
     have e : Ex.arity s = 3 := by unfold Ex.arity; rw [h0, h1, h2, h3]; rfl
     rw [e]
     obtain ⟨x, hx, he⟩ : ∃ x ∈ Ex.prims3, s = x := by
      unfold Ex.inN at h3
      obtain ⟨x, hx, he⟩ := List.any_eq_true.1 h3
      exact ⟨x, hx, by simpa using (of_decide_eq_true he).symm⟩
     subst he
     exact rarity_at3 s hx w
    | false =>
     have e : Ex.arity s = -1 := by unfold Ex.arity; rw [h0, h1, h2, h3]; rfl
     rw [e]
     have q0 : (s.toList == [114, 101, 97, 100, 45, 117, 56]) = false := ba_no (inN_no h0 ⟨#[114, 101, 97, 100, 45, 117, 56]⟩ (by simp [Ex.prims0]))
     have q1 : (s.toList == [101, 114, 114, 111, 114]) = false := ba_no (inN_no h0 ⟨#[101, 114, 114, 111, 114]⟩ (by simp [Ex.prims0]))
     have q2 : (s.toList == [118, 111, 105, 100]) = false := ba_no (inN_no h0 ⟨#[118, 111, 105, 100]⟩ (by simp [Ex.prims0]))
     have q3 : (s.toList == [37, 119, 105, 110, 100, 101, 114, 115]) = false := ba_no (inN_no h0 ⟨#[37, 119, 105, 110, 100, 101, 114, 115]⟩ (by simp [Ex.prims0]))
     have q4 : (s.toList == [37, 117, 110, 115, 101, 116]) = false := ba_no (inN_no h0 ⟨#[37, 117, 110, 115, 101, 116]⟩ (by simp [Ex.prims0]))
     have q5 : (s.toList == [110, 117, 108, 108, 63]) = false := ba_no (inN_no h1 ⟨#[110, 117, 108, 108, 63]⟩ (by simp [Ex.prims1]))
     have q6 : (s.toList == [112, 97, 105, 114, 63]) = false := ba_no (inN_no h1 ⟨#[112, 97, 105, 114, 63]⟩ (by simp [Ex.prims1]))
     have q7 : (s.toList == [118, 101, 99, 116, 111, 114, 63]) = false := ba_no (inN_no h1 ⟨#[118, 101, 99, 116, 111, 114, 63]⟩ (by simp [Ex.prims1]))
     have q8 : (s.toList == [115, 116, 114, 105, 110, 103, 63]) = false := ba_no (inN_no h1 ⟨#[115, 116, 114, 105, 110, 103, 63]⟩ (by simp [Ex.prims1]))
     have q9 : (s.toList == [115, 121, 109, 98, 111, 108, 63]) = false := ba_no (inN_no h1 ⟨#[115, 121, 109, 98, 111, 108, 63]⟩ (by simp [Ex.prims1]))
     have q10 : (s.toList == [99, 104, 97, 114, 63]) = false := ba_no (inN_no h1 ⟨#[99, 104, 97, 114, 63]⟩ (by simp [Ex.prims1]))
     have q11 : (s.toList == [105, 110, 116, 101, 103, 101, 114, 63]) = false := ba_no (inN_no h1 ⟨#[105, 110, 116, 101, 103, 101, 114, 63]⟩ (by simp [Ex.prims1]))
     have q12 : (s.toList == [98, 111, 111, 108, 101, 97, 110, 63]) = false := ba_no (inN_no h1 ⟨#[98, 111, 111, 108, 101, 97, 110, 63]⟩ (by simp [Ex.prims1]))
     have q13 : (s.toList == [112, 114, 111, 99, 101, 100, 117, 114, 101, 63]) = false := ba_no (inN_no h1 ⟨#[112, 114, 111, 99, 101, 100, 117, 114, 101, 63]⟩ (by simp [Ex.prims1]))
     have q14 : (s.toList == [101, 111, 102, 45, 111, 98, 106, 101, 99, 116, 63]) = false := ba_no (inN_no h1 ⟨#[101, 111, 102, 45, 111, 98, 106, 101, 99, 116, 63]⟩ (by simp [Ex.prims1]))
     have q15 : (s.toList == [99, 97, 114]) = false := ba_no (inN_no h1 ⟨#[99, 97, 114]⟩ (by simp [Ex.prims1]))
     have q16 : (s.toList == [99, 100, 114]) = false := ba_no (inN_no h1 ⟨#[99, 100, 114]⟩ (by simp [Ex.prims1]))
     have q17 : (s.toList == [118, 101, 99, 116, 111, 114, 45, 108, 101, 110, 103, 116, 104]) = false := ba_no (inN_no h1 ⟨#[118, 101, 99, 116, 111, 114, 45, 108, 101, 110, 103, 116, 104]⟩ (by simp [Ex.prims1]))
     have q18 : (s.toList == [115, 116, 114, 105, 110, 103, 45, 108, 101, 110, 103, 116, 104]) = false := ba_no (inN_no h1 ⟨#[115, 116, 114, 105, 110, 103, 45, 108, 101, 110, 103, 116, 104]⟩ (by simp [Ex.prims1]))
     have q19 : (s.toList == [99, 104, 97, 114, 45, 62, 105, 110, 116, 101, 103, 101, 114]) = false := ba_no (inN_no h1 ⟨#[99, 104, 97, 114, 45, 62, 105, 110, 116, 101, 103, 101, 114]⟩ (by simp [Ex.prims1]))
     have q20 : (s.toList == [105, 110, 116, 101, 103, 101, 114, 45, 62, 99, 104, 97, 114]) = false := ba_no (inN_no h1 ⟨#[105, 110, 116, 101, 103, 101, 114, 45, 62, 99, 104, 97, 114]⟩ (by simp [Ex.prims1]))
     have q21 : (s.toList == [119, 114, 105, 116, 101, 45, 117, 56]) = false := ba_no (inN_no h1 ⟨#[119, 114, 105, 116, 101, 45, 117, 56]⟩ (by simp [Ex.prims1]))
     have q22 : (s.toList == [37, 98, 111, 120]) = false := ba_no (inN_no h1 ⟨#[37, 98, 111, 120]⟩ (by simp [Ex.prims1]))
     have q23 : (s.toList == [37, 117, 110, 98, 111, 120]) = false := ba_no (inN_no h1 ⟨#[37, 117, 110, 98, 111, 120]⟩ (by simp [Ex.prims1]))
     have q24 : (s.toList == [37, 119, 105, 110, 100, 33]) = false := ba_no (inN_no h1 ⟨#[37, 119, 105, 110, 100, 33]⟩ (by simp [Ex.prims1]))
     have q25 : (s.toList == [37, 99, 97, 108, 108, 99, 99]) = false := ba_no (inN_no h1 ⟨#[37, 99, 97, 108, 108, 99, 99]⟩ (by simp [Ex.prims1]))
     have q26 : (s.toList == [43]) = false := ba_no (inN_no h2 ⟨#[43]⟩ (by simp [Ex.prims2]))
     have q27 : (s.toList == [45]) = false := ba_no (inN_no h2 ⟨#[45]⟩ (by simp [Ex.prims2]))
     have q28 : (s.toList == [42]) = false := ba_no (inN_no h2 ⟨#[42]⟩ (by simp [Ex.prims2]))
     have q29 : (s.toList == [113, 117, 111, 116, 105, 101, 110, 116]) = false := ba_no (inN_no h2 ⟨#[113, 117, 111, 116, 105, 101, 110, 116]⟩ (by simp [Ex.prims2]))
     have q30 : (s.toList == [114, 101, 109, 97, 105, 110, 100, 101, 114]) = false := ba_no (inN_no h2 ⟨#[114, 101, 109, 97, 105, 110, 100, 101, 114]⟩ (by simp [Ex.prims2]))
     have q31 : (s.toList == [60]) = false := ba_no (inN_no h2 ⟨#[60]⟩ (by simp [Ex.prims2]))
     have q32 : (s.toList == [61]) = false := ba_no (inN_no h2 ⟨#[61]⟩ (by simp [Ex.prims2]))
     have q33 : (s.toList == [101, 113, 63]) = false := ba_no (inN_no h2 ⟨#[101, 113, 63]⟩ (by simp [Ex.prims2]))
     have q34 : (s.toList == [99, 111, 110, 115]) = false := ba_no (inN_no h2 ⟨#[99, 111, 110, 115]⟩ (by simp [Ex.prims2]))
     have q35 : (s.toList == [115, 101, 116, 45, 99, 97, 114, 33]) = false := ba_no (inN_no h2 ⟨#[115, 101, 116, 45, 99, 97, 114, 33]⟩ (by simp [Ex.prims2]))
     have q36 : (s.toList == [115, 101, 116, 45, 99, 100, 114, 33]) = false := ba_no (inN_no h2 ⟨#[115, 101, 116, 45, 99, 100, 114, 33]⟩ (by simp [Ex.prims2]))
     have q37 : (s.toList == [109, 97, 107, 101, 45, 118, 101, 99, 116, 111, 114]) = false := ba_no (inN_no h2 ⟨#[109, 97, 107, 101, 45, 118, 101, 99, 116, 111, 114]⟩ (by simp [Ex.prims2]))
     have q38 : (s.toList == [118, 101, 99, 116, 111, 114, 45, 114, 101, 102]) = false := ba_no (inN_no h2 ⟨#[118, 101, 99, 116, 111, 114, 45, 114, 101, 102]⟩ (by simp [Ex.prims2]))
     have q39 : (s.toList == [109, 97, 107, 101, 45, 115, 116, 114, 105, 110, 103]) = false := ba_no (inN_no h2 ⟨#[109, 97, 107, 101, 45, 115, 116, 114, 105, 110, 103]⟩ (by simp [Ex.prims2]))
     have q40 : (s.toList == [115, 116, 114, 105, 110, 103, 45, 114, 101, 102]) = false := ba_no (inN_no h2 ⟨#[115, 116, 114, 105, 110, 103, 45, 114, 101, 102]⟩ (by simp [Ex.prims2]))
     have q41 : (s.toList == [37, 115, 101, 116, 45, 98, 111, 120, 33]) = false := ba_no (inN_no h2 ⟨#[37, 115, 101, 116, 45, 98, 111, 120, 33]⟩ (by simp [Ex.prims2]))
     have q42 : (s.toList == [118, 101, 99, 116, 111, 114, 45, 115, 101, 116, 33]) = false := ba_no (inN_no h3 ⟨#[118, 101, 99, 116, 111, 114, 45, 115, 101, 116, 33]⟩ (by simp [Ex.prims3]))
     have q43 : (s.toList == [115, 116, 114, 105, 110, 103, 45, 115, 101, 116, 33]) = false := ba_no (inN_no h3 ⟨#[115, 116, 114, 105, 110, 103, 45, 115, 101, 116, 33]⟩ (by simp [Ex.prims3]))
     clear h0 h1 h2 h3 e
     go_enter Tryz.func88, Tryz.ntmps88
     go_wp2_with fail
     go_ret
     exact ⟨rfl, rfl⟩
set_option maxHeartbeats 1000000 in
theorem eqfunc_bare (a : Option Addr) (n c : Nat) (hn : n ≤ 9223372036854775807) (w : World) : Calls Tryz.prog 105 #[.slice a n c, .slice none 0 0, .func (.func 84) #[] #[]] w fun e w' => e = .returned (.bool (decide (n = 0))) ∧ w = w' := by
 by_cases h : n = 0
 ·subst h
  go_enter Tryz.func105, Tryz.ntmps105
  go_wp2_with fail
  refine wp_loop_rounds 1 ?_
  rw [rounds_succ]
  go_wp2_with fail
  go_ret
  exact ⟨rfl, rfl⟩
 ·have g1 : ((n : Int) != 0) = true := by rw [bne_iff_ne]; omega
  have g2 : (n != 0) = true := by rw [bne_iff_ne]; exact h
  have e : decide (n = 0) = false := decide_eq_false h
  rw [e]
  go_enter Tryz.func105, Tryz.ntmps105
  go_wp2_with fail
  go_ret
  exact ⟨rfl, rfl⟩
set_option maxHeartbeats 2000000 in
theorem equal_bare (k i : Int) (t : ByteArray) (a : Option Addr) (n c : Nat) (hn : n ≤ 9223372036854775807) (w : World) : Calls Tryz.prog 84 #[.agg #[.int .i64 k, .int .i64 i, .string t, .slice a n c], .agg #[.int .i64 0, .int .i64 0, .string ⟨#[]⟩, .slice none 0 0]] w fun e w' => e = .returned (.bool (decide (k = 0) && decide (i = 0) && decide (t = ⟨#[]⟩) && decide (n = 0))) ∧ Below w.heap.size w w' := by
 have hB : Below w.heap.size w ((w.alloc (.cells #[.int .i64 k, .int .i64 i, .string t, .slice a n c] 25)).alloc (.cells #[.int .i64 0, .int .i64 0, .string ⟨#[]⟩, .slice none 0 0] 25)) := ((Below.refl _ _).alloc (Nat.le_refl _) _).alloc (by simp) _
 have HB := hid hB
 clear hB
 by_cases hk : k = 0
 ·subst hk
  by_cases hi : i = 0
  ·subst hi
   by_cases ht : t = ⟨#[]⟩
   ·subst ht
    have HE := hid (eqfunc_bare a n c hn)
    have e : (decide ((0 : Int) = 0) && decide ((0 : Int) = 0) && decide ((⟨#[]⟩ : ByteArray) = ⟨#[]⟩) && decide (n = 0)) = decide (n = 0) := by simp
    rw [e]
    go_enter Tryz.func84, Tryz.ntmps84
    go_wp2_with fail
    with_reducible refine (HE.out _).mono ?_
    rintro e w3 ⟨rfl, rfl⟩
    go_wp2_with fail
    go_ret
    exact ⟨by simp, HB.out⟩
   ·have z3 : ¬ t.toList = [] := fun e => ht (by rw [Lib.toList_data] at e; obtain ⟨d⟩ := t; have h4 : d = #[] := Array.toList_eq_nil_iff.1 e; rw [h4])
    have z4 : t.toList.isEmpty = false := by simpa using z3
    have z5 : (t.toList == []) = false := by simpa using z3
    have e : (decide ((0 : Int) = 0) && decide ((0 : Int) = 0) && decide (t = (⟨#[]⟩ : ByteArray)) && decide (n = 0)) = false := by simp [ht]
    rw [e]
    clear ht
    go_enter Tryz.func84, Tryz.ntmps84
    go_wp2_with fail
    go_ret
    exact ⟨rfl, HB.out⟩
  ·have g1 : (i == 0) = false := beq_eq_false_iff_ne.2 hi
   have e : (decide ((0 : Int) = 0) && decide (i = 0) && decide (t = (⟨#[]⟩ : ByteArray)) && decide (n = 0)) = false := by simp [hi]
   rw [e]
   clear hi
   go_enter Tryz.func84, Tryz.ntmps84
   go_wp2_with fail
   go_ret
   exact ⟨rfl, HB.out⟩
 ·have g1 : (k == 0) = false := beq_eq_false_iff_ne.2 hk
  have e : (decide (k = 0) && decide (i = 0) && decide (t = (⟨#[]⟩ : ByteArray)) && decide (n = 0)) = false := by simp [hk]
  rw [e]
  clear hk
  go_enter Tryz.func84, Tryz.ntmps84
  go_wp2_with fail
  go_ret
  exact ⟨rfl, HB.out⟩
theorem index_any (l : List ByteArray) (s : ByteArray) {w : World} {na : Option Addr} {nc : Nat} (hn : Sl w (.slice na l.length nc) (strs l)) (hl : l.length ≤ 9223372036854775807) :
  Calls Tryz.prog 119 #[.slice na l.length nc, .string s] w fun e w' => (∃ k : Int, e = .returned (.int .i64 k) ∧ decide (0 ≤ k) = Ex.inN l s) ∧ w = w' := by
 have HN := hid hn
 clear hn
 go_enter Tryz.func119, Tryz.ntmps119
 go_wp2_with fail
 go_loopg [8] l.length (fun g i wr => ∃ j : Nat, j ≤ l.length ∧ g = l.length - j ∧ i = .int .i64 j ∧ w = wr ∧ ∀ y ∈ l.take j, ¬ y = s)
 case atStart => exact ⟨0, Nat.zero_le _, rfl, rfl, rfl, fun y hy => by simp at hy⟩
 case round =>
  obtain ⟨j, hj, rfl, rfl, rfl, hall⟩ := hrel
  have HA := hid hall
  clear hall
  by_cases hlt : j < l.length
  ·obtain ⟨x, hx⟩ : ∃ x, l[j]? = some x := ⟨_, List.getElem?_eq_getElem hlt⟩
   obtain ⟨b, off, rfl, hbl, hc⟩ := text_at HN.out hx
   have HX := hid hx
   have g1 : (0 : Int) ≤ j := by omega
   have g2 : (j : Int) < l.length := by omega
   have gw : IntKind.i64.wrap ((j : Int) + 1) = ((j + 1 : Nat) : Int) := by rw [IntKind.wrap_i64]; omega
   clear hx
   by_cases hs : s = x
   ·have hs2 : (s.toList == x.toList) = true := by rw [hs]; exact beq_self_eq_true _
    have HH : Hid (Ex.inN l s = true) := (Ex.inN_iff l s).2 (hs ▸ List.mem_of_getElem? HX.out)
    clear hs
    go_wp2_with fail
    go_ret
    exact ⟨⟨j, rfl, by rw [HH.out]; exact decide_eq_true g1⟩, rfl⟩
   ·have hs2 : (s.toList == x.toList) = false := beq_eq_false_iff_ne.2 fun h => hs (toList_inj' h)
    have HS := hid hs
    clear hs
    go_wp2_with fail
    go_roundg (l.length - (j + 1))
    case measure => omega
    case rel =>
     refine ⟨j + 1, by omega, rfl, by go_num, rfl, fun y hy => ?_⟩
     rw [List.take_add_one, HX.out] at hy
     simp at hy
     rcases hy with hy | rfl
     ·exact HA.out y hy
     ·exact fun e => HS.out e.symm
  ·have hje : j = l.length := by omega
   have HH : Hid (Ex.inN l s = false) := by
    unfold Hid
    rw [Bool.eq_false_iff]
    intro h
    have h := (Ex.inN_iff l s).1 h
    exact HA.out s (by rw [hje, List.take_length]; exact h) rfl
   have hge : (l.length : Int) ≤ j := by omega
   clear hje
   go_wp2_with fail
   go_ret
   exact ⟨⟨-1, rfl, by rw [HH.out]; rfl⟩, rfl⟩
theorem contains_any (l : List ByteArray) (s : ByteArray) {w : World} {na : Option Addr} {nc : Nat} (hn : Sl w (.slice na l.length nc) (strs l)) (hl : l.length ≤ 9223372036854775807) :
  Calls Tryz.prog 100 #[.slice na l.length nc, .string s] w fun e w' => e = .returned (.bool (Ex.inN l s)) ∧ w = w' := by
 have HC := hid (index_any l s hn hl)
 clear hn
 go_enter Tryz.func100, Tryz.ntmps100
 go_wp2_with fail
 with_reducible refine HC.out.mono ?_
 rintro e2 w2 ⟨⟨k, rfl, hk⟩, rfl⟩
 have HK := hid hk
 clear hk
 go_wp2_with fail
 go_ret
 exact ⟨by rw [← HK.out]; rfl, rfl⟩
set_option maxHeartbeats 8000000 in
theorem dnames_any (l : List ByteArray) {w : World} {na : Option Addr} {nc : Nat} (hn : Sl w (.slice na l.length nc) (strs l)) (hr : l.length ≤ nc) (hl : l.length ≤ 9223372036854775807) (hs : ∀ s ∈ l, s.size ≤ maxLen) :
  Calls Tryz.prog 79 #[.slice na l.length nc] w (Says (.bool (Ex.namesB l)) w) := by
 have HN := hid hn
 have HS := hid hs
 clear hn hs
 go_enter Tryz.func79, Tryz.ntmps79
 go_wp2_with fail
 go_loopg [7] l.length (fun g i wr => ∃ j : Nat, j ≤ l.length ∧ g = l.length - j ∧ i = .int .i64 j ∧ Below w.heap.size w wr ∧ Ex.namesB (l.take j) = true)
 case atStart => exact ⟨0, Nat.zero_le _, rfl, rfl, Below.refl _ _, by rw [List.take_zero]; rfl⟩
 case round =>
  obtain ⟨j, hj, rfl, rfl, hb, hall⟩ := hrel
  have HB2 := hid hb
  have HA := hid hall
  clear hb hall
  by_cases hlt : j < l.length
  ·obtain ⟨x, hx⟩ : ∃ x, l[j]? = some x := ⟨_, List.getElem?_eq_getElem hlt⟩
   have hsl := sl_bel HN.out HB2.out
   have hst := sl_take hsl j hlt
   obtain ⟨b, off, rfl, hbl, hc⟩ := text_at hsl hx
   have HX := hid hx
   have HST := hid hst
   have hxs : x.size ≤ maxLen := HS.out x (List.mem_of_getElem? hx)
   have g1 : (0 : Int) ≤ j := by omega
   have g2 : (j : Int) < l.length := by omega
   have g3 : (j : Int) ≤ nc := by omega
   have g4 : j ≤ nc := by omega
   have gw : IntKind.i64.wrap ((j : Int) + 1) = ((j + 1 : Nat) : Int) := by rw [IntKind.wrap_i64]; omega
   have hle : (l.take j).length = j := by rw [List.length_take]; omega
   have HTK := hid (namesB_take l j x hx)
   clear hx hsl hst
   have HIN := hid (contains_any (l.take j) x (w := wr) (na := some ⟨b, off, none⟩) (nc := nc) (by rw [hle]; exact HST.out) (by omega))
   rw [hle] at HIN
   have HNM := hid (dname_any x hxs)
   cases hnb : Nm.nameB x with
   | false =>
    rw [hnb] at HNM HTK
    have HH : Hid (Ex.namesB l = false) := namesB_bad (j := j + 1) (by rw [HTK.out]; simp)
    clear hnb hle
    go_wp2_with fail
    with_reducible refine (HNM.out _).mono ?_
    rintro e2 w2 ⟨rfl, rfl⟩
    go_wp2_with fail
    go_ret
    exact ⟨by rw [HH.out]; rfl, HB2.out⟩
   | true =>
    rw [hnb] at HNM HTK
    clear hnb hle
    go_wp2_with fail
    with_reducible refine (HNM.out _).mono ?_
    rintro e2 w2 ⟨rfl, rfl⟩
    go_wp2_with fail
    with_reducible refine HIN.out.mono ?_
    rintro e2 w2 ⟨rfl, rfl⟩
    cases hin : Ex.inN (l.take j) x with
    | true =>
     rw [hin] at HTK
     have HH : Hid (Ex.namesB l = false) := namesB_bad (j := j + 1) (by rw [HTK.out]; simp)
     clear hin
     go_wp2_with fail
     go_ret
     exact ⟨by rw [HH.out]; rfl, HB2.out⟩
    | false =>
     rw [hin] at HTK
     clear hin
     go_wp2_with fail
     go_roundg (l.length - (j + 1))
     case measure => omega
     case rel => exact ⟨j + 1, by omega, rfl, by go_num, HB2.out, by rw [HTK.out, HA.out]; rfl⟩
  ·have hje : j = l.length := by omega
   have HH : Hid (Ex.namesB l = true) := by
    have h := HA.out
    rw [hje, List.take_length] at h
    exact h
   have hge : (l.length : Int) ≤ j := by omega
   clear hje
   go_wp2_with fail
   go_ret
   exact ⟨by rw [HH.out]; rfl, HB2.out⟩
end Ew
namespace Rn
section
variable {w0 w w' W wr : World} {ρ ρ' ρj : Nat → Nat} {m most : Nat} {s s' : St} {q q' qj : Wh}
theorem RowR.own {r ty size n : Nat} {v : Value} {xs : List Value} (h : RowR w ρ r ty size n v xs) : w.ownsRow 0 ty size v n xs := h.1
structure At (w0 W : World) (ρ : Nat → Nat) (m most : Nat) (E : Nat) (s : St) (wr : World) (ρj : Nat → Nat) (qj : Wh) : Prop where
 o : RnO w0 wr ρj m most s qj
 mv : Mv W ρ wr ρj
theorem At.blk {E : Nat} {cs : Array Value} {t : TypeId} (H : At w0 W ρ m most E s wr ρj qj) (hE : W.heap[E]? = some (.cells cs t (0, 0))) (h0 : ρ E = 0) : wr.heap[E]? = some (.cells cs t (0, 0)) :=
 (H.mv.keep E (Array.getElem?_eq_some_iff.1 hE).1 (.inl h0)).1.trans hE
theorem At.step {E : Nat} {w1 : World} {ρ1 : Nat → Nat} {q1 : Wh} (H : At w0 W ρ m most E s wr ρj qj) (h1 : RnO w0 w1 ρ1 m most s' q1) (m1 : Mv wr ρj w1 ρ1) : At w0 W ρ m most E s' w1 ρ1 q1 := ⟨h1, H.mv.trans m1⟩
end
section
variable {w0 w w' W wr : World} {ρ ρ' ρj : Nat → Nat} {m most : Nat} {s s' : St} {q q' qj : Wh}
theorem RnC.old (h : RnC w0 w ρ m s q) {b : Nat} (hb : b < w0.heap.size) : ρ b = 0 := by
 rcases Nat.eq_zero_or_pos (ρ b) with e | e
 ·exact e
 ·have := (h.lo b (by omega)).1
  omega
theorem Mv.cell {b i : Nat} (hm : Mv w ρ w' ρ') (hb : b < w.heap.size) (h0 : ρ b = 0) : w'.cell? ⟨b, i, none⟩ = w.cell? ⟨b, i, none⟩ := World.cell?_of_block (a := ⟨b, i, none⟩) (hm.keep b hb (.inl h0)).1
theorem findF_snoc (l : List Proc) (p : Proc) (k : Int) : findF (l ++ [p]) k = if p.thing = k then p else findF l k := by unfold findF; rw [List.foldl_append]; rfl
def noPM : PM := ⟨noProc, .slice none 0 0, .slice none 0 0, .slice none 0 0, .slice none 0 0, .slice none 0 0, .slice none 0 0⟩
theorem noPM_ok (w0 w : World) (ρ : Nat → Nat) : PMOk w0 w ρ noPM :=
 ⟨zero_at w0, RowR.none w ρ 6 _ 2, ⟨[], RowR.none w ρ 6 _ 11, rfl, by simp⟩, RowR.none w ρ 6 _ 3⟩
structure Fd (w0 W : World) (ρ : Nat → Nat) (m most : Nat) (s : St) (q : Wh) (P V : Nat) (v : Hp.V) (j : Nat) (wr : World) (x : PM) : Prop where
 a : At w0 W ρ m most P s wr ρ q
 pc : wr.heap[P]? = some (.cells #[.int .i64 x.p.thing, .int .i64 x.p.lam.kind, .string x.p.lam.name, x.nv, .int .i64 x.p.lam.const.kind, .int .i64 x.p.lam.const.int, .string x.p.lam.const.text, x.dl, x.kv, x.ev, .bool x.p.kont, x.tv, x.vv] 119 (0, 0))
 vc : wr.heap[V]? = some (.cells #[.int .i64 v.kind, .int .i64 v.int, .string v.text] 78 (0, 0))
 f : x.p = findF (s.procs.take j) v.int
 ok : PMOk w0 wr ρ x
theorem pm_at {l : List PM} {w : World} {r : Nat} {a : Option Addr} {n c : Nat} (h : RowR w ρ r 119 13 n (.slice a n c) (pmC l)) (hn : n = l.length) {j : Nat} {y : PM} (hy : l[j]? = some y) :
  ∃ g, a = some ⟨g, 0, none⟩ ∧ g < w.heap.size ∧ ρ g = r ∧ ∀ i, i < 13 → w.cell? ⟨g, j * 13 + i, none⟩ = y.cells[i]? := by
 subst hn
 have hj : j < l.length := (List.getElem?_eq_some_iff.1 hy).1
 rcases own_shape h.1 with ⟨_, e2, _⟩ | ⟨g, c', e, h0, h1, h2, h3⟩
 ·omega
 ·cases e
  exact ⟨g, rfl, h1, h.2 g rfl, fun i hi => by rw [h.1.cellAt (j * 13 + i) (by omega)]; exact pmC_at l j y hy i hi⟩
def sets (w : World) (P : Nat) : Nat → List Value → World
 | _, [] => w
 | i, v :: l => sets (w.setCell ⟨P, i, none⟩ v) P (i + 1) l
theorem sets_other (P b : Nat) (hb : b ≠ P) : ∀ (l : List Value) (i : Nat) (w : World), (sets w P i l).heap[b]? = w.heap[b]?
 | [], _, _ => rfl
 | v :: l, i, w => (sets_other P b hb l (i + 1) _).trans (heap_setCell_other _ _ _ _ hb)
theorem sets_o {P : Nat} (hR : ρ P = 0) (hP : w0.heap.size ≤ P) : ∀ (l : List Value) (i : Nat) (w : World), RnO w0 w ρ m most s q → RnO w0 (sets w P i l) ρ m most s q
 | [], _, _, h => h
 | v :: l, i, w, h => sets_o hR hP l (i + 1) _ (h.store hR hP i v)
theorem sets_mv {wi : World} {ρi : Nat → Nat} {P : Nat} (hP : wi.heap.size ≤ P) : ∀ (l : List Value) (i : Nat) (w : World), Mv wi ρi w ρ → Mv wi ρi (sets w P i l) ρ
 | [], _, _, h => h
 | v :: l, i, w, h => sets_mv hP l (i + 1) _ (h.store hP i v)
def setA (cs : Array Value) : Nat → List Value → Array Value
 | _, [] => cs
 | i, v :: l => setA (cs.setIfInBounds i v) (i + 1) l
theorem sets_same (P : Nat) (t : TypeId) : ∀ (l : List Value) (i : Nat) (w : World) (cs : Array Value), w.heap[P]? = some (.cells cs t (0, 0)) → (sets w P i l).heap[P]? = some (.cells (setA cs i l) t (0, 0))
 | [], _, _, _, h => h
 | v :: l, i, w, cs, h => sets_same P t l (i + 1) _ _ (heap_setCell_same _ P i _ _ v h)
theorem setA_list : ∀ (l : List Value) (i : Nat) (cs : Array Value), i + l.length = cs.size → (setA cs i l).toList = cs.toList.take i ++ l
 | [], i, cs, h => by
  rw [setA, List.append_nil, List.take_of_length_le (by simp at h; simp; omega)]
 | v :: l, i, cs, h => by
  simp at h
  have hi : i < cs.toList.length := by simp; omega
  rw [setA, setA_list l (i + 1) _ (by simp; omega), Array.toList_setIfInBounds, List.take_add_one, List.take_set_of_le (Nat.le_refl _), List.getElem?_set_self hi]
  simp
theorem sets_all (P : Nat) (t : TypeId) (l : List Value) (w : World) (cs : Array Value) (h : w.heap[P]? = some (.cells cs t (0, 0))) (hl : l.length = cs.size) : (sets w P 0 l).heap[P]? = some (.cells l.toArray t (0, 0)) := by
 rw [sets_same P t l 0 w cs h]
 congr 2
 apply Array.toList_inj.1
 rw [setA_list l 0 cs (by omega)]
 simp
theorem Fd.bel {P V : Nat} {v : Hp.V} {j : Nat} {x : PM} (H : Fd w0 W ρ m most s q P V v j wr x) (hb : Below wr.heap.size wr w') : Fd w0 W ρ m most s q P V v j w' x :=
 ⟨⟨H.a.o.bel hb, H.a.mv.bel hb⟩, (hb.block _ (Array.getElem?_eq_some_iff.1 H.pc).1).trans H.pc, (hb.block _ (Array.getElem?_eq_some_iff.1 H.vc).1).trans H.vc, H.f, H.ok.mv (mv_bel hb ρ)⟩
theorem Fd.no {P V : Nat} {v : Hp.V} {j : Nat} {x y : PM} (H : Fd w0 W ρ m most s q P V v j wr x) (hy : q.MP[j]? = some y) (hne : y.p.thing ≠ v.int) : Fd w0 W ρ m most s q P V v (j + 1) wr x := by
 refine ⟨H.a, H.pc, H.vc, ?_, H.ok⟩
 have hp : s.procs[j]? = some y.p := by rw [← H.a.o.c.mp]; simp [hy]
 rw [List.take_add_one, hp, H.f]
 show _ = findF (_ ++ [y.p]) _
 rw [findF_snoc, if_neg hne]
theorem Fd.yes {P V : Nat} {v : Hp.V} {j : Nat} {x y : PM} (H : Fd w0 W ρ m most s q P V v j wr x) (hy : q.MP[j]? = some y) (he : y.p.thing = v.int) (hR : ρ P = 0) (hP : w0.heap.size ≤ P) (hWP : W.heap.size ≤ P) (hpv : P ≠ V) :
  Fd w0 W ρ m most s q P V v (j + 1) (sets wr P 0 [.int .i64 y.p.thing, .int .i64 y.p.lam.kind, .string y.p.lam.name, y.nv, .int .i64 y.p.lam.const.kind, .int .i64 y.p.lam.const.int, .string y.p.lam.const.text, y.dl, y.kv, y.ev, .bool y.p.kont, y.tv, y.vv]) y := by
 have ho := sets_o hR hP [.int .i64 y.p.thing, .int .i64 y.p.lam.kind, .string y.p.lam.name, y.nv, .int .i64 y.p.lam.const.kind, .int .i64 y.p.lam.const.int, .string y.p.lam.const.text, y.dl, y.kv, y.ev, .bool y.p.kont, y.tv, y.vv] 0 wr H.a.o
 refine ⟨⟨ho, sets_mv hWP _ _ _ H.a.mv⟩, ?_, ?_, ?_, ho.c.pok y (List.mem_of_getElem? hy)⟩
 ·exact sets_all P _ _ wr _ H.pc rfl
 ·exact (sets_other P V (fun e => hpv e.symm) _ _ _).trans H.vc
 ·have hp : s.procs[j]? = some y.p := by rw [← H.a.o.c.mp]; simp [hy]
  rw [List.take_add_one, hp]
  show _ = findF (_ ++ [y.p]) _
  rw [findF_snoc, if_pos he]
end
section
variable {w0 w w' W wr : World} {ρ ρ' ρj : Nat → Nat} {m most : Nat} {s s' : St} {q q' qj : Wh}
set_option maxHeartbeats 16000000 in
set_option maxRecDepth 100000 in
theorem call_any (h : RnO w0 w ρ m most s q) (v : Hp.V) (args : List Hp.V) (av : Value) (hv : VR w ρ av args) (hc : call s v args = some s') (hal : args.length ≤ 1000000) (hT : s.T.length ≤ 1000000) (hpl : s.procs.length ≤ 1000000) (htl : s.todo.length ≤ 1000000) (hvl : s.vals.length ≤ 1000000) (hcl : s.cells.length ≤ 1000000) :
  Calls Tryz.prog 72 #[.pointer (some ⟨m, 0, none⟩), .agg #[.int .i64 v.kind, .int .i64 v.int, .string v.text], av] w (RnPost w0 ρ m most s' w) := by
 obtain ⟨i0, hi, hz0, hz1, hz2⟩ := info_parts infoTodo
 obtain ⟨i1, hj, hy0, hy1, hy2⟩ := info_parts infoVal
 have HI := hid hi
 have HZ0 := hid hz0
 have HZ1 := hid hz1
 have HZ2 := hid hz2
 have HJ := hid hj
 have HY0 := hid hy0
 have HY1 := hid hy1
 have HY2 := hid hy2
 clear hi hz0 hz1 hz2 hj hy0 hy1 hy2
 unfold call at hc
 split at hc
 ·cases hc
 rename_i hmay
 have hmay : Hp.may s.T.length v = true := by simpa using hmay
 have HKD : Hid (∀ W : World, Below w.heap.size w W → Calls Tryz.prog 95 #[.pointer (some ⟨q.h, 0, none⟩), .agg #[.int .i64 v.kind, .int .i64 v.int, .string v.text]] W fun e w' => e = .returned (.int .i64 (Hp.kindOf s.T v)) ∧ Below W.heap.size W w') := fun W hb => rkind_any (h.c.heap.below hb (Nat.le_refl _)) v hmay
 have HW1 : Hid (Below w.heap.size w ((w.alloc (.cells #[.int .i64 v.kind, .int .i64 v.int, .string v.text] 78)).drew)) := ((Below.refl _ _).alloc (Nat.le_refl _) _).drew
 have hm := h.lt
 have HV1 : Hid (((w.alloc (.cells #[.int .i64 v.kind, .int .i64 v.int, .string v.text] 78)).drew).heap[w.heap.size]? = some (.cells #[.int .i64 v.kind, .int .i64 v.int, .string v.text] 78 (0, 0))) := heap_alloc_new _ _
 have HM1 : Hid (∀ W : World, Below w.heap.size w W → W.cell? ⟨m, 0, none⟩ = some (.pointer (some ⟨q.h, 0, none⟩))) := fun W hb => by rw [(h.bel hb).cell 0]; rfl
 have HS : Hid (∀ W : World, Below w.heap.size w W → W.heap[w.heap.size]? = some (.cells #[.int .i64 v.kind, .int .i64 v.int, .string v.text] 78 (0, 0)) → W.cell? ⟨m, 0, none⟩ = some (.pointer (some ⟨q.h, 0, none⟩)) ∧ W.cell? ⟨w.heap.size, 0, none⟩ = some (.int .i64 v.kind) ∧ W.cell? ⟨w.heap.size, 1, none⟩ = some (.int .i64 v.int) ∧ W.cell? ⟨w.heap.size, 2, none⟩ = some (.string v.text)) := fun W hb hv => ⟨HM1.out W hb, cell_of_row W _ 0 _ _ _ hv, cell_of_row W _ 1 _ _ _ hv, cell_of_row W _ 2 _ _ _ hv⟩
 have HH := hid h
 have HVA := hid hv
 obtain ⟨aa, ac, rfl⟩ := hv.sl.len
 clear h hv
 by_cases hk4 : Hp.kindOf s.T v = 4
 ·rw [if_neg (by simpa using hk4)] at hc
  have hsp : smallP (findF s.procs v.int) = true := by
   cases h : smallP (findF s.procs v.int) with
   | true => rfl
   | false => rw [if_pos h] at hc; cases hc
  rw [if_neg (by rw [hsp]; decide)] at hc
  replace hsp := hid hsp
  have hkn : (Hp.kindOf s.T v != 4) = false := by simpa using hk4
  clear hk4
  unfold RnPost
  go_enter Tryz.func72, Tryz.ntmps72
  go_wp2_with fail
  go_region_held3 (fun w' => w'.cell? ⟨m, 0, none⟩ = some (.pointer (some ⟨q.h, 0, none⟩)) ∧ w'.cell? ⟨w.heap.size, 0, none⟩ = some (.int .i64 v.kind) ∧ w'.cell? ⟨w.heap.size, 1, none⟩ = some (.int .i64 v.int) ∧ w'.cell? ⟨w.heap.size, 2, none⟩ = some (.string v.text))
   (first | with_reducible exact HS.out _ HW1.out HV1.out | with_reducible exact HS2.out)
   (first
    | (go_at_call 95; (with_reducible refine (HKD.out _ HW1.out).mono ?_); rintro e w2 ⟨rfl, hb2⟩; have HB2 : Hid (Below w.heap.size w w2) := HW1.out.trans (hb2.mono HW1.out.size); have HV2 : Hid (w2.heap[w.heap.size]? = some (.cells #[.int .i64 v.kind, .int .i64 v.int, .string v.text] 78 (0, 0))) := (hb2.block _ (Array.getElem?_eq_some_iff.1 HV1.out).1).trans HV1.out; have HS2 := hid (HS.out _ HB2.out HV2.out); clear hb2))
  all_goals
   have HO2 := hid (HH.out.bel HB2.out)
   go_wp2_with fail
   have HMW : Mv w ρ (w2.alloc (.cells #[.int .i64 0, .int .i64 0, .string ⟨#[]⟩, .slice none 0 0, .int .i64 0, .int .i64 0, .string ⟨#[]⟩, .slice none 0 0, .slice none 0 0, .slice none 0 0, .bool false, .slice none 0 0, .slice none 0 0] 119)) ρ := (mv_bel HB2.out ρ).trans (mv_bel ((Below.refl _ _).alloc (Nat.le_refl _) _) ρ)
   have HF0 : Hid (Fd w0 w ρ m most s q w2.heap.size w.heap.size v 0 (w2.alloc (.cells #[.int .i64 0, .int .i64 0, .string ⟨#[]⟩, .slice none 0 0, .int .i64 0, .int .i64 0, .string ⟨#[]⟩, .slice none 0 0, .slice none 0 0, .slice none 0 0, .bool false, .slice none 0 0, .slice none 0 0] 119)) noPM) :=
    ⟨⟨HO2.out.alloc _, HMW⟩, heap_alloc_new _ _, (heap_alloc_old _ _ (Array.getElem?_eq_some_iff.1 HV2.out).1).trans HV2.out, rfl, noPM_ok _ _ _⟩
   have HRP : Hid (ρ w2.heap.size = 0 ∧ w0.heap.size ≤ w2.heap.size) := ⟨HO2.out.c.new (Nat.le_refl _), HO2.out.c.below.size⟩
   have HRV : Hid (ρ w.heap.size = 0) := HH.out.c.new (Nat.le_refl _)
   have hpv : w2.heap.size ≠ w.heap.size := by have := (Array.getElem?_eq_some_iff.1 HV2.out).1; omega
   have HWP : Hid (w.heap.size ≤ w2.heap.size) := HB2.out.size
   generalize hW : w2.alloc (.cells #[.int .i64 0, .int .i64 0, .string ⟨#[]⟩, .slice none 0 0, .int .i64 0, .int .i64 0, .string ⟨#[]⟩, .slice none 0 0, .slice none 0 0, .slice none 0 0, .bool false, .slice none 0 0, .slice none 0 0] 119) = W at HF0 ⊢
   generalize hP : w2.heap.size = P at HF0 HRP hpv HWP ⊢
   have HVA2 := HVA
   obtain ⟨V, hV⟩ : ∃ V, V = w.heap.size := ⟨_, rfl⟩
   rw [← hV] at HF0 HRV hpv ⊢
   replace hV := hid hV
   clear hW hP HMW HS2 HV2 HB2 HO2 HS HM1 HV1 HW1 HKD
   go_loopg [7] s.procs.length (fun g i wr => ∃ j : Nat, j ≤ s.procs.length ∧ g = s.procs.length - j ∧ i = .int .i64 j ∧ ∃ x, Fd w0 w ρ m most s q P V v j wr x)
   case atStart => exact ⟨0, Nat.zero_le _, rfl, rfl, _, HF0.out⟩
   case round =>
    clear HF0
    obtain ⟨j, hj, rfl, rfl, x, hF⟩ := hrel
    have HF := hid hF
    obtain ⟨pa, pc, hpv'⟩ := hF.a.o.c.procs.slice
    have hML : q.MP.length = s.procs.length := by
     have := congrArg List.length hF.a.o.c.mp
     simpa using this
    have c2 : wr.cell? ⟨m, 2, none⟩ = some (.slice pa s.procs.length pc) := by rw [hF.a.o.cell 2, ← hML, ← hpv']; rfl
    have hmr := hF.a.o.lt
    have v1 := cell_of_row wr V 1 _ _ _ hF.vc
    have vl : V < wr.heap.size := (Array.getElem?_eq_some_iff.1 hF.vc).1
    have pl : P < wr.heap.size := (Array.getElem?_eq_some_iff.1 hF.pc).1
    simp only [List.getElem?_toArray, List.getElem?_cons_zero, List.getElem?_cons_succ] at v1
    by_cases hlt : j < s.procs.length
    ·obtain ⟨y, hy⟩ : ∃ y, q.MP[j]? = some y := ⟨_, List.getElem?_eq_getElem (by rw [hML]; exact hlt)⟩
     have hrow := hF.a.o.c.procs
     rw [hpv', hML] at hrow
     obtain ⟨g, rfl, hgl, hg3, hgc⟩ := pm_at hrow hML.symm hy
     have d0 := hgc 0 (by decide)
     have d1 := hgc 1 (by decide)
     have d2 := hgc 2 (by decide)
     have d3 := hgc 3 (by decide)
     have d4 := hgc 4 (by decide)
     have d5 := hgc 5 (by decide)
     have d6 := hgc 6 (by decide)
     have d7 := hgc 7 (by decide)
     have d8 := hgc 8 (by decide)
     have d9 := hgc 9 (by decide)
     have d10 := hgc 10 (by decide)
     have d11 := hgc 11 (by decide)
     have d12 := hgc 12 (by decide)
     simp only [PM.cells, List.getElem?_cons_zero, List.getElem?_cons_succ, Nat.add_zero] at d0 d1 d2 d3 d4 d5 d6 d7 d8 d9 d10 d11 d12
     have hok := hF.a.o.c.pok y (List.mem_of_getElem? hy)
     obtain ⟨⟨a3, n3, z3, e3⟩, ⟨a7, n7, z7, e7⟩, ⟨a8, n8, z8, e8⟩⟩ := ExAt.slices hok.ex
     obtain ⟨a9, z9, e9⟩ := hok.env.slice
     obtain ⟨_, hM1, _, _⟩ := hok.todo
     obtain ⟨a11, z11, e11⟩ := hM1.slice
     obtain ⟨a12, z12, e12⟩ := hok.vals.slice
     rw [e3] at d3
     rw [e7] at d7
     rw [e8] at d8
     rw [e9] at d9
     rw [e11] at d11
     rw [e12] at d12
     have HY := hid hy
     have HFN : Hid (∀ nq, Fd w0 w ρ m most s q P V v j (wr.drewN nq) x) := fun nq => hF.bel (below_drewN (Below.refl _ _) nq)
     have g1 : (0 : Int) ≤ j := by omega
     have g2 : (j : Int) < s.procs.length := by omega
     have gw : IntKind.i64.wrap ((j : Int) + 1) = ((j + 1 : Nat) : Int) := by rw [IntKind.wrap_i64]; omega
     clear hrow hgc hy hpv' hML hF
     by_cases he : y.p.thing = v.int
     ·have he2 : (y.p.thing == v.int) = true := by rw [he]; exact beq_self_eq_true _
      have HE := hid he
      have hp0 : P ≠ g := fun e => by have := HRP.out.1; rw [e, hg3] at this; cases this
      have q0 := cell_of_row wr P 0 _ _ _ HF.out.pc
      have q1 := cell_of_row wr P 1 _ _ _ HF.out.pc
      have q2 := cell_of_row wr P 2 _ _ _ HF.out.pc
      have q3 := cell_of_row wr P 3 _ _ _ HF.out.pc
      have q4 := cell_of_row wr P 4 _ _ _ HF.out.pc
      have q5 := cell_of_row wr P 5 _ _ _ HF.out.pc
      have q6 := cell_of_row wr P 6 _ _ _ HF.out.pc
      have q7 := cell_of_row wr P 7 _ _ _ HF.out.pc
      have q8 := cell_of_row wr P 8 _ _ _ HF.out.pc
      have q9 := cell_of_row wr P 9 _ _ _ HF.out.pc
      have q10 := cell_of_row wr P 10 _ _ _ HF.out.pc
      have q11 := cell_of_row wr P 11 _ _ _ HF.out.pc
      have q12 := cell_of_row wr P 12 _ _ _ HF.out.pc
      simp only [List.getElem?_toArray, List.getElem?_cons_zero, List.getElem?_cons_succ] at q0 q1 q2 q3 q4 q5 q6 q7 q8 q9 q10 q11 q12
      have k0 := frozen_of_row wr P 0 _ _ HF.out.pc
      have k1 := frozen_of_row wr P 1 _ _ HF.out.pc
      have k2 := frozen_of_row wr P 2 _ _ HF.out.pc
      have k3 := frozen_of_row wr P 3 _ _ HF.out.pc
      have k4 := frozen_of_row wr P 4 _ _ HF.out.pc
      have k5 := frozen_of_row wr P 5 _ _ HF.out.pc
      have k6 := frozen_of_row wr P 6 _ _ HF.out.pc
      have k7 := frozen_of_row wr P 7 _ _ HF.out.pc
      have k8 := frozen_of_row wr P 8 _ _ HF.out.pc
      have k9 := frozen_of_row wr P 9 _ _ HF.out.pc
      have k10 := frozen_of_row wr P 10 _ _ HF.out.pc
      have k11 := frozen_of_row wr P 11 _ _ HF.out.pc
      have k12 := frozen_of_row wr P 12 _ _ HF.out.pc
      have HN : Hid (∀ nq, Fd w0 w ρ m most s q P V v (j + 1) (sets (wr.drewN nq) P 0 [.int .i64 y.p.thing, .int .i64 y.p.lam.kind, .string y.p.lam.name, .slice a3 n3 z3, .int .i64 y.p.lam.const.kind, .int .i64 y.p.lam.const.int, .string y.p.lam.const.text, .slice a7 n7 z7, .slice a8 n8 z8, .slice a9 y.p.env.length z9, .bool y.p.kont, .slice a11 _ z11, .slice a12 y.p.vals.length z12]) y) := fun nq => by
       have := (HFN.out nq).yes HY.out he HRP.out.1 HRP.out.2 HWP.out hpv
       rw [e3, e7, e8, e9, e11, e12] at this
       exact this
      have E3 := hid e3
      have E7 := hid e7
      have E8 := hid e8
      have E9 := hid e9
      have E11 := hid e11
      have E12 := hid e12
      clear he e3 e7 e8 e9 e11 e12 hok hM1
      go_wp2_with fail
      go_quiet (fail)
      go_wp2_with fail
      go_roundg (s.procs.length - (j + 1))
      case measure => omega
      case rel => exact ⟨j + 1, by omega, rfl, by go_num, y, HN.out _⟩
     ·have he2 : (y.p.thing == v.int) = false := by simpa using he
      have HN : Hid (∀ nq, Fd w0 w ρ m most s q P V v (j + 1) (wr.drewN nq) x) := fun nq => (HFN.out nq).no HY.out he
      clear he e3 e7 e8 e9 e11 e12 hok hM1 d1 d2 d3 d4 d5 d6 d7 d8 d9 d10 d11 d12
      go_wp2_with fail
      go_quiet (fail)
      go_wp2_with fail
      go_roundg (s.procs.length - (j + 1))
      case measure => omega
      case rel => exact ⟨j + 1, by omega, rfl, by go_num, x, HN.out _⟩
    ·have hjl : j = s.procs.length := by omega
     have hxp : x.p = findF s.procs v.int := by rw [hF.f, hjl, List.take_length]
     rw [← hxp] at hc
     obtain ⟨⟨a3, n3, z3, e3⟩, ⟨a7, n7, z7, e7⟩, ⟨a8, n8, z8, e8⟩⟩ := ExAt.slices hF.ok.ex
     obtain ⟨a9, z9, e9⟩ := hF.ok.env.slice
     obtain ⟨MT, hM1, hM2, hM3⟩ := hF.ok.todo
     obtain ⟨a11, z11, e11⟩ := hM1.slice
     obtain ⟨a12, z12, e12⟩ := hF.ok.vals.slice
     have q0 := cell_of_row wr P 0 _ _ _ hF.pc
     have q1 := cell_of_row wr P 1 _ _ _ hF.pc
     have q2 := cell_of_row wr P 2 _ _ _ hF.pc
     have q3 := cell_of_row wr P 3 _ _ _ hF.pc
     have q4 := cell_of_row wr P 4 _ _ _ hF.pc
     have q5 := cell_of_row wr P 5 _ _ _ hF.pc
     have q6 := cell_of_row wr P 6 _ _ _ hF.pc
     have q7 := cell_of_row wr P 7 _ _ _ hF.pc
     have q8 := cell_of_row wr P 8 _ _ _ hF.pc
     have q9 := cell_of_row wr P 9 _ _ _ hF.pc
     have q10 := cell_of_row wr P 10 _ _ _ hF.pc
     have q11 := cell_of_row wr P 11 _ _ _ hF.pc
     have q12 := cell_of_row wr P 12 _ _ _ hF.pc
     simp only [List.getElem?_toArray, List.getElem?_cons_zero, List.getElem?_cons_succ] at q0 q1 q2 q3 q4 q5 q6 q7 q8 q9 q10 q11 q12
     rw [e3] at q3
     rw [e7] at q7
     rw [e8] at q8
     rw [e9] at q9
     rw [e11] at q11
     rw [e12] at q12
     have c12 := hF.a.o.cell 12
     have f12 := hF.a.o.fz 12
     have HFAIL : Hid (RnO w0 (wr.setCell ⟨m, 12, none⟩ (.int .i64 91)) ρ m most (s.fail 91) q ∧ Mv w ρ (wr.setCell ⟨m, 12, none⟩ (.int .i64 91)) ρ) :=
      ⟨hF.a.o.set 12 (.int .i64 91) (s' := s.fail 91) rfl rfl rfl rfl rfl rfl rfl, hF.a.mv.trans ⟨by simp [World.setCell], fun b hb hr => ⟨heap_setCell_other _ _ _ _ (fun e => by have := hF.a.o.c.me; rw [e, this] at hr; omega), rfl⟩⟩⟩
     have hge : (s.procs.length : Int) ≤ j := by omega
     have HXP := hid hxp
     have hmp : m ≠ P := fun e => by have := hF.a.o.c.me; rw [e, HRP.out.1] at this; cases this
     clear hF hpv' hML hxp hjl hlt hj
     cases hk : x.p.kont with
     | true =>
      rw [hk] at hc
      simp at hc
     | false =>
      rw [hk] at q10 hc
      simp only [Bool.false_eq_true, if_false] at hc
      obtain ⟨hkids, hnames, _⟩ := ExAt.kids HF.out.ok.ex
      rw [e3] at hnames
      have hn3 : n3 = x.p.lam.names.length := by
       obtain ⟨_, _, e⟩ := hnames.len
       cases e
       exact strs_length _
      rw [hn3] at q3 hnames
      by_cases h1 : args.length = x.p.lam.names.length
      ·rw [if_neg (by simpa using h1)] at hc
       obtain ⟨kd, hkd, rfl⟩ := Option.map_eq_some_iff.1 hc
       have hn1 : ((args.length : Int) != (x.p.lam.names.length : Int)) = false := by rw [h1]; simp
       have hxl : x.p.env.length ≤ 1000000 ∧ x.p.lam.names.length ≤ 100000 := by
        rw [HXP.out]
        have h := hsp.out
        unfold smallP at h
        simp only [Bool.and_eq_true, decide_eq_true_eq] at h
        exact ⟨h.1.1.1, h.1.1.2⟩
       have hxl1 := hxl.1
       have hxl2 := hxl.2
       rw [e8] at hkids
       obtain ⟨z1, kb, koff, rfl, hkb, knv, kdl, kkv, hkc⟩ := hkids.at hkd
       obtain ⟨⟨c0, c1, c2', c3, c4, c5, c6, c7, _⟩, hb⟩ := HF.out.a.o.exc hkc hkb
       rw [Nat.zero_mul, Nat.add_zero] at c0 c1 c2' c3 c4 c5 c6 c7
       have hk0 : (0 : Int) < n8 := by
        rw [z1]
        have := (List.getElem?_eq_some_iff.1 hkd).1
        omega
       have HKE := hid hkc.ex
       have henv := HF.out.ok.env
       rw [e9] at henv
       have HO := hid HF.out.a.o
       have HMV := hid HF.out.a.mv
       have HVAR := hid (HVA.out.mv HF.out.a.mv)
       obtain ⟨inner, hin⟩ : ∃ inner, inner = x.p.env ++ envF x.p.lam.names s.cells.length := ⟨_, rfl⟩
       have HBD : Hid (∀ W' : World, Below wr.heap.size wr W' → Calls Tryz.prog 74 #[.pointer (some ⟨m, 0, none⟩), .slice a9 x.p.env.length z9, .slice a3 x.p.lam.names.length z3, .slice aa args.length ac] W' (BindPost w0 ρ m most (s.bind args) inner W')) := fun W' hb => by
        rw [hin]
        exact bind_any (HO.out.bel hb) x.p.env x.p.lam.names args _ _ _ (henv.mv (mv_bel hb ρ)) hnames (HVAR.out.mv (mv_bel hb ρ)) h1 (by omega) (by omega) (by omega)
       have HIN := hid hin
       have HSF : Hid (∀ (W' : World) (ρ' : Nat → Nat), Mv wr ρ W' ρ' → W'.cell? ⟨P, 3, none⟩ = some (.slice a3 x.p.lam.names.length z3) ∧ W'.cell? ⟨P, 8, none⟩ = some (.slice (some ⟨kb, koff, none⟩) n8 z8) ∧ W'.cell? ⟨P, 9, none⟩ = some (.slice a9 x.p.env.length z9) ∧ W'.cell? ⟨kb, koff, none⟩ = some (.int .i64 kd.kind) ∧ W'.cell? ⟨kb, koff + 1, none⟩ = some (.string kd.name) ∧ W'.cell? ⟨kb, koff + 2, none⟩ = some knv ∧ W'.cell? ⟨kb, koff + 3, none⟩ = some (.int .i64 kd.const.kind) ∧ W'.cell? ⟨kb, koff + 4, none⟩ = some (.int .i64 kd.const.int) ∧ W'.cell? ⟨kb, koff + 5, none⟩ = some (.string kd.const.text) ∧ W'.cell? ⟨kb, koff + 6, none⟩ = some kdl ∧ W'.cell? ⟨kb, koff + 7, none⟩ = some kkv) := fun W' ρ' hm =>
        have k0 : ρ kb = 0 := HO.out.c.old hkb
        have p0 : ρ P = 0 := HRP.out.1
        ⟨(hm.cell pl p0).trans q3, (hm.cell pl p0).trans q8, (hm.cell pl p0).trans q9, (hm.cell hb k0).trans c0, (hm.cell hb k0).trans c1, (hm.cell hb k0).trans c2', (hm.cell hb k0).trans c3, (hm.cell hb k0).trans c4, (hm.cell hb k0).trans c5, (hm.cell hb k0).trans c6, (hm.cell hb k0).trans c7⟩
       have HS1 := hid (HSF.out wr.drew ρ (mv_bel (Below.refl _ _).drew ρ))
       have HDR : Hid (Below wr.heap.size wr wr.drew) := (Below.refl _ _).drew
       have HTL : Hid ((s.bind args).todo.length ≤ 10000000) := by show s.todo.length ≤ 10000000; omega
       have hk0n : 0 < n8 := by omega
       clear hc h1 hn3 hk hkids hkd hkc henv hnames z1 e3 e7 e8 e9 e11 e12 hM1 hM2 hM3 hxl hin
       go_upto_region 17 with fail
       clear q0 q1 q2 q3 q4 q5 q6 q7 q8 q9 q10 q11 q12 c0 c1 c2' c3 c4 c5 c6 c7 c2 v1 c12 f12
       go_region_held3 (fun w' => w'.cell? ⟨P, 3, none⟩ = some (.slice a3 x.p.lam.names.length z3) ∧ w'.cell? ⟨P, 8, none⟩ = some (.slice (some ⟨kb, koff, none⟩) n8 z8) ∧ w'.cell? ⟨P, 9, none⟩ = some (.slice a9 x.p.env.length z9) ∧ w'.cell? ⟨kb, koff, none⟩ = some (.int .i64 kd.kind) ∧ w'.cell? ⟨kb, koff + 1, none⟩ = some (.string kd.name) ∧ w'.cell? ⟨kb, koff + 2, none⟩ = some knv ∧ w'.cell? ⟨kb, koff + 3, none⟩ = some (.int .i64 kd.const.kind) ∧ w'.cell? ⟨kb, koff + 4, none⟩ = some (.int .i64 kd.const.int) ∧ w'.cell? ⟨kb, koff + 5, none⟩ = some (.string kd.const.text) ∧ w'.cell? ⟨kb, koff + 6, none⟩ = some kdl ∧ w'.cell? ⟨kb, koff + 7, none⟩ = some kkv)
        (first | with_reducible exact HS1.out | with_reducible exact HS2.out | with_reducible exact HS3.out)
        (first
         | (go_at_call 74; (with_reducible refine (HBD.out _ HDR.out).mono ?_); rintro e w1 ⟨lv, he1, ρ1, qw1, o1, m1, r1⟩; obtain ⟨la, lc, rfl⟩ := r1.slice; subst he1; have HM1 : Hid (Mv wr ρ w1 ρ1) := (mv_bel HDR.out ρ).trans m1; have HO1 := hid o1; have HL1 := hid r1; have HS2 := hid (HSF.out w1 ρ1 HM1.out); clear o1 m1 r1)
         | (go_at_call 55; (with_reducible refine (push_v HO1.out 0 0 kd _ knv kdl kkv _ HKE.out HL1.out HTL.out).mono ?_); rintro e w2 ⟨rfl, ρ2, qw2, o2, m2⟩; have HM2 : Hid (Mv wr ρ w2 ρ2) := HM1.out.trans m2; have HO2 := hid o2; have HS3 := hid (HSF.out w2 ρ2 HM2.out); clear o2 m2))
       all_goals
        go_wp2_with fail
        go_end0
        exact ⟨rfl, ρ2, qw2, by rw [← HIN.out]; exact HO2.out, HMV.out.trans HM2.out⟩
      ·rw [if_pos h1] at hc
       cases hc
 ·rw [if_pos hk4] at hc
  cases hc
end
section
variable {w0 w w' W wr : World} {ρ ρ' ρj : Nat → Nat} {m most : Nat} {s s' : St} {q q' qj : Wh}
structure Pm (w0 w w2 : World) (ρ : Nat → Nat) (m most : Nat) (s : St) (q : Wh) : Prop where
 o : RnO w0 w2 ρ m most s q
 mv : Mv w ρ w2 ρ
 res : w2.heap[w.heap.size]? = some (.cells #[.int .i64 5, .int .i64 0, .string ⟨#[]⟩] 78 (0, 0))
 eq : w2 = w.alloc (.cells #[.int .i64 5, .int .i64 0, .string ⟨#[]⟩] 78)
 z : ρ w.heap.size = 0
theorem Pm.of (h : RnO w0 w ρ m most s q) : ∃ w2, Pm w0 w w2 ρ m most s q :=
 ⟨_, h.alloc _, mv_bel ((Below.refl _ _).alloc (Nat.le_refl _) _) ρ, heap_alloc_new _ _, rfl, h.c.new (Nat.le_refl _)⟩
theorem mv_m (h : RnO w0 w ρ m most s q) (i : Nat) (v : Value) : Mv w ρ (w.setCell ⟨m, i, none⟩ v) ρ :=
 ⟨by simp [World.setCell], fun b hb hr => ⟨heap_setCell_other _ _ _ _ (fun e => by have := h.c.me; rw [e, this] at hr; omega), rfl⟩⟩
theorem few_ne {T : List Hp.Th} {p : ByteArray} {l : List Hp.V} (hok : Hp.fewOk T p l = true) :
  (p.toList == [114, 101, 97, 100, 45, 117, 56]) = false ∧ (p.toList == [119, 114, 105, 116, 101, 45, 117, 56]) = false ∧ (p.toList == [101, 114, 114, 111, 114]) = false ∧ (p.toList == [37, 119, 105, 110, 100, 101, 114, 115]) = false ∧ (p.toList == [37, 119, 105, 110, 100, 33]) = false ∧ (p.toList == [37, 99, 97, 108, 108, 99, 99]) = false := by
 unfold Hp.fewOk at hok
 simp only [Bool.and_eq_true] at hok
 rcases Hp.few_of hok.1.1 with ⟨rfl, _⟩ | ⟨rfl, _⟩ | ⟨rfl, _⟩ | ⟨rfl, _⟩ <;> exact ⟨by kernel_rfl, by kernel_rfl, by kernel_rfl, by kernel_rfl, by kernel_rfl, by kernel_rfl⟩
set_option maxHeartbeats 8000000 in
set_option maxRecDepth 100000 in
theorem prim_do (h : RnO w0 w ρ m most s q) (p : ByteArray) (args : List Hp.V) (av : Value) (hv : VR w ρ av args) (hok : Hp.fewOk s.T p args = true)
  (hal : args.length ≤ 1000000) (ht : ∀ v ∈ args, v.text.size ≤ maxLen) (hT : s.T.length ≤ 1000000) (hF : Hp.FewP s.T) (hvl : s.vals.length ≤ 10000000) :
  Calls Tryz.prog 73 #[.pointer (some ⟨m, 0, none⟩), .string p, av] w (RnPost w0 ρ m most (({ s with T := (Hp.doF s.T p args).2.2, err := (Hp.doF s.T p args).2.1 } : St).tell (Hp.doF s.T p args).1) w) := by
 obtain ⟨b1, b2, b3, b4, b5, b6⟩ := few_ne hok
 obtain ⟨w2, P⟩ := Pm.of h
 have hm := h.lt
 have hv2 := hv.mv P.mv
 obtain ⟨aa, ac, rfl⟩ := hv.sl.len
 have c0 : w2.cell? ⟨m, 0, none⟩ = some (.pointer (some ⟨q.h, 0, none⟩)) := P.o.cell 0
 have hm2 := P.o.lt
 have HD := hid (rdo_few q.h (fun b => ρ b = 5) s.T p (.slice aa args.length ac) args w2 P.o.c.heap hv2.sl ht hT hF hok)
 generalize hr : Hp.doF s.T p args = r at HD
 obtain ⟨rv, re, rT⟩ := r
 have HP := hid P
 clear h P hv hv2 hok hr
 unfold RnPost
 go_enter Tryz.func73, Tryz.ntmps73
 go_upto_region 1 with fail
 rw [← HP.out.eq]
 go_wp2_with fail
 with_reducible refine HD.out.mono ?_
 rintro e w3 ⟨O', rfl, hT3, hG3⟩
 obtain ⟨ρ3, o3, m3⟩ := HP.out.o.call hG3 hT3
 have c12 : w3.cell? ⟨m, 12, none⟩ = some (.int .i64 s.err) := o3.cell 12
 have f12 := o3.fz 12
 have hm3 := o3.lt
 have HO3 := hid ((o3.set 12 (.int .i64 re) (s' := { s with T := rT, err := re }) rfl rfl rfl rfl rfl rfl rfl).alloc (.cells #[.int .i64 rv.kind, .int .i64 rv.int, .string rv.text] 78))
 have HM3 := hid (((HP.out.mv.trans m3).trans (mv_m o3 12 (.int .i64 re))).trans (mv_bel ((Below.refl _ (w3.setCell ⟨m, 12, none⟩ (.int .i64 re))).alloc (Nat.le_refl _) (.cells #[.int .i64 rv.kind, .int .i64 rv.int, .string rv.text] 78)) ρ3))
 unfold Hp.V.val
 clear hT3 hG3 o3 m3
 go_wp2_with fail
 with_reducible refine (tell_any HO3.out rv hvl).mono ?_
 rintro e w6 ⟨rfl, ρ6, q6, o6, m6⟩
 have HO6 := hid o6
 have HM6 := hid (HM3.out.trans m6)
 clear o6 m6
 go_wp2_with fail
 go_end0
 exact ⟨rfl, ρ6, q6, HO6.out, HM6.out⟩
end
section
variable {w0 w w' W wr : World} {ρ ρ' ρj : Nat → Nat} {m most : Nat} {s s' : St} {q q' qj : Wh}
theorem prim_any (h : RnO w0 w ρ m most s q) (p : ByteArray) (args : List Hp.V) (av : Value) (hv : VR w ρ av args) (hp : prim s p args = some s')
  (hal : args.length ≤ 1000000) (ht : ∀ v ∈ args, v.text.size ≤ maxLen) (hT : s.T.length ≤ 1000000) (hF : Hp.FewP s.T) (hvl : s.vals.length ≤ 10000000) (hol : s.out.length ≤ 1000000) :
  Calls Tryz.prog 73 #[.pointer (some ⟨m, 0, none⟩), .string p, av] w (RnPost w0 ρ m most s' w) := by
 unfold prim at hp
 split at hp
 ·rename_i hc
  cases hp
  exact prim_do h p args av hv hc hal ht hT hF hvl
 ·cases hp
end
section
variable {w0 w w' W wr : World} {ρ ρ' ρj : Nat → Nat} {m most : Nat} {s s' t : St} {q q' qj : Wh}
structure Ev (w0 w W : World) (ρ : Nat → Nat) (m most : Nat) (t : St) (q : Wh) (E : Nat) (e : Ex) (nv dl kv : Value) : Prop where
 o : RnO w0 W ρ m most t q
 mv : Mv w ρ W ρ
 blk : W.heap[E]? = some (.cells #[.int .i64 e.kind, .string e.name, nv, .int .i64 e.const.kind, .int .i64 e.const.int, .string e.const.text, dl, kv] 28 (0, 0))
 z : ρ E = 0
theorem Ev.of {e : Ex} {nv dl kv : Value} (h : RnO w0 w ρ m most s q) (nq : Nat) :
  Ev w0 w (((w.alloc (.cells #[.int .i64 e.kind, .string e.name, nv, .int .i64 e.const.kind, .int .i64 e.const.int, .string e.const.text, dl, kv] 28)).drewN nq).setCell ⟨m, 8, none⟩ (.int .i64 ((s.steps : Int) + 1))) ρ m most { s with steps := s.steps + 1 } q w.heap.size e nv dl kv := by
 have hb : Below w.heap.size w ((w.alloc (.cells #[.int .i64 e.kind, .string e.name, nv, .int .i64 e.const.kind, .int .i64 e.const.int, .string e.const.text, dl, kv] 28)).drewN nq) := below_drewN ((Below.refl _ _).alloc (Nat.le_refl _) _) nq
 have h2 := h.bel hb
 have h1 := h2.set 8 (.int .i64 ((s.steps : Int) + 1)) (s' := { s with steps := s.steps + 1 }) rfl rfl rfl rfl rfl rfl rfl
 refine ⟨h1, (mv_bel hb ρ).trans (mv_m h2 8 _), ?_, h.c.new (Nat.le_refl _)⟩
 exact (heap_setCell_other _ _ _ _ (by have := h.lt; show w.heap.size ≠ m; omega)).trans (heap_alloc_new w (.cells #[.int .i64 e.kind, .string e.name, nv, .int .i64 e.const.kind, .int .i64 e.const.int, .string e.const.text, dl, kv] 28))
set_option maxHeartbeats 8000000 in
set_option maxRecDepth 100000 in
theorem eval_stop (h : RnO w0 w ρ m most s q) (e : Ex) (nv dl kv ev : Value) (hx : ExAt w0 (exV e.kind e.name nv e.const dl kv) e) (he : ∃ a n c, ev = .slice a n c) (hs : s.steps = most) :
  Calls Tryz.prog 69 #[.pointer (some ⟨m, 0, none⟩), .agg #[.int .i64 e.kind, .string e.name, nv, .int .i64 e.const.kind, .int .i64 e.const.int, .string e.const.text, dl, kv], ev] w (RnPost w0 ρ m most (s.fail 93) w) := by
 obtain ⟨ea, en, ec, rfl⟩ := he
 have hm := h.lt
 have c8 : w.cell? ⟨m, 8, none⟩ = some (.int .i64 s.steps) := h.cell 8
 have c9 : w.cell? ⟨m, 9, none⟩ = some (.int .i64 s.steps) := by rw [hs]; exact h.cell 9
 have c12 : w.cell? ⟨m, 12, none⟩ = some (.int .i64 s.err) := h.cell 12
 have f12 := h.fz 12
 have HE : Hid (∀ nq, RnO w0 (((w.alloc (.cells #[.int .i64 e.kind, .string e.name, nv, .int .i64 e.const.kind, .int .i64 e.const.int, .string e.const.text, dl, kv] 28)).drewN nq).setCell ⟨m, 12, none⟩ (.int .i64 93)) ρ m most (s.fail 93) q ∧ Mv w ρ (((w.alloc (.cells #[.int .i64 e.kind, .string e.name, nv, .int .i64 e.const.kind, .int .i64 e.const.int, .string e.const.text, dl, kv] 28)).drewN nq).setCell ⟨m, 12, none⟩ (.int .i64 93)) ρ) := fun nq => by
  have hb : Below w.heap.size w ((w.alloc (.cells #[.int .i64 e.kind, .string e.name, nv, .int .i64 e.const.kind, .int .i64 e.const.int, .string e.const.text, dl, kv] 28)).drewN nq) := below_drewN ((Below.refl _ _).alloc (Nat.le_refl _) _) nq
  have h2 := h.bel hb
  exact ⟨h2.set 12 (.int .i64 93) (s' := s.fail 93) rfl rfl rfl rfl rfl rfl rfl, (mv_bel hb ρ).trans (mv_m h2 12 _)⟩
 clear h hs hx
 unfold RnPost
 go_enter Tryz.func69, Tryz.ntmps69
 go_wp2_with fail
 go_quiet (fail)
 go_wp2_with fail
 refine bodyPost_ret (results_none rfl _ _ _) rfl ?_
 exact ⟨rfl, ρ, q, (HE.out _).1, (HE.out _).2⟩
end
end Rn
end Go.Proofs.YtkplkgdfphbldaaGreat
