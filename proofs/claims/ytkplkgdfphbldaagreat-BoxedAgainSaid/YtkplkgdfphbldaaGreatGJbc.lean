/- Expressions: SameTexts, FixSet. -/
import Derived.Test.YtkplkgdfphbldaaGreatGJba
import Derived.Test.YtkplkgdfphbldaaGreatGJah
import Derived.Test.YtkplkgdfphbldaaGreatGJau
import Derived.Test.YtkplkgdfphbldaaGreatGJav
import Derived.Test.YtkplkgdfphbldaaGreatGJam
import Derived.Test.YtkplkgdfphbldaaGreatGJay
import Derived.BigQuiet
import Derived.Deep.QuietTactic
import Derived.Deep.RegionHeld3
set_option linter.unusedVariables false
set_option linter.unusedSimpArgs false
set_option linter.unnecessarySimpa false
namespace Go.Proofs.YtkplkgdfphbldaaGreat
open Go.RowKit
set_option linter.unusedVariables false
set_option linter.unusedSimpArgs false
set_option maxRecDepth 100000
namespace Ew
open Rn
set_option maxHeartbeats 8000000 in
theorem sametexts_any (l m : List ByteArray) {w : World} {la : Option Addr} {lc : Nat} {ma : Option Addr} {mc : Nat} (hl : Sl w (.slice la l.length lc) (strs l)) (hm : Sl w (.slice ma m.length mc) (strs m)) (hll : l.length ≤ 10000000000) :
    Calls Tryz.prog 29 #[.slice la l.length lc, .slice ma m.length mc] w (Says (.bool (decide (l = m))) w) := by
  have HL := Lib.hid hl
  have HM := Lib.hid hm
  clear hl hm
  by_cases hlen : l.length = m.length
  · have k1 : ((l.length : Int) != (m.length : Int)) = false := by rw [hlen]; simp
    have HLEN := Lib.hid hlen
    clear hlen
    go_enter Tryz.func29, Tryz.ntmps29
    go_wp2_with fail
    go_loopg [5] l.length (fun g i wr => ∃ j : Nat, j ≤ l.length ∧ g = l.length - j ∧ i = .int .i64 j ∧ Below w.heap.size w wr ∧ l.take j = m.take j)
    case atStart => exact ⟨0, Nat.zero_le _, rfl, rfl, Below.refl _ _, rfl⟩
    case round =>
      obtain ⟨j, hj, rfl, rfl, hb, hall⟩ := hrel
      have HB2 := Lib.hid hb
      have HA := Lib.hid hall
      clear hb hall
      by_cases hlt : j < l.length
      · obtain ⟨x, hx⟩ : ∃ x, l[j]? = some x := ⟨_, List.getElem?_eq_getElem hlt⟩
        obtain ⟨y, hy⟩ : ∃ y, m[j]? = some y := ⟨_, List.getElem?_eq_getElem (by have := HLEN.out; omega)⟩
        obtain ⟨b, off, rfl, hbl, hc⟩ := text_at (sl_bel HL.out HB2.out) hx
        obtain ⟨b2, off2, rfl, hbl2, hc2⟩ := text_at (sl_bel HM.out HB2.out) hy
        have HX := Lib.hid hx
        have HY := Lib.hid hy
        have g1 : (0 : Int) ≤ j := by omega
        have g2 : (j : Int) < l.length := by omega
        have g3 : (j : Int) < m.length := by have := HLEN.out; omega
        have gw : IntKind.i64.wrap ((j : Int) + 1) = ((j + 1 : Nat) : Int) := by rw [IntKind.wrap_i64]; omega
        clear hx hy
        by_cases hs : x = y
        · have hs2 : (x.toList == y.toList) = true := by rw [hs]; exact beq_self_eq_true _
          have hs3 : (x.toList != y.toList) = false := by rw [hs]; simp
          have HS := Lib.hid hs
          clear hs
          go_wp2_with fail
          go_quiet (fail)
          go_wp2_with fail
          go_roundg (l.length - (j + 1))
          case measure => omega
          case rel =>
            refine ⟨j + 1, by omega, rfl, by go_num, below_drewN HB2.out _, ?_⟩
            rw [List.take_add_one, HX.out, List.take_add_one, HY.out, HA.out, HS.out]
        · have hs2 : (x.toList == y.toList) = false := beq_eq_false_iff_ne.2 fun h => hs (toList_inj' h)
          have hs3 : (x.toList != y.toList) = true := by rw [bne_iff_ne]; exact fun h => hs (toList_inj' h)
          have HH : Hid (decide (l = m) = false) := by
            apply decide_eq_false
            intro e
            have h1 := HX.out
            rw [e, HY.out] at h1
            exact hs (Option.some.inj h1).symm
          clear hs
          go_wp2_with fail
          go_quiet (fail)
          go_wp2_with fail
          go_ret
          exact ⟨by rw [HH.out]; rfl, below_drewN HB2.out _⟩
      · have hje : j = l.length := by omega
        have HH : Hid (decide (l = m) = true) := by
          apply decide_eq_true
          have h := HA.out
          rw [hje, List.take_length, HLEN.out, List.take_length] at h
          exact h
        have hge : (l.length : Int) ≤ j := by omega
        go_wp2_with fail
        go_ret
        exact ⟨by rw [HH.out]; rfl, HB2.out⟩
  · have k1 : ((l.length : Int) != (m.length : Int)) = true := by rw [bne_iff_ne]; omega
    have HH : Hid (decide (l = m) = false) := decide_eq_false fun e => hlen (by rw [e])
    clear hlen
    go_enter Tryz.func29, Tryz.ntmps29
    go_wp2_with fail
    go_ret
    exact ⟨by rw [HH.out]; rfl, Below.refl _ _⟩
set_option maxHeartbeats 8000000 in
theorem rfixset_any (e : Ex) : ∀ {w : World} {na : Option Addr} {nc : Nat} {da : Option Addr} {dn dc : Nat} {ka : Option Addr} {kc : Nat}, Few e → Op w e na nc da dn dc ka kc →
    Calls Tryz.prog 13 #[.agg #[.int .i64 e.kind, .string e.name, .slice na e.names.length nc, .int .i64 e.const.kind, .int .i64 e.const.int, .string e.const.text, .slice da dn dc, .slice ka e.kids.length kc]] w (Says (.bool (Ex.fixSet e)) w) := by
  induction e using Ex.byKids with
  | h e ih =>
  intro w na nc da dn dc ka kc hsz ho
  obtain ⟨w1, B1⟩ := boxed w #[.int .i64 e.kind, .string e.name, .slice na e.names.length nc, .int .i64 e.const.kind, .int .i64 e.const.int, .string e.const.text, .slice da dn dc, .slice ka e.kids.length kc] 28
  have hR := Row.of B1.blk
  have HO := Lib.hid (ho.bel B1.below)
  have HB := Lib.hid B1
  have HR := Lib.hid hR
  have HIH := Lib.hid ih
  clear ih
  have hl := hsz.len
  have HSZ := Lib.hid hsz
  obtain ⟨x0, x1, x2, x3, x4, x5, x6, x7, hbl⟩ := hR
  clear B1 ho hsz
  have hnl : e.names.length ≤ 1000000 := HSZ.out.nl
  go_enter Tryz.func13, Tryz.ntmps13
  go_upto_region 1 with fail
  rw [← HB.out.eq]
  go_wp2_with fail
  go_loopg [3] e.names.length (fun g i wr => ∃ j : Nat, j ≤ e.names.length ∧ g = e.names.length - j ∧ i = .int .i64 j ∧ Below w1.heap.size w1 wr ∧ (e.kind = 10 ∨ j = 0) ∧ ∀ s ∈ e.names.take j, Ex.assigned e s = false)
  case atStart => exact ⟨0, Nat.zero_le _, rfl, rfl, Below.refl _ _, .inr rfl, fun s hs => by simp at hs⟩
  case round =>
    obtain ⟨j, hj, rfl, rfl, hb, hk, hall⟩ := hrel
    have HBW := Lib.hid hb
    have HA := Lib.hid hall
    obtain ⟨y0, y1, y2, y3, y4, y5, y6, y7, ybl⟩ := HR.out.bel hb
    clear hb hall
    have hcase : (j < e.names.length ∧ e.kind = 10) ∨ (j < e.names.length ∧ e.kind ≠ 10) ∨ j = e.names.length := by omega
    have HK := Lib.hid hk
    clear hk
    rcases hcase with ⟨hlt, hk⟩ | hcase
    · have k1 : (e.kind == 10) = true := by rw [hk]; rfl
      have HK10 := Lib.hid hk
      obtain ⟨s, hs⟩ : ∃ s, e.names[j]? = some s := ⟨_, List.getElem?_eq_getElem hlt⟩
      obtain ⟨b, off, rfl, hbl, hc⟩ := text_at (HO.out.bel HBW.out).names hs
      have HS := Lib.hid hs
      have g1 : (0 : Int) ≤ j := by omega
      have g2 : (j : Int) < e.names.length := by omega
      have gw : IntKind.i64.wrap ((j : Int) + 1) = ((j + 1 : Nat) : Int) := by rw [IntKind.wrap_i64]; omega
      have HDR : Hid (Below w1.heap.size w1 wr.drew) := HBW.out.drew
      have HC := Lib.hid (rasg_any s e HSZ.out (HO.out.bel HDR.out))
      clear hs hk
      go_upto_region 4 with fail
      go_still_tail 6, (by kernel_rfl)
      show wpList _ _ _ _ _ _
      go_wp2_with fail
      with_reducible refine HC.out.mono ?_
      rintro e2 w2 ⟨rfl, hb2⟩
      have HB3 : Hid (Below w1.heap.size w1 w2) := HDR.out.trans (hb2.mono HDR.out.size)
      clear hb2
      cases hh : Ex.assigned e s with
      | true =>
        have HH : Hid (Ex.fixSet e = true) := (Ex.fixSet_iff e).2 (.inl ⟨HK10.out, s, List.mem_of_getElem? HS.out, hh⟩)
        clear hh
        go_wp2_with fail
        go_ret
        exact ⟨by rw [HH.out]; rfl, HB.out.below.trans (HB3.out.mono HB.out.below.size)⟩
      | false =>
        have HH := Lib.hid hh
        clear hh
        go_wp2_with fail
        go_roundg (e.names.length - (j + 1))
        case measure => omega
        case rel =>
          refine ⟨j + 1, by omega, rfl, by go_num, HB3.out, .inl HK10.out, fun y hy => ?_⟩
          rw [List.take_add_one, HS.out] at hy
          simp at hy
          rcases hy with hy | rfl
          · exact HA.out y hy
          · exact HH.out
    · have HN : Hid (¬ (e.kind = 10 ∧ ∃ s ∈ e.names, Ex.assigned e s = true)) := by
        rintro ⟨h10, s, hs, h⟩
        rcases hcase with ⟨_, h1⟩ | h1
        · exact h1 h10
        · have := HA.out s (by rw [h1, List.take_length]; exact hs)
          rw [this] at h
          cases h
      rcases hcase with ⟨hlt, hk⟩ | hje
      · have k1 : (e.kind == 10) = false := beq_eq_false_iff_ne.2 hk
        have g2 : (j : Int) < e.names.length := by omega
        clear hk
        go_wp2_with fail
        go_loopg [4] e.kids.length (fun g i wx => ∃ k : Nat, k ≤ e.kids.length ∧ g = e.kids.length - k ∧ i = .int .i64 k ∧ Below w1.heap.size w1 wx ∧ ∀ y ∈ e.kids.take k, Ex.fixSet y = false)
        case atStart => exact ⟨0, Nat.zero_le _, rfl, rfl, HBW.out, fun y hy => by simp at hy⟩
        case round =>
          obtain ⟨k, hj2, rfl, rfl, hb, hall⟩ := hrel
          have HBW := Lib.hid hb
          have HA2 := Lib.hid hall
          obtain ⟨y0, y1, y2, y3, y4, y5, y6, y7, ybl⟩ := HR.out.bel hb
          clear hb hall
          by_cases hlt2 : k < e.kids.length
          · obtain ⟨x, hx⟩ : ∃ x, e.kids[k]? = some x := ⟨_, List.getElem?_eq_getElem hlt2⟩
            have HX := Lib.hid hx
            obtain ⟨kb, koff, na2, nc2, da2, dn2, dc2, ya2, yc2, hk⟩ := (HO.out.bel HBW.out).kid hx
            have HKO := Lib.hid hk.op
            obtain ⟨e1, hkb, ⟨g1, g2⟩, _, c0, c1, c2, c3, c4, c5, c6, c7⟩ := hk
            subst e1
            have gw : IntKind.i64.wrap ((k : Int) + 1) = ((k + 1 : Nat) : Int) := by rw [IntKind.wrap_i64]; omega
            have HC := Lib.hid (HIH.out x (List.mem_of_getElem? HX.out) (HSZ.out.kid (List.mem_of_getElem? HX.out)) HKO.out)
            clear hx
            go_wp2_with fail
            with_reducible refine HC.out.mono ?_
            rintro e2 w2 ⟨rfl, hb2⟩
            have HB3 : Hid (Below w1.heap.size w1 w2) := HBW.out.trans (hb2.mono HBW.out.size)
            clear hb2
            cases hh : Ex.fixSet x with
            | true =>
              have HH : Hid (Ex.fixSet e = true) := (Ex.fixSet_iff e).2 (.inr ⟨x, List.mem_of_getElem? HX.out, hh⟩)
              clear hh
              go_wp2_with fail
              go_ret
              exact ⟨by rw [HH.out]; rfl, HB.out.below.trans (HB3.out.mono HB.out.below.size)⟩
            | false =>
              have HH := Lib.hid hh
              clear hh
              go_wp2_with fail
              go_roundg (e.kids.length - (k + 1))
              case measure => omega
              case rel =>
                refine ⟨k + 1, by omega, rfl, by go_num, HB3.out, fun y hy => ?_⟩
                rw [List.take_add_one, HX.out] at hy
                simp at hy
                rcases hy with hy | rfl
                · exact HA2.out y hy
                · exact HH.out
          · have hje2 : k = e.kids.length := by omega
            have HH : Hid (Ex.fixSet e = false) := by
              unfold Hid
              rw [Bool.eq_false_iff]
              intro h
              rcases (Ex.fixSet_iff e).1 h with h | ⟨x, hx, h⟩
              · exact HN.out h
              · have := HA2.out x (by rw [hje2, List.take_length]; exact hx)
                rw [this] at h
                cases h
            have hge2 : (e.kids.length : Int) ≤ k := by omega
            go_wp2_with fail
            go_ret
            exact ⟨by rw [HH.out]; rfl, HB.out.below.trans (HBW.out.mono HB.out.below.size)⟩
      · have hge : (e.names.length : Int) ≤ j := by omega
        clear hje
        go_wp2_with fail
        go_loopg [4] e.kids.length (fun g i wx => ∃ k : Nat, k ≤ e.kids.length ∧ g = e.kids.length - k ∧ i = .int .i64 k ∧ Below w1.heap.size w1 wx ∧ ∀ y ∈ e.kids.take k, Ex.fixSet y = false)
        case atStart => exact ⟨0, Nat.zero_le _, rfl, rfl, HBW.out, fun y hy => by simp at hy⟩
        case round =>
          obtain ⟨k, hj2, rfl, rfl, hb, hall⟩ := hrel
          have HBW := Lib.hid hb
          have HA2 := Lib.hid hall
          obtain ⟨y0, y1, y2, y3, y4, y5, y6, y7, ybl⟩ := HR.out.bel hb
          clear hb hall
          by_cases hlt2 : k < e.kids.length
          · obtain ⟨x, hx⟩ : ∃ x, e.kids[k]? = some x := ⟨_, List.getElem?_eq_getElem hlt2⟩
            have HX := Lib.hid hx
            obtain ⟨kb, koff, na2, nc2, da2, dn2, dc2, ya2, yc2, hk⟩ := (HO.out.bel HBW.out).kid hx
            have HKO := Lib.hid hk.op
            obtain ⟨e1, hkb, ⟨g1, g2⟩, _, c0, c1, c2, c3, c4, c5, c6, c7⟩ := hk
            subst e1
            have gw : IntKind.i64.wrap ((k : Int) + 1) = ((k + 1 : Nat) : Int) := by rw [IntKind.wrap_i64]; omega
            have HC := Lib.hid (HIH.out x (List.mem_of_getElem? HX.out) (HSZ.out.kid (List.mem_of_getElem? HX.out)) HKO.out)
            clear hx
            go_wp2_with fail
            with_reducible refine HC.out.mono ?_
            rintro e2 w2 ⟨rfl, hb2⟩
            have HB3 : Hid (Below w1.heap.size w1 w2) := HBW.out.trans (hb2.mono HBW.out.size)
            clear hb2
            cases hh : Ex.fixSet x with
            | true =>
              have HH : Hid (Ex.fixSet e = true) := (Ex.fixSet_iff e).2 (.inr ⟨x, List.mem_of_getElem? HX.out, hh⟩)
              clear hh
              go_wp2_with fail
              go_ret
              exact ⟨by rw [HH.out]; rfl, HB.out.below.trans (HB3.out.mono HB.out.below.size)⟩
            | false =>
              have HH := Lib.hid hh
              clear hh
              go_wp2_with fail
              go_roundg (e.kids.length - (k + 1))
              case measure => omega
              case rel =>
                refine ⟨k + 1, by omega, rfl, by go_num, HB3.out, fun y hy => ?_⟩
                rw [List.take_add_one, HX.out] at hy
                simp at hy
                rcases hy with hy | rfl
                · exact HA2.out y hy
                · exact HH.out
          · have hje2 : k = e.kids.length := by omega
            have HH : Hid (Ex.fixSet e = false) := by
              unfold Hid
              rw [Bool.eq_false_iff]
              intro h
              rcases (Ex.fixSet_iff e).1 h with h | ⟨x, hx, h⟩
              · exact HN.out h
              · have := HA2.out x (by rw [hje2, List.take_length]; exact hx)
                rw [this] at h
                cases h
            have hge2 : (e.kids.length : Int) ≤ k := by omega
            go_wp2_with fail
            go_ret
            exact ⟨by rw [HH.out]; rfl, HB.out.below.trans (HBW.out.mono HB.out.below.size)⟩
end Ew
end Go.Proofs.YtkplkgdfphbldaaGreat
namespace Go.Proofs.YtkplkgdfphbldaaGreat
open Go.RowKit
set_option linter.unusedVariables false
set_option linter.unusedSimpArgs false
set_option maxRecDepth 100000
namespace Ew
open Rn
theorem quiet_l {P : Program} {f : FuncId} {args : Array Value} {w : World} {n : Nat} {v : Value}
    (h : Calls P f args (w.drewN n) fun e w' => e = .returned v ∧ w.drewN n = w') : Calls P f args (w.drewN n) fun e w'' => e = .returned v ∧ ∃ m, w'' = w.drewN m :=
  h.mono fun _ _ ⟨he, hm⟩ => ⟨he, n, hm.symm⟩
theorem quiet_al {P : Program} {f : FuncId} {args : Array Value} {w : World} {a n : Nat} {v : Value}
    (h : Calls P f args (w.drewN (a + n)) fun e w' => e = .returned v ∧ w.drewN (a + n) = w') : Calls P f args (w.drewN (a + n)) fun e w'' => e = .returned v ∧ ∃ m, w'' = w.drewN (a + m) :=
  h.mono fun _ _ ⟨he, hm⟩ => ⟨he, n, hm.symm⟩
theorem namesB_take (l : List ByteArray) (j : Nat) (x : ByteArray) (hx : l[j]? = some x) : Ex.namesB (l.take (j + 1)) = (Ex.namesB (l.take j) && Nm.nameB x && !Ex.inN (l.take j) x) := by
  have hin : Ex.inN (l.take j) x = false ↔ x ∉ l.take j := by
    rw [← Ex.inN_iff]
    simp
  rw [Bool.eq_iff_iff, Bool.and_eq_true, Bool.and_eq_true, Bool.not_eq_true', hin, Ex.namesB_iff, Ex.namesB_iff, List.take_add_one, hx]
  show (∀ s ∈ l.take j ++ [x], Nm.nameB s = true) ∧ (l.take j ++ [x]).Nodup ↔ _
  rw [List.nodup_append]
  constructor
  · rintro ⟨h1, h2, _, h4⟩
    exact ⟨⟨⟨fun s hs => h1 s (List.mem_append_left _ hs), h2⟩, h1 x (by simp)⟩, fun hm => h4 x hm x (by simp) rfl⟩
  · rintro ⟨⟨⟨h1, h2⟩, h3⟩, h4⟩
    refine ⟨fun s hs => ?_, h2, by simp, fun a ha b hb e => ?_⟩
    · rcases List.mem_append.1 hs with hs | hs
      · exact h1 s hs
      · simp at hs
        rw [hs]
        exact h3
    · simp at hb
      subst hb
      subst e
      exact h4 ha
theorem namesB_sub {l : List ByteArray} (h : Ex.namesB l = true) (j : Nat) : Ex.namesB (l.take j) = true := by
  unfold Ex.namesB at *
  rw [Bool.and_eq_true] at *
  exact ⟨List.all_eq_true.2 fun x hx => List.all_eq_true.1 h.1 x (List.mem_of_mem_take hx), decide_eq_true ((List.take_sublist _ _).nodup (of_decide_eq_true h.2))⟩
theorem namesB_bad {l : List ByteArray} {j : Nat} (h : Ex.namesB (l.take j) = false) : Ex.namesB l = false := by
  rw [Bool.eq_false_iff]
  intro e
  rw [namesB_sub e j] at h
  cases h
set_option maxHeartbeats 8000000 in
theorem rnames_any (l : List ByteArray) {w : World} {na : Option Addr} {nc : Nat} (hn : Sl w (.slice na l.length nc) (strs l)) (hr : l.length ≤ nc) (hl : l.length ≤ 9223372036854775807) (hs : ∀ s ∈ l, s.size ≤ maxLen) :
    Calls Tryz.prog 86 #[.slice na l.length nc] w (Says (.bool (Ex.namesB l)) w) := by
  have HN := Lib.hid hn
  have HS := Lib.hid hs
  clear hn hs
  go_enter Tryz.func86, Tryz.ntmps86
  go_wp2_with fail
  go_loopg [3] l.length (fun g i wr => ∃ j : Nat, j ≤ l.length ∧ g = l.length - j ∧ i = .int .i64 j ∧ Below w.heap.size w wr ∧ Ex.namesB (l.take j) = true)
  case atStart => exact ⟨0, Nat.zero_le _, rfl, rfl, Below.refl _ _, by rw [List.take_zero]; rfl⟩
  case round =>
    obtain ⟨j, hj, rfl, rfl, hb, hall⟩ := hrel
    have HB2 := Lib.hid hb
    have HA := Lib.hid hall
    clear hb hall
    by_cases hlt : j < l.length
    · obtain ⟨x, hx⟩ : ∃ x, l[j]? = some x := ⟨_, List.getElem?_eq_getElem hlt⟩
      have hsl := sl_bel HN.out HB2.out
      have hst := sl_take hsl j hlt
      obtain ⟨b, off, rfl, hbl, hc⟩ := text_at hsl hx
      have HX := Lib.hid hx
      have HST := Lib.hid hst
      have hxs : x.size ≤ maxLen := HS.out x (List.mem_of_getElem? hx)
      have g1 : (0 : Int) ≤ j := by omega
      have g2 : (j : Int) < l.length := by omega
      have g3 : (j : Int) ≤ nc := by omega
      have g4 : j ≤ nc := by omega
      have gw : IntKind.i64.wrap ((j : Int) + 1) = ((j + 1 : Nat) : Int) := by rw [IntKind.wrap_i64]; omega
      have hle : (l.take j).length = j := by rw [List.length_take]; omega
      have HTK := Lib.hid (namesB_take l j x hx)
      clear hx hsl hst
      have HIN : Hid (∀ k, Calls Tryz.prog 66 #[.slice (some ⟨b, off, none⟩) j nc, .string x] (wr.drewN k) fun e w' => e = .returned (.bool (Ex.inN (l.take j) x)) ∧ wr.drewN k = w') := fun k => by
        have h := rin_at (l.take j) x (w := wr.drewN k) (na := some ⟨b, off, none⟩) (nc := nc) (by rw [hle]; exact sl_bel HST.out (below_drewN (Below.refl _ _) k)) (by omega)
        rw [hle] at h
        exact h
      have HNM := Lib.hid (rname_any x hxs)
      cases hnb : Nm.nameB x with
      | false =>
        rw [hnb] at HNM HTK
        have HH : Hid (Ex.namesB l = false) := namesB_bad (j := j + 1) (by rw [HTK.out]; simp)
        clear hnb hle
        go_wp2_with fail
        go_quiet (first | (go_at_call 87; first | exact quiet_l (HNM.out _) | exact quiet_al (HNM.out _)))
        go_wp2_with fail
        go_ret
        exact ⟨by rw [HH.out]; rfl, below_drewN HB2.out _⟩
      | true =>
        rw [hnb] at HNM HTK
        clear hnb hle
        cases hin : Ex.inN (l.take j) x with
        | true =>
          rw [hin] at HIN HTK
          have HH : Hid (Ex.namesB l = false) := namesB_bad (j := j + 1) (by rw [HTK.out]; simp)
          clear hin
          go_wp2_with fail
          go_quiet (first | (go_at_call 87; first | exact quiet_l (HNM.out _) | exact quiet_al (HNM.out _)) | (go_at_call 66; first | exact quiet_l (HIN.out _) | exact quiet_al (HIN.out _)))
          go_wp2_with fail
          go_ret
          exact ⟨by rw [HH.out]; rfl, below_drewN HB2.out _⟩
        | false =>
          rw [hin] at HIN HTK
          clear hin
          go_wp2_with fail
          go_quiet (first | (go_at_call 87; first | exact quiet_l (HNM.out _) | exact quiet_al (HNM.out _)) | (go_at_call 66; first | exact quiet_l (HIN.out _) | exact quiet_al (HIN.out _)))
          go_wp2_with fail
          go_roundg (l.length - (j + 1))
          case measure => omega
          case rel => exact ⟨j + 1, by omega, rfl, by go_num, below_drewN HB2.out _, by rw [HTK.out, HA.out]; rfl⟩
    · have hje : j = l.length := by omega
      have HH : Hid (Ex.namesB l = true) := by
        have h := HA.out
        rw [hje, List.take_length] at h
        exact h
      have hge : (l.length : Int) ≤ j := by omega
      clear hje
      go_wp2_with fail
      go_ret
      exact ⟨by rw [HH.out]; rfl, HB2.out⟩
end Ew
end Go.Proofs.YtkplkgdfphbldaaGreat
namespace Go.Proofs.YtkplkgdfphbldaaGreat
open Go.RowKit
set_option linter.unusedVariables false
set_option linter.unusedSimpArgs false
set_option maxRecDepth 100000
namespace Ew
open Rn
set_option maxHeartbeats 2000000 in
theorem rsame_bare (k i : Int) (t : ByteArray) (a : Option Addr) (n c : Nat) (hn : n ≤ 9223372036854775807) (w : World) : Calls Tryz.prog 32 #[.agg #[.int .i64 k, .int .i64 i, .string t, .slice a n c], .agg #[.int .i64 0, .int .i64 0, .string ⟨#[]⟩, .slice none 0 0]] w fun e w' => e = .returned (.bool (decide (k = 0) && decide (i = 0) && decide (t = ⟨#[]⟩) && decide (n = 0))) ∧ Below w.heap.size w w' := by
  have hB : Below w.heap.size w ((w.alloc (.cells #[.int .i64 k, .int .i64 i, .string t, .slice a n c] 25)).alloc (.cells #[.int .i64 0, .int .i64 0, .string ⟨#[]⟩, .slice none 0 0] 25)) := ((Below.refl _ _).alloc (Nat.le_refl _) _).alloc (by simp) _
  have HB := Lib.hid hB
  clear hB
  by_cases hk : k = 0
  · subst hk
    by_cases hi : i = 0
    · subst hi
      by_cases ht : t = ⟨#[]⟩
      · subst ht
        by_cases h0 : n = 0
        · subst h0
          go_enter Tryz.func32, Tryz.ntmps32
          go_wp2_with fail
          refine wp_loop_rounds 1 ?_
          rw [rounds_succ]
          go_wp2_with fail
          go_ret
          exact ⟨by simp, HB.out⟩
        · have g1 : ((n : Int) == 0) = false := by rw [beq_eq_false_iff_ne]; omega
          have g2 : (n == 0) = false := by rw [beq_eq_false_iff_ne]; exact h0
          have g3 : ((n : Int) != 0) = true := by rw [bne_iff_ne]; omega
          have g4 : (n != 0) = true := by rw [bne_iff_ne]; exact h0
          have e : (decide ((0 : Int) = 0) && decide ((0 : Int) = 0) && decide ((⟨#[]⟩ : ByteArray) = ⟨#[]⟩) && decide (n = 0)) = false := by simp [h0]
          rw [e]
          clear h0
          go_enter Tryz.func32, Tryz.ntmps32
          go_wp2_with fail
          go_ret
          exact ⟨rfl, HB.out⟩
      · have z3 : ¬ t.toList = [] := fun e => ht (by rw [Lib.toList_data] at e; obtain ⟨d⟩ := t; have h4 : d = #[] := Array.toList_eq_nil_iff.1 e; rw [h4])
        have z4 : t.toList.isEmpty = false := by simpa using z3
        have z5 : (t.toList == []) = false := by simpa using z3
        have e : (decide ((0 : Int) = 0) && decide ((0 : Int) = 0) && decide (t = (⟨#[]⟩ : ByteArray)) && decide (n = 0)) = false := by simp [ht]
        rw [e]
        have g5 := bytes_ne ht
        clear ht
        go_enter Tryz.func32, Tryz.ntmps32
        go_wp2_with fail
        go_ret
        exact ⟨rfl, HB.out⟩
    · have g1 : (i == 0) = false := beq_eq_false_iff_ne.2 hi
      have g2 : (i != 0) = true := by rw [bne_iff_ne]; exact hi
      have e : (decide ((0 : Int) = 0) && decide (i = 0) && decide (t = (⟨#[]⟩ : ByteArray)) && decide (n = 0)) = false := by simp [hi]
      rw [e]
      clear hi
      go_enter Tryz.func32, Tryz.ntmps32
      go_wp2_with fail
      go_ret
      exact ⟨rfl, HB.out⟩
  · have g1 : (k == 0) = false := beq_eq_false_iff_ne.2 hk
    have g2 : (k != 0) = true := by rw [bne_iff_ne]; exact hk
    have e : (decide (k = 0) && decide (i = 0) && decide (t = (⟨#[]⟩ : ByteArray)) && decide (n = 0)) = false := by simp [hk]
    rw [e]
    clear hk
    go_enter Tryz.func32, Tryz.ntmps32
    go_wp2_with fail
    go_ret
    exact ⟨rfl, HB.out⟩
set_option maxHeartbeats 4000000 in
theorem rconst6_any (d : Dt) (v : Value) (w : World) (hd : DtAt w (fun _ => True) v d) (hf : Dt.Fit d) : Calls Tryz.prog 54 #[v] w fun e w' => e = .returned (.bool (constF d).2) ∧ Below w.heap.size w w' := by
  obtain ⟨a, c, rfl, _⟩ := hd.inv
  obtain ⟨w1, hw1, hW⟩ : ∃ w1, w1 = w.alloc (.cells #[.int .i64 d.kind, .int .i64 d.int, .string d.text, .slice a d.list.length c] 25) ∧ w1.heap[w.heap.size]? = some (.cells #[.int .i64 d.kind, .int .i64 d.int, .string d.text, .slice a d.list.length c] 25 (0, 0)) := ⟨_, rfl, heap_new rfl⟩
  have hB : Below w.heap.size w w1 := by rw [hw1]; exact (Below.refl _ _).alloc (Nat.le_refl _) _
  have hsz : w1.heap.size = w.heap.size + 1 := by rw [hw1]; simp
  have HC := Lib.hid (rcheck_any d _ w1 (hd.bel hB (Nat.le_refl _)) hf)
  have HW := Lib.hid hw1
  have HB := Lib.hid hB
  have HWB := Lib.hid hW
  have hll : d.list.length ≤ 9223372036854775807 := by cases hf; assumption
  clear hd hf hw1 hB hW
  have hcf : (constF d).2 = (decide (d.chkE = 0) && (decide (d.kind = 0) || decide (d.kind = 1) || decide (d.kind = 2) || decide (d.kind = 4) || (decide (d.kind = 5) && decide (d.list = [])))) := by
    unfold constF
    by_cases hE : d.chkE = 0
    · simp only [hE, ne_eq, not_true_eq_false, if_false, decide_true, Bool.true_and]
      by_cases k0 : d.kind = 0
      · simp [k0]
      by_cases k1 : d.kind = 1
      · simp [k1]
      by_cases k2 : d.kind = 2
      · simp [k2]
      by_cases k4 : d.kind = 4
      · simp [k4]
      by_cases k5 : d.kind = 5 ∧ d.list = []
      · simp [k5.1, k5.2]
      · by_cases k6 : d.kind = 5
        · have : ¬ d.list = [] := fun e => k5 ⟨k6, e⟩
          simp [k6, this]
        · simp [k0, k1, k2, k4, k6]
    · simp [hE]
  rw [hcf]
  obtain ⟨k, i, t, l⟩ := d
  simp only [Dt.kind_mk, Dt.int_mk, Dt.text_mk, Dt.list_mk] at *
  generalize (Dt.mk k i t l).chkE = E at *
  clear hcf
  by_cases hE : E = 0
  · subst hE
    rcases (by omega : k = 0 ∨ k = 1 ∨ k = 2 ∨ k = 4 ∨ k = 5 ∨ (¬ k = 0 ∧ ¬ k = 1 ∧ ¬ k = 2 ∧ ¬ k = 4 ∧ ¬ k = 5)) with rfl | rfl | rfl | rfl | rfl | hk
    · skip
      go_enter Tryz.func54, Tryz.ntmps54
      go_wp2_with fail
      rw [← HW.out]
      with_reducible refine HC.out.mono ?_
      rintro e w3 ⟨rfl, hb3⟩
      have HB3 : Hid (Below w.heap.size w w3) := HB.out.trans (hb3.mono HB.out.size)
      have hx := (hb3.block w.heap.size (by omega)).trans HWB.out
      have x0 := cell_of_row w3 w.heap.size 0 _ _ _ hx
      have x3 := cell_of_row w3 w.heap.size 3 _ _ _ hx
      simp only [List.getElem?_toArray, List.getElem?_cons_zero, List.getElem?_cons_succ] at x0 x3
      have hq3 : w.heap.size < w3.heap.size := by have := hb3.size; omega
      clear hb3 hx
      go_wp2_with fail
      go_ret
      exact ⟨by first | rfl | simp, HB3.out⟩
    · skip
      go_enter Tryz.func54, Tryz.ntmps54
      go_wp2_with fail
      rw [← HW.out]
      with_reducible refine HC.out.mono ?_
      rintro e w3 ⟨rfl, hb3⟩
      have HB3 : Hid (Below w.heap.size w w3) := HB.out.trans (hb3.mono HB.out.size)
      have hx := (hb3.block w.heap.size (by omega)).trans HWB.out
      have x0 := cell_of_row w3 w.heap.size 0 _ _ _ hx
      have x3 := cell_of_row w3 w.heap.size 3 _ _ _ hx
      simp only [List.getElem?_toArray, List.getElem?_cons_zero, List.getElem?_cons_succ] at x0 x3
      have hq3 : w.heap.size < w3.heap.size := by have := hb3.size; omega
      clear hb3 hx
      go_wp2_with fail
      go_ret
      exact ⟨by first | rfl | simp, HB3.out⟩
    · skip
      go_enter Tryz.func54, Tryz.ntmps54
      go_wp2_with fail
      rw [← HW.out]
      with_reducible refine HC.out.mono ?_
      rintro e w3 ⟨rfl, hb3⟩
      have HB3 : Hid (Below w.heap.size w w3) := HB.out.trans (hb3.mono HB.out.size)
      have hx := (hb3.block w.heap.size (by omega)).trans HWB.out
      have x0 := cell_of_row w3 w.heap.size 0 _ _ _ hx
      have x3 := cell_of_row w3 w.heap.size 3 _ _ _ hx
      simp only [List.getElem?_toArray, List.getElem?_cons_zero, List.getElem?_cons_succ] at x0 x3
      have hq3 : w.heap.size < w3.heap.size := by have := hb3.size; omega
      clear hb3 hx
      go_wp2_with fail
      go_ret
      exact ⟨by first | rfl | simp, HB3.out⟩
    · skip
      go_enter Tryz.func54, Tryz.ntmps54
      go_wp2_with fail
      rw [← HW.out]
      with_reducible refine HC.out.mono ?_
      rintro e w3 ⟨rfl, hb3⟩
      have HB3 : Hid (Below w.heap.size w w3) := HB.out.trans (hb3.mono HB.out.size)
      have hx := (hb3.block w.heap.size (by omega)).trans HWB.out
      have x0 := cell_of_row w3 w.heap.size 0 _ _ _ hx
      have x3 := cell_of_row w3 w.heap.size 3 _ _ _ hx
      simp only [List.getElem?_toArray, List.getElem?_cons_zero, List.getElem?_cons_succ] at x0 x3
      have hq3 : w.heap.size < w3.heap.size := by have := hb3.size; omega
      clear hb3 hx
      go_wp2_with fail
      go_ret
      exact ⟨by first | rfl | simp, HB3.out⟩
    · by_cases hl : l = []
      · subst hl
        simp only [List.length_nil] at HC HW HWB hll ⊢
        go_enter Tryz.func54, Tryz.ntmps54
        go_wp2_with fail
        rw [← HW.out]
        with_reducible refine HC.out.mono ?_
        rintro e w3 ⟨rfl, hb3⟩
        have HB3 : Hid (Below w.heap.size w w3) := HB.out.trans (hb3.mono HB.out.size)
        have hx := (hb3.block w.heap.size (by omega)).trans HWB.out
        have x0 := cell_of_row w3 w.heap.size 0 _ _ _ hx
        have x3 := cell_of_row w3 w.heap.size 3 _ _ _ hx
        simp only [List.getElem?_toArray, List.getElem?_cons_zero, List.getElem?_cons_succ] at x0 x3
        have hq3 : w.heap.size < w3.heap.size := by have := hb3.size; omega
        clear hb3 hx
        go_wp2_with fail
        go_ret
        exact ⟨by first | rfl | simp, HB3.out⟩
      · have hln : ((l.length : Int) == 0) = false := by
          rw [beq_eq_false_iff_ne]
          have : l.length ≠ 0 := by simpa using hl
          omega
        have HL := Lib.hid hl
        clear hl
        go_enter Tryz.func54, Tryz.ntmps54
        go_wp2_with fail
        rw [← HW.out]
        with_reducible refine HC.out.mono ?_
        rintro e w3 ⟨rfl, hb3⟩
        have HB3 : Hid (Below w.heap.size w w3) := HB.out.trans (hb3.mono HB.out.size)
        have hx := (hb3.block w.heap.size (by omega)).trans HWB.out
        have x0 := cell_of_row w3 w.heap.size 0 _ _ _ hx
        have x3 := cell_of_row w3 w.heap.size 3 _ _ _ hx
        simp only [List.getElem?_toArray, List.getElem?_cons_zero, List.getElem?_cons_succ] at x0 x3
        have hq3 : w.heap.size < w3.heap.size := by have := hb3.size; omega
        clear hb3 hx
        go_wp2_with fail
        go_ret
        exact ⟨by have := HL.out; first | rfl | simp [this], HB3.out⟩
    · obtain ⟨k0, k1, k2, k4, k5⟩ := hk
      have e0 : (k == 0) = false := beq_eq_false_iff_ne.2 k0
      have e1 : (k == 1) = false := beq_eq_false_iff_ne.2 k1
      have e2 : (k == 2) = false := beq_eq_false_iff_ne.2 k2
      have e4 : (k == 4) = false := beq_eq_false_iff_ne.2 k4
      have e5 : (k == 5) = false := beq_eq_false_iff_ne.2 k5
      have HK : Hid (¬ k = 0 ∧ ¬ k = 1 ∧ ¬ k = 2 ∧ ¬ k = 4 ∧ ¬ k = 5) := ⟨k0, k1, k2, k4, k5⟩
      clear k0 k1 k2 k4 k5
      go_enter Tryz.func54, Tryz.ntmps54
      go_wp2_with fail
      rw [← HW.out]
      with_reducible refine HC.out.mono ?_
      rintro e w3 ⟨rfl, hb3⟩
      have HB3 : Hid (Below w.heap.size w w3) := HB.out.trans (hb3.mono HB.out.size)
      have hx := (hb3.block w.heap.size (by omega)).trans HWB.out
      have x0 := cell_of_row w3 w.heap.size 0 _ _ _ hx
      have x3 := cell_of_row w3 w.heap.size 3 _ _ _ hx
      simp only [List.getElem?_toArray, List.getElem?_cons_zero, List.getElem?_cons_succ] at x0 x3
      have hq3 : w.heap.size < w3.heap.size := by have := hb3.size; omega
      clear hb3 hx
      go_wp2_with fail
      go_ret
      exact ⟨by obtain ⟨k0, k1, k2, k4, k5⟩ := HK.out; simp [k0, k1, k2, k4, k5], HB3.out⟩
  · have hE2 : (E != 0) = true := by simpa using hE
    have HE := Lib.hid hE
    clear hE
    go_enter Tryz.func54, Tryz.ntmps54
    go_wp2_with fail
    rw [← HW.out]
    with_reducible refine HC.out.mono ?_
    rintro e w3 ⟨rfl, hb3⟩
    have HB3 : Hid (Below w.heap.size w w3) := HB.out.trans (hb3.mono HB.out.size)
    have hx := (hb3.block w.heap.size (by omega)).trans HWB.out
    have x0 := cell_of_row w3 w.heap.size 0 _ _ _ hx
    have x3 := cell_of_row w3 w.heap.size 3 _ _ _ hx
    simp only [List.getElem?_toArray, List.getElem?_cons_zero, List.getElem?_cons_succ] at x0 x3
    have hq3 : w.heap.size < w3.heap.size := by have := hb3.size; omega
    clear hb3 hx
    go_wp2_with fail
    go_ret
    exact ⟨by simp [HE.out], HB3.out⟩
end Ew
end Go.Proofs.YtkplkgdfphbldaaGreat
namespace Go.Proofs.YtkplkgdfphbldaaGreat
open Go.RowKit
set_option linter.unusedVariables false
set_option linter.unusedSimpArgs false
set_option maxRecDepth 100000
namespace Ew
open Rn
set_option maxHeartbeats 16000000 in
theorem arity_at0 : ∀ x ∈ Ex.prims0, ∀ w : World, Calls Tryz.prog 99 #[.string x] w fun e w' => e = .returned (.int .i64 0) ∧ w = w' := by
  intro x hx
  simp only [Ex.prims0, Ex.prims1, Ex.prims2, Ex.prims3, List.mem_cons, List.not_mem_nil, or_false] at hx
  rcases hx with rfl | rfl | rfl | rfl | rfl
  all_goals
    intro w
    go_enter Tryz.func99, Tryz.ntmps99
    go_wp2_with fail
    go_ret
    exact ⟨rfl, rfl⟩
set_option maxHeartbeats 16000000 in
theorem arity_at1 : ∀ x ∈ Ex.prims1, ∀ w : World, Calls Tryz.prog 99 #[.string x] w fun e w' => e = .returned (.int .i64 1) ∧ w = w' := by
  intro x hx
  simp only [Ex.prims0, Ex.prims1, Ex.prims2, Ex.prims3, List.mem_cons, List.not_mem_nil, or_false] at hx
  rcases hx with rfl | rfl | rfl | rfl | rfl | rfl | rfl | rfl | rfl | rfl | rfl | rfl | rfl | rfl | rfl | rfl | rfl | rfl | rfl | rfl | rfl
  all_goals
    intro w
    go_enter Tryz.func99, Tryz.ntmps99
    go_wp2_with fail
    go_ret
    exact ⟨rfl, rfl⟩
set_option maxHeartbeats 16000000 in
theorem arity_at2 : ∀ x ∈ Ex.prims2, ∀ w : World, Calls Tryz.prog 99 #[.string x] w fun e w' => e = .returned (.int .i64 2) ∧ w = w' := by
  intro x hx
  simp only [Ex.prims0, Ex.prims1, Ex.prims2, Ex.prims3, List.mem_cons, List.not_mem_nil, or_false] at hx
  rcases hx with rfl | rfl | rfl | rfl | rfl | rfl | rfl | rfl | rfl | rfl | rfl | rfl | rfl | rfl | rfl | rfl
  all_goals
    intro w
    go_enter Tryz.func99, Tryz.ntmps99
    go_wp2_with fail
    go_ret
    exact ⟨rfl, rfl⟩
set_option maxHeartbeats 16000000 in
theorem arity_at3 : ∀ x ∈ Ex.prims3, ∀ w : World, Calls Tryz.prog 99 #[.string x] w fun e w' => e = .returned (.int .i64 3) ∧ w = w' := by
  intro x hx
  simp only [Ex.prims0, Ex.prims1, Ex.prims2, Ex.prims3, List.mem_cons, List.not_mem_nil, or_false] at hx
  rcases hx with rfl | rfl
  all_goals
    intro w
    go_enter Tryz.func99, Tryz.ntmps99
    go_wp2_with fail
    go_ret
    exact ⟨rfl, rfl⟩
theorem inN_no {l : List ByteArray} {s : ByteArray} (h : Ex.inN l s = false) : ∀ x ∈ l, s ≠ x := fun x hx e => by
  unfold Ex.inN at h
  rw [List.any_eq_false] at h
  exact h x hx (by simp [e])
theorem ba_no {p : ByteArray} {l : List UInt8} (h : p ≠ ⟨l.toArray⟩) : (p.toList == l) = false := by
  rw [beq_eq_false_iff_ne]
  intro e
  apply h
  rw [Lib.toList_data] at e
  obtain ⟨d⟩ := p
  rw [← e]
set_option maxHeartbeats 16000000 in
theorem arity_any (s : ByteArray) (w : World) : Calls Tryz.prog 99 #[.string s] w fun e w' => e = .returned (.int .i64 (Ex.arity s)) ∧ w = w' := by
  cases h0 : Ex.inN Ex.prims0 s with
  | true =>
    have e : Ex.arity s = 0 := by unfold Ex.arity; rw [h0]; rfl
    rw [e]
    obtain ⟨x, hx, he⟩ : ∃ x ∈ Ex.prims0, s = x := by
      unfold Ex.inN at h0
      obtain ⟨x, hx, he⟩ := List.any_eq_true.1 h0
      exact ⟨x, hx, by simpa using (of_decide_eq_true he).symm⟩
    subst he
    exact arity_at0 s hx w
  | false =>
    cases h1 : Ex.inN Ex.prims1 s with
    | true =>
      have e : Ex.arity s = 1 := by unfold Ex.arity; rw [h0, h1]; rfl
      rw [e]
      obtain ⟨x, hx, he⟩ : ∃ x ∈ Ex.prims1, s = x := by
        unfold Ex.inN at h1
        obtain ⟨x, hx, he⟩ := List.any_eq_true.1 h1
        exact ⟨x, hx, by simpa using (of_decide_eq_true he).symm⟩
      subst he
      exact arity_at1 s hx w
    | false =>
      cases h2 : Ex.inN Ex.prims2 s with
      | true =>
        have e : Ex.arity s = 2 := by unfold Ex.arity; rw [h0, h1, h2]; rfl
        rw [e]
        obtain ⟨x, hx, he⟩ : ∃ x ∈ Ex.prims2, s = x := by
          unfold Ex.inN at h2
          obtain ⟨x, hx, he⟩ := List.any_eq_true.1 h2
          exact ⟨x, hx, by simpa using (of_decide_eq_true he).symm⟩
        subst he
        exact arity_at2 s hx w
      | false =>
        cases h3 : Ex.inN Ex.prims3 s with
        | true =>
          have e : Ex.arity s = 3 := by unfold Ex.arity; rw [h0, h1, h2, h3]; rfl
          rw [e]
          obtain ⟨x, hx, he⟩ : ∃ x ∈ Ex.prims3, s = x := by
            unfold Ex.inN at h3
            obtain ⟨x, hx, he⟩ := List.any_eq_true.1 h3
            exact ⟨x, hx, by simpa using (of_decide_eq_true he).symm⟩
          subst he
          exact arity_at3 s hx w
        | false =>
          have e : Ex.arity s = -1 := by unfold Ex.arity; rw [h0, h1, h2, h3]; rfl
          rw [e]
          have q0 : (s.toList == [114, 101, 97, 100, 45, 117, 56]) = false := ba_no (inN_no h0 ⟨#[114, 101, 97, 100, 45, 117, 56]⟩ (by simp [Ex.prims0, sRead, sError, sWinders, sWrite, sWind, sCallcc]))
          have q1 : (s.toList == [101, 114, 114, 111, 114]) = false := ba_no (inN_no h0 ⟨#[101, 114, 114, 111, 114]⟩ (by simp [Ex.prims0, sRead, sError, sWinders, sWrite, sWind, sCallcc]))
          have q2 : (s.toList == [118, 111, 105, 100]) = false := ba_no (inN_no h0 ⟨#[118, 111, 105, 100]⟩ (by simp [Ex.prims0, sRead, sError, sWinders, sWrite, sWind, sCallcc]))
          have q3 : (s.toList == [37, 119, 105, 110, 100, 101, 114, 115]) = false := ba_no (inN_no h0 ⟨#[37, 119, 105, 110, 100, 101, 114, 115]⟩ (by simp [Ex.prims0, sRead, sError, sWinders, sWrite, sWind, sCallcc]))
          have q4 : (s.toList == [37, 117, 110, 115, 101, 116]) = false := ba_no (inN_no h0 ⟨#[37, 117, 110, 115, 101, 116]⟩ (by simp [Ex.prims0, sRead, sError, sWinders, sWrite, sWind, sCallcc]))
          have q5 : (s.toList == [110, 117, 108, 108, 63]) = false := ba_no (inN_no h1 ⟨#[110, 117, 108, 108, 63]⟩ (by simp [Ex.prims1, sRead, sError, sWinders, sWrite, sWind, sCallcc]))
          have q6 : (s.toList == [112, 97, 105, 114, 63]) = false := ba_no (inN_no h1 ⟨#[112, 97, 105, 114, 63]⟩ (by simp [Ex.prims1, sRead, sError, sWinders, sWrite, sWind, sCallcc]))
          have q7 : (s.toList == [118, 101, 99, 116, 111, 114, 63]) = false := ba_no (inN_no h1 ⟨#[118, 101, 99, 116, 111, 114, 63]⟩ (by simp [Ex.prims1, sRead, sError, sWinders, sWrite, sWind, sCallcc]))
          have q8 : (s.toList == [115, 116, 114, 105, 110, 103, 63]) = false := ba_no (inN_no h1 ⟨#[115, 116, 114, 105, 110, 103, 63]⟩ (by simp [Ex.prims1, sRead, sError, sWinders, sWrite, sWind, sCallcc]))
          have q9 : (s.toList == [115, 121, 109, 98, 111, 108, 63]) = false := ba_no (inN_no h1 ⟨#[115, 121, 109, 98, 111, 108, 63]⟩ (by simp [Ex.prims1, sRead, sError, sWinders, sWrite, sWind, sCallcc]))
          have q10 : (s.toList == [99, 104, 97, 114, 63]) = false := ba_no (inN_no h1 ⟨#[99, 104, 97, 114, 63]⟩ (by simp [Ex.prims1, sRead, sError, sWinders, sWrite, sWind, sCallcc]))
          have q11 : (s.toList == [105, 110, 116, 101, 103, 101, 114, 63]) = false := ba_no (inN_no h1 ⟨#[105, 110, 116, 101, 103, 101, 114, 63]⟩ (by simp [Ex.prims1, sRead, sError, sWinders, sWrite, sWind, sCallcc]))
          have q12 : (s.toList == [98, 111, 111, 108, 101, 97, 110, 63]) = false := ba_no (inN_no h1 ⟨#[98, 111, 111, 108, 101, 97, 110, 63]⟩ (by simp [Ex.prims1, sRead, sError, sWinders, sWrite, sWind, sCallcc]))
          have q13 : (s.toList == [112, 114, 111, 99, 101, 100, 117, 114, 101, 63]) = false := ba_no (inN_no h1 ⟨#[112, 114, 111, 99, 101, 100, 117, 114, 101, 63]⟩ (by simp [Ex.prims1, sRead, sError, sWinders, sWrite, sWind, sCallcc]))
          have q14 : (s.toList == [101, 111, 102, 45, 111, 98, 106, 101, 99, 116, 63]) = false := ba_no (inN_no h1 ⟨#[101, 111, 102, 45, 111, 98, 106, 101, 99, 116, 63]⟩ (by simp [Ex.prims1, sRead, sError, sWinders, sWrite, sWind, sCallcc]))
          have q15 : (s.toList == [99, 97, 114]) = false := ba_no (inN_no h1 ⟨#[99, 97, 114]⟩ (by simp [Ex.prims1, sRead, sError, sWinders, sWrite, sWind, sCallcc]))
          have q16 : (s.toList == [99, 100, 114]) = false := ba_no (inN_no h1 ⟨#[99, 100, 114]⟩ (by simp [Ex.prims1, sRead, sError, sWinders, sWrite, sWind, sCallcc]))
          have q17 : (s.toList == [118, 101, 99, 116, 111, 114, 45, 108, 101, 110, 103, 116, 104]) = false := ba_no (inN_no h1 ⟨#[118, 101, 99, 116, 111, 114, 45, 108, 101, 110, 103, 116, 104]⟩ (by simp [Ex.prims1, sRead, sError, sWinders, sWrite, sWind, sCallcc]))
          have q18 : (s.toList == [115, 116, 114, 105, 110, 103, 45, 108, 101, 110, 103, 116, 104]) = false := ba_no (inN_no h1 ⟨#[115, 116, 114, 105, 110, 103, 45, 108, 101, 110, 103, 116, 104]⟩ (by simp [Ex.prims1, sRead, sError, sWinders, sWrite, sWind, sCallcc]))
          have q19 : (s.toList == [99, 104, 97, 114, 45, 62, 105, 110, 116, 101, 103, 101, 114]) = false := ba_no (inN_no h1 ⟨#[99, 104, 97, 114, 45, 62, 105, 110, 116, 101, 103, 101, 114]⟩ (by simp [Ex.prims1, sRead, sError, sWinders, sWrite, sWind, sCallcc]))
          have q20 : (s.toList == [105, 110, 116, 101, 103, 101, 114, 45, 62, 99, 104, 97, 114]) = false := ba_no (inN_no h1 ⟨#[105, 110, 116, 101, 103, 101, 114, 45, 62, 99, 104, 97, 114]⟩ (by simp [Ex.prims1, sRead, sError, sWinders, sWrite, sWind, sCallcc]))
          have q21 : (s.toList == [119, 114, 105, 116, 101, 45, 117, 56]) = false := ba_no (inN_no h1 ⟨#[119, 114, 105, 116, 101, 45, 117, 56]⟩ (by simp [Ex.prims1, sRead, sError, sWinders, sWrite, sWind, sCallcc]))
          have q22 : (s.toList == [37, 98, 111, 120]) = false := ba_no (inN_no h1 ⟨#[37, 98, 111, 120]⟩ (by simp [Ex.prims1, sRead, sError, sWinders, sWrite, sWind, sCallcc]))
          have q23 : (s.toList == [37, 117, 110, 98, 111, 120]) = false := ba_no (inN_no h1 ⟨#[37, 117, 110, 98, 111, 120]⟩ (by simp [Ex.prims1, sRead, sError, sWinders, sWrite, sWind, sCallcc]))
          have q24 : (s.toList == [37, 119, 105, 110, 100, 33]) = false := ba_no (inN_no h1 ⟨#[37, 119, 105, 110, 100, 33]⟩ (by simp [Ex.prims1, sRead, sError, sWinders, sWrite, sWind, sCallcc]))
          have q25 : (s.toList == [37, 99, 97, 108, 108, 99, 99]) = false := ba_no (inN_no h1 ⟨#[37, 99, 97, 108, 108, 99, 99]⟩ (by simp [Ex.prims1, sRead, sError, sWinders, sWrite, sWind, sCallcc]))
          have q26 : (s.toList == [43]) = false := ba_no (inN_no h2 ⟨#[43]⟩ (by simp [Ex.prims2, sRead, sError, sWinders, sWrite, sWind, sCallcc]))
          have q27 : (s.toList == [45]) = false := ba_no (inN_no h2 ⟨#[45]⟩ (by simp [Ex.prims2, sRead, sError, sWinders, sWrite, sWind, sCallcc]))
          have q28 : (s.toList == [42]) = false := ba_no (inN_no h2 ⟨#[42]⟩ (by simp [Ex.prims2, sRead, sError, sWinders, sWrite, sWind, sCallcc]))
          have q29 : (s.toList == [113, 117, 111, 116, 105, 101, 110, 116]) = false := ba_no (inN_no h2 ⟨#[113, 117, 111, 116, 105, 101, 110, 116]⟩ (by simp [Ex.prims2, sRead, sError, sWinders, sWrite, sWind, sCallcc]))
          have q30 : (s.toList == [114, 101, 109, 97, 105, 110, 100, 101, 114]) = false := ba_no (inN_no h2 ⟨#[114, 101, 109, 97, 105, 110, 100, 101, 114]⟩ (by simp [Ex.prims2, sRead, sError, sWinders, sWrite, sWind, sCallcc]))
          have q31 : (s.toList == [60]) = false := ba_no (inN_no h2 ⟨#[60]⟩ (by simp [Ex.prims2, sRead, sError, sWinders, sWrite, sWind, sCallcc]))
          have q32 : (s.toList == [61]) = false := ba_no (inN_no h2 ⟨#[61]⟩ (by simp [Ex.prims2, sRead, sError, sWinders, sWrite, sWind, sCallcc]))
          have q33 : (s.toList == [101, 113, 63]) = false := ba_no (inN_no h2 ⟨#[101, 113, 63]⟩ (by simp [Ex.prims2, sRead, sError, sWinders, sWrite, sWind, sCallcc]))
          have q34 : (s.toList == [99, 111, 110, 115]) = false := ba_no (inN_no h2 ⟨#[99, 111, 110, 115]⟩ (by simp [Ex.prims2, sRead, sError, sWinders, sWrite, sWind, sCallcc]))
          have q35 : (s.toList == [115, 101, 116, 45, 99, 97, 114, 33]) = false := ba_no (inN_no h2 ⟨#[115, 101, 116, 45, 99, 97, 114, 33]⟩ (by simp [Ex.prims2, sRead, sError, sWinders, sWrite, sWind, sCallcc]))
          have q36 : (s.toList == [115, 101, 116, 45, 99, 100, 114, 33]) = false := ba_no (inN_no h2 ⟨#[115, 101, 116, 45, 99, 100, 114, 33]⟩ (by simp [Ex.prims2, sRead, sError, sWinders, sWrite, sWind, sCallcc]))
          have q37 : (s.toList == [109, 97, 107, 101, 45, 118, 101, 99, 116, 111, 114]) = false := ba_no (inN_no h2 ⟨#[109, 97, 107, 101, 45, 118, 101, 99, 116, 111, 114]⟩ (by simp [Ex.prims2, sRead, sError, sWinders, sWrite, sWind, sCallcc]))
          have q38 : (s.toList == [118, 101, 99, 116, 111, 114, 45, 114, 101, 102]) = false := ba_no (inN_no h2 ⟨#[118, 101, 99, 116, 111, 114, 45, 114, 101, 102]⟩ (by simp [Ex.prims2, sRead, sError, sWinders, sWrite, sWind, sCallcc]))
          have q39 : (s.toList == [109, 97, 107, 101, 45, 115, 116, 114, 105, 110, 103]) = false := ba_no (inN_no h2 ⟨#[109, 97, 107, 101, 45, 115, 116, 114, 105, 110, 103]⟩ (by simp [Ex.prims2, sRead, sError, sWinders, sWrite, sWind, sCallcc]))
          have q40 : (s.toList == [115, 116, 114, 105, 110, 103, 45, 114, 101, 102]) = false := ba_no (inN_no h2 ⟨#[115, 116, 114, 105, 110, 103, 45, 114, 101, 102]⟩ (by simp [Ex.prims2, sRead, sError, sWinders, sWrite, sWind, sCallcc]))
          have q41 : (s.toList == [37, 115, 101, 116, 45, 98, 111, 120, 33]) = false := ba_no (inN_no h2 ⟨#[37, 115, 101, 116, 45, 98, 111, 120, 33]⟩ (by simp [Ex.prims2, sRead, sError, sWinders, sWrite, sWind, sCallcc]))
          have q42 : (s.toList == [118, 101, 99, 116, 111, 114, 45, 115, 101, 116, 33]) = false := ba_no (inN_no h3 ⟨#[118, 101, 99, 116, 111, 114, 45, 115, 101, 116, 33]⟩ (by simp [Ex.prims3, sRead, sError, sWinders, sWrite, sWind, sCallcc]))
          have q43 : (s.toList == [115, 116, 114, 105, 110, 103, 45, 115, 101, 116, 33]) = false := ba_no (inN_no h3 ⟨#[115, 116, 114, 105, 110, 103, 45, 115, 101, 116, 33]⟩ (by simp [Ex.prims3, sRead, sError, sWinders, sWrite, sWind, sCallcc]))
          clear h0 h1 h2 h3 e
          go_enter Tryz.func99, Tryz.ntmps99
          go_wp2_with fail
          go_ret
          exact ⟨rfl, rfl⟩
end Ew
end Go.Proofs.YtkplkgdfphbldaaGreat
namespace Go.Proofs.YtkplkgdfphbldaaGreat
open Go.RowKit
set_option linter.unusedVariables false
set_option linter.unusedSimpArgs false
set_option maxRecDepth 100000
namespace Ew
open Rn
set_option maxHeartbeats 16000000 in
theorem rarity_at0 : ∀ x ∈ Ex.prims0, ∀ w : World, Calls Tryz.prog 88 #[.string x] w fun e w' => e = .returned (.int .i64 0) ∧ w = w' := by
  intro x hx
  simp only [Ex.prims0, Ex.prims1, Ex.prims2, Ex.prims3, List.mem_cons, List.not_mem_nil, or_false] at hx
  rcases hx with rfl | rfl | rfl | rfl | rfl
  all_goals
    intro w
    go_enter Tryz.func88, Tryz.ntmps88
    go_wp2_with fail
    go_ret
    exact ⟨rfl, rfl⟩
set_option maxHeartbeats 16000000 in
theorem rarity_at1 : ∀ x ∈ Ex.prims1, ∀ w : World, Calls Tryz.prog 88 #[.string x] w fun e w' => e = .returned (.int .i64 1) ∧ w = w' := by
  intro x hx
  simp only [Ex.prims0, Ex.prims1, Ex.prims2, Ex.prims3, List.mem_cons, List.not_mem_nil, or_false] at hx
  rcases hx with rfl | rfl | rfl | rfl | rfl | rfl | rfl | rfl | rfl | rfl | rfl | rfl | rfl | rfl | rfl | rfl | rfl | rfl | rfl | rfl | rfl
  all_goals
    intro w
    go_enter Tryz.func88, Tryz.ntmps88
    go_wp2_with fail
    go_ret
    exact ⟨rfl, rfl⟩
set_option maxHeartbeats 16000000 in
theorem rarity_at2 : ∀ x ∈ Ex.prims2, ∀ w : World, Calls Tryz.prog 88 #[.string x] w fun e w' => e = .returned (.int .i64 2) ∧ w = w' := by
  intro x hx
  simp only [Ex.prims0, Ex.prims1, Ex.prims2, Ex.prims3, List.mem_cons, List.not_mem_nil, or_false] at hx
  rcases hx with rfl | rfl | rfl | rfl | rfl | rfl | rfl | rfl | rfl | rfl | rfl | rfl | rfl | rfl | rfl | rfl
  all_goals
    intro w
    go_enter Tryz.func88, Tryz.ntmps88
    go_wp2_with fail
    go_ret
    exact ⟨rfl, rfl⟩
set_option maxHeartbeats 16000000 in
theorem rarity_at3 : ∀ x ∈ Ex.prims3, ∀ w : World, Calls Tryz.prog 88 #[.string x] w fun e w' => e = .returned (.int .i64 3) ∧ w = w' := by
  intro x hx
  simp only [Ex.prims0, Ex.prims1, Ex.prims2, Ex.prims3, List.mem_cons, List.not_mem_nil, or_false] at hx
  rcases hx with rfl | rfl
  all_goals
    intro w
    go_enter Tryz.func88, Tryz.ntmps88
    go_wp2_with fail
    go_ret
    exact ⟨rfl, rfl⟩
set_option maxHeartbeats 16000000 in
theorem rarity_any (s : ByteArray) (w : World) : Calls Tryz.prog 88 #[.string s] w fun e w' => e = .returned (.int .i64 (Ex.arity s)) ∧ w = w' := by
  cases h0 : Ex.inN Ex.prims0 s with
  | true =>
    have e : Ex.arity s = 0 := by unfold Ex.arity; rw [h0]; rfl
    rw [e]
    obtain ⟨x, hx, he⟩ : ∃ x ∈ Ex.prims0, s = x := by
      unfold Ex.inN at h0
      obtain ⟨x, hx, he⟩ := List.any_eq_true.1 h0
      exact ⟨x, hx, by simpa using (of_decide_eq_true he).symm⟩
    subst he
    exact rarity_at0 s hx w
  | false =>
    cases h1 : Ex.inN Ex.prims1 s with
    | true =>
      have e : Ex.arity s = 1 := by unfold Ex.arity; rw [h0, h1]; rfl
      rw [e]
      obtain ⟨x, hx, he⟩ : ∃ x ∈ Ex.prims1, s = x := by
        unfold Ex.inN at h1
        obtain ⟨x, hx, he⟩ := List.any_eq_true.1 h1
        exact ⟨x, hx, by simpa using (of_decide_eq_true he).symm⟩
      subst he
      exact rarity_at1 s hx w
    | false =>
      cases h2 : Ex.inN Ex.prims2 s with
      | true =>
        have e : Ex.arity s = 2 := by unfold Ex.arity; rw [h0, h1, h2]; rfl
        rw [e]
        obtain ⟨x, hx, he⟩ : ∃ x ∈ Ex.prims2, s = x := by
          unfold Ex.inN at h2
          obtain ⟨x, hx, he⟩ := List.any_eq_true.1 h2
          exact ⟨x, hx, by simpa using (of_decide_eq_true he).symm⟩
        subst he
        exact rarity_at2 s hx w
      | false =>
        cases h3 : Ex.inN Ex.prims3 s with
        | true =>
          have e : Ex.arity s = 3 := by unfold Ex.arity; rw [h0, h1, h2, h3]; rfl
          rw [e]
          obtain ⟨x, hx, he⟩ : ∃ x ∈ Ex.prims3, s = x := by
            unfold Ex.inN at h3
            obtain ⟨x, hx, he⟩ := List.any_eq_true.1 h3
            exact ⟨x, hx, by simpa using (of_decide_eq_true he).symm⟩
          subst he
          exact rarity_at3 s hx w
        | false =>
          have e : Ex.arity s = -1 := by unfold Ex.arity; rw [h0, h1, h2, h3]; rfl
          rw [e]
          have q0 : (s.toList == [114, 101, 97, 100, 45, 117, 56]) = false := ba_no (inN_no h0 ⟨#[114, 101, 97, 100, 45, 117, 56]⟩ (by simp [Ex.prims0, sRead, sError, sWinders, sWrite, sWind, sCallcc]))
          have q1 : (s.toList == [101, 114, 114, 111, 114]) = false := ba_no (inN_no h0 ⟨#[101, 114, 114, 111, 114]⟩ (by simp [Ex.prims0, sRead, sError, sWinders, sWrite, sWind, sCallcc]))
          have q2 : (s.toList == [118, 111, 105, 100]) = false := ba_no (inN_no h0 ⟨#[118, 111, 105, 100]⟩ (by simp [Ex.prims0, sRead, sError, sWinders, sWrite, sWind, sCallcc]))
          have q3 : (s.toList == [37, 119, 105, 110, 100, 101, 114, 115]) = false := ba_no (inN_no h0 ⟨#[37, 119, 105, 110, 100, 101, 114, 115]⟩ (by simp [Ex.prims0, sRead, sError, sWinders, sWrite, sWind, sCallcc]))
          have q4 : (s.toList == [37, 117, 110, 115, 101, 116]) = false := ba_no (inN_no h0 ⟨#[37, 117, 110, 115, 101, 116]⟩ (by simp [Ex.prims0, sRead, sError, sWinders, sWrite, sWind, sCallcc]))
          have q5 : (s.toList == [110, 117, 108, 108, 63]) = false := ba_no (inN_no h1 ⟨#[110, 117, 108, 108, 63]⟩ (by simp [Ex.prims1, sRead, sError, sWinders, sWrite, sWind, sCallcc]))
          have q6 : (s.toList == [112, 97, 105, 114, 63]) = false := ba_no (inN_no h1 ⟨#[112, 97, 105, 114, 63]⟩ (by simp [Ex.prims1, sRead, sError, sWinders, sWrite, sWind, sCallcc]))
          have q7 : (s.toList == [118, 101, 99, 116, 111, 114, 63]) = false := ba_no (inN_no h1 ⟨#[118, 101, 99, 116, 111, 114, 63]⟩ (by simp [Ex.prims1, sRead, sError, sWinders, sWrite, sWind, sCallcc]))
          have q8 : (s.toList == [115, 116, 114, 105, 110, 103, 63]) = false := ba_no (inN_no h1 ⟨#[115, 116, 114, 105, 110, 103, 63]⟩ (by simp [Ex.prims1, sRead, sError, sWinders, sWrite, sWind, sCallcc]))
          have q9 : (s.toList == [115, 121, 109, 98, 111, 108, 63]) = false := ba_no (inN_no h1 ⟨#[115, 121, 109, 98, 111, 108, 63]⟩ (by simp [Ex.prims1, sRead, sError, sWinders, sWrite, sWind, sCallcc]))
          have q10 : (s.toList == [99, 104, 97, 114, 63]) = false := ba_no (inN_no h1 ⟨#[99, 104, 97, 114, 63]⟩ (by simp [Ex.prims1, sRead, sError, sWinders, sWrite, sWind, sCallcc]))
          have q11 : (s.toList == [105, 110, 116, 101, 103, 101, 114, 63]) = false := ba_no (inN_no h1 ⟨#[105, 110, 116, 101, 103, 101, 114, 63]⟩ (by simp [Ex.prims1, sRead, sError, sWinders, sWrite, sWind, sCallcc]))
          have q12 : (s.toList == [98, 111, 111, 108, 101, 97, 110, 63]) = false := ba_no (inN_no h1 ⟨#[98, 111, 111, 108, 101, 97, 110, 63]⟩ (by simp [Ex.prims1, sRead, sError, sWinders, sWrite, sWind, sCallcc]))
          have q13 : (s.toList == [112, 114, 111, 99, 101, 100, 117, 114, 101, 63]) = false := ba_no (inN_no h1 ⟨#[112, 114, 111, 99, 101, 100, 117, 114, 101, 63]⟩ (by simp [Ex.prims1, sRead, sError, sWinders, sWrite, sWind, sCallcc]))
          have q14 : (s.toList == [101, 111, 102, 45, 111, 98, 106, 101, 99, 116, 63]) = false := ba_no (inN_no h1 ⟨#[101, 111, 102, 45, 111, 98, 106, 101, 99, 116, 63]⟩ (by simp [Ex.prims1, sRead, sError, sWinders, sWrite, sWind, sCallcc]))
          have q15 : (s.toList == [99, 97, 114]) = false := ba_no (inN_no h1 ⟨#[99, 97, 114]⟩ (by simp [Ex.prims1, sRead, sError, sWinders, sWrite, sWind, sCallcc]))
          have q16 : (s.toList == [99, 100, 114]) = false := ba_no (inN_no h1 ⟨#[99, 100, 114]⟩ (by simp [Ex.prims1, sRead, sError, sWinders, sWrite, sWind, sCallcc]))
          have q17 : (s.toList == [118, 101, 99, 116, 111, 114, 45, 108, 101, 110, 103, 116, 104]) = false := ba_no (inN_no h1 ⟨#[118, 101, 99, 116, 111, 114, 45, 108, 101, 110, 103, 116, 104]⟩ (by simp [Ex.prims1, sRead, sError, sWinders, sWrite, sWind, sCallcc]))
          have q18 : (s.toList == [115, 116, 114, 105, 110, 103, 45, 108, 101, 110, 103, 116, 104]) = false := ba_no (inN_no h1 ⟨#[115, 116, 114, 105, 110, 103, 45, 108, 101, 110, 103, 116, 104]⟩ (by simp [Ex.prims1, sRead, sError, sWinders, sWrite, sWind, sCallcc]))
          have q19 : (s.toList == [99, 104, 97, 114, 45, 62, 105, 110, 116, 101, 103, 101, 114]) = false := ba_no (inN_no h1 ⟨#[99, 104, 97, 114, 45, 62, 105, 110, 116, 101, 103, 101, 114]⟩ (by simp [Ex.prims1, sRead, sError, sWinders, sWrite, sWind, sCallcc]))
          have q20 : (s.toList == [105, 110, 116, 101, 103, 101, 114, 45, 62, 99, 104, 97, 114]) = false := ba_no (inN_no h1 ⟨#[105, 110, 116, 101, 103, 101, 114, 45, 62, 99, 104, 97, 114]⟩ (by simp [Ex.prims1, sRead, sError, sWinders, sWrite, sWind, sCallcc]))
          have q21 : (s.toList == [119, 114, 105, 116, 101, 45, 117, 56]) = false := ba_no (inN_no h1 ⟨#[119, 114, 105, 116, 101, 45, 117, 56]⟩ (by simp [Ex.prims1, sRead, sError, sWinders, sWrite, sWind, sCallcc]))
          have q22 : (s.toList == [37, 98, 111, 120]) = false := ba_no (inN_no h1 ⟨#[37, 98, 111, 120]⟩ (by simp [Ex.prims1, sRead, sError, sWinders, sWrite, sWind, sCallcc]))
          have q23 : (s.toList == [37, 117, 110, 98, 111, 120]) = false := ba_no (inN_no h1 ⟨#[37, 117, 110, 98, 111, 120]⟩ (by simp [Ex.prims1, sRead, sError, sWinders, sWrite, sWind, sCallcc]))
          have q24 : (s.toList == [37, 119, 105, 110, 100, 33]) = false := ba_no (inN_no h1 ⟨#[37, 119, 105, 110, 100, 33]⟩ (by simp [Ex.prims1, sRead, sError, sWinders, sWrite, sWind, sCallcc]))
          have q25 : (s.toList == [37, 99, 97, 108, 108, 99, 99]) = false := ba_no (inN_no h1 ⟨#[37, 99, 97, 108, 108, 99, 99]⟩ (by simp [Ex.prims1, sRead, sError, sWinders, sWrite, sWind, sCallcc]))
          have q26 : (s.toList == [43]) = false := ba_no (inN_no h2 ⟨#[43]⟩ (by simp [Ex.prims2, sRead, sError, sWinders, sWrite, sWind, sCallcc]))
          have q27 : (s.toList == [45]) = false := ba_no (inN_no h2 ⟨#[45]⟩ (by simp [Ex.prims2, sRead, sError, sWinders, sWrite, sWind, sCallcc]))
          have q28 : (s.toList == [42]) = false := ba_no (inN_no h2 ⟨#[42]⟩ (by simp [Ex.prims2, sRead, sError, sWinders, sWrite, sWind, sCallcc]))
          have q29 : (s.toList == [113, 117, 111, 116, 105, 101, 110, 116]) = false := ba_no (inN_no h2 ⟨#[113, 117, 111, 116, 105, 101, 110, 116]⟩ (by simp [Ex.prims2, sRead, sError, sWinders, sWrite, sWind, sCallcc]))
          have q30 : (s.toList == [114, 101, 109, 97, 105, 110, 100, 101, 114]) = false := ba_no (inN_no h2 ⟨#[114, 101, 109, 97, 105, 110, 100, 101, 114]⟩ (by simp [Ex.prims2, sRead, sError, sWinders, sWrite, sWind, sCallcc]))
          have q31 : (s.toList == [60]) = false := ba_no (inN_no h2 ⟨#[60]⟩ (by simp [Ex.prims2, sRead, sError, sWinders, sWrite, sWind, sCallcc]))
          have q32 : (s.toList == [61]) = false := ba_no (inN_no h2 ⟨#[61]⟩ (by simp [Ex.prims2, sRead, sError, sWinders, sWrite, sWind, sCallcc]))
          have q33 : (s.toList == [101, 113, 63]) = false := ba_no (inN_no h2 ⟨#[101, 113, 63]⟩ (by simp [Ex.prims2, sRead, sError, sWinders, sWrite, sWind, sCallcc]))
          have q34 : (s.toList == [99, 111, 110, 115]) = false := ba_no (inN_no h2 ⟨#[99, 111, 110, 115]⟩ (by simp [Ex.prims2, sRead, sError, sWinders, sWrite, sWind, sCallcc]))
          have q35 : (s.toList == [115, 101, 116, 45, 99, 97, 114, 33]) = false := ba_no (inN_no h2 ⟨#[115, 101, 116, 45, 99, 97, 114, 33]⟩ (by simp [Ex.prims2, sRead, sError, sWinders, sWrite, sWind, sCallcc]))
          have q36 : (s.toList == [115, 101, 116, 45, 99, 100, 114, 33]) = false := ba_no (inN_no h2 ⟨#[115, 101, 116, 45, 99, 100, 114, 33]⟩ (by simp [Ex.prims2, sRead, sError, sWinders, sWrite, sWind, sCallcc]))
          have q37 : (s.toList == [109, 97, 107, 101, 45, 118, 101, 99, 116, 111, 114]) = false := ba_no (inN_no h2 ⟨#[109, 97, 107, 101, 45, 118, 101, 99, 116, 111, 114]⟩ (by simp [Ex.prims2, sRead, sError, sWinders, sWrite, sWind, sCallcc]))
          have q38 : (s.toList == [118, 101, 99, 116, 111, 114, 45, 114, 101, 102]) = false := ba_no (inN_no h2 ⟨#[118, 101, 99, 116, 111, 114, 45, 114, 101, 102]⟩ (by simp [Ex.prims2, sRead, sError, sWinders, sWrite, sWind, sCallcc]))
          have q39 : (s.toList == [109, 97, 107, 101, 45, 115, 116, 114, 105, 110, 103]) = false := ba_no (inN_no h2 ⟨#[109, 97, 107, 101, 45, 115, 116, 114, 105, 110, 103]⟩ (by simp [Ex.prims2, sRead, sError, sWinders, sWrite, sWind, sCallcc]))
          have q40 : (s.toList == [115, 116, 114, 105, 110, 103, 45, 114, 101, 102]) = false := ba_no (inN_no h2 ⟨#[115, 116, 114, 105, 110, 103, 45, 114, 101, 102]⟩ (by simp [Ex.prims2, sRead, sError, sWinders, sWrite, sWind, sCallcc]))
          have q41 : (s.toList == [37, 115, 101, 116, 45, 98, 111, 120, 33]) = false := ba_no (inN_no h2 ⟨#[37, 115, 101, 116, 45, 98, 111, 120, 33]⟩ (by simp [Ex.prims2, sRead, sError, sWinders, sWrite, sWind, sCallcc]))
          have q42 : (s.toList == [118, 101, 99, 116, 111, 114, 45, 115, 101, 116, 33]) = false := ba_no (inN_no h3 ⟨#[118, 101, 99, 116, 111, 114, 45, 115, 101, 116, 33]⟩ (by simp [Ex.prims3, sRead, sError, sWinders, sWrite, sWind, sCallcc]))
          have q43 : (s.toList == [115, 116, 114, 105, 110, 103, 45, 115, 101, 116, 33]) = false := ba_no (inN_no h3 ⟨#[115, 116, 114, 105, 110, 103, 45, 115, 101, 116, 33]⟩ (by simp [Ex.prims3, sRead, sError, sWinders, sWrite, sWind, sCallcc]))
          clear h0 h1 h2 h3 e
          go_enter Tryz.func88, Tryz.ntmps88
          go_wp2_with fail
          go_ret
          exact ⟨rfl, rfl⟩
end Ew
end Go.Proofs.YtkplkgdfphbldaaGreat
namespace Go.Proofs.YtkplkgdfphbldaaGreat
open Go.RowKit
set_option linter.unusedVariables false
set_option linter.unusedSimpArgs false
set_option maxRecDepth 100000
namespace Ew
open Rn
set_option maxHeartbeats 1000000 in
theorem eqfunc_bare (a : Option Addr) (n c : Nat) (hn : n ≤ 9223372036854775807) (w : World) : Calls Tryz.prog 105 #[.slice a n c, .slice none 0 0, .func (.func 84) #[] #[]] w fun e w' => e = .returned (.bool (decide (n = 0))) ∧ w = w' := by
  by_cases h : n = 0
  · subst h
    go_enter Tryz.func105, Tryz.ntmps105
    go_wp2_with fail
    refine wp_loop_rounds 1 ?_
    rw [rounds_succ]
    go_wp2_with fail
    go_ret
    exact ⟨rfl, rfl⟩
  · have g1 : ((n : Int) != 0) = true := by rw [bne_iff_ne]; omega
    have g2 : (n != 0) = true := by rw [bne_iff_ne]; exact h
    have e : decide (n = 0) = false := decide_eq_false h
    rw [e]
    go_enter Tryz.func105, Tryz.ntmps105
    go_wp2_with fail
    go_ret
    exact ⟨rfl, rfl⟩
set_option maxHeartbeats 2000000 in
theorem equal_bare (k i : Int) (t : ByteArray) (a : Option Addr) (n c : Nat) (hn : n ≤ 9223372036854775807) (w : World) : Calls Tryz.prog 84 #[.agg #[.int .i64 k, .int .i64 i, .string t, .slice a n c], .agg #[.int .i64 0, .int .i64 0, .string ⟨#[]⟩, .slice none 0 0]] w fun e w' => e = .returned (.bool (decide (k = 0) && decide (i = 0) && decide (t = ⟨#[]⟩) && decide (n = 0))) ∧ Below w.heap.size w w' := by
  have hB : Below w.heap.size w ((w.alloc (.cells #[.int .i64 k, .int .i64 i, .string t, .slice a n c] 25)).alloc (.cells #[.int .i64 0, .int .i64 0, .string ⟨#[]⟩, .slice none 0 0] 25)) := ((Below.refl _ _).alloc (Nat.le_refl _) _).alloc (by simp) _
  have HB := Lib.hid hB
  clear hB
  by_cases hk : k = 0
  · subst hk
    by_cases hi : i = 0
    · subst hi
      by_cases ht : t = ⟨#[]⟩
      · subst ht
        have HE := Lib.hid (eqfunc_bare a n c hn)
        have e : (decide ((0 : Int) = 0) && decide ((0 : Int) = 0) && decide ((⟨#[]⟩ : ByteArray) = ⟨#[]⟩) && decide (n = 0)) = decide (n = 0) := by simp
        rw [e]
        go_enter Tryz.func84, Tryz.ntmps84
        go_wp2_with fail
        with_reducible refine (HE.out _).mono ?_
        rintro e w3 ⟨rfl, rfl⟩
        go_wp2_with fail
        go_ret
        exact ⟨by simp, HB.out⟩
      · have z3 : ¬ t.toList = [] := fun e => ht (by rw [Lib.toList_data] at e; obtain ⟨d⟩ := t; have h4 : d = #[] := Array.toList_eq_nil_iff.1 e; rw [h4])
        have z4 : t.toList.isEmpty = false := by simpa using z3
        have z5 : (t.toList == []) = false := by simpa using z3
        have e : (decide ((0 : Int) = 0) && decide ((0 : Int) = 0) && decide (t = (⟨#[]⟩ : ByteArray)) && decide (n = 0)) = false := by simp [ht]
        rw [e]
        clear ht
        go_enter Tryz.func84, Tryz.ntmps84
        go_wp2_with fail
        go_ret
        exact ⟨rfl, HB.out⟩
    · have g1 : (i == 0) = false := beq_eq_false_iff_ne.2 hi
      have e : (decide ((0 : Int) = 0) && decide (i = 0) && decide (t = (⟨#[]⟩ : ByteArray)) && decide (n = 0)) = false := by simp [hi]
      rw [e]
      clear hi
      go_enter Tryz.func84, Tryz.ntmps84
      go_wp2_with fail
      go_ret
      exact ⟨rfl, HB.out⟩
  · have g1 : (k == 0) = false := beq_eq_false_iff_ne.2 hk
    have e : (decide (k = 0) && decide (i = 0) && decide (t = (⟨#[]⟩ : ByteArray)) && decide (n = 0)) = false := by simp [hk]
    rw [e]
    clear hk
    go_enter Tryz.func84, Tryz.ntmps84
    go_wp2_with fail
    go_ret
    exact ⟨rfl, HB.out⟩
end Ew
end Go.Proofs.YtkplkgdfphbldaaGreat
namespace Go.Proofs.YtkplkgdfphbldaaGreat
open Go.RowKit
set_option linter.unusedVariables false
set_option linter.unusedSimpArgs false
set_option maxRecDepth 100000
namespace Ew
open Rn
theorem index_any (l : List ByteArray) (s : ByteArray) {w : World} {na : Option Addr} {nc : Nat} (hn : Sl w (.slice na l.length nc) (strs l)) (hl : l.length ≤ 9223372036854775807) :
    Calls Tryz.prog 119 #[.slice na l.length nc, .string s] w fun e w' => (∃ k : Int, e = .returned (.int .i64 k) ∧ decide (0 ≤ k) = Ex.inN l s) ∧ w = w' := by
  have HN := Lib.hid hn
  clear hn
  go_enter Tryz.func119, Tryz.ntmps119
  go_wp2_with fail
  go_loopg [8] l.length (fun g i wr => ∃ j : Nat, j ≤ l.length ∧ g = l.length - j ∧ i = .int .i64 j ∧ w = wr ∧ ∀ y ∈ l.take j, ¬ y = s)
  case atStart => exact ⟨0, Nat.zero_le _, rfl, rfl, rfl, fun y hy => by simp at hy⟩
  case round =>
    obtain ⟨j, hj, rfl, rfl, rfl, hall⟩ := hrel
    have HA := Lib.hid hall
    clear hall
    by_cases hlt : j < l.length
    · obtain ⟨x, hx⟩ : ∃ x, l[j]? = some x := ⟨_, List.getElem?_eq_getElem hlt⟩
      obtain ⟨b, off, rfl, hbl, hc⟩ := text_at HN.out hx
      have HX := Lib.hid hx
      have g1 : (0 : Int) ≤ j := by omega
      have g2 : (j : Int) < l.length := by omega
      have gw : IntKind.i64.wrap ((j : Int) + 1) = ((j + 1 : Nat) : Int) := by rw [IntKind.wrap_i64]; omega
      clear hx
      by_cases hs : s = x
      · have hs2 : (s.toList == x.toList) = true := by rw [hs]; exact beq_self_eq_true _
        have HH : Hid (Ex.inN l s = true) := (Ex.inN_iff l s).2 (hs ▸ List.mem_of_getElem? HX.out)
        clear hs
        go_wp2_with fail
        go_ret
        exact ⟨⟨j, rfl, by rw [HH.out]; exact decide_eq_true g1⟩, rfl⟩
      · have hs2 : (s.toList == x.toList) = false := beq_eq_false_iff_ne.2 fun h => hs (toList_inj' h)
        have HS := Lib.hid hs
        clear hs
        go_wp2_with fail
        go_roundg (l.length - (j + 1))
        case measure => omega
        case rel =>
          refine ⟨j + 1, by omega, rfl, by go_num, rfl, fun y hy => ?_⟩
          rw [List.take_add_one, HX.out] at hy
          simp at hy
          rcases hy with hy | rfl
          · exact HA.out y hy
          · exact fun e => HS.out e.symm
    · have hje : j = l.length := by omega
      have HH : Hid (Ex.inN l s = false) := by
        unfold Hid
        rw [Bool.eq_false_iff]
        intro h
        have h := (Ex.inN_iff l s).1 h
        exact HA.out s (by rw [hje, List.take_length]; exact h) rfl
      have hge : (l.length : Int) ≤ j := by omega
      clear hje
      go_wp2_with fail
      go_ret
      exact ⟨⟨-1, rfl, by rw [HH.out]; rfl⟩, rfl⟩
theorem contains_any (l : List ByteArray) (s : ByteArray) {w : World} {na : Option Addr} {nc : Nat} (hn : Sl w (.slice na l.length nc) (strs l)) (hl : l.length ≤ 9223372036854775807) :
    Calls Tryz.prog 100 #[.slice na l.length nc, .string s] w fun e w' => e = .returned (.bool (Ex.inN l s)) ∧ w = w' := by
  have HC := Lib.hid (index_any l s hn hl)
  clear hn
  go_enter Tryz.func100, Tryz.ntmps100
  go_wp2_with fail
  with_reducible refine HC.out.mono ?_
  rintro e2 w2 ⟨⟨k, rfl, hk⟩, rfl⟩
  have HK := Lib.hid hk
  clear hk
  go_wp2_with fail
  go_ret
  exact ⟨by rw [← HK.out]; rfl, rfl⟩
set_option maxHeartbeats 8000000 in
theorem dnames_any (l : List ByteArray) {w : World} {na : Option Addr} {nc : Nat} (hn : Sl w (.slice na l.length nc) (strs l)) (hr : l.length ≤ nc) (hl : l.length ≤ 9223372036854775807) (hs : ∀ s ∈ l, s.size ≤ maxLen) :
    Calls Tryz.prog 79 #[.slice na l.length nc] w (Says (.bool (Ex.namesB l)) w) := by
  have HN := Lib.hid hn
  have HS := Lib.hid hs
  clear hn hs
  go_enter Tryz.func79, Tryz.ntmps79
  go_wp2_with fail
  go_loopg [7] l.length (fun g i wr => ∃ j : Nat, j ≤ l.length ∧ g = l.length - j ∧ i = .int .i64 j ∧ Below w.heap.size w wr ∧ Ex.namesB (l.take j) = true)
  case atStart => exact ⟨0, Nat.zero_le _, rfl, rfl, Below.refl _ _, by rw [List.take_zero]; rfl⟩
  case round =>
    obtain ⟨j, hj, rfl, rfl, hb, hall⟩ := hrel
    have HB2 := Lib.hid hb
    have HA := Lib.hid hall
    clear hb hall
    by_cases hlt : j < l.length
    · obtain ⟨x, hx⟩ : ∃ x, l[j]? = some x := ⟨_, List.getElem?_eq_getElem hlt⟩
      have hsl := sl_bel HN.out HB2.out
      have hst := sl_take hsl j hlt
      obtain ⟨b, off, rfl, hbl, hc⟩ := text_at hsl hx
      have HX := Lib.hid hx
      have HST := Lib.hid hst
      have hxs : x.size ≤ maxLen := HS.out x (List.mem_of_getElem? hx)
      have g1 : (0 : Int) ≤ j := by omega
      have g2 : (j : Int) < l.length := by omega
      have g3 : (j : Int) ≤ nc := by omega
      have g4 : j ≤ nc := by omega
      have gw : IntKind.i64.wrap ((j : Int) + 1) = ((j + 1 : Nat) : Int) := by rw [IntKind.wrap_i64]; omega
      have hle : (l.take j).length = j := by rw [List.length_take]; omega
      have HTK := Lib.hid (namesB_take l j x hx)
      clear hx hsl hst
      have HIN := Lib.hid (contains_any (l.take j) x (w := wr) (na := some ⟨b, off, none⟩) (nc := nc) (by rw [hle]; exact HST.out) (by omega))
      rw [hle] at HIN
      have HNM := Lib.hid (dname_any x hxs)
      cases hnb : Nm.nameB x with
      | false =>
        rw [hnb] at HNM HTK
        have HH : Hid (Ex.namesB l = false) := namesB_bad (j := j + 1) (by rw [HTK.out]; simp)
        clear hnb hle
        go_wp2_with fail
        with_reducible refine (HNM.out _).mono ?_
        rintro e2 w2 ⟨rfl, rfl⟩
        go_wp2_with fail
        go_ret
        exact ⟨by rw [HH.out]; rfl, HB2.out⟩
      | true =>
        rw [hnb] at HNM HTK
        clear hnb hle
        go_wp2_with fail
        with_reducible refine (HNM.out _).mono ?_
        rintro e2 w2 ⟨rfl, rfl⟩
        go_wp2_with fail
        with_reducible refine HIN.out.mono ?_
        rintro e2 w2 ⟨rfl, rfl⟩
        cases hin : Ex.inN (l.take j) x with
        | true =>
          rw [hin] at HTK
          have HH : Hid (Ex.namesB l = false) := namesB_bad (j := j + 1) (by rw [HTK.out]; simp)
          clear hin
          go_wp2_with fail
          go_ret
          exact ⟨by rw [HH.out]; rfl, HB2.out⟩
        | false =>
          rw [hin] at HTK
          clear hin
          go_wp2_with fail
          go_roundg (l.length - (j + 1))
          case measure => omega
          case rel => exact ⟨j + 1, by omega, rfl, by go_num, HB2.out, by rw [HTK.out, HA.out]; rfl⟩
    · have hje : j = l.length := by omega
      have HH : Hid (Ex.namesB l = true) := by
        have h := HA.out
        rw [hje, List.take_length] at h
        exact h
      have hge : (l.length : Int) ≤ j := by omega
      clear hje
      go_wp2_with fail
      go_ret
      exact ⟨by rw [HH.out]; rfl, HB2.out⟩
end Ew
end Go.Proofs.YtkplkgdfphbldaaGreat
namespace Go.Proofs.YtkplkgdfphbldaaGreat
open Go.RowKit
set_option linter.unusedVariables false
set_option linter.unusedSimpArgs false
set_option maxRecDepth 100000
namespace Ew
open Rn
theorem Few.short {e : Ex} (h : Few e) : Dt.Short e.const := by
  have h1 := h.cl
  cases hc : e.const with
  | mk k i t l =>
    rw [hc] at h1
    have : l = [] := h1
    subst this
    exact .mk k i t [] (by simp) (fun j x hx => by simp at hx)
set_option maxHeartbeats 16000000 in
theorem r6same_any (e : Ex) : ∀ (f : Ex) {w : World} {ana : Option Addr} {anc : Nat} {ada : Option Addr} {adn adc : Nat} {aka : Option Addr} {akc : Nat} {bna : Option Addr} {bnc : Nat} {bda : Option Addr} {bdn bdc : Nat} {bka : Option Addr} {bkc : Nat}, Few e → Few f → Op w e ana anc ada adn adc aka akc → Op w f bna bnc bda bdn bdc bka bkc →
    Calls Tryz.prog 14 #[.agg #[.int .i64 e.kind, .string e.name, .slice ana e.names.length anc, .int .i64 e.const.kind, .int .i64 e.const.int, .string e.const.text, .slice ada adn adc, .slice aka e.kids.length akc], .agg #[.int .i64 f.kind, .string f.name, .slice bna f.names.length bnc, .int .i64 f.const.kind, .int .i64 f.const.int, .string f.const.text, .slice bda bdn bdc, .slice bka f.kids.length bkc]] w (Says (.bool (Ex.same e f)) w) := by
  induction e using Ex.byKids with
  | h e ih =>
  intro f w ana anc ada adn adc aka akc bna bnc bda bdn bdc bka bkc he hf ha hb
  obtain ⟨w1, B1⟩ := boxed w #[.int .i64 e.kind, .string e.name, .slice ana e.names.length anc, .int .i64 e.const.kind, .int .i64 e.const.int, .string e.const.text, .slice ada adn adc, .slice aka e.kids.length akc] 28
  obtain ⟨w2, B2⟩ := boxed w1 #[.int .i64 f.kind, .string f.name, .slice bna f.names.length bnc, .int .i64 f.const.kind, .int .i64 f.const.int, .string f.const.text, .slice bda bdn bdc, .slice bka f.kids.length bkc] 28
  have hB : Below w.heap.size w w2 := B1.below.trans (B2.below.mono B1.below.size)
  have hra := (Row.of B1.blk).bel B2.below
  have hrb := Row.of B2.blk
  have hs1 := B1.size
  rw [hs1] at hrb
  have HA := Lib.hid (ha.bel hB)
  have HBO := Lib.hid (hb.bel hB)
  have HB := Lib.hid hB
  have HB1 := Lib.hid B1
  have HB2 := Lib.hid B2
  have HRA := Lib.hid hra
  have HRB := Lib.hid hrb
  have HIH := Lib.hid ih
  have HFE := Lib.hid he
  have HFF := Lib.hid hf
  have hl := he.len
  have HBW : Hid (Below w2.heap.size w2 w2) := Below.refl _ _
  have HST : Hid (∀ W, Below w2.heap.size w2 W → Calls Tryz.prog 29 #[.slice ana e.names.length anc, .slice bna f.names.length bnc] W (Says (.bool (decide (e.names = f.names))) W)) := fun W hb => sametexts_any _ _ (HA.out.bel hb).names (HBO.out.bel hb).names (by have := HFE.out.nl; omega)
  have HSC : Hid (∀ W, Below w2.heap.size w2 W → Calls Tryz.prog 32 #[.agg #[.int .i64 e.const.kind, .int .i64 e.const.int, .string e.const.text, .slice ada adn adc], .agg #[.int .i64 f.const.kind, .int .i64 f.const.int, .string f.const.text, .slice bda bdn bdc]] W (Says (.bool (Dt.same e.const f.const)) W)) := fun W hb => same_any _ _ _ _ W HFE.out.short HFF.out.short (HA.out.bel hb).const (HBO.out.bel hb).const
  obtain ⟨x0, x1, x2, x3, x4, x5, x6, x7, xbl⟩ := hra
  obtain ⟨v0, v1, v2, v3, v4, v5, v6, v7, vbl⟩ := hrb
  clear B1 B2 ih ha hb hB he hf hs1
  by_cases hk : e.kind = f.kind
  · have k1 : (e.kind != f.kind) = false := by rw [hk]; simp
    have HK := Lib.hid hk
    clear hk
    by_cases hn : e.name = f.name
    · have k2 : (e.name.toList != f.name.toList) = false := by rw [hn]; simp
      have k3 : (e.name.toList == f.name.toList) = true := by rw [hn]; simp
      have HN := Lib.hid hn
      clear hn
      cases hns : decide (e.names = f.names) with
      | false =>
        rw [hns] at HST
        have HH : Hid (Ex.same e f = false) := by unfold Hid; rw [Ex.same_iff]; rw [hns]; simp
        clear hns
        go_enter Tryz.func14, Tryz.ntmps14
        go_upto_region 1 with fail
        rw [← HB1.out.eq, ← HB2.out.eq]
        go_wp2_with fail
        with_reducible refine (HST.out _ HBW.out).mono ?_
        rintro e2 w3 ⟨rfl, hb2⟩
        have HBW : Hid (Below w2.heap.size w2 w3) := HBW.out.trans (hb2.mono HBW.out.size)
        clear hb2
        obtain ⟨y0, y1, y2, y3, y4, y5, y6, y7, ybl⟩ := HRA.out.bel HBW.out
        obtain ⟨z0, z1, z2, z3, z4, z5, z6, z7, zbl⟩ := HRB.out.bel HBW.out
        go_wp2_with fail
        go_ret
        exact ⟨by rw [HH.out]; rfl, HB.out.trans (HBW.out.mono HB.out.size)⟩
      | true =>
        rw [hns] at HST
        have HNS := Lib.hid hns
        clear hns
        cases hcs : Dt.same e.const f.const with
        | false =>
          rw [hcs] at HSC
          have HH : Hid (Ex.same e f = false) := by unfold Hid; rw [Ex.same_iff]; rw [hcs]; simp
          clear hcs
          go_enter Tryz.func14, Tryz.ntmps14
          go_upto_region 1 with fail
          rw [← HB1.out.eq, ← HB2.out.eq]
          go_wp2_with fail
          with_reducible refine (HST.out _ HBW.out).mono ?_
          rintro e2 w3 ⟨rfl, hb2⟩
          have HBW : Hid (Below w2.heap.size w2 w3) := HBW.out.trans (hb2.mono HBW.out.size)
          clear hb2
          obtain ⟨y0, y1, y2, y3, y4, y5, y6, y7, ybl⟩ := HRA.out.bel HBW.out
          obtain ⟨z0, z1, z2, z3, z4, z5, z6, z7, zbl⟩ := HRB.out.bel HBW.out
          go_wp2_with fail
          with_reducible refine (HSC.out _ HBW.out).mono ?_
          rintro e2 w4 ⟨rfl, hb2⟩
          have HBW : Hid (Below w2.heap.size w2 w4) := HBW.out.trans (hb2.mono HBW.out.size)
          clear hb2
          obtain ⟨y0, y1, y2, y3, y4, y5, y6, y7, ybl⟩ := HRA.out.bel HBW.out
          obtain ⟨z0, z1, z2, z3, z4, z5, z6, z7, zbl⟩ := HRB.out.bel HBW.out
          go_wp2_with fail
          go_ret
          exact ⟨by rw [HH.out]; rfl, HB.out.trans (HBW.out.mono HB.out.size)⟩
        | true =>
          rw [hcs] at HSC
          have HCS := Lib.hid hcs
          clear hcs
          have HALL : Hid (Ex.same e f = Ex.sames e.kids f.kids) := by unfold Hid; rw [Ex.same_iff, HNS.out, HCS.out, decide_eq_true HK.out, decide_eq_true HN.out]; simp
          by_cases hlen : e.kids.length = f.kids.length
          · have k4 : ((e.kids.length : Int) != (f.kids.length : Int)) = false := by rw [hlen]; simp
            have HLEN := Lib.hid hlen
            clear hlen
            go_enter Tryz.func14, Tryz.ntmps14
            go_upto_region 1 with fail
            rw [← HB1.out.eq, ← HB2.out.eq]
            go_wp2_with fail
            with_reducible refine (HST.out _ HBW.out).mono ?_
            rintro e2 w3 ⟨rfl, hb2⟩
            have HBW : Hid (Below w2.heap.size w2 w3) := HBW.out.trans (hb2.mono HBW.out.size)
            clear hb2
            obtain ⟨y0, y1, y2, y3, y4, y5, y6, y7, ybl⟩ := HRA.out.bel HBW.out
            obtain ⟨z0, z1, z2, z3, z4, z5, z6, z7, zbl⟩ := HRB.out.bel HBW.out
            go_wp2_with fail
            with_reducible refine (HSC.out _ HBW.out).mono ?_
            rintro e2 w4 ⟨rfl, hb2⟩
            have HBW : Hid (Below w2.heap.size w2 w4) := HBW.out.trans (hb2.mono HBW.out.size)
            clear hb2
            obtain ⟨y0, y1, y2, y3, y4, y5, y6, y7, ybl⟩ := HRA.out.bel HBW.out
            obtain ⟨z0, z1, z2, z3, z4, z5, z6, z7, zbl⟩ := HRB.out.bel HBW.out
            go_wp2_with fail
            go_loopg [5] e.kids.length (fun g i wr => ∃ j : Nat, j ≤ e.kids.length ∧ g = e.kids.length - j ∧ i = .int .i64 j ∧ Below w2.heap.size w2 wr ∧ ∀ (i : Nat) (x y : Ex), i < j → e.kids[i]? = some x → f.kids[i]? = some y → Ex.same x y = true)
            case atStart => exact ⟨0, Nat.zero_le _, rfl, rfl, HBW.out, fun i x y hi => absurd hi (Nat.not_lt_zero _)⟩
            case round =>
              obtain ⟨j, hj, rfl, rfl, hb, hall⟩ := hrel
              have HBW := Lib.hid hb
              have HAL := Lib.hid hall
              clear hb hall
              obtain ⟨y0, y1, y2, y3, y4, y5, y6, y7, ybl⟩ := HRA.out.bel HBW.out
              obtain ⟨z0, z1, z2, z3, z4, z5, z6, z7, zbl⟩ := HRB.out.bel HBW.out
              by_cases hlt : j < e.kids.length
              · obtain ⟨x, hx⟩ : ∃ x, e.kids[j]? = some x := ⟨_, List.getElem?_eq_getElem hlt⟩
                obtain ⟨y, hy⟩ : ∃ y, f.kids[j]? = some y := ⟨_, List.getElem?_eq_getElem (by have := HLEN.out; omega)⟩
                have HX := Lib.hid hx
                have HY := Lib.hid hy
                have HDR : Hid (Below w2.heap.size w2 wr.drew) := HBW.out.drew
                obtain ⟨kb, koff, na2, nc2, da2, dn2, dc2, ya2, yc2, hk⟩ := (HA.out.bel HDR.out).kid hx
                obtain ⟨kb3, koff3, na3, nc3, da3, dn3, dc3, ya3, yc3, hk3⟩ := (HBO.out.bel HDR.out).kid hy
                have HC := Lib.hid (HIH.out x (List.mem_of_getElem? hx) y (HFE.out.kid (List.mem_of_getElem? hx)) (HFF.out.kid (List.mem_of_getElem? hy)) hk.op hk3.op)
                obtain ⟨e1, hkb, ⟨g1, g2⟩, _, c0, c1, c2, c3, c4, c5, c6, c7⟩ := hk
                obtain ⟨e3, hkb3, ⟨g3, g4⟩, _, d0, d1, d2, d3, d4, d5, d6, d7⟩ := hk3
                subst e1 e3
                have gw : IntKind.i64.wrap ((j : Int) + 1) = ((j + 1 : Nat) : Int) := by rw [IntKind.wrap_i64]; omega
                clear hx hy
                change wr.cell? _ = _ at c0 c1 c2 c3 c4 c5 c6 c7 d0 d1 d2 d3 d4 d5 d6 d7
                go_upto_region 6 with fail
                go_still_tail 10, (by kernel_rfl)
                show wpList _ _ _ _ _ _
                go_wp2_with fail
                with_reducible refine HC.out.mono ?_
                rintro e2 w5 ⟨rfl, hb5⟩
                have HB5 : Hid (Below w2.heap.size w2 w5) := HDR.out.trans (hb5.mono HDR.out.size)
                clear hb5
                cases hsm : Ex.same x y with
                | false =>
                  have HH : Hid (Ex.same e f = false) := by
                    unfold Hid
                    rw [HALL.out, Bool.eq_false_iff]
                    intro h
                    rw [((Ex.sames_iff _ _).1 h).2 j x y HX.out HY.out] at hsm
                    cases hsm
                  clear hsm
                  go_wp2_with fail
                  go_ret
                  exact ⟨by rw [HH.out]; rfl, HB.out.trans (HB5.out.mono HB.out.size)⟩
                | true =>
                  have HSM := Lib.hid hsm
                  clear hsm
                  go_wp2_with fail
                  go_roundg (e.kids.length - (j + 1))
                  case measure => omega
                  case rel =>
                    refine ⟨j + 1, by omega, rfl, by go_num, HB5.out, fun i x' y' hi hx hy => ?_⟩
                    by_cases hij : i = j
                    · subst hij
                      rw [HX.out] at hx
                      rw [HY.out] at hy
                      cases hx
                      cases hy
                      exact HSM.out
                    · exact HAL.out i x' y' (by omega) hx hy
              · have hje : j = e.kids.length := by omega
                have HH : Hid (Ex.same e f = true) := by
                  unfold Hid
                  rw [HALL.out, Ex.sames_iff]
                  exact ⟨HLEN.out, fun i x y hx hy => HAL.out i x y (by have := (List.getElem?_eq_some_iff.1 hx).1; omega) hx hy⟩
                have hge : (e.kids.length : Int) ≤ j := by omega
                clear hje
                go_wp2_with fail
                go_ret
                exact ⟨by rw [HH.out]; rfl, HB.out.trans (HBW.out.mono HB.out.size)⟩
          · have k4 : ((e.kids.length : Int) != (f.kids.length : Int)) = true := by rw [bne_iff_ne]; omega
            have HH : Hid (Ex.same e f = false) := by
              unfold Hid
              rw [HALL.out, Bool.eq_false_iff]
              intro h
              exact hlen ((Ex.sames_iff _ _).1 h).1
            clear hlen
            go_enter Tryz.func14, Tryz.ntmps14
            go_upto_region 1 with fail
            rw [← HB1.out.eq, ← HB2.out.eq]
            go_wp2_with fail
            with_reducible refine (HST.out _ HBW.out).mono ?_
            rintro e2 w3 ⟨rfl, hb2⟩
            have HBW : Hid (Below w2.heap.size w2 w3) := HBW.out.trans (hb2.mono HBW.out.size)
            clear hb2
            obtain ⟨y0, y1, y2, y3, y4, y5, y6, y7, ybl⟩ := HRA.out.bel HBW.out
            obtain ⟨z0, z1, z2, z3, z4, z5, z6, z7, zbl⟩ := HRB.out.bel HBW.out
            go_wp2_with fail
            with_reducible refine (HSC.out _ HBW.out).mono ?_
            rintro e2 w4 ⟨rfl, hb2⟩
            have HBW : Hid (Below w2.heap.size w2 w4) := HBW.out.trans (hb2.mono HBW.out.size)
            clear hb2
            obtain ⟨y0, y1, y2, y3, y4, y5, y6, y7, ybl⟩ := HRA.out.bel HBW.out
            obtain ⟨z0, z1, z2, z3, z4, z5, z6, z7, zbl⟩ := HRB.out.bel HBW.out
            go_wp2_with fail
            go_ret
            exact ⟨by rw [HH.out]; rfl, HB.out.trans (HBW.out.mono HB.out.size)⟩
    · have k2 : (e.name.toList != f.name.toList) = true := by rw [bne_iff_ne]; exact fun h => hn (toList_inj' h)
      have k3 : (e.name.toList == f.name.toList) = false := beq_eq_false_iff_ne.2 fun h => hn (toList_inj' h)
      have HH : Hid (Ex.same e f = false) := by unfold Hid; rw [Ex.same_iff]; rw [decide_eq_false hn]; simp
      clear hn
      go_enter Tryz.func14, Tryz.ntmps14
      go_upto_region 1 with fail
      rw [← HB1.out.eq, ← HB2.out.eq]
      go_wp2_with fail
      go_ret
      exact ⟨by rw [HH.out]; rfl, HB.out.trans (HBW.out.mono HB.out.size)⟩
  · have k1 : (e.kind != f.kind) = true := by rw [bne_iff_ne]; exact hk
    have HH : Hid (Ex.same e f = false) := by unfold Hid; rw [Ex.same_iff]; rw [decide_eq_false hk]; simp
    clear hk
    go_enter Tryz.func14, Tryz.ntmps14
    go_upto_region 1 with fail
    rw [← HB1.out.eq, ← HB2.out.eq]
    go_wp2_with fail
    go_ret
    exact ⟨by rw [HH.out]; rfl, HB.out.trans (HBW.out.mono HB.out.size)⟩
end Ew
end Go.Proofs.YtkplkgdfphbldaaGreat
namespace Go.Proofs.YtkplkgdfphbldaaGreat
open Go.RowKit
set_option linter.unusedVariables false
set_option linter.unusedSimpArgs false
set_option maxRecDepth 100000
namespace Ew
open Rn
set_option maxHeartbeats 8000000 in
theorem rsize_any (e : Ex) : ∀ {w : World} {na : Option Addr} {nc : Nat} {da : Option Addr} {dn dc : Nat} {ka : Option Addr} {kc : Nat}, e.size ≤ 100000 → Op w e na nc da dn dc ka kc →
    Calls Tryz.prog 49 #[.agg #[.int .i64 e.kind, .string e.name, .slice na e.names.length nc, .int .i64 e.const.kind, .int .i64 e.const.int, .string e.const.text, .slice da dn dc, .slice ka e.kids.length kc]] w (Says (.int .i64 e.size) w) := by
  induction e using Ex.byKids with
  | h e ih =>
  intro w na nc da dn dc ka kc hsz ho
  obtain ⟨w1, B1⟩ := boxed w #[.int .i64 e.kind, .string e.name, .slice na e.names.length nc, .int .i64 e.const.kind, .int .i64 e.const.int, .string e.const.text, .slice da dn dc, .slice ka e.kids.length kc] 28
  have hR := Row.of B1.blk
  have HO := Lib.hid (ho.bel B1.below)
  have HB := Lib.hid B1
  have HR := Lib.hid hR
  have HIH := Lib.hid ih
  clear ih
  have hl : e.kids.length ≤ 100000 := by have := Ex.sizes_len e.kids; have := Ex.size_eq e; omega
  have HSZ := Lib.hid hsz
  obtain ⟨x0, x1, x2, x3, x4, x5, x6, x7, hbl⟩ := hR
  clear B1 ho hsz
  go_enter Tryz.func49, Tryz.ntmps49
  go_upto_region 1 with fail
  rw [← HB.out.eq]
  go_wp2_with fail
  go_loopg [3, 4] e.kids.length (fun g n i wr => ∃ j : Nat, j ≤ e.kids.length ∧ g = e.kids.length - j ∧ i = .int .i64 j ∧ n = .int .i64 ((Ex.sizes (e.kids.take j) + 1 : Nat) : Int) ∧ Below w1.heap.size w1 wr)
  case atStart => exact ⟨0, Nat.zero_le _, rfl, rfl, rfl, Below.refl _ _⟩
  case round =>
    obtain ⟨j, hj, rfl, rfl, rfl, hb⟩ := hrel
    have HB2 := Lib.hid hb
    obtain ⟨y0, _, _, _, _, _, _, y7, ybl⟩ := HR.out.bel hb
    clear hb
    obtain ⟨S, hS⟩ : ∃ S, S = Ex.sizes (e.kids.take j) + 1 := ⟨_, rfl⟩
    rw [← hS]
    by_cases hlt : j < e.kids.length
    · obtain ⟨x, hx⟩ : ∃ x, e.kids[j]? = some x := ⟨_, List.getElem?_eq_getElem hlt⟩
      have hxm := List.mem_of_getElem? hx
      have HSX := Ex.size_mem _ _ hxm
      have HSE := Ex.size_eq e
      obtain ⟨kb, koff, na2, nc2, da2, dn2, dc2, ya2, yc2, hk⟩ := (HO.out.bel HB2.out).kid hx
      have HKO := Lib.hid hk.op
      have HXS : Hid (x.size ≤ 100000) := by have := HSZ.out; unfold Hid; omega
      have HX := Lib.hid hx
      have HXM := Lib.hid hxm
      obtain ⟨rfl, hkb, ⟨g1, g2⟩, _, c0, c1, c2, c3, c4, c5, c6, c7⟩ := hk
      have gw : IntKind.i64.wrap ((j : Int) + 1) = ((j + 1 : Nat) : Int) := by rw [IntKind.wrap_i64]; omega
      clear hx hxm HSX HSE
      have HC := Lib.hid (HIH.out x HXM.out HXS.out HKO.out)
      have hS2 : S + x.size = Ex.sizes (e.kids.take (j + 1)) + 1 := by
        rw [hS, List.take_add_one, HX.out, Ex.sizes_app]
        show _ = Ex.sizes (e.kids.take j) + (x.size + 0) + 1
        omega
      have hS3 : S ≤ 100000 := by
        have h1 := HSZ.out
        have h2 := Ex.size_eq e
        have h3 : Ex.sizes (e.kids.take j) + Ex.sizes (e.kids.drop j) = Ex.sizes e.kids := by rw [← Ex.sizes_app, List.take_append_drop]
        omega
      have gs : IntKind.i64.wrap ((S : Int) + (x.size : Int)) = (S : Int) + (x.size : Int) := by have := HXS.out; rw [IntKind.wrap_i64]; omega
      have HS2 : Hid ((S : Int) + (x.size : Int) = ((Ex.sizes (e.kids.take (j + 1)) + 1 : Nat) : Int)) := by unfold Hid; omega
      clear hS hS2
      go_wp2_with fail
      with_reducible refine HC.out.mono ?_
      rintro e2 w2 ⟨rfl, hb2⟩
      have HB3 : Hid (Below w1.heap.size w1 w2) := HB2.out.trans (hb2.mono HB2.out.size)
      clear hb2
      go_wp2_with fail
      go_roundg (e.kids.length - (j + 1))
      case measure => omega
      case rel => exact ⟨j + 1, by omega, rfl, by go_num, by rw [HS2.out], HB3.out⟩
    · have hje : j = e.kids.length := by omega
      have HE : Hid ((S : Int) = (e.size : Int)) := by
        have := Ex.size_eq e
        rw [hje, List.take_length] at hS
        unfold Hid
        omega
      have hge : (e.kids.length : Int) ≤ j := by omega
      clear hS
      go_wp2_with fail
      go_ret
      exact ⟨by rw [← HE.out]; rfl, HB.out.below.trans (HB2.out.mono HB.out.below.size)⟩
theorem deeps_app : ∀ l r : List Ex, Ex.deeps (l ++ r) = max (Ex.deeps l) (Ex.deeps r)
  | [], r => by simp [Ex.deeps]
  | x :: l, r => by
    show max x.deep (Ex.deeps (l ++ r)) = max (max x.deep (Ex.deeps l)) (Ex.deeps r)
    rw [deeps_app l r]
    omega
theorem deeps_le_sizes (e : Ex) : e.deep ≤ e.size := by
  induction e using Ex.byKids with
  | h e ih =>
    rw [Ex.deep_eq, Ex.size_eq]
    have : Ex.deeps e.kids ≤ Ex.sizes e.kids := Ex.deeps_le fun x hx => Nat.le_trans (ih x hx) (Ex.size_mem _ _ hx)
    omega
set_option maxHeartbeats 8000000 in
theorem rdeep_any (e : Ex) : ∀ {w : World} {na : Option Addr} {nc : Nat} {da : Option Addr} {dn dc : Nat} {ka : Option Addr} {kc : Nat}, e.size ≤ 100000 → Op w e na nc da dn dc ka kc →
    Calls Tryz.prog 50 #[.agg #[.int .i64 e.kind, .string e.name, .slice na e.names.length nc, .int .i64 e.const.kind, .int .i64 e.const.int, .string e.const.text, .slice da dn dc, .slice ka e.kids.length kc]] w (Says (.int .i64 e.deep) w) := by
  induction e using Ex.byKids with
  | h e ih =>
  intro w na nc da dn dc ka kc hsz ho
  obtain ⟨w1, B1⟩ := boxed w #[.int .i64 e.kind, .string e.name, .slice na e.names.length nc, .int .i64 e.const.kind, .int .i64 e.const.int, .string e.const.text, .slice da dn dc, .slice ka e.kids.length kc] 28
  have hR := Row.of B1.blk
  have HO := Lib.hid (ho.bel B1.below)
  have HB := Lib.hid B1
  have HR := Lib.hid hR
  have HIH := Lib.hid ih
  clear ih
  have hl : e.kids.length ≤ 100000 := by have := Ex.sizes_len e.kids; have := Ex.size_eq e; omega
  have HSZ := Lib.hid hsz
  obtain ⟨x0, x1, x2, x3, x4, x5, x6, x7, hbl⟩ := hR
  clear B1 ho hsz
  go_enter Tryz.func50, Tryz.ntmps50
  go_upto_region 1 with fail
  rw [← HB.out.eq]
  go_wp2_with fail
  go_loopg [3, 4] e.kids.length (fun g n i wr => ∃ j : Nat, j ≤ e.kids.length ∧ g = e.kids.length - j ∧ i = .int .i64 j ∧ n = .int .i64 ((Ex.deeps (e.kids.take j) : Nat) : Int) ∧ Below w1.heap.size w1 wr)
  case atStart => exact ⟨0, Nat.zero_le _, rfl, rfl, rfl, Below.refl _ _⟩
  case round =>
    obtain ⟨j, hj, rfl, rfl, rfl, hb⟩ := hrel
    have HB2 := Lib.hid hb
    obtain ⟨y0, _, _, _, _, _, _, y7, ybl⟩ := HR.out.bel hb
    clear hb
    obtain ⟨S, hS⟩ : ∃ S, S = Ex.deeps (e.kids.take j) := ⟨_, rfl⟩
    rw [← hS]
    by_cases hlt : j < e.kids.length
    · obtain ⟨x, hx⟩ : ∃ x, e.kids[j]? = some x := ⟨_, List.getElem?_eq_getElem hlt⟩
      have hxm := List.mem_of_getElem? hx
      have HSX := Ex.size_mem _ _ hxm
      have HSE := Ex.size_eq e
      obtain ⟨kb, koff, na2, nc2, da2, dn2, dc2, ya2, yc2, hk⟩ := (HO.out.bel HB2.out).kid hx
      have HKO := Lib.hid hk.op
      have HXS : Hid (x.size ≤ 100000) := by have := HSZ.out; unfold Hid; omega
      have HX := Lib.hid hx
      have HXM := Lib.hid hxm
      obtain ⟨rfl, hkb, ⟨g1, g2⟩, _, c0, c1, c2, c3, c4, c5, c6, c7⟩ := hk
      have gw : IntKind.i64.wrap ((j : Int) + 1) = ((j + 1 : Nat) : Int) := by rw [IntKind.wrap_i64]; omega
      clear hx hxm HSX HSE
      have HC := Lib.hid (HIH.out x HXM.out HXS.out HKO.out)
      have hS2 : max S x.deep = Ex.deeps (e.kids.take (j + 1)) := by
        rw [hS, List.take_add_one, HX.out, deeps_app]
        show _ = max (Ex.deeps (e.kids.take j)) (max x.deep 0)
        omega
      have HS2 : Hid (max (S : Int) (x.deep : Int) = ((Ex.deeps (e.kids.take (j + 1)) : Nat) : Int)) := by unfold Hid; omega
      clear hS hS2
      go_wp2_with fail
      with_reducible refine HC.out.mono ?_
      rintro e2 w2 ⟨rfl, hb2⟩
      have HB3 : Hid (Below w1.heap.size w1 w2) := HB2.out.trans (hb2.mono HB2.out.size)
      clear hb2
      go_wp2_with fail
      go_roundg (e.kids.length - (j + 1))
      case measure => omega
      case rel => exact ⟨j + 1, by omega, rfl, by go_num, by rw [← HS2.out], HB3.out⟩
    · have hje : j = e.kids.length := by omega
      have HE : Hid ((S : Int) + 1 = (e.deep : Int)) := by
        have := Ex.deep_eq e
        rw [hje, List.take_length] at hS
        unfold Hid
        omega
      have hS3 : S ≤ 100000 := by
        have := deeps_le_sizes e
        have := HSZ.out
        have := HE.out
        omega
      have gs : IntKind.i64.wrap ((S : Int) + 1) = (S : Int) + 1 := by rw [IntKind.wrap_i64]; omega
      have hge : (e.kids.length : Int) ≤ j := by omega
      clear hS
      go_wp2_with fail
      go_ret
      exact ⟨by rw [← HE.out]; rfl, HB.out.below.trans (HB2.out.mono HB.out.below.size)⟩
set_option maxHeartbeats 8000000 in
theorem rsmall_any (e : Ex) : ∀ {w : World} {na : Option Addr} {nc : Nat} {da : Option Addr} {dn dc : Nat} {ka : Option Addr} {kc : Nat}, e.size ≤ 100000 → Op w e na nc da dn dc ka kc →
    Calls Tryz.prog 28 #[.agg #[.int .i64 e.kind, .string e.name, .slice na e.names.length nc, .int .i64 e.const.kind, .int .i64 e.const.int, .string e.const.text, .slice da dn dc, .slice ka e.kids.length kc]] w (Says (.bool (decide (e.size ≤ 400) && decide (e.deep ≤ 25))) w) := by
  intro w na nc da dn dc ka kc hsz ho
  obtain ⟨w1, B1⟩ := boxed w #[.int .i64 e.kind, .string e.name, .slice na e.names.length nc, .int .i64 e.const.kind, .int .i64 e.const.int, .string e.const.text, .slice da dn dc, .slice ka e.kids.length kc] 28
  have hR := Row.of B1.blk
  have HO := Lib.hid (ho.bel B1.below)
  have HB := Lib.hid B1
  have HR := Lib.hid hR
  have hl : e.kids.length ≤ 100000 := by have := Ex.sizes_len e.kids; have := Ex.size_eq e; omega
  have HSZ := Lib.hid hsz
  obtain ⟨x0, x1, x2, x3, x4, x5, x6, x7, hbl⟩ := hR
  clear B1 ho hsz
  have HC1 := Lib.hid (rsize_any e HSZ.out HO.out)
  by_cases hs : e.size ≤ 400
  · have k1 : decide ((e.size : Int) ≤ 400) = true := by rw [decide_eq_true_eq]; omega
    have HS1 : Hid (decide (e.size ≤ 400) = true) := by unfold Hid; simp; omega
    clear hs
    go_enter Tryz.func28, Tryz.ntmps28
    go_upto_region 1 with fail
    rw [← HB.out.eq]
    go_wp2_with fail
    with_reducible refine HC1.out.mono ?_
    rintro e2 w2 ⟨rfl, hb2⟩
    have HB2 := Lib.hid hb2
    obtain ⟨y0, y1, y2, y3, y4, y5, y6, y7, ybl⟩ := HR.out.bel hb2
    clear hb2
    go_wp2_with fail
    with_reducible refine (rdeep_any e HSZ.out (HO.out.bel HB2.out)).mono ?_
    rintro e2 w3 ⟨rfl, hb3⟩
    have HB3 := Lib.hid hb3
    clear hb3
    go_wp2_with fail
    go_ret
    refine ⟨?_, HB.out.below.trans ((HB2.out.trans (HB3.out.mono HB2.out.size)).mono HB.out.below.size)⟩
    rw [HS1.out]
    show Ending.returned (.bool (decide ((e.deep : Int) ≤ 25))) = _
    congr 2
    simp
    omega
  · have k1 : decide ((e.size : Int) ≤ 400) = false := by rw [decide_eq_false_iff_not]; omega
    have HS1 : Hid (decide (e.size ≤ 400) = false) := by unfold Hid; simp; omega
    clear hs
    go_enter Tryz.func28, Tryz.ntmps28
    go_upto_region 1 with fail
    rw [← HB.out.eq]
    go_wp2_with fail
    with_reducible refine HC1.out.mono ?_
    rintro e2 w2 ⟨rfl, hb2⟩
    have HB2 := Lib.hid hb2
    clear hb2
    go_wp2_with fail
    go_ret
    exact ⟨by rw [HS1.out]; rfl, HB.out.below.trans (HB2.out.mono HB.out.below.size)⟩
end Ew
end Go.Proofs.YtkplkgdfphbldaaGreat
namespace Go.Proofs.YtkplkgdfphbldaaGreat
open Go.RowKit
set_option linter.unusedVariables false
set_option linter.unusedSimpArgs false
namespace Rn
section
variable {w0 w w' W wr : World} {ρ ρ' ρj : Nat → Nat} {m most : Nat} {s s' : St} {q q' qj : Wh}
theorem RowR.own {r ty size n : Nat} {v : Value} {xs : List Value} (h : RowR w ρ r ty size n v xs) : w.ownsRow 0 ty size v n xs := h.1
structure At (w0 W : World) (ρ : Nat → Nat) (m most : Nat) (E : Nat) (s : St) (wr : World) (ρj : Nat → Nat) (qj : Wh) : Prop where
  o : RnO w0 wr ρj m most s qj
  mv : Mv W ρ wr ρj
theorem At.blk {E : Nat} {cs : Array Value} {t : TypeId} (H : At w0 W ρ m most E s wr ρj qj) (hE : W.heap[E]? = some (.cells cs t (0, 0))) (h0 : ρ E = 0) : wr.heap[E]? = some (.cells cs t (0, 0)) :=
  (H.mv.keep E (Array.getElem?_eq_some_iff.1 hE).1 (.inl h0)).1.trans hE
theorem At.step {E : Nat} {w1 : World} {ρ1 : Nat → Nat} {q1 : Wh} (H : At w0 W ρ m most E s wr ρj qj) (h1 : RnO w0 w1 ρ1 m most s' q1) (m1 : Mv wr ρj w1 ρ1) : At w0 W ρ m most E s' w1 ρ1 q1 := ⟨h1, H.mv.trans m1⟩
structure Un (w0 W : World) (ρ : Nat → Nat) (m most : Nat) (E : Nat) (s : St) (q : Wh) (j : Nat) (wr : World) (nv : Value) : Prop where
  a : At w0 W ρ m most E s wr ρ q
  row : wr.ownsRow W.heap.size 78 3 nv j (Hp.flatV (List.replicate j unset))
theorem replicate_snoc (j : Nat) : List.replicate (j + 1) unset = List.replicate j unset ++ [unset] := by rw [List.replicate_succ', ]
theorem Un.next {E : Nat} {j : Nat} {nv : Value} {g cap : Nat} (H : Un w0 W ρ m most E s q j wr nv) (hW : RnO w0 W ρ m most s q) {wa w2 : World} (hb : Below wr.heap.size wr wa)
    (hown : w2.ownsRow W.heap.size 78 3 (.slice (some ⟨g, 0, none⟩) (j + 1) cap) (j + 1) (Hp.flatV (List.replicate j unset) ++ [.int .i64 7, .int .i64 0, .string ⟨#[]⟩])) (hg : wa.grownBy w2 nv.ownBlock) :
    Un w0 W ρ m most E s q (j + 1) w2 (.slice (some ⟨g, 0, none⟩) (j + 1) cap) := by
  have hO : ∀ b, nv.ownBlock = some b → ρ b = 0 ∧ w0.heap.size ≤ b := fun b e => ⟨hW.c.new (H.row.lt b e).1, Nat.le_trans hW.c.below.size (H.row.lt b e).1⟩
  refine ⟨⟨(H.a.o.bel hb).grow0 hg hO, (H.a.mv.bel hb).grow0 hg fun b e => (H.row.lt b e).1⟩, ?_⟩
  rw [replicate_snoc, Hp.flatV_append]
  exact hown
theorem Un.first {E : Nat} (hW : RnO w0 W ρ m most s q) : Un w0 W ρ m most E s q 0 (W.alloc (.cells #[] 78)) (.slice (some ⟨W.heap.size, 0, none⟩) 0 0) :=
  ⟨⟨hW.alloc _, mv_bel ((Below.refl _ _).alloc (Nat.le_refl _) _) ρ⟩, zero_row W _ 3⟩
end
end Rn
end Go.Proofs.YtkplkgdfphbldaaGreat
namespace Go.Proofs.YtkplkgdfphbldaaGreat
open Go.RowKit
set_option linter.unusedVariables false
set_option linter.unusedSimpArgs false
namespace Rn
section
variable {w0 w w' W wr : World} {ρ ρ' ρj : Nat → Nat} {m most : Nat} {s s' : St} {q q' qj : Wh}
theorem RnC.old (h : RnC w0 w ρ m s q) {b : Nat} (hb : b < w0.heap.size) : ρ b = 0 := by
  rcases Nat.eq_zero_or_pos (ρ b) with e | e
  · exact e
  · have := (h.lo b (by omega)).1
    omega
theorem Mv.cell {b i : Nat} (hm : Mv w ρ w' ρ') (hb : b < w.heap.size) (h0 : ρ b = 0) : w'.cell? ⟨b, i, none⟩ = w.cell? ⟨b, i, none⟩ := World.cell?_of_block (a := ⟨b, i, none⟩) (hm.keep b hb (.inl h0)).1
structure Fd (w0 W : World) (ρ : Nat → Nat) (m most : Nat) (s : St) (q : Wh) (P V : Nat) (v : Hp.V) (j : Nat) (wr : World) (x : PM) : Prop where
  a : At w0 W ρ m most P s wr ρ q
  pc : wr.heap[P]? = some (.cells #[.int .i64 x.p.thing, .int .i64 x.p.lam.kind, .string x.p.lam.name, x.nv, .int .i64 x.p.lam.const.kind, .int .i64 x.p.lam.const.int, .string x.p.lam.const.text, x.dl, x.kv, x.ev, .bool x.p.kont, x.tv, x.vv] 119 (0, 0))
  vc : wr.heap[V]? = some (.cells #[.int .i64 v.kind, .int .i64 v.int, .string v.text] 78 (0, 0))
  f : x.p = findF (s.procs.take j) v.int
  ok : PMOk w0 wr ρ x
def sets (w : World) (P : Nat) : Nat → List Value → World
  | _, [] => w
  | i, v :: l => sets (w.setCell ⟨P, i, none⟩ v) P (i + 1) l
theorem Fd.bel {P V : Nat} {v : Hp.V} {j : Nat} {x : PM} (H : Fd w0 W ρ m most s q P V v j wr x) (hb : Below wr.heap.size wr w') : Fd w0 W ρ m most s q P V v j w' x :=
  ⟨⟨H.a.o.bel hb, H.a.mv.bel hb⟩, (hb.block _ (Array.getElem?_eq_some_iff.1 H.pc).1).trans H.pc, (hb.block _ (Array.getElem?_eq_some_iff.1 H.vc).1).trans H.vc, H.f, H.ok.mv (mv_bel hb ρ)⟩
end
end Rn
end Go.Proofs.YtkplkgdfphbldaaGreat
namespace Go.Proofs.YtkplkgdfphbldaaGreat
open Go.RowKit
set_option linter.unusedVariables false
set_option linter.unusedSimpArgs false
namespace Rn
section
variable {w0 w w' W wr : World} {ρ ρ' ρj : Nat → Nat} {m most : Nat} {s s' : St} {q q' qj : Wh}
structure Pm (w0 w w2 : World) (ρ : Nat → Nat) (m most : Nat) (s : St) (q : Wh) : Prop where
  o : RnO w0 w2 ρ m most s q
  mv : Mv w ρ w2 ρ
  res : w2.heap[w.heap.size]? = some (.cells #[.int .i64 5, .int .i64 0, .string ⟨#[]⟩] 78 (0, 0))
  eq : w2 = w.alloc (.cells #[.int .i64 5, .int .i64 0, .string ⟨#[]⟩] 78)
  z : ρ w.heap.size = 0
theorem Pm.of (h : RnO w0 w ρ m most s q) : ∃ w2, Pm w0 w w2 ρ m most s q :=
  ⟨_, h.alloc _, mv_bel ((Below.refl _ _).alloc (Nat.le_refl _) _) ρ, heap_alloc_new _ _, rfl, h.c.new (Nat.le_refl _)⟩
theorem mv_m (h : RnO w0 w ρ m most s q) (i : Nat) (v : Value) : Mv w ρ (w.setCell ⟨m, i, none⟩ v) ρ :=
  ⟨by simp [World.setCell], fun b hb hr => ⟨heap_setCell_other _ _ _ _ (fun e => by have := h.c.me; rw [e, this] at hr; omega), rfl⟩⟩
theorem few_ne {T : List Hp.Th} {p : ByteArray} {l : List Hp.V} (hok : Hp.fewOk T p l = true) :
    (p.toList == [114, 101, 97, 100, 45, 117, 56]) = false ∧ (p.toList == [119, 114, 105, 116, 101, 45, 117, 56]) = false ∧ (p.toList == [101, 114, 114, 111, 114]) = false ∧ (p.toList == [37, 119, 105, 110, 100, 101, 114, 115]) = false ∧ (p.toList == [37, 119, 105, 110, 100, 33]) = false ∧ (p.toList == [37, 99, 97, 108, 108, 99, 99]) = false := by
  unfold Hp.fewOk at hok
  simp only [Bool.and_eq_true] at hok
  rcases Hp.few_of hok.1.1 with ⟨rfl, _⟩ | ⟨rfl, _⟩ | ⟨rfl, _⟩ <;> exact ⟨by kernel_rfl, by kernel_rfl, by kernel_rfl, by kernel_rfl, by kernel_rfl, by kernel_rfl⟩
set_option maxHeartbeats 8000000 in
set_option maxRecDepth 100000 in
theorem prim_do (h : RnO w0 w ρ m most s q) (p : ByteArray) (args : List Hp.V) (av : Value) (hv : VR w ρ av args) (hok : Hp.fewOk s.T p args = true)
    (hal : args.length ≤ 1000000) (ht : ∀ v ∈ args, v.text.size ≤ maxLen) (hT : s.T.length ≤ 1000000) (hF : Hp.FewP s.T) (hvl : s.vals.length ≤ 10000000) :
    Calls Tryz.prog 73 #[.pointer (some ⟨m, 0, none⟩), .string p, av] w (RnPost w0 ρ m most (({ s with T := (Hp.doF s.T p args).2.2, err := (Hp.doF s.T p args).2.1 } : St).tell (Hp.doF s.T p args).1) w) := by
  obtain ⟨b1, b2, b3, b4, b5, b6⟩ := few_ne hok
  obtain ⟨w2, P⟩ := Pm.of h
  have hm := h.lt
  have hv2 := hv.mv P.mv
  obtain ⟨aa, ac, rfl⟩ := hv.sl.len
  have c0 : w2.cell? ⟨m, 0, none⟩ = some (.pointer (some ⟨q.h, 0, none⟩)) := P.o.cell 0
  have hm2 := P.o.lt
  have HD := Lib.hid (rdo_few q.h (fun b => ρ b = 5) s.T p (.slice aa args.length ac) args w2 P.o.c.heap hv2.sl ht hT hF hok)
  generalize hr : Hp.doF s.T p args = r at HD
  obtain ⟨rv, re, rT⟩ := r
  have HP := Lib.hid P
  clear h P hv hv2 hok hr
  unfold RnPost
  go_enter Tryz.func73, Tryz.ntmps73
  go_upto_region 1 with fail
  rw [← HP.out.eq]
  go_wp2_with fail
  with_reducible refine HD.out.mono ?_
  rintro e w3 ⟨O', rfl, hT3, hG3⟩
  obtain ⟨ρ3, o3, m3⟩ := HP.out.o.call hG3 hT3
  have c12 : w3.cell? ⟨m, 12, none⟩ = some (.int .i64 s.err) := o3.cell 12
  have f12 := o3.fz 12
  have hm3 := o3.lt
  have HO3 := Lib.hid ((o3.set 12 (.int .i64 re) (s' := { s with T := rT, err := re }) rfl rfl rfl rfl rfl rfl rfl).alloc (.cells #[.int .i64 rv.kind, .int .i64 rv.int, .string rv.text] 78))
  have HM3 := Lib.hid (((HP.out.mv.trans m3).trans (mv_m o3 12 (.int .i64 re))).trans (mv_bel ((Below.refl _ (w3.setCell ⟨m, 12, none⟩ (.int .i64 re))).alloc (Nat.le_refl _) (.cells #[.int .i64 rv.kind, .int .i64 rv.int, .string rv.text] 78)) ρ3))
  unfold Hp.V.val
  clear hT3 hG3 o3 m3
  go_wp2_with fail
  with_reducible refine (tell_any HO3.out rv hvl).mono ?_
  rintro e w6 ⟨rfl, ρ6, q6, o6, m6⟩
  have HO6 := Lib.hid o6
  have HM6 := Lib.hid (HM3.out.trans m6)
  clear o6 m6
  go_wp2_with fail
  go_end0
  exact ⟨rfl, ρ6, q6, HO6.out, HM6.out⟩
end
end Rn
end Go.Proofs.YtkplkgdfphbldaaGreat
namespace Go.Proofs.YtkplkgdfphbldaaGreat
open Go.RowKit
set_option linter.unusedVariables false
set_option linter.unusedSimpArgs false
namespace Rn
section
variable {w0 w w' W wr : World} {ρ ρ' ρj : Nat → Nat} {m most : Nat} {s s' : St} {q q' qj : Wh}
theorem prim_any (h : RnO w0 w ρ m most s q) (p : ByteArray) (args : List Hp.V) (av : Value) (hv : VR w ρ av args) (hp : prim s p args = some s')
    (hal : args.length ≤ 1000000) (ht : ∀ v ∈ args, v.text.size ≤ maxLen) (hT : s.T.length ≤ 1000000) (hF : Hp.FewP s.T) (hvl : s.vals.length ≤ 10000000) (hol : s.out.length ≤ 1000000) :
    Calls Tryz.prog 73 #[.pointer (some ⟨m, 0, none⟩), .string p, av] w (RnPost w0 ρ m most s' w) := by
  unfold prim at hp
  split at hp
  · rename_i hc
    cases hp
    exact prim_do h p args av hv hc hal ht hT hF hvl
  · cases hp
end
end Rn
end Go.Proofs.YtkplkgdfphbldaaGreat
