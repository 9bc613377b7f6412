/- The reference's Do of few primitives. -/
import Derived.Deep.DeepCutAuto
import Derived.Test.YtkplkgdfphbldaaGreatHJaz
import Derived.Test.YtkplkgdfphbldaaGreatHJay
import Derived.Test.YtkplkgdfphbldaaGreatHJaw
import Derived.Test.YtkplkgdfphbldaaGreatHJax
import Derived.Test.YtkplkgdfphbldaaGreatHJaq
import Derived.Deep.AppendLies
import Derived.Test.YtkplkgdfphbldaaGreatHJan
import Derived.Test.YtkplkgdfphbldaaGreatHJaj
namespace Go.Proofs.YtkplkgdfphbldaaGreat
open Go.RowKit
open Go.Lib (hid)
set_option linter.unusedVariables false
set_option linter.unusedSimpArgs false
set_option linter.unnecessarySimpa false
set_option maxRecDepth 100000
theorem HSt.thing {w : World} {ty h : Nat} {O : Nat → Prop} {T : List Hp.Th} (H : HSt w ty h O T) {a : Hp.V} (hm : Hp.may T.length a = true) (h8 : a.kind = 8) :
  ∃ (k : Nat) (vt : Value) (M : List (Hp.Th × Value)) (m : Hp.Th × Value), a = ⟨8, k, ⟨#[]⟩⟩ ∧ HpAt w ty h O vt M ∧ M.map (·.1) = T ∧ M[k]? = some m ∧ Hp.partsOf T a = m.1.parts ∧ Hp.kindOf T a = m.1.kind := by
 obtain ⟨k, hk, rfl⟩ := Hp.may_thing' hm h8
 obtain ⟨t, ht⟩ : ∃ t, T[k]? = some t := ⟨_, List.getElem?_eq_getElem hk⟩
 obtain ⟨vt, M, HA, e⟩ := H
 have ht2 := ht
 rw [← e, List.getElem?_map] at ht2
 obtain ⟨m, hmm, rfl⟩ : ∃ m, M[k]? = some m ∧ m.1 = t := by simpa using ht2
 exact ⟨k, vt, M, m, rfl, HA, e, hmm, by simp [Hp.partsOf, ht], by simp [Hp.kindOf, ht]⟩
def Hp.FewP (T : List Hp.Th) : Prop := ∀ t ∈ T, t.parts.length ≤ 1000000
theorem Hp.FewP.of {T : List Hp.Th} (h : Hp.FewP T) (a : Hp.V) : (Hp.partsOf T a).length ≤ 1000000 := by
 unfold Hp.partsOf
 split
 ·rename_i t ht
  exact h t (List.mem_of_getElem? ht)
 ·simp
section
variable {w : World} {h : Nat} {O : Nat → Prop} {T : List Hp.Th}
theorem rget_any (H : HSt w 76 h O T) (a : Hp.V) (hm : Hp.may T.length a = true) (h8 : a.kind = 8) (hl : (Hp.partsOf T a).length ≤ 1000000) (j : Int) :
  Calls Tryz.prog 117 #[.pointer (some ⟨h, 0, none⟩), a.val, .int .i64 j] w fun e w' => e = .returned (.tuple #[(Hp.getF T a j).1.val, .int .i64 (Hp.getF T a j).2.1]) ∧ Below w.heap.size w w' := by
 obtain ⟨k, vt, M, m, rfl, HA, e, hmm, hp, hk⟩ := H.thing hm h8
 unfold Hp.getF
 rw [hp] at hl ⊢
 by_cases hj : 0 ≤ j ∧ j < (m.1.parts.length : Int)
 ·rw [if_pos hj]
  obtain ⟨i, rfl⟩ : ∃ i : Nat, j = i := ⟨j.toNat, by omega⟩
  have hx : m.1.parts[i]? = some (m.1.parts.getD i Hp.none) := getElem?_getD _ _ _ (by omega)
  exact rget_in _ i _ w HA hmm hl hx
 ·rw [if_neg hj]
  exact rget_out _ j w HA hmm hl (by omega)
theorem rput_any (H : HSt w 76 h O T) (a x : Hp.V) (hm : Hp.may T.length a = true) (h8 : a.kind = 8) (hl : (Hp.partsOf T a).length ≤ 1000000) (j : Int) :
  Calls Tryz.prog 118 #[.pointer (some ⟨h, 0, none⟩), a.val, .int .i64 j, x.val] w (DoPost 76 h O (Hp.putF T a j x).1 (Hp.putF T a j x).2.1 (Hp.putF T a j x).2.2 w) := by
 obtain ⟨k, vt, M, m, rfl, HA, e, hmm, hp, hk⟩ := H.thing hm h8
 unfold Hp.putF
 rw [hp] at hl ⊢
 rw [hk]
 by_cases hj : 0 ≤ j ∧ j < (m.1.parts.length : Int)
 ·rw [if_pos hj]
  obtain ⟨i, rfl⟩ : ∃ i : Nat, j = i := ⟨j.toNat, by omega⟩
  refine (rput_in _ i x w HA hmm hl (by omega)).mono ?_
  rintro e' w3 ⟨rfl, h2, h3⟩
  rw [e] at h2
  exact ⟨O, rfl, h2, h3⟩
 ·rw [if_neg hj]
  refine (rput_out _ j x w HA hmm hl (by omega)).mono ?_
  rintro e' w3 ⟨rfl, hb⟩
  exact DoPost.read H rfl hb
end
def sPlus : ByteArray := ⟨#[43]⟩
def Hp.FewC (p : ByteArray) (l : List Hp.V) : Prop := (p = sPlus ∧ ∃ a y, l = [a, y]) ∨ (p = Ex.sBox ∧ ∃ a, l = [a]) ∨ (p = Ex.sUnbox ∧ ∃ a, l = [a]) ∨ (p = Ex.sSetBox ∧ ∃ a y, l = [a, y])
theorem Hp.few_row {p : ByteArray} {l : List Hp.V} (hc : Hp.FewC p l) : ∃ (i : Nat) (x : Hp.Row), Hp.rat p 38 = i ∧ Hp.tab[i]? = some x ∧ x.name = p ∧ x.letters.length = l.length ∧ ∀ c ∈ x.letters, c = 46 ∨ c = 98 ∨ c = 105 := by
 rcases hc with ⟨rfl, a, y, rfl⟩ | ⟨rfl, a, rfl⟩ | ⟨rfl, a, rfl⟩ | ⟨rfl, a, y, rfl⟩
 ·exact ⟨0, _, by decide +kernel, rfl, rfl, rfl, by simp⟩
 ·exact ⟨33, _, by decide +kernel, rfl, rfl, rfl, by simp⟩
 ·exact ⟨34, _, by decide +kernel, rfl, rfl, rfl, by simp⟩
 ·exact ⟨35, _, by decide +kernel, rfl, rfl, rfl, by simp⟩
def Hp.fewB (p : ByteArray) (l : List Hp.V) : Bool := (decide (p = sPlus) && decide (l.length = 2)) || (decide (p = Ex.sBox) && decide (l.length = 1)) || (decide (p = Ex.sUnbox) && decide (l.length = 1)) || (decide (p = Ex.sSetBox) && decide (l.length = 2))
theorem Hp.len1 {l : List Hp.V} (h : l.length = 1) : ∃ a, l = [a] := List.length_eq_one_iff.1 h
theorem Hp.len2 {l : List Hp.V} (h : l.length = 2) : ∃ a y, l = [a, y] := by
 rcases l with _ | ⟨a, _ | ⟨b, _ | ⟨c, l⟩⟩⟩
 ·simp at h
 ·simp at h
 ·exact ⟨a, b, rfl⟩
 ·simp at h
theorem Hp.few_of {p : ByteArray} {l : List Hp.V} (h : Hp.fewB p l = true) : Hp.FewC p l := by
 unfold Hp.fewB at h
 simp only [Bool.or_eq_true, Bool.and_eq_true, decide_eq_true_eq] at h
 rcases h with ((⟨h1, h2⟩ | ⟨h1, h2⟩) | ⟨h1, h2⟩) | ⟨h1, h2⟩
 ·exact .inl ⟨h1, Hp.len2 h2⟩
 ·exact .inr (.inl ⟨h1, Hp.len1 h2⟩)
 ·exact .inr (.inr (.inl ⟨h1, Hp.len1 h2⟩))
 ·exact .inr (.inr (.inr (⟨h1, Hp.len2 h2⟩)))
def Hp.fewOk (T : List Hp.Th) (p : ByteArray) (l : List Hp.V) : Bool := Hp.fewB p l && l.all (Hp.may T.length) && match Hp.tab[(Hp.rat p 38).toNat]? with
 | some x => Hp.allOk T l x.letters
 | Option.none => false
theorem Hp.few_thing {T : List Hp.Th} {p : ByteArray} {l : List Hp.V} (hok : Hp.fewOk T p l = true) (hp : p = Ex.sUnbox ∨ p = Ex.sSetBox) (a : Hp.V) (ha : l[0]? = some a) : a.kind = 8 := by
 unfold Hp.fewOk at hok
 simp only [Bool.and_eq_true] at hok
 obtain ⟨⟨hb, hmy⟩, hao⟩ := hok
 have h3 : Hp.kindOf T a = 3 := by
  rcases Hp.few_of hb with ⟨rfl, b, y, rfl⟩ | ⟨rfl, b, rfl⟩ | ⟨rfl, b, rfl⟩ | ⟨rfl, b, y, rfl⟩
  ·exact absurd hp (by decide +kernel)
  ·exact absurd hp (by decide +kernel)
  ·obtain rfl : b = a := by simpa using ha
   rw [show Hp.rat Ex.sUnbox 38 = 34 by decide +kernel] at hao
   have h : Hp.allOk T [b] [98] = true := hao
   simpa [Hp.allOk, Hp.okAt, Hp.isL] using h
  ·obtain rfl : b = a := by simpa using ha
   rw [show Hp.rat Ex.sSetBox 38 = 35 by decide +kernel] at hao
   have h : Hp.allOk T [b, y] [98, 46] = true := hao
   simpa [Hp.allOk, Hp.okAt, Hp.isL] using h
 by_cases h8 : a.kind = 8
 ·exact h8
 ·unfold Hp.kindOf at h3
  rw [if_neg h8] at h3
  cases h3
theorem Hp.few_num {T : List Hp.Th} {p : ByteArray} {l : List Hp.V} (hok : Hp.fewOk T p l = true) (hp : p = sPlus) : ∀ v ∈ l, isN v.int = true := by
 unfold Hp.fewOk at hok
 simp only [Bool.and_eq_true] at hok
 obtain ⟨⟨hb, hmy⟩, hao⟩ := hok
 have h3 : ∀ v ∈ l, v.kind = 1 := by
  rcases Hp.few_of hb with ⟨rfl, a, y, rfl⟩ | ⟨rfl, a, rfl⟩ | ⟨rfl, a, rfl⟩ | ⟨rfl, a, y, rfl⟩
  ·rw [show Hp.rat sPlus 38 = 0 by decide +kernel] at hao
   have h : Hp.allOk T [a, y] [105, 105] = true := hao
   simpa [Hp.allOk, Hp.okAt, Hp.isL] using h
  ·exact absurd hp (by decide +kernel)
  ·exact absurd hp (by decide +kernel)
  ·exact absurd hp (by decide +kernel)
 intro v hv
 have h := List.all_eq_true.1 hmy v hv
 unfold Hp.may at h
 rw [h3 v hv] at h
 simp at h
 exact h.2
set_option maxHeartbeats 40000000 in
set_option maxRecDepth 100000 in
theorem rdo_few (h : Nat) (O : Nat → Prop) (T : List Hp.Th) (p : ByteArray) (av : Value) (l : List Hp.V) (w : World) (H : HSt w 76 h O T) (hv : VSl w av l) (ht : ∀ v ∈ l, v.text.size ≤ maxLen) (hT : T.length ≤ 1000000) (hP : Hp.FewP T) (hok : Hp.fewOk T p l = true) :
  Calls Tryz.prog 96 #[.pointer (some ⟨h, 0, none⟩), .string p, av] w (DoPost 76 h O (Hp.doF T p l).1 (Hp.doF T p l).2.1 (Hp.doF T p l).2.2 w) := by
 have H8 : Hid ((p = Ex.sUnbox ∨ p = Ex.sSetBox) → ∀ a, l[0]? = some a → a.kind = 8) := fun hp a ha => Hp.few_thing hok hp a ha
 have HN : Hid ((p = sPlus) → ∀ v ∈ l, isN v.int = true) := fun hp => Hp.few_num hok hp
 unfold Hp.fewOk at hok
 simp only [Bool.and_eq_true] at hok
 obtain ⟨⟨hb, hal⟩, hao⟩ := hok
 have hc := Hp.few_of hb
 obtain ⟨i, x, hi, hx, hxn, hln, hlet⟩ := Hp.few_row hc
 rw [hi, Int.toNat_natCast, hx] at hao
 dsimp only at hao
 have hdf := Hp.doF_act (T := T) hi hx hln hal hao
 have hmy := fun v hv => List.all_eq_true.1 hal v hv
 obtain ⟨P, hPQ⟩ : ∃ P, P = DoPost 76 h O (Hp.doF T p l).1 (Hp.doF T p l).2.1 (Hp.doF T p l).2.2 w := ⟨_, rfl⟩
 rw [← hPQ]
 rw [hdf] at hPQ
 have HPQ : Hid (P = RQ h O T i (l.getD 0 Hp.none) (l.getD 1 Hp.none) (l.getD 2 Hp.none) l w) := hPQ
 have HH := hid H
 have HV := hid hv
 have HH0 := hid H.lt
 have HC := hid hc
 have HI := hid hi
 have HX := hid hx
 have HXN := hid hxn
 have HLN := hid hln
 have HLET := hid hlet
 have HAO := hid hao
 have HMY := hid hmy
 have HTX := hid ht
 have hll : l.length ≤ 3 := by rw [← hln]; exact Hp.tab_three x (List.mem_of_getElem? hx)
 have hi38 : i < 38 := by have := (Hp.rat_bound p 38).2; omega
 clear H hv hc hi hx hxn hln hlet hao hmy hdf hPQ hb hal ht
 go_enter Tryz.func96, Tryz.ntmps96
 go_wp2_with fail
 with_reducible refine (rows_any _).mono ?_
 rintro e w1 ⟨g, rfl, hR, hb⟩
 have HB : Hid (RDo h O T av l g w w1) := by
  have hb0 : Below w.heap.size w w1 := ((Below.refl _ _).alloc (Nat.le_refl _) _).trans (hb.mono (by simp))
  exact ⟨HH.out.below hb0 (Nat.le_refl _), hb0, HV.out.below hb0 (Nat.le_refl _), hR, (hb.block _ (by simp)).trans (heap_alloc_new w _)⟩
 clear hR hb
 obtain ⟨ap, cp, rfl⟩ := HV.out.len
 go_wp2_with fail
 go_loopg [9, 10] 38 (fun gk s9 s10 wx => ∃ k : Nat, k ≤ 38 ∧ gk = 38 - k ∧ s9 = .int .i64 (Hp.rat p k) ∧ s10 = .int .i64 k ∧ wx = w1)
 case atStart => exact ⟨0, by omega, rfl, rfl, rfl, rfl⟩
 case round =>
  obtain ⟨k, hk, rfl, rfl, rfl, rfl⟩ := hrel
  by_cases hlt : k < 38
  ·obtain ⟨y, hy⟩ : ∃ y, Hp.tab[k]? = some y := ⟨_, List.getElem?_eq_getElem (by rw [Hp.tab_len]; exact hlt)⟩
   obtain ⟨d0, ax, cx, d1, _⟩ := HB.out.tab.2 k y hy
   have hgR := HB.out.tab.1
   have hst := Hp.rat_step (p := p) hy
   have hi1 : (0 : Int) ≤ k := by omega
   have hi2 : (k : Int) < 38 := by omega
   have HYY := hid hy
   clear hy
   by_cases he : y.name = p
   ·rw [if_pos he] at hst
    have HST := hid hst
    subst he
    clear hst
    have he2 : (y.name.toList == y.name.toList) = true := beq_self_eq_true _
    go_wp2_with fail
    go_roundg (38 - (k + 1))
    case measure => omega
    case rel => exact ⟨k + 1, by omega, rfl, by rw [HST.out], by go_num, rfl⟩
   ·rw [if_neg he] at hst
    have HST := hid hst
    clear hst
    have he2 : (y.name.toList == p.toList) = false := by
     rw [beq_eq_false_iff_ne]
     exact fun e => he (by rw [Lib.toList_data, Lib.toList_data] at e; exact ByteArray.ext (Array.toList_inj.1 e))
    go_wp2_with fail
    go_roundg (38 - (k + 1))
    case measure => omega
    case rel => exact ⟨k + 1, by omega, rfl, by rw [HST.out], by go_num, rfl⟩
  ·obtain rfl : k = 38 := by omega
   obtain ⟨d0, ax, cx, d1, _⟩ := HB.out.tab.2 i x HX.out
   have hgR := HB.out.tab.1
   have hi1 : (0 : Int) ≤ i := by omega
   have hi2 : (i : Int) < 38 := by omega
   have q1 : decide ((i : Int) < 0) = false := decide_eq_false (by omega)
   have hi := HI.out
   simp only [hi]
   rw [HLN.out] at d1
   have q2 : (l.length != l.length) = false := by simp
   have q3 : ((l.length : Int) != (l.length : Int)) = false := by simp
   clear hi
   go_wp2_with fail
   go_loopg [11] l.length (fun gk s11 wx => ∃ k : Nat, k ≤ l.length ∧ gk = l.length - k ∧ s11 = .int .i64 k ∧ Hid (RDo h O T (.slice ap l.length cp) l g w wx))
   case atStart => exact ⟨0, by omega, rfl, rfl, HB⟩
   case round =>
    obtain ⟨k, hk, rfl, rfl, HB2⟩ := hrel
    clear HB
    by_cases hlt : k < l.length
    ·obtain ⟨v, hv⟩ : ∃ v, l[k]? = some v := ⟨_, List.getElem?_eq_getElem hlt⟩
     obtain ⟨b, off, c2, e2, hb, a0, a1, a2⟩ := HB2.out.arg hv
     cases e2
     have hk1 : (0 : Int) ≤ k := by omega
     have hk2 : (k : Int) < l.length := by omega
     have hgk : IntKind.i64.wrap ((k : Int) + 1) = k + 1 := by rw [IntKind.wrap_i64]; omega
     have HM : Hid (Calls Tryz.prog 75 #[.pointer (some ⟨h, 0, none⟩), .agg #[.int .i64 v.kind, .int .i64 v.int, .string v.text]] wr fun e w' => e = .returned (.bool true) ∧ Below wr.heap.size wr w') := by
      obtain ⟨vt, M, HA0, e⟩ := HB2.out.st
      have hc := HA0.c0
      obtain ⟨a, c, rfl⟩ := HA0.shape
      have := rmay_any h M.length c a v (HTX.out v (List.mem_of_getElem? hv)) wr hc HA0.lth
      have hmm := HMY.out v (List.mem_of_getElem? hv)
      rw [← e, List.length_map] at hmm
      rw [hmm] at this
      exact this
     clear hv
     go_wp2_with fail
     with_reducible refine HM.out.mono ?_
     rintro e w2 ⟨rfl, hb2⟩
     have HB3 := hid (HB2.out.bel hb2)
     clear hb2
     go_wp2_with fail
     go_roundg (l.length - (k + 1))
     case measure => omega
     case rel => exact ⟨k + 1, by omega, rfl, by go_num, HB3⟩
    ·obtain rfl : l.length = k := by omega
     clear d0 d1
     go_wp2_with fail
     go_loopg [12] l.length (fun gk s12 wx => ∃ k : Nat, k ≤ l.length ∧ gk = l.length - k ∧ s12 = .int .i64 k ∧ Hid (RDo h O T (.slice ap l.length cp) l g w wx))
     case atStart => exact ⟨0, by omega, rfl, rfl, HB2⟩
     case round =>
      obtain ⟨k, hk, rfl, rfl, HB3⟩ := hrel
      clear HB2
      by_cases hlt : k < l.length
      ·obtain ⟨v, hv⟩ : ∃ v, l[k]? = some v := ⟨_, List.getElem?_eq_getElem hlt⟩
       obtain ⟨c, hc⟩ : ∃ c, x.letters[k]? = some c := ⟨_, List.getElem?_eq_getElem (by rw [HLN.out]; exact hlt)⟩
       obtain ⟨b, off, c2, e2, hb, a0, a1, a2⟩ := HB3.out.arg hv
       cases e2
       obtain ⟨d0, ax2, cx2, d1, hcode⟩ := HB3.out.tab.2 i x HX.out
       obtain ⟨cb, rfl, hcb, d2⟩ := hcode k c hc
       rw [HLN.out] at d1
       have hk1 : (0 : Int) ≤ k := by omega
       have hk2 : (k : Int) < l.length := by omega
       have hgk : IntKind.i64.wrap ((k : Int) + 1) = k + 1 := by rw [IntKind.wrap_i64]; omega
       have HK := hid (rkind_any HB3.out.st v (HMY.out v (List.mem_of_getElem? hv)))
       unfold Hp.V.val at HK
       have hlo := HLET.out c (List.mem_of_getElem? hc)
       have hoa : Hp.isL (Hp.kindOf T v) v.kind c = true := List.all_eq_true.1 HAO.out (v, c) (List.mem_of_getElem? (i := k) (by rw [List.getElem?_zip_eq_some]; exact ⟨hv, hc⟩))
       clear hv hc hcode
       rcases hlo with rfl | rfl | rfl
       ·rw [show Hp.codeOf 46 = -1 from rfl] at d2
        clear hoa
        go_wp2_with fail
        go_roundg (l.length - (k + 1))
        case measure => omega
        case rel => exact ⟨k + 1, by omega, rfl, by go_num, HB3⟩
       ·rw [show Hp.codeOf 98 = 13 from rfl] at d2
        obtain ⟨kd, hkd⟩ : ∃ kd, Hp.kindOf T v = kd := ⟨_, rfl⟩
        rw [hkd] at HK hoa
        obtain rfl : kd = 3 := by simpa [Hp.isL] using hoa
        clear hkd hoa
        go_wp2_with fail
        with_reducible refine HK.out.mono ?_
        rintro e w5 ⟨rfl, hb5⟩
        have HB5 := hid (HB3.out.bel hb5)
        clear hb5
        go_wp2_with fail
        go_roundg (l.length - (k + 1))
        case measure => omega
        case rel => exact ⟨k + 1, by omega, rfl, by go_num, HB5⟩
       ·rw [show Hp.codeOf 105 = 1 from rfl] at d2
        have hvk : v.kind = 1 := by simpa [Hp.isL] using hoa
        have q5 : (v.kind != 1) = false := by rw [hvk]; rfl
        clear hoa hvk
        go_wp2_with fail
        go_roundg (l.length - (k + 1))
        case measure => omega
        case rel => exact ⟨k + 1, by omega, rfl, by go_num, HB3⟩
      ·obtain rfl : l.length = k := by omega
       rcases HC.out with ⟨rfl, a, y, rfl⟩ | ⟨rfl, a, rfl⟩ | ⟨rfl, a, rfl⟩ | ⟨rfl, a, y, rfl⟩
       ·obtain ⟨b, off, c9, e2, hb, a0, a1, a2⟩ := HB3.out.arg (k := 0) rfl
        cases e2
        obtain ⟨b, off, c9, e2, hb, b0, b1, b2⟩ := HB3.out.arg (k := 1) rfl
        cases e2
        simp only [Nat.zero_mul, Nat.one_mul, Nat.add_zero, Nat.reduceMul] at a0 a1 a2 b0 b1 b2
        have hb1 : b < wr.heap.size + 1 := by omega
        have hb2 : b < wr.heap.size + 1 + 1 := by omega
        have hrw : Hp.rat sPlus 38 = 0 := by decide +kernel
        obtain rfl : i = 0 := by have := HI.out; omega
        clear hrw
        have HS0 : Hid (RSw h O T (.slice (some ⟨b, off, none⟩) 2 cp) [a, y] g w ((((wr.alloc (.cells #[.int .i64 a.kind, .int .i64 a.int, .string a.text] 78)).alloc (.cells #[.int .i64 y.kind, .int .i64 y.int, .string y.text] 78)).alloc (.cells #[.int .i64 0, .int .i64 0, .string ⟨#[]⟩] 78)).alloc (.cells #[.int .i64 5, .int .i64 0, .string ⟨#[]⟩] 78)) wr.heap.size (wr.heap.size + 1) (wr.heap.size + 1 + 1) (wr.heap.size + 1 + 1 + 1) a y Hp.none) := RSw.of HB3.out HH0.out a y Hp.none
        go_upto_region 31 with fail
        generalize hw4 : (((wr.alloc (.cells #[.int .i64 a.kind, .int .i64 a.int, .string a.text] 78)).alloc (.cells #[.int .i64 y.kind, .int .i64 y.int, .string y.text] 78)).alloc (.cells #[.int .i64 0, .int .i64 0, .string ⟨#[]⟩] 78)).alloc (.cells #[.int .i64 5, .int .i64 0, .string ⟨#[]⟩] 78) = w4 at HS0 ⊢
        clear hw4
        have HS := HS0
        clear HS0 a0 a1 a2 b0 b1 b2
        obtain ⟨⟨a0, a1, a2⟩, ⟨b0, b1, b2⟩, ⟨c0, c1, c2⟩, ⟨v0, v1, v2⟩⟩ := HS.out.cells
        obtain ⟨r0, r1, r2, f0, f1, f2, hw⟩ := HS.out.rd.out
        have HK := hid (fun w => rreckoned_any 0 a y w (HN.out (by decide +kernel) a (by simp)) (HN.out (by decide +kernel) y (by simp)))
        unfold Hp.V.val at HK
        unfold sPlus
        go_wp2_with fail
        with_reducible refine (HK.out _).mono ?_
        rintro e w5 ⟨rfl, hb5⟩
        have HS5 := hid (HS.out.bel hb5)
        clear r0 r1 r2 f0 f1 f2 hw hb5
        obtain ⟨r0, r1, r2, f0, f1, f2, hw⟩ := HS5.out.rd.out
        go_wp2_with fail
        have E := HS5.out.rd.say HS5.out.lt ((Hp.reckF 0 a.int y.int).1) ((Hp.reckF 0 a.int y.int).2)
        refine bodyPost_ret (res2 rfl _ _ w.heap.size 78 _ (0, 0) rfl E.1 valD valSize) rfl ?_
        rw [HPQ.out]
        exact E.2
       ·obtain ⟨b, off, c9, e2, hb, a0, a1, a2⟩ := HB3.out.arg (k := 0) rfl
        cases e2
        simp only [Nat.zero_mul, Nat.one_mul, Nat.add_zero, Nat.reduceMul] at a0 a1 a2
        have hb1 : b < wr.heap.size + 1 := by omega
        have hb2 : b < wr.heap.size + 1 + 1 := by omega
        have hrw : Hp.rat Ex.sBox 38 = 33 := by decide +kernel
        obtain rfl : i = 33 := by have := HI.out; omega
        clear hrw
        have HS0 : Hid (RSw h O T (.slice (some ⟨b, off, none⟩) 1 cp) [a] g w ((((wr.alloc (.cells #[.int .i64 a.kind, .int .i64 a.int, .string a.text] 78)).alloc (.cells #[.int .i64 0, .int .i64 0, .string ⟨#[]⟩] 78)).alloc (.cells #[.int .i64 0, .int .i64 0, .string ⟨#[]⟩] 78)).alloc (.cells #[.int .i64 5, .int .i64 0, .string ⟨#[]⟩] 78)) wr.heap.size (wr.heap.size + 1) (wr.heap.size + 1 + 1) (wr.heap.size + 1 + 1 + 1) a Hp.none Hp.none) := RSw.of HB3.out HH0.out a Hp.none Hp.none
        go_upto_region 31 with fail
        generalize hw4 : (((wr.alloc (.cells #[.int .i64 a.kind, .int .i64 a.int, .string a.text] 78)).alloc (.cells #[.int .i64 0, .int .i64 0, .string ⟨#[]⟩] 78)).alloc (.cells #[.int .i64 0, .int .i64 0, .string ⟨#[]⟩] 78)).alloc (.cells #[.int .i64 5, .int .i64 0, .string ⟨#[]⟩] 78) = w4 at HS0 ⊢
        clear hw4
        have HS := HS0
        clear HS0 a0 a1 a2
        obtain ⟨⟨a0, a1, a2⟩, ⟨b0, b1, b2⟩, ⟨c0, c1, c2⟩, ⟨v0, v1, v2⟩⟩ := HS.out.cells
        obtain ⟨r0, r1, r2, f0, f1, f2, hw⟩ := HS.out.rd.out
        have HA : Hid (Calls Tryz.prog 114 #[.pointer (some ⟨h, 0, none⟩), .int .i64 3, .slice (some ⟨b, off, none⟩) 1 cp] w4 (RAddPost 76 h O T ⟨3, [a]⟩ w4)) := radd_any h O T 3 [a] _ w4 HS.out.rd.st HS.out.rd.args hT (by simp)
        unfold RAddPost Hp.V.val at HA
        dsimp only at HA
        unfold Ex.sBox
        go_wp2_with fail
        with_reducible refine HA.out.mono ?_
        rintro e w5 ⟨O5, rfl, h5, g5⟩
        have hp5 : DoPost 76 h O ⟨8, T.length, ⟨#[]⟩⟩ 0 (T ++ [⟨3, [a]⟩]) w4 (.returned (.tuple #[Hp.V.val ⟨8, T.length, ⟨#[]⟩⟩, .int .i64 0])) w5 := ⟨O5, rfl, h5, g5⟩
        clear h5 g5
        obtain ⟨he, hz5, hlt5, hpost⟩ := HS.out.post hp5
        clear he
        clear r0 r1 r2 f0 f1 f2 hw hp5
        have r0 := cell_of_row w5 _ 0 _ _ _ hz5
        have r1 := cell_of_row w5 _ 1 _ _ _ hz5
        have r2 := cell_of_row w5 _ 2 _ _ _ hz5
        simp only [List.getElem?_toArray, List.getElem?_cons_zero, List.getElem?_cons_succ] at r0 r1 r2
        have f0 := frozen_of_row w5 _ 0 _ _ hz5
        have f1 := frozen_of_row w5 _ 1 _ _ hz5
        have f2 := frozen_of_row w5 _ 2 _ _ hz5
        have HZ := hid hz5
        have HPO := hid hpost
        clear hz5 hpost
        go_wp2_with fail
        refine bodyPost_ret (res2 rfl _ _ w.heap.size 78 _ (0, 0) rfl (three_set _ _ _ _ _ _ _ _ _ HZ.out) valD valSize) rfl ?_
        rw [HPQ.out]
        exact HPO.out
       ·obtain ⟨b, off, c9, e2, hb, a0, a1, a2⟩ := HB3.out.arg (k := 0) rfl
        cases e2
        simp only [Nat.zero_mul, Nat.one_mul, Nat.add_zero, Nat.reduceMul] at a0 a1 a2
        have hb1 : b < wr.heap.size + 1 := by omega
        have hb2 : b < wr.heap.size + 1 + 1 := by omega
        have hrw : Hp.rat Ex.sUnbox 38 = 34 := by decide +kernel
        obtain rfl : i = 34 := by have := HI.out; omega
        clear hrw
        have HS0 : Hid (RSw h O T (.slice (some ⟨b, off, none⟩) 1 cp) [a] g w ((((wr.alloc (.cells #[.int .i64 a.kind, .int .i64 a.int, .string a.text] 78)).alloc (.cells #[.int .i64 0, .int .i64 0, .string ⟨#[]⟩] 78)).alloc (.cells #[.int .i64 0, .int .i64 0, .string ⟨#[]⟩] 78)).alloc (.cells #[.int .i64 5, .int .i64 0, .string ⟨#[]⟩] 78)) wr.heap.size (wr.heap.size + 1) (wr.heap.size + 1 + 1) (wr.heap.size + 1 + 1 + 1) a Hp.none Hp.none) := RSw.of HB3.out HH0.out a Hp.none Hp.none
        go_upto_region 31 with fail
        generalize hw4 : (((wr.alloc (.cells #[.int .i64 a.kind, .int .i64 a.int, .string a.text] 78)).alloc (.cells #[.int .i64 0, .int .i64 0, .string ⟨#[]⟩] 78)).alloc (.cells #[.int .i64 0, .int .i64 0, .string ⟨#[]⟩] 78)).alloc (.cells #[.int .i64 5, .int .i64 0, .string ⟨#[]⟩] 78) = w4 at HS0 ⊢
        clear hw4
        have HS := HS0
        clear HS0 a0 a1 a2
        obtain ⟨⟨a0, a1, a2⟩, ⟨b0, b1, b2⟩, ⟨c0, c1, c2⟩, ⟨v0, v1, v2⟩⟩ := HS.out.cells
        obtain ⟨r0, r1, r2, f0, f1, f2, hw⟩ := HS.out.rd.out
        have HK := hid (rget_any HS.out.rd.st a (HMY.out a (by simp)) (H8.out (by decide +kernel) a rfl) (hP.of a) 0)
        unfold Hp.V.val at HK
        have HGT : Hid ((Hp.getF T a 0).2.2 = T) := by
         unfold Hid Hp.getF
         split <;> rfl
        unfold Ex.sUnbox
        go_wp2_with fail
        with_reducible refine HK.out.mono ?_
        rintro e w5 ⟨rfl, hb5⟩
        have HS5 := hid (HS.out.bel hb5)
        clear r0 r1 r2 f0 f1 f2 hw hb5
        obtain ⟨r0, r1, r2, f0, f1, f2, hw⟩ := HS5.out.rd.out
        go_wp2_with fail
        have E := HS5.out.rd.say HS5.out.lt ((Hp.getF T a 0).1) ((Hp.getF T a 0).2.1)
        refine bodyPost_ret (res2 rfl _ _ w.heap.size 78 _ (0, 0) rfl E.1 valD valSize) rfl ?_
        rw [HPQ.out]
        show DoPost 76 h O (Hp.getF T a 0).1 (Hp.getF T a 0).2.1 (Hp.getF T a 0).2.2 w _ _
        rw [HGT.out]
        exact E.2
       ·obtain ⟨b, off, c9, e2, hb, a0, a1, a2⟩ := HB3.out.arg (k := 0) rfl
        cases e2
        obtain ⟨b, off, c9, e2, hb, b0, b1, b2⟩ := HB3.out.arg (k := 1) rfl
        cases e2
        simp only [Nat.zero_mul, Nat.one_mul, Nat.add_zero, Nat.reduceMul] at a0 a1 a2 b0 b1 b2
        have hb1 : b < wr.heap.size + 1 := by omega
        have hb2 : b < wr.heap.size + 1 + 1 := by omega
        have hrw : Hp.rat Ex.sSetBox 38 = 35 := by decide +kernel
        obtain rfl : i = 35 := by have := HI.out; omega
        clear hrw
        have HS0 : Hid (RSw h O T (.slice (some ⟨b, off, none⟩) 2 cp) [a, y] g w ((((wr.alloc (.cells #[.int .i64 a.kind, .int .i64 a.int, .string a.text] 78)).alloc (.cells #[.int .i64 y.kind, .int .i64 y.int, .string y.text] 78)).alloc (.cells #[.int .i64 0, .int .i64 0, .string ⟨#[]⟩] 78)).alloc (.cells #[.int .i64 5, .int .i64 0, .string ⟨#[]⟩] 78)) wr.heap.size (wr.heap.size + 1) (wr.heap.size + 1 + 1) (wr.heap.size + 1 + 1 + 1) a y Hp.none) := RSw.of HB3.out HH0.out a y Hp.none
        go_upto_region 31 with fail
        generalize hw4 : (((wr.alloc (.cells #[.int .i64 a.kind, .int .i64 a.int, .string a.text] 78)).alloc (.cells #[.int .i64 y.kind, .int .i64 y.int, .string y.text] 78)).alloc (.cells #[.int .i64 0, .int .i64 0, .string ⟨#[]⟩] 78)).alloc (.cells #[.int .i64 5, .int .i64 0, .string ⟨#[]⟩] 78) = w4 at HS0 ⊢
        clear hw4
        have HS := HS0
        clear HS0 a0 a1 a2 b0 b1 b2
        obtain ⟨⟨a0, a1, a2⟩, ⟨b0, b1, b2⟩, ⟨c0, c1, c2⟩, ⟨v0, v1, v2⟩⟩ := HS.out.cells
        obtain ⟨r0, r1, r2, f0, f1, f2, hw⟩ := HS.out.rd.out
        have HK := hid (rput_any HS.out.rd.st a y (HMY.out a (by simp)) (H8.out (by decide +kernel) a rfl) (hP.of a) 0)
        unfold Hp.V.val at HK
        unfold Ex.sSetBox
        go_wp2_with fail
        with_reducible refine HK.out.mono ?_
        rintro e w5 hp5
        obtain ⟨he, hz5, hlt5, hpost⟩ := HS.out.post hp5
        subst he
        clear r0 r1 r2 f0 f1 f2 hw hp5
        have r0 := cell_of_row w5 _ 0 _ _ _ hz5
        have r1 := cell_of_row w5 _ 1 _ _ _ hz5
        have r2 := cell_of_row w5 _ 2 _ _ _ hz5
        simp only [List.getElem?_toArray, List.getElem?_cons_zero, List.getElem?_cons_succ] at r0 r1 r2
        have f0 := frozen_of_row w5 _ 0 _ _ hz5
        have f1 := frozen_of_row w5 _ 1 _ _ hz5
        have f2 := frozen_of_row w5 _ 2 _ _ hz5
        have HZ := hid hz5
        have HPO := hid hpost
        clear hz5 hpost
        go_wp2_with fail
        refine bodyPost_ret (res2 rfl _ _ w.heap.size 78 _ (0, 0) rfl (three_set _ _ _ _ _ _ _ _ _ HZ.out) valD valSize) rfl ?_
        rw [HPQ.out]
        exact HPO.out
namespace Rn
abbrev Env := List (ByteArray × Int)
structure Todo where
 d : Int
 e : Ex
 env : Env
 pos : Int
structure Proc where
 thing : Int
 lam : Ex
 env : Env
 kont : Bool
 todo : List Todo
 vals : List Hp.V
structure St where
 T : List Hp.Th
 cells : List Hp.V
 procs : List Proc
 input : List UInt8
 out : List UInt8
 wind : Hp.V
 steps : Nat
 todo : List Todo
 vals : List Hp.V
 err : Int
def eT (e : Ex) (env : Env) : Todo := ⟨0, e, env, 0⟩
def zT (d pos : Int) : Todo := ⟨d, Ex.zero, [], pos⟩
def cellF (env : Env) (s : ByteArray) : Int := env.foldl (fun a p => if p.1 = s then p.2 else a) (-1)
def envF : List ByteArray → Nat → Env
 | [], _ => []
 | n :: l, k => (n, (k : Int)) :: envF l (k + 1)
def St.push (s : St) (l : List Todo) : St := { s with todo := l ++ s.todo }
def St.tell (s : St) (v : Hp.V) : St := { s with vals := v :: s.vals }
def St.fail (s : St) (e : Int) : St := { s with err := e }
def St.bind (s : St) (vals : List Hp.V) : St := { s with cells := s.cells ++ vals }
def St.newV (s : St) : Hp.V := ⟨8, s.T.length, ⟨#[]⟩⟩
def St.proc (s : St) (p : Proc) : St := { s with T := s.T ++ [⟨4, []⟩], procs := s.procs ++ [{ p with thing := s.T.length }] }
def seqT (env : Env) : List Ex → List Todo
 | [] => []
 | [k] => [eT k env]
 | k :: l => eT k env :: zT 1 0 :: seqT env l
def eval (most : Nat) (s : St) (e : Ex) (env : Env) : Option St :=
 if s.steps = most then some (s.fail 93)
 else
  let t := { s with steps := s.steps + 1 }
  if e.kind = 0 then (if e.const.list = [] ∧ e.const.text.size ≤ maxLen then some (t.tell (constF e.const).1) else none)
  else if e.kind = 1 then (if cellF env e.name < 0 then none else (s.cells[(cellF env e.name).toNat]?).map t.tell)
  else if e.kind = 2 then (e.kids[0]?).map fun k => t.push [eT k env, zT 2 (cellF env e.name)]
  else if e.kind = 3 then none
  else if e.kind = 4 then (if e.kids = [] then none else some (t.push (seqT env e.kids)))
  else if e.kind = 5 then some ((t.proc ⟨0, e, env, false, [], []⟩).tell t.newV)
  else if e.kind = 6 then some (t.push (e.kids.map (eT · env) ++ [zT 4 e.kids.length]))
  else if e.kind = 7 then some (t.push (e.kids.map (eT · env) ++ [⟨5, e, [], 0⟩]))
  else if e.kind = 8 then (if e.kids = [] then none else some (t.push (e.kids.dropLast.map (eT · env) ++ [⟨6, e, env, 0⟩])))
  else if e.kind = 9 then none
  else if e.kind = 10 then none
  else none
def St.popped (s : St) (n : Nat) : List Hp.V := (s.vals.take n).reverse
def St.pop (s : St) (n : Nat) : St := { s with vals := s.vals.drop n }
def noProc : Proc := ⟨0, Ex.zero, [], false, [], []⟩
def findF (l : List Proc) (k : Int) : Proc := l.foldl (fun a p => if p.thing = k then p else a) noProc
def smallP (p : Proc) : Bool := decide (p.env.length ≤ 1000000) && decide (p.lam.names.length ≤ 100000) && decide (p.todo.length ≤ 1000000) && decide (p.vals.length ≤ 1000000)
def smallT (t : Todo) : Bool := decide (t.env.length ≤ 1000000) && decide (t.e.names.length ≤ 100000) && decide (t.e.kids.length ≤ 100000)
def call (s : St) (v : Hp.V) (args : List Hp.V) : Option St :=
 if Hp.may s.T.length v = false then none
 else if Hp.kindOf s.T v ≠ 4 then none
 else if smallP (findF s.procs v.int) = false then none
 else
  let p := findF s.procs v.int
  if p.kont then none
  else if args.length ≠ p.lam.names.length then none
  else (p.lam.kids[0]?).map fun k => (s.bind args).push [eT k (p.env ++ envF p.lam.names s.cells.length)]
def prim (s : St) (p : ByteArray) (a : List Hp.V) : Option St := if Hp.fewOk s.T p a = true then some ({ s with T := (Hp.doF s.T p a).2.2, err := (Hp.doF s.T p a).2.1 }.tell (Hp.doF s.T p a).1) else none
def setC (s : St) (pos : Int) (v : Hp.V) : Option St := if pos < 0 ∨ (s.cells.length : Int) ≤ pos then none else some { s with cells := s.cells.set pos.toNat v }
def next (most : Nat) (s : St) : Option St :=
 match s.todo with
 | [] => none
 | t :: l =>
  let s := { s with todo := l }
  if smallT t = false then none
  else if t.d = 0 then eval most s t.e t.env
  else if t.d = 1 then (if s.vals = [] then none else some (s.pop 1))
  else if t.d = 2 then (s.vals[0]?).bind fun v => (setC (s.pop 1) t.pos v).map fun s => s.tell Hp.void
  else if t.d = 3 then none
  else if t.d = 4 then (if 1 ≤ t.pos ∧ t.pos ≤ (s.vals.length : Int) then call (s.pop t.pos.toNat) ((s.popped t.pos.toNat).getD 0 Hp.none) ((s.popped t.pos.toNat).drop 1) else none)
  else if t.d = 5 then (if t.e.kids.length ≤ s.vals.length then prim (s.pop t.e.kids.length) t.e.name (s.popped t.e.kids.length) else none)
  else if t.d = 6 then (if t.e.names.length ≤ s.vals.length then (t.e.kids[t.e.names.length]?).map fun k => ((s.pop t.e.names.length).bind (s.popped t.e.names.length)).push [eT k (t.env ++ envF t.e.names s.cells.length)] else none)
  else if t.d = 7 then none
  else none
def fits (s : St) : Bool := decide (s.T.length ≤ 100000) && decide (s.cells.length ≤ 100000) && decide (s.procs.length ≤ 100000) && decide (s.out.length ≤ 100000) && decide (s.todo.length ≤ 100000) && decide (s.vals.length ≤ 100000) && s.vals.all fun v => decide (v.text.size ≤ maxLen)
def go (most : Nat) : Nat → St → Option St
 | 0, _ => none
 | n + 1, s => if !fits s then none else if s.err ≠ 0 ∨ s.todo = [] then some s else (next most s).bind (go most n)
def start (e : Ex) (input : List UInt8) : St := ⟨[], [], [], input, [], ⟨4, 0, ⟨#[]⟩⟩, 0, [eT e []], [], 0⟩
structure Out where
 err : Int
 output : List UInt8
 shown : Option Dt
 steps : Nat
def out (s : St) : Option Out := if s.err ≠ 0 then some ⟨s.err, s.out, none, s.steps⟩ else match s.vals.getLast? with | none => none | some v => some ⟨0, s.out, Hp.tellT s.T v, s.steps⟩
open Classical in
noncomputable def rol (S : Nat → Prop) (r : Nat) (ρ : Nat → Nat) : Nat → Nat := fun b => if S b then r else if ρ b = r then 0 else ρ b
open Classical in
noncomputable def more (S : Nat → Prop) (r : Nat) (ρ : Nat → Nat) : Nat → Nat := fun b => if S b then r else ρ b
theorem rol_yes {S : Nat → Prop} {r : Nat} {ρ : Nat → Nat} {b : Nat} (h : S b) : rol S r ρ b = r := by unfold rol; rw [if_pos h]
theorem rol_no {S : Nat → Prop} {r : Nat} {ρ : Nat → Nat} {b : Nat} (h : ¬ S b) (h2 : ρ b ≠ r) : rol S r ρ b = ρ b := by unfold rol; rw [if_neg h, if_neg h2]
theorem rol_ne {S : Nat → Prop} {r : Nat} {ρ : Nat → Nat} {b : Nat} (h : rol S r ρ b ≠ 0) : S b ∨ (ρ b ≠ 0 ∧ ρ b ≠ r) := by
 unfold rol at h
 split at h
 ·rename_i e; exact .inl e
 ·split at h
  ·exact absurd rfl h
  ·rename_i e; exact .inr ⟨h, e⟩
theorem rol_eq {S : Nat → Prop} {r : Nat} {ρ : Nat → Nat} {b : Nat} (hr : r ≠ 0) : rol S r ρ b = r ↔ S b := by
 unfold rol
 by_cases h : S b
 ·simp [h]
 ·rw [if_neg h]
  constructor
  ·intro e
   split at e
   ·exact absurd e.symm hr
   ·rename_i e2; exact absurd e e2
  ·exact fun e => absurd e h
theorem more_yes {S : Nat → Prop} {r : Nat} {ρ : Nat → Nat} {b : Nat} (h : S b) : more S r ρ b = r := by unfold more; rw [if_pos h]
theorem more_no {S : Nat → Prop} {r : Nat} {ρ : Nat → Nat} {b : Nat} (h : ¬ S b) : more S r ρ b = ρ b := by unfold more; rw [if_neg h]
theorem more_ne {S : Nat → Prop} {r : Nat} {ρ : Nat → Nat} {b : Nat} (h : more S r ρ b ≠ 0) : S b ∨ ρ b ≠ 0 := by
 unfold more at h
 split at h
 ·rename_i e; exact .inl e
 ·exact .inr h
def RowR (w : World) (ρ : Nat → Nat) (r ty size n : Nat) (v : Value) (xs : List Value) : Prop := w.ownsRow 0 ty size v n xs ∧ ∀ b, v.ownBlock = some b → ρ b = r
theorem RowR.keep {w w' : World} {ρ ρ' : Nat → Nat} {r ty size n : Nat} {v : Value} {xs : List Value} (h : RowR w ρ r ty size n v xs) (hk : ∀ b, b < w.heap.size → ρ b = r → w'.heap[b]? = w.heap[b]? ∧ ρ' b = r) : RowR w' ρ' r ty size n v xs :=
 ⟨own_same h.1 fun b e => (hk b (h.1.lt b e).2 (h.2 b e)).1, fun b e => (hk b (h.1.lt b e).2 (h.2 b e)).2⟩
theorem RowR.slice {w : World} {ρ : Nat → Nat} {r ty size n : Nat} {v : Value} {xs : List Value} (h : RowR w ρ r ty size n v xs) : ∃ a c, v = .slice a n c := by
 rcases own_shape h.1 with ⟨e, e2, _⟩ | ⟨g, c, e, _⟩
 ·exact ⟨none, 0, by rw [e, e2]⟩
 ·exact ⟨_, c, e⟩
theorem RowR.none (w : World) (ρ : Nat → Nat) (r ty size : Nat) : RowR w ρ r ty size 0 (.slice none 0 0) [] := ⟨⟨by simp, .inl ⟨rfl, rfl⟩⟩, fun b e => by cases e⟩
def exC (e : Ex) (nv dl kv : Value) : List Value := [.int .i64 e.kind, .string e.name, nv, .int .i64 e.const.kind, .int .i64 e.const.int, .string e.const.text, dl, kv]
def envC (l : Env) : List Value := l.flatMap fun p => [.string p.1, .int .i64 p.2]
theorem envC_app (l m : Env) : envC (l ++ m) = envC l ++ envC m := by simp [envC]
theorem envC_length : ∀ l : Env, (envC l).length = l.length * 2
 | [] => rfl
 | p :: l => by
  have e : envC (p :: l) = .string p.1 :: .int .i64 p.2 :: envC l := rfl
  rw [e, List.length_cons, List.length_cons, envC_length l]
  simp
  omega
theorem envC_at : ∀ (l : Env) (i : Nat) (p : ByteArray × Int), l[i]? = some p → (envC l)[i * 2]? = some (.string p.1) ∧ (envC l)[i * 2 + 1]? = some (.int .i64 p.2)
 | [], i, p, h => by simp at h
 | q :: l, 0, p, h => by
  simp at h
  subst h
  exact ⟨rfl, rfl⟩
 | q :: l, i + 1, p, h => by
  have e : envC (q :: l) = .string q.1 :: .int .i64 q.2 :: envC l := rfl
  have h2 : l[i]? = some p := by simpa using h
  have := envC_at l i p h2
  rw [e, show (i + 1) * 2 = i * 2 + 1 + 1 by omega]
  simpa using this
structure TM where
 t : Todo
 nv : Value
 dl : Value
 kv : Value
 ev : Value
def TM.cells (x : TM) : List Value := [.int .i64 x.t.d, .int .i64 x.t.e.kind, .string x.t.e.name, x.nv, .int .i64 x.t.e.const.kind, .int .i64 x.t.e.const.int, .string x.t.e.const.text, x.dl, x.kv, x.ev, .int .i64 x.t.pos]
structure PM where
 p : Proc
 nv : Value
 dl : Value
 kv : Value
 ev : Value
 tv : Value
 vv : Value
def PM.cells (x : PM) : List Value := [.int .i64 x.p.thing, .int .i64 x.p.lam.kind, .string x.p.lam.name, x.nv, .int .i64 x.p.lam.const.kind, .int .i64 x.p.lam.const.int, .string x.p.lam.const.text, x.dl, x.kv, x.ev, .bool x.p.kont, x.tv, x.vv]
def tmC (l : List TM) : List Value := l.flatMap TM.cells
def pmC (l : List PM) : List Value := l.flatMap PM.cells
theorem tmC_app (l m : List TM) : tmC (l ++ m) = tmC l ++ tmC m := by simp [tmC]
theorem pmC_app (l m : List PM) : pmC (l ++ m) = pmC l ++ pmC m := by simp [pmC]
theorem tmC_length : ∀ l : List TM, (tmC l).length = l.length * 11
 | [] => rfl
 | x :: l => by
  have e : tmC (x :: l) = x.cells ++ tmC l := rfl
  rw [e, List.length_append, tmC_length l]
  simp [TM.cells]
  omega
theorem tmC_at : ∀ (l : List TM) (i : Nat) (x : TM), l[i]? = some x → ∀ j, j < 11 → (tmC l)[i * 11 + j]? = x.cells[j]?
 | [], i, x, h, j, hj => by simp at h
 | y :: l, 0, x, h, j, hj => by
  simp at h
  subst h
  have e : tmC (y :: l) = y.cells ++ tmC l := rfl
  rw [e, List.getElem?_append_left (by simp [TM.cells]; omega)]
  simp
 | y :: l, i + 1, x, h, j, hj => by
  have e : tmC (y :: l) = y.cells ++ tmC l := rfl
  have h2 : l[i]? = some x := by simpa using h
  rw [e, List.getElem?_append_right (by simp [TM.cells]; omega), ← tmC_at l i x h2 j hj]
  congr 1
  simp [TM.cells]
  omega
theorem pmC_at : ∀ (l : List PM) (i : Nat) (x : PM), l[i]? = some x → ∀ j, j < 13 → (pmC l)[i * 13 + j]? = x.cells[j]?
 | [], i, x, h, j, hj => by simp at h
 | y :: l, 0, x, h, j, hj => by
  simp at h
  subst h
  have e : pmC (y :: l) = y.cells ++ pmC l := rfl
  rw [e, List.getElem?_append_left (by simp [PM.cells]; omega)]
  simp
 | y :: l, i + 1, x, h, j, hj => by
  have e : pmC (y :: l) = y.cells ++ pmC l := rfl
  have h2 : l[i]? = some x := by simpa using h
  rw [e, List.getElem?_append_right (by simp [PM.cells]; omega), ← pmC_at l i x h2 j hj]
  congr 1
  simp [PM.cells]
  omega
structure TMOk (w0 w : World) (ρ : Nat → Nat) (x : TM) : Prop where
 ex : ExAt w0 (exV x.t.e.kind x.t.e.name x.nv x.t.e.const x.dl x.kv) x.t.e
 env : RowR w ρ 6 125 2 x.t.env.length x.ev (envC x.t.env)
structure PMOk (w0 w : World) (ρ : Nat → Nat) (x : PM) : Prop where
 ex : ExAt w0 (exV x.p.lam.kind x.p.lam.name x.nv x.p.lam.const x.dl x.kv) x.p.lam
 env : RowR w ρ 6 125 2 x.p.env.length x.ev (envC x.p.env)
 todo : ∃ M : List TM, RowR w ρ 6 87 11 M.length x.tv (tmC M) ∧ (M.map TM.t).reverse = x.p.todo ∧ ∀ y ∈ M, TMOk w0 w ρ y
 vals : RowR w ρ 6 78 3 x.p.vals.length x.vv (Hp.flatV x.p.vals.reverse)
structure Mv (w : World) (ρ : Nat → Nat) (w' : World) (ρ' : Nat → Nat) : Prop where
 size : w.heap.size ≤ w'.heap.size
 keep : ∀ b, b < w.heap.size → ρ b = 0 ∨ ρ b = 6 → w'.heap[b]? = w.heap[b]? ∧ ρ' b = ρ b
theorem Mv.refl (w : World) (ρ : Nat → Nat) : Mv w ρ w ρ := ⟨Nat.le_refl _, fun _ _ _ => ⟨rfl, rfl⟩⟩
theorem Mv.trans {a b c : World} {ρ σ τ : Nat → Nat} (h : Mv a ρ b σ) (k : Mv b σ c τ) : Mv a ρ c τ :=
 ⟨Nat.le_trans h.size k.size, fun i hi hr => by
  obtain ⟨h1, h2⟩ := h.keep i hi hr
  obtain ⟨k1, k2⟩ := k.keep i (Nat.lt_of_lt_of_le hi h.size) (by rw [h2]; exact hr)
  exact ⟨k1.trans h1, k2.trans h2⟩⟩
section
variable {w0 w w' : World} {ρ ρ' : Nat → Nat}
theorem RowR.mv {ty size n : Nat} {v : Value} {xs : List Value} (h : RowR w ρ 6 ty size n v xs) (hm : Mv w ρ w' ρ') : RowR w' ρ' 6 ty size n v xs := h.keep fun b hb e => ⟨(hm.keep b hb (.inr e)).1, (hm.keep b hb (.inr e)).2.trans e⟩
theorem TMOk.mv {x : TM} (h : TMOk w0 w ρ x) (hm : Mv w ρ w' ρ') : TMOk w0 w' ρ' x := ⟨h.ex, h.env.mv hm⟩
theorem PMOk.mv {x : PM} (h : PMOk w0 w ρ x) (hm : Mv w ρ w' ρ') : PMOk w0 w' ρ' x := by
 obtain ⟨M, h1, h2, h3⟩ := h.todo
 exact ⟨h.ex, h.env.mv hm, ⟨M, h1.mv hm, h2, fun y hy => (h3 y hy).mv hm⟩, h.vals.mv hm⟩
end
structure Wh where
 h : Nat
 cv : Value
 pv : Value
 ov : Value
 tv : Value
 vv : Value
 MP : List PM
 MT : List TM
structure RnC (w0 w : World) (ρ : Nat → Nat) (m : Nat) (s : St) (q : Wh) : Prop where
 heap : HSt w 76 q.h (fun b => ρ b = 5) s.T
 cells : RowR w ρ 2 78 3 s.cells.length q.cv (Hp.flatV s.cells)
 procs : RowR w ρ 3 119 13 q.MP.length q.pv (pmC q.MP)
 out : RowR w ρ 4 5 1 s.out.length q.ov (s.out.map fun b => Value.int .u8 b.toNat)
 todo : RowR w ρ 7 87 11 q.MT.length q.tv (tmC q.MT)
 vals : RowR w ρ 8 78 3 s.vals.length q.vv (Hp.flatV s.vals.reverse)
 mp : q.MP.map PM.p = s.procs
 mt : (q.MT.map TM.t).reverse = s.todo
 pok : ∀ x ∈ q.MP, PMOk w0 w ρ x
 tok : ∀ x ∈ q.MT, TMOk w0 w ρ x
 me : ρ m = 1
 lo : ∀ b, ρ b ≠ 0 → w0.heap.size ≤ b ∧ b < w.heap.size
 below : Below w0.heap.size w0 w
def mCells (s : St) (most : Nat) (q : Wh) : Array Value :=
 #[.pointer (some ⟨q.h, 0, none⟩), q.cv, q.pv, .string ⟨s.input.toArray⟩, q.ov, .int .i64 s.wind.kind, .int .i64 s.wind.int, .string s.wind.text, .int .i64 s.steps, .int .i64 most, q.tv, q.vv, .int .i64 s.err]
structure RnO (w0 w : World) (ρ : Nat → Nat) (m most : Nat) (s : St) (q : Wh) : Prop where
 c : RnC w0 w ρ m s q
 blk : w.heap[m]? = some (.cells (mCells s most q) 83 (0, 0))
section
variable {w0 w w' : World} {ρ ρ' : Nat → Nat} {m most : Nat} {s s' : St} {q q' : Wh}
theorem hst_more {ty h : Nat} {O O' : Nat → Prop} {T : List Hp.Th} (H : HSt w ty h O T) (h1 : ∀ b, O b → O' b) (h2 : ∀ b, O' b → b < w.heap.size) : HSt w ty h O' T := by
 obtain ⟨vt, M, H, e⟩ := H
 exact ⟨vt, M, ⟨H.blk, H.row, H.parts, H.ne, H.nh, H.nr, H.apart, ⟨h1 _ H.own.1, fun b e => h1 b (H.own.2.1 b e), fun m hm b e => h1 b (H.own.2.2 m hm b e)⟩, h2⟩, e⟩
theorem hst_roles {h : Nat} {T : List Hp.Th} (H : HSt w 76 h (fun b => ρ b = 5) T) (hs : w.heap.size ≤ w'.heap.size) (hk : ∀ b, b < w.heap.size → ρ b = 5 → w'.heap[b]? = w.heap[b]? ∧ ρ' b = 5) (h2 : ∀ b, ρ' b = 5 → b < w'.heap.size) : HSt w' 76 h (fun b => ρ' b = 5) T :=
 hst_more (H.keep hs fun b e => (hk b (H.lt b e) e).1) (fun b e => (hk b (H.lt b e) e).2) h2
theorem RnC.keep (h : RnC w0 w ρ m s q) (hs : w.heap.size ≤ w'.heap.size) (hB : Below w0.heap.size w0 w') (hk : ∀ b, b < w.heap.size → 2 ≤ ρ b → w'.heap[b]? = w.heap[b]?) : RnC w0 w' ρ m s q := by
 have hK : ∀ r, 2 ≤ r → ∀ b, b < w.heap.size → ρ b = r → w'.heap[b]? = w.heap[b]? ∧ ρ b = r := fun r hr b hb e => ⟨hk b hb (by omega), e⟩
 have hT : ∀ x, TMOk w0 w ρ x → TMOk w0 w' ρ x := fun x hx => ⟨hx.ex, hx.env.keep (hK 6 (by decide))⟩
 refine ⟨h.heap.keep hs fun b e => hk b (h.heap.lt b e) (by omega), h.cells.keep (hK 2 (by decide)), h.procs.keep (hK 3 (by decide)), h.out.keep (hK 4 (by decide)), h.todo.keep (hK 7 (by decide)), h.vals.keep (hK 8 (by decide)), h.mp, h.mt, fun x hx => ?_, fun x hx => hT x (h.tok x hx), h.me, fun b e => ⟨(h.lo b e).1, Nat.lt_of_lt_of_le (h.lo b e).2 hs⟩, hB⟩
 obtain ⟨k1, k2, ⟨M, k3, k4, k5⟩, k6⟩ := h.pok x hx
 exact ⟨k1, k2.keep (hK 6 (by decide)), ⟨M, k3.keep (hK 6 (by decide)), k4, fun y hy => hT y (k5 y hy)⟩, k6.keep (hK 6 (by decide))⟩
theorem RnC.bel (h : RnC w0 w ρ m s q) (hB : Below w.heap.size w w') : RnC w0 w' ρ m s q :=
 h.keep hB.size (h.below.trans (hB.mono h.below.size)) fun b hb _ => hB.block b hb
theorem RnO.bel (h : RnO w0 w ρ m most s q) (hB : Below w.heap.size w w') : RnO w0 w' ρ m most s q :=
 ⟨h.c.bel hB, (hB.block m (Array.getElem?_eq_some_iff.1 h.blk).1).trans h.blk⟩
theorem RnO.lt (h : RnO w0 w ρ m most s q) : m < w.heap.size := (Array.getElem?_eq_some_iff.1 h.blk).1
theorem RnO.cell (h : RnO w0 w ρ m most s q) (i : Nat) : w.cell? ⟨m, i, none⟩ = (mCells s most q)[i]? := cell_of_row w m i _ _ _ h.blk
theorem RnO.fz (h : RnO w0 w ρ m most s q) (i : Nat) : w.frozen? ⟨m, i, none⟩ = false := frozen_of_row w m i _ _ h.blk
theorem mv_bel (hB : Below w.heap.size w w') (ρ : Nat → Nat) : Mv w ρ w' ρ := ⟨hB.size, fun b hb _ => ⟨hB.block b hb, rfl⟩⟩
theorem RnO.set2 (hb : w'.heap[m]? = some (.cells (mCells s most q) 83 (0, 0))) (hc : RnC w0 w' ρ' m s' q') (i : Nat) (v : Value)
  (he : (mCells s most q).setIfInBounds i v = mCells s' most q') : RnO w0 (w'.setCell ⟨m, i, none⟩ v) ρ' m most s' q' := by
 have hsize : (w'.setCell ⟨m, i, none⟩ v).heap.size = w'.heap.size := by simp [World.setCell]
 have hlo := hc.lo m (by rw [hc.me]; decide)
 exact ⟨hc.keep (by rw [hsize]; exact Nat.le_refl _) (hc.below.setCell (p := ⟨m, i, none⟩) hlo.1 _) fun b hb e => heap_setCell_other _ _ _ _ (fun e2 => by rw [e2, hc.me] at e; omega), he ▸ heap_setCell_same _ m i _ _ v hb⟩
theorem RnO.set (h : RnO w0 w ρ m most s q) (i : Nat) (v : Value) (hT : s'.T = s.T) (hC : s'.cells = s.cells) (hP : s'.procs = s.procs) (hO : s'.out = s.out) (hD : s'.todo = s.todo) (hV : s'.vals = s.vals)
  (he : (mCells s most q).setIfInBounds i v = mCells s' most q) : RnO w0 (w.setCell ⟨m, i, none⟩ v) ρ m most s' q :=
 RnO.set2 h.blk ⟨by rw [hT]; exact h.c.heap, by rw [hC]; exact h.c.cells, h.c.procs, by rw [hO]; exact h.c.out, h.c.todo, by rw [hV]; exact h.c.vals, h.c.mp.trans hP.symm, h.c.mt.trans hD.symm, h.c.pok, h.c.tok, h.c.me, h.c.lo, h.c.below⟩ i v he
theorem RnO.store {R : Nat} (h : RnO w0 w ρ m most s q) (hR : ρ R = 0) (hR0 : w0.heap.size ≤ R) (i : Nat) (v : Value) : RnO w0 (w.setCell ⟨R, i, none⟩ v) ρ m most s q := by
 have hsize : (w.setCell ⟨R, i, none⟩ v).heap.size = w.heap.size := by simp [World.setCell]
 refine ⟨h.c.keep (by rw [hsize]; exact Nat.le_refl _) (h.c.below.setCell (p := ⟨R, i, none⟩) hR0 _) fun b hb e => heap_setCell_other _ _ _ _ (fun e2 => by rw [e2, hR] at e; omega), ?_⟩
 rw [heap_setCell_other _ _ _ _ (fun e2 => by have := h.c.me; rw [e2, hR] at this; cases this)]
 exact h.blk
theorem RnC.new (h : RnC w0 w ρ m s q) {b : Nat} (hb : w.heap.size ≤ b) : ρ b = 0 := by
 rcases Nat.eq_zero_or_pos (ρ b) with e | e
 ·exact e
 ·have := (h.lo b (by omega)).2
  omega
end
structure GR (w0 w w' : World) (ρ ρ' : Nat → Nat) (m r : Nat) : Prop where
 size : w.heap.size ≤ w'.heap.size
 other : ∀ r', r' ≠ 0 → r' ≠ r → ∀ b, b < w.heap.size → ρ b = r' → w'.heap[b]? = w.heap[b]? ∧ ρ' b = r'
 me : ρ' m = 1
 lo : ∀ b, ρ' b ≠ 0 → w0.heap.size ≤ b ∧ b < w'.heap.size
 below : Below w0.heap.size w0 w'
section
variable {wi w0 w w' : World} {ρi ρ ρ' : Nat → Nat} {m most r : Nat} {s s' : St} {q q' : Wh}
theorem grow_roles (h : RnC w0 w ρ m s q) (hm : Mv wi ρi w ρ) (hr : 2 ≤ r) (hr6 : r ≠ 6) {O : Option Nat} {v' : Value} (hO : ∀ b, O = some b → ρ b = r) (hg : w.grownBy w' O) (hl : ∀ b, v'.ownBlock = some b → b < w'.heap.size ∧ (ρ b = r ∨ (ρ b = 0 ∧ w0.heap.size ≤ b ∧ wi.heap.size ≤ b))) :
  GR w0 w w' ρ (rol (fun b => v'.ownBlock = some b) r ρ) m r ∧ Mv wi ρi w' (rol (fun b => v'.ownBlock = some b) r ρ) ∧ ∀ b, v'.ownBlock = some b → rol (fun b => v'.ownBlock = some b) r ρ b = r := by
 have hk : ∀ b, b < w.heap.size → ρ b ≠ r → w'.heap[b]? = w.heap[b]? := fun b hb hn => hg.block b hb fun e => hn (hO b e.symm)
 have hro : ∀ b, ρ b ≠ 0 → ρ b ≠ r → rol (fun b => v'.ownBlock = some b) r ρ b = ρ b := fun b h0 hn => rol_no (fun e => by rcases (hl b e).2 with e | ⟨e, _⟩ <;> omega) hn
 have hml := h.lo m (by rw [h.me]; decide)
 refine ⟨⟨hg.size, fun r' h0 hn b hb e => ⟨hk b hb (by omega), (hro b (by omega) (by omega)).trans e⟩, (hro m (by rw [h.me]; decide) (by rw [h.me]; omega)).trans h.me, fun b e => ?_, ?_⟩, ⟨Nat.le_trans hm.size hg.size, fun b hb hq => ?_⟩, fun b e => rol_yes e⟩
 ·rcases rol_ne e with e | ⟨e, _⟩
  ·refine ⟨?_, (hl b e).1⟩
   rcases (hl b e).2 with e | ⟨_, e, _⟩
   ·exact (h.lo b (by omega)).1
   ·exact e
  ·exact ⟨(h.lo b e).1, Nat.lt_of_lt_of_le (h.lo b e).2 hg.size⟩
 ·exact ⟨hg.os.trans h.below.os, hg.tape.trans h.below.tape, hg.output.trans h.below.output, Nat.le_trans h.below.size hg.size, fun b hb => (hg.block b (Nat.lt_of_lt_of_le hb h.below.size) fun e => by have := h.lo b (by rw [hO b e.symm]; omega); omega).trans (h.below.block b hb)⟩
 ·obtain ⟨h1, h2⟩ := hm.keep b hb hq
  have hbw := Nat.lt_of_lt_of_le hb hm.size
  refine ⟨(hk b hbw (by omega)).trans h1, (rol_no (fun e => ?_) (by omega)).trans h2⟩
  rcases (hl b e).2 with e | ⟨_, _, e⟩ <;> omega
theorem GR.tok (g : GR w0 w w' ρ ρ' m r) (hr6 : r ≠ 6) {x : TM} (h : TMOk w0 w ρ x) : TMOk w0 w' ρ' x := ⟨h.ex, h.env.keep (g.other 6 (by decide) (fun e => hr6 e.symm))⟩
theorem GR.pok (g : GR w0 w w' ρ ρ' m r) (hr6 : r ≠ 6) {x : PM} (h : PMOk w0 w ρ x) : PMOk w0 w' ρ' x := by
 obtain ⟨M, h1, h2, h3⟩ := h.todo
 exact ⟨h.ex, h.env.keep (g.other 6 (by decide) (fun e => hr6 e.symm)), ⟨M, h1.keep (g.other 6 (by decide) (fun e => hr6 e.symm)), h2, fun y hy => g.tok hr6 (h3 y hy)⟩, h.vals.keep (g.other 6 (by decide) (fun e => hr6 e.symm))⟩
theorem RnC.newTodo {O : Option Nat} {tv' : Value} {M' : List TM} (h : RnC w0 w ρ m s q) (hm : Mv wi ρi w ρ) (hO : w'.ownsRow 0 87 11 tv' M'.length (tmC M')) (hOb : ∀ b, O = some b → ρ b = 7) (hg : w.grownBy w' O)
  (hl : ∀ b, tv'.ownBlock = some b → b < w'.heap.size ∧ (ρ b = 7 ∨ (ρ b = 0 ∧ w0.heap.size ≤ b ∧ wi.heap.size ≤ b))) (ht : ∀ x ∈ M', TMOk w0 w ρ x) (hs : s' = { s with todo := (M'.map TM.t).reverse }) :
  ∃ ρ', RnC w0 w' ρ' m s' { q with tv := tv', MT := M' } ∧ Mv wi ρi w' ρ' := by
 subst hs
 obtain ⟨g, hv, hy⟩ := grow_roles h hm (r := 7) (by decide) (by decide) hOb hg hl
 refine ⟨_, ⟨hst_roles h.heap g.size (g.other 5 (by decide) (by decide)) fun b e => (g.lo b (by omega)).2, h.cells.keep (g.other 2 (by decide) (by decide)), h.procs.keep (g.other 3 (by decide) (by decide)), h.out.keep (g.other 4 (by decide) (by decide)), ⟨hO, hy⟩, h.vals.keep (g.other 8 (by decide) (by decide)), h.mp, rfl, fun x hx => g.pok (by decide) (h.pok x hx), fun x hx => g.tok (by decide) (ht x hx), g.me, g.lo, g.below⟩, hv⟩
theorem RnC.newVals {O : Option Nat} {vv' : Value} {l' : List Hp.V} (h : RnC w0 w ρ m s q) (hm : Mv wi ρi w ρ) (hO : w'.ownsRow 0 78 3 vv' l'.length (Hp.flatV l'.reverse)) (hOb : ∀ b, O = some b → ρ b = 8) (hg : w.grownBy w' O)
  (hl : ∀ b, vv'.ownBlock = some b → b < w'.heap.size ∧ (ρ b = 8 ∨ (ρ b = 0 ∧ w0.heap.size ≤ b ∧ wi.heap.size ≤ b))) (hs : s' = { s with vals := l' }) :
  ∃ ρ', RnC w0 w' ρ' m s' { q with vv := vv' } ∧ Mv wi ρi w' ρ' := by
 subst hs
 obtain ⟨g, hv, hy⟩ := grow_roles h hm (r := 8) (by decide) (by decide) hOb hg hl
 refine ⟨_, ⟨hst_roles h.heap g.size (g.other 5 (by decide) (by decide)) fun b e => (g.lo b (by omega)).2, h.cells.keep (g.other 2 (by decide) (by decide)), h.procs.keep (g.other 3 (by decide) (by decide)), h.out.keep (g.other 4 (by decide) (by decide)), h.todo.keep (g.other 7 (by decide) (by decide)), ⟨hO, hy⟩, h.mp, h.mt, fun x hx => g.pok (by decide) (h.pok x hx), fun x hx => g.tok (by decide) (h.tok x hx), g.me, g.lo, g.below⟩, hv⟩
theorem RnC.newCells {O : Option Nat} {cv' : Value} {l' : List Hp.V} (h : RnC w0 w ρ m s q) (hm : Mv wi ρi w ρ) (hO : w'.ownsRow 0 78 3 cv' l'.length (Hp.flatV l')) (hOb : ∀ b, O = some b → ρ b = 2) (hg : w.grownBy w' O)
  (hl : ∀ b, cv'.ownBlock = some b → b < w'.heap.size ∧ (ρ b = 2 ∨ (ρ b = 0 ∧ w0.heap.size ≤ b ∧ wi.heap.size ≤ b))) (hs : s' = { s with cells := l' }) :
  ∃ ρ', RnC w0 w' ρ' m s' { q with cv := cv' } ∧ Mv wi ρi w' ρ' := by
 subst hs
 obtain ⟨g, hv, hy⟩ := grow_roles h hm (r := 2) (by decide) (by decide) hOb hg hl
 refine ⟨_, ⟨hst_roles h.heap g.size (g.other 5 (by decide) (by decide)) fun b e => (g.lo b (by omega)).2, ⟨hO, hy⟩, h.procs.keep (g.other 3 (by decide) (by decide)), h.out.keep (g.other 4 (by decide) (by decide)), h.todo.keep (g.other 7 (by decide) (by decide)), h.vals.keep (g.other 8 (by decide) (by decide)), h.mp, h.mt, fun x hx => g.pok (by decide) (h.pok x hx), fun x hx => g.tok (by decide) (h.tok x hx), g.me, g.lo, g.below⟩, hv⟩
theorem RnC.newProcs {O : Option Nat} {pv' : Value} {M' : List PM} (h : RnC w0 w ρ m s q) (hm : Mv wi ρi w ρ) (hO : w'.ownsRow 0 119 13 pv' M'.length (pmC M')) (hOb : ∀ b, O = some b → ρ b = 3) (hg : w.grownBy w' O)
  (hl : ∀ b, pv'.ownBlock = some b → b < w'.heap.size ∧ (ρ b = 3 ∨ (ρ b = 0 ∧ w0.heap.size ≤ b ∧ wi.heap.size ≤ b))) (ht : ∀ x ∈ M', PMOk w0 w ρ x) (hs : s' = { s with procs := M'.map PM.p }) :
  ∃ ρ', RnC w0 w' ρ' m s' { q with pv := pv', MP := M' } ∧ Mv wi ρi w' ρ' := by
 subst hs
 obtain ⟨g, hv, hy⟩ := grow_roles h hm (r := 3) (by decide) (by decide) hOb hg hl
 refine ⟨_, ⟨hst_roles h.heap g.size (g.other 5 (by decide) (by decide)) fun b e => (g.lo b (by omega)).2, h.cells.keep (g.other 2 (by decide) (by decide)), ⟨hO, hy⟩, h.out.keep (g.other 4 (by decide) (by decide)), h.todo.keep (g.other 7 (by decide) (by decide)), h.vals.keep (g.other 8 (by decide) (by decide)), rfl, h.mt, fun x hx => g.pok (by decide) (ht x hx), fun x hx => g.tok (by decide) (h.tok x hx), g.me, g.lo, g.below⟩, hv⟩
theorem RnC.call {O' : Nat → Prop} {T' : List Hp.Th} (h : RnC w0 w ρ m s q) (hm : Mv wi ρi w ρ) (hg : Grow (fun b => ρ b = 5) O' w w') (hT : HSt w' 76 q.h O' T') :
  ∃ ρ', RnC w0 w' ρ' m { s with T := T' } q ∧ Mv wi ρi w' ρ' ∧ ∀ b, b < w.heap.size → ρ b ≠ 5 → w'.heap[b]? = w.heap[b]? ∧ ρ' b = ρ b := by
 have hO : ∀ b, O' b → ρ b = 5 ∨ (w.heap.size ≤ b ∧ b < w'.heap.size) := fun b e => (hg.own b e).imp id fun e2 => ⟨e2, hT.lt b e⟩
 have hkk : ∀ b, b < w.heap.size → ρ b ≠ 5 → w'.heap[b]? = w.heap[b]? ∧ rol O' 5 ρ b = ρ b := fun b hb hn => ⟨hg.block b hb hn, rol_no (fun e => by rcases hO b e with e | e <;> omega) hn⟩
 have hml := h.lo m (by rw [h.me]; decide)
 have g : GR w0 w w' ρ (rol O' 5 ρ) m 5 := by
  refine ⟨hg.size, fun r' h0 hn b hb e => ⟨(hkk b hb (by omega)).1, (hkk b hb (by omega)).2.trans e⟩, (hkk m hml.2 (by rw [h.me]; decide)).2.trans h.me, fun b e => ?_, h.below.trans (hg.below (fun b e => (h.lo b (by omega)).1) h.below.size)⟩
  rcases rol_ne e with e | ⟨e, _⟩
  ·rcases hO b e with e2 | e2
   ·exact ⟨(h.lo b (by omega)).1, hT.lt b e⟩
   ·exact ⟨Nat.le_trans h.below.size e2.1, e2.2⟩
  ·exact ⟨(h.lo b e).1, Nat.lt_of_lt_of_le (h.lo b e).2 hg.size⟩
 refine ⟨rol O' 5 ρ, ⟨hst_more hT (fun b e => rol_yes e) fun b e => hT.lt b ((rol_eq (by decide)).1 e), h.cells.keep (g.other 2 (by decide) (by decide)), h.procs.keep (g.other 3 (by decide) (by decide)), h.out.keep (g.other 4 (by decide) (by decide)), h.todo.keep (g.other 7 (by decide) (by decide)), h.vals.keep (g.other 8 (by decide) (by decide)), h.mp, h.mt, fun x hx => g.pok (by decide) (h.pok x hx), fun x hx => g.tok (by decide) (h.tok x hx), g.me, g.lo, g.below⟩, ⟨Nat.le_trans hm.size hg.size, fun b hb hq => ?_⟩, hkk⟩
 obtain ⟨h1, h2⟩ := hm.keep b hb hq
 obtain ⟨k1, k2⟩ := hkk b (Nat.lt_of_lt_of_le hb hm.size) (by omega)
 exact ⟨k1.trans h1, k2.trans h2⟩
theorem RnC.froz {S : Nat → Prop} (h : RnC w0 w ρ m s q) (hm : Mv wi ρi w ρ) (hS : ∀ b, S b → ρ b = 0 ∧ w0.heap.size ≤ b ∧ b < w.heap.size ∧ wi.heap.size ≤ b) :
  RnC w0 w (more S 6 ρ) m s q ∧ Mv wi ρi w (more S 6 ρ) ∧ ∀ b, ρ b ≠ 0 → more S 6 ρ b = ρ b := by
 have hkk : ∀ b, ρ b ≠ 0 → more S 6 ρ b = ρ b := fun b h0 => more_no fun e => h0 (hS b e).1
 have hK : ∀ r, r ≠ 0 → ∀ b, b < w.heap.size → ρ b = r → w.heap[b]? = w.heap[b]? ∧ more S 6 ρ b = r := fun r hr b hb e => ⟨rfl, (hkk b (by omega)).trans e⟩
 have hT : ∀ x, TMOk w0 w ρ x → TMOk w0 w (more S 6 ρ) x := fun x hx => ⟨hx.ex, hx.env.keep (hK 6 (by decide))⟩
 have hlo : ∀ b, more S 6 ρ b ≠ 0 → w0.heap.size ≤ b ∧ b < w.heap.size := fun b e => by
  rcases more_ne e with e | e
  ·exact ⟨(hS b e).2.1, (hS b e).2.2.1⟩
  ·exact h.lo b e
 refine ⟨⟨hst_roles h.heap (Nat.le_refl _) (hK 5 (by decide)) fun b e => (hlo b (by omega)).2, h.cells.keep (hK 2 (by decide)), h.procs.keep (hK 3 (by decide)), h.out.keep (hK 4 (by decide)), h.todo.keep (hK 7 (by decide)), h.vals.keep (hK 8 (by decide)), h.mp, h.mt, fun x hx => ?_, fun x hx => hT x (h.tok x hx), (hkk m (by rw [h.me]; decide)).trans h.me, hlo, h.below⟩, ⟨hm.size, fun b hb hq => ?_⟩, hkk⟩
 ·obtain ⟨k1, k2, ⟨M, k3, k4, k5⟩, k6⟩ := h.pok x hx
  exact ⟨k1, k2.keep (hK 6 (by decide)), ⟨M, k3.keep (hK 6 (by decide)), k4, fun y hy => hT y (k5 y hy)⟩, k6.keep (hK 6 (by decide))⟩
 ·obtain ⟨h1, h2⟩ := hm.keep b hb hq
  refine ⟨h1, (more_no fun e => ?_).trans h2⟩
  have := (hS b e).2.2.2
  omega
theorem RnO.grow0 {O : Option Nat} (h : RnO w0 w ρ m most s q) (hg : w.grownBy w' O) (hO : ∀ b, O = some b → ρ b = 0 ∧ w0.heap.size ≤ b) : RnO w0 w' ρ m most s q := by
 have hk : ∀ b, b < w.heap.size → ρ b ≠ 0 → w'.heap[b]? = w.heap[b]? := fun b hb h0 => hg.block b hb fun e => h0 (hO b e.symm).1
 refine ⟨h.c.keep hg.size ⟨hg.os.trans h.c.below.os, hg.tape.trans h.c.below.tape, hg.output.trans h.c.below.output, Nat.le_trans h.c.below.size hg.size, fun b hb => (hg.block b (Nat.lt_of_lt_of_le hb h.c.below.size) fun e => by have := (hO b e.symm).2; omega).trans (h.c.below.block b hb)⟩ fun b hb hr => hk b hb (by omega), (hk m h.lt (by rw [h.c.me]; decide)).trans h.blk⟩
theorem Mv.grow0 {O : Option Nat} (hm : Mv wi ρi w ρ) (hg : w.grownBy w' O) (hO : ∀ b, O = some b → wi.heap.size ≤ b) : Mv wi ρi w' ρ :=
 ⟨Nat.le_trans hm.size hg.size, fun b hb hr => ⟨(hg.block b (Nat.lt_of_lt_of_le hb hm.size) fun e => by have := hO b e.symm; omega).trans (hm.keep b hb hr).1, (hm.keep b hb hr).2⟩⟩
theorem Mv.bel (hm : Mv wi ρi w ρ) (hb : Below w.heap.size w w') : Mv wi ρi w' ρ := hm.trans (mv_bel hb ρ)
theorem Mv.store {R : Nat} (hm : Mv wi ρi w ρ) (hR : wi.heap.size ≤ R) (i : Nat) (v : Value) : Mv wi ρi (w.setCell ⟨R, i, none⟩ v) ρ :=
 ⟨by simp [World.setCell]; exact hm.size, fun b hb hr => ⟨(heap_setCell_other _ _ _ _ (show b ≠ R by omega)).trans (hm.keep b hb hr).1, (hm.keep b hb hr).2⟩⟩
structure VR (w : World) (ρ : Nat → Nat) (v : Value) (l : List Hp.V) : Prop where
 sl : VSl w v l
 role : ∀ b, v.ownBlock = some b → b < w.heap.size ∧ (ρ b = 0 ∨ ρ b = 6)
theorem VR.mv {v : Value} {l : List Hp.V} (h : VR w ρ v l) (hm : Mv w ρ w' ρ') : VR w' ρ' v l := by
 obtain ⟨⟨a, c, e, hs⟩, hr⟩ := h
 rcases hs with hs | ⟨ad, e2, hs⟩
 ·exact ⟨⟨a, c, e, .inl hs⟩, fun b e3 => by rw [e, hs.1] at e3; cases e3⟩
 ·subst e e2
  obtain ⟨hb, hr0⟩ := hr ad.block rfl
  have hk := hm.keep _ hb hr0
  refine ⟨⟨_, _, rfl, .inr ⟨ad, rfl, fun j u hu => (World.cell?_of_block (a := ad.add j) ?_).trans (hs j u hu)⟩⟩, fun b e => ?_⟩
  ·have : (ad.add j).block = ad.block := by unfold Addr.add; split <;> rfl
   rw [this]
   exact hk.1
  ·cases e
   exact ⟨Nat.lt_of_lt_of_le hb hm.size, by rw [hk.2]; exact hr0⟩
theorem own_take {w : World} {e size n cap k : Nat} {a : Option Addr} {xs : List Value} (h : w.ownsRow 0 e size (.slice a n cap) n xs) (hk : k ≤ n) : w.ownsRow 0 e size (.slice a k cap) k (xs.take (k * size)) := by
 obtain ⟨hl, ⟨h1, h2⟩ | ⟨g, c, cur, h1, h2, h3, h4, h5, h6, h7⟩⟩ := h
 ·cases h1
  have : k = 0 := by omega
  subst this
  refine ⟨by simp, .inl ⟨rfl, by simp⟩⟩
 ·cases h1
  refine ⟨?_, .inr ⟨g, _, cur, rfl, h2, h3, by omega, h5, h6, ?_⟩⟩
  ·rw [List.length_take, hl]
   exact Nat.min_eq_left (Nat.mul_le_mul_right _ hk)
  ·rw [← h7, List.take_take, Nat.min_eq_left (Nat.mul_le_mul_right _ hk)]
theorem flatV_take : ∀ (l : List Hp.V) (k : Nat), (Hp.flatV l).take (k * 3) = Hp.flatV (l.take k)
 | l, 0 => by simp [Hp.flatV]
 | [], k + 1 => by simp [Hp.flatV]
 | v :: l, k + 1 => by
  have e : Hp.flatV (v :: l) = .int .i64 v.kind :: .int .i64 v.int :: .string v.text :: Hp.flatV l := rfl
  have e2 : Hp.flatV ((v :: l).take (k + 1)) = .int .i64 v.kind :: .int .i64 v.int :: .string v.text :: Hp.flatV (l.take k) := rfl
  rw [e, e2, show (k + 1) * 3 = k * 3 + 1 + 1 + 1 by omega, List.take_succ_cons, List.take_succ_cons, List.take_succ_cons, flatV_take l k]
theorem tmC_take (l : List TM) (x : TM) : (tmC (l ++ [x])).take (l.length * 11) = tmC l := by
 rw [tmC_app, ← tmC_length l, List.take_left']
 rfl
end
theorem infoTodo : (Tryz.prog.info? 87).map (fun i => (i.zero, i.size, i.bytes)) = some (some (.agg #[.int .i64 0, .int .i64 0, .string ⟨#[]⟩, .slice none 0 0, .int .i64 0, .int .i64 0, .string ⟨#[]⟩, .slice none 0 0, .slice none 0 0, .slice none 0 0, .int .i64 0]), 11, 168) := by kernel_rfl
def RnPost (w0 : World) (ρ : Nat → Nat) (m most : Nat) (s' : St) (w : World) (e : Ending) (w' : World) : Prop := e = .returned (.tuple #[]) ∧ ∃ ρ' q', RnO w0 w' ρ' m most s' q' ∧ Mv w ρ w' ρ'
def TM.val (x : TM) : Value := .agg #[.int .i64 x.t.d, .int .i64 x.t.e.kind, .string x.t.e.name, x.nv, .int .i64 x.t.e.const.kind, .int .i64 x.t.e.const.int, .string x.t.e.const.text, x.dl, x.kv, x.ev, .int .i64 x.t.pos]
section
variable {w0 w w' : World} {ρ ρ' : Nat → Nat} {m most : Nat} {s s' : St} {q q' : Wh}
theorem RnO.alloc (h : RnO w0 w ρ m most s q) (o : Obj) : RnO w0 (w.alloc o) ρ m most s q := h.bel ((Below.refl _ _).alloc (Nat.le_refl _) o)
theorem RnO.blkG (h : RnO w0 w ρ m most s q) {O : Option Nat} (hO : ∀ b, O = some b → ρ b ≠ 1) (hg : w.grownBy w' O) : w'.heap[m]? = some (.cells (mCells s most q) 83 (0, 0)) :=
 (hg.block m h.lt fun e => hO m e.symm h.c.me).trans h.blk
theorem cells_ok (x : TM) (hn : ∃ a n c, x.nv = .slice a n c) (hd : ∃ a n c, x.dl = .slice a n c) (hk : ∃ a n c, x.kv = .slice a n c) (he : ∃ a n c, x.ev = .slice a n c) : ∀ u ∈ x.cells, u.oneCell' = true := by
 obtain ⟨_, _, _, hn⟩ := hn
 obtain ⟨_, _, _, hd⟩ := hd
 obtain ⟨_, _, _, hk⟩ := hk
 obtain ⟨_, _, _, he⟩ := he
 intro u hu
 unfold TM.cells at hu
 rw [hn, hd, hk, he] at hu
 simp only [List.mem_cons, List.not_mem_nil, or_false] at hu
 rcases hu with rfl | rfl | rfl | rfl | rfl | rfl | rfl | rfl | rfl | rfl | rfl <;> rfl
theorem ExAt.slices {k : Int} {n : ByteArray} {nv dl kv : Value} {c : Dt} {e : Ex} (h : ExAt w (exV k n nv c dl kv) e) : (∃ a n c, nv = .slice a n c) ∧ (∃ a n c, dl = .slice a n c) ∧ ∃ a n c, kv = .slice a n c := by
 obtain ⟨nv', dl', a, q, hv, hn, hd, _, _⟩ := h.inv
 unfold exV at hv
 simp only [Value.agg.injEq, Array.mk.injEq, List.cons.injEq] at hv
 obtain ⟨_, _, rfl, _, _, _, rfl, rfl, _⟩ := hv
 obtain ⟨a1, c1, hn⟩ := hn.len
 refine ⟨⟨_, _, _, hn⟩, ?_, ⟨_, _, _, rfl⟩⟩
 obtain ⟨a2, c2, hd, _⟩ := hd.inv
 simp only [Value.agg.injEq, Array.mk.injEq, List.cons.injEq, and_true, true_and] at hd
 exact ⟨_, _, _, hd⟩
theorem push_mk {x : TM} {g cap : Nat} (h : RnO w0 w ρ m most s q) (hx : TMOk w0 w ρ x) {wa w2 : World} (hb : Below w.heap.size w wa) (hown : w2.ownsRow 0 87 11 (.slice (some ⟨g, 0, none⟩) (q.MT.length + 1) cap) (q.MT.length + 1) (tmC q.MT ++ x.cells))
  {tv : Value} {H : Nat} (htv : q.tv = tv) (hg : wa.grownBy w2 tv.ownBlock) (hH : wa.heap.size = H) (hl : tv.ownBlock = some g ∨ g = H) (hlt : g < w2.heap.size) :
  (w2.cell? ⟨m, 10, none⟩ = some tv ∧ w2.frozen? ⟨m, 10, none⟩ = false ∧ m < w2.heap.size) ∧ ∃ ρ' q', RnO w0 (w2.setCell ⟨m, 10, none⟩ (.slice (some ⟨g, 0, none⟩) (q.MT.length + 1) cap)) ρ' m most { s with todo := x.t :: s.todo } q' ∧ Mv w ρ (w2.setCell ⟨m, 10, none⟩ (.slice (some ⟨g, 0, none⟩) (q.MT.length + 1) cap)) ρ' := by
 subst htv hH
 have ha := h.bel hb
 have hblk := ha.blkG (w' := w2) (O := q.tv.ownBlock) (fun b e => by rw [h.c.todo.2 b e]; decide) hg
 have hma := mv_bel hb ρ
 have hxa : TMOk w0 wa ρ x := hx.mv hma
 have hlen : q.MT.length + 1 = (q.MT ++ [x]).length := by simp
 obtain ⟨ρ', hc, hv⟩ := ha.c.newTodo (w' := w2) (M' := q.MT ++ [x]) (tv' := .slice (some ⟨g, 0, none⟩) (q.MT.length + 1) cap) (s' := { s with todo := x.t :: s.todo }) hma (by rw [tmC_app, ← hlen]; simpa [tmC] using hown) h.c.todo.2 hg
  (fun b e => by
   obtain rfl : g = b := by cases e; rfl
   refine ⟨hlt, ?_⟩
   rcases hl with e | e
   ·exact .inl (h.c.todo.2 g e)
   ·exact .inr ⟨ha.c.new (by omega), by have := ha.c.below.size; omega, by have := hb.size; omega⟩)
  (fun y hy => by
   rcases List.mem_append.1 hy with hy | hy
   ·exact (h.c.tok y hy).mv hma
   ·rw [List.mem_singleton.1 hy]; exact hxa)
  (by simp [h.c.mt])
 refine ⟨⟨cell_of_row w2 m 10 _ _ _ hblk, frozen_of_row w2 m 10 _ _ hblk, (Array.getElem?_eq_some_iff.1 hblk).1⟩, ρ', _, RnO.set2 hblk hc 10 _ rfl, hv.trans ⟨by simp [World.setCell], fun b hb hr => ⟨heap_setCell_other _ _ _ _ (fun e => by have := hc.me; rw [e, this] at hr; omega), rfl⟩⟩⟩
set_option maxHeartbeats 4000000 in
set_option maxRecDepth 100000 in
theorem push_any (h : RnO w0 w ρ m most s q) (x : TM) (hx : TMOk w0 w ρ x) (hl : s.todo.length ≤ 10000000) :
  Calls Tryz.prog 55 #[.pointer (some ⟨m, 0, none⟩), x.val] w (RnPost w0 ρ m most { s with todo := x.t :: s.todo } w) := by
 obtain ⟨i0, hi, hz0, hz1, hz2⟩ := info_parts infoTodo
 have HI := hid hi
 have HZ0 := hid hz0
 have HZ1 := hid hz1
 have HZ2 := hid hz2
 have hlen : q.MT.length ≤ 10000000 := by
  have := congrArg List.length h.c.mt
  simp at this
  omega
 obtain ⟨sn, sd, sk⟩ := ExAt.slices hx.ex
 have HS := hid (cells_ok x sn sd sk (by obtain ⟨a, c, e⟩ := hx.env.slice; exact ⟨_, _, _, e⟩))
 obtain ⟨ta, tc, htv⟩ := h.c.todo.slice
 have hm := h.lt
 have c10 : w.cell? ⟨m, 10, none⟩ = some (.slice ta q.MT.length tc) := by rw [h.cell 10, ← htv]; rfl
 have f10 := h.fz 10
 have HH := hid h
 have HX := hid hx
 have HTV := hid htv
 have HR := hid (by have := h.c.todo.1; rw [htv] at this; exact this : w.ownsRow 0 87 11 (.slice ta q.MT.length tc) q.MT.length (tmC q.MT))
 have HQ : Hid (q.MT.length + 1 = q.MT.length + 1) := rfl
 have HNC : Hid (∀ (j : Nat) (u : Value), x.cells[j]? = some u → (((w.alloc (.cells #[.int .i64 x.t.d, .int .i64 x.t.e.kind, .string x.t.e.name, x.nv, .int .i64 x.t.e.const.kind, .int .i64 x.t.e.const.int, .string x.t.e.const.text, x.dl, x.kv, x.ev, .int .i64 x.t.pos] 87)).alloc (.cells #[.int .i64 x.t.d, .int .i64 x.t.e.kind, .string x.t.e.name, x.nv, .int .i64 x.t.e.const.kind, .int .i64 x.t.e.const.int, .string x.t.e.const.text, x.dl, x.kv, x.ev, .int .i64 x.t.pos] 87)).drew).cell? ((⟨w.heap.size + 1, 0, none⟩ : Addr).add j) = some u) := World.news_of_block (by
  show (((w.alloc _).alloc _).heap[w.heap.size + 1]?) = _
  rw [show w.heap.size + 1 = (w.alloc (.cells #[.int .i64 x.t.d, .int .i64 x.t.e.kind, .string x.t.e.name, x.nv, .int .i64 x.t.e.const.kind, .int .i64 x.t.e.const.int, .string x.t.e.const.text, x.dl, x.kv, x.ev, .int .i64 x.t.pos] 87)).heap.size by simp]
  exact heap_alloc_new _ _)
 have HB2 : Hid (Below w.heap.size w (((w.alloc (.cells #[.int .i64 x.t.d, .int .i64 x.t.e.kind, .string x.t.e.name, x.nv, .int .i64 x.t.e.const.kind, .int .i64 x.t.e.const.int, .string x.t.e.const.text, x.dl, x.kv, x.ev, .int .i64 x.t.pos] 87)).alloc (.cells #[.int .i64 x.t.d, .int .i64 x.t.e.kind, .string x.t.e.name, x.nv, .int .i64 x.t.e.const.kind, .int .i64 x.t.e.const.int, .string x.t.e.const.text, x.dl, x.kv, x.ev, .int .i64 x.t.pos] 87)).drew)) := (((Below.refl _ _).alloc (Nat.le_refl _) _).alloc (by simp) _).drew
 have HSZ : Hid ((((w.alloc (.cells #[.int .i64 x.t.d, .int .i64 x.t.e.kind, .string x.t.e.name, x.nv, .int .i64 x.t.e.const.kind, .int .i64 x.t.e.const.int, .string x.t.e.const.text, x.dl, x.kv, x.ev, .int .i64 x.t.pos] 87)).alloc (.cells #[.int .i64 x.t.d, .int .i64 x.t.e.kind, .string x.t.e.name, x.nv, .int .i64 x.t.e.const.kind, .int .i64 x.t.e.const.int, .string x.t.e.const.text, x.dl, x.kv, x.ev, .int .i64 x.t.pos] 87)).drew).heap.size = w.heap.size + 2) := by show ((w.alloc _).alloc _).heap.size = _; simp
 clear hi hz0 hz1 hz2 h hx htv sn sd sk
 unfold RnPost
 unfold TM.val
 go_enter Tryz.func55, Tryz.ntmps55
 go_wp2_with fail
 go_region_law (first
  | (refine step_append_lies _ (by rfl) (.tmp 8) (.tmp 10) 81 (by rfl) 0 87 i0 _ 11 168 Tryz.underlying81 HI.out HZ0.out HZ1.out HZ2.out rfl (by decide) (.slice ta q.MT.length tc) q.MT.length (tmC q.MT) (by rfl) (by first | exact own_drewN ((HR.out.alloc _).alloc _) 1 | exact (own_drewN (HR.out.alloc _) 1).alloc _) ⟨w.heap.size + 1, 0, none⟩ 1 1 x.cells (by rfl) (by rfl) HNC.out HS.out (by decide) (by simp only [maxLen]; omega) (by omega) (Nat.zero_le _) (w.heap.size + 2) (by simp) ?_; intro g cap w2 hown hgr hlb hlt; have H2 := hid (push_mk HH.out HX.out HB2.out hown HTV.out hgr HSZ.out hlb hlt); have c2 := H2.out.1.1; have f2 := H2.out.1.2.1; have hm2 := H2.out.1.2.2; clear hown hgr hlb hlt)
  | fail)
 all_goals
  go_wp2_with fail
  go_end0
  exact ⟨rfl, H2.out.2⟩
theorem push_v (h : RnO w0 w ρ m most s q) (d pos : Int) (e : Ex) (env : Env) (nv dl kv ev : Value) (hx : ExAt w0 (exV e.kind e.name nv e.const dl kv) e) (he : RowR w ρ 6 125 2 env.length ev (envC env)) (hl : s.todo.length ≤ 10000000) :
  Calls Tryz.prog 55 #[.pointer (some ⟨m, 0, none⟩), .agg #[.int .i64 d, .int .i64 e.kind, .string e.name, nv, .int .i64 e.const.kind, .int .i64 e.const.int, .string e.const.text, dl, kv, ev, .int .i64 pos]] w (RnPost w0 ρ m most (s.push [⟨d, e, env, pos⟩]) w) :=
 push_any h ⟨⟨d, e, env, pos⟩, nv, dl, kv, ev⟩ ⟨hx, he⟩ hl
theorem zero_at (w : World) : ExAt w (exV 0 ⟨#[]⟩ (.slice none 0 0) Dt.zero (.slice none 0 0) (.slice none 0 0)) Ex.zero :=
 .nil 0 ⟨#[]⟩ [] Dt.zero _ _ ⟨none, 0, rfl, .inl ⟨rfl, rfl, rfl⟩⟩ (.nil 0 0 ⟨#[]⟩) ⟨_, _, _, rfl, Nat.le_refl _⟩
theorem push_z (h : RnO w0 w ρ m most s q) (d pos : Int) (hl : s.todo.length ≤ 10000000) :
  Calls Tryz.prog 55 #[.pointer (some ⟨m, 0, none⟩), .agg #[.int .i64 d, .int .i64 0, .string ⟨#[]⟩, .slice none 0 0, .int .i64 0, .int .i64 0, .string ⟨#[]⟩, .slice none 0 0, .slice none 0 0, .slice none 0 0, .int .i64 pos]] w (RnPost w0 ρ m most (s.push [zT d pos]) w) :=
 push_any h ⟨zT d pos, .slice none 0 0, .slice none 0 0, .slice none 0 0, .slice none 0 0⟩ ⟨zero_at w0, RowR.none w ρ 6 _ 2⟩ hl
theorem flatV_snoc (l : List Hp.V) (v : Hp.V) : Hp.flatV (v :: l).reverse = Hp.flatV l.reverse ++ [.int .i64 v.kind, .int .i64 v.int, .string v.text] := by
 rw [List.reverse_cons, Hp.flatV_append]
 rfl
theorem tell_mk {v : Hp.V} {g cap : Nat} (h : RnO w0 w ρ m most s q) {wa w2 : World} (hb : Below w.heap.size w wa) (hown : w2.ownsRow 0 78 3 (.slice (some ⟨g, 0, none⟩) (s.vals.length + 1) cap) (s.vals.length + 1) (Hp.flatV s.vals.reverse ++ [.int .i64 v.kind, .int .i64 v.int, .string v.text]))
  {vv : Value} {H : Nat} (hvv : q.vv = vv) (hg : wa.grownBy w2 vv.ownBlock) (hH : wa.heap.size = H) (hl : vv.ownBlock = some g ∨ g = H) (hlt : g < w2.heap.size) :
  (w2.cell? ⟨m, 11, none⟩ = some vv ∧ w2.frozen? ⟨m, 11, none⟩ = false ∧ m < w2.heap.size) ∧ ∃ ρ' q', RnO w0 (w2.setCell ⟨m, 11, none⟩ (.slice (some ⟨g, 0, none⟩) (s.vals.length + 1) cap)) ρ' m most (s.tell v) q' ∧ Mv w ρ (w2.setCell ⟨m, 11, none⟩ (.slice (some ⟨g, 0, none⟩) (s.vals.length + 1) cap)) ρ' := by
 subst hvv hH
 have ha := h.bel hb
 have hblk := ha.blkG (w' := w2) (O := q.vv.ownBlock) (fun b e => by rw [h.c.vals.2 b e]; decide) hg
 have hma := mv_bel hb ρ
 obtain ⟨ρ', hc, hv⟩ := ha.c.newVals (w' := w2) (l' := v :: s.vals) (vv' := .slice (some ⟨g, 0, none⟩) (s.vals.length + 1) cap) (s' := s.tell v) hma (by rw [flatV_snoc, List.length_cons]; exact hown) h.c.vals.2 hg
  (fun b e => by
   obtain rfl : g = b := by cases e; rfl
   refine ⟨hlt, ?_⟩
   rcases hl with e | e
   ·exact .inl (h.c.vals.2 g e)
   ·exact .inr ⟨ha.c.new (by omega), by have := ha.c.below.size; omega, by have := hb.size; omega⟩) rfl
 refine ⟨⟨cell_of_row w2 m 11 _ _ _ hblk, frozen_of_row w2 m 11 _ _ hblk, (Array.getElem?_eq_some_iff.1 hblk).1⟩, ρ', _, RnO.set2 hblk hc 11 _ rfl, hv.trans ⟨by simp [World.setCell], fun b hb hr => ⟨heap_setCell_other _ _ _ _ (fun e => by have := hc.me; rw [e, this] at hr; omega), rfl⟩⟩⟩
set_option maxHeartbeats 4000000 in
set_option maxRecDepth 100000 in
theorem tell_any (h : RnO w0 w ρ m most s q) (v : Hp.V) (hl : s.vals.length ≤ 10000000) :
  Calls Tryz.prog 71 #[.pointer (some ⟨m, 0, none⟩), .agg #[.int .i64 v.kind, .int .i64 v.int, .string v.text]] w (RnPost w0 ρ m most (s.tell v) w) := by
 obtain ⟨i0, hi, hz0, hz1, hz2⟩ := info_parts infoVal
 have HI := hid hi
 have HZ0 := hid hz0
 have HZ1 := hid hz1
 have HZ2 := hid hz2
 obtain ⟨ta, tc, htv⟩ := h.c.vals.slice
 have hm := h.lt
 have c11 : w.cell? ⟨m, 11, none⟩ = some (.slice ta s.vals.length tc) := by rw [h.cell 11, ← htv]; rfl
 have f11 := h.fz 11
 have HH := hid h
 have HTV := hid htv
 have HR := hid (by have := h.c.vals.1; rw [htv] at this; exact this : w.ownsRow 0 78 3 (.slice ta s.vals.length tc) s.vals.length (Hp.flatV s.vals.reverse))
 have HNC : Hid (∀ (j : Nat) (u : Value), [Value.int .i64 v.kind, .int .i64 v.int, .string v.text][j]? = some u → (((w.alloc (.cells #[.int .i64 v.kind, .int .i64 v.int, .string v.text] 78)).alloc (.cells #[.int .i64 v.kind, .int .i64 v.int, .string v.text] 78)).drew).cell? ((⟨w.heap.size + 1, 0, none⟩ : Addr).add j) = some u) := World.news_of_block (cs := #[.int .i64 v.kind, .int .i64 v.int, .string v.text]) (by
  show (((w.alloc _).alloc _).heap[w.heap.size + 1]?) = _
  rw [show w.heap.size + 1 = (w.alloc (.cells #[.int .i64 v.kind, .int .i64 v.int, .string v.text] 78)).heap.size by simp]
  exact heap_alloc_new _ _)
 have HB2 : Hid (Below w.heap.size w (((w.alloc (.cells #[.int .i64 v.kind, .int .i64 v.int, .string v.text] 78)).alloc (.cells #[.int .i64 v.kind, .int .i64 v.int, .string v.text] 78)).drew)) := (((Below.refl _ _).alloc (Nat.le_refl _) _).alloc (by simp) _).drew
 have HSZ : Hid ((((w.alloc (.cells #[.int .i64 v.kind, .int .i64 v.int, .string v.text] 78)).alloc (.cells #[.int .i64 v.kind, .int .i64 v.int, .string v.text] 78)).drew).heap.size = w.heap.size + 2) := by show ((w.alloc _).alloc _).heap.size = _; simp
 clear hi hz0 hz1 hz2 h htv
 unfold RnPost
 go_enter Tryz.func71, Tryz.ntmps71
 go_wp2_with fail
 go_region_law (first
  | (refine step_append_lies _ (by rfl) (.tmp 8) (.tmp 10) 79 (by rfl) 0 78 i0 _ 3 32 Tryz.underlying79 HI.out HZ0.out HZ1.out HZ2.out rfl (by decide) (.slice ta s.vals.length tc) s.vals.length (Hp.flatV s.vals.reverse) (by rfl) (by first | exact own_drewN ((HR.out.alloc _).alloc _) 1 | exact (own_drewN (HR.out.alloc _) 1).alloc _) ⟨w.heap.size + 1, 0, none⟩ 1 1 [.int .i64 v.kind, .int .i64 v.int, .string v.text] (by rfl) (by rfl) HNC.out (by simp [Value.oneCell']) (by decide) (by simp only [maxLen]; omega) (by omega) (Nat.zero_le _) (w.heap.size + 2) (by simp) ?_; intro g cap w2 hown hgr hlb hlt; have H2 := hid (tell_mk HH.out HB2.out hown HTV.out hgr HSZ.out hlb hlt); have c2 := H2.out.1.1; have f2 := H2.out.1.2.1; have hm2 := H2.out.1.2.2; clear hown hgr hlb hlt)
  | fail)
 all_goals
  go_wp2_with fail
  go_end0
  exact ⟨rfl, H2.out.2⟩
end
section
variable {w0 w w' : World} {ρ ρ' : Nat → Nat} {m most : Nat} {s s' : St} {q q' : Wh}
def KidsAt (w0 : World) (v : Value) (l : List Ex) : Prop := ∃ a c, v = .slice a l.length c ∧ l.length ≤ c ∧ (l = [] ∨ ∃ b off, a = some ⟨b, off, none⟩ ∧ b < w0.heap.size ∧ ∀ j x, l[j]? = some x → ∃ nv dl kv, ExC w0 b (off + j * 8) x nv dl kv)
theorem KidsAt.at {a : Option Addr} {n c : Nat} {l : List Ex} (h : KidsAt w0 (.slice a n c) l) {j : Nat} {x : Ex} (hx : l[j]? = some x) : n = l.length ∧ ∃ b off, a = some ⟨b, off, none⟩ ∧ b < w0.heap.size ∧ ∃ nv dl kv, ExC w0 b (off + j * 8) x nv dl kv := by
 obtain ⟨a', c', e, _, h⟩ := h
 cases e
 rcases h with rfl | ⟨b, off, rfl, hb, h⟩
 ·simp at hx
 ·exact ⟨rfl, b, off, rfl, hb, h j x hx⟩
theorem KidsAt.cap {a : Option Addr} {n c : Nat} {l : List Ex} (h : KidsAt w0 (.slice a n c) l) : l.length ≤ c := by
 obtain ⟨a', c', e, hc, h⟩ := h
 cases e
 exact hc
theorem KidsAt.take {a : Option Addr} {n c : Nat} {l : List Ex} (h : KidsAt w0 (.slice a n c) l) (k : Nat) (hk : k ≤ l.length) : KidsAt w0 (.slice a k c) (l.take k) := by
 obtain ⟨a', c', e, hc, h⟩ := h
 cases e
 refine ⟨a, c, by rw [List.length_take, Nat.min_eq_left hk], by rw [List.length_take]; omega, ?_⟩
 rcases h with rfl | ⟨b, off, rfl, hb, h⟩
 ·exact .inl (by simp)
 ·refine .inr ⟨b, off, rfl, hb, fun j x hx => h j x ?_⟩
  rw [List.getElem?_take] at hx
  split at hx
  ·exact hx
  ·cases hx
theorem ExAt.kids {k : Int} {n : ByteArray} {nv dl kv : Value} {c : Dt} {e : Ex} (h : ExAt w (exV k n nv c dl kv) e) : KidsAt w kv e.kids ∧ Sl w nv (strs e.names) ∧ DtAt w (fun _ => True) (.agg #[.int .i64 e.const.kind, .int .i64 e.const.int, .string e.const.text, dl]) e.const := by
 obtain ⟨nv', dl', a, q, hv, hn, hd, hq, hk⟩ := h.inv
 unfold exV at hv
 simp only [Value.agg.injEq, Array.mk.injEq, List.cons.injEq] at hv
 obtain ⟨_, _, rfl, _, _, _, rfl, rfl, _⟩ := hv
 exact ⟨⟨a, q, rfl, hq, hk⟩, hn, hd⟩
theorem push_push (s : St) (a b : List Todo) : (s.push a).push b = s.push (b ++ a) := by unfold St.push; simp
theorem push_nil (s : St) : s.push [] = s := rfl
theorem RnO.exc (h : RnO w0 w ρ m most s q) {b o : Nat} {x : Ex} {nv dl kv : Value} (hx : ExC w0 b o x nv dl kv) (hb : b < w0.heap.size) : ExC w b o x nv dl kv ∧ b < w.heap.size :=
 ⟨⟨(cell_w h hb).trans hx.c0, (cell_w h hb).trans hx.c1, (cell_w h hb).trans hx.c2, (cell_w h hb).trans hx.c3, (cell_w h hb).trans hx.c4, (cell_w h hb).trans hx.c5, (cell_w h hb).trans hx.c6, (cell_w h hb).trans hx.c7, hx.ex.bel h.c.below⟩, Nat.lt_of_lt_of_le hb h.c.below.size⟩
where
 cell_w (h : RnO w0 w ρ m most s q) {b o : Nat} (hb : b < w0.heap.size) : w.cell? ⟨b, o, none⟩ = w0.cell? ⟨b, o, none⟩ := World.cell?_of_block (a := ⟨b, o, none⟩) (h.c.below.block b hb)
set_option maxHeartbeats 4000000 in
set_option maxRecDepth 100000 in
theorem all_any (h : RnO w0 w ρ m most s q) (l : List Ex) (env : Env) (lv ev : Value) (hl : KidsAt w0 lv l) (he : RowR w ρ 6 125 2 env.length ev (envC env)) (hlen : l.length ≤ 1000000) (htl : s.todo.length ≤ 1000000) :
  Calls Tryz.prog 93 #[.pointer (some ⟨m, 0, none⟩), lv, ev] w (RnPost w0 ρ m most (s.push (l.map (eT · env))) w) := by
 obtain ⟨ea, ec, rfl⟩ := he.slice
 obtain ⟨la, lc, rfl, _, hk⟩ := id hl
 clear hk
 have HL := hid hl
 have HE := hid he
 have HH := hid h
 have g0 : IntKind.i64.wrap ((l.length : Int) - 1) = (l.length : Int) - 1 := by rw [IntKind.wrap_i64]; omega
 clear h hl he
 unfold RnPost
 go_enter Tryz.func93, Tryz.ntmps93
 go_wp2_with fail
 go_loopg [6] l.length (fun g i wr => ∃ j : Nat, j ≤ l.length ∧ j = g ∧ i = .int .i64 ((j : Int) - 1) ∧ ∃ ρj qj, RnO w0 wr ρj m most (s.push ((l.drop j).map (eT · env))) qj ∧ Mv w ρ wr ρj)
 case atStart => exact ⟨l.length, Nat.le_refl _, rfl, rfl, ρ, q, by simp only [List.drop_length, List.map_nil, push_nil]; exact HH.out, Mv.refl w ρ⟩
 case round =>
  obtain ⟨j, hj, rfl, rfl, ρj, qj, hO, hmv⟩ := hrel
  cases j with
  | zero =>
   have HP := hid hO
   have HM := hid hmv
   have g1 : ((0 : Nat) : Int) - 1 < 0 := by decide
   clear hO hmv
   go_wp2_with fail
   go_end0
   exact ⟨rfl, ρj, qj, by simpa using HP.out, HM.out⟩
  | succ k =>
   rw [show ((k + 1 : Nat) : Int) - 1 = (k : Int) by omega]
   obtain ⟨x, hx⟩ : ∃ x, l[k]? = some x := ⟨_, List.getElem?_eq_getElem (by omega)⟩
   obtain ⟨_, b, off, rfl, hb0, nv, dl, kv, hc⟩ := HL.out.at hx
   obtain ⟨⟨c0, c1, c2, c3, c4, c5, c6, c7, hex⟩, hb⟩ := hO.exc hc hb0
   have HX := hid hc.ex
   have HP := hid hO
   have HM := hid hmv
   have HEJ := hid (HE.out.mv hmv)
   have HTL : Hid ((s.push ((l.drop (k + 1)).map (eT · env))).todo.length ≤ 10000000) := by
    unfold Hid St.push
    simp
    omega
   have HS : Hid ((s.push ((l.drop (k + 1)).map (eT · env))).push [⟨0, x, env, 0⟩] = s.push ((l.drop k).map (eT · env))) := by
    unfold Hid
    have hd : l.drop k = x :: l.drop (k + 1) := by
     have hkl : k < l.length := by omega
     rw [List.drop_eq_getElem_cons hkl]
     rw [List.getElem?_eq_getElem hkl] at hx
     injection hx with hx
     rw [hx]
    rw [push_push, hd]
    rfl
   have g1 : (0 : Int) ≤ (k : Int) := by omega
   have g2 : (k : Int) < l.length := by omega
   have g3 : IntKind.i64.wrap ((k : Int) - 1) = (k : Int) - 1 := by rw [IntKind.wrap_i64]; omega
   clear hO hmv hc hx hex
   go_wp2_with fail
   with_reducible refine (push_v HP.out 0 0 x env nv dl kv _ HX.out HEJ.out HTL.out).mono ?_
   rintro e w1 ⟨rfl, ρ1, q1, h1, m1⟩
   rw [HS.out] at h1
   have HP1 := hid h1
   have HM1 := hid (HM.out.trans m1)
   clear h1 m1
   go_wp2_with fail
   go_roundg k
   case measure => omega
   case rel => exact ⟨k, by omega, rfl, by go_num, ρ1, q1, HP1.out, HM1.out⟩
end
theorem cellF_snoc (l : Env) (p : ByteArray × Int) (s : ByteArray) : cellF (l ++ [p]) s = if p.1 = s then p.2 else cellF l s := by unfold cellF; rw [List.foldl_append]; rfl
theorem env_at {w : World} {n : Nat} {a : Option Addr} {cap : Nat} {env : Env} (h : w.ownsRow 0 125 2 (.slice a n cap) env.length (envC env)) {j : Nat} {p : ByteArray × Int} (hp : env[j]? = some p) :
  n = env.length ∧ ∃ g, a = some ⟨g, 0, none⟩ ∧ g < w.heap.size ∧ w.cell? ⟨g, j * 2, none⟩ = some (.string p.1) ∧ w.cell? ⟨g, j * 2 + 1, none⟩ = some (.int .i64 p.2) := by
 have hj : j < env.length := (List.getElem?_eq_some_iff.1 hp).1
 rcases own_shape h with ⟨_, e2, _⟩ | ⟨g, c, e, h0, h1, h2, h3⟩
 ·omega
 ·cases e
  refine ⟨rfl, g, rfl, h1, ?_, ?_⟩
  ·rw [h.cellAt (j * 2) (by omega)]; exact (envC_at env j p hp).1
  ·rw [h.cellAt (j * 2 + 1) (by omega)]; exact (envC_at env j p hp).2
set_option maxHeartbeats 4000000 in
set_option maxRecDepth 100000 in
theorem cell_any (env : Env) (ev : Value) (s : ByteArray) (w : World) (h : w.ownsRow 0 125 2 ev env.length (envC env)) (hl : env.length ≤ 1000000000000) :
  Calls Tryz.prog 91 #[ev, .string s] w fun e w' => e = .returned (.int .i64 (cellF env s)) ∧ w = w' := by
 obtain ⟨a, cap, rfl⟩ : ∃ a cap, ev = .slice a env.length cap := by
  rcases own_shape h with ⟨e, e2, _⟩ | ⟨g, c, e, _⟩
  ·exact ⟨none, 0, by rw [e, e2]⟩
  ·exact ⟨_, c, e⟩
 have H := hid h
 clear h
 go_enter Tryz.func91, Tryz.ntmps91
 go_wp2_with fail
 go_loopg [5, 6] env.length (fun g at' i wr => ∃ j : Nat, j ≤ env.length ∧ g = env.length - j ∧ i = .int .i64 j ∧ at' = .int .i64 (cellF (env.take j) s) ∧ w = wr)
 case atStart => exact ⟨0, Nat.zero_le _, rfl, rfl, rfl, rfl⟩
 case round =>
  obtain ⟨j, hj, rfl, rfl, rfl, rfl⟩ := hrel
  by_cases hlt : j < env.length
  ·obtain ⟨p, hp⟩ : ∃ p, env[j]? = some p := ⟨_, List.getElem?_eq_getElem hlt⟩
   obtain ⟨_, g, rfl, hb, c0, c1⟩ := env_at H.out hp
   have HP := hid hp
   have hg1 : (0 : Int) ≤ j := by omega
   have hg2 : (j : Int) < env.length := by omega
   have hgw : IntKind.i64.wrap ((j : Int) + 1) = j + 1 := by rw [IntKind.wrap_i64]; omega
   have HT : Hid (cellF (env.take (j + 1)) s = if p.1 = s then p.2 else cellF (env.take j) s) := by
    unfold Hid
    rw [List.take_add_one, hp]
    exact cellF_snoc _ _ _
   clear hp
   by_cases h0 : p.1 = s
   ·have h1 : (p.1.toList == s.toList) = true := by rw [h0]; exact beq_self_eq_true _
    have HT2 : Hid (cellF (env.take (j + 1)) s = p.2) := by
     unfold Hid; rw [HT.out, if_pos h0]
    clear h0
    go_wp2_with fail
    go_roundg (env.length - (j + 1))
    case measure => omega
    case rel => exact ⟨j + 1, by omega, rfl, by go_num, by rw [HT2.out], rfl⟩
   ·have h1 := bytes_ne h0
    have HT2 : Hid (cellF (env.take (j + 1)) s = cellF (env.take j) s) := by
     unfold Hid; rw [HT.out, if_neg h0]
    clear h0
    go_wp2_with fail
    go_roundg (env.length - (j + 1))
    case measure => omega
    case rel => exact ⟨j + 1, by omega, rfl, by go_num, by rw [HT2.out], rfl⟩
  ·have HF : Hid (cellF (env.take j) s = cellF env s) := by
    unfold Hid
    rw [List.take_of_length_le (by omega)]
   have hge : (env.length : Int) ≤ j := by omega
   go_wp2_with fail
   go_ret
   rw [HF.out]
   exact ⟨rfl, rfl⟩
end Rn
structure RMk (h : Nat) (O : Nat → Prop) (T : List Hp.Th) (av : Value) (l : List Hp.V) (w wx : World) : Prop where
 st : HSt wx 76 h O T
 below : Below w.heap.size w wx
 args : VSl wx av l
 res : wx.heap[w.heap.size]? = some (.cells #[.int .i64 0, .int .i64 0, .string ⟨#[]⟩] 78 (0, 0))
section
variable {h : Nat} {O : Nat → Prop} {T : List Hp.Th} {av : Value} {l : List Hp.V} {w wx wy : World}
theorem RMk.bel (H : RMk h O T av l w wx) (hb : Below wx.heap.size wx wy) : RMk h O T av l w wy :=
 ⟨H.st.below hb (Nat.le_refl _), H.below.trans (hb.mono H.below.size), H.args.below hb (Nat.le_refl _), (hb.block _ (Array.getElem?_eq_some_iff.1 H.res).1).trans H.res⟩
theorem RMk.out (H : RMk h O T av l w wx) : wx.cell? ⟨w.heap.size, 0, none⟩ = some (.int .i64 0) ∧ wx.cell? ⟨w.heap.size, 1, none⟩ = some (.int .i64 0) ∧ wx.cell? ⟨w.heap.size, 2, none⟩ = some (.string ⟨#[]⟩) ∧ wx.frozen? ⟨w.heap.size, 0, none⟩ = false ∧ wx.frozen? ⟨w.heap.size, 1, none⟩ = false ∧ wx.frozen? ⟨w.heap.size, 2, none⟩ = false ∧ w.heap.size < wx.heap.size :=
 ⟨cell_of_row wx _ 0 _ _ _ H.res, cell_of_row wx _ 1 _ _ _ H.res, cell_of_row wx _ 2 _ _ _ H.res, frozen_of_row wx _ 0 _ _ H.res, frozen_of_row wx _ 1 _ _ H.res, frozen_of_row wx _ 2 _ _ H.res, (Array.getElem?_eq_some_iff.1 H.res).1⟩
theorem RMk.say (H : RMk h O T av l w wx) (hlt : ∀ b, O b → b < w.heap.size) (r : Hp.V) (er : Int) :
  (((wx.setCell ⟨w.heap.size, 0, none⟩ (.int .i64 r.kind)).setCell ⟨w.heap.size, 1, none⟩ (.int .i64 r.int)).setCell ⟨w.heap.size, 2, none⟩ (.string r.text)).heap[w.heap.size]? = some (.cells #[.int .i64 r.kind, .int .i64 r.int, .string r.text] 78 (0, 0)) ∧
  DoPost 76 h O r er T w (.returned (.tuple #[.agg #[.int .i64 r.kind, .int .i64 r.int, .string r.text], .int .i64 er])) (((wx.setCell ⟨w.heap.size, 0, none⟩ (.int .i64 r.kind)).setCell ⟨w.heap.size, 1, none⟩ (.int .i64 r.int)).setCell ⟨w.heap.size, 2, none⟩ (.string r.text)) :=
 ⟨three_set _ _ _ _ _ _ _ _ _ H.res, O, rfl, ret_end H.st (Grow.of H.below) (fun e => by have := hlt _ e; omega) (Nat.le_refl _) _ _ _⟩
theorem RMk.arg (H : RMk h O T av l w wx) {k : Nat} {v : Hp.V} (hv : l[k]? = some v) : ∃ b off c, av = .slice (some ⟨b, off, none⟩) l.length c ∧ b < wx.heap.size ∧ wx.cell? ⟨b, off + k * 3, none⟩ = some (.int .i64 v.kind) ∧ wx.cell? ⟨b, off + k * 3 + 1, none⟩ = some (.int .i64 v.int) ∧ wx.cell? ⟨b, off + k * 3 + 2, none⟩ = some (.string v.text) := by
 obtain ⟨a, c, e⟩ := H.args.len
 have h2 := H.args
 subst e
 obtain ⟨b, off, rfl, hb, hc⟩ := h2.at (fun e => by rw [e] at hv; simp at hv)
 exact ⟨b, off, c, rfl, hb, hc k v hv⟩
theorem RMk.post {T' : List Hp.Th} {w5 : World} {r : Hp.V} {er : Int} (H : RMk h O T av l w wx) (hlt0 : ∀ b, O b → b < w.heap.size) (hp : ∃ O', HSt w5 76 h O' T' ∧ Grow O O' wx w5) :
  w5.heap[w.heap.size]? = some (.cells #[.int .i64 0, .int .i64 0, .string ⟨#[]⟩] 78 (0, 0)) ∧ w.heap.size < w5.heap.size ∧
  DoPost 76 h O r er T' w (.returned (.tuple #[.agg #[.int .i64 r.kind, .int .i64 r.int, .string r.text], .int .i64 er])) (((w5.setCell ⟨w.heap.size, 0, none⟩ (.int .i64 r.kind)).setCell ⟨w.heap.size, 1, none⟩ (.int .i64 r.int)).setCell ⟨w.heap.size, 2, none⟩ (.string r.text)) := by
 obtain ⟨O', h1, h2⟩ := hp
 have hlt := (Array.getElem?_eq_some_iff.1 H.res).1
 have hn : ¬ O w.heap.size := fun e => by have := hlt0 _ e; omega
 have hn' : ¬ O' w.heap.size := fun e => by
  rcases h2.own _ e with e | e
  ·exact hn e
  ·omega
 have hG : Grow O O' w w5 := (Grow.of H.below).trans h2
 exact ⟨(h2.block _ hlt hn).trans H.res, Nat.lt_of_lt_of_le hlt h2.size, O', rfl, ret_end h1 hG hn' (Nat.le_refl _) _ _ _⟩
end
namespace Hp
def headOk (kind : Int) (n : Nat) : Bool := if kind = 0 then decide (n = 2) else if kind = 3 then decide (n = 1) else if kind = 1 ∨ kind = 2 then decide (n ≤ 1000) else decide (kind = 4)
def partOk (N : Nat) (kind : Int) (v : V) : Bool := may N v && (decide (kind ≠ 2) || decide (v.kind = 2))
theorem makeOk_split (T : List Th) (kind : Int) (l : List V) : makeOk T kind l = (headOk kind l.length && l.all (partOk T.length kind)) := by
 have h1 : l.all (partOk T.length kind) = (l.all (may T.length) && l.all fun v => (decide (kind ≠ 2) || decide (v.kind = 2))) := by
  induction l with
  | nil => rfl
  | cons v l ih =>
   simp only [List.all_cons, ih, partOk]
   cases may T.length v <;> cases (decide (kind ≠ 2) || decide (v.kind = 2)) <;> simp
 rw [h1]
 unfold makeOk sizeOk headOk
 by_cases h2 : kind = 2
 ·subst h2
  simp
  have e : (l.all fun v => decide (v.kind = 2)) = !(l.any fun v => !decide (v.kind = 2)) := by
   rw [List.not_any_eq_all_not]
   simp
  rw [e]
  cases (l.all (may T.length)) <;> cases decide (l.length ≤ 1000) <;> simp
 ·have e : (l.all fun v => (decide (kind ≠ 2) || decide (v.kind = 2))) = true := by
   rw [List.all_eq_true]
   intro v _
   simp [h2]
  rw [e, Bool.and_true]
  rw [Bool.and_comm]
  congr 1
  by_cases h0 : kind = 0
  ·simp [h0]
  ·by_cases h3 : kind = 3
   ·simp [h3]
   ·by_cases h1 : kind = 1
    ·simp [h1]
    ·simp [h0, h1, h2, h3]
end Hp
set_option maxHeartbeats 40000000 in
set_option maxRecDepth 100000 in
theorem rmake_any {w : World} {h : Nat} {O : Nat → Prop} {T : List Hp.Th} (H : HSt w 76 h O T) (kind : Int) (l : List Hp.V) (av : Value) (hv : VSl w av l) (hl : l.length ≤ 1000000) (ht : ∀ v ∈ l, v.text.size ≤ maxLen) (hT : T.length ≤ 1000000) :
  Calls Tryz.prog 110 #[.pointer (some ⟨h, 0, none⟩), .int .i64 kind, av] w (DoPost 76 h O (Hp.makeF T kind l).1 (Hp.makeF T kind l).2.1 (Hp.makeF T kind l).2.2 w) := by
 have HLT := hid H.lt
 have HSP := hid (Hp.makeOk_split T kind l)
 have HB : Hid (RMk h O T av l w (w.alloc (.cells #[.int .i64 0, .int .i64 0, .string ⟨#[]⟩] 78))) := by
  have hb0 : Below w.heap.size w (w.alloc (.cells #[.int .i64 0, .int .i64 0, .string ⟨#[]⟩] 78)) := (Below.refl _ _).alloc (Nat.le_refl _) _
  exact ⟨H.below hb0 (Nat.le_refl _), hb0, hv.below hb0 (Nat.le_refl _), heap_alloc_new w _⟩
 obtain ⟨ap, cp, rfl⟩ := hv.len
 obtain ⟨ok, hok⟩ : ∃ ok, Hp.headOk kind l.length = ok := ⟨_, rfl⟩
 have HOK := hid hok
 clear H hv hok
 go_enter Tryz.func110, Tryz.ntmps110
 go_upto_region 2 with fail
 go_cut [45] (fun s45 wx => s45 = .bool (!ok) ∧ wx = w.alloc (.cells #[.int .i64 0, .int .i64 0, .string ⟨#[]⟩] 78))
 case first =>
  have hcase : (kind < 0) ∨ (4 < kind) ∨ kind = 0 ∨ kind = 1 ∨ kind = 2 ∨ kind = 3 ∨ kind = 4 := by omega
  rcases hcase with hk | hk | rfl | rfl | rfl | rfl | rfl
  ·obtain rfl : ok = false := by
    rw [← HOK.out]
    unfold Hp.headOk
    rw [if_neg (by omega), if_neg (by omega), if_neg (by omega)]
    exact decide_eq_false (by omega)
   have q1 : decide (kind < 0) = true := decide_eq_true hk
   clear hk
   go_wp2_with fail
   go_meet
   case rel => exact ⟨rfl, rfl⟩
  ·obtain rfl : ok = false := by
    rw [← HOK.out]
    unfold Hp.headOk
    rw [if_neg (by omega), if_neg (by omega), if_neg (by omega)]
    exact decide_eq_false (by omega)
   have q1 : decide (kind < 0) = false := decide_eq_false (by omega)
   have q2 : decide (4 < kind) = true := decide_eq_true hk
   clear hk
   go_wp2_with fail
   go_meet
   case rel => exact ⟨rfl, rfl⟩
  ·by_cases hn : l.length = 2
   ·obtain rfl : ok = true := by rw [← HOK.out]; unfold Hp.headOk; rw [if_pos rfl]; exact decide_eq_true hn
    have q : (((l.length : Nat) : Int) != 2) = false := by rw [hn]; rfl
    clear hn
    go_wp2_with fail
    go_meet
    case rel => exact ⟨rfl, rfl⟩
   ·obtain rfl : ok = false := by rw [← HOK.out]; unfold Hp.headOk; rw [if_pos rfl]; exact decide_eq_false hn
    have q : (((l.length : Nat) : Int) != 2) = true := by rw [bne_iff_ne]; omega
    clear hn
    go_wp2_with fail
    go_meet
    case rel => exact ⟨rfl, rfl⟩
  ·by_cases hn : l.length ≤ 1000
   ·obtain rfl : ok = true := by rw [← HOK.out]; unfold Hp.headOk; simp [hn]
    have q : decide ((1000 : Int) < l.length) = false := decide_eq_false (by omega)
    clear hn
    go_wp2_with fail
    go_meet
    case rel => exact ⟨rfl, rfl⟩
   ·obtain rfl : ok = false := by rw [← HOK.out]; unfold Hp.headOk; simp; omega
    have q : decide ((1000 : Int) < l.length) = true := decide_eq_true (by omega)
    clear hn
    go_wp2_with fail
    go_meet
    case rel => exact ⟨rfl, rfl⟩
  ·by_cases hn : l.length ≤ 1000
   ·obtain rfl : ok = true := by rw [← HOK.out]; unfold Hp.headOk; simp [hn]
    have q : decide ((1000 : Int) < l.length) = false := decide_eq_false (by omega)
    clear hn
    go_wp2_with fail
    go_meet
    case rel => exact ⟨rfl, rfl⟩
   ·obtain rfl : ok = false := by rw [← HOK.out]; unfold Hp.headOk; simp; omega
    have q : decide ((1000 : Int) < l.length) = true := decide_eq_true (by omega)
    clear hn
    go_wp2_with fail
    go_meet
    case rel => exact ⟨rfl, rfl⟩
  ·by_cases hn : l.length = 1
   ·obtain rfl : ok = true := by rw [← HOK.out]; unfold Hp.headOk; simp [hn]
    have q : (((l.length : Nat) : Int) != 1) = false := by rw [hn]; rfl
    clear hn
    go_wp2_with fail
    go_meet
    case rel => exact ⟨rfl, rfl⟩
   ·obtain rfl : ok = false := by rw [← HOK.out]; unfold Hp.headOk; simp [hn]
    have q : (((l.length : Nat) : Int) != 1) = true := by rw [bne_iff_ne]; omega
    clear hn
    go_wp2_with fail
    go_meet
    case rel => exact ⟨rfl, rfl⟩
  ·obtain rfl : ok = true := by rw [← HOK.out]; rfl
   go_wp2_with fail
   go_meet
   case rel => exact ⟨rfl, rfl⟩
 case rest =>
  obtain ⟨rfl, rfl⟩ := hcut
  cases ok with
  | false =>
   have HD : Hid (Hp.makeF T kind l = (Hp.none, 1, T)) := by unfold Hid Hp.makeF; rw [HSP.out, HOK.out]; simp
   obtain ⟨r0, r1, r2, f0, f1, f2, hw⟩ := HB.out.out
   go_wp2_with fail
   refine bodyPost_ret (res2 rfl _ _ w.heap.size 78 _ (0, 0) rfl (heap_alloc_new w _) valD valSize) rfl ?_
   rw [HD.out]
   have hb0 : Below w.heap.size w (w.alloc (.cells #[.int .i64 0, .int .i64 0, .string ⟨#[]⟩] 78)) := (Below.refl _ _).alloc (Nat.le_refl _) _
   exact ⟨O, rfl, HB.out.st, Grow.of hb0⟩
  | true =>
   go_wp2_with fail
   go_loopg [9] l.length (fun gk s9 wx => ∃ k : Nat, k ≤ l.length ∧ gk = l.length - k ∧ s9 = .int .i64 k ∧ Hid (∀ (j : Nat) (v : Hp.V), j < k → l[j]? = some v → Hp.partOk T.length kind v = true) ∧ Hid (RMk h O T (.slice ap l.length cp) l w wx))
   case atStart => exact ⟨0, by omega, rfl, rfl, fun j v hj => by omega, HB⟩
   case round =>
    obtain ⟨k, hk, rfl, rfl, HA, HB2⟩ := hrel
    clear HB
    by_cases hlt : k < l.length
    ·obtain ⟨v, hv⟩ : ∃ v, l[k]? = some v := ⟨_, List.getElem?_eq_getElem hlt⟩
     obtain ⟨b, off, c2, e2, hb, a0, a1, a2⟩ := HB2.out.arg hv
     cases e2
     have hk1 : (0 : Int) ≤ k := by omega
     have hk2 : (k : Int) < l.length := by omega
     have hgk : IntKind.i64.wrap ((k : Int) + 1) = k + 1 := by rw [IntKind.wrap_i64]; omega
     have HM : Hid (Calls Tryz.prog 75 #[.pointer (some ⟨h, 0, none⟩), .agg #[.int .i64 v.kind, .int .i64 v.int, .string v.text]] wr fun e w' => e = .returned (.bool (Hp.may T.length v)) ∧ Below wr.heap.size wr w') := by
      obtain ⟨vt, M, HA0, e⟩ := HB2.out.st
      have hc := HA0.c0
      obtain ⟨a, c, rfl⟩ := HA0.shape
      have := rmay_any h M.length c a v (ht v (List.mem_of_getElem? hv)) wr hc HA0.lth
      rw [← e, List.length_map]
      exact this
     have HVK := hid hv
     clear hv
     obtain ⟨mb, hmb⟩ : ∃ mb, Hp.may T.length v = mb := ⟨_, rfl⟩
     obtain ⟨po, hpo⟩ : ∃ po, Hp.partOk T.length kind v = po := ⟨_, rfl⟩
     have HPO : Hid (po = (mb && (decide (kind ≠ 2) || decide (v.kind = 2)))) := by
      unfold Hid
      rw [← hpo, ← hmb]
      rfl
     rw [hmb] at HM
     have HPK := hid hpo
     clear hmb hpo
     go_upto_region 7 with fail
     go_cut [70] (fun s70 wx => s70 = .bool (!po) ∧ Hid (RMk h O T (.slice (some ⟨b, off, none⟩) l.length cp) l w wx))
     case first =>
      cases mb with
      | false =>
       obtain rfl : po = false := by rw [HPO.out]; rfl
       go_wp2_with fail
       with_reducible refine HM.out.mono ?_
       rintro e w5 ⟨rfl, hb5⟩
       have HB5 := hid (HB2.out.bel hb5)
       clear hb5
       go_wp2_with fail
       go_meet
       case rel => exact ⟨rfl, HB5⟩
      | true =>
       by_cases h2 : kind = 2
       ·have q2 : (kind == 2) = true := beq_iff_eq.2 h2
        by_cases hvk : v.kind = 2
        ·obtain rfl : po = true := by rw [HPO.out]; simp [hvk]
         have q3 : (v.kind != 2) = false := by rw [hvk]; rfl
         clear h2 hvk
         go_wp2_with fail
         with_reducible refine HM.out.mono ?_
         rintro e w5 ⟨rfl, hb5⟩
         have HB5 := hid (HB2.out.bel hb5)
         have a5 : w5.cell? ⟨b, off + k * 3, none⟩ = some (.int .i64 v.kind) := (hb5.cell (p := ⟨b, off + k * 3, none⟩) hb).trans a0
         clear hb5
         go_wp2_with fail
         go_meet
         case rel => exact ⟨rfl, HB5⟩
        ·obtain rfl : po = false := by rw [HPO.out]; simp [hvk, h2]
         have q3 : (v.kind != 2) = true := by rw [bne_iff_ne]; exact hvk
         clear h2 hvk
         go_wp2_with fail
         with_reducible refine HM.out.mono ?_
         rintro e w5 ⟨rfl, hb5⟩
         have HB5 := hid (HB2.out.bel hb5)
         have a5 : w5.cell? ⟨b, off + k * 3, none⟩ = some (.int .i64 v.kind) := (hb5.cell (p := ⟨b, off + k * 3, none⟩) hb).trans a0
         clear hb5
         go_wp2_with fail
         go_meet
         case rel => exact ⟨rfl, HB5⟩
       ·have q2 : (kind == 2) = false := beq_eq_false_iff_ne.2 h2
        obtain rfl : po = true := by rw [HPO.out]; simp [h2]
        clear h2
        go_wp2_with fail
        with_reducible refine HM.out.mono ?_
        rintro e w5 ⟨rfl, hb5⟩
        have HB5 := hid (HB2.out.bel hb5)
        clear hb5
        go_wp2_with fail
        go_meet
        case rel => exact ⟨rfl, HB5⟩
     case rest =>
      obtain ⟨rfl, HB4⟩ := hcut
      cases po with
      | true =>
       go_wp2_with fail
       go_roundg (l.length - (k + 1))
       case measure => omega
       case rel => exact ⟨k + 1, by omega, rfl, by go_num, fun j u hj hu => by
        rcases (by omega : j < k ∨ j = k) with h1 | rfl
        ·exact HA.out j u h1 hu
        ·rw [HVK.out] at hu; cases hu; exact HPK.out, HB4⟩
      | false =>
       have HD : Hid (Hp.makeF T kind l = (Hp.none, 1, T)) := by
        unfold Hid Hp.makeF
        rw [HSP.out]
        have : l.all (Hp.partOk T.length kind) = false := List.all_eq_false.2 ⟨v, List.mem_of_getElem? HVK.out, by rw [HPK.out]; decide⟩
        rw [this]
        simp
       obtain ⟨r0, r1, r2, f0, f1, f2, hw⟩ := HB4.out.out
       go_wp2_with fail
       have E := HB4.out.say HLT.out Hp.none 1
       refine bodyPost_ret (res2 rfl _ _ w.heap.size 78 _ (0, 0) rfl E.1 valD valSize) rfl ?_
       rw [HD.out]
       exact E.2
    ·obtain rfl : l.length = k := by omega
     have HAL : Hid (l.all (Hp.partOk T.length kind) = true) := by
      refine List.all_eq_true.2 fun v hv => ?_
      obtain ⟨j, hj, e⟩ := List.getElem_of_mem hv
      exact HA.out j v hj (by rw [List.getElem?_eq_getElem hj, e])
     have HD : Hid (Hp.makeF T kind l = (⟨8, T.length, ⟨#[]⟩⟩, 0, T ++ [⟨kind, l⟩])) := by
      unfold Hid Hp.makeF
      rw [HSP.out, HOK.out, HAL.out]
      rfl
     have HADD : Hid (Calls Tryz.prog 114 #[.pointer (some ⟨h, 0, none⟩), .int .i64 kind, .slice ap l.length cp] wr (RAddPost 76 h O T ⟨kind, l⟩ wr)) := radd_any h O T kind l _ wr HB2.out.st HB2.out.args hT hl
     unfold RAddPost Hp.V.val at HADD
     dsimp only at HADD
     clear HA
     go_wp2_with fail
     with_reducible refine HADD.out.mono ?_
     rintro e w5 ⟨O5, rfl, h5, g5⟩
     obtain ⟨hz5, hlt5, hpost⟩ := HB2.out.post (r := ⟨8, T.length, ⟨#[]⟩⟩) (er := 0) HLT.out ⟨O5, h5, g5⟩
     have r0 := cell_of_row w5 _ 0 _ _ _ hz5
     have r1 := cell_of_row w5 _ 1 _ _ _ hz5
     have r2 := cell_of_row w5 _ 2 _ _ _ hz5
     simp only [List.getElem?_toArray, List.getElem?_cons_zero, List.getElem?_cons_succ] at r0 r1 r2
     have f0 := frozen_of_row w5 _ 0 _ _ hz5
     have f1 := frozen_of_row w5 _ 1 _ _ hz5
     have f2 := frozen_of_row w5 _ 2 _ _ hz5
     have HZ := hid hz5
     have HP := hid hpost
     clear hz5 hpost h5 g5
     go_wp2_with fail
     refine bodyPost_ret (res2 rfl _ _ w.heap.size 78 _ (0, 0) rfl (three_set _ _ _ _ _ _ _ _ _ HZ.out) valD valSize) rfl ?_
     rw [HD.out]
     exact HP.out
end Go.Proofs.YtkplkgdfphbldaaGreat
