/- Expressions: the reference's put. -/
import Derived.Test.YtkplkgdfphbldaaGreatHJbc
import Derived.Test.YtkplkgdfphbldaaGreatHJbf
import Derived.Test.YtkplkgdfphbldaaGreatHJbb
import Derived.Test.YtkplkgdfphbldaaGreatHJaw
import Derived.Test.YtkplkgdfphbldaaGreatHJbq
import Derived.Test.YtkplkgdfphbldaaGreatHJay
namespace Go.Proofs.YtkplkgdfphbldaaGreat
open Go.RowKit
open Go.Lib (hid)
set_option linter.unusedVariables false
set_option linter.unusedSimpArgs false
set_option linter.unnecessarySimpa false
set_option maxRecDepth 100000
namespace Ew
open Rn
theorem infoStr : (Tryz.prog.info? 9).map (fun i => (i.zero, i.size, i.bytes)) = some (some (.string ⟨#[]⟩), 1, 16) := by kernel_rfl
theorem new_cell1 (W : World) (v : Value) (t : TypeId) : ∀ (j : Nat) (u : Value), [v][j]? = some u → (W.alloc (.cells #[v] t)).cell? ((⟨W.heap.size, 0, none⟩ : Addr).add j) = some u := by
 intro j u hu
 rw [Addr.add_mid, Nat.zero_add, cell_of_row _ _ _ _ _ _ (heap_alloc_new W _)]
 simpa using hu
theorem strs_snoc (l : List ByteArray) (x : ByteArray) : strs (l ++ [x]) = strs l ++ [.string x] := by simp [strs]
def TextsPost (l : List ByteArray) (w : World) (e : Ending) (w' : World) : Prop := ∃ a c, e = .returned (.slice a l.length c) ∧ Sl w' (.slice a l.length c) (strs l) ∧ l.length ≤ c ∧ Below w.heap.size w w'
theorem own_texts {w : World} {B : Nat} {a : Option Addr} {n c : Nat} {l : List ByteArray} (h : w.ownsRow B 9 1 (.slice a n c) n (strs l)) : n = l.length ∧ n ≤ c ∧ Sl w (.slice a n c) (strs l) := by
 have hn : n = l.length := by
  have := h.1
  rw [strs_length, Nat.mul_one] at this
  exact this.symm
 refine ⟨hn, ?_, ?_⟩
 ·rcases own_shape h with ⟨e1, e2, _⟩ | ⟨g, cap, e, h0, h1, h2, h3⟩
  ·omega
  ·cases e
   exact h2
 ·rcases own_shape h with ⟨e1, e2, _⟩ | ⟨g, cap, e, h0, h1, h2, h3⟩
  ·cases e1
   have : l = [] := List.length_eq_zero_iff.1 (by omega)
   subst this
   exact ⟨none, 0, rfl, .inl ⟨rfl, rfl, rfl⟩⟩
  ·cases e
   exact ⟨_, _, by rw [strs_length, hn], .inr ⟨_, rfl, h.cells rfl⟩⟩
theorem texts_post {w w' : World} {v : Value} {n : Nat} {l m : List ByteArray} (h : w'.ownsRow w.heap.size 9 1 v n (strs l)) (hb : Below w.heap.size w w') (e : m = l) : TextsPost m w (.returned v) w' := by
 subst e
 obtain ⟨a, c, rfl⟩ : ∃ a c, v = .slice a n c := by
  rcases own_shape h with ⟨e1, e2, _⟩ | ⟨g, c, e1, _⟩
  ·exact ⟨none, 0, by rw [e1, e2]⟩
  ·exact ⟨_, c, e1⟩
 obtain ⟨h1, h2, h3⟩ := own_texts h
 rw [h1] at h2 h3
 exact ⟨a, c, by rw [h1], h3, by omega, hb⟩
set_option maxHeartbeats 8000000 in
theorem rput_any (l : List ByteArray) (s : ByteArray) {w : World} {na : Option Addr} {nc : Nat} (hn : Sl w (.slice na l.length nc) (strs l)) (hc : l.length ≤ nc) (hl : l.length ≤ 1000000) :
  Calls Tryz.prog 67 #[.slice na l.length nc, .string s] w (TextsPost (Ex.putL l s) w) := by
 obtain ⟨i0, hi, hz0, hz1, hz2⟩ := info_parts infoStr
 have HI := hid hi
 have HZ0 := hid hz0
 have HZ1 := hid hz1
 have HZ2 := hid hz2
 have HN := hid hn
 have HHAS := hid (rin_at l s hn (by omega))
 have HC := hid hc
 clear hi hz0 hz1 hz2 hn hc
 cases hin : Ex.inN l s with
 | true =>
  rw [hin] at HHAS
  have HP : Hid (Ex.putL l s = l) := by unfold Hid Ex.putL; rw [hin]; rfl
  clear hin
  go_enter Tryz.func67, Tryz.ntmps67
  go_wp2_with fail
  with_reducible refine HHAS.out.mono ?_
  rintro e2 w2 ⟨rfl, rfl⟩
  go_wp2_with fail
  go_ret
  rw [HP.out]
  exact ⟨na, nc, rfl, HN.out, HC.out, Below.refl _ _⟩
 | false =>
  rw [hin] at HHAS
  have HP : Hid (Ex.putL l s = Ex.ins s l) := by unfold Hid Ex.putL; rw [hin]; rfl
  clear hin
  go_enter Tryz.func67, Tryz.ntmps67
  go_wp2_with fail
  with_reducible refine HHAS.out.mono ?_
  rintro e2 w2 ⟨rfl, rfl⟩
  go_wp2_with fail
  go_loopg [5, 6, 7] l.length (fun g ov dv i wr => ∃ (j n : Nat) (vv : Value) (out : List ByteArray) (D : Bool), j ≤ l.length ∧ g = l.length - j ∧ i = .int .i64 j ∧ dv = .bool D ∧ vv = ov ∧ n ≤ j + 1 ∧ (D = false → n ≤ j) ∧ wr.ownsRow w.heap.size 9 1 vv n (strs out) ∧ Below w.heap.size w wr ∧ (D = true → out ++ l.drop j = Ex.ins s l) ∧ (D = false → out ++ Ex.ins s (l.drop j) = Ex.ins s l))
  case atStart => exact ⟨0, 0, _, [], false, Nat.zero_le _, rfl, rfl, rfl, rfl, by omega, fun _ => Nat.le_refl _, zero_row w 9 1, (Below.refl _ _).alloc (Nat.le_refl _) _, (fun h => nomatch h), fun _ => by simp⟩
  case round =>
   obtain ⟨j, n, vv, out, D, hj, rfl, rfl, rfl, rfl, hn1, hn2, hown, hb, hD1, hD2⟩ := hrel
   have HO := hid hown
   have HBW := hid hb
   have hsw : w.heap.size ≤ wr.heap.size := hb.size
   have HD1 := hid hD1
   have HD2 := hid hD2
   have HN2 := hid hn2
   clear hown hb hD1 hD2 hn2
   by_cases hlt : j < l.length
   ·obtain ⟨x, hx⟩ : ∃ x, l[j]? = some x := ⟨_, List.getElem?_eq_getElem hlt⟩
    obtain ⟨b, off, rfl, hbl, hc⟩ := text_at (sl_bel HN.out HBW.out) hx
    have HX := hid hx
    have HDR : Hid (l.drop j = x :: l.drop (j + 1)) := by unfold Hid; rw [List.drop_eq_getElem_cons hlt]; congr 1; rw [List.getElem?_eq_getElem hlt] at hx; exact Option.some.inj hx
    have g1 : (0 : Int) ≤ j := by omega
    have g2 : (j : Int) < l.length := by omega
    have gw : IntKind.i64.wrap ((j : Int) + 1) = ((j + 1 : Nat) : Int) := by rw [IntKind.wrap_i64]; omega
    clear hx
    cases D with
    | true =>
     go_wp2_with (first | (at_builtin; refine wpList_append_v rfl (.tmp 33) (.tmp 38) 22 rfl w.heap.size 9 i0 _ 1 16 Tryz.underlying22 HI.out HZ0.out HZ1.out HZ2.out rfl (by decide) vv (n) (strs out) rfl (HO.out.alloc _) (some ⟨wr.heap.size, 0, none⟩) 1 1 [.string x] rfl rfl (.inr ⟨_, rfl, new_cell1 _ _ _⟩) (by simp [Value.oneCell']) (by simp only [maxLen]; omega) (by omega) (by have := hsw; simp only [World.heap_size_alloc]; omega) (wr.heap.size + 1) (by simp) ?_; intro av5 cv5 w5 hown hgr hat; generalize hv5 : Value.slice av5 (n + 1) cv5 = v5 at hown ⊢; have HV5 := hid hv5; clear hv5; have HO5 : Hid (w5.ownsRow w.heap.size 9 1 v5 (n + 1) (strs (out ++ [x]))) := (by unfold Hid; rw [strs_snoc]; exact hown); have HB5 : Hid (Below w.heap.size w w5) := (HBW.out.alloc hsw _).grown hgr (by have := hsw; simp only [World.heap_size_alloc]; omega) (fun q hq => (HO.out.lt q hq).1); have hsw : w.heap.size ≤ w5.heap.size := HB5.out.size; have HBW := HB5; clear hown hgr hat) | fail)
     go_roundg (l.length - (j + 1))
     case measure => omega
     case rel => exact ⟨j + 1, n + 1, _, out ++ [x], true, by omega, rfl, by go_num, rfl, rfl, by omega, (fun h => nomatch h), HO5.out, HB5.out, fun _ => by have h := HD1.out (by trivial); rw [HDR.out] at h; simpa using h, fun h => nomatch h⟩
    | false =>
     have hn3 := HN2.out rfl
     cases hlx : Ex.ltB s x with
     | true =>
      have hlx2 : Op.bytesLess s.toList x.toList = true := hlx
      have HIE : Hid (Ex.ins s (x :: l.drop (j + 1)) = s :: x :: l.drop (j + 1)) := by unfold Hid; rw [Ex.ins, if_pos hlx]
      clear hlx
      have hc5 : ∀ W, Below w.heap.size w W → W.cell? ⟨b, off + j, none⟩ = some (.string x) := fun W hb => by
       obtain ⟨b', off', e, _, h⟩ := text_at (sl_bel HN.out hb) HX.out
       cases e
       exact h
      have HC5 := hid hc5
      clear hc5
      have hbl0 := HN
      go_upto_region 10 with (first | (at_builtin; refine wpList_append_v rfl (.tmp 29) (.tmp 31) 22 rfl w.heap.size 9 i0 _ 1 16 Tryz.underlying22 HI.out HZ0.out HZ1.out HZ2.out rfl (by decide) vv (n) (strs out) rfl (HO.out.alloc _) (some ⟨wr.heap.size, 0, none⟩) 1 1 [.string s] rfl rfl (.inr ⟨_, rfl, new_cell1 _ _ _⟩) (by simp [Value.oneCell']) (by simp only [maxLen]; omega) (by omega) (by have := hsw; simp only [World.heap_size_alloc]; omega) (wr.heap.size + 1) (by simp) ?_; intro av5 cv5 w5 hown hgr hat; generalize hv5 : Value.slice av5 (n + 1) cv5 = v5 at hown ⊢; have HV5 := hid hv5; clear hv5; have HO5 : Hid (w5.ownsRow w.heap.size 9 1 v5 (n + 1) (strs (out ++ [s]))) := (by unfold Hid; rw [strs_snoc]; exact hown); have HB5 : Hid (Below w.heap.size w w5) := (HBW.out.alloc hsw _).grown hgr (by have := hsw; simp only [World.heap_size_alloc]; omega) (fun q hq => (HO.out.lt q hq).1); have hsw : w.heap.size ≤ w5.heap.size := HB5.out.size; have HBW := HB5; clear hown hgr hat) | fail)
      have hc6 := HC5.out w5 HBW.out
      have hbl5 : b < w5.heap.size := World.block_lt_of_cell? w5 _ hc6
      go_wp2_with (first | (at_builtin; refine wpList_append_v rfl (.tmp 33) (.tmp 38) 22 rfl w.heap.size 9 i0 _ 1 16 Tryz.underlying22 HI.out HZ0.out HZ1.out HZ2.out rfl (by decide) v5 (n + 1) (strs (out ++ [s])) rfl (HO5.out.alloc _) (some ⟨w5.heap.size, 0, none⟩) 1 1 [.string x] rfl rfl (.inr ⟨_, rfl, new_cell1 _ _ _⟩) (by simp [Value.oneCell']) (by simp only [maxLen]; omega) (by omega) (by have := hsw; simp only [World.heap_size_alloc]; omega) (w5.heap.size + 1) (by simp) ?_; intro av6 cv6 w6 hown hgr hat; generalize hv6 : Value.slice av6 (n + 1 + 1) cv6 = v6 at hown ⊢; have HV6 := hid hv6; clear hv6; have HO6 : Hid (w6.ownsRow w.heap.size 9 1 v6 (n + 1 + 1) (strs ((out ++ [s]) ++ [x]))) := (by unfold Hid; rw [strs_snoc]; exact hown); have HB6 : Hid (Below w.heap.size w w6) := (HBW.out.alloc hsw _).grown hgr (by have := hsw; simp only [World.heap_size_alloc]; omega) (fun q hq => (HO5.out.lt q hq).1); have hsw : w.heap.size ≤ w6.heap.size := HB6.out.size; have HBW := HB6; clear hown hgr hat) | fail)
      go_roundg (l.length - (j + 1))
      case measure => omega
      case rel => exact ⟨j + 1, n + 1 + 1, _, out ++ [s] ++ [x], true, by omega, rfl, by go_num, rfl, rfl, by omega, (fun h => nomatch h), HO6.out, HB6.out, fun _ => by have h := HD2.out (by trivial); rw [HDR.out, HIE.out] at h; simpa using h, fun h => nomatch h⟩
     | false =>
      have hlx2 : Op.bytesLess s.toList x.toList = false := hlx
      have HIE : Hid (Ex.ins s (x :: l.drop (j + 1)) = x :: Ex.ins s (l.drop (j + 1))) := by unfold Hid; rw [Ex.ins, if_neg (by rw [hlx]; decide)]
      clear hlx
      go_wp2_with (first | (at_builtin; refine wpList_append_v rfl (.tmp 33) (.tmp 38) 22 rfl w.heap.size 9 i0 _ 1 16 Tryz.underlying22 HI.out HZ0.out HZ1.out HZ2.out rfl (by decide) vv (n) (strs out) rfl (HO.out.alloc _) (some ⟨wr.heap.size, 0, none⟩) 1 1 [.string x] rfl rfl (.inr ⟨_, rfl, new_cell1 _ _ _⟩) (by simp [Value.oneCell']) (by simp only [maxLen]; omega) (by omega) (by have := hsw; simp only [World.heap_size_alloc]; omega) (wr.heap.size + 1) (by simp) ?_; intro av5 cv5 w5 hown hgr hat; generalize hv5 : Value.slice av5 (n + 1) cv5 = v5 at hown ⊢; have HV5 := hid hv5; clear hv5; have HO5 : Hid (w5.ownsRow w.heap.size 9 1 v5 (n + 1) (strs (out ++ [x]))) := (by unfold Hid; rw [strs_snoc]; exact hown); have HB5 : Hid (Below w.heap.size w w5) := (HBW.out.alloc hsw _).grown hgr (by have := hsw; simp only [World.heap_size_alloc]; omega) (fun q hq => (HO.out.lt q hq).1); have hsw : w.heap.size ≤ w5.heap.size := HB5.out.size; have HBW := HB5; clear hown hgr hat) | fail)
      go_roundg (l.length - (j + 1))
      case measure => omega
      case rel => exact ⟨j + 1, n + 1, _, out ++ [x], false, by omega, rfl, by go_num, rfl, rfl, by omega, (fun _ => by omega), HO5.out, HB5.out, (fun h => nomatch h), fun _ => by have h := HD2.out (by trivial); rw [HDR.out, HIE.out] at h; simpa using h⟩
   ·have hje : j = l.length := by omega
    have hge : (l.length : Int) ≤ j := by omega
    have HJE := hid hje
    clear hje
    cases D with
    | true =>
     have HE : Hid (out = Ex.ins s l) := by have h := HD1.out (by trivial); rw [HJE.out, List.drop_length, List.append_nil] at h; exact h
     go_wp2_with fail
     go_ret
     exact texts_post HO.out HBW.out (by rw [HP.out, HE.out])
    | false =>
     have HE : Hid (out ++ [s] = Ex.ins s l) := by have h := HD2.out (by trivial); rw [HJE.out, List.drop_length] at h; exact h
     have hn3 := HN2.out rfl
     go_wp2_with (first | (at_builtin; refine wpList_append_v rfl (.tmp 42) (.tmp 44) 22 rfl w.heap.size 9 i0 _ 1 16 Tryz.underlying22 HI.out HZ0.out HZ1.out HZ2.out rfl (by decide) vv (n) (strs out) rfl (HO.out.alloc _) (some ⟨wr.heap.size, 0, none⟩) 1 1 [.string s] rfl rfl (.inr ⟨_, rfl, new_cell1 _ _ _⟩) (by simp [Value.oneCell']) (by simp only [maxLen]; omega) (by omega) (by have := hsw; simp only [World.heap_size_alloc]; omega) (wr.heap.size + 1) (by simp) ?_; intro av5 cv5 w5 hown hgr hat; generalize hv5 : Value.slice av5 (n + 1) cv5 = v5 at hown ⊢; have HV5 := hid hv5; clear hv5; have HO5 : Hid (w5.ownsRow w.heap.size 9 1 v5 (n + 1) (strs (out ++ [s]))) := (by unfold Hid; rw [strs_snoc]; exact hown); have HB5 : Hid (Below w.heap.size w w5) := (HBW.out.alloc hsw _).grown hgr (by have := hsw; simp only [World.heap_size_alloc]; omega) (fun q hq => (HO.out.lt q hq).1); have hsw : w.heap.size ≤ w5.heap.size := HB5.out.size; have HBW := HB5; clear hown hgr hat) | fail)
     go_ret
     exact texts_post HO5.out HB5.out (by rw [HP.out, HE.out])
def thin (e : Ex) : Bool := decide (e.names.length ≤ 6 * e.kids.length)
theorem thin_of {e : Ex} (h : Ex.all thin e = true) : e.names.length ≤ 6 * e.kids.length := of_decide_eq_true ((Ex.all_iff thin e).1 h).1
theorem putL_len (l : List ByteArray) (s : ByteArray) : (Ex.putL l s).length ≤ l.length + 1 := by
 have hi : ∀ l : List ByteArray, (Ex.ins s l).length = l.length + 1 := by
  intro l
  induction l with
  | nil => rfl
  | cons x l ih =>
   rw [Ex.ins]
   split
   ·rfl
   ·simp [ih]
 unfold Ex.putL
 split
 ·omega
 ·rw [hi]; omega
theorem frees_len (e : Ex) : ∀ bound out : List ByteArray, (Ex.frees e bound out).length ≤ out.length + e.size := by
 induction e using Ex.byKids with
 | h e ih =>
  intro bound out
  have hL : ∀ (l : List Ex) (i : Nat) (out : List ByteArray), (∀ x ∈ l, x ∈ e.kids) → (Ex.freesL e.kind e.names e.kids.length bound i l out).length ≤ out.length + Ex.sizes l := by
   intro l
   induction l with
   | nil => intro i out _; simp [Ex.freesL, Ex.sizes]
   | cons x l ihl =>
    intro i out hm
    rw [Ex.freesL, Ex.sizes]
    refine Nat.le_trans (ihl (i + 1) _ fun y hy => hm y (by simp [hy])) ?_
    have := ih x (hm x (by simp)) (if Ex.binds e.kind e.kids.length i then bound ++ e.names else bound) out
    omega
  rw [Ex.frees_eq, Ex.size_eq]
  refine Nat.le_trans (hL e.kids 0 _ fun _ h => h) ?_
  split
  ·have := putL_len out e.name
   omega
  ·omega
theorem own_open {w : World} {B : Nat} {v : Value} {n : Nat} {l : List ByteArray} (h : w.ownsRow B 9 1 v n (strs l)) : ∃ a c, v = .slice a l.length c ∧ Sl w v (strs l) ∧ l.length ≤ c := by
 obtain ⟨a, c, rfl⟩ : ∃ a c, v = .slice a n c := by
  rcases own_shape h with ⟨e1, e2, _⟩ | ⟨g, c, e1, _⟩
  ·exact ⟨none, 0, by rw [e1, e2]⟩
  ·exact ⟨_, c, e1⟩
 obtain ⟨h1, h2, h3⟩ := own_texts h
 exact ⟨a, c, by rw [h1], h3, by omega⟩
theorem src_sl {w : World} {a : Option Addr} {n c : Nat} {l : List Value} (h : Sl w (.slice a n c) l) : (a = none ∧ c = 0 ∧ l = []) ∨ ∃ ad, a = some ad ∧ ∀ (j : Nat) (u : Value), l[j]? = some u → w.cell? (ad.add j) = some u := by
 obtain ⟨_, _, e, h⟩ := h
 cases e
 exact h
theorem strs_one (l : List ByteArray) : ∀ u ∈ strs l, u.oneCell' = true := by
 intro u hu
 unfold strs at hu
 obtain ⟨s, _, rfl⟩ := List.mem_map.1 hu
 rfl
theorem strs_app (l m : List ByteArray) : strs (l ++ m) = strs l ++ strs m := by simp [strs]
theorem own_app {w : World} {B ty n : Nat} {v : Value} {l m : List ByteArray} (h : w.ownsRow B ty 1 v n (strs l ++ strs m)) : Hid (w.ownsRow B ty 1 v n (strs (l ++ m))) := by
 unfold Hid
 rw [strs_app]
 exact h
theorem inner_one {w w4 : World} {v : Value} {n : Nat} {l : List ByteArray} (hown : w4.ownsRow w.heap.size 9 1 v n ([] ++ strs l)) (hg : ((w.alloc (.cells #[] 9)).drew).grownBy w4 (some w.heap.size)) : w4.ownsRow w.heap.size 9 1 v n (strs l) ∧ Below w.heap.size w w4 := by
 refine ⟨by simpa using hown, ?_⟩
 have hb : Below w.heap.size w ((w.alloc (.cells #[] 9)).drew) := ((Below.refl _ _).alloc (Nat.le_refl _) _).drew
 exact hb.grown hg (by simp) (fun q hq => by cases hq; exact Nat.le_refl _)
set_option maxHeartbeats 16000000 in
theorem rfree_any (e : Ex) : ∀ {w : World} {na : Option Addr} {nc : Nat} {da : Option Addr} {dn dc : Nat} {ka : Option Addr} {kc : Nat} (bound out : List ByteArray) (ba : Option Addr) (bc : Nat) (oa : Option Addr) (oc : Nat), Few e → Ex.all thin e = true → bound.length + 6 * e.size ≤ 1000000 → out.length + e.size ≤ 1000000 → Op w e na nc da dn dc ka kc → Sl w (.slice ba bound.length bc) (strs bound) → Sl w (.slice oa out.length oc) (strs out) → out.length ≤ oc →
  Calls Tryz.prog 51 #[.agg #[.int .i64 e.kind, .string e.name, .slice na e.names.length nc, .int .i64 e.const.kind, .int .i64 e.const.int, .string e.const.text, .slice da dn dc, .slice ka e.kids.length kc], .slice ba bound.length bc, .slice oa out.length oc] w (TextsPost (Ex.frees e bound out) w) := by
 induction e using Ex.byKids with
 | h e ih =>
 intro w na nc da dn dc ka kc bound out ba bc oa oc hsz hth hbl hol ho hbs hos hoc
 obtain ⟨i0, hi, hz0, hz1, hz2⟩ := info_parts infoStr
 have HI := hid hi
 have HZ0 := hid hz0
 have HZ1 := hid hz1
 have HZ2 := hid hz2
 obtain ⟨w1, B1⟩ := boxedE w e na nc da dn dc ka kc
 have hR := Row.of B1.blk
 have HO := hid (ho.bel B1.below)
 have HB := hid B1
 have HR := hid hR
 have HIH := hid ih
 have hl := hsz.len
 have hnl := hsz.nl
 have htn := thin_of hth
 have hse := Ex.size_eq e
 have hsl := Ex.sizes_len e.kids
 have HSZ := hid hsz
 have HTH := hid hth
 have HBS := hid (sl_bel hbs B1.below)
 have HOS := hid (sl_bel hos B1.below)
 have HFE := hid (Ex.frees_eq e bound out)
 obtain ⟨B, hB⟩ : ∃ B, ((decide (e.kind = 1) || decide (e.kind = 2)) && !Ex.inN bound e.name) = B := ⟨_, rfl⟩
 rw [hB] at HFE
 have HBB := hid hB
 have HRI := hid (rin_at bound e.name HBS.out (by omega))
 have hbl2 := hbl
 have HBL : Hid (bound.length + 6 * (Ex.sizes e.kids + 1) ≤ 1000000) := by unfold Hid; omega
 have HOL : Hid (out.length + (Ex.sizes e.kids + 1) ≤ 1000000) := by unfold Hid; omega
 have HOC := hid hoc
 have HTN := hid htn
 obtain ⟨x0, x1, x2, x3, x4, x5, x6, x7, hbl1⟩ := hR
 clear B1 ho ih hsz hth hbs hos hB hi hz0 hz1 hz2 hse hsl hbl hol hoc htn hbl2 hnl
 go_enter Tryz.func51, Tryz.ntmps51
 go_upto_region 1 with fail
 rw [← HB.out.eq]
 go_cut [23] (fun s wx => s = .bool B ∧ wx = w1)
 case first =>
  have fin : ∀ (k1 k2 : Bool), (e.kind == 1) = k1 → (e.kind == 2) = k2 → (decide (e.kind = 1) || decide (e.kind = 2)) = (k1 || k2) := by
   rintro k1 k2 rfl rfl
   by_cases h1 : e.kind = 1 <;> by_cases h2 : e.kind = 2 <;> simp [h1, h2]
  cases k1 : (e.kind == 1) with
  | true =>
   have HF := hid (fin _ _ k1 rfl)
   cases hin : Ex.inN bound e.name
   all_goals
    rw [hin] at HRI
    go_wp2_with fail
    with_reducible refine HRI.out.mono ?_
    rintro e2 w2 ⟨rfl, rfl⟩
    go_wp2_with fail
    go_meet
    exact ⟨by rw [← HBB.out, HF.out, hin]; rfl, rfl⟩
  | false =>
   cases k2 : (e.kind == 2) with
   | true =>
    have HF := hid (fin _ _ k1 k2)
    cases hin : Ex.inN bound e.name
    all_goals
     rw [hin] at HRI
     go_wp2_with fail
     with_reducible refine HRI.out.mono ?_
     rintro e2 w2 ⟨rfl, rfl⟩
     go_wp2_with fail
     go_meet
     exact ⟨by rw [← HBB.out, HF.out, hin]; rfl, rfl⟩
   | false =>
    have HF := hid (fin _ _ k1 k2)
    go_wp2_with fail
    go_meet
    exact ⟨by rw [← HBB.out, HF.out]; rfl, rfl⟩
 case rest =>
  obtain ⟨rfl, rfl⟩ := hcut
  obtain ⟨wb, hwb⟩ : ∃ z, z = wc := ⟨_, rfl⟩
  subst hwb
  obtain ⟨out1, ho1⟩ : ∃ out1, (if B = true then Ex.putL out e.name else out) = out1 := ⟨_, rfl⟩
  rw [ho1] at HFE
  have HO1 := hid ho1
  clear ho1
  go_upto_if 23 with fail
  go_cut [2] (fun s wx => ∃ oa oc, s = .slice oa out1.length oc ∧ Sl wx (.slice oa out1.length oc) (strs out1) ∧ out1.length ≤ oc ∧ Below wb.heap.size wb wx)
  case first =>
   cases B with
   | true =>
    have HP := hid (rput_any out e.name HOS.out HOC.out (by have := HOL.out; omega))
    have h1 : Hid (Ex.putL out e.name = out1) := HO1.out
    unfold TextsPost at HP
    rw [h1.out] at HP
    go_wp2_with fail
    with_reducible refine HP.out.mono ?_
    rintro e2 w2 ⟨a2, c2, rfl, h2, h3, h4⟩
    have H2 := hid h2
    have H3 := hid h3
    have H4 := hid h4
    clear h2 h3 h4
    go_wp2_with fail
    go_meet
    exact ⟨a2, c2, rfl, H2.out, H3.out, H4.out⟩
   | false =>
    have h1 : out = out1 := HO1.out
    subst h1
    go_wp2_with fail
    go_meet
    exact ⟨oa, oc, rfl, HOS.out, HOC.out, Below.refl _ _⟩
  case rest =>
   obtain ⟨oa1, oc1, rfl, hs1, hc1, hb1⟩ := hcut
   have HS1 := hid hs1
   have HB1 := hid hb1
   have HC1 := hid hc1
   have HL1 : Hid (out1.length + Ex.sizes e.kids ≤ 1000000) := by
    have h1 := HOL.out
    have h2 := HO1.out
    have h3 := putL_len out e.name
    unfold Hid
    split at h2
    ·subst h2; omega
    ·subst h2; omega
   clear hs1 hb1 hc1
   obtain ⟨y0, y1, y2, y3, y4, y5, y6, y7, ybl⟩ := HR.out.bel HB1.out
   have he7 : Hid (e.kids.length ≤ 100000) := hl
   go_wp2_with fail
   go_loopg [2, 7] e.kids.length (fun g ov i wr => ∃ (j : Nat) (oa : Option Addr) (oc : Nat) (out2 : List ByteArray), j ≤ e.kids.length ∧ g = e.kids.length - j ∧ i = .int .i64 j ∧ ov = .slice oa out2.length oc ∧ Sl wr (.slice oa out2.length oc) (strs out2) ∧ out2.length ≤ oc ∧ Below wb.heap.size wb wr ∧ Ex.freesL e.kind e.names e.kids.length bound j (e.kids.drop j) out2 = Ex.frees e bound out ∧ out2.length + Ex.sizes (e.kids.drop j) ≤ 1000000)
   case atStart => exact ⟨0, oa1, oc1, out1, Nat.zero_le _, rfl, rfl, rfl, HS1.out, HC1.out, HB1.out, by rw [List.drop_zero]; exact HFE.out.symm, by rw [List.drop_zero]; exact HL1.out⟩
   case round =>
    obtain ⟨j, oa2, oc2, out2, hj, rfl, rfl, rfl, hs2, hc2, hb, hrel2, hln⟩ := hrel
    have HS2 := hid hs2
    have HC2 := hid hc2
    have HBW := hid hb
    have HRL := hid hrel2
    have HLN := hid hln
    obtain ⟨y0, y1, y2, y3, y4, y5, y6, y7, ybl⟩ := HR.out.bel hb
    clear hs2 hc2 hb hrel2 hln
    by_cases hlt : j < e.kids.length
    ·obtain ⟨x, hx⟩ : ∃ x, e.kids[j]? = some x := ⟨_, List.getElem?_eq_getElem hlt⟩
     have hdr : e.kids.drop j = x :: e.kids.drop (j + 1) := by rw [List.drop_eq_getElem_cons hlt]; congr 1; rw [List.getElem?_eq_getElem hlt] at hx; exact Option.some.inj hx
     have HX := hid hx
     have HXM := hid (List.mem_of_getElem? hx)
     have hrl := HRL.out
     have hln := HLN.out
     rw [hdr] at hrl hln
     rw [Ex.freesL] at hrl
     rw [Ex.sizes] at hln
     have HRL2 := hid hrl
     have HLN2 := hid hln
     have gw : IntKind.i64.wrap ((j : Int) + 1) = ((j + 1 : Nat) : Int) := by rw [IntKind.wrap_i64]; omega
     have HJ : Hid (j ≤ 100000) := by unfold Hid; have := he7.out; omega
     have HC := hid (rbinds_any j HJ.out e he7.out (HO.out.bel HBW.out))
     clear hx hdr hrl hln
     go_wp2_with fail
     with_reducible refine HC.out.mono ?_
     rintro e2 w3 ⟨rfl, hb2⟩
     have HBW3 : Hid (Below wb.heap.size wb w3) := HBW.out.trans (hb2.mono HBW.out.size)
     have HS3 := hid (sl_bel HS2.out hb2)
     clear hb2
     obtain ⟨z0, z1, z2, z3, z4, z5, z6, z7, zbl⟩ := HR.out.bel HBW3.out
     have hxs : x.size ≤ Ex.sizes e.kids := Ex.size_mem _ _ HXM.out
     have HXS := hid hxs
     clear hxs
     cases hbd : Ex.binds e.kind e.kids.length j with
     | false =>
      rw [hbd] at HRL2
      clear hbd
      obtain ⟨kb, koff, na2, nc2, da2, dn2, dc2, ya2, yc2, hk⟩ := (HO.out.bel HBW3.out).kid HX.out
      have HKO := hid hk.op
      obtain ⟨e1, hkb, ⟨g1, g2⟩, _, c0, c1, c2, c3, c4, c5, c6, c7⟩ := hk
      subst e1
      have HC := hid (HIH.out x HXM.out bound out2 ba bc oa2 oc2 (HSZ.out.kid HXM.out) (((Ex.all_iff thin e).1 HTH.out).2 x HXM.out) (by have := HXS.out; have := HBL.out; omega) (by have := HLN2.out; omega) HKO.out (sl_bel HBS.out HBW3.out) HS3.out HC2.out)
      unfold TextsPost at HC
      have HFL := hid (frees_len x bound out2)
      obtain ⟨out3, ho3⟩ : ∃ out3, Ex.frees x bound out2 = out3 := ⟨_, rfl⟩
      rw [ho3] at HC HFL
      have HRL3 : Hid (Ex.freesL e.kind e.names e.kids.length bound (j + 1) (e.kids.drop (j + 1)) out3 = Ex.frees e bound out) := by rw [← ho3]; exact HRL2.out
      clear ho3
      go_wp2_with fail
      with_reducible refine HC.out.mono ?_
      rintro e2 w4 ⟨oa4, oc4, rfl, hs4, hc4, hb4⟩
      have HS4 := hid hs4
      have HC4 := hid hc4
      have HB4 : Hid (Below wb.heap.size wb w4) := HBW3.out.trans (hb4.mono HBW3.out.size)
      clear hs4 hc4 hb4
      go_wp2_with fail
      go_roundg (e.kids.length - (j + 1))
      case measure => omega
      case rel => exact ⟨j + 1, oa4, oc4, out3, by omega, rfl, by go_num, rfl, HS4.out, HC4.out, HB4.out, HRL3.out, by have := HLN2.out; have := HFL.out; omega⟩
     | true =>
      rw [hbd] at HRL2
      clear hbd
      go_upto_region 8 with fail
      have HZR : Hid ((w3.alloc (.cells #[] 9)).drew.ownsRow w3.heap.size 9 1 (.slice (some ⟨w3.heap.size, 0, none⟩) 0 0) 0 []) := own_drewN (zero_row w3 9 1) 1
      have hw3 : Below w3.heap.size w3 ((w3.alloc (.cells #[] 9)).drew) := ((Below.refl _ _).alloc (Nat.le_refl _) _).drew
      have HSB := hid (src_sl (sl_bel (sl_bel HBS.out HBW3.out) hw3))
      have HTE : Hid (((w3.alloc (.cells #[] 9)).drew).heap.size = w3.heap.size + 1) := by unfold Hid; simp
      have HR3 := HR.out.bel HBW3.out
      obtain ⟨v0, v1, v2, v3, v4, v5, v6, v7, vbl⟩ := HR3.bel hw3
      have HR3 := hid HR3
      have HNM := hid (HO.out.bel HBW3.out).names
      clear hw3
      go_cut [8] (fun s wx => ∃ ia ic, s = .slice ia (bound ++ e.names).length ic ∧ Sl wx (.slice ia (bound ++ e.names).length ic) (strs (bound ++ e.names)) ∧ Below w3.heap.size w3 wx)
      case first =>
       go_region_law (first
        | (refine step_append_v (by rfl) (.tmp 39) (.tmp 40) 22 (by rfl) w3.heap.size 9 i0 _ 1 16 Tryz.underlying22 HI.out HZ0.out HZ1.out HZ2.out rfl (by decide) (.slice (some ⟨w3.heap.size, 0, none⟩) 0 0) 0 [] (by rfl) HZR.out ba bound.length bc (strs bound) (by rfl) (by rw [strs_length, Nat.mul_one]) HSB.out (strs_one bound) (by have := HBL.out; simp only [maxLen]; omega) (by have := HBL.out; omega) (by rw [HTE.out]; omega) (w3.heap.size + 1) HTE.out ?_; intro a4 c4 w4 hown hgr hlies; generalize hv4 : Value.slice a4 (0 + bound.length) c4 = v4 at hown ⊢; clear hv4; have HN4 := hid (inner_one hown hgr); obtain ⟨t0, t1, t2, t3, t4, t5, t6, t7, tbl⟩ := HR3.out.bel HN4.out.2; have HSN := hid (src_sl (sl_bel HNM.out HN4.out.2)); clear hown hgr hlies)
        | (refine step_append_v (by rfl) (.tmp 41) (.tmp 43) 22 (by rfl) w3.heap.size 9 i0 _ 1 16 Tryz.underlying22 HI.out HZ0.out HZ1.out HZ2.out rfl (by decide) v4 (0 + bound.length) (strs bound) (by rfl) HN4.out.1 na e.names.length nc (strs e.names) (by rfl) (by rw [strs_length, Nat.mul_one]) HSN.out (strs_one e.names) (by have := HBL.out; have := HTN.out; have := he7.out; simp only [maxLen]; omega) (by have := HBL.out; have := HTN.out; have := he7.out; omega) HN4.out.2.size w4.heap.size rfl ?_; intro a5 c5 w5 hown hgr hlies; generalize hv5 : Value.slice a5 (0 + bound.length + e.names.length) c5 = v5 at hown ⊢; clear hv5; have HN5 : Hid (w5.ownsRow w3.heap.size 9 1 v5 (0 + bound.length + e.names.length) (strs (bound ++ e.names))) := own_app hown; have HB5 : Hid (Below w3.heap.size w3 w5) := HN4.out.2.grown hgr HN4.out.2.size (fun q hq => (HN4.out.1.lt q hq).1); clear hown hgr hlies)
        | fail)
       all_goals
        go_wp2_with fail
        go_meet
        obtain ⟨a5, c5, h1, h2, h3⟩ := own_open HN5.out
        rw [h1] at h2 ⊢
        exact ⟨a5, c5, rfl, h2, HB5.out⟩
      case rest =>
       obtain ⟨ia, ic, rfl, his, hib⟩ := hcut
       have HIS := hid his
       have HIB : Hid (Below wb.heap.size wb wc) := HBW3.out.trans (hib.mono HBW3.out.size)
       have HS5 := hid (sl_bel HS3.out hib)
       obtain ⟨v0, v1, v2, v3, v4, v5, v6, v7, vbl⟩ := HR.out.bel HIB.out
       clear his hib
       obtain ⟨kb, koff, na2, nc2, da2, dn2, dc2, ya2, yc2, hk⟩ := (HO.out.bel HIB.out).kid HX.out
       have HKO := hid hk.op
       obtain ⟨e1, hkb, ⟨g1, g2⟩, _, c0, c1, c2, c3, c4, c5, c6, c7⟩ := hk
       subst e1
       have hbnd : (bound ++ e.names).length + 6 * x.size ≤ 1000000 := by
        have h1 := HBL.out
        have h2 := HTN.out
        have h3 : x.size + e.kids.length ≤ Ex.sizes e.kids + 1 := by
         have h4 := Ex.sizes_app (e.kids.take j) (e.kids.drop j)
         rw [List.take_append_drop] at h4
         have h5 : Ex.sizes (e.kids.drop j) = x.size + Ex.sizes (e.kids.drop (j + 1)) := by
          rw [List.drop_eq_getElem_cons hlt, Ex.sizes]
          congr 2
          have := HX.out
          rw [List.getElem?_eq_getElem hlt] at this
          exact Option.some.inj this
         have h6 := Ex.sizes_len (e.kids.take j)
         have h7 := Ex.sizes_len (e.kids.drop (j + 1))
         rw [List.length_take] at h6
         rw [List.length_drop] at h7
         omega
        rw [List.length_append]
        omega
       have HC := hid (HIH.out x HXM.out (bound ++ e.names) out2 ia ic oa2 oc2 (HSZ.out.kid HXM.out) (((Ex.all_iff thin e).1 HTH.out).2 x HXM.out) hbnd (by have := HLN2.out; omega) HKO.out HIS.out HS5.out HC2.out)
       rw [List.length_append] at HC
       unfold TextsPost at HC
       have HFL := hid (frees_len x (bound ++ e.names) out2)
       obtain ⟨out3, ho3⟩ : ∃ out3, Ex.frees x (bound ++ e.names) out2 = out3 := ⟨_, rfl⟩
       rw [ho3] at HC HFL
       have HRL3 : Hid (Ex.freesL e.kind e.names e.kids.length bound (j + 1) (e.kids.drop (j + 1)) out3 = Ex.frees e bound out) := by rw [← ho3]; exact HRL2.out
       clear ho3 hbnd
       go_wp2_with fail
       with_reducible refine HC.out.mono ?_
       rintro e2 w4 ⟨oa4, oc4, rfl, hs4, hc4, hb4⟩
       have HS4 := hid hs4
       have HC4 := hid hc4
       have HB4 : Hid (Below wb.heap.size wb w4) := HIB.out.trans (hb4.mono HIB.out.size)
       clear hs4 hc4 hb4
       go_wp2_with fail
       go_roundg (e.kids.length - (j + 1))
       case measure => omega
       case rel => exact ⟨j + 1, oa4, oc4, out3, by omega, rfl, by go_num, rfl, HS4.out, HC4.out, HB4.out, HRL3.out, by have := HLN2.out; have := HFL.out; omega⟩
    ·have hje : j = e.kids.length := by omega
     have HH : Hid (out2 = Ex.frees e bound out) := by
      unfold Hid
      rw [← HRL.out, hje, List.drop_length, Ex.freesL]
     have hge : (e.kids.length : Int) ≤ j := by omega
     clear hje
     go_wp2_with fail
     go_ret
     rw [← HH.out]
     exact ⟨oa2, oc2, rfl, HS2.out, HC2.out, HB.out.below.trans (HBW.out.mono HB.out.below.size)⟩
set_option maxHeartbeats 4000000 in
theorem rFree_any (e : Ex) {w : World} {na : Option Addr} {nc : Nat} {da : Option Addr} {dn dc : Nat} {ka : Option Addr} {kc : Nat} (hs : Few e) (ht : Ex.all thin e = true) (hz : 6 * e.size ≤ 1000000) (ho : Op w e na nc da dn dc ka kc) :
  Calls Tryz.prog 30 #[.agg #[.int .i64 e.kind, .string e.name, .slice na e.names.length nc, .int .i64 e.const.kind, .int .i64 e.const.int, .string e.const.text, .slice da dn dc, .slice ka e.kids.length kc]] w (TextsPost (Ex.freeNames e) w) := by
 obtain ⟨w1, B1⟩ := boxedE w e na nc da dn dc ka kc
 have hR := Row.of B1.blk
 have HB := hid B1
 have h0 : ∀ W : World, Sl W (.slice none 0 0) (strs []) := fun W => ⟨none, 0, rfl, .inl ⟨rfl, rfl, rfl⟩⟩
 have hc := (rfree_any e [] [] none 0 none 0 hs ht (by simpa using hz) (by simp; omega) (ho.bel B1.below) (h0 _) (h0 _) (Nat.le_refl _))
 rw [List.length_nil] at hc
 have HC := hid hc
 clear hc
 obtain ⟨x0, x1, x2, x3, x4, x5, x6, x7, hbl⟩ := hR
 unfold TextsPost at HC
 clear B1 ho h0
 go_enter Tryz.func30, Tryz.ntmps30
 go_upto_region 1 with fail
 rw [← HB.out.eq]
 go_wp2_with fail
 with_reducible refine HC.out.mono ?_
 rintro e2 w2 ⟨a2, c2, rfl, h2, h3, hb2⟩
 have H2 := hid h2
 have H3 := hid h3
 have HB2 := hid hb2
 clear h2 h3 hb2
 go_wp2_with fail
 go_ret
 exact ⟨a2, c2, rfl, H2.out, H3.out, HB.out.below.trans (HB2.out.mono HB.out.below.size)⟩
def On (S : Nat → Prop) (w : World) (P : World → Prop) : Prop := ∀ w', w.heap.size ≤ w'.heap.size → (∀ b, S b → b < w.heap.size → w'.heap[b]? = w.heap[b]?) → P w'
theorem On.at {S : Nat → Prop} {w : World} {P : World → Prop} (h : On S w P) : P w := h w (Nat.le_refl _) fun _ _ _ => rfl
theorem On.same {S S' : Nat → Prop} {w w' : World} {P : World → Prop} (h : On S w P) (hs : w.heap.size ≤ w'.heap.size) (hk : ∀ b, S b → b < w.heap.size → S' b ∧ w'.heap[b]? = w.heap[b]?) : On S' w' P :=
 fun w'' h1 h2 => h w'' (Nat.le_trans hs h1) fun b hb hl => (h2 b (hk b hb hl).1 (Nat.lt_of_lt_of_le hl hs)).trans (hk b hb hl).2
theorem On.bel {S : Nat → Prop} {w w' : World} {P : World → Prop} (h : On S w P) (hb : Below w.heap.size w w') : On S w' P := h.same hb.size fun b hs hl => ⟨hs, hb.block b hl⟩
theorem On.mono {S S' : Nat → Prop} {w : World} {P : World → Prop} (h : On S w P) (hk : ∀ b, S b → b < w.heap.size → S' b) : On S' w P := h.same (Nat.le_refl _) fun b hs hl => ⟨hk b hs hl, rfl⟩
theorem On.imp {S : Nat → Prop} {w : World} {P Q : World → Prop} (h : On S w P) (hi : ∀ w', P w' → Q w') : On S w Q := fun w' h1 h2 => hi w' (h w' h1 h2)
theorem On.sl {S : Nat → Prop} {w0 w : World} {v : Value} {l : List Value} (h : Sl w0 v l) (hb : Below w0.heap.size w0 w) (hS : ∀ b, b < w0.heap.size → S b) : On S w (fun w => Sl w v l) := fun w' h1 h2 =>
 h.of fun p hp => World.cell?_of_block ((h2 _ (hS _ hp) (Nat.lt_of_lt_of_le hp hb.size)).trans (hb.block _ hp))
abbrev ConstAt (w : World) (c : Dt) (dl : Value) : Prop := DtAt w (fun _ => True) (.agg #[.int .i64 c.kind, .int .i64 c.int, .string c.text, dl]) c
theorem On.dt {S : Nat → Prop} {w0 w : World} {dl : Value} {c : Dt} (h : ConstAt w0 c dl) (hb : Below w0.heap.size w0 w) (hS : ∀ b, b < w0.heap.size → S b) : On S w (fun w => ConstAt w c dl) := fun w' h1 h2 =>
 h.same (fun _ h _ => h) (Nat.le_trans hb.size h1) fun b _ hl => (h2 b (hS b hl) (Nat.lt_of_lt_of_le hl hb.size)).trans (hb.block b hl)
theorem zero_const (w : World) : ConstAt w Dt.zero (.slice none 0 0) := .nil 0 0 _
theorem On.zero {S : Nat → Prop} {w : World} : On S w (fun w => ConstAt w Dt.zero (.slice none 0 0)) := fun w' _ _ => zero_const w'
theorem On.nil {S : Nat → Prop} {w : World} : On S w (fun w => Sl w (.slice none 0 0) (strs [])) := fun w' _ _ => ⟨none, 0, rfl, .inl ⟨rfl, rfl, rfl⟩⟩
theorem On.nokids {S : Nat → Prop} {w : World} : On S w (fun w => KidsAt w (.slice none 0 0) []) := fun w' _ _ => ⟨none, 0, rfl, Nat.le_refl _, .inl rfl⟩
theorem room_nil : RoomOk (.slice none 0 0) := ⟨none, 0, 0, rfl, Nat.le_refl _⟩
theorem exAt_mk {w : World} {k : Int} {n : ByteArray} {l : List ByteArray} {c : Dt} {ks : List Ex} {nv dl kv : Value} (hn : Sl w nv (strs l)) (hd : ConstAt w c dl) (hr : RoomOk nv) (hk : KidsAt w kv ks) : ExAt w (exV k n nv c dl kv) (.mk k n l c ks) := by
 obtain ⟨a, q, rfl, hq, h⟩ := hk
 exact ExAt.of hn hd hr hq h
theorem On.mk {S : Nat → Prop} {w : World} {k : Int} {n : ByteArray} {l : List ByteArray} {c : Dt} {ks : List Ex} {nv dl kv : Value} (hn : On S w (fun w => Sl w nv (strs l))) (hd : On S w (fun w => ConstAt w c dl)) (hr : RoomOk nv) (hk : On S w (fun w => KidsAt w kv ks)) : On S w (fun w => ExAt w (exV k n nv c dl kv) (.mk k n l c ks)) := fun w' h1 h2 =>
 exAt_mk (hn w' h1 h2) (hd w' h1 h2) hr (hk w' h1 h2)
structure XM where
 e : Ex
 nv : Value
 dl : Value
 kv : Value
def XM.cells (x : XM) : List Value := exC x.e x.nv x.dl x.kv
def XM.val (x : XM) : Value := exV x.e.kind x.e.name x.nv x.e.const x.dl x.kv
def flatX (l : List XM) : List Value := l.flatMap XM.cells
theorem flatX_app (l m : List XM) : flatX (l ++ m) = flatX l ++ flatX m := by simp [flatX]
theorem flatX_one (x : XM) : flatX [x] = x.cells := by simp [flatX]
theorem flatX_length : ∀ l : List XM, (flatX l).length = l.length * 8
 | [] => rfl
 | x :: l => by
  have e : flatX (x :: l) = x.cells ++ flatX l := rfl
  rw [e, List.length_append, flatX_length l]
  simp [XM.cells, exC]
  omega
theorem flatX_at : ∀ (l : List XM) (i : Nat) (x : XM), l[i]? = some x → ∀ j, j < 8 → (flatX l)[i * 8 + j]? = x.cells[j]?
 | [], i, x, h, j, hj => by simp at h
 | y :: l, 0, x, h, j, hj => by
  simp at h
  subst h
  have e : flatX (y :: l) = y.cells ++ flatX l := rfl
  rw [e, List.getElem?_append_left (by simp [XM.cells, exC]; omega)]
  simp
 | y :: l, i + 1, x, h, j, hj => by
  have e : flatX (y :: l) = y.cells ++ flatX l := rfl
  have h2 : l[i]? = some x := by simpa using h
  rw [e, List.getElem?_append_right (by simp [XM.cells, exC]; omega), ← flatX_at l i x h2 j hj]
  congr 1
  simp [XM.cells, exC]
  omega
theorem infoExpr : (Tryz.prog.info? 28).map (fun i => (i.zero, i.size, i.bytes)) = some (some (.agg #[.int .i64 0, .string ⟨#[]⟩, .slice none 0 0, .int .i64 0, .int .i64 0, .string ⟨#[]⟩, .slice none 0 0, .slice none 0 0]), 8, 128) := by kernel_rfl
theorem exc_of {w : World} {g i : Nat} {M : List XM} {x : XM} (hc : ∀ (j : Nat) (u : Value), (flatX M)[j]? = some u → w.cell? ((⟨g, 0, none⟩ : Addr).add j) = some u) (hx : M[i]? = some x) (he : ExAt w x.val x.e) : ExC w g (0 + i * 8) x.e x.nv x.dl x.kv := by
 have h := fun j hj u (hu : x.cells[j]? = some u) => hc (i * 8 + j) u ((flatX_at M i x hx j hj).trans hu)
 have e : ∀ j, (⟨g, 0, none⟩ : Addr).add j = ⟨g, 0 + j, none⟩ := fun j => by rw [Addr.add_mid]
 refine ⟨?_, ?_, ?_, ?_, ?_, ?_, ?_, ?_, he⟩
 ·have := h 0 (by omega) _ rfl; rw [e] at this; exact this
 ·have := h 1 (by omega) _ rfl; rw [e] at this; simpa [Nat.add_assoc] using this
 ·have := h 2 (by omega) _ rfl; rw [e] at this; simpa [Nat.add_assoc] using this
 ·have := h 3 (by omega) _ rfl; rw [e] at this; simpa [Nat.add_assoc] using this
 ·have := h 4 (by omega) _ rfl; rw [e] at this; simpa [Nat.add_assoc] using this
 ·have := h 5 (by omega) _ rfl; rw [e] at this; simpa [Nat.add_assoc] using this
 ·have := h 6 (by omega) _ rfl; rw [e] at this; simpa [Nat.add_assoc] using this
 ·have := h 7 (by omega) _ rfl; rw [e] at this; simpa [Nat.add_assoc] using this
theorem kids_row {w : World} {B : Nat} {v : Value} {M : List XM} (h : w.ownsRow B 28 8 v M.length (flatX M)) (hx : ∀ x ∈ M, ExAt w x.val x.e) : KidsAt w v (M.map (·.e)) := by
 rcases own_shape h with ⟨e1, e2, _⟩ | ⟨g, cap, e, h0, h1, h2, h3⟩
 ·have : M = [] := List.length_eq_zero_iff.1 e2
  subst this
  exact ⟨none, 0, e1, Nat.le_refl _, .inl rfl⟩
 ·have hc := h.cells (g := g) (by rw [e]; rfl)
  refine ⟨some ⟨g, 0, none⟩, cap, by rw [e]; simp, by simpa using h2, .inr ⟨g, 0, rfl, h1, fun j x hj => ?_⟩⟩
  rw [List.getElem?_map] at hj
  obtain ⟨m, hm, rfl⟩ : ∃ m, M[j]? = some m ∧ m.e = x := by simpa using hj
  exact ⟨m.nv, m.dl, m.kv, exc_of hc hm (hx m (List.mem_of_getElem? hm))⟩
theorem On.kids {S : Nat → Prop} {w : World} {B : Nat} {v : Value} {M : List XM} (h : w.ownsRow B 28 8 v M.length (flatX M)) (hb : ∀ b, v.ownBlock = some b → S b) (hx : ∀ x ∈ M, On S w (fun w => ExAt w x.val x.e)) : On S w (fun w => KidsAt w v (M.map (·.e))) := fun w' h1 h2 =>
 kids_row (own_same h fun b e => h2 b (hb b e) (h.lt b e).2) fun x hm => hx x hm w' h1 h2
theorem On.names {S : Nat → Prop} {w : World} {B n : Nat} {v : Value} {l : List ByteArray} (h : w.ownsRow B 9 1 v n (strs l)) (hb : ∀ b, v.ownBlock = some b → S b) : On S w (fun w => Sl w v (strs l)) ∧ RoomOk v := by
 constructor
 ·intro w' h1 h2
  obtain ⟨a, c, e, hs, _⟩ := own_open (own_same h fun b e => h2 b (hb b e) (h.lt b e).2)
  exact hs
 ·obtain ⟨a, c, e, hs, hc⟩ := own_open h
  exact ⟨a, _, c, e, hc⟩
structure RI (B : Nat) (w : World) (ρ : Nat → Nat) : Prop where
 low : ∀ b, b < B → ρ b = 0
 hi : ∀ b, w.heap.size ≤ b → ρ b = 0
 le : B ≤ w.heap.size
structure Gr (r : Nat) (w : World) (ρ : Nat → Nat) (w' : World) (ρ' : Nat → Nat) : Prop where
 os : w'.os = w.os
 tape : w'.tape = w.tape
 output : w'.output = w.output
 size : w.heap.size ≤ w'.heap.size
 keep : ∀ b, b < w.heap.size → ρ b ≠ r → w'.heap[b]? = w.heap[b]?
 role : ∀ b, b < w.heap.size → ρ' b = ρ b
theorem RI.bel {B : Nat} {w w' : World} {ρ : Nat → Nat} (h : RI B w ρ) (hb : Below w.heap.size w w') : RI B w' ρ := ⟨h.low, fun b hl => h.hi b (Nat.le_trans hb.size hl), Nat.le_trans h.le hb.size⟩
theorem Gr.set {r c i : Nat} {w : World} {ρ : Nat → Nat} (v : Value) (hc : ρ c = r) : Gr r w ρ (w.setCell ⟨c, i, none⟩ v) ρ :=
 ⟨rfl, rfl, rfl, by simp [World.setCell], fun b hl hr => heap_setCell_other _ _ _ _ (fun e => hr (by rw [e]; exact hc)), fun _ _ => rfl⟩
theorem RI.set {B c i : Nat} {w : World} {ρ : Nat → Nat} {v : Value} (h : RI B w ρ) : RI B (w.setCell ⟨c, i, none⟩ v) ρ := ⟨h.low, fun b hl => h.hi b (by simpa [World.setCell] using hl), by simpa [World.setCell] using h.le⟩
theorem RowR.gr {r r' ty size n : Nat} {w w' : World} {ρ ρ' : Nat → Nat} {v : Value} {xs : List Value} (h : RowR w ρ r' ty size n v xs) (hr : r' ≠ r) (hg : Gr r w ρ w' ρ') : RowR w' ρ' r' ty size n v xs :=
 h.keep fun b hl e => ⟨hg.keep b hl (by rw [e]; exact hr), (hg.role b hl).trans e⟩
abbrev Free0 (ρ : Nat → Nat) (w : World) (P : World → Prop) : Prop := On (fun b => ρ b = 0) w P
theorem free_gr {r : Nat} {w w' : World} {ρ ρ' : Nat → Nat} {P : World → Prop} (h : Free0 ρ w P) (hr : r ≠ 0) (hg : Gr r w ρ w' ρ') : Free0 ρ' w' P :=
 On.same h hg.size fun b hb hl => ⟨(hg.role b hl).trans hb, hg.keep b hl (by rw [hb]; exact fun e => hr e.symm)⟩
structure XR (w : World) (ρ : Nat → Nat) (r : Nat) (v : Value) (l : List XM) : Prop where
 row : RowR w ρ r 28 8 l.length v (flatX l)
 els : ∀ x ∈ l, Free0 ρ w (fun w => ExAt w x.val x.e)
theorem XR.gr {r r' : Nat} {w w' : World} {ρ ρ' : Nat → Nat} {v : Value} {l : List XM} (h : XR w ρ r' v l) (hr : r' ≠ r) (h0 : r ≠ 0) (hg : Gr r w ρ w' ρ') : XR w' ρ' r' v l :=
 ⟨RowR.gr h.row hr hg, fun x hx => free_gr (h.els x hx) h0 hg⟩
theorem XR.none (w : World) (ρ : Nat → Nat) (r : Nat) : XR w ρ r (.slice none 0 0) [] := ⟨RowR.none w ρ r _ 8, fun x hx => by simp at hx⟩
theorem XR.bel {r : Nat} {w w' : World} {ρ : Nat → Nat} {v : Value} {l : List XM} (h : XR w ρ r v l) (hb : Below w.heap.size w w') : XR w' ρ r v l :=
 ⟨RowR.keep h.row fun b hl e => ⟨hb.block b hl, e⟩, fun x hx => (h.els x hx).bel hb⟩
theorem row_grow {r ty size n n' : Nat} {w w1 w2 : World} {ρ : Nat → Nat} {v v' : Value} {xs xs' : List Value} {B : Nat} (h : RowR w ρ r ty size n v xs) (hi : RI B w ρ) (hr : r ≠ 0) (hb : Below w.heap.size w w1) (hown : w2.ownsRow 0 ty size v' n' xs') (hg : w1.grownBy w2 v.ownBlock) (hl : v'.ownBlock = v.ownBlock ∨ v'.ownBlock = some w1.heap.size) :
  ∃ ρ', RowR w2 ρ' r ty size n' v' xs' ∧ Gr r w ρ w2 ρ' ∧ RI B w2 ρ' := by
 have hle := hb.size
 refine ⟨more (fun b => v'.ownBlock = some b) r ρ, ⟨hown, fun b e => more_yes e⟩, ⟨hg.os.trans hb.os, hg.tape.trans hb.tape, hg.output.trans hb.output, Nat.le_trans hle hg.size, fun b hbl hne => ?_, fun b hbl => ?_⟩, ⟨fun b hbl => ?_, fun b hbl => ?_, Nat.le_trans hi.le (Nat.le_trans hle hg.size)⟩⟩
 ·refine (hg.block b (Nat.lt_of_lt_of_le hbl hle) (fun e => hne (h.2 b e.symm))).trans (hb.block b hbl)
 ·by_cases e : v'.ownBlock = some b
  ·rw [more_yes e]
   rcases hl with h1 | h1
   ·exact (h.2 b (h1.symm.trans e)).symm
   ·rw [h1] at e
    have := Option.some.inj e
    omega
  ·exact more_no e
 ·rw [more_no]
  ·exact hi.low b hbl
  ·intro e
   rcases hl with h1 | h1
   ·have := h.2 b (h1.symm.trans e)
    rw [hi.low b hbl] at this
    exact hr this.symm
   ·rw [h1] at e
    have := Option.some.inj e
    have := hi.le
    omega
 ·rw [more_no]
  ·exact hi.hi b (by have := hg.size; omega)
  ·intro e
   have := (hown.lt b e).2
   omega
theorem XR.push {B r : Nat} {w w1 w2 : World} {ρ : Nat → Nat} {v v' : Value} {l : List XM} {x : XM} (h : XR w ρ r v l) (hi : RI B w ρ) (hr : r ≠ 0) (hx : Free0 ρ w (fun w => ExAt w x.val x.e)) (hb : Below w.heap.size w w1) (hown : w2.ownsRow 0 28 8 v' (l.length + 1) (flatX l ++ x.cells)) (hg : w1.grownBy w2 v.ownBlock) (hl : v'.ownBlock = v.ownBlock ∨ v'.ownBlock = some w1.heap.size) :
  ∃ ρ', XR w2 ρ' r v' (l ++ [x]) ∧ Gr r w ρ w2 ρ' ∧ RI B w2 ρ' := by
 obtain ⟨ρ', h1, h2, h3⟩ := row_grow h.row hi hr hb hown hg hl
 refine ⟨ρ', ⟨by rw [flatX_app, flatX_one, List.length_append]; exact h1, fun y hy => ?_⟩, h2, h3⟩
 rw [List.mem_append] at hy
 rcases hy with hy | hy
 ·exact free_gr (h.els y hy) hr h2
 ·simp at hy
  subst hy
  exact free_gr hx hr h2
theorem Gr.trans {r : Nat} {a b d : World} {ρ ρ' ρ'' : Nat → Nat} (h : Gr r a ρ b ρ') (k : Gr r b ρ' d ρ'') : Gr r a ρ d ρ'' :=
 ⟨k.os.trans h.os, k.tape.trans h.tape, k.output.trans h.output, Nat.le_trans h.size k.size, fun i hi hc => (k.keep i (Nat.lt_of_lt_of_le hi h.size) (by rw [h.role i hi]; exact hc)).trans (h.keep i hi hc), fun i hi => (k.role i (Nat.lt_of_lt_of_le hi h.size)).trans (h.role i hi)⟩
def MadePost (B : Nat) (e' : Ex) (w : World) (en : Ending) (w' : World) : Prop := ∃ x : XM, x.e = e' ∧ en = .returned x.val ∧ On (fun b => b < B ∨ w.heap.size ≤ b) w' (fun w => ExAt w x.val x.e) ∧ Below w.heap.size w w'
theorem made_free {B : Nat} {w w' : World} {ρ : Nat → Nat} {P : World → Prop} (h : On (fun b => b < B ∨ w.heap.size ≤ b) w' P) (hi : RI B w ρ) : Free0 ρ w' P := h.mono fun b hb _ => by
 rcases hb with hb | hb
 ·exact hi.low b hb
 ·exact hi.hi b hb
theorem eight_set (w : World) (g : Nat) (t : TypeId) (a0 a1 a2 a3 a4 a5 a6 a7 b0 b1 b2 b3 b4 b5 b6 b7 : Value) (h : w.heap[g]? = some (.cells #[a0, a1, a2, a3, a4, a5, a6, a7] t (0, 0))) :
  ((((((((w.setCell ⟨g, 0, none⟩ b0).setCell ⟨g, 1, none⟩ b1).setCell ⟨g, 2, none⟩ b2).setCell ⟨g, 3, none⟩ b3).setCell ⟨g, 4, none⟩ b4).setCell ⟨g, 5, none⟩ b5).setCell ⟨g, 6, none⟩ b6).setCell ⟨g, 7, none⟩ b7).heap[g]? = some (.cells #[b0, b1, b2, b3, b4, b5, b6, b7] t (0, 0)) := by
 have e1 : (w.setCell ⟨g, 0, none⟩ b0).heap[g]? = some (.cells #[b0, a1, a2, a3, a4, a5, a6, a7] t (0, 0)) := heap_setCell_same _ g 0 _ _ b0 h
 have e2 : ((w.setCell ⟨g, 0, none⟩ b0).setCell ⟨g, 1, none⟩ b1).heap[g]? = some (.cells #[b0, b1, a2, a3, a4, a5, a6, a7] t (0, 0)) := heap_setCell_same _ g 1 _ _ b1 e1
 have e3 : (((w.setCell ⟨g, 0, none⟩ b0).setCell ⟨g, 1, none⟩ b1).setCell ⟨g, 2, none⟩ b2).heap[g]? = some (.cells #[b0, b1, b2, a3, a4, a5, a6, a7] t (0, 0)) := heap_setCell_same _ g 2 _ _ b2 e2
 have e4 : ((((w.setCell ⟨g, 0, none⟩ b0).setCell ⟨g, 1, none⟩ b1).setCell ⟨g, 2, none⟩ b2).setCell ⟨g, 3, none⟩ b3).heap[g]? = some (.cells #[b0, b1, b2, b3, a4, a5, a6, a7] t (0, 0)) := heap_setCell_same _ g 3 _ _ b3 e3
 have e5 : (((((w.setCell ⟨g, 0, none⟩ b0).setCell ⟨g, 1, none⟩ b1).setCell ⟨g, 2, none⟩ b2).setCell ⟨g, 3, none⟩ b3).setCell ⟨g, 4, none⟩ b4).heap[g]? = some (.cells #[b0, b1, b2, b3, b4, a5, a6, a7] t (0, 0)) := heap_setCell_same _ g 4 _ _ b4 e4
 have e6 : ((((((w.setCell ⟨g, 0, none⟩ b0).setCell ⟨g, 1, none⟩ b1).setCell ⟨g, 2, none⟩ b2).setCell ⟨g, 3, none⟩ b3).setCell ⟨g, 4, none⟩ b4).setCell ⟨g, 5, none⟩ b5).heap[g]? = some (.cells #[b0, b1, b2, b3, b4, b5, a6, a7] t (0, 0)) := heap_setCell_same _ g 5 _ _ b5 e5
 have e7 : (((((((w.setCell ⟨g, 0, none⟩ b0).setCell ⟨g, 1, none⟩ b1).setCell ⟨g, 2, none⟩ b2).setCell ⟨g, 3, none⟩ b3).setCell ⟨g, 4, none⟩ b4).setCell ⟨g, 5, none⟩ b5).setCell ⟨g, 6, none⟩ b6).heap[g]? = some (.cells #[b0, b1, b2, b3, b4, b5, b6, a7] t (0, 0)) := heap_setCell_same _ g 6 _ _ b6 e6
 have e8 : ((((((((w.setCell ⟨g, 0, none⟩ b0).setCell ⟨g, 1, none⟩ b1).setCell ⟨g, 2, none⟩ b2).setCell ⟨g, 3, none⟩ b3).setCell ⟨g, 4, none⟩ b4).setCell ⟨g, 5, none⟩ b5).setCell ⟨g, 6, none⟩ b6).setCell ⟨g, 7, none⟩ b7).heap[g]? = some (.cells #[b0, b1, b2, b3, b4, b5, b6, b7] t (0, 0)) := heap_setCell_same _ g 7 _ _ b7 e7
 exact e8
def put8 (w : World) (g : Nat) (b0 b1 b2 b3 b4 b5 b6 b7 : Value) : World := (((((((w.setCell ⟨g, 0, none⟩ b0).setCell ⟨g, 1, none⟩ b1).setCell ⟨g, 2, none⟩ b2).setCell ⟨g, 3, none⟩ b3).setCell ⟨g, 4, none⟩ b4).setCell ⟨g, 5, none⟩ b5).setCell ⟨g, 6, none⟩ b6).setCell ⟨g, 7, none⟩ b7
theorem put8_gr {r g : Nat} {w : World} {ρ : Nat → Nat} (h : ρ g = r) (b0 b1 b2 b3 b4 b5 b6 b7 : Value) : Gr r w ρ (put8 w g b0 b1 b2 b3 b4 b5 b6 b7) ρ := by
 unfold put8
 have k : ∀ (W : World) (i : Nat) (v : Value), Gr r w ρ W ρ → Gr r w ρ (W.setCell ⟨g, i, none⟩ v) ρ := fun W i v hW => hW.trans (Gr.set v h)
 exact k _ 7 _ (k _ 6 _ (k _ 5 _ (k _ 4 _ (k _ 3 _ (k _ 2 _ (k _ 1 _ (Gr.set _ h)))))))
theorem put8_kp {g : Nat} {w : World} (b0 b1 b2 b3 b4 b5 b6 b7 : Value) : (put8 w g b0 b1 b2 b3 b4 b5 b6 b7).heap.size = w.heap.size ∧ ∀ b, b ≠ g → (put8 w g b0 b1 b2 b3 b4 b5 b6 b7).heap[b]? = w.heap[b]? := by
 refine ⟨by simp [put8, World.setCell], fun b hb => ?_⟩
 unfold put8
 rw [heap_setCell_other _ _ _ _ hb, heap_setCell_other _ _ _ _ hb, heap_setCell_other _ _ _ _ hb, heap_setCell_other _ _ _ _ hb, heap_setCell_other _ _ _ _ hb, heap_setCell_other _ _ _ _ hb, heap_setCell_other _ _ _ _ hb, heap_setCell_other _ _ _ _ hb]
theorem below_put8 {B g : Nat} {w w1 : World} (h : Below B w w1) (hg : B ≤ g) (b0 b1 b2 b3 b4 b5 b6 b7 : Value) : Below B w (put8 w1 g b0 b1 b2 b3 b4 b5 b6 b7) :=
 (((((((h.setCell (p := ⟨g, 0, none⟩) hg _).setCell (p := ⟨g, 1, none⟩) hg _).setCell (p := ⟨g, 2, none⟩) hg _).setCell (p := ⟨g, 3, none⟩) hg _).setCell (p := ⟨g, 4, none⟩) hg _).setCell (p := ⟨g, 5, none⟩) hg _).setCell (p := ⟨g, 6, none⟩) hg _).setCell (p := ⟨g, 7, none⟩) hg _
theorem on_put8 {S : Nat → Prop} {g : Nat} {w : World} {P : World → Prop} (h : On S w P) (hg : ¬ S g) (b0 b1 b2 b3 b4 b5 b6 b7 : Value) : On S (put8 w g b0 b1 b2 b3 b4 b5 b6 b7) P :=
 h.same (Nat.le_of_eq (put8_kp b0 b1 b2 b3 b4 b5 b6 b7).1.symm) fun b hb _ => ⟨hb, (put8_kp b0 b1 b2 b3 b4 b5 b6 b7).2 b fun e => hg (e ▸ hb)⟩
theorem exprD : ∃ fs, Tryz.prog.underlying 28 = some (.struct fs) := ⟨_, Tryz.underlying28⟩
theorem exprSize : (Tryz.prog.info? 28).map (·.size) = some 8 := by kernel_rfl
theorem new_cells8 (W : World) (v0 v1 v2 v3 v4 v5 v6 v7 : Value) (t : TypeId) : ∀ (j : Nat) (u : Value), [v0, v1, v2, v3, v4, v5, v6, v7][j]? = some u → (W.alloc (.cells #[v0, v1, v2, v3, v4, v5, v6, v7] t)).cell? ((⟨W.heap.size, 0, none⟩ : Addr).add j) = some u := by
 intro j u hu
 rw [Addr.add_mid, Nat.zero_add, cell_of_row _ _ _ _ _ _ (heap_alloc_new W _)]
 simpa using hu
structure MapR (B : Nat) (w : World) (p q : Nat) (w' : World) (vv : Value) (l : List Ex) (ρ : Nat → Nat) (M : List XM) : Prop where
 row : XR w' ρ 2 vv M
 ri : RI B w' ρ
 es : M.map (·.e) = l
 below : Below w.heap.size w w'
 rp : ρ p = 9
 rq : ρ q = 9
 two : ∀ b, b < w.heap.size → ρ b ≠ 2
 mid : ∀ b, B ≤ b → b < p → ρ b = 8
theorem Gr.bel {r N : Nat} {w w' : World} {ρ ρ' : Nat → Nat} (h : Gr r w ρ w' ρ') (hN : ∀ b, b < N → ρ b ≠ r) (hl : N ≤ w.heap.size) : Below N w w' :=
 ⟨h.os, h.tape, h.output, h.size, fun b hb => h.keep b (Nat.lt_of_lt_of_le hb hl) (hN b hb)⟩
theorem MapR.next {B p q : Nat} {w wr wk w4 w5 w6 : World} {vv v' : Value} {l : List Ex} {ρ : Nat → Nat} {M : List XM} {x : XM} (H : MapR B w p q wr vv l ρ M) (hp : p < w.heap.size) (hq : q < w.heap.size) (hk : Below wr.heap.size wr wk) (h4 : Below wk.heap.size wk w4) (hon : On (fun b => b < B ∨ wk.heap.size ≤ b) w4 (fun w => ExAt w x.val x.e)) (h5 : Below w4.heap.size w4 w5)
  (hown : w6.ownsRow 0 28 8 v' (M.length + 1) (flatX M ++ x.cells)) (hg : w5.grownBy w6 vv.ownBlock) (hl : v'.ownBlock = vv.ownBlock ∨ v'.ownBlock = some w5.heap.size) : ∃ ρ', MapR B w p q w6 v' (l ++ [x.e]) ρ' (M ++ [x]) := by
 have hri := H.ri.bel hk
 have h14 : Below wr.heap.size wr w4 := hk.trans (h4.mono hk.size)
 obtain ⟨ρ', k1, k2, k3⟩ := XR.push (B := B) (H.row.bel h14) (H.ri.bel h14) (by decide) (made_free hon hri) h5 hown hg hl
 have hsz : w.heap.size ≤ w4.heap.size := Nat.le_trans H.below.size h14.size
 have hr : ∀ b, b < w.heap.size → ρ' b = ρ b := fun b hb => k2.role b (Nat.lt_of_lt_of_le hb hsz)
 exact ⟨ρ', k1, k3, by rw [List.map_append, H.es]; rfl, (H.below.trans (h14.mono H.below.size)).trans (k2.bel H.two hsz), (hr p hp).trans H.rp, (hr q hq).trans H.rq, fun b hb => by rw [hr b hb]; exact H.two b hb, fun b h1 h2 => (hr b (by omega)).trans (H.mid b h1 h2)⟩
theorem frozen_row8 {w : World} {g i : Nat} {cs : Array Value} {t : TypeId} (h : w.heap[g]? = some (.cells cs t (0, 0))) : w.frozen? ⟨g, i, none⟩ = false := frozen_of_row w g i _ _ h
def MapPost (B : Nat) (k : Int) (n : ByteArray) (nv : Value) (c : Dt) (dl : Value) (l : List Ex) (w : World) (en : Ending) (w' : World) : Prop :=
 ∃ (rv : Value) (M : List XM), M.map (·.e) = l ∧ en = .returned (exV k n nv c dl rv) ∧ w'.ownsRow 0 28 8 rv M.length (flatX M) ∧ (∀ b, rv.ownBlock = some b → w.heap.size ≤ b) ∧ (∀ x ∈ M, On (fun b => b < B ∨ w.heap.size ≤ b) w' (fun w => ExAt w x.val x.e)) ∧ Below w.heap.size w w'
theorem XR.slice {w : World} {ρ : Nat → Nat} {r : Nat} {v : Value} {l : List XM} (h : XR w ρ r v l) : ∃ a c, v = .slice a l.length c := RowR.slice h.row
theorem XM.oneCell (x : XM) (hn : ∃ a n c, x.nv = .slice a n c) (hd : ∃ a n c, x.dl = .slice a n c) (hk : ∃ a n c, x.kv = .slice a n c) : ∀ u ∈ x.cells, u.oneCell' = true := by
 obtain ⟨a, n, c, hn⟩ := hn
 obtain ⟨a', n', c', hd⟩ := hd
 obtain ⟨a2, n2, c2, hk⟩ := hk
 intro u hu
 unfold XM.cells exC at hu
 rw [hn, hd, hk] at hu
 simp at hu
 rcases hu with rfl | rfl | rfl | rfl | rfl | rfl | rfl | rfl <;> rfl
structure AppX (w4 : World) (vv : Value) (M : List XM) (x : XM) (c0 c1 c2 c3 c4 c5 c6 c7 : Value) : Prop where
 cells : x.cells = [c0, c1, c2, c3, c4, c5, c6, c7]
 own : (w4.alloc (.cells #[c0, c1, c2, c3, c4, c5, c6, c7] 28)).ownsRow 0 28 8 vv M.length (flatX M)
 src : ∀ (j : Nat) (u : Value), x.cells[j]? = some u → (w4.alloc (.cells #[c0, c1, c2, c3, c4, c5, c6, c7] 28)).cell? ((⟨w4.heap.size, 0, none⟩ : Addr).add j) = some u
 one : ∀ u ∈ x.cells, u.oneCell' = true
 len : x.cells.length = 1 * 8
 size : (w4.alloc (.cells #[c0, c1, c2, c3, c4, c5, c6, c7] 28)).heap.size = w4.heap.size + 1
theorem appX {wr w4 : World} {ρ : Nat → Nat} {r : Nat} {vv : Value} {M : List XM} (h : XR wr ρ r vv M) (hb : Below wr.heap.size wr w4) (x : XM) (hn : ∃ a n c, x.nv = .slice a n c) (hd : ∃ a n c, x.dl = .slice a n c) (hk : ∃ a n c, x.kv = .slice a n c) :
  AppX w4 vv M x (.int .i64 x.e.kind) (.string x.e.name) x.nv (.int .i64 x.e.const.kind) (.int .i64 x.e.const.int) (.string x.e.const.text) x.dl x.kv :=
 ⟨rfl, (own_same h.row.1 fun b e => hb.block b (h.row.1.lt b e).2).alloc _, new_cells8 w4 _ _ _ _ _ _ _ _ _, XM.oneCell x hn hd hk, rfl, by simp⟩
set_option maxHeartbeats 16000000 in
theorem map_any (g : Nat) (eg : ∀ args w, (callFunc g args).run Tryz.prog w = .ok (.enter g args) w) (h : Ex → Ex) (w0 : World) (B : Nat) (hB : B ≤ w0.heap.size) (k : Int) (n : ByteArray) (c : Dt) (l : List Ex) {w : World} {na : Option Addr} {nn nc : Nat} {da : Option Addr} {dn dc : Nat} {ka : Option Addr} {kc : Nat} (hk : KidsAt w0 (.slice ka l.length kc) l) (hb : Below w0.heap.size w0 w) (hl : l.length ≤ 100000)
  (hp : ∀ (W : World) (x : Ex) (na : Option Addr) (nc : Nat) (da : Option Addr) (dn dc : Nat) (ka : Option Addr) (kc : Nat), x ∈ l → Op w0 x na nc da dn dc ka kc → Below w0.heap.size w0 W → Calls Tryz.prog g #[.agg #[.int .i64 x.kind, .string x.name, .slice na x.names.length nc, .int .i64 x.const.kind, .int .i64 x.const.int, .string x.const.text, .slice da dn dc, .slice ka x.kids.length kc]] W (MadePost B (h x) W)) :
  Calls Tryz.prog 42 #[.agg #[.int .i64 k, .string n, .slice na nn nc, .int .i64 c.kind, .int .i64 c.int, .string c.text, .slice da dn dc, .slice ka l.length kc], .func (.func g) #[] #[]] w (MapPost B k n (.slice na nn nc) c (.slice da dn dc) (l.map h) w) := by
 obtain ⟨i0, hi, hz0, hz1, hz2⟩ := info_parts infoExpr
 have HI := hid hi
 have HZ0 := hid hz0
 have HZ1 := hid hz1
 have HZ2 := hid hz2
 obtain ⟨w1, B1⟩ := boxed w #[.int .i64 k, .string n, .slice na nn nc, .int .i64 c.kind, .int .i64 c.int, .string c.text, .slice da dn dc, .slice ka l.length kc] 28
 obtain ⟨w2, B2⟩ := boxed w1 #[.int .i64 0, .string ⟨#[]⟩, .slice none 0 0, .int .i64 0, .int .i64 0, .string ⟨#[]⟩, .slice none 0 0, .slice none 0 0] 28
 have hR := (Row.of B1.blk).bel B2.below
 have hB02 : Below w.heap.size w w2 := B1.below.trans (B2.below.mono B1.below.size)
 have hsz2 : w2.heap.size = w.heap.size + 2 := by rw [B2.size, B1.size]
 have hZ : w2.heap[w.heap.size + 1]? = some (.cells #[.int .i64 0, .string ⟨#[]⟩, .slice none 0 0, .int .i64 0, .int .i64 0, .string ⟨#[]⟩, .slice none 0 0, .slice none 0 0] 28 (0, 0)) := by
  have := B2.blk
  rw [B1.size] at this
  exact this
 have hP : w2.heap[w.heap.size]? = some (.cells #[.int .i64 k, .string n, .slice na nn nc, .int .i64 c.kind, .int .i64 c.int, .string c.text, .slice da dn dc, .slice ka l.length kc] 28 (0, 0)) := (B2.below.block _ (by rw [B1.size]; omega)).trans B1.blk
 obtain ⟨ρ0, hρ0⟩ : ∃ ρ0 : Nat → Nat, ρ0 = fun b => if B ≤ b ∧ b < w.heap.size then 8 else if b = w.heap.size ∨ b = w.heap.size + 1 then 9 else 0 := ⟨_, rfl⟩
 have hle := Nat.le_trans hB hb.size
 have hri : RI B w2 ρ0 := by
  subst hρ0
  refine ⟨fun b hbl => ?_, fun b hbl => ?_, by omega⟩
  ·show (if _ then _ else _) = _
   rw [if_neg (by omega), if_neg (by omega)]
  ·show (if _ then _ else _) = _
   rw [if_neg (by omega), if_neg (by omega)]
 have hr1 : ρ0 w.heap.size = 9 := by subst hρ0; show (if _ then _ else _) = _; rw [if_neg (by omega), if_pos (.inl rfl)]
 have hr2 : ρ0 (w.heap.size + 1) = 9 := by subst hρ0; show (if _ then _ else _) = _; rw [if_neg (by omega), if_pos (.inr rfl)]
 have hr3 : ∀ b, b < w2.heap.size → ρ0 b ≠ 2 := by
  intro b _
  subst hρ0
  show (if _ then _ else _) ≠ _
  split
  ·decide
  ·split <;> decide
 have hr4 : ∀ b, B ≤ b → b < w.heap.size → ρ0 b = 8 := by
  intro b h1 h2
  subst hρ0
  exact if_pos ⟨h1, h2⟩
 have HR3 := hid hr3
 have HR4 := hid hr4
 have HLE := hid hle
 have HRI := hid hri
 have HR1 := hid hr1
 have HR2 := hid hr2
 have HBA := hid B1
 have HBB := hid B2
 have HZB := hid hZ
 have HPB := hid hP
 have HB02 := hid hB02
 have HB0 := hid (hb.trans (hB02.mono hb.size))
 have HK := hid hk
 have HP := hid hp
 have HS2 := hid hsz2
 have HROW := hid hR
 obtain ⟨x0, x1, x2, x3, x4, x5, x6, x7, hbl⟩ := hR
 clear B1 B2 hZ hP hB02 hsz2 hri hr1 hr2 hr3 hr4 hle hb hk hp hρ0 hi hz0 hz1 hz2
 go_enter Tryz.func42, Tryz.ntmps42
 go_upto_region 1 with fail
 rw [← HBA.out.eq, ← HBB.out.eq]
 go_wp2_with fail
 go_loopg [5, 11] l.length (fun gg rv i wr => ∃ (j : Nat) (vv : Value) (ρ : Nat → Nat) (M : List XM), j ≤ l.length ∧ gg = l.length - j ∧ i = .int .i64 j ∧ vv = rv ∧ MapR B w2 w.heap.size (w.heap.size + 1) wr vv ((l.take j).map h) ρ M)
 case atStart => exact ⟨0, _, ρ0, [], Nat.zero_le _, rfl, rfl, rfl, ⟨XR.none w2 ρ0 2, HRI.out, by rw [List.take_zero]; rfl, Below.refl _ _, HR1.out, HR2.out, HR3.out, HR4.out⟩⟩
 case round =>
  obtain ⟨j, vv, ρ, M, hj, rfl, rfl, rfl, hm⟩ := hrel
  have HM := hid hm
  have HB0R : Hid (Below w0.heap.size w0 wr) := HB0.out.trans (hm.below.mono HB0.out.size)
  have hrw := HROW.out.bel hm.below
  obtain ⟨y0, y1, y2, y3, y4, y5, y6, y7, ybl⟩ := hrw
  clear hm
  by_cases hlt : j < l.length
  ·obtain ⟨x, hx⟩ : ∃ x, l[j]? = some x := ⟨_, List.getElem?_eq_getElem hlt⟩
   obtain ⟨_, kb, koff, e1, hkb, nv0, dl0, kv0, hc0⟩ := HK.out.at hx
   obtain ⟨na2, nc2, da2, dn2, dc2, ya2, yc2, rfl, rfl, rfl, hop⟩ := Op.of hc0.ex
   have hc1 := hc0.bel hkb HB0R.out
   subst e1
   obtain ⟨c0, c1, c2, c3, c4, c5, c6, c7, _⟩ := hc1
   have hkb2 : kb < wr.heap.size := Nat.lt_of_lt_of_le hkb HB0R.out.size
   obtain ⟨wk, BK⟩ := boxedE wr x na2 nc2 da2 dn2 dc2 ya2 yc2
   have hRK := Row.of BK.blk
   have HBK := hid BK
   have hcall := HP.out wk x na2 nc2 da2 dn2 dc2 ya2 yc2 (List.mem_of_getElem? hx) hop (HB0R.out.trans (BK.below.mono HB0R.out.size))
   have HC := hid hcall
   have g1 : (0 : Int) ≤ (j : Int) := by omega
   have g2 : (j : Int) < (l.length : Int) := by omega
   have gw : IntKind.i64.wrap ((j : Int) + 1) = ((j + 1 : Nat) : Int) := by rw [IntKind.wrap_i64]; omega
   have htk : (l.take (j + 1)).map h = (l.take j).map h ++ [h x] := by rw [List.take_add_one, hx]; simp
   have HTK := hid htk
   obtain ⟨v0, v1, v2, v3, v4, v5, v6, v7, vbl⟩ := hRK
   have hml : M.length = j := by
    have := congrArg List.length HM.out.es
    simp at this
    omega
   have HML := hid hml
   unfold MadePost at HC
   clear hx hc0 hop BK hcall htk hkb hml
   go_upto_region 5 with fail
   rw [← HBK.out.eq]
   go_wp2_with (first
    | (go_at_fn g; (with_reducible refine HC.out.mono ?_); rintro e2 w4 ⟨⟨ex, xnv, xdl, xkv⟩, rfl, rfl, hon, hb4⟩; obtain ⟨⟨an, nnn, cn, hs1⟩, ⟨ad, ndn, cd, hs2⟩, ⟨ak, nkn, ck, hs3⟩⟩ := ExAt.slices hon.at; dsimp only at hs1 hs2 hs3 hon; subst hs1 hs2 hs3; unfold XM.val exV; dsimp only; have HON := hid hon; have HB4 : Hid (Below wr.heap.size wr w4) := HBK.out.below.trans (hb4.mono HBK.out.below.size); have HBK4 := hid hb4; have hap := appX HM.out.row HB4.out ⟨h x, .slice an nnn cn, .slice ad ndn cd, .slice ak nkn ck⟩ ⟨_, _, _, rfl⟩ ⟨_, _, _, rfl⟩ ⟨_, _, _, rfl⟩; have HAP := hid hap; clear hon hb4 hap)
    | (at_builtin; refine wpList_append_v rfl (.tmp 15) (.tmp 19) 26 rfl 0 28 i0 _ 8 128 Tryz.underlying26 HI.out HZ0.out HZ1.out HZ2.out rfl (by decide) vv M.length (flatX M) rfl HAP.out.own (some ⟨w4.heap.size, 0, none⟩) 1 1 (XM.cells ⟨h x, .slice an nnn cn, .slice ad ndn cd, .slice ak nkn ck⟩) rfl HAP.out.len (.inr ⟨_, rfl, HAP.out.src⟩) HAP.out.one (by have := HML.out; simp only [maxLen]; omega) (by have := HML.out; omega) (Nat.zero_le _) (w4.heap.size + 1) HAP.out.size ?_; intro av6 cv6 w6 hown hgr hlb; generalize hv6 : Value.slice av6 (M.length + 1) cv6 = v6' at hown hlb ⊢; clear hv6; have HOW := hid hown; have HGR := hid hgr; have HLB := hid hlb; clear hown hgr hlb)
    | fail)
   obtain ⟨ρ', hn⟩ := HM.out.next (by rw [HS2.out]; omega) (by rw [HS2.out]; omega) HBK.out.below HBK4.out HON.out ((Below.refl _ _).alloc (Nat.le_refl _) _) HOW.out HGR.out (by rcases HLB.out with h | h; exact .inl h; exact .inr (by simpa using h))
   have HN := hid hn
   clear hn
   go_roundg (l.length - (j + 1))
   case measure => omega
   case rel => exact ⟨j + 1, _, ρ', _, by omega, rfl, by go_num, rfl, by rw [HTK.out]; exact HN.out⟩
  ·have hje : j = l.length := by omega
   have hmw : MapR B w2 w.heap.size (w.heap.size + 1) wr vv (l.map h) ρ M := by
    have := HM.out
    rw [hje, List.take_length] at this
    exact this
   obtain ⟨av, cv, hvv⟩ := XR.slice hmw.row
   subst hvv
   have HMW := hid hmw
   have hge : (l.length : Int) ≤ j := by omega
   clear hje hmw
   have hbw := HMW.out.below
   have hpb : wr.heap[w.heap.size]? = some (.cells #[.int .i64 k, .string n, .slice na nn nc, .int .i64 c.kind, .int .i64 c.int, .string c.text, .slice da dn dc, .slice ka l.length kc] 28 (0, 0)) := (hbw.block _ (by rw [HS2.out]; omega)).trans HPB.out
   have hzb : wr.heap[w.heap.size + 1]? = some (.cells #[.int .i64 0, .string ⟨#[]⟩, .slice none 0 0, .int .i64 0, .int .i64 0, .string ⟨#[]⟩, .slice none 0 0, .slice none 0 0] 28 (0, 0)) := (hbw.block _ (by rw [HS2.out]; omega)).trans HZB.out
   have HPW := hid hpb
   have HZW := hid hzb
   have f7 : wr.frozen? ⟨w.heap.size, 7, none⟩ = false := frozen_row8 hpb
   clear hpb hzb hbw
   go_upto_region 8 with fail
   generalize hw7 : wr.setCell ⟨w.heap.size, 7, none⟩ (.slice av M.length cv) = w7
   have hp7 : w7.heap[w.heap.size]? = some (.cells #[.int .i64 k, .string n, .slice na nn nc, .int .i64 c.kind, .int .i64 c.int, .string c.text, .slice da dn dc, (.slice av M.length cv)] 28 (0, 0)) := by
    rw [← hw7]
    exact heap_setCell_same wr w.heap.size 7 _ _ (.slice av M.length cv) HPW.out
   have hz7 : w7.heap[w.heap.size + 1]? = some (.cells #[.int .i64 0, .string ⟨#[]⟩, .slice none 0 0, .int .i64 0, .int .i64 0, .string ⟨#[]⟩, .slice none 0 0, .slice none 0 0] 28 (0, 0)) := by
    rw [← hw7, heap_setCell_other _ _ _ _ (by show w.heap.size + 1 ≠ w.heap.size; omega)]
    exact HZW.out
   have hk7 : Gr 9 wr ρ w7 ρ := by rw [← hw7]; exact Gr.set (.slice av M.length cv) HMW.out.rp
   have hb7 : Below w.heap.size w w7 := by rw [← hw7]; exact (HB02.out.trans (HMW.out.below.mono HB02.out.size)).setCell (p := ⟨w.heap.size, 7, none⟩) (Nat.le_refl _) _
   have HK7 := hid hk7
   have HB7 := hid hb7
   have HZ7 := hid hz7
   obtain ⟨t0, t1, t2, t3, t4, t5, t6, t7, tbl⟩ := Row.of hp7
   obtain ⟨s0, s1, s2, s3, s4, s5, s6, s7, sbl⟩ := Row.of hz7
   have q0 : w7.frozen? ⟨w.heap.size + 1, 0, none⟩ = false := frozen_row8 hz7
   have q1 : w7.frozen? ⟨w.heap.size + 1, 1, none⟩ = false := frozen_row8 hz7
   have q2 : w7.frozen? ⟨w.heap.size + 1, 2, none⟩ = false := frozen_row8 hz7
   have q3 : w7.frozen? ⟨w.heap.size + 1, 3, none⟩ = false := frozen_row8 hz7
   have q4 : w7.frozen? ⟨w.heap.size + 1, 4, none⟩ = false := frozen_row8 hz7
   have q5 : w7.frozen? ⟨w.heap.size + 1, 5, none⟩ = false := frozen_row8 hz7
   have q6 : w7.frozen? ⟨w.heap.size + 1, 6, none⟩ = false := frozen_row8 hz7
   have q7 : w7.frozen? ⟨w.heap.size + 1, 7, none⟩ = false := frozen_row8 hz7
   clear hp7 hz7 hk7 hb7 hw7 f7 y0 y1 y2 y3 y4 y5 y6 y7 ybl
   go_wp2_with fail
   refine bodyPost_ret (res1 rfl _ _ (w.heap.size + 1) 28 #[.int .i64 k, .string n, .slice na nn nc, .int .i64 c.kind, .int .i64 c.int, .string c.text, .slice da dn dc, (.slice av M.length cv)] (0, 0) rfl (eight_set _ _ _ _ _ _ _ _ _ _ _ (.int .i64 k) (.string n) (.slice na nn nc) (.int .i64 c.kind) (.int .i64 c.int) (.string c.text) (.slice da dn dc) (.slice av M.length cv) HZ7.out) exprD exprSize) rfl ?_
   show MapPost B k n (.slice na nn nc) c (.slice da dn dc) (l.map h) w _ (put8 w7 (w.heap.size + 1) (.int .i64 k) (.string n) (.slice na nn nc) (.int .i64 c.kind) (.int .i64 c.int) (.string c.text) (.slice da dn dc) (.slice av M.length cv))
   have hx := HMW.out.row.gr (by decide) (by decide) (HK7.out.trans (put8_gr HMW.out.rq (.int .i64 k) (.string n) (.slice na nn nc) (.int .i64 c.kind) (.int .i64 c.int) (.string c.text) (.slice da dn dc) (.slice av M.length cv)))
   refine ⟨.slice av M.length cv, M, HMW.out.es, rfl, hx.row.1, fun b e => ?_, fun x hm => (hx.els x hm).mono fun b hb hbl => ?_, below_put8 HB7.out (Nat.le_succ _) _ _ _ _ _ _ _ _⟩
   ·refine Nat.le_of_not_lt fun hlt2 => HMW.out.two b (by rw [HS2.out]; omega) (hx.row.2 b e)
   ·by_cases h1 : b < B
    ·exact .inl h1
    ·refine .inr (Nat.le_of_not_lt fun hlt2 => ?_)
     have := HMW.out.mid b (by omega) hlt2
     rw [hb] at this
     cases this
end Ew
namespace Bc
open Rn
def mkS (T : List Hp.Th) (C : List Hp.V) (P : List Proc) (c : Nat) (todo : List Todo) (vals : List Hp.V) : St := ⟨T, C, P, [], [], ⟨4, 0, ⟨#[]⟩⟩, c, todo, vals, 0⟩
structure Few (T : List Hp.Th) (C : List Hp.V) (P : List Proc) : Prop where
 t : T.length ≤ 1000
 p : ∀ t ∈ T, t.parts.length ≤ 1000
 c : C.length ≤ 1000
 q : P.length ≤ 1000
section
variable {T T' T2 T3 : List Hp.Th} {C C' C2 C3 : List Hp.V} {P P' P2 P3 : List Proc} {b k k' k2 n n' n2 : Nat} {env : Env} {v v' : Hp.V}
theorem may_mk {c : Nat} {todo : List Todo} {vals : List Hp.V} (h : Few T C P) (h1 : todo.length ≤ 5000) (h2 : vals.length ≤ 5000) (h3 : ∀ u ∈ vals, u.text = ⟨#[]⟩) (hc : c ≤ 3001) : may 3001 (mkS T C P c todo vals) = true := by
 have t1 := h.t
 have c1 := h.c
 have q1 := h.q
 unfold may fits mkS
 simp only [Bool.and_eq_true, decide_eq_true_eq, List.all_eq_true]
 refine ⟨⟨⟨⟨⟨⟨⟨⟨by omega, by omega⟩, by omega⟩, by simp⟩, by omega⟩, by omega⟩, fun u hu => ?_⟩, fun t ht => ?_⟩, hc⟩
 ·rw [h3 u hu]
  decide
 ·have := h.p t ht
  omega
theorem turn {c : Nat} {t : Todo} {R : List Todo} {V : List Hp.V} {s : St} (m : Nat) (h : Few T C P) (h1 : R.length ≤ 4900) (h2 : V.length ≤ 5000) (h3 : ∀ u ∈ V, u.text = ⟨#[]⟩) (hc : c ≤ 3001) (hn : next 3001 (mkS T C P c (t :: R) V) = some s) :
  turns 3001 (m + 1) (mkS T C P c (t :: R) V) = turns 3001 m s := by
 rw [turns, if_neg (by rw [may_mk h (by simp; omega) h2 h3 hc]; decide), if_neg (by simp [mkS]), hn]
 rfl
def Ev (b : Nat) (e : Ex) (env : Env) (T : List Hp.Th) (C : List Hp.V) (P : List Proc) (k n : Nat) (v : Hp.V) (T' : List Hp.Th) (C' : List Hp.V) (P' : List Proc) : Prop :=
 ∀ (R : List Todo) (V : List Hp.V) (c m : Nat), R.length ≤ b → V.length ≤ b → (∀ u ∈ V, u.text = ⟨#[]⟩) → c + k < 3001 →
  turns 3001 (m + n) (mkS T C P c (eT e env :: R) V) = turns 3001 m (mkS T' C' P' (c + k) R (v :: V))
theorem next_eval0 {c : Nat} {e : Ex} {R : List Todo} {V : List Hp.V} {s : St} (hs : smallT (eT e env) = true) (hc : c ≠ 3001) (h : eval 3001 (mkS T C P c R V) e env = some s) : next 3001 (mkS T C P c (eT e env :: R) V) = some s := by
 unfold next mkS
 dsimp only
 rw [if_neg (by rw [hs]; decide), if_pos (show (eT e env).d = 0 from rfl)]
 exact h
theorem small_eT {e : Ex} (h1 : env.length ≤ 1000) (h2 : e.names.length ≤ 1000) (h3 : e.kids.length ≤ 1000) : smallT (eT e env) = true := by
 unfold smallT eT
 simp only [Bool.and_eq_true, decide_eq_true_eq]
 exact ⟨⟨by omega, by omega⟩, by omega⟩
theorem ev_ref (hb : b ≤ 4000) (hF : Few T C P) (s : ByteArray) (i : Nat) (hE : env.length ≤ 1000) (hi : cellF env s = i) (hv : C[i]? = some v) : Ev b (Ex.refE s) env T C P 1 1 v T C P := by
 intro R V c m hR hV hT hc
 refine turn m hF (by omega) (by omega) hT (by omega) (next_eval0 (small_eT hE (Nat.zero_le _) (Nat.zero_le _)) (by omega) ?_)
 unfold eval mkS
 dsimp only
 rw [if_neg (by omega)]
 show (if cellF env s < 0 then none else (C[(cellF env s).toNat]?).map (St.tell _)) = _
 rw [hi, if_neg (by omega), Int.toNat_natCast, hv]
 rfl
def numX (k : Int) : Ex := .mk 0 ⟨#[]⟩ [] (.mk 1 k ⟨#[]⟩ []) []
theorem form_num {f : Int} (h : isN f = true) : Dt.formB 1 f ⟨#[]⟩ [] = true := by
 unfold Dt.formB
 rw [if_neg (by decide), if_pos rfl, h]
 rfl
theorem chk_num {f : Int} (h : isN f = true) : Dt.chkE (.mk 1 f ⟨#[]⟩ []) = 0 := by
 unfold Dt.chkE
 rw [Dt.chk, if_neg (by decide), if_neg (by decide), if_pos (form_num h)]
 rfl
theorem const_num {f : Int} (h : isN f = true) : constF (.mk 1 f ⟨#[]⟩ []) = (⟨1, f, ⟨#[]⟩⟩, true) := by
 have hc := chk_num h
 unfold constF
 rw [if_neg (by rw [hc]; decide)]
 rfl
theorem ev_num (hb : b ≤ 4000) (hF : Few T C P) (f : Int) (hE : env.length ≤ 1000) (hf : isN f = true) : Ev b (numX f) env T C P 1 1 ⟨1, f, ⟨#[]⟩⟩ T C P := by
 intro R V c m hR hV hT hc
 refine turn m hF (by omega) (by omega) hT (by omega) (next_eval0 (small_eT hE (Nat.zero_le _) (Nat.zero_le _)) (by omega) ?_)
 unfold eval mkS
 dsimp only
 rw [if_neg (by omega)]
 show some (St.tell _ (constF (.mk 1 f ⟨#[]⟩ [])).1) = _
 rw [const_num hf]
 rfl
theorem ev_lam (hb : b ≤ 4000) (hF : Few T C P) (ns : List ByteArray) (x : Ex) (hE : env.length ≤ 1000) (hn : ns.length ≤ 1000) :
  Ev b (.mk 5 ⟨#[]⟩ ns Dt.zero [x]) env T C P 1 1 ⟨8, T.length, ⟨#[]⟩⟩ (T ++ [⟨4, []⟩]) C (P ++ [⟨T.length, .mk 5 ⟨#[]⟩ ns Dt.zero [x], env, false, [], []⟩]) := by
 intro R V c m hR hV hT hc
 refine turn m hF (by omega) (by omega) hT (by omega) (next_eval0 (small_eT hE hn (by show 1 ≤ 1000; decide)) (by omega) ?_)
 unfold eval mkS
 dsimp only
 rw [if_neg (by omega)]
 rfl
theorem prim_mk {c : Nat} {R : List Todo} {V : List Hp.V} {p : ByteArray} {a : List Hp.V} {r : Hp.V} (hok : Hp.fewOk T p a = true) (hd : Hp.doF T p a = (r, 0, T')) : prim (mkS T C P c R V) p a = some (mkS T' C P c R (r :: V)) := by
 unfold prim mkS
 dsimp only
 rw [if_pos hok, hd]
 rfl
theorem ev_prim1 (hF : Few T C P) (hF' : Few T' C' P') (p : ByteArray) (x : Ex) (hb : b ≤ 3900) (hE : env.length ≤ 1000) (hx : Ev (b + 8) x env T C P k n v T' C' P') (hv : v.text = ⟨#[]⟩) {r : Hp.V} (hok : Hp.fewOk T' p [v] = true) (hd : Hp.doF T' p [v] = (r, 0, T2)) :
  Ev b (Ex.primE p [x]) env T C P (k + 1) (n + 2) r T2 C' P' := by
 intro R V c m hR hV hT hc
 rw [show m + (n + 2) = m + 1 + n + 1 by omega]
 rw [turn (s := mkS T C P (c + 1) (eT x env :: ⟨5, Ex.primE p [x], [], 0⟩ :: R) V) _ hF (by omega) (by omega) hT (by omega) (next_eval0 (small_eT hE (Nat.zero_le _) (by show 1 ≤ 1000; decide)) (by omega) (by
  unfold eval mkS
  dsimp only
  rw [if_neg (by omega)]
  rfl))]
 rw [hx _ _ _ _ (by simp; omega) (by omega) hT (by omega)]
 refine (turn (s := mkS T2 C' P' (c + 1 + k) R (r :: V)) _ hF' (by omega) (by simp; omega) (by simp [hv]; exact hT) (by omega) ?_).trans (by rw [show c + 1 + k = c + (k + 1) by omega])
 exact prim_mk hok hd
theorem ev_prim2 (hF : Few T C P) (hF' : Few T2 C2 P2) (p : ByteArray) (x y : Ex) (hb : b ≤ 3900) (hE : env.length ≤ 1000) (hx : Ev (b + 8) x env T C P k n v T' C' P') (hy : Ev (b + 8) y env T' C' P' k' n' v' T2 C2 P2) (hv : v.text = ⟨#[]⟩) (hv' : v'.text = ⟨#[]⟩) {r : Hp.V} (hok : Hp.fewOk T2 p [v, v'] = true) (hd : Hp.doF T2 p [v, v'] = (r, 0, T3)) :
  Ev b (Ex.primE p [x, y]) env T C P (k + k' + 1) (n + n' + 2) r T3 C2 P2 := by
 intro R V c m hR hV hT hc
 rw [show m + (n + n' + 2) = m + 1 + n' + n + 1 by omega]
 rw [turn (s := mkS T C P (c + 1) (eT x env :: eT y env :: ⟨5, Ex.primE p [x, y], [], 0⟩ :: R) V) _ hF (by omega) (by omega) hT (by omega) (next_eval0 (small_eT hE (Nat.zero_le _) (by show 2 ≤ 1000; decide)) (by omega) (by
  unfold eval mkS
  dsimp only
  rw [if_neg (by omega)]
  rfl))]
 rw [hx _ _ _ _ (by simp; omega) (by omega) hT (by omega)]
 rw [hy _ _ _ _ (by simp; omega) (by simp; omega) (by simp [hv]; exact hT) (by omega)]
 refine (turn (s := mkS T3 C2 P2 (c + 1 + k + k') R (r :: V)) _ hF' (by omega) (by simp; omega) (by simp [hv, hv']; exact hT) (by omega) ?_).trans (by rw [show c + 1 + k + k' = c + (k + k' + 1) by omega])
 exact prim_mk hok hd
structure Fun (T : List Hp.Th) (P : List Proc) (v : Hp.V) (ns : List ByteArray) (x : Ex) (env : Env) : Prop where
 text : v.text = ⟨#[]⟩
 may : Hp.may T.length v = true
 kind : Hp.kindOf T v = 4
 proc : findF P v.int = ⟨v.int, .mk 5 ⟨#[]⟩ ns Dt.zero [x], env, false, [], []⟩
 env : env.length ≤ 500
 names : ns.length ≤ 100
theorem call_mk {c : Nat} {R : List Todo} {V args : List Hp.V} {ns : List ByteArray} {x : Ex} {env' : Env} (h : Fun T P v ns x env') (ha : args.length = ns.length) : call (mkS T C P c R V) v args = some (mkS T (C ++ args) P c (eT x (env' ++ envF ns C.length) :: R) V) := by
 have h1 := h.env
 have h2 := h.names
 have hs : smallP ⟨v.int, .mk 5 ⟨#[]⟩ ns Dt.zero [x], env', false, [], []⟩ = true := by
  unfold smallP
  simp only [Bool.and_eq_true, decide_eq_true_eq]
  exact ⟨⟨⟨by omega, by show ns.length ≤ 100000; omega⟩, Nat.zero_le _⟩, Nat.zero_le _⟩
 unfold call mkS
 dsimp only
 rw [if_neg (by rw [h.may]; decide), if_neg (by rw [h.kind]; decide), h.proc, if_neg (by rw [hs]; decide), if_neg (show ¬ (false = true) by decide), if_neg (show ¬ (args.length ≠ (Ex.mk 5 ⟨#[]⟩ ns Dt.zero [x]).names.length) by show ¬ (args.length ≠ ns.length); omega)]
 rfl
theorem ev_call0 (hF : Few T C P) (hF' : Few T' C' P') (g : Ex) (hb : b ≤ 3900) (hE : env.length ≤ 1000) (hg : Ev (b + 8) g env T C P k n v T' C' P') {x : Ex} {env' : Env} (hf : Fun T' P' v [] x env') {r : Hp.V} (hx : Ev b x env' T' C' P' k2 n2 r T2 C2 P2) :
  Ev b (.mk 6 ⟨#[]⟩ [] Dt.zero [g]) env T C P (k + k2 + 1) (n + n2 + 2) r T2 C2 P2 := by
 intro R V c m hR hV hT hc
 rw [show m + (n + n2 + 2) = m + n2 + 1 + n + 1 by omega]
 rw [turn (s := mkS T C P (c + 1) (eT g env :: zT 4 1 :: R) V) _ hF (by omega) (by omega) hT (by omega) (next_eval0 (small_eT hE (Nat.zero_le _) (by show 1 ≤ 1000; decide)) (by omega) (by
  unfold eval mkS
  dsimp only
  rw [if_neg (by omega)]
  rfl))]
 rw [hg _ _ _ _ (by simp; omega) (by omega) hT (by omega)]
 rw [turn (s := mkS T' C' P' (c + 1 + k) (eT x env' :: R) V) _ hF' (by omega) (by simp; omega) (by simp [hf.text]; exact hT) (by omega) (by
  have h := call_mk (C := C') (c := c + 1 + k) (R := R) (V := V) (args := []) hf rfl
  rw [List.append_nil, show env' ++ envF [] C'.length = env' from List.append_nil _] at h
  rw [← h]
  show (if (1 : Int) ≤ 1 ∧ (1 : Int) ≤ ((v :: V).length : Int) then call (mkS T' C' P' (c + 1 + k) R V) v [] else none) = _
  rw [if_pos ⟨by decide, by simp; omega⟩])]
 rw [hx _ _ _ _ hR hV hT (by omega)]
 rw [show c + 1 + k + k2 = c + (k + k2 + 1) by omega]
theorem ev_call1 (hF : Few T C P) (hF' : Few T2 C2 P2) (g y : Ex) (hb : b ≤ 3900) (hE : env.length ≤ 1000) (hg : Ev (b + 8) g env T C P k n v T' C' P') (hy : Ev (b + 8) y env T' C' P' k' n' v' T2 C2 P2) {x : Ex} {s : ByteArray} {env' : Env} (hf : Fun T2 P2 v [s] x env') (hv' : v'.text = ⟨#[]⟩) {r : Hp.V} {T4 : List Hp.Th} {C4 : List Hp.V} {P4 : List Proc} (hx : Ev b x (env' ++ [(s, (C2.length : Int))]) T2 (C2 ++ [v']) P2 k2 n2 r T4 C4 P4) :
  Ev b (.mk 6 ⟨#[]⟩ [] Dt.zero [g, y]) env T C P (k + k' + k2 + 1) (n + n' + n2 + 2) r T4 C4 P4 := by
 intro R V c m hR hV hT hc
 rw [show m + (n + n' + n2 + 2) = m + n2 + 1 + n' + n + 1 by omega]
 rw [turn (s := mkS T C P (c + 1) (eT g env :: eT y env :: zT 4 2 :: R) V) _ hF (by omega) (by omega) hT (by omega) (next_eval0 (small_eT hE (Nat.zero_le _) (by show 2 ≤ 1000; decide)) (by omega) (by
  unfold eval mkS
  dsimp only
  rw [if_neg (by omega)]
  rfl))]
 rw [hg _ _ _ _ (by simp; omega) (by omega) hT (by omega)]
 rw [hy _ _ _ _ (by simp; omega) (by simp; omega) (by simp [hf.text]; exact hT) (by omega)]
 rw [turn (s := mkS T2 (C2 ++ [v']) P2 (c + 1 + k + k') (eT x (env' ++ [(s, (C2.length : Int))]) :: R) V) _ hF' (by omega) (by simp; omega) (by simp [hf.text, hv']; exact hT) (by omega) (by
  have h := call_mk (C := C2) (c := c + 1 + k + k') (R := R) (V := V) (args := [v']) hf rfl
  rw [show envF [s] C2.length = [(s, (C2.length : Int))] from rfl] at h
  rw [← h]
  show (if (1 : Int) ≤ 2 ∧ (2 : Int) ≤ ((v' :: v :: V).length : Int) then call (mkS T2 C2 P2 (c + 1 + k + k') R V) v [v'] else none) = _
  rw [if_pos ⟨by decide, by simp; omega⟩])]
 rw [hx _ _ _ _ hR hV hT (by omega)]
 rw [show c + 1 + k + k' + k2 = c + (k + k' + k2 + 1) by omega]
theorem ev_let1 (hF : Few T C P) (hF' : Few T' C' P') (s : ByteArray) (a x : Ex) (hb : b ≤ 3900) (hE : env.length ≤ 900) (ha : Ev (b + 8) a env T C P k n v T' C' P') (hv : v.text = ⟨#[]⟩) {r : Hp.V} (hx : Ev b x (env ++ [(s, (C'.length : Int))]) T' (C' ++ [v]) P' k2 n2 r T2 C2 P2) :
  Ev b (.mk 8 ⟨#[]⟩ [s] Dt.zero [a, x]) env T C P (k + k2 + 1) (n + n2 + 2) r T2 C2 P2 := by
 intro R V c m hR hV hT hc
 rw [show m + (n + n2 + 2) = m + n2 + 1 + n + 1 by omega]
 rw [turn (s := mkS T C P (c + 1) (eT a env :: ⟨6, .mk 8 ⟨#[]⟩ [s] Dt.zero [a, x], env, 0⟩ :: R) V) _ hF (by omega) (by omega) hT (by omega) (next_eval0 (small_eT (by omega) (by show 1 ≤ 1000; decide) (by show 2 ≤ 1000; decide)) (by omega) (by
  unfold eval mkS
  dsimp only
  rw [if_neg (by omega)]
  rfl))]
 rw [ha _ _ _ _ (by simp; omega) (by omega) hT (by omega)]
 rw [turn (s := mkS T' (C' ++ [v]) P' (c + 1 + k) (eT x (env ++ [(s, (C'.length : Int))]) :: R) V) _ hF' (by omega) (by simp; omega) (by simp [hv]; exact hT) (by omega) (by
  have hs : smallT ⟨6, .mk 8 ⟨#[]⟩ [s] Dt.zero [a, x], env, 0⟩ = true := small_eT (e := .mk 8 ⟨#[]⟩ [s] Dt.zero [a, x]) (by omega) (by show 1 ≤ 1000; decide) (by show 2 ≤ 1000; decide)
  unfold next mkS
  dsimp only
  rw [if_neg (by rw [hs]; decide)]
  rfl)]
 rw [hx _ _ _ _ hR hV hT (by omega)]
 rw [show c + 1 + k + k2 = c + (k + k2 + 1) by omega]
theorem ev_let2 (hF : Few T C P) (hF' : Few T2 C2 P2) (s s' : ByteArray) (a y x : Ex) (hb : b ≤ 3900) (hE : env.length ≤ 900) (ha : Ev (b + 8) a env T C P k n v T' C' P') (hy : Ev (b + 8) y env T' C' P' k' n' v' T2 C2 P2) (hv : v.text = ⟨#[]⟩) (hv' : v'.text = ⟨#[]⟩) {r : Hp.V} {T4 : List Hp.Th} {C4 : List Hp.V} {P4 : List Proc} (hx : Ev b x (env ++ [(s, (C2.length : Int)), (s', ((C2.length + 1 : Nat) : Int))]) T2 (C2 ++ [v, v']) P2 k2 n2 r T4 C4 P4) :
  Ev b (.mk 8 ⟨#[]⟩ [s, s'] Dt.zero [a, y, x]) env T C P (k + k' + k2 + 1) (n + n' + n2 + 2) r T4 C4 P4 := by
 intro R V c m hR hV hT hc
 rw [show m + (n + n' + n2 + 2) = m + n2 + 1 + n' + n + 1 by omega]
 rw [turn (s := mkS T C P (c + 1) (eT a env :: eT y env :: ⟨6, .mk 8 ⟨#[]⟩ [s, s'] Dt.zero [a, y, x], env, 0⟩ :: R) V) _ hF (by omega) (by omega) hT (by omega) (next_eval0 (small_eT (by omega) (by show 2 ≤ 1000; decide) (by show 3 ≤ 1000; decide)) (by omega) (by
  unfold eval mkS
  dsimp only
  rw [if_neg (by omega)]
  rfl))]
 rw [ha _ _ _ _ (by simp; omega) (by omega) hT (by omega)]
 rw [hy _ _ _ _ (by simp; omega) (by simp; omega) (by simp [hv]; exact hT) (by omega)]
 rw [turn (s := mkS T2 (C2 ++ [v, v']) P2 (c + 1 + k + k') (eT x (env ++ [(s, (C2.length : Int)), (s', ((C2.length + 1 : Nat) : Int))]) :: R) V) _ hF' (by omega) (by simp; omega) (by simp [hv, hv']; exact hT) (by omega) (by
  have hs : smallT ⟨6, .mk 8 ⟨#[]⟩ [s, s'] Dt.zero [a, y, x], env, 0⟩ = true := small_eT (e := .mk 8 ⟨#[]⟩ [s, s'] Dt.zero [a, y, x]) (by omega) (by show 2 ≤ 1000; decide) (by show 3 ≤ 1000; decide)
  unfold next mkS
  dsimp only
  rw [if_neg (by rw [hs]; decide)]
  rfl)]
 rw [hx _ _ _ _ hR hV hT (by omega)]
 rw [show c + 1 + k + k' + k2 = c + (k + k' + k2 + 1) by omega]
def EvS (b : Nat) (l : List Ex) (env : Env) (T : List Hp.Th) (C : List Hp.V) (P : List Proc) (k n : Nat) (v : Hp.V) (T' : List Hp.Th) (C' : List Hp.V) (P' : List Proc) : Prop :=
 ∀ (R : List Todo) (V : List Hp.V) (c m : Nat), R.length ≤ b → V.length ≤ b → (∀ u ∈ V, u.text = ⟨#[]⟩) → c + k < 3001 →
  turns 3001 (m + n) (mkS T C P c (seqT env l ++ R) V) = turns 3001 m (mkS T' C' P' (c + k) R (v :: V))
theorem evs_one {x : Ex} (h : Ev b x env T C P k n v T' C' P') : EvS b [x] env T C P k n v T' C' P' := h
theorem seqT_len (env : Env) : ∀ l : List Ex, (seqT env l).length ≤ 2 * l.length
 | [] => by simp [seqT]
 | [x] => by simp [seqT]
 | x :: y :: l => by
  have := seqT_len env (y :: l)
  simp only [seqT, List.length_cons] at *
  omega
theorem evs_cons {x y : Ex} {l : List Ex} (hb : b ≤ 3900) (hF' : Few T' C' P') (hl : l.length ≤ 100) (hx : Ev (b + 210) x env T C P k n v T' C' P') (hv : v.text = ⟨#[]⟩) {r : Hp.V} (h : EvS b (y :: l) env T' C' P' k2 n2 r T2 C2 P2) : EvS b (x :: y :: l) env T C P (k + k2) (n + n2 + 1) r T2 C2 P2 := by
 intro R V c m hR hV hT hc
 have hq := seqT_len env (y :: l)
 simp only [List.length_cons] at hq
 rw [show m + (n + n2 + 1) = m + n2 + 1 + n by omega]
 show turns 3001 _ (mkS T C P c (eT x env :: (zT 1 0 :: seqT env (y :: l) ++ R)) V) = _
 rw [hx _ _ _ _ (by simp; omega) (by omega) hT (by omega)]
 rw [List.cons_append, turn (s := mkS T' C' P' (c + k) (seqT env (y :: l) ++ R) V) _ hF' (by simp; omega) (by simp; omega) (by simp [hv]; exact hT) (by omega) rfl]
 rw [h _ _ _ _ hR hV hT (by omega), Nat.add_assoc]
theorem ev_seq (hF : Few T C P) (l : List Ex) (hb : b ≤ 3900) (hE : env.length ≤ 1000) (hl : l ≠ []) (hl2 : l.length ≤ 1000) {r : Hp.V} (h : EvS b l env T C P k n r T' C' P') : Ev b (.mk 4 ⟨#[]⟩ [] Dt.zero l) env T C P (k + 1) (n + 1) r T' C' P' := by
 intro R V c m hR hV hT hc
 rw [show m + (n + 1) = m + n + 1 by omega]
 rw [turn (s := mkS T C P (c + 1) (seqT env l ++ R) V) _ hF (by omega) (by omega) hT (by omega) (next_eval0 (small_eT (e := .mk 4 ⟨#[]⟩ [] Dt.zero l) hE (Nat.zero_le _) hl2) (by omega) (by
  unfold eval mkS
  dsimp only
  rw [if_neg (by omega)]
  show (if l = [] then none else _) = _
  rw [if_neg hl]
  rfl))]
 rw [h _ _ _ _ hR hV hT (by omega), show c + 1 + k = c + (k + 1) by omega]
end
def sx : ByteArray := ⟨#[120]⟩
def sup : ByteArray := ⟨#[117, 112]⟩
def sget : ByteArray := ⟨#[103, 101, 116]⟩
def callE (s : ByteArray) : Ex := .mk 6 ⟨#[]⟩ [] Dt.zero [Ex.refE s]
def lamE (ns : List ByteArray) (b : Ex) : Ex := .mk 5 ⟨#[]⟩ ns Dt.zero [b]
def bodyL (n : Nat) : List Ex := List.replicate n (callE sup) ++ [numX 0, callE sget]
def bodyE (n : Nat) : Ex := .mk 4 ⟨#[]⟩ [] Dt.zero (bodyL n)
def moreE : Ex := .mk 2 sx [] Dt.zero [Ex.primE sPlus [Ex.refE sx, numX 1]]
def letE2 (a b c : Ex) : Ex := .mk 8 ⟨#[]⟩ [sup, sget] Dt.zero [a, b, c]
def allE (n : Nat) (f : Int) : Ex := .mk 6 ⟨#[]⟩ [] Dt.zero [lamE [sx] (letE2 (lamE [] moreE) (lamE [] (Ex.refE sx)) (bodyE n)), numX f]
def moreB : Ex := Ex.primE Ex.sSetBox [Ex.refE sx, Ex.primE sPlus [Ex.primE Ex.sUnbox [Ex.refE sx], numX 1]]
def getB : Ex := Ex.primE Ex.sUnbox [Ex.refE sx]
def inB (n : Nat) : Ex := letE2 (lamE [] moreB) (lamE [] getB) (bodyE n)
def lamB (n : Nat) : Ex := lamE [sx] (.mk 8 ⟨#[]⟩ [sx] Dt.zero [Ex.primE Ex.sBox [Ex.refE sx], inB n])
def outE (n : Nat) (f : Int) : Ex := .mk 6 ⟨#[]⟩ [] Dt.zero [lamB n, numX f]
theorem box_all (f : Int) : ∀ n, n ≤ 30 → Ex.boxE Ex.noB (allE n f) = outE n f
 | 0, _ => by kernel_rfl
 | 1, _ => by kernel_rfl
 | 2, _ => by kernel_rfl
 | 3, _ => by kernel_rfl
 | 4, _ => by kernel_rfl
 | 5, _ => by kernel_rfl
 | 6, _ => by kernel_rfl
 | 7, _ => by kernel_rfl
 | 8, _ => by kernel_rfl
 | 9, _ => by kernel_rfl
 | 10, _ => by kernel_rfl
 | 11, _ => by kernel_rfl
 | 12, _ => by kernel_rfl
 | 13, _ => by kernel_rfl
 | 14, _ => by kernel_rfl
 | 15, _ => by kernel_rfl
 | 16, _ => by kernel_rfl
 | 17, _ => by kernel_rfl
 | 18, _ => by kernel_rfl
 | 19, _ => by kernel_rfl
 | 20, _ => by kernel_rfl
 | 21, _ => by kernel_rfl
 | 22, _ => by kernel_rfl
 | 23, _ => by kernel_rfl
 | 24, _ => by kernel_rfl
 | 25, _ => by kernel_rfl
 | 26, _ => by kernel_rfl
 | 27, _ => by kernel_rfl
 | 28, _ => by kernel_rfl
 | 29, _ => by kernel_rfl
 | 30, _ => by kernel_rfl
 | k + 31, h => absurd h (by omega)
def chkA (n : Nat) (f : Int) : Bool := (Ex.freeNames (allE n f)).isEmpty && !Ex.has 9 (allE n f) && !Ex.fixSet (allE n f) && decide ((allE n f).size ≤ 400) && decide ((allE n f).deep ≤ 25)
theorem chk_all (f : Int) : (List.range 31).all (fun n => chkA n f) = true := by kernel_rfl
theorem all_num {f : Int} (h : isN f = true) : Ex.all Ex.form (numX f) = true := by
 refine (Ex.all_iff _ _).2 ⟨?_, fun x hx => by simp [numX, Ex.kids] at hx⟩
 show (decide ((⟨#[]⟩ : ByteArray) = ⟨#[]⟩) && true && true && Ex.constB (.mk 1 f ⟨#[]⟩ [])) = true
 unfold Ex.constB
 rw [chk_num h]
 rfl
theorem alls_lam : (List.range 31).all (fun n => Ex.all Ex.form (lamE [sx] (letE2 (lamE [] moreE) (lamE [] (Ex.refE sx)) (bodyE n)))) = true := by kernel_rfl
theorem form_all (n : Nat) (f : Int) : Ex.form (allE n f) = true := by kernel_rfl
theorem all_facts {n : Nat} (hn : n ≤ 30) {f : Int} (hf : isN f = true) : Ex.ok (allE n f) = true ∧ Ex.freeNames (allE n f) = [] ∧ Ex.has 9 (allE n f) = false ∧ Ex.fixSet (allE n f) = false ∧ (allE n f).size ≤ 400 ∧ (allE n f).deep ≤ 25 := by
 have h := List.all_eq_true.1 (chk_all f) n (List.mem_range.2 (by omega))
 unfold chkA at h
 simp only [Bool.and_eq_true, Bool.not_eq_true', decide_eq_true_eq, List.isEmpty_iff] at h
 obtain ⟨⟨⟨⟨h1, h2⟩, h3⟩, h4⟩, h5⟩ := h
 refine ⟨(Ex.ok_iff _).2 ⟨(Ex.all_iff _ _).2 ⟨form_all n f, fun x hx => ?_⟩, by omega, by omega⟩, h1, h2, h3, h4, h5⟩
 rcases List.mem_cons.1 hx with rfl | hx
 ·exact List.all_eq_true.1 alls_lam n (List.mem_range.2 (by omega))
 ·rcases List.mem_cons.1 hx with rfl | hx
  ·exact all_num hf
  ·simp at hx
def Tk (g : Int) : List Hp.Th := [⟨4, []⟩, ⟨3, [⟨1, g, ⟨#[]⟩⟩]⟩, ⟨4, []⟩, ⟨4, []⟩]
def env1 : Env := [(sx, 0), (sx, 1)]
def env2 : Env := [(sx, 0), (sx, 1), (sup, 2), (sget, 3)]
def C4 (f : Int) : List Hp.V := [⟨1, f, ⟨#[]⟩⟩, ⟨8, 1, ⟨#[]⟩⟩, ⟨8, 2, ⟨#[]⟩⟩, ⟨8, 3, ⟨#[]⟩⟩]
def P3 (n : Nat) : List Proc := [⟨0, lamB n, [], false, [], []⟩, ⟨2, lamE [] moreB, env1, false, [], []⟩, ⟨3, lamE [] getB, env1, false, [], []⟩]
theorem few_k (g f : Int) (n : Nat) : Few (Tk g) (C4 f) (P3 n) := ⟨by show 4 ≤ 1000; decide, fun t ht => by
 simp only [Tk, List.mem_cons, List.not_mem_nil, or_false] at ht
 rcases ht with rfl | rfl | rfl | rfl <;> simp, by show 4 ≤ 1000; decide, by show 3 ≤ 1000; decide⟩
theorem may_num' (k : Nat) (g : Int) : Hp.may k ⟨1, g, ⟨#[]⟩⟩ = isN g := by
 unfold Hp.may
 rw [if_neg (show ¬ ((1 : Int) = 3) by decide), if_neg (show ¬ ((1 : Int) = 0) by decide)]
 show (true && isN g) = isN g
 rw [Bool.true_and]
theorem rk_plus {g : Int} (h : isN (g + 1) = true) : rk 0 (8 * g) (8 * 1) = (8 * (g + 1), 0) := by
 unfold rk
 rw [if_neg (by decide), if_neg (by omega), if_pos rfl, show 8 * g / 8 + 8 * 1 / 8 = g + 1 by omega, if_pos h]
theorem reck_plus {g : Int} (h : isN (g + 1) = true) : Hp.reckF 0 g 1 = (⟨1, g + 1, ⟨#[]⟩⟩, 0) := by
 unfold Hp.reckF
 rw [rk_plus h, if_neg (show ¬ ((0 : Int) = 10) by decide), if_neg (show ¬ ((0 : Int) = 11) by decide), show 8 * (g + 1) / 8 = g + 1 by omega]
 rfl
theorem all_may2 {T : List Hp.Th} {a y : Hp.V} (h1 : Hp.may T.length a = true) (h2 : Hp.may T.length y = true) : [a, y].all (Hp.may T.length) = true := by simp [h1, h2]
theorem plus_do {T : List Hp.Th} {g : Int} (h : isN g = true) (h1 : isN (g + 1) = true) : Hp.fewOk T sPlus [⟨1, g, ⟨#[]⟩⟩, ⟨1, 1, ⟨#[]⟩⟩] = true ∧ Hp.doF T sPlus [⟨1, g, ⟨#[]⟩⟩, ⟨1, 1, ⟨#[]⟩⟩] = (⟨1, g + 1, ⟨#[]⟩⟩, 0, T) := by
 have hr : Hp.rat sPlus 38 = (0 : Nat) := by decide +kernel
 have hm : [(⟨1, g, ⟨#[]⟩⟩ : Hp.V), ⟨1, 1, ⟨#[]⟩⟩].all (Hp.may T.length) = true := all_may2 (by rw [may_num', h]) (by rw [may_num']; decide)
 have ho : Hp.allOk T [⟨1, g, ⟨#[]⟩⟩, ⟨1, 1, ⟨#[]⟩⟩] [105, 105] = true := by simp [Hp.allOk, Hp.okAt, Hp.isL]
 constructor
 ·unfold Hp.fewOk
  rw [hm, hr]
  show (Hp.fewB sPlus [⟨1, g, ⟨#[]⟩⟩, ⟨1, 1, ⟨#[]⟩⟩] && true && Hp.allOk T [⟨1, g, ⟨#[]⟩⟩, ⟨1, 1, ⟨#[]⟩⟩] [105, 105]) = true
  rw [ho]
  rfl
 ·rw [Hp.doF_act hr rfl rfl hm ho]
  show ((Hp.reckF 0 g 1).1, (Hp.reckF 0 g 1).2, T) = _
  rw [reck_plus h1]
theorem set_do (g g' : Int) (h : isN g' = true) : Hp.fewOk (Tk g) Ex.sSetBox [⟨8, 1, ⟨#[]⟩⟩, ⟨1, g', ⟨#[]⟩⟩] = true ∧ Hp.doF (Tk g) Ex.sSetBox [⟨8, 1, ⟨#[]⟩⟩, ⟨1, g', ⟨#[]⟩⟩] = (Hp.void, 0, Tk g') := by
 have hr : Hp.rat Ex.sSetBox 38 = (35 : Nat) := by decide +kernel
 have hm : [(⟨8, 1, ⟨#[]⟩⟩ : Hp.V), ⟨1, g', ⟨#[]⟩⟩].all (Hp.may (Tk g).length) = true := all_may2 (by show Hp.may 4 _ = true; decide) (by rw [may_num', h])
 have ho : Hp.allOk (Tk g) [⟨8, 1, ⟨#[]⟩⟩, ⟨1, g', ⟨#[]⟩⟩] [98, 46] = true := rfl
 constructor
 ·unfold Hp.fewOk
  rw [hm, hr]
  rfl
 ·rw [Hp.doF_act hr rfl rfl hm ho]
  rfl
theorem get_do (g : Int) : Hp.fewOk (Tk g) Ex.sUnbox [⟨8, 1, ⟨#[]⟩⟩] = true ∧ Hp.doF (Tk g) Ex.sUnbox [⟨8, 1, ⟨#[]⟩⟩] = (⟨1, g, ⟨#[]⟩⟩, 0, Tk g) := ⟨by kernel_rfl, by kernel_rfl⟩
theorem fun_up (g : Int) (n : Nat) : Fun (Tk g) (P3 n) ⟨8, 2, ⟨#[]⟩⟩ [] moreB env1 := ⟨rfl, by kernel_rfl, rfl, rfl, by decide, by decide⟩
theorem fun_get (g : Int) (n : Nat) : Fun (Tk g) (P3 n) ⟨8, 3, ⟨#[]⟩⟩ [] getB env1 := ⟨rfl, by kernel_rfl, rfl, rfl, by decide, by decide⟩
theorem ev_getB {b : Nat} (hb : b ≤ 3000) (g f : Int) (n : Nat) : Ev b getB env1 (Tk g) (C4 f) (P3 n) 2 3 ⟨1, g, ⟨#[]⟩⟩ (Tk g) (C4 f) (P3 n) :=
 ev_prim1 (few_k g f n) (few_k g f n) _ _ (by omega) (by decide) (ev_ref (by omega) (few_k g f n) sx 1 (by decide) (by decide +kernel) rfl) rfl (get_do g).1 (get_do g).2
theorem ev_up {b : Nat} (hb : b ≤ 2000) {g : Int} (f : Int) (n : Nat) (h : isN g = true) (h1 : isN (g + 1) = true) : Ev b (callE sup) env2 (Tk g) (C4 f) (P3 n) 8 12 Hp.void (Tk (g + 1)) (C4 f) (P3 n) :=
 ev_call0 (few_k g f n) (few_k g f n) _ (by omega) (by decide) (ev_ref (by omega) (few_k g f n) sup 2 (by decide) (by decide +kernel) rfl) (fun_up g n)
  (ev_prim2 (few_k g f n) (few_k g f n) _ _ _ (by omega) (by decide) (ev_ref (by omega) (few_k g f n) sx 1 (by decide) (by decide +kernel) rfl)
   (ev_prim2 (few_k g f n) (few_k g f n) _ _ _ (by omega) (by decide) (ev_getB (by omega) g f n) (ev_num (by omega) (few_k g f n) 1 (by decide) (by decide)) rfl rfl (plus_do h h1).1 (plus_do h h1).2) rfl rfl (set_do g (g + 1) h1).1 (set_do g (g + 1) h1).2)
theorem ev_get {b : Nat} (hb : b ≤ 2000) (g f : Int) (n : Nat) : Ev b (callE sget) env2 (Tk g) (C4 f) (P3 n) 4 6 ⟨1, g, ⟨#[]⟩⟩ (Tk g) (C4 f) (P3 n) :=
 ev_call0 (few_k g f n) (few_k g f n) _ (by omega) (by decide) (ev_ref (by omega) (few_k g f n) sget 3 (by decide) (by decide +kernel) rfl) (fun_get g n) (ev_getB (by omega) g f n)
theorem evs_body {b : Nat} (hb : b ≤ 1000) (f : Int) (n : Nat) : ∀ (j : Nat) (g : Int), j ≤ 60 → (∀ i : Nat, i ≤ j → isN (g + i) = true) → EvS b (bodyL j) env2 (Tk g) (C4 f) (P3 n) (8 * j + 5) (13 * j + 8) ⟨1, g + j, ⟨#[]⟩⟩ (Tk (g + j)) (C4 f) (P3 n)
 | 0, g, _, h => by
  rw [show g + ((0 : Nat) : Int) = g by omega]
  exact evs_cons (by omega) (few_k g f n) (by decide) (ev_num (by omega) (few_k g f n) 0 (by decide) (by decide)) rfl (evs_one (ev_get (by omega) g f n))
 | j + 1, g, hj, h => by
  have h0 := h 0 (by omega)
  have h1 := h 1 (by omega)
  rw [show g + ((0 : Nat) : Int) = g by omega] at h0
  have ih := evs_body hb f n j (g + 1) (by omega) (fun i hi => by
   have := h (i + 1) (by omega)
   rwa [show g + ((i + 1 : Nat) : Int) = g + 1 + i by omega] at this)
  rw [show g + 1 + (j : Int) = g + ((j + 1 : Nat) : Int) by omega] at ih
  obtain ⟨y, l, hl⟩ : ∃ y l, bodyL j = y :: l := List.exists_cons_of_ne_nil (by simp [bodyL])
  have hll : l.length ≤ 100 := by
   have := congrArg List.length hl
   simp [bodyL] at this
   omega
  rw [hl] at ih
  have := evs_cons (by omega) (few_k (g + 1) f n) hll (ev_up (b := b + 210) (by omega) f n h0 h1) rfl ih
  rw [show bodyL (j + 1) = callE sup :: bodyL j by simp [bodyL, List.replicate_succ], hl]
  rwa [show 8 + (8 * j + 5) = 8 * (j + 1) + 5 by omega, show 12 + (13 * j + 8) + 1 = 13 * (j + 1) + 8 by omega] at this
theorem box_do {T : List Hp.Th} {f : Int} (h : isN f = true) : Hp.fewOk T Ex.sBox [⟨1, f, ⟨#[]⟩⟩] = true ∧ Hp.doF T Ex.sBox [⟨1, f, ⟨#[]⟩⟩] = (⟨8, T.length, ⟨#[]⟩⟩, 0, T ++ [⟨3, [⟨1, f, ⟨#[]⟩⟩]⟩]) := by
 have hr : Hp.rat Ex.sBox 38 = (33 : Nat) := by decide +kernel
 have hm : [(⟨1, f, ⟨#[]⟩⟩ : Hp.V)].all (Hp.may T.length) = true := by simp [may_num', h]
 have ho : Hp.allOk T [⟨1, f, ⟨#[]⟩⟩] [46] = true := by simp [Hp.allOk, Hp.okAt, Hp.isL]
 constructor
 ·unfold Hp.fewOk
  rw [hm, hr]
  show (Hp.fewB Ex.sBox [⟨1, f, ⟨#[]⟩⟩] && true && Hp.allOk T [⟨1, f, ⟨#[]⟩⟩] [46]) = true
  rw [ho]
  rfl
 ·rw [Hp.doF_act hr rfl rfl hm ho]
  rfl
def T1 : List Hp.Th := [⟨4, []⟩]
def T2 (f : Int) : List Hp.Th := [⟨4, []⟩, ⟨3, [⟨1, f, ⟨#[]⟩⟩]⟩]
def T3 (f : Int) : List Hp.Th := [⟨4, []⟩, ⟨3, [⟨1, f, ⟨#[]⟩⟩]⟩, ⟨4, []⟩]
def C1 (f : Int) : List Hp.V := [⟨1, f, ⟨#[]⟩⟩]
def C2 (f : Int) : List Hp.V := [⟨1, f, ⟨#[]⟩⟩, ⟨8, 1, ⟨#[]⟩⟩]
def P1 (n : Nat) : List Proc := [⟨0, lamB n, [], false, [], []⟩]
def P2 (n : Nat) : List Proc := [⟨0, lamB n, [], false, [], []⟩, ⟨2, lamE [] moreB, env1, false, [], []⟩]
theorem few_0 : Few [] [] [] := ⟨by decide, fun t ht => by simp at ht, by decide, by decide⟩
theorem few_10 (n : Nat) : Few T1 [] (P1 n) := ⟨by decide, fun t ht => by simp [T1] at ht; subst ht; decide, by decide, by show 1 ≤ 1000; decide⟩
theorem few_11 (f : Int) (n : Nat) : Few T1 (C1 f) (P1 n) := ⟨by decide, fun t ht => by simp [T1] at ht; subst ht; decide, by show 1 ≤ 1000; decide, by show 1 ≤ 1000; decide⟩
theorem few_2 (f : Int) : ∀ t ∈ T2 f, t.parts.length ≤ 1000 := fun t ht => by
 simp only [T2, List.mem_cons, List.not_mem_nil, or_false] at ht
 rcases ht with rfl | rfl <;> simp
theorem few_21 (f : Int) (n : Nat) : Few (T2 f) (C1 f) (P1 n) := ⟨by show 2 ≤ 1000; decide, few_2 f, by show 1 ≤ 1000; decide, by show 1 ≤ 1000; decide⟩
theorem few_22 (f : Int) (n : Nat) : Few (T2 f) (C2 f) (P1 n) := ⟨by show 2 ≤ 1000; decide, few_2 f, by show 2 ≤ 1000; decide, by show 1 ≤ 1000; decide⟩
theorem few_3 (f : Int) (n : Nat) : Few (T3 f) (C2 f) (P2 n) := ⟨by show 3 ≤ 1000; decide, fun t ht => by
 simp only [T3, List.mem_cons, List.not_mem_nil, or_false] at ht
 rcases ht with rfl | rfl | rfl <;> simp, by show 2 ≤ 1000; decide, by show 2 ≤ 1000; decide⟩
theorem few_4 (f : Int) (n : Nat) : Few (Tk f) (C2 f) (P3 n) := ⟨(few_k f f n).t, (few_k f f n).p, by show 2 ≤ 1000; decide, (few_k f f n).q⟩
theorem ev_in {b : Nat} (hb : b ≤ 900) (f : Int) {n : Nat} (hn : n ≤ 30) (h : ∀ i : Nat, i ≤ n → isN (f + i) = true) : Ev b (inB n) env1 (T2 f) (C2 f) (P1 n) (8 * n + 9) (13 * n + 13) ⟨1, f + n, ⟨#[]⟩⟩ (Tk (f + n)) (C4 f) (P3 n) := by
 have hs := evs_body (b := b) (by omega) f n n f (by omega) h
 have hq := ev_seq (few_k f f n) (bodyL n) (by omega) (by decide) (by simp [bodyL]) (by simp [bodyL]; omega) hs
 have ha : Ev (b + 8) (lamE [] moreB) env1 (T2 f) (C2 f) (P1 n) 1 1 ⟨8, 2, ⟨#[]⟩⟩ (T3 f) (C2 f) (P2 n) := ev_lam (by omega) (few_22 f n) [] moreB (by decide) (by decide)
 have hy : Ev (b + 8) (lamE [] getB) env1 (T3 f) (C2 f) (P2 n) 1 1 ⟨8, 3, ⟨#[]⟩⟩ (Tk f) (C2 f) (P3 n) := ev_lam (by omega) (few_3 f n) [] getB (by decide) (by decide)
 have := ev_let2 (few_22 f n) (few_4 f n) sup sget (lamE [] moreB) (lamE [] getB) (bodyE n) (by omega) (by decide) ha hy rfl rfl hq
 rwa [show 1 + 1 + (8 * n + 5 + 1) + 1 = 8 * n + 9 by omega, show 1 + 1 + (13 * n + 8 + 1) + 2 = 13 * n + 13 by omega] at this
theorem ev_out (f : Int) {n : Nat} (hn : n ≤ 30) (h : ∀ i : Nat, i ≤ n → isN (f + i) = true) : Ev 10 (outE n f) [] [] [] [] (8 * n + 15) (13 * n + 22) ⟨1, f + n, ⟨#[]⟩⟩ (Tk (f + n)) (C4 f) (P3 n) := by
 have h0 := h 0 (by omega)
 rw [show f + ((0 : Nat) : Int) = f by omega] at h0
 have hl : Ev 10 (.mk 8 ⟨#[]⟩ [sx] Dt.zero [Ex.primE Ex.sBox [Ex.refE sx], inB n]) [(sx, 0)] T1 (C1 f) (P1 n) (2 + (8 * n + 9) + 1) (3 + (13 * n + 13) + 2) ⟨1, f + n, ⟨#[]⟩⟩ (Tk (f + n)) (C4 f) (P3 n) :=
  ev_let1 (few_11 f n) (few_21 f n) sx _ _ (by omega) (by decide) (ev_prim1 (few_11 f n) (few_11 f n) _ _ (by omega) (by decide) (ev_ref (by omega) (few_11 f n) sx 0 (by decide) (by decide +kernel) rfl) rfl (box_do h0).1 (box_do h0).2) rfl (ev_in (by omega) f hn h)
 have hg : Ev 18 (lamB n) [] [] [] [] 1 1 ⟨8, 0, ⟨#[]⟩⟩ T1 [] (P1 n) := ev_lam (by omega) few_0 [sx] _ (by decide) (by decide)
 have hfun : Fun T1 (P1 n) ⟨8, 0, ⟨#[]⟩⟩ [sx] (.mk 8 ⟨#[]⟩ [sx] Dt.zero [Ex.primE Ex.sBox [Ex.refE sx], inB n]) [] := ⟨rfl, by kernel_rfl, rfl, rfl, by decide, by decide⟩
 have := ev_call1 few_0 (few_10 n) (lamB n) (numX f) (by omega) (by decide) hg (ev_num (by omega) (few_10 n) f (by decide) h0) hfun rfl hl
 rwa [show 1 + 1 + (2 + (8 * n + 9) + 1) + 1 = 8 * n + 15 - 0 by omega, show 1 + 1 + (3 + (13 * n + 13) + 2) + 2 = 13 * n + 22 by omega] at this
theorem out_mk (T : List Hp.Th) (C : List Hp.V) (P : List Proc) (k : Nat) {g : Int} (h : isN g = true) : outR (mkS T C P k [] [⟨1, g, ⟨#[]⟩⟩]) = some ⟨0, [], some (.mk 1 g ⟨#[]⟩ []), k⟩ := by
 have hw : wfB (mkS T C P k [] [⟨1, g, ⟨#[]⟩⟩]) = true := rfl
 unfold outR
 rw [hw, if_neg (by simp [mkS]), if_neg (by decide)]
 show some (Out.mk 0 [] (Hp.tellT T ⟨1, g, ⟨#[]⟩⟩) k) = _
 have ht : Hp.tellT T ⟨1, g, ⟨#[]⟩⟩ = some (.mk 1 g ⟨#[]⟩ []) := by
  unfold Hp.tellT
  rw [if_pos (by rw [may_num', h])]
  rfl
 rw [ht]
theorem run_of_ev {e : Ex} {k n : Nat} {g : Int} {T : List Hp.Th} {C : List Hp.V} {P : List Proc} (h : Ev 10 e [] [] [] [] k n ⟨1, g, ⟨#[]⟩⟩ T C P) (hF : Few T C P) (hk : k ≤ 3000) (hg : isN g = true) : runR (1 + n) e [] 3001 = some ⟨0, [], some (.mk 1 g ⟨#[]⟩ []), k⟩ := by
 have h1 := h [] [] 0 1 (by decide) (by decide) (fun u hu => by simp at hu) (by omega)
 unfold runR
 rw [show Rn.start e [] = mkS [] [] [] 0 [eT e []] [] from rfl, h1, turns, if_neg (by rw [may_mk hF (by simp) (by simp) (by simp) (by omega)]; decide), if_pos (.inr rfl), Nat.zero_add]
 exact out_mk T C P k hg
theorem run_out (f : Int) {n : Nat} (hn : n ≤ 30) (h : ∀ i : Nat, i ≤ n → isN (f + i) = true) : runR (1 + (13 * n + 22)) (outE n f) [] 3001 = some ⟨0, [], some (.mk 1 (f + n) ⟨#[]⟩ []), 8 * n + 15⟩ :=
 run_of_ev (ev_out f hn h) (few_k (f + n) f n) (by omega) (h n (Nat.le_refl _))
theorem run_num {g : Int} (h : isN g = true) : runR 2 (numX g) [] 1500 = some ⟨0, [], some (.mk 1 g ⟨#[]⟩ []), 1⟩ := by
 have e : next 1500 (Rn.start (numX g) []) = some (mkS [] [] [] 1 [] [⟨1, g, ⟨#[]⟩⟩]) := by
  show some (St.tell _ (constF (.mk 1 g ⟨#[]⟩ [])).1) = _
  rw [const_num h]
  rfl
 have m1 : may 1500 (Rn.start (numX g) []) = true := by kernel_rfl
 have m2 : may 1500 (mkS [] [] [] 1 [] [⟨1, g, ⟨#[]⟩⟩]) = true := by kernel_rfl
 unfold runR
 rw [turns, if_neg (by rw [m1]; decide), if_neg (by simp [Rn.start]), e]
 show (turns 1500 1 (mkS [] [] [] 1 [] [⟨1, g, ⟨#[]⟩⟩])).bind outR = _
 rw [turns, if_neg (by rw [m2]; decide), if_pos (.inr rfl)]
 exact out_mk [] [] [] 1 h
end Bc
end Go.Proofs.YtkplkgdfphbldaaGreat
