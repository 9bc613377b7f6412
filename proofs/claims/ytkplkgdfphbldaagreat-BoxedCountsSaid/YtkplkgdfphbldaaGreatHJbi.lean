/- Expressions: the reference's form: what it needs; constants. -/
import Derived.Test.YtkplkgdfphbldaaGreatHJbe
import Derived.Test.YtkplkgdfphbldaaGreatHJbh
namespace Go.Proofs.YtkplkgdfphbldaaGreat
open Go.RowKit
open Go.Lib (hid)
set_option linter.unusedVariables false
set_option linter.unusedSimpArgs false
set_option linter.unnecessarySimpa false
set_option maxRecDepth 100000
namespace Ew
open Rn
theorem same_zero (d : Dt) : Dt.same d Dt.zero = (decide (d.kind = 0) && decide (d.int = 0) && decide (d.text = ⟨#[]⟩) && decide (d.list.length = 0)) := by
 obtain ⟨k, i, t, l⟩ := d
 cases l with
 | nil => simp [Dt.same, Dt.zero, Dt.sames, Dt.kind, Dt.int, Dt.text, Dt.list] <;> first | rfl | congr
 | cons x l => simp [Dt.same, Dt.zero, Dt.sames, Dt.kind, Dt.int, Dt.text, Dt.list]
theorem const_B (d : Dt) : (constF d).2 = Ex.constB d := by
 unfold constF Ex.constB
 by_cases hE : d.chkE = 0
 ·simp only [hE, ne_eq, not_true_eq_false, if_false, decide_true, Bool.true_and]
  by_cases k0 : d.kind = 0
  ·simp [k0]
  by_cases k1 : d.kind = 1
  ·simp [k1]
  by_cases k2 : d.kind = 2
  ·simp [k2]
  by_cases k4 : d.kind = 4
  ·simp [k4]
  by_cases k5 : d.kind = 5 ∧ d.list = []
  ·simp [k5.1, k5.2]
  ·by_cases k6 : d.kind = 5
   ·have : ¬ d.list = [] := fun e => k5 ⟨k6, e⟩
    have h2 : d.list.isEmpty = false := by simpa using this
    simp [k6, this, h2]
   ·simp [k0, k1, k2, k4, k6]
 ·simp [hE]
theorem Op.dn {w : World} {e : Ex} {na : Option Addr} {nc : Nat} {da : Option Addr} {dn dc : Nat} {ka : Option Addr} {kc : Nat} (h : Op w e na nc da dn dc ka kc) : dn = e.const.list.length := by
 obtain ⟨a, c, e1, _⟩ := h.const.inv
 cases e1
 rfl
theorem text_nil (s : ByteArray) : (s.toList == []) = decide (s = ⟨#[]⟩) ∧ s.toList.isEmpty = decide (s = ⟨#[]⟩) ∧ (s.toList != []) = !decide (s = ⟨#[]⟩) := by
 by_cases h : s = ⟨#[]⟩
 ·subst h
  rw [Lib.toList_data]
  exact ⟨rfl, rfl, rfl⟩
 ·have h2 : ¬ s.toList = [] := fun e => h (by rw [Lib.toList_data] at e; obtain ⟨d⟩ := s; have h4 : d = #[] := Array.toList_eq_nil_iff.1 e; rw [h4])
  rw [decide_eq_false h]
  refine ⟨by simpa using h2, by simpa using h2, by simpa using h2⟩
structure Fits (e : Ex) : Prop where
 name : e.name.size ≤ maxLen
 names : ∀ s ∈ e.names, s.size ≤ maxLen
 nl : e.names.length ≤ 9223372036854775807
 const : Dt.Fit e.const
 cl : e.const.list.length ≤ 9223372036854775807
 kl : e.kids.length ≤ 9223372036854775807
theorem fits_of {e : Ex} (h : Ex.Fit e) : Fits e := by
 cases h with
 | mk k n l c ks hn hl hll hc hkl hk => exact ⟨hn, hl, hll, hc, by cases hc; assumption, hkl⟩
set_option maxHeartbeats 16000000 in
theorem rform_0 (e : Ex) {w : World} {na : Option Addr} {nc : Nat} {da : Option Addr} {dn dc : Nat} {ka : Option Addr} {kc : Nat} (hf : Fits e) (ho : Op w e na nc da dn dc ka kc) (hk : e.kind = 0) :
  Calls Tryz.prog 65 #[.agg #[.int .i64 e.kind, .string e.name, .slice na e.names.length nc, .int .i64 e.const.kind, .int .i64 e.const.int, .string e.const.text, .slice da dn dc, .slice ka e.kids.length kc]] w (Says (.bool (Ex.form e)) w) := by
 obtain ⟨w1, B1⟩ := boxedE w e na nc da dn dc ka kc
 have hdn := ho.dn
 have hR := Row.of B1.blk
 have HO := hid (ho.bel B1.below)
 have HB := hid B1
 have HR := hid hR
 have HFT := hid hf
 have hnl := hf.nl
 have hkl := hf.kl
 obtain ⟨x0, x1, x2, x3, x4, x5, x6, x7, hbl⟩ := hR
 clear B1 ho
 have hdl : dn ≤ 9223372036854775807 := by rw [hdn]; exact hf.cl
 have HDN := hid hdn
 have q0 : (e.kind == 0) = true := by rw [hk]; rfl
 obtain ⟨tn1, tn2, tn3⟩ := text_nil e.name
 have hne : ((e.names.length : Int) == 0) = e.names.isEmpty := by
  cases h : e.names with
  | nil => rfl
  | cons a l => rw [List.length_cons]; simp; omega
 have hke : ((e.kids.length : Int) == 0) = e.kids.isEmpty := by
  cases h : e.kids with
  | nil => rfl
  | cons a l => rw [List.length_cons]; simp; omega
 have HF : Hid (Ex.form e = (decide (e.name = ⟨#[]⟩) && e.names.isEmpty && e.kids.isEmpty && Ex.constB e.const)) := by
  unfold Hid Ex.form
  rw [if_pos hk]
 have HCN : Hid (Calls Tryz.prog 54 #[.agg #[.int .i64 e.const.kind, .int .i64 e.const.int, .string e.const.text, .slice da dn dc]] w1 (Says (.bool (Ex.constB e.const)) w1)) := by
  have h := rconst6_any e.const _ w1 HO.out.const hf.const
  rw [const_B] at h
  exact h
 obtain ⟨b2, h2⟩ : ∃ b, e.names.isEmpty = b := ⟨_, rfl⟩
 obtain ⟨b3, h3⟩ : ∃ b, decide (e.name = ⟨#[]⟩) = b := ⟨_, rfl⟩
 obtain ⟨b4, h4⟩ : ∃ b, e.kids.isEmpty = b := ⟨_, rfl⟩
 rw [h3] at tn1 tn2 tn3 HF
 rw [h2] at hne HF
 rw [h4] at hke HF
 clear h2 h3 h4 hdn hk
 have HBW : Hid (Below w1.heap.size w1 w1) := Below.refl _ _
 cases b3 with
 | false =>
  go_enter Tryz.func65, Tryz.ntmps65
  go_upto_region 1 with fail
  rw [← HB.out.eq]
  go_wp2_with fail
  go_ret
  exact ⟨by rw [HF.out]; rfl, HB.out.below.trans (HBW.out.mono HB.out.below.size)⟩
 | true =>
  cases b2 with
  | false =>
   go_enter Tryz.func65, Tryz.ntmps65
   go_upto_region 1 with fail
   rw [← HB.out.eq]
   go_wp2_with fail
   go_ret
   exact ⟨by rw [HF.out]; rfl, HB.out.below.trans (HBW.out.mono HB.out.below.size)⟩
  | true =>
   cases b4 with
   | false =>
    go_enter Tryz.func65, Tryz.ntmps65
    go_upto_region 1 with fail
    rw [← HB.out.eq]
    go_wp2_with fail
    go_ret
    exact ⟨by rw [HF.out]; rfl, HB.out.below.trans (HBW.out.mono HB.out.below.size)⟩
   | true =>
    go_enter Tryz.func65, Tryz.ntmps65
    go_upto_region 1 with fail
    rw [← HB.out.eq]
    go_wp2_with fail
    with_reducible refine HCN.out.mono ?_
    rintro e2 w2 ⟨rfl, hb2⟩
    have HBW : Hid (Below w1.heap.size w1 w2) := hb2
    clear hb2
    obtain ⟨y0, y1, y2, y3, y4, y5, y6, y7, ybl⟩ := HR.out.bel HBW.out
    go_wp2_with fail
    go_ret
    exact ⟨by rw [HF.out]; simp, HB.out.below.trans (HBW.out.mono HB.out.below.size)⟩
theorem four_set (w : World) (g : Nat) (t : TypeId) (a b c d x y z u : Value) (h : w.heap[g]? = some (.cells #[a, b, c, d] t (0, 0))) :
  ((((w.setCell ⟨g, 0, none⟩ x).setCell ⟨g, 1, none⟩ y).setCell ⟨g, 2, none⟩ z).setCell ⟨g, 3, none⟩ u).heap[g]? = some (.cells #[x, y, z, u] t (0, 0)) := by
 have e1 := heap_setCell_same _ g 0 _ _ x h
 have e2 := heap_setCell_same _ g 1 _ _ y e1
 have e3 := heap_setCell_same _ g 2 _ _ z e2
 exact heap_setCell_same _ g 3 _ _ u e3
theorem below_four {B : Nat} {w w1 : World} {g : Nat} (h : Below B w w1) (hg : B ≤ g) (x y z u : Value) : Below B w ((((w1.setCell ⟨g, 0, none⟩ x).setCell ⟨g, 1, none⟩ y).setCell ⟨g, 2, none⟩ z).setCell ⟨g, 3, none⟩ u) :=
 (((h.setCell (p := ⟨g, 0, none⟩) hg _).setCell (p := ⟨g, 1, none⟩) hg _).setCell (p := ⟨g, 2, none⟩) hg _).setCell (p := ⟨g, 3, none⟩) hg _
theorem chkE_form {d : Dt} (h : d.chkE = 0) : Dt.formB d.kind d.int d.text d.list = true ∧ d.nodes ≤ 4096 := by
 obtain ⟨k, i, t, l⟩ := d
 have h2 := Dt.chk_le (.mk k i t l) 0 0 (by omega)
 unfold Dt.chkE at h
 refine ⟨?_, by have := h2.2.2 h; omega⟩
 rw [Dt.chk] at h
 simp only [Dt.kind_mk, Dt.int_mk, Dt.text_mk, Dt.list_mk]
 cases hf : Dt.formB k i t l with
 | true => rfl
 | false =>
  rw [hf] at h
  simp at h
  try (split at h <;> simp at h)
theorem chk_kind {d : Dt} (h : d.chkE = 0) : 0 ≤ d.kind ∧ d.kind ≤ 7 := by
 have hf := (chkE_form h).1
 unfold Dt.formB at hf
 by_cases h0 : d.kind = 0
 ·omega
 by_cases h1 : d.kind = 1
 ·omega
 by_cases h2 : d.kind = 2
 ·omega
 by_cases h3 : d.kind = 3
 ·omega
 by_cases h4 : d.kind = 4
 ·omega
 by_cases h5 : d.kind = 5 ∨ d.kind = 7
 ·omega
 by_cases h6 : d.kind = 6
 ·omega
 rw [if_neg h0, if_neg h1, if_neg h2, if_neg h3, if_neg h4, if_neg h5, if_neg h6] at hf
 cases hf
set_option maxHeartbeats 4000000 in
theorem pconst_any (d : Dt) (v : Value) (w : World) (hd : DtAt w (fun _ => True) v d) (hf : Dt.Fit d) : Calls Tryz.prog 81 #[v] w fun e w' => e = .returned (.bool (Ex.constB d)) ∧ Below w.heap.size w w' := by
 obtain ⟨a, c, rfl, _⟩ := hd.inv
 obtain ⟨w1, hw1, hW⟩ : ∃ w1, w1 = w.alloc (.cells #[.int .i64 d.kind, .int .i64 d.int, .string d.text, .slice a d.list.length c] 25) ∧ w1.heap[w.heap.size]? = some (.cells #[.int .i64 d.kind, .int .i64 d.int, .string d.text, .slice a d.list.length c] 25 (0, 0)) := ⟨_, rfl, heap_new rfl⟩
 have hB : Below w.heap.size w w1 := by rw [hw1]; exact (Below.refl _ _).alloc (Nat.le_refl _) _
 have hsz : w1.heap.size = w.heap.size + 1 := by rw [hw1]; simp
 have HC := hid (dcheck_any d _ w1 ((hd.bel hB (Nat.le_refl _)).mono fun _ _ h => h) hf)
 have HW := hid hw1
 have HB := hid hB
 have HWB := hid hW
 have hll : d.list.length ≤ 9223372036854775807 := by cases hf; assumption
 have hck : d.chkE = 0 → 0 ≤ d.kind ∧ d.kind ≤ 7 := chk_kind
 clear hd hf hw1 hB hW
 unfold Ex.constB
 obtain ⟨k, i, t, l⟩ := d
 simp only [Dt.kind_mk, Dt.int_mk, Dt.text_mk, Dt.list_mk] at *
 generalize (Dt.mk k i t l).chkE = E at *
 by_cases hE : E = 0
 ·subst hE
  have hck := hck rfl
  cases l with
  | nil =>
   rw [List.length_nil] at HW HC HWB
   rcases (by omega : k = 0 ∨ k = 1 ∨ k = 2 ∨ k = 3 ∨ k = 4 ∨ k = 5 ∨ k = 6 ∨ k = 7) with rfl | rfl | rfl | rfl | rfl | rfl | rfl | rfl
   all_goals
    clear hck
    go_enter Tryz.func81, Tryz.ntmps81
    go_wp2_with fail
    rw [← HW.out]
    with_reducible refine HC.out.mono ?_
    rintro e w3 ⟨rfl, hb3⟩
    have HB3 : Hid (Below w.heap.size w w3) := HB.out.trans (hb3.mono HB.out.size)
    have hx := (hb3.block w.heap.size (by omega)).trans HWB.out
    have x0 := cell_of_row w3 w.heap.size 0 _ _ _ hx
    have x3 := cell_of_row w3 w.heap.size 3 _ _ _ hx
    simp only [List.getElem?_toArray, List.getElem?_cons_zero, List.getElem?_cons_succ] at x0 x3
    have hq3 : w.heap.size < w3.heap.size := by have := hb3.size; omega
    clear hb3 hx
    go_wp2_with fail
    go_ret
    exact ⟨by first | rfl | simp, HB3.out⟩
  | cons y l =>
   have hz : (((y :: l).length : Nat) : Int) ≠ 0 := by simp; omega
   have hz2 : ((((y :: l).length : Nat) : Int) == 0) = false := beq_eq_false_iff_ne.2 hz
   obtain ⟨m, hm⟩ : ∃ m, (y :: l).length = m := ⟨_, rfl⟩
   rw [hm] at hz2 HW HC HWB ⊢
   have hie : (y :: l).isEmpty = false := rfl
   rw [hie]
   clear hz hm hie
   rcases (by omega : k = 0 ∨ k = 1 ∨ k = 2 ∨ k = 3 ∨ k = 4 ∨ k = 5 ∨ k = 6 ∨ k = 7) with rfl | rfl | rfl | rfl | rfl | rfl | rfl | rfl
   all_goals
    clear hck
    go_enter Tryz.func81, Tryz.ntmps81
    go_wp2_with fail
    rw [← HW.out]
    with_reducible refine HC.out.mono ?_
    rintro e w3 ⟨rfl, hb3⟩
    have HB3 : Hid (Below w.heap.size w w3) := HB.out.trans (hb3.mono HB.out.size)
    have hx := (hb3.block w.heap.size (by omega)).trans HWB.out
    have x0 := cell_of_row w3 w.heap.size 0 _ _ _ hx
    have x3 := cell_of_row w3 w.heap.size 3 _ _ _ hx
    simp only [List.getElem?_toArray, List.getElem?_cons_zero, List.getElem?_cons_succ] at x0 x3
    have hq3 : w.heap.size < w3.heap.size := by have := hb3.size; omega
    clear hb3 hx
    go_wp2_with fail
    go_ret
    exact ⟨by first | rfl | simp, HB3.out⟩
 ·have hE2 : (E == 0) = false := beq_eq_false_iff_ne.2 hE
  have e1 : decide (E = 0) = false := decide_eq_false hE
  rw [e1]
  clear hck hE
  go_enter Tryz.func81, Tryz.ntmps81
  go_wp2_with fail
  rw [← HW.out]
  with_reducible refine HC.out.mono ?_
  rintro e w3 ⟨rfl, hb3⟩
  have HB3 : Hid (Below w.heap.size w w3) := HB.out.trans (hb3.mono HB.out.size)
  clear hb3
  go_wp2_with fail
  go_ret
  exact ⟨by first | rfl | simp, HB3.out⟩
def shN (k : Int) : Bool := decide (k = 1) || decide (k = 2) || decide (k = 7)
def shNs (k : Int) : Bool := decide (k = 5) || decide (k = 8) || decide (k = 9) || decide (k = 10)
def shFr (k : Int) (nm : ByteArray) (n : Nat) : Int := if k = 2 then 1 else if k = 3 then 3 else if k = 4 then 2 else if k = 5 then 1 else if k = 6 then 1 else if k = 7 then Ex.arity nm else if k = 8 ∨ k = 9 ∨ k = 10 then IntKind.i64.wrap ((n : Int) + 1) else 0
def shTo (k : Int) (nm : ByteArray) (n : Nat) : Int := if k = 2 then 1 else if k = 3 then 3 else if k = 4 then 4096 else if k = 5 then 1 else if k = 6 then 7 else if k = 7 then Ex.arity nm else if k = 8 ∨ k = 9 ∨ k = 10 then IntKind.i64.wrap ((n : Int) + 1) else 0
def shOk (k : Int) (nm : ByteArray) (n : Nat) : Bool := if k = 5 then decide ((n : Int) ≤ 6) else if k = 7 then decide (0 ≤ Ex.arity nm) else if k = 10 then decide (0 < n) else decide (0 ≤ k) && decide (k ≤ 10)
theorem shapeD : ∃ fs, Tryz.prog.underlying 106 = some (.struct fs) := ⟨_, Tryz.underlying106⟩
theorem shapeSize : (Tryz.prog.info? 106).map (·.size) = some 4 := by kernel_rfl
abbrev shV (k : Int) (nm : ByteArray) (n : Nat) : Value := .tuple #[.agg #[.bool (shN k), .bool (shNs k), .int .i64 (shFr k nm n), .int .i64 (shTo k nm n)], .bool (shOk k nm n)]
theorem frozen_row {w : World} {g i : Nat} {cs : Array Value} {t : TypeId} (h : w.heap[g]? = some (.cells cs t (0, 0))) : w.frozen? ⟨g, i, none⟩ = false := frozen_of_row w g i _ _ h
set_option maxHeartbeats 8000000 in
theorem shaped_at (k : Int) (nm : ByteArray) (na : Option Addr) (n nc : Nat) (ck ci : Int) (ct : ByteArray) (da : Option Addr) (dn dc : Nat) (ka : Option Addr) (kn kc : Nat) (w : World) :
  Calls Tryz.prog 78 #[.agg #[.int .i64 k, .string nm, .slice na n nc, .int .i64 ck, .int .i64 ci, .string ct, .slice da dn dc, .slice ka kn kc]] w (Says (shV k nm n) w) := by
 obtain ⟨w1, B1⟩ := boxed w #[.int .i64 k, .string nm, .slice na n nc, .int .i64 ck, .int .i64 ci, .string ct, .slice da dn dc, .slice ka kn kc] 28
 obtain ⟨w2, B2⟩ := boxed w1 #[.bool false, .bool false, .int .i64 0, .int .i64 0] 106
 have hz := B2.blk
 rw [B1.size] at hz
 have hR := (Row.of B1.blk).bel B2.below
 have HB := hid B1
 have HB2 := hid B2
 have HA := hid (arity_any nm)
 have HZ := hid hz
 have HW2 : Hid (Below w.heap.size w w2) := B1.below.trans (B2.below.mono B1.below.size)
 have HG : Hid (w.heap.size ≤ w.heap.size + 1) := Nat.le_succ _
 obtain ⟨x0, x1, x2, x3, x4, x5, x6, x7, hbl⟩ := hR
 have s0 := cell_of_row w2 _ 0 _ _ _ hz
 have s1 := cell_of_row w2 _ 1 _ _ _ hz
 have s2 := cell_of_row w2 _ 2 _ _ _ hz
 have s3 := cell_of_row w2 _ 3 _ _ _ hz
 simp only [List.getElem?_toArray, List.getElem?_cons_zero, List.getElem?_cons_succ] at s0 s1 s2 s3
 have f0 : w2.frozen? ⟨w.heap.size + 1, 0, none⟩ = false := frozen_row hz
 have f1 : w2.frozen? ⟨w.heap.size + 1, 1, none⟩ = false := frozen_row hz
 have f2 : w2.frozen? ⟨w.heap.size + 1, 2, none⟩ = false := frozen_row hz
 have f3 : w2.frozen? ⟨w.heap.size + 1, 3, none⟩ = false := frozen_row hz
 have sl : w.heap.size + 1 < w2.heap.size := (Array.getElem?_eq_some_iff.1 hz).1
 clear B1 B2 hz
 rcases (by omega : k = 0 ∨ k = 1 ∨ k = 2 ∨ k = 3 ∨ k = 4 ∨ k = 5 ∨ k = 6 ∨ k = 7 ∨ k = 8 ∨ k = 9 ∨ k = 10 ∨ (k < 0 ∨ 10 < k)) with rfl | rfl | rfl | rfl | rfl | rfl | rfl | rfl | rfl | rfl | rfl | hk
 ·skip
  go_enter Tryz.func78, Tryz.ntmps78
  go_upto_region 1 with fail
  rw [← HB.out.eq, ← HB2.out.eq]
  go_wp2_with fail
  refine bodyPost_ret (res2 rfl _ _ (w.heap.size + 1) 106 #[.bool false, .bool false, .int .i64 0, .int .i64 0] (0, 0) rfl (four_set _ _ _ _ _ _ _ (.bool false) (.bool false) (.int .i64 0) (.int .i64 0) HZ.out) shapeD shapeSize) rfl ?_
  exact ⟨rfl, below_four HW2.out HG.out _ _ _ _⟩
 ·skip
  go_enter Tryz.func78, Tryz.ntmps78
  go_upto_region 1 with fail
  rw [← HB.out.eq, ← HB2.out.eq]
  go_wp2_with fail
  refine bodyPost_ret (res2 rfl _ _ (w.heap.size + 1) 106 #[.bool true, .bool false, .int .i64 0, .int .i64 0] (0, 0) rfl (four_set _ _ _ _ _ _ _ (.bool true) (.bool false) (.int .i64 0) (.int .i64 0) HZ.out) shapeD shapeSize) rfl ?_
  exact ⟨rfl, below_four HW2.out HG.out _ _ _ _⟩
 ·skip
  go_enter Tryz.func78, Tryz.ntmps78
  go_upto_region 1 with fail
  rw [← HB.out.eq, ← HB2.out.eq]
  go_wp2_with fail
  refine bodyPost_ret (res2 rfl _ _ (w.heap.size + 1) 106 #[.bool true, .bool false, .int .i64 1, .int .i64 1] (0, 0) rfl (four_set _ _ _ _ _ _ _ (.bool true) (.bool false) (.int .i64 1) (.int .i64 1) HZ.out) shapeD shapeSize) rfl ?_
  exact ⟨rfl, below_four HW2.out HG.out _ _ _ _⟩
 ·skip
  go_enter Tryz.func78, Tryz.ntmps78
  go_upto_region 1 with fail
  rw [← HB.out.eq, ← HB2.out.eq]
  go_wp2_with fail
  refine bodyPost_ret (res2 rfl _ _ (w.heap.size + 1) 106 #[.bool false, .bool false, .int .i64 3, .int .i64 3] (0, 0) rfl (four_set _ _ _ _ _ _ _ (.bool false) (.bool false) (.int .i64 3) (.int .i64 3) HZ.out) shapeD shapeSize) rfl ?_
  exact ⟨rfl, below_four HW2.out HG.out _ _ _ _⟩
 ·skip
  go_enter Tryz.func78, Tryz.ntmps78
  go_upto_region 1 with fail
  rw [← HB.out.eq, ← HB2.out.eq]
  go_wp2_with fail
  refine bodyPost_ret (res2 rfl _ _ (w.heap.size + 1) 106 #[.bool false, .bool false, .int .i64 2, .int .i64 4096] (0, 0) rfl (four_set _ _ _ _ _ _ _ (.bool false) (.bool false) (.int .i64 2) (.int .i64 4096) HZ.out) shapeD shapeSize) rfl ?_
  exact ⟨rfl, below_four HW2.out HG.out _ _ _ _⟩
 ·skip
  go_enter Tryz.func78, Tryz.ntmps78
  go_upto_region 1 with fail
  rw [← HB.out.eq, ← HB2.out.eq]
  go_wp2_with fail
  refine bodyPost_ret (res2 rfl _ _ (w.heap.size + 1) 106 #[.bool false, .bool true, .int .i64 1, .int .i64 1] (0, 0) rfl (four_set _ _ _ _ _ _ _ (.bool false) (.bool true) (.int .i64 1) (.int .i64 1) HZ.out) shapeD shapeSize) rfl ?_
  exact ⟨rfl, below_four HW2.out HG.out _ _ _ _⟩
 ·skip
  go_enter Tryz.func78, Tryz.ntmps78
  go_upto_region 1 with fail
  rw [← HB.out.eq, ← HB2.out.eq]
  go_wp2_with fail
  refine bodyPost_ret (res2 rfl _ _ (w.heap.size + 1) 106 #[.bool false, .bool false, .int .i64 1, .int .i64 7] (0, 0) rfl (four_set _ _ _ _ _ _ _ (.bool false) (.bool false) (.int .i64 1) (.int .i64 7) HZ.out) shapeD shapeSize) rfl ?_
  exact ⟨rfl, below_four HW2.out HG.out _ _ _ _⟩
 ·skip
  go_enter Tryz.func78, Tryz.ntmps78
  go_upto_region 1 with fail
  rw [← HB.out.eq, ← HB2.out.eq]
  go_wp2_with (first | ((with_reducible refine (HA.out _).mono ?_); rintro e2 w3 ⟨rfl, rfl⟩) | fail)
  refine bodyPost_ret (res2 rfl _ _ (w.heap.size + 1) 106 #[.bool true, .bool false, .int .i64 (Ex.arity nm), .int .i64 (Ex.arity nm)] (0, 0) rfl (four_set _ _ _ _ _ _ _ (.bool true) (.bool false) (.int .i64 (Ex.arity nm)) (.int .i64 (Ex.arity nm)) HZ.out) shapeD shapeSize) rfl ?_
  exact ⟨rfl, below_four HW2.out HG.out _ _ _ _⟩
 ·obtain ⟨W, gw⟩ : ∃ W, IntKind.i64.wrap ((n : Int) + 1) = W := ⟨_, rfl⟩
  have HV : Hid (shV 8 nm n = Value.tuple #[.agg #[.bool false, .bool true, .int .i64 W, .int .i64 W], .bool true]) := by
   unfold Hid shV shN shNs shFr shTo shOk
   rw [gw]
   simp
  go_enter Tryz.func78, Tryz.ntmps78
  go_upto_region 1 with fail
  rw [← HB.out.eq, ← HB2.out.eq]
  go_wp2_with fail
  refine bodyPost_ret (res2 rfl _ _ (w.heap.size + 1) 106 #[.bool false, .bool true, .int .i64 W, .int .i64 W] (0, 0) rfl (four_set _ _ _ _ _ _ _ (.bool false) (.bool true) (.int .i64 W) (.int .i64 W) HZ.out) shapeD shapeSize) rfl ?_
  exact ⟨(congrArg Ending.returned HV.out).symm, below_four HW2.out HG.out _ _ _ _⟩
 ·obtain ⟨W, gw⟩ : ∃ W, IntKind.i64.wrap ((n : Int) + 1) = W := ⟨_, rfl⟩
  have HV : Hid (shV 9 nm n = Value.tuple #[.agg #[.bool false, .bool true, .int .i64 W, .int .i64 W], .bool true]) := by
   unfold Hid shV shN shNs shFr shTo shOk
   rw [gw]
   simp
  go_enter Tryz.func78, Tryz.ntmps78
  go_upto_region 1 with fail
  rw [← HB.out.eq, ← HB2.out.eq]
  go_wp2_with fail
  refine bodyPost_ret (res2 rfl _ _ (w.heap.size + 1) 106 #[.bool false, .bool true, .int .i64 W, .int .i64 W] (0, 0) rfl (four_set _ _ _ _ _ _ _ (.bool false) (.bool true) (.int .i64 W) (.int .i64 W) HZ.out) shapeD shapeSize) rfl ?_
  exact ⟨(congrArg Ending.returned HV.out).symm, below_four HW2.out HG.out _ _ _ _⟩
 ·obtain ⟨W, gw⟩ : ∃ W, IntKind.i64.wrap ((n : Int) + 1) = W := ⟨_, rfl⟩
  have HV : Hid (shV 10 nm n = Value.tuple #[.agg #[.bool false, .bool true, .int .i64 W, .int .i64 W], .bool (decide (0 < n))]) := by
   unfold Hid shV shN shNs shFr shTo shOk
   rw [gw]
   simp
  go_enter Tryz.func78, Tryz.ntmps78
  go_upto_region 1 with fail
  rw [← HB.out.eq, ← HB2.out.eq]
  go_wp2_with fail
  refine bodyPost_ret (res2 rfl _ _ (w.heap.size + 1) 106 #[.bool false, .bool true, .int .i64 W, .int .i64 W] (0, 0) rfl (four_set _ _ _ _ _ _ _ (.bool false) (.bool true) (.int .i64 W) (.int .i64 W) HZ.out) shapeD shapeSize) rfl ?_
  exact ⟨(congrArg Ending.returned HV.out).symm, below_four HW2.out HG.out _ _ _ _⟩
 ·have q0 : (k == 0) = false := by rw [beq_eq_false_iff_ne]; omega
  have q1 : (k == 1) = false := by rw [beq_eq_false_iff_ne]; omega
  have q2 : (k == 2) = false := by rw [beq_eq_false_iff_ne]; omega
  have q3 : (k == 3) = false := by rw [beq_eq_false_iff_ne]; omega
  have q4 : (k == 4) = false := by rw [beq_eq_false_iff_ne]; omega
  have q5 : (k == 5) = false := by rw [beq_eq_false_iff_ne]; omega
  have q6 : (k == 6) = false := by rw [beq_eq_false_iff_ne]; omega
  have q7 : (k == 7) = false := by rw [beq_eq_false_iff_ne]; omega
  have q8 : (k == 8) = false := by rw [beq_eq_false_iff_ne]; omega
  have q9 : (k == 9) = false := by rw [beq_eq_false_iff_ne]; omega
  have q10 : (k == 10) = false := by rw [beq_eq_false_iff_ne]; omega
  have HV : Hid (shV k nm n = Value.tuple #[.agg #[.bool false, .bool false, .int .i64 0, .int .i64 0], .bool false]) := by
   unfold Hid shV shN shNs shFr shTo shOk
   simp only [beq_eq_false_iff_ne, ne_eq] at q0 q1 q2 q3 q4 q5 q6 q7 q8 q9 q10
   have h1 : (decide (0 ≤ k) && decide (k ≤ 10)) = false := by
    rcases hk with h | h
    ·rw [decide_eq_false (by omega)]; rfl
    ·rw [decide_eq_false (p := k ≤ 10) (by omega)]; simp
   simp only [q1, q2, q3, q4, q5, q6, q7, q8, q9, q10, if_false, decide_false, Bool.or_false, h1, or_self]
  clear hk
  go_enter Tryz.func78, Tryz.ntmps78
  go_upto_region 1 with fail
  rw [← HB.out.eq, ← HB2.out.eq]
  go_wp2_with fail
  refine bodyPost_ret (res2 rfl _ _ (w.heap.size + 1) 106 #[.bool false, .bool false, .int .i64 0, .int .i64 0] (0, 0) rfl (four_set _ _ _ _ _ _ _ (.bool false) (.bool false) (.int .i64 0) (.int .i64 0) HZ.out) shapeD shapeSize) rfl ?_
  exact ⟨(congrArg Ending.returned HV.out).symm, below_four HW2.out HG.out _ _ _ _⟩
theorem nolam_any (k : Int) (nm : ByteArray) (nv : Value) (ck ci : Int) (ct : ByteArray) (dl kv : Value) (w : World) (hn : ∃ a n c, nv = .slice a n c) (hd : ∃ a n c, dl = .slice a n c) (hk : ∃ a n c, kv = .slice a n c) :
  Calls Tryz.prog 83 #[.agg #[.int .i64 k, .string nm, nv, .int .i64 ck, .int .i64 ci, .string ct, dl, kv]] w (Says (.bool (!decide (k = 5))) w) := by
 obtain ⟨na, n, nc, rfl⟩ := hn
 obtain ⟨da, dn, dc, rfl⟩ := hd
 obtain ⟨ka, kn, kc, rfl⟩ := hk
 obtain ⟨w1, B1⟩ := boxed w #[.int .i64 k, .string nm, .slice na n nc, .int .i64 ck, .int .i64 ci, .string ct, .slice da dn dc, .slice ka kn kc] 28
 have hR := Row.of B1.blk
 have HB := hid B1
 obtain ⟨x0, x1, x2, x3, x4, x5, x6, x7, hbl⟩ := hR
 have HK : Hid ((k != 5) = !decide (k = 5)) := by unfold Hid; by_cases h : k = 5 <;> simp [h]
 clear B1
 go_enter Tryz.func83, Tryz.ntmps83
 go_upto_region 1 with fail
 rw [← HB.out.eq]
 go_wp2_with fail
 go_ret
 exact ⟨by rw [← HK.out]; first | rfl | simp, HB.out.below⟩
def anyNo (l : List Ex) : Bool := l.any fun x => !decide (x.kind = 5)
set_option maxHeartbeats 2000000 in
theorem xindex_any (l : List Ex) {w : World} {a : Option Addr} {c : Nat} (hl : KidsAt w (.slice a l.length c) l) (hlen : l.length ≤ 9223372036854775807) :
  Calls Tryz.prog 104 #[.slice a l.length c, .func (.func 83) #[] #[]] w fun e w' => ∃ r : Int, e = .returned (.int .i64 r) ∧ decide (0 ≤ r) = anyNo l ∧ Below w.heap.size w w' := by
 have HV := hid hl
 have HLE := hid hlen
 clear hl
 go_enter Tryz.func104, Tryz.ntmps104
 go_wp2_with fail
 go_loopg [5, 8] l.length (fun gg s5 s8 wr => ∃ k : Nat, k ≤ l.length ∧ gg = l.length - k ∧ s8 = .int .i64 k ∧ Hid (Below w.heap.size w wr) ∧ Hid (∀ x ∈ l.take k, x.kind = 5))
 case atStart => exact ⟨0, Nat.zero_le _, rfl, rfl, Below.refl _ w, fun x hx => by simp at hx⟩
 case round =>
  obtain ⟨k, hk, rfl, rfl, HB, HA⟩ := hrel
  by_cases hlt : k < l.length
  ·obtain ⟨x, hx⟩ : ∃ x, l[k]? = some x := ⟨_, List.getElem?_eq_getElem hlt⟩
   obtain ⟨_, kb, koff, e0, hkb, nv, dl, kv, hc0⟩ := HV.out.at hx
   subst e0
   have hc := hc0.bel hkb HB.out
   have hkb2 : kb < wr.heap.size := Nat.lt_of_lt_of_le hkb HB.out.size
   obtain ⟨h1, h2, h3⟩ := ExAt.slices hc.ex
   have hcall := nolam_any x.kind x.name nv x.const.kind x.const.int x.const.text dl kv wr h1 h2 h3
   obtain ⟨c0, c1, c2, c3, c4, c5, c6, c7, _⟩ := hc
   have HX := hid hx
   have HC := hid hcall
   have hg1 : (0 : Int) ≤ k := by omega
   have hg2 : (k : Int) < l.length := by omega
   have hgw : IntKind.i64.wrap ((k : Int) + 1) = ((k + 1 : Nat) : Int) := by rw [IntKind.wrap_i64]; omega
   have hxt : l.take (k + 1) = l.take k ++ [x] := by rw [List.take_add_one, hx]; rfl
   have HT := hid hxt
   clear hx hxt hc0 h1 h2 h3 hcall hkb
   by_cases hq : x.kind = 5
   ·have e1 : (!decide (x.kind = 5)) = false := by rw [decide_eq_true hq]; rfl
    rw [e1] at HC
    have HQ := hid hq
    clear hq e1
    go_wp2_with fail
    with_reducible refine HC.out.mono ?_
    rintro e w' ⟨rfl, hb'⟩
    have HB' : Hid (Below w.heap.size w w') := HB.out.trans (hb'.mono HB.out.size)
    clear hb'
    go_wp2_with fail
    go_roundg (l.length - (k + 1))
    case measure => omega
    case rel =>
     refine ⟨k + 1, by omega, rfl, by go_num, HB'.out, fun y hy => ?_⟩
     rw [HT.out, List.mem_append] at hy
     rcases hy with hy | hy
     ·exact HA.out y hy
     ·simp at hy
      subst hy
      exact HQ.out
   ·have e1 : (!decide (x.kind = 5)) = true := by rw [decide_eq_false hq]; rfl
    rw [e1] at HC
    have HQ := hid hq
    clear hq e1
    go_wp2_with fail
    with_reducible refine HC.out.mono ?_
    rintro e w' ⟨rfl, hb'⟩
    have HB' : Hid (Below w.heap.size w w') := HB.out.trans (hb'.mono HB.out.size)
    clear hb'
    go_wp2_with fail
    go_ret
    refine ⟨_, rfl, ?_, HB'.out⟩
    rw [decide_eq_true hg1]
    symm
    unfold anyNo
    rw [List.any_eq_true]
    exact ⟨x, List.mem_of_getElem? HX.out, by rw [decide_eq_false HQ.out]; rfl⟩
  ·obtain rfl : k = l.length := by omega
   go_wp2_with fail
   go_ret
   refine ⟨_, rfl, ?_, HB.out⟩
   have h := HA.out
   rw [List.take_length] at h
   symm
   rw [decide_eq_false (by decide)]
   unfold anyNo
   rw [List.any_eq_false]
   exact fun y hy => by simp [h y hy]
set_option maxHeartbeats 2000000 in
theorem xcontains_any (l : List Ex) {w : World} {a : Option Addr} {c : Nat} (hl : KidsAt w (.slice a l.length c) l) (hlen : l.length ≤ 9223372036854775807) :
  Calls Tryz.prog 82 #[.slice a l.length c, .func (.func 83) #[] #[]] w (Says (.bool (anyNo l)) w) := by
 have HI := hid (xindex_any l hl hlen)
 clear hl
 go_enter Tryz.func82, Tryz.ntmps82
 go_wp2_with fail
 with_reducible refine HI.out.mono ?_
 rintro e w' ⟨r, rfl, hr, hb⟩
 have HB := hid hb
 have HR := hid hr
 clear hb hr
 go_wp2_with fail
 go_ret
 exact ⟨by rw [← HR.out]; first | rfl | simp, HB.out⟩
structure ShB (w w' : World) (g : Nat) (nm ns : Bool) (fr tz : Int) : Prop where
 below : Below w.heap.size w w'
 blk : w'.heap[g]? = some (.cells #[.bool nm, .bool ns, .int .i64 fr, .int .i64 tz] 106 (0, 0))
theorem ShB.bel {w w' w'' : World} {g : Nat} {nm ns : Bool} {fr tz : Int} (h : ShB w w' g nm ns fr tz) (hb : Below w'.heap.size w' w'') : ShB w w'' g nm ns fr tz :=
 ⟨h.below.trans (hb.mono h.below.size), (hb.block g (Array.getElem?_eq_some_iff.1 h.blk).1).trans h.blk⟩
theorem ShB.cells {w w' : World} {g : Nat} {nm ns : Bool} {fr tz : Int} (h : ShB w w' g nm ns fr tz) : w'.cell? ⟨g, 0, none⟩ = some (.bool nm) ∧ w'.cell? ⟨g, 1, none⟩ = some (.bool ns) ∧ w'.cell? ⟨g, 2, none⟩ = some (.int .i64 fr) ∧ w'.cell? ⟨g, 3, none⟩ = some (.int .i64 tz) ∧ g < w'.heap.size :=
 ⟨cell_of_row w' g 0 _ _ _ h.blk, cell_of_row w' g 1 _ _ _ h.blk, cell_of_row w' g 2 _ _ _ h.blk, cell_of_row w' g 3 _ _ _ h.blk, (Array.getElem?_eq_some_iff.1 h.blk).1⟩
def bad2 (ok ns : Bool) (fr tz : Int) (k n : Nat) (nb : Bool) : Bool := !ok || decide ((k : Int) < fr) || decide (tz < (k : Int)) || (decide ((0 : Int) < (n : Int)) && !ns) || !nb
def bad4 (nm : Bool) (k : Int) (s : ByteArray) : Bool := nm && (k != 7) && !Nm.nameB s || !nm && !decide (s = ⟨#[]⟩)
def last9 (k : Int) (kids : List Ex) (n : Nat) (c : Dt) : Bool := ((k != 10) || !anyNo (kids.take n)) && Dt.same c Dt.zero
def formC (e : Ex) : Bool :=
 if bad2 (shOk e.kind e.name e.names.length) (shNs e.kind) (shFr e.kind e.name e.names.length) (shTo e.kind e.name e.names.length) e.kids.length e.names.length (Ex.namesB e.names) = true then false
 else if bad4 (shN e.kind) e.kind e.name = true then false
 else if e.kind = 0 then Ex.constB e.const
 else last9 e.kind e.kids e.names.length e.const
set_option maxHeartbeats 16000000 in
theorem pform_any (e : Ex) {w : World} {na : Option Addr} {nc : Nat} {da : Option Addr} {dn dc : Nat} {ka : Option Addr} {kc : Nat} (hf : Fits e) (ho : Op w e na nc da dn dc ka kc) :
  Calls Tryz.prog 62 #[.agg #[.int .i64 e.kind, .string e.name, .slice na e.names.length nc, .int .i64 e.const.kind, .int .i64 e.const.int, .string e.const.text, .slice da dn dc, .slice ka e.kids.length kc]] w (Says (.bool (formC e)) w) := by
 obtain ⟨w1, B1⟩ := boxedE w e na nc da dn dc ka kc
 have hdn := ho.dn
 have hR := Row.of B1.blk
 have HO := hid (ho.bel B1.below)
 have HB := hid B1
 have HR := hid hR
 have HFT := hid hf
 have HDN := hid hdn
 have hnl := hf.nl
 have hkl := hf.kl
 have hkc : e.kids.length ≤ kc := ho.kids.cap
 have HSP := hid (shaped_at e.kind e.name na e.names.length nc e.const.kind e.const.int e.const.text da dn dc ka e.kids.length kc w1)
 obtain ⟨nm, hnm⟩ : ∃ b, shN e.kind = b := ⟨_, rfl⟩
 obtain ⟨ns, hns⟩ : ∃ b, shNs e.kind = b := ⟨_, rfl⟩
 obtain ⟨fr, hfr⟩ : ∃ b, shFr e.kind e.name e.names.length = b := ⟨_, rfl⟩
 obtain ⟨tz, hto⟩ : ∃ b, shTo e.kind e.name e.names.length = b := ⟨_, rfl⟩
 obtain ⟨ok, hok⟩ : ∃ b, shOk e.kind e.name e.names.length = b := ⟨_, rfl⟩
 have hfit : e.kind = 10 → ¬ ((e.kids.length : Int) < fr) → ¬ (tz < (e.kids.length : Int)) → e.names.length ≤ e.kids.length := by
  intro hk h h2
  subst hfr
  subst hto
  unfold shFr at h
  unfold shTo at h2
  rw [hk] at h h2
  simp [IntKind.wrap_i64] at h h2
  omega
 have HFI := hid hfit
 have HNS := HO
 obtain ⟨nb, hnb⟩ : ∃ b, Ex.namesB e.names = b := ⟨_, rfl⟩
 obtain ⟨p2, hp2⟩ : ∃ b, bad2 ok ns fr tz e.kids.length e.names.length nb = b := ⟨_, rfl⟩
 obtain ⟨p4, hp4⟩ : ∃ b, bad4 nm e.kind e.name = b := ⟨_, rfl⟩
 have hform : formC e = if p2 = true then false else if p4 = true then false else if e.kind = 0 then Ex.constB e.const else last9 e.kind e.kids e.names.length e.const := by
  unfold formC
  rw [hok, hns, hfr, hto, hnb, hnm, hp2, hp4]
 have HFO := hid hform
 unfold shV at HSP
 rw [hnm, hns, hfr, hto, hok] at HSP
 have HNB := hid hnb
 have HP2 := hid hp2
 have HP4 := hid hp4
 unfold bad2 at HP2
 unfold bad4 at HP4
 obtain ⟨x0, x1, x2, x3, x4, x5, x6, x7, hbl⟩ := hR
 obtain ⟨tn1, tn2, tn3⟩ := text_nil e.name
 clear B1 ho hnm hns hfr hto hok hnb hp2 hp4 hform hfit hdn hf
 go_enter Tryz.func62, Tryz.ntmps62
 go_upto_region 1 with fail
 rw [← HB.out.eq]
 go_cut [3, 4] (fun p q wx => ∃ g, p = .pointer (some ⟨g, 0, none⟩) ∧ q = .bool ok ∧ Hid (ShB w1 wx g nm ns fr tz))
 case first =>
  go_wp2_with fail
  with_reducible refine HSP.out.mono ?_
  rintro e2 w2 ⟨rfl, hb2⟩
  have HB2 := hid hb2
  clear hb2
  go_wp2_with fail
  go_meet
  exact ⟨_, rfl, rfl, ⟨HB2.out.alloc HB2.out.size _, heap_alloc_new w2 _⟩⟩
 case rest =>
  obtain ⟨g, rfl, rfl, HSH⟩ := hcut
  obtain ⟨wb, hwb⟩ : ∃ z, z = wc := ⟨_, rfl⟩
  subst hwb
  go_upto_region 2 with fail
  go_cut [45] (fun s wx => s = .bool p2 ∧ Hid (ShB w1 wx g nm ns fr tz))
  case first =>
   obtain ⟨s0, s1, s2, s3, sl⟩ := HSH.out.cells
   obtain ⟨y0, y1, y2, y3, y4, y5, y6, y7, ybl⟩ := HR.out.bel HSH.out.below
   cases ok with
   | false =>
    go_wp2_with fail
    go_meet
    exact ⟨by rw [← HP2.out]; rfl, HSH.out⟩
   | true =>
    by_cases h1 : (e.kids.length : Int) < fr
    ·have q1 : decide ((e.kids.length : Int) < fr) = true := decide_eq_true h1
     have HQ : Hid (p2 = true) := by unfold Hid; rw [← HP2.out, q1]; rfl
     go_wp2_with fail
     go_meet
     exact ⟨by rw [HQ.out], HSH.out⟩
    ·have q1 : decide ((e.kids.length : Int) < fr) = false := decide_eq_false h1
     by_cases h2 : tz < (e.kids.length : Int)
     ·have q2 : decide (tz < (e.kids.length : Int)) = true := decide_eq_true h2
      have HQ : Hid (p2 = true) := by unfold Hid; rw [← HP2.out, q1, q2]; rfl
      go_wp2_with fail
      go_meet
      exact ⟨by rw [HQ.out], HSH.out⟩
     ·have q2 : decide (tz < (e.kids.length : Int)) = false := decide_eq_false h2
      have HN : Hid (∀ W : World, Below wb.heap.size wb W → Calls Tryz.prog 79 #[.slice na e.names.length nc] W (Says (.bool nb) W)) := by
       intro W hW
       have := dnames_any e.names (sl_bel (HO.out.bel HSH.out.below).names hW) HO.out.room hnl HFT.out.names
       rw [HNB.out] at this
       exact this
      by_cases h3 : (0 : Int) < (e.names.length : Int)
      ·have q3 : decide ((0 : Int) < (e.names.length : Int)) = true := decide_eq_true h3
       cases ns with
       | false =>
        have HQ : Hid (p2 = true) := by unfold Hid; rw [← HP2.out, q1, q2, q3]; rfl
        go_wp2_with fail
        go_meet
        exact ⟨by rw [HQ.out], HSH.out⟩
       | true =>
        have HQ : Hid (p2 = !nb) := by unfold Hid; rw [← HP2.out, q1, q2, q3]; simp
        go_wp2_with fail
        with_reducible refine (HN.out _ (Below.refl _ _)).mono ?_
        rintro e2 w2 ⟨rfl, hb2⟩
        have HB2 := hid hb2
        clear hb2
        go_wp2_with fail
        go_meet
        exact ⟨by rw [HQ.out], HSH.out.bel HB2.out⟩
      ·have q3 : decide ((0 : Int) < (e.names.length : Int)) = false := decide_eq_false h3
       have HQ : Hid (p2 = !nb) := by unfold Hid; rw [← HP2.out, q1, q2, q3]; simp
       go_wp2_with fail
       with_reducible refine (HN.out _ (Below.refl _ _)).mono ?_
       rintro e2 w2 ⟨rfl, hb2⟩
       have HB2 := hid hb2
       clear hb2
       go_wp2_with fail
       go_meet
       exact ⟨by rw [HQ.out], HSH.out.bel HB2.out⟩
  case rest =>
   obtain ⟨rfl, HSH2⟩ := hcut
   obtain ⟨wd, hwd⟩ : ∃ z, z = wc := ⟨_, rfl⟩
   subst hwd
   cases p2 with
   | true =>
    have HV : Hid (formC e = false) := HFO.out
    go_wp2_with fail
    go_ret
    exact ⟨by rw [HV.out]; rfl, HB.out.below.trans (HSH2.out.below.mono HB.out.below.size)⟩
   | false =>
    have hk2 : ok = true ∧ ¬ ((e.kids.length : Int) < fr) ∧ ¬ (tz < (e.kids.length : Int)) := by
     have := HP2.out
     simp only [Bool.or_eq_false_iff, decide_eq_false_iff_not, Bool.not_eq_false'] at this
     exact ⟨this.1.1.1.1, this.1.1.1.2, this.1.1.2⟩
    have HK2 := hid hk2
    clear hk2
    go_upto_region 4 with fail
    go_cut [68] (fun s wx => s = .bool p4 ∧ Hid (ShB w1 wx g nm ns fr tz))
    case first =>
     obtain ⟨s0, s1, s2, s3, sl⟩ := HSH2.out.cells
     obtain ⟨y0, y1, y2, y3, y4, y5, y6, y7, ybl⟩ := HR.out.bel HSH2.out.below
     cases nm with
     | false =>
      have HQ : Hid (p4 = !decide (e.name = ⟨#[]⟩)) := by unfold Hid; rw [← HP4.out]; simp
      go_wp2_with fail
      go_meet
      exact ⟨by rw [HQ.out, ← tn3], HSH2.out⟩
     | true =>
      have HNM := hid (dname_any e.name HFT.out.name)
      cases h7 : (e.kind != 7) with
      | false =>
       have HQ : Hid (p4 = false) := by unfold Hid; rw [← HP4.out, h7]; simp
       go_wp2_with fail
       go_meet
       exact ⟨by rw [HQ.out], HSH2.out⟩
      | true =>
       have HQ : Hid (p4 = !Nm.nameB e.name) := by unfold Hid; rw [← HP4.out, h7]; simp
       obtain ⟨bn, hbn⟩ : ∃ b, Nm.nameB e.name = b := ⟨_, rfl⟩
       rw [hbn] at HNM HQ
       clear hbn
       go_wp2_with fail
       with_reducible refine (HNM.out _).mono ?_
       rintro e2 w2 ⟨rfl, rfl⟩
       cases bn
       all_goals
        go_wp2_with fail
        go_meet
        exact ⟨by rw [HQ.out]; rfl, HSH2.out⟩
    case rest =>
     obtain ⟨rfl, HSH3⟩ := hcut
     obtain ⟨wf, hwf⟩ : ∃ z, z = wc := ⟨_, rfl⟩
     subst hwf
     cases p4 with
     | true =>
      have HV : Hid (formC e = false) := HFO.out
      go_wp2_with fail
      go_ret
      exact ⟨by rw [HV.out]; rfl, HB.out.below.trans (HSH3.out.below.mono HB.out.below.size)⟩
     | false =>
      obtain ⟨y0, y1, y2, y3, y4, y5, y6, y7, ybl⟩ := HR.out.bel HSH3.out.below
      have HOP := hid (HO.out.bel HSH3.out.below)
      by_cases h0 : e.kind = 0
      ·have q0 : (e.kind == 0) = true := by rw [h0]; rfl
       have HV : Hid (formC e = Ex.constB e.const) := by
        have := HFO.out
        rw [if_neg (by simp), if_neg (by simp), if_pos h0] at this
        exact this
       have HC := hid (pconst_any e.const _ wf HOP.out.const HFT.out.const)
       clear h0
       go_wp2_with fail
       with_reducible refine HC.out.mono ?_
       rintro e2 w2 ⟨rfl, hb2⟩
       have HB2 := hid (HSH3.out.below.trans (hb2.mono HSH3.out.below.size))
       clear hb2
       go_wp2_with fail
       go_ret
       exact ⟨by rw [HV.out]; rfl, HB.out.below.trans (HB2.out.mono HB.out.below.size)⟩
      ·have q0 : (e.kind == 0) = false := beq_eq_false_iff_ne.2 h0
       have HV : Hid (formC e = last9 e.kind e.kids e.names.length e.const) := by
        have := HFO.out
        rw [if_neg (by simp), if_neg (by simp), if_neg h0] at this
        exact this
       clear h0
       obtain ⟨p8, hp8⟩ : ∃ b, ((e.kind != 10) || !anyNo (e.kids.take e.names.length)) = b := ⟨_, rfl⟩
       unfold last9 at HV
       rw [hp8] at HV
       have HP8 := hid hp8
       clear hp8
       go_upto_region 8 with fail
       go_cut [5] (fun s wx => s = .bool p8 ∧ Hid (Below wf.heap.size wf wx))
       case first =>
        cases h10 : (e.kind != 10) with
        | true =>
         have HQ : Hid (p8 = true) := by unfold Hid; rw [← HP8.out, h10]; rfl
         go_wp2_with fail
         go_meet
         exact ⟨by rw [HQ.out], Below.refl _ _⟩
        | false =>
         have HQ : Hid (p8 = !anyNo (e.kids.take e.names.length)) := by unfold Hid; rw [← HP8.out, h10]; rfl
         have hk10 : e.kind = 10 := by simpa using h10
         have hle := HFI.out hk10 HK2.out.2.1 HK2.out.2.2
         have hlt : (e.kids.take e.names.length).length = e.names.length := by rw [List.length_take]; omega
         have htk := HOP.out.kids.take e.names.length hle
         have hcc := xcontains_any (e.kids.take e.names.length) (a := ka) (c := kc) (w := wf) (by rw [hlt]; exact htk) (by omega)
         rw [hlt] at hcc
         have HCC := hid hcc
         have g1 : (0 : Int) ≤ (e.names.length : Int) := by omega
         have g2 : (e.names.length : Int) ≤ (kc : Int) := by omega
         have g3 : e.names.length ≤ kc := by omega
         clear hcc htk hlt hk10
         go_wp2_with fail
         with_reducible refine HCC.out.mono ?_
         rintro e2 w2 ⟨rfl, hb2⟩
         have HB2 := hid hb2
         clear hb2
         go_wp2_with fail
         go_meet
         exact ⟨by rw [HQ.out], HB2.out⟩
       case rest =>
        obtain ⟨rfl, HB9⟩ := hcut
        obtain ⟨y0, y1, y2, y3, y4, y5, y6, y7, ybl⟩ := HR.out.bel (HSH3.out.below.trans (HB9.out.mono HSH3.out.below.size))
        cases p8 with
        | false =>
         go_wp2_with fail
         go_ret
         exact ⟨by rw [HV.out]; rfl, HB.out.below.trans ((HSH3.out.below.trans (HB9.out.mono HSH3.out.below.size)).mono HB.out.below.size)⟩
        | true =>
         have hdl : dn ≤ 9223372036854775807 := by rw [HDN.out]; exact HFT.out.cl
         have HE := hid (equal_bare e.const.kind e.const.int e.const.text da dn dc hdl wc)
         have HSZ : Hid (Dt.same e.const Dt.zero = (decide (e.const.kind = 0) && decide (e.const.int = 0) && decide (e.const.text = ⟨#[]⟩) && decide (dn = 0))) := by unfold Hid; rw [same_zero, HDN.out]
         clear hdl
         go_wp2_with fail
         with_reducible refine HE.out.mono ?_
         rintro e2 w2 ⟨rfl, hb2⟩
         have HB2 := hid ((HSH3.out.below.trans (HB9.out.mono HSH3.out.below.size)).trans (hb2.mono (Nat.le_trans HSH3.out.below.size HB9.out.size)))
         clear hb2
         go_wp2_with fail
         go_ret
         exact ⟨by rw [HV.out, HSZ.out]; rfl, HB.out.below.trans (HB2.out.mono HB.out.below.size)⟩
set_option maxHeartbeats 16000000 in
theorem rform_1 (e : Ex) {w : World} {na : Option Addr} {nc : Nat} {da : Option Addr} {dn dc : Nat} {ka : Option Addr} {kc : Nat} (hf : Fits e) (ho : Op w e na nc da dn dc ka kc) (hk : e.kind = 1) :
  Calls Tryz.prog 65 #[.agg #[.int .i64 e.kind, .string e.name, .slice na e.names.length nc, .int .i64 e.const.kind, .int .i64 e.const.int, .string e.const.text, .slice da dn dc, .slice ka e.kids.length kc]] w (Says (.bool (Ex.form e)) w) := by
 obtain ⟨w1, B1⟩ := boxedE w e na nc da dn dc ka kc
 have hdn := ho.dn
 have hR := Row.of B1.blk
 have HO := hid (ho.bel B1.below)
 have HB := hid B1
 have HR := hid hR
 have HFT := hid hf
 have hnl := hf.nl
 have hkl := hf.kl
 obtain ⟨x0, x1, x2, x3, x4, x5, x6, x7, hbl⟩ := hR
 clear B1 ho
 have hdl : dn ≤ 9223372036854775807 := by rw [hdn]; exact hf.cl
 have HDN := hid hdn
 have q0 : (e.kind == 0) = false := by rw [hk]; rfl
 have q1 : (e.kind == 1) = true := by rw [hk]; rfl
 obtain ⟨W, hW⟩ : ∃ W, IntKind.i64.wrap ((e.names.length : Int) + 1) = W := ⟨_, rfl⟩
 have hW2 : (e.kids.length : Int) = W ↔ e.kids.length = e.names.length + 1 := by rw [← hW, IntKind.wrap_i64]; omega
 obtain ⟨tn1, tn2, tn3⟩ := text_nil e.name
 have hne : ((e.names.length : Int) == 0) = e.names.isEmpty := by
  cases h : e.names with
  | nil => rfl
  | cons a l => rw [List.length_cons]; simp; omega
 have hke : ((e.kids.length : Int) == 0) = e.kids.isEmpty := by
  cases h : e.kids with
  | nil => rfl
  | cons a l => rw [List.length_cons]; simp; omega
 obtain ⟨cs, hcs⟩ : ∃ b, Dt.same e.const Dt.zero = b := ⟨_, rfl⟩
 obtain ⟨nm, hnm⟩ : ∃ b, Ex.namesB e.names = b := ⟨_, rfl⟩
 obtain ⟨b1, h1⟩ : ∃ b, Nm.nameB e.name = b := ⟨_, rfl⟩
 obtain ⟨b2, h2⟩ : ∃ b, e.names.isEmpty = b := ⟨_, rfl⟩
 obtain ⟨b3, h3⟩ : ∃ b, decide (e.name = ⟨#[]⟩) = b := ⟨_, rfl⟩
 obtain ⟨c1, d1⟩ : ∃ b, (e.kids.isEmpty : Bool) = b := ⟨_, rfl⟩
 have HF : Hid (Ex.form e = (cs && nm && (b1 && b2 && c1))) := by
  unfold Hid Ex.form
  rw [hk]
  rw [if_neg (by decide : ¬ (1 : Int) = 0)]
  rw [if_pos rfl]
  rw [hcs, hnm, h1, h2, d1]
 have f0 : ((e.kids.length : Int) == 0) = c1 := by rw [hke]; exact d1
 have HSC : Hid (Calls Tryz.prog 32 #[.agg #[.int .i64 e.const.kind, .int .i64 e.const.int, .string e.const.text, .slice da dn dc], .agg #[.int .i64 0, .int .i64 0, .string ⟨#[]⟩, .slice none 0 0]] w1 (Says (.bool cs) w1)) := by
  have h := rsame_bare e.const.kind e.const.int e.const.text da dn dc hdl w1
  rw [hdn, ← same_zero, hcs, ← hdn] at h
  exact h
 have HNM : Hid (∀ w2, Below w1.heap.size w1 w2 → Calls Tryz.prog 86 #[.slice na e.names.length nc] w2 (Says (.bool nm) w2)) := fun w2 hb => by
  rw [← hnm]
  exact rnames_any e.names (HO.out.bel hb).names HO.out.room hnl HFT.out.names
 have HN1 : Hid (∀ w2, Calls Tryz.prog 87 #[.string e.name] w2 fun e' w' => e' = .returned (.bool b1) ∧ w2 = w') := fun w2 => by
  rw [← h1]
  exact rname_any e.name HFT.out.name w2
 rw [h3] at tn1 tn2 tn3
 rw [h2] at hne
 have HKE := hid hke
 have HW2 := hid hW2
 clear hke hW2 hcs hnm h1 h2 h3 hdn d1 hk
 cases cs with
 | false =>
  go_enter Tryz.func65, Tryz.ntmps65
  go_upto_region 1 with fail
  rw [← HB.out.eq]
  go_wp2_with fail
  with_reducible refine HSC.out.mono ?_
  rintro e2 w2 ⟨rfl, hb2⟩
  have HBW : Hid (Below w1.heap.size w1 w2) := hb2
  clear hb2
  obtain ⟨y0, y1, y2, y3, y4, y5, y6, y7, ybl⟩ := HR.out.bel HBW.out
  go_wp2_with fail
  go_ret
  exact ⟨by rw [HF.out]; rfl, HB.out.below.trans (HBW.out.mono HB.out.below.size)⟩
 | true =>
  cases nm with
  | false =>
   go_enter Tryz.func65, Tryz.ntmps65
   go_upto_region 1 with fail
   rw [← HB.out.eq]
   go_wp2_with fail
   with_reducible refine HSC.out.mono ?_
   rintro e2 w2 ⟨rfl, hb2⟩
   have HBW : Hid (Below w1.heap.size w1 w2) := hb2
   clear hb2
   obtain ⟨y0, y1, y2, y3, y4, y5, y6, y7, ybl⟩ := HR.out.bel HBW.out
   go_wp2_with fail
   with_reducible refine (HNM.out _ HBW.out).mono ?_
   rintro e2 w3 ⟨rfl, hb2⟩
   have HBW : Hid (Below w1.heap.size w1 w3) := HBW.out.trans (hb2.mono HBW.out.size)
   clear hb2
   obtain ⟨y0, y1, y2, y3, y4, y5, y6, y7, ybl⟩ := HR.out.bel HBW.out
   go_wp2_with fail
   go_ret
   exact ⟨by rw [HF.out]; rfl, HB.out.below.trans (HBW.out.mono HB.out.below.size)⟩
  | true =>
   cases b1 <;> cases b2 <;> cases b3 <;> cases c1
   all_goals
    go_enter Tryz.func65, Tryz.ntmps65
    go_upto_region 1 with fail
    rw [← HB.out.eq]
    go_wp2_with fail
    with_reducible refine HSC.out.mono ?_
    rintro e2 w2 ⟨rfl, hb2⟩
    have HBW : Hid (Below w1.heap.size w1 w2) := hb2
    clear hb2
    obtain ⟨y0, y1, y2, y3, y4, y5, y6, y7, ybl⟩ := HR.out.bel HBW.out
    go_wp2_with fail
    with_reducible refine (HNM.out _ HBW.out).mono ?_
    rintro e2 w3 ⟨rfl, hb2⟩
    have HBW : Hid (Below w1.heap.size w1 w3) := HBW.out.trans (hb2.mono HBW.out.size)
    clear hb2
    obtain ⟨y0, y1, y2, y3, y4, y5, y6, y7, ybl⟩ := HR.out.bel HBW.out
    go_wp2_with fail
    with_reducible refine (HN1.out _).mono ?_
    rintro e2 v2 ⟨rfl, rfl⟩
    go_wp2_with fail
    go_ret
    exact ⟨by rw [HF.out]; rfl, HB.out.below.trans (HBW.out.mono HB.out.below.size)⟩
set_option maxHeartbeats 16000000 in
theorem rform_2 (e : Ex) {w : World} {na : Option Addr} {nc : Nat} {da : Option Addr} {dn dc : Nat} {ka : Option Addr} {kc : Nat} (hf : Fits e) (ho : Op w e na nc da dn dc ka kc) (hk : e.kind = 2) :
  Calls Tryz.prog 65 #[.agg #[.int .i64 e.kind, .string e.name, .slice na e.names.length nc, .int .i64 e.const.kind, .int .i64 e.const.int, .string e.const.text, .slice da dn dc, .slice ka e.kids.length kc]] w (Says (.bool (Ex.form e)) w) := by
 obtain ⟨w1, B1⟩ := boxedE w e na nc da dn dc ka kc
 have hdn := ho.dn
 have hR := Row.of B1.blk
 have HO := hid (ho.bel B1.below)
 have HB := hid B1
 have HR := hid hR
 have HFT := hid hf
 have hnl := hf.nl
 have hkl := hf.kl
 obtain ⟨x0, x1, x2, x3, x4, x5, x6, x7, hbl⟩ := hR
 clear B1 ho
 have hdl : dn ≤ 9223372036854775807 := by rw [hdn]; exact hf.cl
 have HDN := hid hdn
 have q0 : (e.kind == 0) = false := by rw [hk]; rfl
 have q1 : (e.kind == 1) = false := by rw [hk]; rfl
 have q2 : (e.kind == 2) = true := by rw [hk]; rfl
 obtain ⟨W, hW⟩ : ∃ W, IntKind.i64.wrap ((e.names.length : Int) + 1) = W := ⟨_, rfl⟩
 have hW2 : (e.kids.length : Int) = W ↔ e.kids.length = e.names.length + 1 := by rw [← hW, IntKind.wrap_i64]; omega
 obtain ⟨tn1, tn2, tn3⟩ := text_nil e.name
 have hne : ((e.names.length : Int) == 0) = e.names.isEmpty := by
  cases h : e.names with
  | nil => rfl
  | cons a l => rw [List.length_cons]; simp; omega
 have hke : ((e.kids.length : Int) == 0) = e.kids.isEmpty := by
  cases h : e.kids with
  | nil => rfl
  | cons a l => rw [List.length_cons]; simp; omega
 obtain ⟨cs, hcs⟩ : ∃ b, Dt.same e.const Dt.zero = b := ⟨_, rfl⟩
 obtain ⟨nm, hnm⟩ : ∃ b, Ex.namesB e.names = b := ⟨_, rfl⟩
 obtain ⟨b1, h1⟩ : ∃ b, Nm.nameB e.name = b := ⟨_, rfl⟩
 obtain ⟨b2, h2⟩ : ∃ b, e.names.isEmpty = b := ⟨_, rfl⟩
 obtain ⟨b3, h3⟩ : ∃ b, decide (e.name = ⟨#[]⟩) = b := ⟨_, rfl⟩
 obtain ⟨c1, d1⟩ : ∃ b, (decide (e.kids.length = 1) : Bool) = b := ⟨_, rfl⟩
 have HF : Hid (Ex.form e = (cs && nm && (b1 && b2 && c1))) := by
  unfold Hid Ex.form
  rw [hk]
  rw [if_neg (by decide : ¬ (2 : Int) = 0)]
  rw [if_neg (by decide : ¬ (2 : Int) = 1)]
  rw [if_pos rfl]
  rw [hcs, hnm, h1, h2, d1]
 have f0 : ((e.kids.length : Int) == 1) = c1 := by rw [← d1, Bool.eq_iff_iff]; simp; try omega
 have HSC : Hid (Calls Tryz.prog 32 #[.agg #[.int .i64 e.const.kind, .int .i64 e.const.int, .string e.const.text, .slice da dn dc], .agg #[.int .i64 0, .int .i64 0, .string ⟨#[]⟩, .slice none 0 0]] w1 (Says (.bool cs) w1)) := by
  have h := rsame_bare e.const.kind e.const.int e.const.text da dn dc hdl w1
  rw [hdn, ← same_zero, hcs, ← hdn] at h
  exact h
 have HNM : Hid (∀ w2, Below w1.heap.size w1 w2 → Calls Tryz.prog 86 #[.slice na e.names.length nc] w2 (Says (.bool nm) w2)) := fun w2 hb => by
  rw [← hnm]
  exact rnames_any e.names (HO.out.bel hb).names HO.out.room hnl HFT.out.names
 have HN1 : Hid (∀ w2, Calls Tryz.prog 87 #[.string e.name] w2 fun e' w' => e' = .returned (.bool b1) ∧ w2 = w') := fun w2 => by
  rw [← h1]
  exact rname_any e.name HFT.out.name w2
 rw [h3] at tn1 tn2 tn3
 rw [h2] at hne
 have HKE := hid hke
 have HW2 := hid hW2
 clear hke hW2 hcs hnm h1 h2 h3 hdn d1 hk
 cases cs with
 | false =>
  go_enter Tryz.func65, Tryz.ntmps65
  go_upto_region 1 with fail
  rw [← HB.out.eq]
  go_wp2_with fail
  with_reducible refine HSC.out.mono ?_
  rintro e2 w2 ⟨rfl, hb2⟩
  have HBW : Hid (Below w1.heap.size w1 w2) := hb2
  clear hb2
  obtain ⟨y0, y1, y2, y3, y4, y5, y6, y7, ybl⟩ := HR.out.bel HBW.out
  go_wp2_with fail
  go_ret
  exact ⟨by rw [HF.out]; rfl, HB.out.below.trans (HBW.out.mono HB.out.below.size)⟩
 | true =>
  cases nm with
  | false =>
   go_enter Tryz.func65, Tryz.ntmps65
   go_upto_region 1 with fail
   rw [← HB.out.eq]
   go_wp2_with fail
   with_reducible refine HSC.out.mono ?_
   rintro e2 w2 ⟨rfl, hb2⟩
   have HBW : Hid (Below w1.heap.size w1 w2) := hb2
   clear hb2
   obtain ⟨y0, y1, y2, y3, y4, y5, y6, y7, ybl⟩ := HR.out.bel HBW.out
   go_wp2_with fail
   with_reducible refine (HNM.out _ HBW.out).mono ?_
   rintro e2 w3 ⟨rfl, hb2⟩
   have HBW : Hid (Below w1.heap.size w1 w3) := HBW.out.trans (hb2.mono HBW.out.size)
   clear hb2
   obtain ⟨y0, y1, y2, y3, y4, y5, y6, y7, ybl⟩ := HR.out.bel HBW.out
   go_wp2_with fail
   go_ret
   exact ⟨by rw [HF.out]; rfl, HB.out.below.trans (HBW.out.mono HB.out.below.size)⟩
  | true =>
   cases b1 <;> cases b2 <;> cases b3 <;> cases c1
   all_goals
    go_enter Tryz.func65, Tryz.ntmps65
    go_upto_region 1 with fail
    rw [← HB.out.eq]
    go_wp2_with fail
    with_reducible refine HSC.out.mono ?_
    rintro e2 w2 ⟨rfl, hb2⟩
    have HBW : Hid (Below w1.heap.size w1 w2) := hb2
    clear hb2
    obtain ⟨y0, y1, y2, y3, y4, y5, y6, y7, ybl⟩ := HR.out.bel HBW.out
    go_wp2_with fail
    with_reducible refine (HNM.out _ HBW.out).mono ?_
    rintro e2 w3 ⟨rfl, hb2⟩
    have HBW : Hid (Below w1.heap.size w1 w3) := HBW.out.trans (hb2.mono HBW.out.size)
    clear hb2
    obtain ⟨y0, y1, y2, y3, y4, y5, y6, y7, ybl⟩ := HR.out.bel HBW.out
    go_wp2_with fail
    with_reducible refine (HN1.out _).mono ?_
    rintro e2 v2 ⟨rfl, rfl⟩
    go_wp2_with fail
    go_ret
    exact ⟨by rw [HF.out]; rfl, HB.out.below.trans (HBW.out.mono HB.out.below.size)⟩
set_option maxHeartbeats 16000000 in
theorem rform_3 (e : Ex) {w : World} {na : Option Addr} {nc : Nat} {da : Option Addr} {dn dc : Nat} {ka : Option Addr} {kc : Nat} (hf : Fits e) (ho : Op w e na nc da dn dc ka kc) (hk : e.kind = 3) :
  Calls Tryz.prog 65 #[.agg #[.int .i64 e.kind, .string e.name, .slice na e.names.length nc, .int .i64 e.const.kind, .int .i64 e.const.int, .string e.const.text, .slice da dn dc, .slice ka e.kids.length kc]] w (Says (.bool (Ex.form e)) w) := by
 obtain ⟨w1, B1⟩ := boxedE w e na nc da dn dc ka kc
 have hdn := ho.dn
 have hR := Row.of B1.blk
 have HO := hid (ho.bel B1.below)
 have HB := hid B1
 have HR := hid hR
 have HFT := hid hf
 have hnl := hf.nl
 have hkl := hf.kl
 obtain ⟨x0, x1, x2, x3, x4, x5, x6, x7, hbl⟩ := hR
 clear B1 ho
 have hdl : dn ≤ 9223372036854775807 := by rw [hdn]; exact hf.cl
 have HDN := hid hdn
 have q0 : (e.kind == 0) = false := by rw [hk]; rfl
 have q1 : (e.kind == 1) = false := by rw [hk]; rfl
 have q2 : (e.kind == 2) = false := by rw [hk]; rfl
 have q3 : (e.kind == 3) = true := by rw [hk]; rfl
 obtain ⟨W, hW⟩ : ∃ W, IntKind.i64.wrap ((e.names.length : Int) + 1) = W := ⟨_, rfl⟩
 have hW2 : (e.kids.length : Int) = W ↔ e.kids.length = e.names.length + 1 := by rw [← hW, IntKind.wrap_i64]; omega
 obtain ⟨tn1, tn2, tn3⟩ := text_nil e.name
 have hne : ((e.names.length : Int) == 0) = e.names.isEmpty := by
  cases h : e.names with
  | nil => rfl
  | cons a l => rw [List.length_cons]; simp; omega
 have hke : ((e.kids.length : Int) == 0) = e.kids.isEmpty := by
  cases h : e.kids with
  | nil => rfl
  | cons a l => rw [List.length_cons]; simp; omega
 obtain ⟨cs, hcs⟩ : ∃ b, Dt.same e.const Dt.zero = b := ⟨_, rfl⟩
 obtain ⟨nm, hnm⟩ : ∃ b, Ex.namesB e.names = b := ⟨_, rfl⟩
 obtain ⟨b1, h1⟩ : ∃ b, Nm.nameB e.name = b := ⟨_, rfl⟩
 obtain ⟨b2, h2⟩ : ∃ b, e.names.isEmpty = b := ⟨_, rfl⟩
 obtain ⟨b3, h3⟩ : ∃ b, decide (e.name = ⟨#[]⟩) = b := ⟨_, rfl⟩
 obtain ⟨c1, d1⟩ : ∃ b, (decide (e.kids.length = 3) : Bool) = b := ⟨_, rfl⟩
 have HF : Hid (Ex.form e = (cs && nm && (b3 && b2 && c1))) := by
  unfold Hid Ex.form
  rw [hk]
  rw [if_neg (by decide : ¬ (3 : Int) = 0)]
  rw [if_neg (by decide : ¬ (3 : Int) = 1)]
  rw [if_neg (by decide : ¬ (3 : Int) = 2)]
  rw [if_pos rfl]
  rw [hcs, hnm, h3, h2, d1]
 have f0 : ((e.kids.length : Int) == 3) = c1 := by rw [← d1, Bool.eq_iff_iff]; simp; try omega
 have HSC : Hid (Calls Tryz.prog 32 #[.agg #[.int .i64 e.const.kind, .int .i64 e.const.int, .string e.const.text, .slice da dn dc], .agg #[.int .i64 0, .int .i64 0, .string ⟨#[]⟩, .slice none 0 0]] w1 (Says (.bool cs) w1)) := by
  have h := rsame_bare e.const.kind e.const.int e.const.text da dn dc hdl w1
  rw [hdn, ← same_zero, hcs, ← hdn] at h
  exact h
 have HNM : Hid (∀ w2, Below w1.heap.size w1 w2 → Calls Tryz.prog 86 #[.slice na e.names.length nc] w2 (Says (.bool nm) w2)) := fun w2 hb => by
  rw [← hnm]
  exact rnames_any e.names (HO.out.bel hb).names HO.out.room hnl HFT.out.names
 have HN1 : Hid (∀ w2, Calls Tryz.prog 87 #[.string e.name] w2 fun e' w' => e' = .returned (.bool b1) ∧ w2 = w') := fun w2 => by
  rw [← h1]
  exact rname_any e.name HFT.out.name w2
 rw [h3] at tn1 tn2 tn3
 rw [h2] at hne
 have HKE := hid hke
 have HW2 := hid hW2
 clear hke hW2 hcs hnm h1 h2 h3 hdn d1 hk
 cases cs with
 | false =>
  go_enter Tryz.func65, Tryz.ntmps65
  go_upto_region 1 with fail
  rw [← HB.out.eq]
  go_wp2_with fail
  with_reducible refine HSC.out.mono ?_
  rintro e2 w2 ⟨rfl, hb2⟩
  have HBW : Hid (Below w1.heap.size w1 w2) := hb2
  clear hb2
  obtain ⟨y0, y1, y2, y3, y4, y5, y6, y7, ybl⟩ := HR.out.bel HBW.out
  go_wp2_with fail
  go_ret
  exact ⟨by rw [HF.out]; rfl, HB.out.below.trans (HBW.out.mono HB.out.below.size)⟩
 | true =>
  cases nm with
  | false =>
   go_enter Tryz.func65, Tryz.ntmps65
   go_upto_region 1 with fail
   rw [← HB.out.eq]
   go_wp2_with fail
   with_reducible refine HSC.out.mono ?_
   rintro e2 w2 ⟨rfl, hb2⟩
   have HBW : Hid (Below w1.heap.size w1 w2) := hb2
   clear hb2
   obtain ⟨y0, y1, y2, y3, y4, y5, y6, y7, ybl⟩ := HR.out.bel HBW.out
   go_wp2_with fail
   with_reducible refine (HNM.out _ HBW.out).mono ?_
   rintro e2 w3 ⟨rfl, hb2⟩
   have HBW : Hid (Below w1.heap.size w1 w3) := HBW.out.trans (hb2.mono HBW.out.size)
   clear hb2
   obtain ⟨y0, y1, y2, y3, y4, y5, y6, y7, ybl⟩ := HR.out.bel HBW.out
   go_wp2_with fail
   go_ret
   exact ⟨by rw [HF.out]; rfl, HB.out.below.trans (HBW.out.mono HB.out.below.size)⟩
  | true =>
   cases b1 <;> cases b2 <;> cases b3 <;> cases c1
   all_goals
    go_enter Tryz.func65, Tryz.ntmps65
    go_upto_region 1 with fail
    rw [← HB.out.eq]
    go_wp2_with fail
    with_reducible refine HSC.out.mono ?_
    rintro e2 w2 ⟨rfl, hb2⟩
    have HBW : Hid (Below w1.heap.size w1 w2) := hb2
    clear hb2
    obtain ⟨y0, y1, y2, y3, y4, y5, y6, y7, ybl⟩ := HR.out.bel HBW.out
    go_wp2_with fail
    with_reducible refine (HNM.out _ HBW.out).mono ?_
    rintro e2 w3 ⟨rfl, hb2⟩
    have HBW : Hid (Below w1.heap.size w1 w3) := HBW.out.trans (hb2.mono HBW.out.size)
    clear hb2
    obtain ⟨y0, y1, y2, y3, y4, y5, y6, y7, ybl⟩ := HR.out.bel HBW.out
    go_wp2_with fail
    with_reducible refine (HN1.out _).mono ?_
    rintro e2 v2 ⟨rfl, rfl⟩
    go_wp2_with fail
    go_ret
    exact ⟨by rw [HF.out]; rfl, HB.out.below.trans (HBW.out.mono HB.out.below.size)⟩
set_option maxHeartbeats 16000000 in
theorem rform_4 (e : Ex) {w : World} {na : Option Addr} {nc : Nat} {da : Option Addr} {dn dc : Nat} {ka : Option Addr} {kc : Nat} (hf : Fits e) (ho : Op w e na nc da dn dc ka kc) (hk : e.kind = 4) :
  Calls Tryz.prog 65 #[.agg #[.int .i64 e.kind, .string e.name, .slice na e.names.length nc, .int .i64 e.const.kind, .int .i64 e.const.int, .string e.const.text, .slice da dn dc, .slice ka e.kids.length kc]] w (Says (.bool (Ex.form e)) w) := by
 obtain ⟨w1, B1⟩ := boxedE w e na nc da dn dc ka kc
 have hdn := ho.dn
 have hR := Row.of B1.blk
 have HO := hid (ho.bel B1.below)
 have HB := hid B1
 have HR := hid hR
 have HFT := hid hf
 have hnl := hf.nl
 have hkl := hf.kl
 obtain ⟨x0, x1, x2, x3, x4, x5, x6, x7, hbl⟩ := hR
 clear B1 ho
 have hdl : dn ≤ 9223372036854775807 := by rw [hdn]; exact hf.cl
 have HDN := hid hdn
 have q0 : (e.kind == 0) = false := by rw [hk]; rfl
 have q1 : (e.kind == 1) = false := by rw [hk]; rfl
 have q2 : (e.kind == 2) = false := by rw [hk]; rfl
 have q3 : (e.kind == 3) = false := by rw [hk]; rfl
 have q4 : (e.kind == 4) = true := by rw [hk]; rfl
 obtain ⟨W, hW⟩ : ∃ W, IntKind.i64.wrap ((e.names.length : Int) + 1) = W := ⟨_, rfl⟩
 have hW2 : (e.kids.length : Int) = W ↔ e.kids.length = e.names.length + 1 := by rw [← hW, IntKind.wrap_i64]; omega
 obtain ⟨tn1, tn2, tn3⟩ := text_nil e.name
 have hne : ((e.names.length : Int) == 0) = e.names.isEmpty := by
  cases h : e.names with
  | nil => rfl
  | cons a l => rw [List.length_cons]; simp; omega
 have hke : ((e.kids.length : Int) == 0) = e.kids.isEmpty := by
  cases h : e.kids with
  | nil => rfl
  | cons a l => rw [List.length_cons]; simp; omega
 obtain ⟨cs, hcs⟩ : ∃ b, Dt.same e.const Dt.zero = b := ⟨_, rfl⟩
 obtain ⟨nm, hnm⟩ : ∃ b, Ex.namesB e.names = b := ⟨_, rfl⟩
 obtain ⟨b1, h1⟩ : ∃ b, Nm.nameB e.name = b := ⟨_, rfl⟩
 obtain ⟨b2, h2⟩ : ∃ b, e.names.isEmpty = b := ⟨_, rfl⟩
 obtain ⟨b3, h3⟩ : ∃ b, decide (e.name = ⟨#[]⟩) = b := ⟨_, rfl⟩
 obtain ⟨c1, d1⟩ : ∃ b, (decide (2 ≤ e.kids.length) : Bool) = b := ⟨_, rfl⟩
 have HF : Hid (Ex.form e = (cs && nm && (b3 && b2 && c1))) := by
  unfold Hid Ex.form
  rw [hk]
  rw [if_neg (by decide : ¬ (4 : Int) = 0)]
  rw [if_neg (by decide : ¬ (4 : Int) = 1)]
  rw [if_neg (by decide : ¬ (4 : Int) = 2)]
  rw [if_neg (by decide : ¬ (4 : Int) = 3)]
  rw [if_pos rfl]
  rw [hcs, hnm, h3, h2, d1]
 have f0 : decide ((2 : Int) ≤ (e.kids.length : Int)) = c1 := by rw [← d1, Bool.eq_iff_iff]; simp; try omega
 have f1 : decide (2 ≤ e.kids.length) = c1 := by exact d1
 have HSC : Hid (Calls Tryz.prog 32 #[.agg #[.int .i64 e.const.kind, .int .i64 e.const.int, .string e.const.text, .slice da dn dc], .agg #[.int .i64 0, .int .i64 0, .string ⟨#[]⟩, .slice none 0 0]] w1 (Says (.bool cs) w1)) := by
  have h := rsame_bare e.const.kind e.const.int e.const.text da dn dc hdl w1
  rw [hdn, ← same_zero, hcs, ← hdn] at h
  exact h
 have HNM : Hid (∀ w2, Below w1.heap.size w1 w2 → Calls Tryz.prog 86 #[.slice na e.names.length nc] w2 (Says (.bool nm) w2)) := fun w2 hb => by
  rw [← hnm]
  exact rnames_any e.names (HO.out.bel hb).names HO.out.room hnl HFT.out.names
 have HN1 : Hid (∀ w2, Calls Tryz.prog 87 #[.string e.name] w2 fun e' w' => e' = .returned (.bool b1) ∧ w2 = w') := fun w2 => by
  rw [← h1]
  exact rname_any e.name HFT.out.name w2
 rw [h3] at tn1 tn2 tn3
 rw [h2] at hne
 have HKE := hid hke
 have HW2 := hid hW2
 clear hke hW2 hcs hnm h1 h2 h3 hdn d1 hk
 cases cs with
 | false =>
  go_enter Tryz.func65, Tryz.ntmps65
  go_upto_region 1 with fail
  rw [← HB.out.eq]
  go_wp2_with fail
  with_reducible refine HSC.out.mono ?_
  rintro e2 w2 ⟨rfl, hb2⟩
  have HBW : Hid (Below w1.heap.size w1 w2) := hb2
  clear hb2
  obtain ⟨y0, y1, y2, y3, y4, y5, y6, y7, ybl⟩ := HR.out.bel HBW.out
  go_wp2_with fail
  go_ret
  exact ⟨by rw [HF.out]; rfl, HB.out.below.trans (HBW.out.mono HB.out.below.size)⟩
 | true =>
  cases nm with
  | false =>
   go_enter Tryz.func65, Tryz.ntmps65
   go_upto_region 1 with fail
   rw [← HB.out.eq]
   go_wp2_with fail
   with_reducible refine HSC.out.mono ?_
   rintro e2 w2 ⟨rfl, hb2⟩
   have HBW : Hid (Below w1.heap.size w1 w2) := hb2
   clear hb2
   obtain ⟨y0, y1, y2, y3, y4, y5, y6, y7, ybl⟩ := HR.out.bel HBW.out
   go_wp2_with fail
   with_reducible refine (HNM.out _ HBW.out).mono ?_
   rintro e2 w3 ⟨rfl, hb2⟩
   have HBW : Hid (Below w1.heap.size w1 w3) := HBW.out.trans (hb2.mono HBW.out.size)
   clear hb2
   obtain ⟨y0, y1, y2, y3, y4, y5, y6, y7, ybl⟩ := HR.out.bel HBW.out
   go_wp2_with fail
   go_ret
   exact ⟨by rw [HF.out]; rfl, HB.out.below.trans (HBW.out.mono HB.out.below.size)⟩
  | true =>
   cases b1 <;> cases b2 <;> cases b3 <;> cases c1
   all_goals
    go_enter Tryz.func65, Tryz.ntmps65
    go_upto_region 1 with fail
    rw [← HB.out.eq]
    go_wp2_with fail
    with_reducible refine HSC.out.mono ?_
    rintro e2 w2 ⟨rfl, hb2⟩
    have HBW : Hid (Below w1.heap.size w1 w2) := hb2
    clear hb2
    obtain ⟨y0, y1, y2, y3, y4, y5, y6, y7, ybl⟩ := HR.out.bel HBW.out
    go_wp2_with fail
    with_reducible refine (HNM.out _ HBW.out).mono ?_
    rintro e2 w3 ⟨rfl, hb2⟩
    have HBW : Hid (Below w1.heap.size w1 w3) := HBW.out.trans (hb2.mono HBW.out.size)
    clear hb2
    obtain ⟨y0, y1, y2, y3, y4, y5, y6, y7, ybl⟩ := HR.out.bel HBW.out
    go_wp2_with fail
    with_reducible refine (HN1.out _).mono ?_
    rintro e2 v2 ⟨rfl, rfl⟩
    go_wp2_with fail
    go_ret
    exact ⟨by rw [HF.out]; rfl, HB.out.below.trans (HBW.out.mono HB.out.below.size)⟩
set_option maxHeartbeats 16000000 in
theorem rform_5 (e : Ex) {w : World} {na : Option Addr} {nc : Nat} {da : Option Addr} {dn dc : Nat} {ka : Option Addr} {kc : Nat} (hf : Fits e) (ho : Op w e na nc da dn dc ka kc) (hk : e.kind = 5) :
  Calls Tryz.prog 65 #[.agg #[.int .i64 e.kind, .string e.name, .slice na e.names.length nc, .int .i64 e.const.kind, .int .i64 e.const.int, .string e.const.text, .slice da dn dc, .slice ka e.kids.length kc]] w (Says (.bool (Ex.form e)) w) := by
 obtain ⟨w1, B1⟩ := boxedE w e na nc da dn dc ka kc
 have hdn := ho.dn
 have hR := Row.of B1.blk
 have HO := hid (ho.bel B1.below)
 have HB := hid B1
 have HR := hid hR
 have HFT := hid hf
 have hnl := hf.nl
 have hkl := hf.kl
 obtain ⟨x0, x1, x2, x3, x4, x5, x6, x7, hbl⟩ := hR
 clear B1 ho
 have hdl : dn ≤ 9223372036854775807 := by rw [hdn]; exact hf.cl
 have HDN := hid hdn
 have q0 : (e.kind == 0) = false := by rw [hk]; rfl
 have q1 : (e.kind == 1) = false := by rw [hk]; rfl
 have q2 : (e.kind == 2) = false := by rw [hk]; rfl
 have q3 : (e.kind == 3) = false := by rw [hk]; rfl
 have q4 : (e.kind == 4) = false := by rw [hk]; rfl
 have q5 : (e.kind == 5) = true := by rw [hk]; rfl
 obtain ⟨W, hW⟩ : ∃ W, IntKind.i64.wrap ((e.names.length : Int) + 1) = W := ⟨_, rfl⟩
 have hW2 : (e.kids.length : Int) = W ↔ e.kids.length = e.names.length + 1 := by rw [← hW, IntKind.wrap_i64]; omega
 obtain ⟨tn1, tn2, tn3⟩ := text_nil e.name
 have hne : ((e.names.length : Int) == 0) = e.names.isEmpty := by
  cases h : e.names with
  | nil => rfl
  | cons a l => rw [List.length_cons]; simp; omega
 have hke : ((e.kids.length : Int) == 0) = e.kids.isEmpty := by
  cases h : e.kids with
  | nil => rfl
  | cons a l => rw [List.length_cons]; simp; omega
 obtain ⟨cs, hcs⟩ : ∃ b, Dt.same e.const Dt.zero = b := ⟨_, rfl⟩
 obtain ⟨nm, hnm⟩ : ∃ b, Ex.namesB e.names = b := ⟨_, rfl⟩
 obtain ⟨b1, h1⟩ : ∃ b, Nm.nameB e.name = b := ⟨_, rfl⟩
 obtain ⟨b2, h2⟩ : ∃ b, e.names.isEmpty = b := ⟨_, rfl⟩
 obtain ⟨b3, h3⟩ : ∃ b, decide (e.name = ⟨#[]⟩) = b := ⟨_, rfl⟩
 obtain ⟨c1, d1⟩ : ∃ b, (decide (e.names.length ≤ 6) : Bool) = b := ⟨_, rfl⟩
 obtain ⟨c2, d2⟩ : ∃ b, (decide (e.kids.length = 1) : Bool) = b := ⟨_, rfl⟩
 have HF : Hid (Ex.form e = (cs && nm && (b3 && c1 && c2))) := by
  unfold Hid Ex.form
  rw [hk]
  rw [if_neg (by decide : ¬ (5 : Int) = 0)]
  rw [if_neg (by decide : ¬ (5 : Int) = 1)]
  rw [if_neg (by decide : ¬ (5 : Int) = 2)]
  rw [if_neg (by decide : ¬ (5 : Int) = 3)]
  rw [if_neg (by decide : ¬ (5 : Int) = 4)]
  rw [if_pos rfl]
  rw [hcs, hnm, h3, d1, d2]
 have f0 : decide ((e.names.length : Int) ≤ 6) = c1 := by rw [← d1, Bool.eq_iff_iff]; simp; try omega
 have f1 : ((e.kids.length : Int) == 1) = c2 := by rw [← d2, Bool.eq_iff_iff]; simp; try omega
 have HSC : Hid (Calls Tryz.prog 32 #[.agg #[.int .i64 e.const.kind, .int .i64 e.const.int, .string e.const.text, .slice da dn dc], .agg #[.int .i64 0, .int .i64 0, .string ⟨#[]⟩, .slice none 0 0]] w1 (Says (.bool cs) w1)) := by
  have h := rsame_bare e.const.kind e.const.int e.const.text da dn dc hdl w1
  rw [hdn, ← same_zero, hcs, ← hdn] at h
  exact h
 have HNM : Hid (∀ w2, Below w1.heap.size w1 w2 → Calls Tryz.prog 86 #[.slice na e.names.length nc] w2 (Says (.bool nm) w2)) := fun w2 hb => by
  rw [← hnm]
  exact rnames_any e.names (HO.out.bel hb).names HO.out.room hnl HFT.out.names
 have HN1 : Hid (∀ w2, Calls Tryz.prog 87 #[.string e.name] w2 fun e' w' => e' = .returned (.bool b1) ∧ w2 = w') := fun w2 => by
  rw [← h1]
  exact rname_any e.name HFT.out.name w2
 rw [h3] at tn1 tn2 tn3
 rw [h2] at hne
 have HKE := hid hke
 have HW2 := hid hW2
 clear hke hW2 hcs hnm h1 h2 h3 hdn d1 d2 hk
 cases cs with
 | false =>
  go_enter Tryz.func65, Tryz.ntmps65
  go_upto_region 1 with fail
  rw [← HB.out.eq]
  go_wp2_with fail
  with_reducible refine HSC.out.mono ?_
  rintro e2 w2 ⟨rfl, hb2⟩
  have HBW : Hid (Below w1.heap.size w1 w2) := hb2
  clear hb2
  obtain ⟨y0, y1, y2, y3, y4, y5, y6, y7, ybl⟩ := HR.out.bel HBW.out
  go_wp2_with fail
  go_ret
  exact ⟨by rw [HF.out]; rfl, HB.out.below.trans (HBW.out.mono HB.out.below.size)⟩
 | true =>
  cases nm with
  | false =>
   go_enter Tryz.func65, Tryz.ntmps65
   go_upto_region 1 with fail
   rw [← HB.out.eq]
   go_wp2_with fail
   with_reducible refine HSC.out.mono ?_
   rintro e2 w2 ⟨rfl, hb2⟩
   have HBW : Hid (Below w1.heap.size w1 w2) := hb2
   clear hb2
   obtain ⟨y0, y1, y2, y3, y4, y5, y6, y7, ybl⟩ := HR.out.bel HBW.out
   go_wp2_with fail
   with_reducible refine (HNM.out _ HBW.out).mono ?_
   rintro e2 w3 ⟨rfl, hb2⟩
   have HBW : Hid (Below w1.heap.size w1 w3) := HBW.out.trans (hb2.mono HBW.out.size)
   clear hb2
   obtain ⟨y0, y1, y2, y3, y4, y5, y6, y7, ybl⟩ := HR.out.bel HBW.out
   go_wp2_with fail
   go_ret
   exact ⟨by rw [HF.out]; rfl, HB.out.below.trans (HBW.out.mono HB.out.below.size)⟩
  | true =>
   cases b1 <;> cases b2 <;> cases b3 <;> cases c1 <;> cases c2
   all_goals
    go_enter Tryz.func65, Tryz.ntmps65
    go_upto_region 1 with fail
    rw [← HB.out.eq]
    go_wp2_with fail
    with_reducible refine HSC.out.mono ?_
    rintro e2 w2 ⟨rfl, hb2⟩
    have HBW : Hid (Below w1.heap.size w1 w2) := hb2
    clear hb2
    obtain ⟨y0, y1, y2, y3, y4, y5, y6, y7, ybl⟩ := HR.out.bel HBW.out
    go_wp2_with fail
    with_reducible refine (HNM.out _ HBW.out).mono ?_
    rintro e2 w3 ⟨rfl, hb2⟩
    have HBW : Hid (Below w1.heap.size w1 w3) := HBW.out.trans (hb2.mono HBW.out.size)
    clear hb2
    obtain ⟨y0, y1, y2, y3, y4, y5, y6, y7, ybl⟩ := HR.out.bel HBW.out
    go_wp2_with fail
    with_reducible refine (HN1.out _).mono ?_
    rintro e2 v2 ⟨rfl, rfl⟩
    go_wp2_with fail
    go_ret
    exact ⟨by rw [HF.out]; rfl, HB.out.below.trans (HBW.out.mono HB.out.below.size)⟩
set_option maxHeartbeats 16000000 in
theorem rform_6 (e : Ex) {w : World} {na : Option Addr} {nc : Nat} {da : Option Addr} {dn dc : Nat} {ka : Option Addr} {kc : Nat} (hf : Fits e) (ho : Op w e na nc da dn dc ka kc) (hk : e.kind = 6) :
  Calls Tryz.prog 65 #[.agg #[.int .i64 e.kind, .string e.name, .slice na e.names.length nc, .int .i64 e.const.kind, .int .i64 e.const.int, .string e.const.text, .slice da dn dc, .slice ka e.kids.length kc]] w (Says (.bool (Ex.form e)) w) := by
 obtain ⟨w1, B1⟩ := boxedE w e na nc da dn dc ka kc
 have hdn := ho.dn
 have hR := Row.of B1.blk
 have HO := hid (ho.bel B1.below)
 have HB := hid B1
 have HR := hid hR
 have HFT := hid hf
 have hnl := hf.nl
 have hkl := hf.kl
 obtain ⟨x0, x1, x2, x3, x4, x5, x6, x7, hbl⟩ := hR
 clear B1 ho
 have hdl : dn ≤ 9223372036854775807 := by rw [hdn]; exact hf.cl
 have HDN := hid hdn
 have q0 : (e.kind == 0) = false := by rw [hk]; rfl
 have q1 : (e.kind == 1) = false := by rw [hk]; rfl
 have q2 : (e.kind == 2) = false := by rw [hk]; rfl
 have q3 : (e.kind == 3) = false := by rw [hk]; rfl
 have q4 : (e.kind == 4) = false := by rw [hk]; rfl
 have q5 : (e.kind == 5) = false := by rw [hk]; rfl
 have q6 : (e.kind == 6) = true := by rw [hk]; rfl
 obtain ⟨W, hW⟩ : ∃ W, IntKind.i64.wrap ((e.names.length : Int) + 1) = W := ⟨_, rfl⟩
 have hW2 : (e.kids.length : Int) = W ↔ e.kids.length = e.names.length + 1 := by rw [← hW, IntKind.wrap_i64]; omega
 obtain ⟨tn1, tn2, tn3⟩ := text_nil e.name
 have hne : ((e.names.length : Int) == 0) = e.names.isEmpty := by
  cases h : e.names with
  | nil => rfl
  | cons a l => rw [List.length_cons]; simp; omega
 have hke : ((e.kids.length : Int) == 0) = e.kids.isEmpty := by
  cases h : e.kids with
  | nil => rfl
  | cons a l => rw [List.length_cons]; simp; omega
 obtain ⟨cs, hcs⟩ : ∃ b, Dt.same e.const Dt.zero = b := ⟨_, rfl⟩
 obtain ⟨nm, hnm⟩ : ∃ b, Ex.namesB e.names = b := ⟨_, rfl⟩
 obtain ⟨b1, h1⟩ : ∃ b, Nm.nameB e.name = b := ⟨_, rfl⟩
 obtain ⟨b2, h2⟩ : ∃ b, e.names.isEmpty = b := ⟨_, rfl⟩
 obtain ⟨b3, h3⟩ : ∃ b, decide (e.name = ⟨#[]⟩) = b := ⟨_, rfl⟩
 obtain ⟨c1, d1⟩ : ∃ b, (decide (1 ≤ e.kids.length) : Bool) = b := ⟨_, rfl⟩
 obtain ⟨c2, d2⟩ : ∃ b, (decide (e.kids.length ≤ 7) : Bool) = b := ⟨_, rfl⟩
 have HF : Hid (Ex.form e = (cs && nm && (b3 && b2 && c1 && c2))) := by
  unfold Hid Ex.form
  rw [hk]
  rw [if_neg (by decide : ¬ (6 : Int) = 0)]
  rw [if_neg (by decide : ¬ (6 : Int) = 1)]
  rw [if_neg (by decide : ¬ (6 : Int) = 2)]
  rw [if_neg (by decide : ¬ (6 : Int) = 3)]
  rw [if_neg (by decide : ¬ (6 : Int) = 4)]
  rw [if_neg (by decide : ¬ (6 : Int) = 5)]
  rw [if_pos rfl]
  rw [hcs, hnm, h3, h2, d1, d2]
 have f0 : decide ((1 : Int) ≤ (e.kids.length : Int)) = c1 := by rw [← d1, Bool.eq_iff_iff]; simp; try omega
 have f1 : decide (1 ≤ e.kids.length) = c1 := by exact d1
 have f2 : decide ((e.kids.length : Int) ≤ 7) = c2 := by rw [← d2, Bool.eq_iff_iff]; simp; try omega
 have HSC : Hid (Calls Tryz.prog 32 #[.agg #[.int .i64 e.const.kind, .int .i64 e.const.int, .string e.const.text, .slice da dn dc], .agg #[.int .i64 0, .int .i64 0, .string ⟨#[]⟩, .slice none 0 0]] w1 (Says (.bool cs) w1)) := by
  have h := rsame_bare e.const.kind e.const.int e.const.text da dn dc hdl w1
  rw [hdn, ← same_zero, hcs, ← hdn] at h
  exact h
 have HNM : Hid (∀ w2, Below w1.heap.size w1 w2 → Calls Tryz.prog 86 #[.slice na e.names.length nc] w2 (Says (.bool nm) w2)) := fun w2 hb => by
  rw [← hnm]
  exact rnames_any e.names (HO.out.bel hb).names HO.out.room hnl HFT.out.names
 have HN1 : Hid (∀ w2, Calls Tryz.prog 87 #[.string e.name] w2 fun e' w' => e' = .returned (.bool b1) ∧ w2 = w') := fun w2 => by
  rw [← h1]
  exact rname_any e.name HFT.out.name w2
 rw [h3] at tn1 tn2 tn3
 rw [h2] at hne
 have HKE := hid hke
 have HW2 := hid hW2
 clear hke hW2 hcs hnm h1 h2 h3 hdn d1 d2 hk
 cases cs with
 | false =>
  go_enter Tryz.func65, Tryz.ntmps65
  go_upto_region 1 with fail
  rw [← HB.out.eq]
  go_wp2_with fail
  with_reducible refine HSC.out.mono ?_
  rintro e2 w2 ⟨rfl, hb2⟩
  have HBW : Hid (Below w1.heap.size w1 w2) := hb2
  clear hb2
  obtain ⟨y0, y1, y2, y3, y4, y5, y6, y7, ybl⟩ := HR.out.bel HBW.out
  go_wp2_with fail
  go_ret
  exact ⟨by rw [HF.out]; rfl, HB.out.below.trans (HBW.out.mono HB.out.below.size)⟩
 | true =>
  cases nm with
  | false =>
   go_enter Tryz.func65, Tryz.ntmps65
   go_upto_region 1 with fail
   rw [← HB.out.eq]
   go_wp2_with fail
   with_reducible refine HSC.out.mono ?_
   rintro e2 w2 ⟨rfl, hb2⟩
   have HBW : Hid (Below w1.heap.size w1 w2) := hb2
   clear hb2
   obtain ⟨y0, y1, y2, y3, y4, y5, y6, y7, ybl⟩ := HR.out.bel HBW.out
   go_wp2_with fail
   with_reducible refine (HNM.out _ HBW.out).mono ?_
   rintro e2 w3 ⟨rfl, hb2⟩
   have HBW : Hid (Below w1.heap.size w1 w3) := HBW.out.trans (hb2.mono HBW.out.size)
   clear hb2
   obtain ⟨y0, y1, y2, y3, y4, y5, y6, y7, ybl⟩ := HR.out.bel HBW.out
   go_wp2_with fail
   go_ret
   exact ⟨by rw [HF.out]; rfl, HB.out.below.trans (HBW.out.mono HB.out.below.size)⟩
  | true =>
   cases b1 <;> cases b2 <;> cases b3 <;> cases c1 <;> cases c2
   all_goals
    go_enter Tryz.func65, Tryz.ntmps65
    go_upto_region 1 with fail
    rw [← HB.out.eq]
    go_wp2_with fail
    with_reducible refine HSC.out.mono ?_
    rintro e2 w2 ⟨rfl, hb2⟩
    have HBW : Hid (Below w1.heap.size w1 w2) := hb2
    clear hb2
    obtain ⟨y0, y1, y2, y3, y4, y5, y6, y7, ybl⟩ := HR.out.bel HBW.out
    go_wp2_with fail
    with_reducible refine (HNM.out _ HBW.out).mono ?_
    rintro e2 w3 ⟨rfl, hb2⟩
    have HBW : Hid (Below w1.heap.size w1 w3) := HBW.out.trans (hb2.mono HBW.out.size)
    clear hb2
    obtain ⟨y0, y1, y2, y3, y4, y5, y6, y7, ybl⟩ := HR.out.bel HBW.out
    go_wp2_with fail
    with_reducible refine (HN1.out _).mono ?_
    rintro e2 v2 ⟨rfl, rfl⟩
    go_wp2_with fail
    go_ret
    exact ⟨by rw [HF.out]; rfl, HB.out.below.trans (HBW.out.mono HB.out.below.size)⟩
set_option maxHeartbeats 16000000 in
theorem rform_7 (e : Ex) {w : World} {na : Option Addr} {nc : Nat} {da : Option Addr} {dn dc : Nat} {ka : Option Addr} {kc : Nat} (hf : Fits e) (ho : Op w e na nc da dn dc ka kc) (hk : e.kind = 7) :
  Calls Tryz.prog 65 #[.agg #[.int .i64 e.kind, .string e.name, .slice na e.names.length nc, .int .i64 e.const.kind, .int .i64 e.const.int, .string e.const.text, .slice da dn dc, .slice ka e.kids.length kc]] w (Says (.bool (Ex.form e)) w) := by
 obtain ⟨w1, B1⟩ := boxedE w e na nc da dn dc ka kc
 have hdn := ho.dn
 have hR := Row.of B1.blk
 have HO := hid (ho.bel B1.below)
 have HB := hid B1
 have HR := hid hR
 have HFT := hid hf
 have hnl := hf.nl
 have hkl := hf.kl
 obtain ⟨x0, x1, x2, x3, x4, x5, x6, x7, hbl⟩ := hR
 clear B1 ho
 have hdl : dn ≤ 9223372036854775807 := by rw [hdn]; exact hf.cl
 have HDN := hid hdn
 have q0 : (e.kind == 0) = false := by rw [hk]; rfl
 have q1 : (e.kind == 1) = false := by rw [hk]; rfl
 have q2 : (e.kind == 2) = false := by rw [hk]; rfl
 have q3 : (e.kind == 3) = false := by rw [hk]; rfl
 have q4 : (e.kind == 4) = false := by rw [hk]; rfl
 have q5 : (e.kind == 5) = false := by rw [hk]; rfl
 have q6 : (e.kind == 6) = false := by rw [hk]; rfl
 have q7 : (e.kind == 7) = true := by rw [hk]; rfl
 obtain ⟨W, hW⟩ : ∃ W, IntKind.i64.wrap ((e.names.length : Int) + 1) = W := ⟨_, rfl⟩
 have hW2 : (e.kids.length : Int) = W ↔ e.kids.length = e.names.length + 1 := by rw [← hW, IntKind.wrap_i64]; omega
 obtain ⟨tn1, tn2, tn3⟩ := text_nil e.name
 have hne : ((e.names.length : Int) == 0) = e.names.isEmpty := by
  cases h : e.names with
  | nil => rfl
  | cons a l => rw [List.length_cons]; simp; omega
 have hke : ((e.kids.length : Int) == 0) = e.kids.isEmpty := by
  cases h : e.kids with
  | nil => rfl
  | cons a l => rw [List.length_cons]; simp; omega
 obtain ⟨cs, hcs⟩ : ∃ b, Dt.same e.const Dt.zero = b := ⟨_, rfl⟩
 obtain ⟨nm, hnm⟩ : ∃ b, Ex.namesB e.names = b := ⟨_, rfl⟩
 obtain ⟨b1, h1⟩ : ∃ b, Nm.nameB e.name = b := ⟨_, rfl⟩
 obtain ⟨b2, h2⟩ : ∃ b, e.names.isEmpty = b := ⟨_, rfl⟩
 obtain ⟨b3, h3⟩ : ∃ b, decide (e.name = ⟨#[]⟩) = b := ⟨_, rfl⟩
 obtain ⟨c1, d1⟩ : ∃ b, (decide (Ex.arity e.name = (e.kids.length : Int)) : Bool) = b := ⟨_, rfl⟩
 have HF : Hid (Ex.form e = (cs && nm && (b2 && c1))) := by
  unfold Hid Ex.form
  rw [hk]
  rw [if_neg (by decide : ¬ (7 : Int) = 0)]
  rw [if_neg (by decide : ¬ (7 : Int) = 1)]
  rw [if_neg (by decide : ¬ (7 : Int) = 2)]
  rw [if_neg (by decide : ¬ (7 : Int) = 3)]
  rw [if_neg (by decide : ¬ (7 : Int) = 4)]
  rw [if_neg (by decide : ¬ (7 : Int) = 5)]
  rw [if_neg (by decide : ¬ (7 : Int) = 6)]
  rw [if_pos rfl]
  rw [hcs, hnm, h2, d1]
 have f0 : (Ex.arity e.name == (e.kids.length : Int)) = c1 := by rw [← d1]; rfl
 have HSC : Hid (Calls Tryz.prog 32 #[.agg #[.int .i64 e.const.kind, .int .i64 e.const.int, .string e.const.text, .slice da dn dc], .agg #[.int .i64 0, .int .i64 0, .string ⟨#[]⟩, .slice none 0 0]] w1 (Says (.bool cs) w1)) := by
  have h := rsame_bare e.const.kind e.const.int e.const.text da dn dc hdl w1
  rw [hdn, ← same_zero, hcs, ← hdn] at h
  exact h
 have HNM : Hid (∀ w2, Below w1.heap.size w1 w2 → Calls Tryz.prog 86 #[.slice na e.names.length nc] w2 (Says (.bool nm) w2)) := fun w2 hb => by
  rw [← hnm]
  exact rnames_any e.names (HO.out.bel hb).names HO.out.room hnl HFT.out.names
 have HN1 : Hid (∀ w2, Calls Tryz.prog 87 #[.string e.name] w2 fun e' w' => e' = .returned (.bool b1) ∧ w2 = w') := fun w2 => by
  rw [← h1]
  exact rname_any e.name HFT.out.name w2
 have HAR := hid (rarity_any e.name)
 rw [h3] at tn1 tn2 tn3
 rw [h2] at hne
 have HKE := hid hke
 have HW2 := hid hW2
 clear hke hW2 hcs hnm h1 h2 h3 hdn d1 hk
 cases cs with
 | false =>
  go_enter Tryz.func65, Tryz.ntmps65
  go_upto_region 1 with fail
  rw [← HB.out.eq]
  go_wp2_with fail
  with_reducible refine HSC.out.mono ?_
  rintro e2 w2 ⟨rfl, hb2⟩
  have HBW : Hid (Below w1.heap.size w1 w2) := hb2
  clear hb2
  obtain ⟨y0, y1, y2, y3, y4, y5, y6, y7, ybl⟩ := HR.out.bel HBW.out
  go_wp2_with fail
  go_ret
  exact ⟨by rw [HF.out]; rfl, HB.out.below.trans (HBW.out.mono HB.out.below.size)⟩
 | true =>
  cases nm with
  | false =>
   go_enter Tryz.func65, Tryz.ntmps65
   go_upto_region 1 with fail
   rw [← HB.out.eq]
   go_wp2_with fail
   with_reducible refine HSC.out.mono ?_
   rintro e2 w2 ⟨rfl, hb2⟩
   have HBW : Hid (Below w1.heap.size w1 w2) := hb2
   clear hb2
   obtain ⟨y0, y1, y2, y3, y4, y5, y6, y7, ybl⟩ := HR.out.bel HBW.out
   go_wp2_with fail
   with_reducible refine (HNM.out _ HBW.out).mono ?_
   rintro e2 w3 ⟨rfl, hb2⟩
   have HBW : Hid (Below w1.heap.size w1 w3) := HBW.out.trans (hb2.mono HBW.out.size)
   clear hb2
   obtain ⟨y0, y1, y2, y3, y4, y5, y6, y7, ybl⟩ := HR.out.bel HBW.out
   go_wp2_with fail
   go_ret
   exact ⟨by rw [HF.out]; rfl, HB.out.below.trans (HBW.out.mono HB.out.below.size)⟩
  | true =>
   cases b2 with
   | false =>
    cases b1 <;> cases b3
    all_goals
     go_enter Tryz.func65, Tryz.ntmps65
     go_upto_region 1 with fail
     rw [← HB.out.eq]
     go_wp2_with fail
     with_reducible refine HSC.out.mono ?_
     rintro e2 w2 ⟨rfl, hb2⟩
     have HBW : Hid (Below w1.heap.size w1 w2) := hb2
     clear hb2
     obtain ⟨y0, y1, y2, y3, y4, y5, y6, y7, ybl⟩ := HR.out.bel HBW.out
     go_wp2_with fail
     with_reducible refine (HNM.out _ HBW.out).mono ?_
     rintro e2 w3 ⟨rfl, hb2⟩
     have HBW : Hid (Below w1.heap.size w1 w3) := HBW.out.trans (hb2.mono HBW.out.size)
     clear hb2
     obtain ⟨y0, y1, y2, y3, y4, y5, y6, y7, ybl⟩ := HR.out.bel HBW.out
     go_wp2_with fail
     with_reducible refine (HN1.out _).mono ?_
     rintro e2 v2 ⟨rfl, rfl⟩
     go_wp2_with fail
     go_ret
     exact ⟨by rw [HF.out]; rfl, HB.out.below.trans (HBW.out.mono HB.out.below.size)⟩
   | true =>
    cases b1 <;> cases b3 <;> cases c1
    all_goals
     go_enter Tryz.func65, Tryz.ntmps65
     go_upto_region 1 with fail
     rw [← HB.out.eq]
     go_wp2_with fail
     with_reducible refine HSC.out.mono ?_
     rintro e2 w2 ⟨rfl, hb2⟩
     have HBW : Hid (Below w1.heap.size w1 w2) := hb2
     clear hb2
     obtain ⟨y0, y1, y2, y3, y4, y5, y6, y7, ybl⟩ := HR.out.bel HBW.out
     go_wp2_with fail
     with_reducible refine (HNM.out _ HBW.out).mono ?_
     rintro e2 w3 ⟨rfl, hb2⟩
     have HBW : Hid (Below w1.heap.size w1 w3) := HBW.out.trans (hb2.mono HBW.out.size)
     clear hb2
     obtain ⟨y0, y1, y2, y3, y4, y5, y6, y7, ybl⟩ := HR.out.bel HBW.out
     go_wp2_with fail
     with_reducible refine (HN1.out _).mono ?_
     rintro e2 v2 ⟨rfl, rfl⟩
     go_wp2_with fail
     with_reducible refine (HAR.out _).mono ?_
     rintro e2 v2 ⟨rfl, rfl⟩
     go_wp2_with fail
     go_ret
     exact ⟨by rw [HF.out]; rfl, HB.out.below.trans (HBW.out.mono HB.out.below.size)⟩
set_option maxHeartbeats 16000000 in
theorem rform_8 (e : Ex) {w : World} {na : Option Addr} {nc : Nat} {da : Option Addr} {dn dc : Nat} {ka : Option Addr} {kc : Nat} (hf : Fits e) (ho : Op w e na nc da dn dc ka kc) (hk : e.kind = 8) :
  Calls Tryz.prog 65 #[.agg #[.int .i64 e.kind, .string e.name, .slice na e.names.length nc, .int .i64 e.const.kind, .int .i64 e.const.int, .string e.const.text, .slice da dn dc, .slice ka e.kids.length kc]] w (Says (.bool (Ex.form e)) w) := by
 obtain ⟨w1, B1⟩ := boxedE w e na nc da dn dc ka kc
 have hdn := ho.dn
 have hR := Row.of B1.blk
 have HO := hid (ho.bel B1.below)
 have HB := hid B1
 have HR := hid hR
 have HFT := hid hf
 have hnl := hf.nl
 have hkl := hf.kl
 obtain ⟨x0, x1, x2, x3, x4, x5, x6, x7, hbl⟩ := hR
 clear B1 ho
 have hdl : dn ≤ 9223372036854775807 := by rw [hdn]; exact hf.cl
 have HDN := hid hdn
 have q0 : (e.kind == 0) = false := by rw [hk]; rfl
 have q1 : (e.kind == 1) = false := by rw [hk]; rfl
 have q2 : (e.kind == 2) = false := by rw [hk]; rfl
 have q3 : (e.kind == 3) = false := by rw [hk]; rfl
 have q4 : (e.kind == 4) = false := by rw [hk]; rfl
 have q5 : (e.kind == 5) = false := by rw [hk]; rfl
 have q6 : (e.kind == 6) = false := by rw [hk]; rfl
 have q7 : (e.kind == 7) = false := by rw [hk]; rfl
 have q8 : (e.kind == 8) = true := by rw [hk]; rfl
 obtain ⟨W, hW⟩ : ∃ W, IntKind.i64.wrap ((e.names.length : Int) + 1) = W := ⟨_, rfl⟩
 have hW2 : (e.kids.length : Int) = W ↔ e.kids.length = e.names.length + 1 := by rw [← hW, IntKind.wrap_i64]; omega
 obtain ⟨tn1, tn2, tn3⟩ := text_nil e.name
 have hne : ((e.names.length : Int) == 0) = e.names.isEmpty := by
  cases h : e.names with
  | nil => rfl
  | cons a l => rw [List.length_cons]; simp; omega
 have hke : ((e.kids.length : Int) == 0) = e.kids.isEmpty := by
  cases h : e.kids with
  | nil => rfl
  | cons a l => rw [List.length_cons]; simp; omega
 obtain ⟨cs, hcs⟩ : ∃ b, Dt.same e.const Dt.zero = b := ⟨_, rfl⟩
 obtain ⟨nm, hnm⟩ : ∃ b, Ex.namesB e.names = b := ⟨_, rfl⟩
 obtain ⟨b1, h1⟩ : ∃ b, Nm.nameB e.name = b := ⟨_, rfl⟩
 obtain ⟨b2, h2⟩ : ∃ b, e.names.isEmpty = b := ⟨_, rfl⟩
 obtain ⟨b3, h3⟩ : ∃ b, decide (e.name = ⟨#[]⟩) = b := ⟨_, rfl⟩
 obtain ⟨c1, d1⟩ : ∃ b, (decide (e.kids.length = e.names.length + 1) : Bool) = b := ⟨_, rfl⟩
 have HF : Hid (Ex.form e = (cs && nm && (b3 && c1))) := by
  unfold Hid Ex.form
  rw [hk]
  rw [if_neg (by decide : ¬ (8 : Int) = 0)]
  rw [if_neg (by decide : ¬ (8 : Int) = 1)]
  rw [if_neg (by decide : ¬ (8 : Int) = 2)]
  rw [if_neg (by decide : ¬ (8 : Int) = 3)]
  rw [if_neg (by decide : ¬ (8 : Int) = 4)]
  rw [if_neg (by decide : ¬ (8 : Int) = 5)]
  rw [if_neg (by decide : ¬ (8 : Int) = 6)]
  rw [if_neg (by decide : ¬ (8 : Int) = 7)]
  rw [if_pos rfl]
  rw [hcs, hnm, h3, d1]
 have f0 : ((e.kids.length : Int) == W) = c1 := by rw [← d1, Bool.eq_iff_iff]; simp [hW2]
 have HSC : Hid (Calls Tryz.prog 32 #[.agg #[.int .i64 e.const.kind, .int .i64 e.const.int, .string e.const.text, .slice da dn dc], .agg #[.int .i64 0, .int .i64 0, .string ⟨#[]⟩, .slice none 0 0]] w1 (Says (.bool cs) w1)) := by
  have h := rsame_bare e.const.kind e.const.int e.const.text da dn dc hdl w1
  rw [hdn, ← same_zero, hcs, ← hdn] at h
  exact h
 have HNM : Hid (∀ w2, Below w1.heap.size w1 w2 → Calls Tryz.prog 86 #[.slice na e.names.length nc] w2 (Says (.bool nm) w2)) := fun w2 hb => by
  rw [← hnm]
  exact rnames_any e.names (HO.out.bel hb).names HO.out.room hnl HFT.out.names
 have HN1 : Hid (∀ w2, Calls Tryz.prog 87 #[.string e.name] w2 fun e' w' => e' = .returned (.bool b1) ∧ w2 = w') := fun w2 => by
  rw [← h1]
  exact rname_any e.name HFT.out.name w2
 rw [h3] at tn1 tn2 tn3
 rw [h2] at hne
 have HKE := hid hke
 have HW2 := hid hW2
 clear hke hW2 hcs hnm h1 h2 h3 hdn d1 hk
 cases cs with
 | false =>
  go_enter Tryz.func65, Tryz.ntmps65
  go_upto_region 1 with fail
  rw [← HB.out.eq]
  go_wp2_with fail
  with_reducible refine HSC.out.mono ?_
  rintro e2 w2 ⟨rfl, hb2⟩
  have HBW : Hid (Below w1.heap.size w1 w2) := hb2
  clear hb2
  obtain ⟨y0, y1, y2, y3, y4, y5, y6, y7, ybl⟩ := HR.out.bel HBW.out
  go_wp2_with fail
  go_ret
  exact ⟨by rw [HF.out]; rfl, HB.out.below.trans (HBW.out.mono HB.out.below.size)⟩
 | true =>
  cases nm with
  | false =>
   go_enter Tryz.func65, Tryz.ntmps65
   go_upto_region 1 with fail
   rw [← HB.out.eq]
   go_wp2_with fail
   with_reducible refine HSC.out.mono ?_
   rintro e2 w2 ⟨rfl, hb2⟩
   have HBW : Hid (Below w1.heap.size w1 w2) := hb2
   clear hb2
   obtain ⟨y0, y1, y2, y3, y4, y5, y6, y7, ybl⟩ := HR.out.bel HBW.out
   go_wp2_with fail
   with_reducible refine (HNM.out _ HBW.out).mono ?_
   rintro e2 w3 ⟨rfl, hb2⟩
   have HBW : Hid (Below w1.heap.size w1 w3) := HBW.out.trans (hb2.mono HBW.out.size)
   clear hb2
   obtain ⟨y0, y1, y2, y3, y4, y5, y6, y7, ybl⟩ := HR.out.bel HBW.out
   go_wp2_with fail
   go_ret
   exact ⟨by rw [HF.out]; rfl, HB.out.below.trans (HBW.out.mono HB.out.below.size)⟩
  | true =>
   cases b1 <;> cases b2 <;> cases b3 <;> cases c1
   all_goals
    go_enter Tryz.func65, Tryz.ntmps65
    go_upto_region 1 with fail
    rw [← HB.out.eq]
    go_wp2_with fail
    with_reducible refine HSC.out.mono ?_
    rintro e2 w2 ⟨rfl, hb2⟩
    have HBW : Hid (Below w1.heap.size w1 w2) := hb2
    clear hb2
    obtain ⟨y0, y1, y2, y3, y4, y5, y6, y7, ybl⟩ := HR.out.bel HBW.out
    go_wp2_with fail
    with_reducible refine (HNM.out _ HBW.out).mono ?_
    rintro e2 w3 ⟨rfl, hb2⟩
    have HBW : Hid (Below w1.heap.size w1 w3) := HBW.out.trans (hb2.mono HBW.out.size)
    clear hb2
    obtain ⟨y0, y1, y2, y3, y4, y5, y6, y7, ybl⟩ := HR.out.bel HBW.out
    go_wp2_with fail
    with_reducible refine (HN1.out _).mono ?_
    rintro e2 v2 ⟨rfl, rfl⟩
    go_wp2_with fail
    go_ret
    exact ⟨by rw [HF.out]; rfl, HB.out.below.trans (HBW.out.mono HB.out.below.size)⟩
set_option maxHeartbeats 16000000 in
theorem rform_9 (e : Ex) {w : World} {na : Option Addr} {nc : Nat} {da : Option Addr} {dn dc : Nat} {ka : Option Addr} {kc : Nat} (hf : Fits e) (ho : Op w e na nc da dn dc ka kc) (hk : e.kind = 9) :
  Calls Tryz.prog 65 #[.agg #[.int .i64 e.kind, .string e.name, .slice na e.names.length nc, .int .i64 e.const.kind, .int .i64 e.const.int, .string e.const.text, .slice da dn dc, .slice ka e.kids.length kc]] w (Says (.bool (Ex.form e)) w) := by
 obtain ⟨w1, B1⟩ := boxedE w e na nc da dn dc ka kc
 have hdn := ho.dn
 have hR := Row.of B1.blk
 have HO := hid (ho.bel B1.below)
 have HB := hid B1
 have HR := hid hR
 have HFT := hid hf
 have hnl := hf.nl
 have hkl := hf.kl
 obtain ⟨x0, x1, x2, x3, x4, x5, x6, x7, hbl⟩ := hR
 clear B1 ho
 have hdl : dn ≤ 9223372036854775807 := by rw [hdn]; exact hf.cl
 have HDN := hid hdn
 have q0 : (e.kind == 0) = false := by rw [hk]; rfl
 have q1 : (e.kind == 1) = false := by rw [hk]; rfl
 have q2 : (e.kind == 2) = false := by rw [hk]; rfl
 have q3 : (e.kind == 3) = false := by rw [hk]; rfl
 have q4 : (e.kind == 4) = false := by rw [hk]; rfl
 have q5 : (e.kind == 5) = false := by rw [hk]; rfl
 have q6 : (e.kind == 6) = false := by rw [hk]; rfl
 have q7 : (e.kind == 7) = false := by rw [hk]; rfl
 have q8 : (e.kind == 8) = false := by rw [hk]; rfl
 have q9 : (e.kind == 9) = true := by rw [hk]; rfl
 obtain ⟨W, hW⟩ : ∃ W, IntKind.i64.wrap ((e.names.length : Int) + 1) = W := ⟨_, rfl⟩
 have hW2 : (e.kids.length : Int) = W ↔ e.kids.length = e.names.length + 1 := by rw [← hW, IntKind.wrap_i64]; omega
 obtain ⟨tn1, tn2, tn3⟩ := text_nil e.name
 have hne : ((e.names.length : Int) == 0) = e.names.isEmpty := by
  cases h : e.names with
  | nil => rfl
  | cons a l => rw [List.length_cons]; simp; omega
 have hke : ((e.kids.length : Int) == 0) = e.kids.isEmpty := by
  cases h : e.kids with
  | nil => rfl
  | cons a l => rw [List.length_cons]; simp; omega
 obtain ⟨cs, hcs⟩ : ∃ b, Dt.same e.const Dt.zero = b := ⟨_, rfl⟩
 obtain ⟨nm, hnm⟩ : ∃ b, Ex.namesB e.names = b := ⟨_, rfl⟩
 obtain ⟨b1, h1⟩ : ∃ b, Nm.nameB e.name = b := ⟨_, rfl⟩
 obtain ⟨b2, h2⟩ : ∃ b, e.names.isEmpty = b := ⟨_, rfl⟩
 obtain ⟨b3, h3⟩ : ∃ b, decide (e.name = ⟨#[]⟩) = b := ⟨_, rfl⟩
 obtain ⟨c1, d1⟩ : ∃ b, (decide (e.kids.length = e.names.length + 1) : Bool) = b := ⟨_, rfl⟩
 have HF : Hid (Ex.form e = (cs && nm && (b3 && c1))) := by
  unfold Hid Ex.form
  rw [hk]
  rw [if_neg (by decide : ¬ (9 : Int) = 0)]
  rw [if_neg (by decide : ¬ (9 : Int) = 1)]
  rw [if_neg (by decide : ¬ (9 : Int) = 2)]
  rw [if_neg (by decide : ¬ (9 : Int) = 3)]
  rw [if_neg (by decide : ¬ (9 : Int) = 4)]
  rw [if_neg (by decide : ¬ (9 : Int) = 5)]
  rw [if_neg (by decide : ¬ (9 : Int) = 6)]
  rw [if_neg (by decide : ¬ (9 : Int) = 7)]
  rw [if_neg (by decide : ¬ (9 : Int) = 8)]
  rw [if_pos rfl]
  rw [hcs, hnm, h3, d1]
 have f0 : ((e.kids.length : Int) == W) = c1 := by rw [← d1, Bool.eq_iff_iff]; simp [hW2]
 have HSC : Hid (Calls Tryz.prog 32 #[.agg #[.int .i64 e.const.kind, .int .i64 e.const.int, .string e.const.text, .slice da dn dc], .agg #[.int .i64 0, .int .i64 0, .string ⟨#[]⟩, .slice none 0 0]] w1 (Says (.bool cs) w1)) := by
  have h := rsame_bare e.const.kind e.const.int e.const.text da dn dc hdl w1
  rw [hdn, ← same_zero, hcs, ← hdn] at h
  exact h
 have HNM : Hid (∀ w2, Below w1.heap.size w1 w2 → Calls Tryz.prog 86 #[.slice na e.names.length nc] w2 (Says (.bool nm) w2)) := fun w2 hb => by
  rw [← hnm]
  exact rnames_any e.names (HO.out.bel hb).names HO.out.room hnl HFT.out.names
 have HN1 : Hid (∀ w2, Calls Tryz.prog 87 #[.string e.name] w2 fun e' w' => e' = .returned (.bool b1) ∧ w2 = w') := fun w2 => by
  rw [← h1]
  exact rname_any e.name HFT.out.name w2
 rw [h3] at tn1 tn2 tn3
 rw [h2] at hne
 have HKE := hid hke
 have HW2 := hid hW2
 clear hke hW2 hcs hnm h1 h2 h3 hdn d1 hk
 cases cs with
 | false =>
  go_enter Tryz.func65, Tryz.ntmps65
  go_upto_region 1 with fail
  rw [← HB.out.eq]
  go_wp2_with fail
  with_reducible refine HSC.out.mono ?_
  rintro e2 w2 ⟨rfl, hb2⟩
  have HBW : Hid (Below w1.heap.size w1 w2) := hb2
  clear hb2
  obtain ⟨y0, y1, y2, y3, y4, y5, y6, y7, ybl⟩ := HR.out.bel HBW.out
  go_wp2_with fail
  go_ret
  exact ⟨by rw [HF.out]; rfl, HB.out.below.trans (HBW.out.mono HB.out.below.size)⟩
 | true =>
  cases nm with
  | false =>
   go_enter Tryz.func65, Tryz.ntmps65
   go_upto_region 1 with fail
   rw [← HB.out.eq]
   go_wp2_with fail
   with_reducible refine HSC.out.mono ?_
   rintro e2 w2 ⟨rfl, hb2⟩
   have HBW : Hid (Below w1.heap.size w1 w2) := hb2
   clear hb2
   obtain ⟨y0, y1, y2, y3, y4, y5, y6, y7, ybl⟩ := HR.out.bel HBW.out
   go_wp2_with fail
   with_reducible refine (HNM.out _ HBW.out).mono ?_
   rintro e2 w3 ⟨rfl, hb2⟩
   have HBW : Hid (Below w1.heap.size w1 w3) := HBW.out.trans (hb2.mono HBW.out.size)
   clear hb2
   obtain ⟨y0, y1, y2, y3, y4, y5, y6, y7, ybl⟩ := HR.out.bel HBW.out
   go_wp2_with fail
   go_ret
   exact ⟨by rw [HF.out]; rfl, HB.out.below.trans (HBW.out.mono HB.out.below.size)⟩
  | true =>
   cases b1 <;> cases b2 <;> cases b3 <;> cases c1
   all_goals
    go_enter Tryz.func65, Tryz.ntmps65
    go_upto_region 1 with fail
    rw [← HB.out.eq]
    go_wp2_with fail
    with_reducible refine HSC.out.mono ?_
    rintro e2 w2 ⟨rfl, hb2⟩
    have HBW : Hid (Below w1.heap.size w1 w2) := hb2
    clear hb2
    obtain ⟨y0, y1, y2, y3, y4, y5, y6, y7, ybl⟩ := HR.out.bel HBW.out
    go_wp2_with fail
    with_reducible refine (HNM.out _ HBW.out).mono ?_
    rintro e2 w3 ⟨rfl, hb2⟩
    have HBW : Hid (Below w1.heap.size w1 w3) := HBW.out.trans (hb2.mono HBW.out.size)
    clear hb2
    obtain ⟨y0, y1, y2, y3, y4, y5, y6, y7, ybl⟩ := HR.out.bel HBW.out
    go_wp2_with fail
    with_reducible refine (HN1.out _).mono ?_
    rintro e2 v2 ⟨rfl, rfl⟩
    go_wp2_with fail
    go_ret
    exact ⟨by rw [HF.out]; rfl, HB.out.below.trans (HBW.out.mono HB.out.below.size)⟩
set_option maxHeartbeats 16000000 in
theorem rform_11 (e : Ex) {w : World} {na : Option Addr} {nc : Nat} {da : Option Addr} {dn dc : Nat} {ka : Option Addr} {kc : Nat} (hf : Fits e) (ho : Op w e na nc da dn dc ka kc) (hk : ¬ e.kind = 0 ∧ ¬ e.kind = 1 ∧ ¬ e.kind = 2 ∧ ¬ e.kind = 3 ∧ ¬ e.kind = 4 ∧ ¬ e.kind = 5 ∧ ¬ e.kind = 6 ∧ ¬ e.kind = 7 ∧ ¬ e.kind = 8 ∧ ¬ e.kind = 9 ∧ ¬ e.kind = 10) :
  Calls Tryz.prog 65 #[.agg #[.int .i64 e.kind, .string e.name, .slice na e.names.length nc, .int .i64 e.const.kind, .int .i64 e.const.int, .string e.const.text, .slice da dn dc, .slice ka e.kids.length kc]] w (Says (.bool (Ex.form e)) w) := by
 obtain ⟨w1, B1⟩ := boxedE w e na nc da dn dc ka kc
 have hdn := ho.dn
 have hR := Row.of B1.blk
 have HO := hid (ho.bel B1.below)
 have HB := hid B1
 have HR := hid hR
 have HFT := hid hf
 have hnl := hf.nl
 have hkl := hf.kl
 obtain ⟨x0, x1, x2, x3, x4, x5, x6, x7, hbl⟩ := hR
 clear B1 ho
 have hdl : dn ≤ 9223372036854775807 := by rw [hdn]; exact hf.cl
 have HDN := hid hdn
 obtain ⟨j0, j1, j2, j3, j4, j5, j6, j7, j8, j9, j10⟩ := hk
 have q0 : (e.kind == 0) = false := beq_eq_false_iff_ne.2 j0
 have q1 : (e.kind == 1) = false := beq_eq_false_iff_ne.2 j1
 have q2 : (e.kind == 2) = false := beq_eq_false_iff_ne.2 j2
 have q3 : (e.kind == 3) = false := beq_eq_false_iff_ne.2 j3
 have q4 : (e.kind == 4) = false := beq_eq_false_iff_ne.2 j4
 have q5 : (e.kind == 5) = false := beq_eq_false_iff_ne.2 j5
 have q6 : (e.kind == 6) = false := beq_eq_false_iff_ne.2 j6
 have q7 : (e.kind == 7) = false := beq_eq_false_iff_ne.2 j7
 have q8 : (e.kind == 8) = false := beq_eq_false_iff_ne.2 j8
 have q9 : (e.kind == 9) = false := beq_eq_false_iff_ne.2 j9
 have q10 : (e.kind == 10) = false := beq_eq_false_iff_ne.2 j10
 obtain ⟨W, hW⟩ : ∃ W, IntKind.i64.wrap ((e.names.length : Int) + 1) = W := ⟨_, rfl⟩
 have hW2 : (e.kids.length : Int) = W ↔ e.kids.length = e.names.length + 1 := by rw [← hW, IntKind.wrap_i64]; omega
 obtain ⟨tn1, tn2, tn3⟩ := text_nil e.name
 have hne : ((e.names.length : Int) == 0) = e.names.isEmpty := by
  cases h : e.names with
  | nil => rfl
  | cons a l => rw [List.length_cons]; simp; omega
 have hke : ((e.kids.length : Int) == 0) = e.kids.isEmpty := by
  cases h : e.kids with
  | nil => rfl
  | cons a l => rw [List.length_cons]; simp; omega
 obtain ⟨cs, hcs⟩ : ∃ b, Dt.same e.const Dt.zero = b := ⟨_, rfl⟩
 obtain ⟨nm, hnm⟩ : ∃ b, Ex.namesB e.names = b := ⟨_, rfl⟩
 obtain ⟨b1, h1⟩ : ∃ b, Nm.nameB e.name = b := ⟨_, rfl⟩
 obtain ⟨b2, h2⟩ : ∃ b, e.names.isEmpty = b := ⟨_, rfl⟩
 obtain ⟨b3, h3⟩ : ∃ b, decide (e.name = ⟨#[]⟩) = b := ⟨_, rfl⟩
 have HF : Hid (Ex.form e = (cs && nm && (false))) := by
  unfold Hid Ex.form
  rw [if_neg j0]
  rw [if_neg j1]
  rw [if_neg j2]
  rw [if_neg j3]
  rw [if_neg j4]
  rw [if_neg j5]
  rw [if_neg j6]
  rw [if_neg j7]
  rw [if_neg j8]
  rw [if_neg j9]
  rw [if_neg j10]
  rw [hcs, hnm]
 have HSC : Hid (Calls Tryz.prog 32 #[.agg #[.int .i64 e.const.kind, .int .i64 e.const.int, .string e.const.text, .slice da dn dc], .agg #[.int .i64 0, .int .i64 0, .string ⟨#[]⟩, .slice none 0 0]] w1 (Says (.bool cs) w1)) := by
  have h := rsame_bare e.const.kind e.const.int e.const.text da dn dc hdl w1
  rw [hdn, ← same_zero, hcs, ← hdn] at h
  exact h
 have HNM : Hid (∀ w2, Below w1.heap.size w1 w2 → Calls Tryz.prog 86 #[.slice na e.names.length nc] w2 (Says (.bool nm) w2)) := fun w2 hb => by
  rw [← hnm]
  exact rnames_any e.names (HO.out.bel hb).names HO.out.room hnl HFT.out.names
 have HN1 : Hid (∀ w2, Calls Tryz.prog 87 #[.string e.name] w2 fun e' w' => e' = .returned (.bool b1) ∧ w2 = w') := fun w2 => by
  rw [← h1]
  exact rname_any e.name HFT.out.name w2
 rw [h3] at tn1 tn2 tn3
 rw [h2] at hne
 have HKE := hid hke
 have HW2 := hid hW2
 clear hke hW2 hcs hnm h1 h2 h3 hdn  j0 j1 j2 j3 j4 j5 j6 j7 j8 j9 j10
 cases cs with
 | false =>
  go_enter Tryz.func65, Tryz.ntmps65
  go_upto_region 1 with fail
  rw [← HB.out.eq]
  go_wp2_with fail
  with_reducible refine HSC.out.mono ?_
  rintro e2 w2 ⟨rfl, hb2⟩
  have HBW : Hid (Below w1.heap.size w1 w2) := hb2
  clear hb2
  obtain ⟨y0, y1, y2, y3, y4, y5, y6, y7, ybl⟩ := HR.out.bel HBW.out
  go_wp2_with fail
  go_ret
  exact ⟨by rw [HF.out]; rfl, HB.out.below.trans (HBW.out.mono HB.out.below.size)⟩
 | true =>
  cases nm with
  | false =>
   go_enter Tryz.func65, Tryz.ntmps65
   go_upto_region 1 with fail
   rw [← HB.out.eq]
   go_wp2_with fail
   with_reducible refine HSC.out.mono ?_
   rintro e2 w2 ⟨rfl, hb2⟩
   have HBW : Hid (Below w1.heap.size w1 w2) := hb2
   clear hb2
   obtain ⟨y0, y1, y2, y3, y4, y5, y6, y7, ybl⟩ := HR.out.bel HBW.out
   go_wp2_with fail
   with_reducible refine (HNM.out _ HBW.out).mono ?_
   rintro e2 w3 ⟨rfl, hb2⟩
   have HBW : Hid (Below w1.heap.size w1 w3) := HBW.out.trans (hb2.mono HBW.out.size)
   clear hb2
   obtain ⟨y0, y1, y2, y3, y4, y5, y6, y7, ybl⟩ := HR.out.bel HBW.out
   go_wp2_with fail
   go_ret
   exact ⟨by rw [HF.out]; rfl, HB.out.below.trans (HBW.out.mono HB.out.below.size)⟩
  | true =>
   cases b1 <;> cases b2 <;> cases b3
   all_goals
    go_enter Tryz.func65, Tryz.ntmps65
    go_upto_region 1 with fail
    rw [← HB.out.eq]
    go_wp2_with fail
    with_reducible refine HSC.out.mono ?_
    rintro e2 w2 ⟨rfl, hb2⟩
    have HBW : Hid (Below w1.heap.size w1 w2) := hb2
    clear hb2
    obtain ⟨y0, y1, y2, y3, y4, y5, y6, y7, ybl⟩ := HR.out.bel HBW.out
    go_wp2_with fail
    with_reducible refine (HNM.out _ HBW.out).mono ?_
    rintro e2 w3 ⟨rfl, hb2⟩
    have HBW : Hid (Below w1.heap.size w1 w3) := HBW.out.trans (hb2.mono HBW.out.size)
    clear hb2
    obtain ⟨y0, y1, y2, y3, y4, y5, y6, y7, ybl⟩ := HR.out.bel HBW.out
    go_wp2_with fail
    with_reducible refine (HN1.out _).mono ?_
    rintro e2 v2 ⟨rfl, rfl⟩
    go_wp2_with fail
    go_ret
    exact ⟨by rw [HF.out]; rfl, HB.out.below.trans (HBW.out.mono HB.out.below.size)⟩
end Ew
end Go.Proofs.YtkplkgdfphbldaaGreat
