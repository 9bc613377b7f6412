/- pass: Clone, copied, Told; what may be. -/
import Derived.Test.YtkplkgdfphbldaaGreatHJbg
import Derived.Test.YtkplkgdfphbldaaGreatHJbj
import Derived.Test.YtkplkgdfphbldaaGreatHJbi
import Derived.Test.YtkplkgdfphbldaaGreatHJay
import Derived.Test.YtkplkgdfphbldaaGreatHJbq
import Derived.Test.YtkplkgdfphbldaaGreatHJan
namespace Go.Proofs.YtkplkgdfphbldaaGreat
open Go.RowKit
open Go.Lib (hid)
set_option linter.unusedVariables false
set_option linter.unusedSimpArgs false
set_option linter.unnecessarySimpa false
set_option maxRecDepth 100000
namespace Ew
open Rn
theorem sl_nil {w : World} {c : Nat} {l : List ByteArray} (h : Sl w (.slice none l.length c) (strs l)) : l = [] ∧ c = 0 := by
 obtain ⟨a, c', e, ⟨rfl, rfl, h3⟩ | ⟨ad, rfl, _⟩⟩ := h
 ·exact ⟨by simpa [strs] using h3, (Value.slice.inj e).2.2⟩
 ·exact nomatch (Value.slice.inj e).1
set_option maxHeartbeats 4000000 in
theorem clone_any (l : List ByteArray) {w : World} {na : Option Addr} {nc : Nat} (hn : Sl w (.slice na l.length nc) (strs l)) (hl : l.length ≤ 1000000) :
  Calls Tryz.prog 63 #[.slice na l.length nc] w fun e w' => ∃ v, e = .returned v ∧ On (fun b => w.heap.size ≤ b) w' (fun w => Sl w v (strs l)) ∧ RoomOk v ∧ Below w.heap.size w w' := by
 obtain ⟨i0, hi, hz0, hz1, hz2⟩ := info_parts infoStr
 have HI := hid hi
 have HZ0 := hid hz0
 have HZ1 := hid hz1
 have HZ2 := hid hz2
 clear hi hz0 hz1 hz2
 cases na with
 | none =>
  obtain ⟨rfl, rfl⟩ := sl_nil hn
  have hnn : ∀ w : World, (binOp .eql 22 (.slice none 0 0) (.slice none 0 0)).run Tryz.prog w = .ok (.bool true) w := fun w => by rw [Lib.run_eql_slice_nil (h := Tryz.underlying22)]; rfl
  go_enter Tryz.func63, Tryz.ntmps63
  go_wp2_with fail
  go_ret
  exact ⟨_, rfl, On.nil, room_nil, Below.refl _ _⟩
 | some ad =>
  have HS := hid (src_sl (sl_bel hn ((Below.refl _ _).alloc (Nat.le_refl _) (.cells #[] 9))))
  have HZR : Hid ((w.alloc (.cells #[] 9)).ownsRow w.heap.size 9 1 (.slice (some ⟨w.heap.size, 0, none⟩) 0 0) 0 []) := zero_row w 9 1
  have HTE : Hid ((w.alloc (.cells #[] 9)).heap.size = w.heap.size + 1) := by unfold Hid; simp
  have HBA : Hid (Below w.heap.size w (w.alloc (.cells #[] 9))) := (Below.refl _ _).alloc (Nat.le_refl _) _
  have hnn : ∀ w : World, (binOp .eql 22 (.slice (some ad) l.length nc) (.slice none 0 0)).run Tryz.prog w = .ok (.bool false) w := fun w => by rw [Lib.run_eql_slice_nil (h := Tryz.underlying22)]; rfl
  clear hn
  go_enter Tryz.func63, Tryz.ntmps63
  go_wp2_with (first
   | (at_builtin; refine wpList_append_v rfl (.tmp 5) (.tmp 6) 22 rfl w.heap.size 9 i0 _ 1 16 Tryz.underlying22 HI.out HZ0.out HZ1.out HZ2.out rfl (by decide) (.slice (some ⟨w.heap.size, 0, none⟩) 0 0) 0 [] rfl HZR.out (some ad) l.length nc (strs l) rfl (by rw [strs_length, Nat.mul_one]) HS.out (strs_one l) (by simp only [maxLen]; omega) (by omega) (by rw [HTE.out]; omega) (w.heap.size + 1) HTE.out ?_; intro a4 c4 w4 hown hgr hlies; generalize hv4 : Value.slice a4 (0 + l.length) c4 = v4 at hown ⊢; clear hv4; have HOW := hid hown; have HGR := hid hgr; clear hown hgr hlies)
   | fail)
  go_ret
  have hown := HOW.out
  rw [List.nil_append] at hown
  obtain ⟨h1, h2⟩ := On.names (S := fun b => w.heap.size ≤ b) hown fun b e => (hown.lt b e).1
  exact ⟨v4, rfl, h1, h2, HBA.out.grown HGR.out (by rw [HTE.out]; omega) (fun q hq => by cases hq; exact Nat.le_refl _)⟩
abbrev zeroV : Value := .agg #[.int .i64 0, .string ⟨#[]⟩, .slice none 0 0, .int .i64 0, .int .i64 0, .string ⟨#[]⟩, .slice none 0 0, .slice none 0 0]
structure Blk8 (w : World) (g : Nat) : Prop where
 c0 : ∃ v, w.cell? ⟨g, 0, none⟩ = some v
 c1 : ∃ v, w.cell? ⟨g, 1, none⟩ = some v
 c2 : ∃ v, w.cell? ⟨g, 2, none⟩ = some v
 c3 : ∃ v, w.cell? ⟨g, 3, none⟩ = some v
 c4 : ∃ v, w.cell? ⟨g, 4, none⟩ = some v
 c5 : ∃ v, w.cell? ⟨g, 5, none⟩ = some v
 c6 : ∃ v, w.cell? ⟨g, 6, none⟩ = some v
 c7 : ∃ v, w.cell? ⟨g, 7, none⟩ = some v
 f0 : w.frozen? ⟨g, 0, none⟩ = false
 f1 : w.frozen? ⟨g, 1, none⟩ = false
 f2 : w.frozen? ⟨g, 2, none⟩ = false
 f3 : w.frozen? ⟨g, 3, none⟩ = false
 f4 : w.frozen? ⟨g, 4, none⟩ = false
 f5 : w.frozen? ⟨g, 5, none⟩ = false
 f6 : w.frozen? ⟨g, 6, none⟩ = false
 f7 : w.frozen? ⟨g, 7, none⟩ = false
 lt : g < w.heap.size
theorem blk8 {w : World} {g : Nat} {a0 a1 a2 a3 a4 a5 a6 a7 : Value} {t : TypeId} (h : w.heap[g]? = some (.cells #[a0, a1, a2, a3, a4, a5, a6, a7] t (0, 0))) : Blk8 w g := by
 have hR := Row.of h
 exact ⟨⟨_, hR.c0⟩, ⟨_, hR.c1⟩, ⟨_, hR.c2⟩, ⟨_, hR.c3⟩, ⟨_, hR.c4⟩, ⟨_, hR.c5⟩, ⟨_, hR.c6⟩, ⟨_, hR.c7⟩, frozen_row8 h, frozen_row8 h, frozen_row8 h, frozen_row8 h, frozen_row8 h, frozen_row8 h, frozen_row8 h, frozen_row8 h, hR.lt⟩
theorem const_nil {w w' : World} {c : Dt} {dl : Value} (h : ConstAt w c dl) (hl : c.list = []) (hs : w.heap.size ≤ w'.heap.size) : ConstAt w' c dl := by
 have key : ∀ (v : Value) (d : Dt), DtAt w (fun _ => True) v d → d.list = [] → DtAt w' (fun _ => True) v d := by
  intro v d h hl
  cases h with
  | nil k i t => exact .nil k i t
  | row k i t b off c l lv hS hb hc hd =>
   have hl : l = [] := hl
   subst hl
   exact .row k i t b off c [] lv trivial (Nat.lt_of_lt_of_le hb hs) (fun j x hx => by simp at hx) (fun j x hx => by simp at hx)
 exact key _ _ h hl
set_option maxHeartbeats 16000000 in
theorem copied_any (w0 : World) (e : Ex) : ∀ {w : World} {na : Option Addr} {nc : Nat} {da : Option Addr} {dn dc : Nat} {ka : Option Addr} {kc : Nat}, Few e → Op w0 e na nc da dn dc ka kc → Below w0.heap.size w0 w →
  Calls Tryz.prog 41 #[.agg #[.int .i64 e.kind, .string e.name, .slice na e.names.length nc, .int .i64 e.const.kind, .int .i64 e.const.int, .string e.const.text, .slice da dn dc, .slice ka e.kids.length kc]] w (MadePost 0 e w) := by
 induction e using Ex.byKids with
 | h e ih =>
 intro w na nc da dn dc ka kc hf ho hb
 obtain ⟨w1, B1⟩ := boxedE w e na nc da dn dc ka kc
 obtain ⟨w2, B2⟩ := boxed w1 #[.int .i64 0, .string ⟨#[]⟩, .slice none 0 0, .int .i64 0, .int .i64 0, .string ⟨#[]⟩, .slice none 0 0, .slice none 0 0] 28
 have hB02 : Below w.heap.size w w2 := B1.below.trans (B2.below.mono B1.below.size)
 have hsz2 : w2.heap.size = w.heap.size + 2 := by rw [B2.size, B1.size]
 have hZ : w2.heap[w.heap.size + 1]? = some (.cells #[.int .i64 0, .string ⟨#[]⟩, .slice none 0 0, .int .i64 0, .int .i64 0, .string ⟨#[]⟩, .slice none 0 0, .slice none 0 0] 28 (0, 0)) := by
  have := B2.blk
  rw [B1.size] at this
  exact this
 have hP := (B2.below.block _ (by rw [B1.size]; omega)).trans B1.blk
 have HBA := hid B1
 have HBB := hid B2
 have HZB := hid hZ
 have HPB := hid hP
 have HB02 := hid hB02
 have HS2 := hid hsz2
 have HIH := hid ih
 have HF := hid hf
 have HO := hid ho
 have hb2 := hb.trans (hB02.mono hb.size)
 have HBW := hid hb
 have HB0 := hid hb2
 have HCL := hid (clone_any e.names (sl_bel ho.names hb2) (by have := hf.nl; omega))
 obtain ⟨x0, x1, x2, x3, x4, x5, x6, x7, hbl⟩ := Row.of hP
 clear B1 B2 hB02 hsz2 hZ hP ih hf ho hb hb2
 go_enter Tryz.func41, Tryz.ntmps41
 go_upto_region 1 with fail
 rw [← HBA.out.eq, ← HBB.out.eq]
 go_upto_region 2 with (first
  | (go_at_call 63; (with_reducible refine HCL.out.mono ?_); rintro e2 w3 ⟨v3, rfl, hon, ⟨av, nv, cv, rfl, hroom⟩, hb3⟩; have HON := hid hon; have HRM : Hid (RoomOk (.slice av nv cv)) := ⟨_, _, _, rfl, hroom⟩; have HB3 := hid hb3; have HP3 := hid ((hb3.block w.heap.size (by rw [HS2.out]; omega)).trans HPB.out); have HZ3 := hid ((hb3.block (w.heap.size + 1) (by rw [HS2.out]; omega)).trans HZB.out); obtain ⟨y0, y1, y2, y3, y4, y5, y6, y7, ybl⟩ := Row.of HP3.out; have yf : w3.frozen? ⟨w.heap.size, 2, none⟩ = false := frozen_row8 HP3.out; clear hon hb3 hroom)
  | fail)
 generalize hw4 : w3.setCell ⟨w.heap.size, 2, none⟩ (.slice av nv cv) = w4
 have hp4 : w4.heap[w.heap.size]? = some (.cells #[.int .i64 e.kind, .string e.name, .slice av nv cv, .int .i64 e.const.kind, .int .i64 e.const.int, .string e.const.text, .slice da dn dc, .slice ka e.kids.length kc] 28 (0, 0)) := by
  rw [← hw4]
  exact heap_setCell_same w3 w.heap.size 2 _ _ _ HP3.out
 have hz4 : w4.heap[w.heap.size + 1]? = some (.cells #[.int .i64 0, .string ⟨#[]⟩, .slice none 0 0, .int .i64 0, .int .i64 0, .string ⟨#[]⟩, .slice none 0 0, .slice none 0 0] 28 (0, 0)) := by
  rw [← hw4, heap_setCell_other _ _ _ _ (by show w.heap.size + 1 ≠ w.heap.size; omega)]
  exact HZ3.out
 have hb4 : Below w.heap.size w w4 := by rw [← hw4]; exact (HB02.out.trans (HB3.out.mono HB02.out.size)).setCell (p := ⟨w.heap.size, 2, none⟩) (Nat.le_refl _) _
 have hs4 : w4.heap.size = w3.heap.size := by rw [← hw4]; simp [World.setCell]
 have hon4 : On (fun b => w2.heap.size ≤ b) w4 (fun w => Sl w (.slice av nv cv) (strs e.names)) := HON.out.same (by omega) fun b hb _ => ⟨hb, by rw [← hw4]; exact heap_setCell_other _ _ _ _ (by show b ≠ w.heap.size; rw [HS2.out] at hb; omega)⟩
 have HB4 := hid hb4
 have HZ4 := hid hz4
 have HON4 := hid hon4
 have hs42 : w2.heap.size ≤ w4.heap.size := by rw [hs4]; exact HB3.out.size
 have HS42 := hid hs42
 have HMP := hid (map_any 41 (fun _ _ => rfl) (fun x => x) w0 0 (Nat.zero_le _) e.kind e.name e.const e.kids (w := w4) (na := av) (nn := nv) (nc := cv) (da := da) (dn := dn) (dc := dc) HO.out.kids (HBW.out.trans (hb4.mono HBW.out.size)) HF.out.len (fun W x na nc da dn dc ka kc hx hop hbw => HIH.out x hx (HF.out.kid hx) hop hbw))
 unfold MapPost at HMP
 obtain ⟨t0, t1, t2, t3, t4, t5, t6, t7, tbl⟩ := Row.of hp4
 clear hp4 hz4 hb4 hs4 hon4 hs42 hw4 y0 y1 y2 y3 y4 y5 y6 y7 ybl yf HP3 HZ3 x0 x1 x2 x3 x4 x5 x6 x7 hbl
 go_wp2_with (first
  | (go_at_call 42; (with_reducible refine HMP.out.mono ?_); rintro e2 w5 ⟨rv, M, hes, rfl, hown, hblk, hels, hb5⟩; unfold exV; have HES := hid hes; have HOW := hid hown; have HBK := hid hblk; have HEL := hid hels; have HB5 := hid hb5; have hz5 := (hb5.block (w.heap.size + 1) (by have := HS42.out; rw [HS2.out] at this; omega)).trans HZ4.out; have HZ5 := hid hz5; obtain ⟨⟨_, s0⟩, ⟨_, s1⟩, ⟨_, s2⟩, ⟨_, s3⟩, ⟨_, s4⟩, ⟨_, s5⟩, ⟨_, s6⟩, ⟨_, s7⟩, q0, q1, q2, q3, q4, q5, q6, q7, sbl⟩ := blk8 hz5; obtain ⟨ar, cr, hrv⟩ : ∃ ar cr, rv = .slice ar M.length cr := RowR.slice (ρ := fun _ => 0) (r := 0) ⟨hown, fun _ _ => rfl⟩; subst hrv; clear hes hown hblk hels hb5 hz5)
  | fail)
 refine bodyPost_ret (res1 rfl _ _ (w.heap.size + 1) 28 #[.int .i64 e.kind, .string e.name, .slice av nv cv, .int .i64 e.const.kind, .int .i64 e.const.int, .string e.const.text, .slice da dn dc, .slice ar M.length cr] (0, 0) rfl (eight_set _ _ _ _ _ _ _ _ _ _ _ (.int .i64 e.kind) (.string e.name) (.slice av nv cv) (.int .i64 e.const.kind) (.int .i64 e.const.int) (.string e.const.text) (.slice da dn dc) (.slice ar M.length cr) HZ5.out) exprD exprSize) rfl ?_
 show MadePost 0 e w _ (put8 w5 (w.heap.size + 1) (.int .i64 e.kind) (.string e.name) (.slice av nv cv) (.int .i64 e.const.kind) (.int .i64 e.const.int) (.string e.const.text) (.slice da dn dc) (.slice ar M.length cr))
 have hb15 : Below w.heap.size w w5 := HB4.out.trans (HB5.out.mono HB4.out.size)
 have hs42 := HS42.out
 have hs2 := HS2.out
 refine ⟨⟨e, .slice av nv cv, .slice da dn dc, .slice ar M.length cr⟩, rfl, rfl, ?_, below_put8 hb15 (Nat.le_succ _) _ _ _ _ _ _ _ _⟩
 have hkids : On (fun b => b < 0 ∨ w4.heap.size ≤ b) w5 (fun w => KidsAt w (.slice ar M.length cr) (M.map (·.e))) := On.kids HOW.out (fun b e => .inr (HBK.out b e)) HEL.out
 rw [HES.out, List.map_id'] at hkids
 have hnot : ¬ (fun b => b < 0 ∨ w2.heap.size ≤ b) (w.heap.size + 1) := fun h => by
  have h : w.heap.size + 1 < 0 ∨ w2.heap.size ≤ w.heap.size + 1 := h
  omega
 have hcn : On (fun b => b < 0 ∨ w2.heap.size ≤ b) w5 (fun w => ConstAt w e.const (.slice da dn dc)) := fun w' h1 _ => const_nil HO.out.const HF.out.cl (Nat.le_trans HBW.out.size (Nat.le_trans hb15.size h1))
 have hall : On (fun b => b < 0 ∨ w2.heap.size ≤ b) w5 (fun w => ExAt w (exV e.kind e.name (.slice av nv cv) e.const (.slice da dn dc) (.slice ar M.length cr)) (.mk e.kind e.name e.names e.const e.kids)) :=
  On.mk ((HON4.out.bel HB5.out).mono fun b hb _ => .inr hb) hcn HRM.out (hkids.mono fun b hb _ => hb.imp id fun h => Nat.le_trans hs42 h)
 rw [Ex.eta] at hall
 exact (on_put8 hall hnot _ _ _ _ _ _ _ _).mono fun b hb _ => hb.imp id fun h => by omega
end Ew
namespace Ew
theorem name_size {s : ByteArray} (h : Nm.nameB s = true) : s.size ≤ maxLen := by
 unfold Nm.nameB Nm.nameL at h
 simp only [Bool.and_eq_true, decide_eq_true_eq] at h
 have := h.1.1.2
 rw [Nm.bytesI_length] at this
 simp only [maxLen]
 omega
theorem prim_size {s : ByteArray} {n : Nat} (h : Ex.arity s = n) : s.size ≤ maxLen := by
 have k0 : ∀ x ∈ Ex.prims0, x.size ≤ 64 := by decide
 have k1 : ∀ x ∈ Ex.prims1, x.size ≤ 64 := by decide
 have k2 : ∀ x ∈ Ex.prims2, x.size ≤ 64 := by decide
 have k3 : ∀ x ∈ Ex.prims3, x.size ≤ 64 := by decide
 have key : s.size ≤ 64 := by
  unfold Ex.arity at h
  split at h
  ·rename_i e; exact k0 s ((Ex.inN_iff _ _).1 e)
  ·split at h
   ·rename_i e; exact k1 s ((Ex.inN_iff _ _).1 e)
   ·split at h
    ·rename_i e; exact k2 s ((Ex.inN_iff _ _).1 e)
    ·split at h
     ·rename_i e; exact k3 s ((Ex.inN_iff _ _).1 e)
     ·omega
 simp only [maxLen]
 omega
theorem const_fit {d : Dt} (h : Ex.constB d = true) : d.list = [] ∧ Dt.Fit d := by
 unfold Ex.constB at h
 rw [Bool.and_eq_true] at h
 obtain ⟨h1, h2⟩ := h
 have hf := (chkE_form (of_decide_eq_true h1)).1
 obtain ⟨k, i, t, l⟩ := d
 simp only [Dt.kind_mk, Dt.int_mk, Dt.text_mk, Dt.list_mk] at h2 hf ⊢
 have key : l = [] ∧ t.size ≤ maxLen := by
  have h2 : (((k = 0 ∨ k = 1) ∨ k = 2) ∨ k = 4) ∨ (k = 5 ∧ l.isEmpty = true) := by
   rw [Bool.or_eq_true, Bool.or_eq_true, Bool.or_eq_true, Bool.or_eq_true, Bool.and_eq_true] at h2
   exact h2.imp (Or.imp (Or.imp (Or.imp of_decide_eq_true of_decide_eq_true) of_decide_eq_true) of_decide_eq_true) (And.imp of_decide_eq_true id)
  unfold Dt.formB at hf
  rcases h2 with (((rfl | rfl) | rfl) | rfl) | ⟨rfl, h2⟩
  ·simp at hf
   rw [hf.1.1, hf.1.2]
   exact ⟨rfl, Nat.zero_le _⟩
  ·simp at hf
   rw [hf.1.1, hf.1.2]
   exact ⟨rfl, Nat.zero_le _⟩
  ·simp at hf
   rw [hf.1.1, hf.1.2]
   exact ⟨rfl, Nat.zero_le _⟩
  ·simp at hf
   exact ⟨hf.1.2, name_size hf.2⟩
  ·simp at hf
   rw [hf.2]
   exact ⟨List.isEmpty_iff.1 h2, Nat.zero_le _⟩
 obtain ⟨rfl, ht⟩ := key
 exact ⟨rfl, .mk k i t [] ht (by simp) (by simp)⟩
structure Parts (e : Ex) : Prop where
 name : e.name.size ≤ maxLen
 names : ∀ s ∈ e.names, s.size ≤ maxLen
 thin : e.names.length ≤ 6 * e.kids.length
 list : e.const.list = []
 fit : Dt.Fit e.const
theorem zero_fit : Dt.Fit Dt.zero := .mk 0 0 ⟨#[]⟩ [] (Nat.zero_le _) (by simp) (by simp)
theorem names_size {l : List ByteArray} (h : Ex.namesB l = true) : ∀ s ∈ l, s.size ≤ maxLen := fun s hs => name_size (((Ex.namesB_iff l).1 h).1 s hs)
theorem form_parts {e : Ex} (h : Ex.form e = true) : Parts e := by
 unfold Ex.form at h
 have nil_size : ∀ s : ByteArray, s = ⟨#[]⟩ → s.size ≤ maxLen := fun s e => by rw [e]; exact Nat.zero_le _
 by_cases h0 : e.kind = 0
 ·rw [if_pos h0] at h
  simp only [Bool.and_eq_true, decide_eq_true_eq, List.isEmpty_iff] at h
  obtain ⟨h1, h2⟩ := const_fit h.2
  exact ⟨nil_size _ h.1.1.1, by rw [h.1.1.2]; simp, by rw [h.1.1.2]; simp, h1, h2⟩
 ·rw [if_neg h0] at h
  rw [Bool.and_eq_true, Bool.and_eq_true] at h
  obtain ⟨⟨hc, hn⟩, h⟩ := h
  have hce := Dt.same_true _ _ hc
  have hns := names_size hn
  have mk : e.name.size ≤ maxLen → e.names.length ≤ 6 * e.kids.length → Parts e := fun a b => ⟨a, hns, b, by rw [hce]; rfl, by rw [hce]; exact zero_fit⟩
  by_cases h1 : e.kind = 1
  ·simp only [h1] at h
   simp [List.isEmpty_iff] at h
   exact mk (name_size h.1.1) (by rw [h.1.2]; simp)
  by_cases h2 : e.kind = 2
  ·simp only [h2] at h
   simp [List.isEmpty_iff] at h
   exact mk (name_size h.1.1) (by rw [h.1.2]; simp)
  by_cases h3 : e.kind = 3
  ·simp only [h3] at h
   simp [List.isEmpty_iff] at h
   exact mk (nil_size _ h.1.1) (by rw [h.1.2]; simp)
  by_cases h4 : e.kind = 4
  ·simp only [h4] at h
   simp [List.isEmpty_iff] at h
   exact mk (nil_size _ h.1.1) (by rw [h.1.2]; simp)
  by_cases h5 : e.kind = 5
  ·simp only [h5] at h
   simp [List.isEmpty_iff] at h
   exact mk (nil_size _ h.1.1) (by omega)
  by_cases h6 : e.kind = 6
  ·simp only [h6] at h
   simp [List.isEmpty_iff] at h
   exact mk (nil_size _ h.1.1.1) (by rw [h.1.1.2]; simp)
  by_cases h7 : e.kind = 7
  ·simp only [h7] at h
   simp [List.isEmpty_iff] at h
   exact mk (prim_size h.2) (by rw [h.1]; simp)
  by_cases h8 : e.kind = 8
  ·simp only [h8] at h
   simp [List.isEmpty_iff] at h
   exact mk (nil_size _ h.1) (by omega)
  by_cases h9 : e.kind = 9
  ·simp only [h9] at h
   simp [List.isEmpty_iff] at h
   exact mk (nil_size _ h.1) (by omega)
  by_cases h10 : e.kind = 10
  ·simp only [h10] at h
   simp [List.isEmpty_iff] at h
   exact mk (nil_size _ h.1.1.1) (by omega)
  simp only [h1, h2, h3, h4, h5, h6, h7, h8, h9, h10, if_false] at h
  cases h
theorem all_kid {F : Ex → Bool} {e x : Ex} (h : Ex.all F e = true) (hx : x ∈ e.kids) : Ex.all F x = true := ((Ex.all_iff F e).1 h).2 x hx
theorem fit_of_form (e : Ex) : Ex.all Ex.form e = true → e.size ≤ 1000000 → Ex.Fit e := by
 induction e using Ex.byKids with
 | h e ih =>
  intro h hs
  have P := form_parts ((Ex.all_iff Ex.form e).1 h).1
  have h1 := Ex.size_eq e
  have h2 := Ex.sizes_len e.kids
  have hk : ∀ x ∈ e.kids, Ex.Fit x := fun x hx => ih x hx (all_kid h hx) (by have := Ex.size_mem _ _ hx; omega)
  have ht := P.thin
  have hq := Ex.Fit.mk e.kind e.name e.names e.const e.kids P.name P.names (by simp only [maxLen]; omega) P.fit (by simp only [maxLen]; omega) hk
  rw [Ex.eta] at hq
  exact hq
theorem few_of_form (e : Ex) (h : Ex.all Ex.form e = true) (hs : e.size ≤ 100000) : Few e ∧ Ex.all thin e = true := by
 have key : ∀ e : Ex, Ex.all Ex.form e = true → e.size ≤ 100000 → Ex.all fewN e = true ∧ Ex.all thin e = true := by
  intro e
  induction e using Ex.byKids with
  | h e ih =>
   intro h hs
   have P := form_parts ((Ex.all_iff Ex.form e).1 h).1
   have h1 := Ex.size_eq e
   have h2 := Ex.sizes_len e.kids
   have hk : ∀ x ∈ e.kids, _ := fun x hx => ih x hx (all_kid h hx) (by have := Ex.size_mem _ _ hx; omega)
   have ht := P.thin
   refine ⟨(Ex.all_iff _ _).2 ⟨?_, fun x hx => (hk x hx).1⟩, (Ex.all_iff _ _).2 ⟨decide_eq_true ht, fun x hx => (hk x hx).2⟩⟩
   unfold fewN
   rw [P.list, decide_eq_true (by omega)]
   rfl
 exact ⟨⟨hs, (key e h hs).1⟩, (key e h hs).2⟩
theorem anyNo_not (l : List Ex) : (!anyNo l) = l.all fun x => decide (x.kind = 5) := by
 unfold anyNo
 induction l with
 | nil => rfl
 | cons x l ih => simp only [List.any_cons, List.all_cons, Bool.not_or, ih, Bool.not_not]
theorem wrap_len {K n : Nat} (hK : K ≤ 9223372036854775807) (hn : n ≤ 9223372036854775807) : (¬ ((K : Int) < IntKind.i64.wrap ((n : Int) + 1)) ∧ ¬ (IntKind.i64.wrap ((n : Int) + 1) < (K : Int))) ↔ K = n + 1 := by
 rw [IntKind.wrap_i64]
 constructor
 ·rintro ⟨h1, h2⟩
  omega
 ·rintro rfl
  omega
theorem formC_split (e : Ex) : formC e = true ↔ ((shOk e.kind e.name e.names.length = true ∧ ¬ ((e.kids.length : Int) < shFr e.kind e.name e.names.length) ∧ ¬ (shTo e.kind e.name e.names.length < (e.kids.length : Int)) ∧ (0 < e.names.length → shNs e.kind = true) ∧ Ex.namesB e.names = true) ∧ (shN e.kind = true → e.kind ≠ 7 → Nm.nameB e.name = true) ∧ (shN e.kind = false → e.name = ⟨#[]⟩) ∧
  (if e.kind = 0 then Ex.constB e.const = true else ((e.kind = 10 → (e.kids.take e.names.length).all (fun x => decide (x.kind = 5)) = true) ∧ Dt.same e.const Dt.zero = true))) := by
 have h2 : bad2 (shOk e.kind e.name e.names.length) (shNs e.kind) (shFr e.kind e.name e.names.length) (shTo e.kind e.name e.names.length) e.kids.length e.names.length (Ex.namesB e.names) = false ↔ (shOk e.kind e.name e.names.length = true ∧ ¬ ((e.kids.length : Int) < shFr e.kind e.name e.names.length) ∧ ¬ (shTo e.kind e.name e.names.length < (e.kids.length : Int)) ∧ (0 < e.names.length → shNs e.kind = true) ∧ Ex.namesB e.names = true) := by
  unfold bad2
  simp only [Bool.or_eq_false_iff, Bool.not_eq_false', decide_eq_false_iff_not, Bool.and_eq_false_iff]
  constructor
  ·rintro ⟨⟨⟨⟨a, b⟩, c⟩, d⟩, f⟩
   exact ⟨a, b, c, fun hp => d.resolve_left (by omega), f⟩
  ·rintro ⟨a, b, c, d, f⟩
   refine ⟨⟨⟨⟨a, b⟩, c⟩, ?_⟩, f⟩
   by_cases hp : 0 < e.names.length
   ·exact .inr (d hp)
   ·exact .inl (by omega)
 have h4 : bad4 (shN e.kind) e.kind e.name = false ↔ (shN e.kind = true → e.kind ≠ 7 → Nm.nameB e.name = true) ∧ (shN e.kind = false → e.name = ⟨#[]⟩) := by
  unfold bad4
  cases shN e.kind <;> simp
 unfold formC
 cases hb2 : bad2 (shOk e.kind e.name e.names.length) (shNs e.kind) (shFr e.kind e.name e.names.length) (shTo e.kind e.name e.names.length) e.kids.length e.names.length (Ex.namesB e.names) with
 | true =>
  rw [if_pos rfl, ← h2, hb2]
  simp
 | false =>
  rw [if_neg (by simp), ← h2, hb2]
  cases hb4 : bad4 (shN e.kind) e.kind e.name with
  | true =>
   rw [if_pos rfl]
   constructor
   ·intro h; cases h
   ·rintro ⟨_, a, b, _⟩
    rw [h4.2 ⟨a, b⟩] at hb4
    cases hb4
  | false =>
   obtain ⟨a, b⟩ := h4.1 hb4
   rw [if_neg (by simp)]
   by_cases h0 : e.kind = 0
   ·rw [if_pos h0, if_pos h0]
    exact ⟨fun h => ⟨rfl, a, b, h⟩, fun h => h.2.2.2⟩
   ·rw [if_neg h0, if_neg h0]
    unfold last9
    rw [anyNo_not, Bool.and_eq_true, Bool.or_eq_true]
    constructor
    ·rintro ⟨h1, h2⟩
     exact ⟨rfl, a, b, fun hk => h1.resolve_left (by simp [hk]), h2⟩
    ·rintro ⟨_, _, _, h1, h2⟩
     refine ⟨?_, h2⟩
     by_cases hk : e.kind = 10
     ·exact .inr (h1 hk)
     ·exact .inl (by simp [hk])
theorem formC_iff (e : Ex) (hkl : e.kids.length ≤ 9223372036854775807) (hnl : e.names.length ≤ 9223372036854775807) : formC e = true ↔ Ex.form e = true ∧ (e.kind = 4 → e.kids.length ≤ 4096) := by
 rw [formC_split]
 have hnil : Ex.namesB [] = true := Ex.namesB_nil
 have hw := wrap_len hkl hnl
 unfold Ex.form shOk shFr shTo shN shNs
 have e1 : e.kids.isEmpty = decide (e.kids.length = 0) := by cases e.kids <;> simp
 have e2 : e.names.isEmpty = decide (e.names.length = 0) := by cases e.names <;> simp
 have hnn : e.names.length = 0 → Ex.namesB e.names = true := fun h => by rw [List.length_eq_zero_iff.1 h]; exact hnil
 rw [e1, e2]
 clear e1 e2 hnil
 generalize ((e.kids.take e.names.length).all fun x => decide (x.kind = 5)) = TA at *
 generalize Ex.namesB e.names = NB at *
 generalize Nm.nameB e.name = NM at *
 generalize Dt.same e.const Dt.zero = Z at *
 generalize Ex.constB e.const = CB at *
 generalize IntKind.i64.wrap ((e.names.length : Int) + 1) = W at *
 generalize Ex.arity e.name = AR at *
 generalize e.kids.length = K at *
 generalize e.names.length = n at *
 generalize e.kind = k at *
 by_cases hP : e.name = ⟨#[]⟩
 all_goals
  simp only [hP, decide_true, decide_false]
  rcases (by omega : k = 0 ∨ k = 1 ∨ k = 2 ∨ k = 3 ∨ k = 4 ∨ k = 5 ∨ k = 6 ∨ k = 7 ∨ k = 8 ∨ k = 9 ∨ k = 10 ∨ (k < 0 ∨ 10 < k)) with rfl | rfl | rfl | rfl | rfl | rfl | rfl | rfl | rfl | rfl | rfl | hk
 case pos.inr.inr.inr.inr.inr.inr.inr.inr.inr.inr.inr | neg.inr.inr.inr.inr.inr.inr.inr.inr.inr.inr.inr =>
  have q0 : k ≠ 0 := by omega
  have q1 : k ≠ 1 := by omega
  have q2 : k ≠ 2 := by omega
  have q3 : k ≠ 3 := by omega
  have q4 : k ≠ 4 := by omega
  have q5 : k ≠ 5 := by omega
  have q6 : k ≠ 6 := by omega
  have q7 : k ≠ 7 := by omega
  have q8 : k ≠ 8 := by omega
  have q9 : k ≠ 9 := by omega
  have q10 : k ≠ 10 := by omega
  have h1 : (decide (0 ≤ k) && decide (k ≤ 10)) = false := by
   rcases hk with h | h
   ·rw [decide_eq_false (by omega)]; rfl
   ·rw [decide_eq_false (p := k ≤ 10) (by omega)]; simp
  simp [q0, q1, q2, q3, q4, q5, q6, q7, q8, q9, q10, h1]
 all_goals
  clear hP
  cases NB <;> cases NM <;> cases Z <;> cases CB <;> cases TA <;> simp at * <;> first | done | omega | trace_state
open Rn
theorem all_formC (e : Ex) : Ex.Fit e → e.size ≤ 4096 → (Ex.all formC e = true ↔ Ex.all Ex.form e = true) := by
 induction e using Ex.byKids with
 | h e ih =>
  intro hf hs
  have h1 := Ex.size_eq e
  have h2 := Ex.sizes_len e.kids
  have hF := fits_of hf
  rw [Ex.all_iff, Ex.all_iff, formC_iff e hF.kl hF.nl]
  constructor
  ·rintro ⟨⟨a, _⟩, b⟩
   exact ⟨a, fun x hx => (ih x hx (fit_kid hf hx) (by have := Ex.size_mem _ _ hx; omega)).1 (b x hx)⟩
  ·rintro ⟨a, b⟩
   exact ⟨⟨a, fun _ => by omega⟩, fun x hx => (ih x hx (fit_kid hf hx) (by have := Ex.size_mem _ _ hx; omega)).2 (b x hx)⟩
theorem chkC_zero {e : Ex} (hf : Ex.Fit e) : (Ex.chk formC e 0 0).2 = 0 ↔ Ex.ok e = true := by
 rw [Ex.ok_iff, (Ex.chk_ok formC _ e (Nat.le_refl _) 0 0 (by omega)).2.1]
 constructor
 ·rintro ⟨a, b, c⟩
  exact ⟨(all_formC e hf (by omega)).1 a, by omega, by omega⟩
 ·rintro ⟨a, b, c⟩
  exact ⟨(all_formC e hf c).2 a, by omega, by omega⟩
theorem few_of_ok {e : Ex} (h : Ex.ok e = true) : Few e ∧ Ex.all thin e = true := by
 obtain ⟨a, b, c⟩ := (Ex.ok_iff e).1 h
 exact few_of_form e a (by omega)
def ToldPost (e : Ex) (w : World) (en : Ending) (w' : World) : Prop :=
 (Ex.ok e = true ∧ ∃ x : XM, x.e = e ∧ en = .returned (.tuple #[x.val, .int .i64 0]) ∧ On (fun b => w.heap.size ≤ b) w' (fun w => ExAt w x.val x.e) ∧ Below w.heap.size w w') ∨ (Ex.ok e = false ∧ en = .returned (.tuple #[zeroV, .int .i64 101]) ∧ Below w.heap.size w w')
set_option maxHeartbeats 16000000 in
theorem told_any (e : Ex) {w : World} {na : Option Addr} {nc : Nat} {da : Option Addr} {dn dc : Nat} {ka : Option Addr} {kc : Nat} (hf : Ex.Fit e) (ho : Op w e na nc da dn dc ka kc) :
  Calls Tryz.prog 24 #[.agg #[.int .i64 e.kind, .string e.name, .slice na e.names.length nc, .int .i64 e.const.kind, .int .i64 e.const.int, .string e.const.text, .slice da dn dc, .slice ka e.kids.length kc]] w (ToldPost e w) := by
 obtain ⟨w1, B1⟩ := boxedE w e na nc da dn dc ka kc
 obtain ⟨w2, B2⟩ := boxed w1 #[.int .i64 0, .string ⟨#[]⟩, .slice none 0 0, .int .i64 0, .int .i64 0, .string ⟨#[]⟩, .slice none 0 0, .slice none 0 0] 28
 have hB02 : Below w.heap.size w w2 := B1.below.trans (B2.below.mono B1.below.size)
 have hsz2 : w2.heap.size = w.heap.size + 2 := by rw [B2.size, B1.size]
 have hZ : w2.heap[w.heap.size + 1]? = some (.cells #[.int .i64 0, .string ⟨#[]⟩, .slice none 0 0, .int .i64 0, .int .i64 0, .string ⟨#[]⟩, .slice none 0 0, .slice none 0 0] 28 (0, 0)) := by
  have := B2.blk
  rw [B1.size] at this
  exact this
 have hP := (B2.below.block _ (by rw [B1.size]; omega)).trans B1.blk
 have HBA := hid B1
 have HBB := hid B2
 have HZB := hid hZ
 have HPB := hid hP
 have HB02 := hid hB02
 have HS2 := hid hsz2
 have HO := hid ho
 have HCK := hid (pCheck_any e hf (ho.bel hB02))
 have HCZ := hid (chkC_zero hf)
 obtain ⟨f, hfv⟩ : ∃ f, (Ex.chk formC e 0 0).2 = f := ⟨_, rfl⟩
 rw [hfv] at HCK HCZ
 obtain ⟨x0, x1, x2, x3, x4, x5, x6, x7, hbl⟩ := Row.of hP
 clear B1 B2 hB02 hsz2 hZ hP ho hf hfv
 go_enter Tryz.func24, Tryz.ntmps24
 go_upto_region 1 with fail
 rw [← HBA.out.eq, ← HBB.out.eq]
 by_cases hz : f = 0
 ·have hok := HCZ.out.1 hz
  subst hz
  have HOK := hid hok
  have HFW := hid (few_of_ok hok).1
  clear hok
  go_wp2_with (first
   | (go_at_call 23; (with_reducible refine HCK.out.mono ?_); rintro e2 w3 ⟨rfl, hb3⟩; have hp3 := (hb3.block w.heap.size (by rw [HS2.out]; omega)).trans HPB.out; have HZ3 := hid ((hb3.block (w.heap.size + 1) (by rw [HS2.out]; omega)).trans HZB.out); have HB3 : Hid (Below w.heap.size w w3) := HB02.out.trans (hb3.mono HB02.out.size); have hs3 : w.heap.size + 2 ≤ w3.heap.size := (by have h1 := hb3.size; have h2 := HS2.out; omega); have HS3 := hid hs3; obtain ⟨y0, y1, y2, y3, y4, y5, y6, y7, ybl⟩ := Row.of hp3; have HCP := hid (copied_any w e HFW.out HO.out HB3.out); unfold MadePost at HCP; clear hb3 hp3 hs3)
   | (go_at_call 41; (with_reducible refine HCP.out.mono ?_); rintro e2 w5 ⟨⟨xe, xn, xd, xk⟩, hxe, rfl, hon, hb5⟩; obtain ⟨⟨an, nnn, cn, hs1⟩, ⟨ad, ndn, cd, hs2⟩, ⟨ak, nkn, ck, hs3⟩⟩ := ExAt.slices hon.at; dsimp only at hxe hs1 hs2 hs3 hon; subst hxe hs1 hs2 hs3; unfold XM.val exV; dsimp only; have HON := hid hon; have HB5 := hid hb5; have hz5 := (hb5.block (w.heap.size + 1) (by have := HS3.out; omega)).trans HZ3.out; have HZ5 := hid hz5; obtain ⟨⟨_, s0⟩, ⟨_, s1⟩, ⟨_, s2⟩, ⟨_, s3⟩, ⟨_, s4⟩, ⟨_, s5⟩, ⟨_, s6⟩, ⟨_, s7⟩, q0, q1, q2, q3, q4, q5, q6, q7, sbl⟩ := blk8 hz5; clear hon hb5 hz5)
   | fail)
  refine bodyPost_ret (res2 rfl _ _ (w.heap.size + 1) 28 #[.int .i64 xe.kind, .string xe.name, .slice an nnn cn, .int .i64 xe.const.kind, .int .i64 xe.const.int, .string xe.const.text, .slice ad ndn cd, .slice ak nkn ck] (0, 0) rfl (eight_set _ _ _ _ _ _ _ _ _ _ _ (.int .i64 xe.kind) (.string xe.name) (.slice an nnn cn) (.int .i64 xe.const.kind) (.int .i64 xe.const.int) (.string xe.const.text) (.slice ad ndn cd) (.slice ak nkn ck) HZ5.out) exprD exprSize) rfl ?_
  show ToldPost xe w _ (put8 w5 (w.heap.size + 1) (.int .i64 xe.kind) (.string xe.name) (.slice an nnn cn) (.int .i64 xe.const.kind) (.int .i64 xe.const.int) (.string xe.const.text) (.slice ad ndn cd) (.slice ak nkn ck))
  have hs3 := HS3.out
  have hnot : ¬ (fun b => b < 0 ∨ w3.heap.size ≤ b) (w.heap.size + 1) := fun h => by
   have h : w.heap.size + 1 < 0 ∨ w3.heap.size ≤ w.heap.size + 1 := h
   omega
  exact .inl ⟨HOK.out, ⟨xe, .slice an nnn cn, .slice ad ndn cd, .slice ak nkn ck⟩, rfl, rfl, (on_put8 HON.out hnot _ _ _ _ _ _ _ _).mono (fun b hb _ => hb.elim (fun h => by omega) fun h => by show w.heap.size ≤ b; omega), below_put8 (HB3.out.trans (HB5.out.mono HB3.out.size)) (Nat.le_succ _) _ _ _ _ _ _ _ _⟩
 ·have hok : Ex.ok e = false := by
   rw [Bool.eq_false_iff]
   exact fun h => hz (HCZ.out.2 h)
  have HOK := hid hok
  have kz : (f != 0) = true := by rw [bne_iff_ne]; exact hz
  clear hok hz
  go_wp2_with (first
   | (go_at_call 23; (with_reducible refine HCK.out.mono ?_); rintro e2 w3 ⟨rfl, hb3⟩; have hz3 := (hb3.block (w.heap.size + 1) (by rw [HS2.out]; omega)).trans HZB.out; have HZ3 := hid hz3; have HB3 : Hid (Below w.heap.size w w3) := HB02.out.trans (hb3.mono HB02.out.size); obtain ⟨⟨_, s0⟩, ⟨_, s1⟩, ⟨_, s2⟩, ⟨_, s3⟩, ⟨_, s4⟩, ⟨_, s5⟩, ⟨_, s6⟩, ⟨_, s7⟩, q0, q1, q2, q3, q4, q5, q6, q7, sbl⟩ := blk8 hz3; clear hb3 hz3)
   | fail)
  refine bodyPost_ret (res2 rfl _ _ (w.heap.size + 1) 28 #[.int .i64 0, .string ⟨#[]⟩, .slice none 0 0, .int .i64 0, .int .i64 0, .string ⟨#[]⟩, .slice none 0 0, .slice none 0 0] (0, 0) rfl (eight_set _ _ _ _ _ _ _ _ _ _ _ (.int .i64 0) (.string ⟨#[]⟩) (.slice none 0 0) (.int .i64 0) (.int .i64 0) (.string ⟨#[]⟩) (.slice none 0 0) (.slice none 0 0) HZ3.out) exprD exprSize) rfl ?_
  show ToldPost e w _ (put8 w3 (w.heap.size + 1) (.int .i64 0) (.string ⟨#[]⟩) (.slice none 0 0) (.int .i64 0) (.int .i64 0) (.string ⟨#[]⟩) (.slice none 0 0) (.slice none 0 0))
  exact .inr ⟨HOK.out, rfl, below_put8 HB3.out (Nat.le_succ _) _ _ _ _ _ _ _ _⟩
structure GrS (R : Nat → Prop) (w : World) (ρ : Nat → Nat) (w' : World) (ρ' : Nat → Nat) : Prop where
 os : w'.os = w.os
 tape : w'.tape = w.tape
 output : w'.output = w.output
 size : w.heap.size ≤ w'.heap.size
 keep : ∀ b, b < w.heap.size → ¬ R (ρ b) → w'.heap[b]? = w.heap[b]?
 role : ∀ b, b < w.heap.size → ρ' b = ρ b
theorem Gr.toS {r : Nat} {R : Nat → Prop} {w w' : World} {ρ ρ' : Nat → Nat} (h : Gr r w ρ w' ρ') (hr : R r) : GrS R w ρ w' ρ' :=
 ⟨h.os, h.tape, h.output, h.size, fun b hb hn => h.keep b hb fun e => hn (by rw [e]; exact hr), h.role⟩
theorem GrS.trans {R : Nat → Prop} {a b d : World} {ρ ρ' ρ'' : Nat → Nat} (h : GrS R a ρ b ρ') (k : GrS R b ρ' d ρ'') : GrS R a ρ d ρ'' :=
 ⟨k.os.trans h.os, k.tape.trans h.tape, k.output.trans h.output, Nat.le_trans h.size k.size, fun i hi hc => (k.keep i (Nat.lt_of_lt_of_le hi h.size) (by rw [h.role i hi]; exact hc)).trans (h.keep i hi hc), fun i hi => (k.role i (Nat.lt_of_lt_of_le hi h.size)).trans (h.role i hi)⟩
theorem GrS.of_bel {R : Nat → Prop} {w w' : World} {ρ : Nat → Nat} (hb : Below w.heap.size w w') : GrS R w ρ w' ρ := ⟨hb.os, hb.tape, hb.output, hb.size, fun b hl _ => hb.block b hl, fun _ _ => rfl⟩
theorem GrS.bel {R : Nat → Prop} {N : Nat} {w w' : World} {ρ ρ' : Nat → Nat} (h : GrS R w ρ w' ρ') (hN : ∀ b, b < N → ¬ R (ρ b)) (hl : N ≤ w.heap.size) : Below N w w' :=
 ⟨h.os, h.tape, h.output, h.size, fun b hb => h.keep b (Nat.lt_of_lt_of_le hb hl) (hN b hb)⟩
theorem own_ne {w : World} {B e size n : Nat} {v : Value} {xs : List Value} (h : w.ownsRow B e size v (n + 1) xs) : ∃ g c, v = .slice (some ⟨g, 0, none⟩) (n + 1) c := by
 rcases own_shape h with ⟨_, e2, _⟩ | ⟨g, c, e, _⟩
 ·omega
 ·exact ⟨g, c, e⟩
theorem set_tail (A Z : List Value) (k i : Nat) (hk : A.length = k) (u : Value) : (A ++ Z).set (k + i) u = A ++ Z.set i u := by
 rw [List.set_append_right _ _ (by omega)]
 congr 2
 omega
set_option maxHeartbeats 2000000 in
theorem prim_any' (s : ByteArray) (a : Option Addr) (n c : Nat) (w : World) : Calls Tryz.prog 45 #[.string s, .slice a n c] w fun en w' => en = .returned (.agg #[.int .i64 7, .string s, .slice none 0 0, .int .i64 0, .int .i64 0, .string ⟨#[]⟩, .slice none 0 0, .slice a n c]) ∧ Below w.heap.size w w' := by
 go_enter Tryz.func45, Tryz.ntmps45
 go_wp2_with fail
 refine bodyPost_ret (res1 rfl _ _ w.heap.size 28 #[.int .i64 7, .string s, .slice none 0 0, .int .i64 0, .int .i64 0, .string ⟨#[]⟩, .slice none 0 0, .slice a n c] (0, 0) rfl (heap_alloc_new w _) exprD exprSize) rfl ?_
 exact ⟨rfl, (Below.refl _ _).alloc (Nat.le_refl _) _⟩
structure RowC (w : World) (g : Nat) (x : XM) (o : Nat) : Prop where
 c0 : w.cell? ⟨g, o, none⟩ = some (.int .i64 x.e.kind)
 c1 : w.cell? ⟨g, o + 1, none⟩ = some (.string x.e.name)
 c2 : w.cell? ⟨g, o + 2, none⟩ = some x.nv
 c3 : w.cell? ⟨g, o + 3, none⟩ = some (.int .i64 x.e.const.kind)
 c4 : w.cell? ⟨g, o + 4, none⟩ = some (.int .i64 x.e.const.int)
 c5 : w.cell? ⟨g, o + 5, none⟩ = some (.string x.e.const.text)
 c6 : w.cell? ⟨g, o + 6, none⟩ = some x.dl
 c7 : w.cell? ⟨g, o + 7, none⟩ = some x.kv
theorem rowC {w : World} {B n g c : Nat} {M : List XM} (h : w.ownsRow B 28 8 (.slice (some ⟨g, 0, none⟩) n c) n (flatX M)) {i : Nat} {x : XM} (hx : M[i]? = some x) : RowC w g x (i * 8) := by
 have hc := h.cells (g := g) rfl
 have hh := fun j (hj : j < 8) u (hu : x.cells[j]? = some u) => hc (i * 8 + j) u ((flatX_at M i x hx j hj).trans hu)
 have e : ∀ j, (⟨g, 0, none⟩ : Addr).add j = ⟨g, j, none⟩ := fun j => by rw [Addr.add_mid, Nat.zero_add]
 refine ⟨?_, ?_, ?_, ?_, ?_, ?_, ?_, ?_⟩
 ·have := hh 0 (by omega) _ rfl; rw [e] at this; exact this
 ·have := hh 1 (by omega) _ rfl; rw [e] at this; exact this
 ·have := hh 2 (by omega) _ rfl; rw [e] at this; exact this
 ·have := hh 3 (by omega) _ rfl; rw [e] at this; exact this
 ·have := hh 4 (by omega) _ rfl; rw [e] at this; exact this
 ·have := hh 5 (by omega) _ rfl; rw [e] at this; exact this
 ·have := hh 6 (by omega) _ rfl; rw [e] at this; exact this
 ·have := hh 7 (by omega) _ rfl; rw [e] at this; exact this
def Sliced (x : XM) : Prop := (∃ a n c, x.nv = .slice a n c) ∧ (∃ a n c, x.dl = .slice a n c) ∧ ∃ a n c, x.kv = .slice a n c
theorem sliced_at {w : World} {x : XM} (h : ExAt w x.val x.e) : Sliced x := ExAt.slices h
theorem own_ne5 {w : World} {B e size n : Nat} {v : Value} {xs : List Value} (h : w.ownsRow B e size v (0 + n + 1) xs) : ∃ g c, v = .slice (some ⟨g, 0, none⟩) (0 + n + 1) c := own_ne h
theorem own_le {w : World} {B B' e size n : Nat} {v : Value} {xs : List Value} (h : w.ownsRow B e size v n xs) (hB : B' ≤ B) : w.ownsRow B' e size v n xs := by
 obtain ⟨h1, h2 | ⟨g, cap, cur, e1, e2, h⟩⟩ := h
 ·exact ⟨h1, .inl h2⟩
 ·exact ⟨h1, .inr ⟨g, cap, cur, e1, Nat.le_trans hB e2, h⟩⟩
theorem let_one {w2 wa w4 : World} {g n : Nat} {v : Value} {M : List XM} (hown : w4.ownsRow w2.heap.size 28 8 v n ([] ++ flatX M)) (hg : wa.grownBy w4 (some g)) (hb : Below w2.heap.size w2 wa) {k : Nat} (hz : wa.heap.size = w2.heap.size + k) (hk : 0 ≤ k) (hgl : w2.heap.size ≤ g) : w4.ownsRow w2.heap.size 28 8 v n (flatX M) ∧ Below w2.heap.size w2 w4 :=
 ⟨by simpa using hown, hb.grown hg (by omega) fun q hq => by cases hq; exact hgl⟩
theorem let_two {w2 w4 wa w5 : World} {v4 v5 : Value} {n m : Nat} {M : List XM} {y : XM} (h : w4.ownsRow w2.heap.size 28 8 v4 n (flatX M) ∧ Below w2.heap.size w2 w4) (hown : w5.ownsRow w2.heap.size 28 8 v5 m (flatX M ++ y.cells)) (hg : wa.grownBy w5 v4.ownBlock) (hb : Below w4.heap.size w4 wa) : w5.ownsRow w2.heap.size 28 8 v5 m (flatX (M ++ [y])) ∧ Below w2.heap.size w2 w5 :=
 ⟨by rw [flatX_app, flatX_one]; exact hown, (h.2.trans (hb.mono h.2.size)).grown hg (Nat.le_trans h.2.size hb.size) fun q hq => (h.1.lt q hq).1⟩
def LetPost (l : List ByteArray) (nv : Value) (M : List XM) (y : XM) (w : World) (en : Ending) (w' : World) : Prop :=
 (l.length = 0 ∧ en = .returned y.val ∧ Below w.heap.size w w') ∨ (l.length ≠ 0 ∧ ∃ g c, en = .returned (.agg #[.int .i64 8, .string ⟨#[]⟩, nv, .int .i64 0, .int .i64 0, .string ⟨#[]⟩, .slice none 0 0, .slice (some ⟨g, 0, none⟩) (M.length + 1) c]) ∧ w'.ownsRow w.heap.size 28 8 (.slice (some ⟨g, 0, none⟩) (M.length + 1) c) (M.length + 1) (flatX (M ++ [y])) ∧ Below w.heap.size w w')
theorem let_end {l : List ByteArray} {ll : Nat} {na : Option Addr} {nc g5 c5 : Nat} {M : List XM} {y : XM} {w w2 w5 : World} (hll : l.length = ll) (h0 : ¬ l.length = 0) (hb : Below w.heap.size w w2) (hs : w2.heap.size = w.heap.size + 2) (h : w5.ownsRow w2.heap.size 28 8 (.slice (some ⟨g5, 0, none⟩) (0 + M.length + 1) c5) (0 + M.length + 1) (flatX (M ++ [y])) ∧ Below w2.heap.size w2 w5) :
  LetPost l (.slice na ll nc) M y w (.returned (.agg #[.int .i64 8, .string ⟨#[]⟩, .slice na ll nc, .int .i64 0, .int .i64 0, .string ⟨#[]⟩, .slice none 0 0, .slice (some ⟨g5, 0, none⟩) (M.length + 1) c5])) (put8 w5 (w.heap.size + 1) (.int .i64 8) (.string ⟨#[]⟩) (.slice na ll nc) (.int .i64 0) (.int .i64 0) (.string ⟨#[]⟩) (.slice none 0 0) (.slice (some ⟨g5, 0, none⟩) (M.length + 1) c5)) := by
 obtain ⟨h1, h2⟩ := h
 rw [Nat.zero_add] at h1
 refine .inr ⟨h0, g5, c5, rfl, own_same (own_le h1 hb.size) fun b e => (put8_kp _ _ _ _ _ _ _ _).2 b (by have := (h1.lt b e).1; omega), below_put8 (hb.trans (h2.mono hb.size)) (Nat.le_succ _) _ _ _ _ _ _ _ _⟩
set_option maxHeartbeats 16000000 in
theorem let_any (l : List ByteArray) (M : List XM) (e : Ex) {w : World} {na : Option Addr} {nc : Nat} {ai : Option Addr} {ci : Nat} {an ad ak : Option Addr} {nn cn nd cd nk ck : Nat} (hM : w.ownsRow 0 28 8 (.slice ai M.length ci) M.length (flatX M)) (hs : ∀ x ∈ M, Sliced x) (hml : M.length ≤ 100000) :
  Calls Tryz.prog 47 #[.slice na l.length nc, .slice ai M.length ci, .agg #[.int .i64 e.kind, .string e.name, .slice an nn cn, .int .i64 e.const.kind, .int .i64 e.const.int, .string e.const.text, .slice ad nd cd, .slice ak nk ck]] w (LetPost l (.slice na l.length nc) M ⟨e, .slice an nn cn, .slice ad nd cd, .slice ak nk ck⟩ w) := by
 obtain ⟨i1, hj0, hy0, hy1, hy2⟩ := info_parts infoExpr
 have HJ := hid hj0
 have HY0 := hid hy0
 have HY1 := hid hy1
 have HY2 := hid hy2
 obtain ⟨w1, B1⟩ := boxed w #[.int .i64 e.kind, .string e.name, .slice an nn cn, .int .i64 e.const.kind, .int .i64 e.const.int, .string e.const.text, .slice ad nd cd, .slice ak nk ck] 28
 obtain ⟨w2, B2⟩ := boxed w1 #[.int .i64 0, .string ⟨#[]⟩, .slice none 0 0, .int .i64 0, .int .i64 0, .string ⟨#[]⟩, .slice none 0 0, .slice none 0 0] 28
 have hB02 : Below w.heap.size w w2 := B1.below.trans (B2.below.mono B1.below.size)
 have hsz2 : w2.heap.size = w.heap.size + 2 := by rw [B2.size, B1.size]
 have hZ : w2.heap[w.heap.size + 1]? = some (.cells #[.int .i64 0, .string ⟨#[]⟩, .slice none 0 0, .int .i64 0, .int .i64 0, .string ⟨#[]⟩, .slice none 0 0, .slice none 0 0] 28 (0, 0)) := by
  have := B2.blk
  rw [B1.size] at this
  exact this
 have hP := (B2.below.block _ (by rw [B1.size]; omega)).trans B1.blk
 have HBA := hid B1
 have HBB := hid B2
 have HZB := hid hZ
 have HPB := hid hP
 have HB02 := hid hB02
 have HS2 := hid hsz2
 have HML := hid hml
 have HBX := hid (Row.of hP)
 obtain ⟨x0, x1, x2, x3, x4, x5, x6, x7, hbl⟩ := Row.of hP
 by_cases h0 : l.length = 0
 ·have H0 := hid h0
  obtain ⟨⟨_, s0⟩, ⟨_, s1⟩, ⟨_, s2⟩, ⟨_, s3⟩, ⟨_, s4⟩, ⟨_, s5⟩, ⟨_, s6⟩, ⟨_, s7⟩, q0, q1, q2, q3, q4, q5, q6, q7, sbl⟩ := blk8 hZ
  rw [h0]
  clear B1 B2 hB02 hsz2 hZ hP hj0 hy0 hy1 hy2 hM hs hml h0
  go_enter Tryz.func47, Tryz.ntmps47
  go_upto_region 1 with fail
  rw [← HBA.out.eq, ← HBB.out.eq]
  go_wp2_with fail
  refine bodyPost_ret (res1 rfl _ _ (w.heap.size + 1) 28 #[.int .i64 e.kind, .string e.name, .slice an nn cn, .int .i64 e.const.kind, .int .i64 e.const.int, .string e.const.text, .slice ad nd cd, .slice ak nk ck] (0, 0) rfl (eight_set _ _ _ _ _ _ _ _ _ _ _ (.int .i64 e.kind) (.string e.name) (.slice an nn cn) (.int .i64 e.const.kind) (.int .i64 e.const.int) (.string e.const.text) (.slice ad nd cd) (.slice ak nk ck) HZB.out) exprD exprSize) rfl ?_
  exact .inl ⟨H0.out, rfl, below_put8 HB02.out (Nat.le_succ _) _ _ _ _ _ _ _ _⟩
 ·have H0 := hid h0
  have k0 : ((l.length : Int) == 0) = false := by rw [beq_eq_false_iff_ne]; omega
  obtain ⟨ll, hll⟩ : ∃ ll, l.length = ll := ⟨_, rfl⟩
  rw [hll] at k0
  rw [hll]
  have HLL := hid hll
  have hM2 : w2.ownsRow 0 28 8 (.slice ai M.length ci) M.length (flatX M) := own_same hM fun b e => hB02.block b (hM.lt b e).2
  have src : ∀ W, Below w2.heap.size w2 W → (ai = none ∧ ci = 0 ∧ flatX M = []) ∨ ∃ ad, ai = some ad ∧ ∀ (j : Nat) (u : Value), (flatX M)[j]? = some u → W.cell? (ad.add j) = some u := by
   intro W hW
   have hMW : W.ownsRow 0 28 8 (.slice ai M.length ci) M.length (flatX M) := own_same hM2 fun b e => hW.block b (hM2.lt b e).2
   rcases own_shape hMW with ⟨e1, e2, e3⟩ | ⟨g, c, e1, _⟩
   ·exact .inl ⟨(Value.slice.inj e1).1, (Value.slice.inj e1).2.2, e3⟩
   ·obtain ⟨e2, _, _⟩ := Value.slice.inj e1
    subst e2
    exact .inr ⟨_, rfl, hMW.cells rfl⟩
  have hbA : Below w2.heap.size w2 ((w2.alloc (.cells #[] 28)).drew) := ((Below.refl _ _).alloc (Nat.le_refl _) _).drew
  have hbB : Below w2.heap.size w2 (((w2.alloc (.cells #[] 28)).alloc (.cells #[.int .i64 e.kind, .string e.name, .slice an nn cn, .int .i64 e.const.kind, .int .i64 e.const.int, .string e.const.text, .slice ad nd cd, .slice ak nk ck] 28)).drew) := (((Below.refl _ _).alloc (Nat.le_refl _) _).alloc (by simp) _).drew
  have hbC : Below w2.heap.size w2 (((w2.alloc (.cells #[.int .i64 e.kind, .string e.name, .slice an nn cn, .int .i64 e.const.kind, .int .i64 e.const.int, .string e.const.text, .slice ad nd cd, .slice ak nk ck] 28)).alloc (.cells #[] 28)).drew) := (((Below.refl _ _).alloc (Nat.le_refl _) _).alloc (by simp) _).drew
  have HBWA := hid hbA
  have HBWB := hid hbB
  have HBWC := hid hbC
  have HZWA : Hid (((w2.alloc (.cells #[] 28)).drew).heap.size = w2.heap.size + 1) := by show (w2.alloc _).heap.size = _; simp
  have HZWB : Hid ((((w2.alloc (.cells #[] 28)).alloc (.cells #[.int .i64 e.kind, .string e.name, .slice an nn cn, .int .i64 e.const.kind, .int .i64 e.const.int, .string e.const.text, .slice ad nd cd, .slice ak nk ck] 28)).drew).heap.size = w2.heap.size + 2) := by show ((w2.alloc _).alloc _).heap.size = _; simp
  have HZWC : Hid ((((w2.alloc (.cells #[.int .i64 e.kind, .string e.name, .slice an nn cn, .int .i64 e.const.kind, .int .i64 e.const.int, .string e.const.text, .slice ad nd cd, .slice ak nk ck] 28)).alloc (.cells #[] 28)).drew).heap.size = w2.heap.size + 2) := by show ((w2.alloc _).alloc _).heap.size = _; simp
  have HSA := hid (src _ hbA)
  have HSB := hid (src _ hbB)
  have HSC := hid (src _ hbC)
  have HEA : Hid (((w2.alloc (.cells #[] 28)).drew).ownsRow w2.heap.size 28 8 (.slice (some ⟨w2.heap.size, 0, none⟩) 0 0) 0 []) := own_drewN (zero_row w2 28 8) 1
  have HEB : Hid ((((w2.alloc (.cells #[] 28)).alloc (.cells #[.int .i64 e.kind, .string e.name, .slice an nn cn, .int .i64 e.const.kind, .int .i64 e.const.int, .string e.const.text, .slice ad nd cd, .slice ak nk ck] 28)).drew).ownsRow w2.heap.size 28 8 (.slice (some ⟨w2.heap.size, 0, none⟩) 0 0) 0 []) := own_drewN ((zero_row w2 28 8).alloc _) 1
  have HEC : Hid ((((w2.alloc (.cells #[.int .i64 e.kind, .string e.name, .slice an nn cn, .int .i64 e.const.kind, .int .i64 e.const.int, .string e.const.text, .slice ad nd cd, .slice ak nk ck] 28)).alloc (.cells #[] 28)).drew).ownsRow w2.heap.size 28 8 (.slice (some ⟨w2.heap.size + 1, 0, none⟩) 0 0) 0 []) := by
   have h := zero_row (w2.alloc (.cells #[.int .i64 e.kind, .string e.name, .slice an nn cn, .int .i64 e.const.kind, .int .i64 e.const.int, .string e.const.text, .slice ad nd cd, .slice ak nk ck] 28)) 28 8
   rw [World.heap_size_alloc] at h
   exact own_drewN (own_le h (Nat.le_succ _)) 1
  have HYBA : Hid (∀ {w4 : World}, (((w2.alloc (.cells #[] 28)).drew)).grownBy w4 (some w2.heap.size) → True) := fun _ => trivial
  have HYBB : Hid (∀ {w4 : World}, ((((w2.alloc (.cells #[] 28)).alloc (.cells #[.int .i64 e.kind, .string e.name, .slice an nn cn, .int .i64 e.const.kind, .int .i64 e.const.int, .string e.const.text, .slice ad nd cd, .slice ak nk ck] 28)).drew)).grownBy w4 (some w2.heap.size) → w4.heap[w2.heap.size + 1]? = some (.cells #[.int .i64 e.kind, .string e.name, .slice an nn cn, .int .i64 e.const.kind, .int .i64 e.const.int, .string e.const.text, .slice ad nd cd, .slice ak nk ck] 28 (0, 0))) := fun hg => (hg.block (w2.heap.size + 1) (by show w2.heap.size + 1 < ((w2.alloc _).alloc _).heap.size; simp) (fun e => by have := Option.some.inj e; omega)).trans (heap_new (w := w2.alloc (.cells #[] 28)) (by simp))
  have HYBC : Hid (∀ {w4 : World}, ((((w2.alloc (.cells #[.int .i64 e.kind, .string e.name, .slice an nn cn, .int .i64 e.const.kind, .int .i64 e.const.int, .string e.const.text, .slice ad nd cd, .slice ak nk ck] 28)).alloc (.cells #[] 28)).drew)).grownBy w4 (some (w2.heap.size + 1)) → w4.heap[w2.heap.size]? = some (.cells #[.int .i64 e.kind, .string e.name, .slice an nn cn, .int .i64 e.const.kind, .int .i64 e.const.int, .string e.const.text, .slice ad nd cd, .slice ak nk ck] 28 (0, 0))) := fun hg => (hg.block w2.heap.size (by show w2.heap.size < ((w2.alloc _).alloc _).heap.size; simp; omega) (fun e => by have := Option.some.inj e; omega)).trans ((Below.heap_alloc (w2.alloc (.cells #[.int .i64 e.kind, .string e.name, .slice an nn cn, .int .i64 e.const.kind, .int .i64 e.const.int, .string e.const.text, .slice ad nd cd, .slice ak nk ck] 28)) _ w2.heap.size (by simp)).trans (heap_alloc_new w2 _))
  have HMC : Hid (∀ u ∈ flatX M, u.oneCell' = true) := by
   intro u hu
   unfold flatX at hu
   obtain ⟨x, hx, hu⟩ := List.mem_flatMap.1 hu
   obtain ⟨h1, h2, h3⟩ := hs x hx
   exact XM.oneCell x h1 h2 h3 u hu
  obtain ⟨z0, z1, z2, z3, z4, z5, z6, z7, zl⟩ := (Row.of hP).bel hbA
  clear B1 B2 hB02 hsz2 hZ hP hj0 hy0 hy1 hy2 hM hs hml h0 hll hM2 src hbA hbB hbC
  go_enter Tryz.func47, Tryz.ntmps47
  go_upto_region 1 with fail
  rw [← HBA.out.eq, ← HBB.out.eq]
  go_upto_region 3 with fail
  go_region_law (first
  | (refine step_append_v (by rfl) (.tmp 12) (.tmp 13) 26 (by rfl) w2.heap.size 28 i1 _ 8 128 Tryz.underlying26 HJ.out HY0.out HY1.out HY2.out rfl (by decide) (.slice (some ⟨w2.heap.size, 0, none⟩) 0 0) 0 [] (by rfl) HEA.out ai M.length ci (flatX M) (by rfl) (flatX_length M) HSA.out HMC.out (by have := HML.out; simp only [maxLen]; omega) (by have := HML.out; omega) (by rw [HZWA.out]; omega) (w2.heap.size + 1) HZWA.out ?_; intro a4 c4 w4 hown hgr hlb; generalize hv4 : Value.slice a4 (0 + M.length) c4 = v4 at hown hlb ⊢; clear hv4; have HN4 := hid (let_one hown hgr HBWA.out HZWA.out (by decide) (Nat.le_refl _)); obtain ⟨y0, y1, y2, y3, y4, y5, y6, y7, yl⟩ := (HBX.out).bel HN4.out.2; have HY4 := hid (HYBA.out hgr); clear hown hgr hlb)
  | (refine step_append_v (by rfl) (.tmp 12) (.tmp 13) 26 (by rfl) w2.heap.size 28 i1 _ 8 128 Tryz.underlying26 HJ.out HY0.out HY1.out HY2.out rfl (by decide) (.slice (some ⟨w2.heap.size, 0, none⟩) 0 0) 0 [] (by rfl) HEB.out ai M.length ci (flatX M) (by rfl) (flatX_length M) HSB.out HMC.out (by have := HML.out; simp only [maxLen]; omega) (by have := HML.out; omega) (by rw [HZWB.out]; omega) (w2.heap.size + 2) HZWB.out ?_; intro a4 c4 w4 hown hgr hlb; generalize hv4 : Value.slice a4 (0 + M.length) c4 = v4 at hown hlb ⊢; clear hv4; have HN4 := hid (let_one hown hgr HBWB.out HZWB.out (by decide) (Nat.le_refl _)); obtain ⟨y0, y1, y2, y3, y4, y5, y6, y7, yl⟩ := (HBX.out).bel HN4.out.2; have HY4 := hid (HYBB.out hgr); clear hown hgr hlb)
  | (refine step_append_v (by rfl) (.tmp 12) (.tmp 13) 26 (by rfl) w2.heap.size 28 i1 _ 8 128 Tryz.underlying26 HJ.out HY0.out HY1.out HY2.out rfl (by decide) (.slice (some ⟨w2.heap.size + 1, 0, none⟩) 0 0) 0 [] (by rfl) HEC.out ai M.length ci (flatX M) (by rfl) (flatX_length M) HSC.out HMC.out (by have := HML.out; simp only [maxLen]; omega) (by have := HML.out; omega) (by rw [HZWC.out]; omega) (w2.heap.size + 2) HZWC.out ?_; intro a4 c4 w4 hown hgr hlb; generalize hv4 : Value.slice a4 (0 + M.length) c4 = v4 at hown hlb ⊢; clear hv4; have HN4 := hid (let_one hown hgr HBWC.out HZWC.out (by decide) (Nat.le_succ _)); obtain ⟨y0, y1, y2, y3, y4, y5, y6, y7, yl⟩ := (HBX.out).bel HN4.out.2; have HY4 := hid (HYBC.out hgr); clear hown hgr hlb)
  | (refine step_append_v (by rfl) (.tmp 14) (.tmp 16) 26 (by rfl) w2.heap.size 28 i1 _ 8 128 Tryz.underlying26 HJ.out HY0.out HY1.out HY2.out rfl (by decide) v4 (0 + M.length) (flatX M) (by rfl) (HN4.out.1.alloc _) (some ⟨w4.heap.size, 0, none⟩) 1 1 (XM.cells ⟨e, .slice an nn cn, .slice ad nd cd, .slice ak nk ck⟩) (by rfl) (by rfl) (.inr ⟨_, rfl, (new_cells8 w4 _ _ _ _ _ _ _ _ _)⟩) (XM.oneCell ⟨e, .slice an nn cn, .slice ad nd cd, .slice ak nk ck⟩ ⟨_, _, _, rfl⟩ ⟨_, _, _, rfl⟩ ⟨_, _, _, rfl⟩) (by have := HML.out; simp only [maxLen]; omega) (by have := HML.out; omega) (by have := HN4.out.2.size; simp only [World.heap_size_alloc]; omega) (w4.heap.size + 1) (by simp) ?_; intro a5 c5 w5 hown hgr hlb; obtain ⟨g5, c5', e5⟩ := own_ne5 hown; cases e5; have HN5 := hid (let_two HN4.out hown hgr ((Below.refl _ _).alloc (Nat.le_refl _) _)); have hz5 := ((HN5.out.2).block (w.heap.size + 1) (by rw [HS2.out]; omega)).trans HZB.out; have HZ5 := hid hz5; obtain ⟨⟨_, s0⟩, ⟨_, s1⟩, ⟨_, s2⟩, ⟨_, s3⟩, ⟨_, s4⟩, ⟨_, s5⟩, ⟨_, s6⟩, ⟨_, s7⟩, q0, q1, q2, q3, q4, q5, q6, q7, sbl⟩ := blk8 hz5; clear hown hgr hlb hz5)
  | (refine step_append_v (by rfl) (.tmp 14) (.tmp 16) 26 (by rfl) w2.heap.size 28 i1 _ 8 128 Tryz.underlying26 HJ.out HY0.out HY1.out HY2.out rfl (by decide) v4 (0 + M.length) (flatX M) (by rfl) HN4.out.1 (some ⟨(w2.heap.size + 1), 0, none⟩) 1 1 (XM.cells ⟨e, .slice an nn cn, .slice ad nd cd, .slice ak nk ck⟩) (by rfl) (by rfl) (.inr ⟨_, rfl, (World.news_of_block HY4.out)⟩) (XM.oneCell ⟨e, .slice an nn cn, .slice ad nd cd, .slice ak nk ck⟩ ⟨_, _, _, rfl⟩ ⟨_, _, _, rfl⟩ ⟨_, _, _, rfl⟩) (by have := HML.out; simp only [maxLen]; omega) (by have := HML.out; omega) HN4.out.2.size w4.heap.size rfl ?_; intro a5 c5 w5 hown hgr hlb; obtain ⟨g5, c5', e5⟩ := own_ne5 hown; cases e5; have HN5 := hid (let_two HN4.out hown hgr (Below.refl _ _)); have hz5 := ((HN5.out.2).block (w.heap.size + 1) (by rw [HS2.out]; omega)).trans HZB.out; have HZ5 := hid hz5; obtain ⟨⟨_, s0⟩, ⟨_, s1⟩, ⟨_, s2⟩, ⟨_, s3⟩, ⟨_, s4⟩, ⟨_, s5⟩, ⟨_, s6⟩, ⟨_, s7⟩, q0, q1, q2, q3, q4, q5, q6, q7, sbl⟩ := blk8 hz5; clear hown hgr hlb hz5)
  | (refine step_append_v (by rfl) (.tmp 14) (.tmp 16) 26 (by rfl) w2.heap.size 28 i1 _ 8 128 Tryz.underlying26 HJ.out HY0.out HY1.out HY2.out rfl (by decide) v4 (0 + M.length) (flatX M) (by rfl) HN4.out.1 (some ⟨w2.heap.size, 0, none⟩) 1 1 (XM.cells ⟨e, .slice an nn cn, .slice ad nd cd, .slice ak nk ck⟩) (by rfl) (by rfl) (.inr ⟨_, rfl, (World.news_of_block HY4.out)⟩) (XM.oneCell ⟨e, .slice an nn cn, .slice ad nd cd, .slice ak nk ck⟩ ⟨_, _, _, rfl⟩ ⟨_, _, _, rfl⟩ ⟨_, _, _, rfl⟩) (by have := HML.out; simp only [maxLen]; omega) (by have := HML.out; omega) HN4.out.2.size w4.heap.size rfl ?_; intro a5 c5 w5 hown hgr hlb; obtain ⟨g5, c5', e5⟩ := own_ne5 hown; cases e5; have HN5 := hid (let_two HN4.out hown hgr (Below.refl _ _)); have hz5 := ((HN5.out.2).block (w.heap.size + 1) (by rw [HS2.out]; omega)).trans HZB.out; have HZ5 := hid hz5; obtain ⟨⟨_, s0⟩, ⟨_, s1⟩, ⟨_, s2⟩, ⟨_, s3⟩, ⟨_, s4⟩, ⟨_, s5⟩, ⟨_, s6⟩, ⟨_, s7⟩, q0, q1, q2, q3, q4, q5, q6, q7, sbl⟩ := blk8 hz5; clear hown hgr hlb hz5)
  | fail)
  all_goals
   go_wp2_with fail
   refine bodyPost_ret (res1 rfl _ _ (w.heap.size + 1) 28 #[.int .i64 8, .string ⟨#[]⟩, .slice na ll nc, .int .i64 0, .int .i64 0, .string ⟨#[]⟩, .slice none 0 0, .slice (some ⟨g5, 0, none⟩) (M.length + 1) c5] (0, 0) rfl (eight_set _ _ _ _ _ _ _ _ _ _ _ (.int .i64 8) (.string ⟨#[]⟩) (.slice na ll nc) (.int .i64 0) (.int .i64 0) (.string ⟨#[]⟩) (.slice none 0 0) (.slice (some ⟨g5, 0, none⟩) (M.length + 1) c5) HZ5.out) exprD exprSize) rfl ?_
   exact let_end HLL.out H0.out HB02.out HS2.out HN5.out
end Ew
mutual
theorem Dt.same_self : ∀ d : Dt, Dt.same d d = true
 | .mk k i t l => by
  rw [Dt.same, Dt.sames_self l]
  simp
theorem Dt.sames_self : ∀ l : List Dt, Dt.sames l l = true
 | [] => by rw [Dt.sames]
 | x :: l => by
  rw [Dt.sames, Dt.same_self x, Dt.sames_self l]
  rfl
end
namespace Ew
open Rn
set_option maxHeartbeats 4000000 in
theorem ralike_yes (e : Int) (o : ByteArray) (d : Dt) (l1 l2 : Value) (ok : Bool) (st1 st2 : Int) (w : World) (hs : Dt.Short d)
  (h1 : DtAt w (fun _ => True) (.agg #[.int .i64 d.kind, .int .i64 d.int, .string d.text, l1]) d) (h2 : DtAt w (fun _ => True) (.agg #[.int .i64 d.kind, .int .i64 d.int, .string d.text, l2]) d) :
  Calls Tryz.prog 35 #[.agg #[.int .i64 e, .string o, .int .i64 d.kind, .int .i64 d.int, .string d.text, l1, .bool ok, .int .i64 st1], .agg #[.int .i64 e, .string o, .int .i64 d.kind, .int .i64 d.int, .string d.text, l2, .bool ok, .int .i64 st2]] w (Says (.bool true) w) := by
 have H1 := hid h1
 have H2 := hid h2
 have HS := hid hs
 clear h1 h2 hs
 obtain ⟨w1, B1⟩ := boxed w #[.int .i64 e, .string o, .int .i64 d.kind, .int .i64 d.int, .string d.text, l1, .bool ok, .int .i64 st1] 51
 obtain ⟨w2, B2⟩ := boxed w1 #[.int .i64 e, .string o, .int .i64 d.kind, .int .i64 d.int, .string d.text, l2, .bool ok, .int .i64 st2] 51
 have hB2 : Below w.heap.size w w2 := B1.below.trans (B2.below.mono B1.below.size)
 have HC0 := same_any d d _ _ w2 HS.out HS.out (H1.out.bel hB2 (Nat.le_refl _)) (H2.out.bel hB2 (Nat.le_refl _))
 rw [Dt.same_self] at HC0
 have HC := hid HC0
 have HB := hid hB2
 have HB1 := hid B1
 have HB2 := hid B2
 have hP := (B2.below.block _ (by rw [B1.size]; omega)).trans B1.blk
 have hZ : w2.heap[w.heap.size + 1]? = some (.cells #[.int .i64 e, .string o, .int .i64 d.kind, .int .i64 d.int, .string d.text, l2, .bool ok, .int .i64 st2] 51 (0, 0)) := by
  have := B2.blk
  rw [B1.size] at this
  exact this
 obtain ⟨x0, x1, x2, x3, x4, x5, x6, x7, xl⟩ := Row.of hP
 obtain ⟨o0, o1, o2, o3, o4, o5, o6, o7, ol⟩ := Row.of hZ
 clear HC0 hB2 B1 B2 hP hZ
 go_enter Tryz.func35, Tryz.ntmps35
 go_upto_region 1 with fail
 rw [← HB1.out.eq, ← HB2.out.eq]
 go_wp2_with fail
 with_reducible refine HC.out.mono ?_
 rintro e w3 ⟨rfl, hb3⟩
 have HB3 := hid (HB.out.trans (hb3.mono HB.out.size))
 clear hb3
 go_wp2_with fail
 go_ret
 exact ⟨rfl, HB3.out⟩
set_option maxHeartbeats 4000000 in
theorem rclosed_none (a : Ex) {w : World} {ana : Option Addr} {anc : Nat} {ada : Option Addr} {adn adc : Nat} {aka : Option Addr} {akc : Nat} (hf : Few a) (ht : Ex.all thin a = true) (hz : 6 * a.size ≤ 1000000) (ho : Op w a ana anc ada adn adc aka akc) (hn : Ex.freeNames a = []) :
  Calls Tryz.prog 33 #[.agg #[.int .i64 a.kind, .string a.name, .slice ana a.names.length anc, .int .i64 a.const.kind, .int .i64 a.const.int, .string a.const.text, .slice ada adn adc, .slice aka a.kids.length akc], .slice none 0 0] w (Says (.agg #[.int .i64 a.kind, .string a.name, .slice ana a.names.length anc, .int .i64 a.const.kind, .int .i64 a.const.int, .string a.const.text, .slice ada adn adc, .slice aka a.kids.length akc]) w) := by
 obtain ⟨w1, B1⟩ := boxedE w a ana anc ada adn adc aka akc
 obtain ⟨w2, B2⟩ := boxed w1 #[.int .i64 0, .string ⟨#[]⟩, .slice none 0 0, .int .i64 0, .int .i64 0, .string ⟨#[]⟩, .slice none 0 0, .slice none 0 0] 28
 have hB02 : Below w.heap.size w w2 := B1.below.trans (B2.below.mono B1.below.size)
 have hsz2 : w2.heap.size = w.heap.size + 2 := by rw [B2.size, B1.size]
 have hZ : w2.heap[w.heap.size + 1]? = some (.cells #[.int .i64 0, .string ⟨#[]⟩, .slice none 0 0, .int .i64 0, .int .i64 0, .string ⟨#[]⟩, .slice none 0 0, .slice none 0 0] 28 (0, 0)) := by
  have := B2.blk
  rw [B1.size] at this
  exact this
 have hP := (B2.below.block _ (by rw [B1.size]; omega)).trans B1.blk
 have hF := rFree_any a hf ht hz (ho.bel hB02)
 rw [hn] at hF
 unfold TextsPost at hF
 have HFR := hid hF
 have HBA := hid B1
 have HBB := hid B2
 have HZB := hid hZ
 have HPB := hid hP
 have HB02 := hid hB02
 have HS2 := hid hsz2
 obtain ⟨x0, x1, x2, x3, x4, x5, x6, x7, hbl⟩ := Row.of hP
 clear B1 B2 hB02 hsz2 hZ hP hF hf ht hz ho hn
 go_enter Tryz.func33, Tryz.ntmps33
 go_upto_region 1 with fail
 rw [← HBA.out.eq, ← HBB.out.eq]
 go_wp2_with (first
  | (go_at_call 30; (with_reducible refine HFR.out.mono ?_); rintro e2 w3 ⟨fa, fc, rfl, _, _, hb3⟩; rw [List.length_nil]; have HZ3 := hid ((hb3.block (w.heap.size + 1) (by rw [HS2.out]; omega)).trans HZB.out); have HB3 : Hid (Below w.heap.size w w3) := HB02.out.trans (hb3.mono HB02.out.size); obtain ⟨x0, x1, x2, x3, x4, x5, x6, x7, hbl⟩ := Row.of ((hb3.block w.heap.size (by rw [HS2.out]; omega)).trans HPB.out); obtain ⟨⟨_, s0⟩, ⟨_, s1⟩, ⟨_, s2⟩, ⟨_, s3⟩, ⟨_, s4⟩, ⟨_, s5⟩, ⟨_, s6⟩, ⟨_, s7⟩, q0, q1, q2, q3, q4, q5, q6, q7, sbl⟩ := blk8 HZ3.out; clear hb3)
  | fail)
 refine bodyPost_ret (res1 rfl _ _ (w.heap.size + 1) 28 #[.int .i64 a.kind, .string a.name, .slice ana a.names.length anc, .int .i64 a.const.kind, .int .i64 a.const.int, .string a.const.text, .slice ada adn adc, .slice aka a.kids.length akc] (0, 0) rfl (eight_set _ _ _ _ _ _ _ _ _ _ _ (.int .i64 a.kind) (.string a.name) (.slice ana a.names.length anc) (.int .i64 a.const.kind) (.int .i64 a.const.int) (.string a.const.text) (.slice ada adn adc) (.slice aka a.kids.length akc) HZ3.out) exprD exprSize) rfl ?_
 exact ⟨rfl, below_put8 HB3.out (Nat.le_succ _) _ _ _ _ _ _ _ _⟩
theorem run_of (a : Ex) {w : World} {ana : Option Addr} {anc : Nat} {ada : Option Addr} {adn adc : Nat} {aka : Option Addr} {akc : Nat} (hf : Ex.Fit a) (hok : Ex.ok a = true) (hn : Ex.freeNames a = []) (ho : Op w a ana anc ada adn adc aka akc) (n most : Nat) (o : Out) (hm : most ≤ 1000000) (hr : runR n a [] most = some o) :
  Calls Tryz.prog 34 #[.agg #[.int .i64 a.kind, .string a.name, .slice ana a.names.length anc, .int .i64 a.const.kind, .int .i64 a.const.int, .string a.const.text, .slice ada adn adc, .slice aka a.kids.length akc], .string ⟨#[]⟩, .int .i64 most] w (RunPost o w) := by
 have hfe := few_of_ok hok
 have hse := ((Ex.ok_iff a).1 hok).2.2
 refine Run_any a _ _ _ [] most n o hm ho.ex hr (fun W hW => ?_) (fun W hW => ?_)
 ·have h := rCheck_any a hf (ho.bel hW)
  rw [(Ex.chk_form a).2 hok] at h
  exact h
 ·have h := rFree_any a hfe.1 hfe.2 (by omega) (ho.bel hW)
  rw [hn] at h
  exact h.mono fun en w' ⟨fa, fc, h1, _, _, h2⟩ => ⟨⟨fa, fc, h1⟩, h2⟩
set_option maxHeartbeats 16000000 in
theorem rmeans_yes (a b : Ex) (times more : Nat) {w : World} {ana : Option Addr} {anc : Nat} {ada : Option Addr} {adn adc : Nat} {aka : Option Addr} {akc : Nat} {bna : Option Addr} {bnc : Nat} {bda : Option Addr} {bdn bdc : Nat} {bka : Option Addr} {bkc : Nat}
  (hfa : Ex.Fit a) (hoka : Ex.ok a = true) (hna : Ex.freeNames a = []) (ha : Op w a ana anc ada adn adc aka akc) (hfb : Ex.Fit b) (hokb : Ex.ok b = true) (hnb : Ex.freeNames b = []) (hb : Op w b bna bnc bda bdn bdc bka bkc)
  (n1 n2 m1 m2 : Nat) (err : Int) (out : List UInt8) (d : Option Dt) (hd : Dt.Short (d.getD (.mk 0 0 ⟨#[]⟩ []))) (h1 : runR n1 a [] 1500 = some ⟨err, out, d, m1⟩) (h2 : runR n2 b [] (times * m1 + more) = some ⟨err, out, d, m2⟩) (he : err ≠ 93 ∧ err ≠ 94) (hm : times * m1 + more ≤ 1000000) :
  Calls Tryz.prog 17 #[.agg #[.int .i64 a.kind, .string a.name, .slice ana a.names.length anc, .int .i64 a.const.kind, .int .i64 a.const.int, .string a.const.text, .slice ada adn adc, .slice aka a.kids.length akc], .agg #[.int .i64 b.kind, .string b.name, .slice bna b.names.length bnc, .int .i64 b.const.kind, .int .i64 b.const.int, .string b.const.text, .slice bda bdn bdc, .slice bka b.kids.length bkc], .slice none 0 0, .string ⟨#[]⟩, .int .i64 times, .int .i64 more] w (Says (.bool true) w) := by
 obtain ⟨w1, B1⟩ := boxedE w a ana anc ada adn adc aka akc
 obtain ⟨w2, B2⟩ := boxedE w1 b bna bnc bda bdn bdc bka bkc
 have hB02 : Below w.heap.size w w2 := B1.below.trans (B2.below.mono B1.below.size)
 have hsz2 : w2.heap.size = w.heap.size + 2 := by rw [B2.size, B1.size]
 have hZ : w2.heap[w.heap.size + 1]? = some (.cells #[.int .i64 b.kind, .string b.name, .slice bna b.names.length bnc, .int .i64 b.const.kind, .int .i64 b.const.int, .string b.const.text, .slice bda bdn bdc, .slice bka b.kids.length bkc] 28 (0, 0)) := by
  have := B2.blk
  rw [B1.size] at this
  exact this
 have hP := (B2.below.block _ (by rw [B1.size]; omega)).trans B1.blk
 have hfe := few_of_ok hoka
 have hse := ((Ex.ok_iff a).1 hoka).2.2
 have HCL := hid (rclosed_none a hfe.1 hfe.2 (by omega) (ha.bel hB02) hna)
 have HFR : Hid (∀ W, Below w.heap.size w W → Calls Tryz.prog 30 #[.agg #[.int .i64 a.kind, .string a.name, .slice ana a.names.length anc, .int .i64 a.const.kind, .int .i64 a.const.int, .string a.const.text, .slice ada adn adc, .slice aka a.kids.length akc]] W fun en w' => (∃ fa fc, en = .returned (.slice fa 0 fc)) ∧ Below W.heap.size W w') := fun W hW => by
  have h := rFree_any a hfe.1 hfe.2 (by omega) (ha.bel hW)
  rw [hna] at h
  exact h.mono fun en w' ⟨fa, fc, h1, _, _, h2⟩ => ⟨⟨fa, fc, h1⟩, h2⟩
 have HR1 : Hid (∀ W, Below w.heap.size w W → Calls Tryz.prog 34 #[.agg #[.int .i64 a.kind, .string a.name, .slice ana a.names.length anc, .int .i64 a.const.kind, .int .i64 a.const.int, .string a.const.text, .slice ada adn adc, .slice aka a.kids.length akc], .string ⟨#[]⟩, .int .i64 1500] W (RunPost ⟨err, out, d, m1⟩ W)) := fun W hW => run_of a hfa hoka hna (ha.bel hW) n1 1500 _ (by omega) h1
 have HR2 : Hid (∀ W, Below w.heap.size w W → Calls Tryz.prog 34 #[.agg #[.int .i64 b.kind, .string b.name, .slice bna b.names.length bnc, .int .i64 b.const.kind, .int .i64 b.const.int, .string b.const.text, .slice bda bdn bdc, .slice bka b.kids.length bkc], .string ⟨#[]⟩, .int .i64 ((times : Int) * (m1 : Int) + (more : Int))] W (RunPost ⟨err, out, d, m2⟩ W)) := fun W hW => by
  have h := run_of b hfb hokb hnb (hb.bel hW) n2 _ _ hm h2
  rw [show ((times * m1 + more : Nat) : Int) = (times : Int) * (m1 : Int) + (more : Int) by push_cast; rfl] at h
  exact h
 have gm : IntKind.i64.wrap ((times : Int) * (m1 : Int)) = (times : Int) * (m1 : Int) := by
  have h : (times : Int) * (m1 : Int) = ((times * m1 : Nat) : Int) := by push_cast; rfl
  rw [h, IntKind.wrap_i64]
  omega
 have ga : IntKind.i64.wrap ((times : Int) * (m1 : Int) + (more : Int)) = (times : Int) * (m1 : Int) + (more : Int) := by
  have h : (times : Int) * (m1 : Int) + (more : Int) = ((times * m1 + more : Nat) : Int) := by push_cast; rfl
  rw [h, IntKind.wrap_i64]
  omega
 have k93 : (err == 93) = false := beq_eq_false_iff_ne.2 he.1
 have k94 : (err == 94) = false := beq_eq_false_iff_ne.2 he.2
 have HBA := hid B1
 have HBB := hid B2
 have HZB := hid hZ
 have HPB := hid hP
 have HB02 := hid hB02
 have HS2 := hid hsz2
 have HD := hid hd
 obtain ⟨x0, x1, x2, x3, x4, x5, x6, x7, xl⟩ := Row.of hP
 obtain ⟨o0, o1, o2, o3, o4, o5, o6, o7, ol⟩ := Row.of hZ
 unfold RunPost at HR1 HR2
 clear B1 B2 hB02 hsz2 hZ hP hfe hse hfa hoka hna ha hfb hokb hnb hb h1 h2 he hm hd
 go_enter Tryz.func17, Tryz.ntmps17
 go_upto_region 1 with fail
 rw [← HBA.out.eq, ← HBB.out.eq]
 go_upto_region 2 with (first
  | (go_at_call 33; (with_reducible refine HCL.out.mono ?_); rintro e2 w3 ⟨rfl, hb3⟩; have HB3 := hid hb3; clear hb3)
  | fail)
 obtain ⟨wx, BX⟩ := boxedE w3 a ana anc ada adn adc aka akc
 rw [← BX.eq]
 have hb2x : Below w2.heap.size w2 wx := HB3.out.trans (BX.below.mono HB3.out.size)
 have HB2X := hid hb2x
 have HKX := hid BX.blk
 have HPX := hid ((hb2x.block _ (Array.getElem?_eq_some_iff.1 HPB.out).1).trans HPB.out)
 have HZX := hid ((hb2x.block _ (Array.getElem?_eq_some_iff.1 HZB.out).1).trans HZB.out)
 clear x0 x1 x2 x3 x4 x5 x6 x7 xl o0 o1 o2 o3 o4 o5 o6 o7 ol hb2x BX
 obtain ⟨o0, o1, o2, o3, o4, o5, o6, o7, ol⟩ := Row.of HZX.out
 go_upto_region 3 with fail
 obtain ⟨wy, BY⟩ := boxedE wx b bna bnc bda bdn bdc bka bkc
 rw [← BY.eq]
 have HBXY := hid BY.below
 have HKY := hid BY.blk
 have HPY := hid ((BY.below.block _ (Array.getElem?_eq_some_iff.1 HPX.out).1).trans HPX.out)
 have HKXY := hid ((BY.below.block _ (Array.getElem?_eq_some_iff.1 HKX.out).1).trans HKX.out)
 have HB0Y := hid (HB02.out.trans ((HB2X.out.trans (BY.below.mono HB2X.out.size)).mono HB02.out.size))
 clear o0 o1 o2 o3 o4 o5 o6 o7 ol BY
 obtain ⟨x0, x1, x2, x3, x4, x5, x6, x7, xl⟩ := Row.of HPY.out
 go_upto_region 6 with (first
  | (go_at_call 30; (with_reducible refine (HFR.out _ HB0Y.out).mono ?_); rintro e2 w5 ⟨⟨fa, fc, rfl⟩, hb5⟩; have HKX5 := hid ((hb5.block _ (Array.getElem?_eq_some_iff.1 HKXY.out).1).trans HKXY.out); have HKY5 := hid ((hb5.block _ (Array.getElem?_eq_some_iff.1 HKY.out).1).trans HKY.out); have HB05 : Hid (Below w.heap.size w w5) := HB0Y.out.trans (hb5.mono HB0Y.out.size); obtain ⟨o0, o1, o2, o3, o4, o5, o6, o7, ol⟩ := Row.of HKX5.out; clear hb5)
  | fail)
 go_upto_region 7 with (first
  | (go_at_call 34; (with_reducible refine (HR1.out _ HB05.out).mono ?_); rintro e2 w6 ⟨dd, pa, pc, rfl, hdt, hb6, hdd⟩; have HDT := hid hdt; have HDD := hid hdd; have HKY6 := hid ((hb6.block _ (Array.getElem?_eq_some_iff.1 HKY5.out).1).trans HKY5.out); have HB06 : Hid (Below w.heap.size w w6) := HB05.out.trans (hb6.mono HB05.out.size); dsimp only; clear hdt hdd hb6)
  | fail)
 clear x0 x1 x2 x3 x4 x5 x6 x7 xl o0 o1 o2 o3 o4 o5 o6 o7 ol
 obtain ⟨wp, BP⟩ := boxed w6 #[.int .i64 err, .string ⟨out.toArray⟩, .int .i64 dd.kind, .int .i64 dd.int, .string dd.text, .slice pa dd.list.length pc, .bool d.isSome, .int .i64 m1] 51
 rw [← BP.eq]
 have HKP := hid BP.blk
 have HB6P := hid BP.below
 have HKYP := hid ((BP.below.block _ (Array.getElem?_eq_some_iff.1 HKY6.out).1).trans HKY6.out)
 have HB0P := hid (HB06.out.trans (BP.below.mono HB06.out.size))
 clear BP
 obtain ⟨x0, x1, x2, x3, x4, x5, x6, x7, xl⟩ := Row.of HKP.out
 obtain ⟨o0, o1, o2, o3, o4, o5, o6, o7, ol⟩ := Row.of HKYP.out
 go_upto_region 10 with (first
  | (go_at_call 34; (with_reducible refine (HR2.out _ HB0P.out).mono ?_); rintro e2 w8 ⟨dd2, qa, qc, rfl, hdt2, hb8, hdd2⟩; have h12 : dd2 = dd := hdd2.trans HDD.out.symm; subst h12; have HDT2 := hid hdt2; have HKP8 := hid ((hb8.block _ (Array.getElem?_eq_some_iff.1 HKP.out).1).trans HKP.out); have HBP8 := hid hb8; dsimp only; clear hdt2 hdd2 hb8)
  | fail)
 clear x0 x1 x2 x3 x4 x5 x6 x7 xl o0 o1 o2 o3 o4 o5 o6 o7 ol
 obtain ⟨wq, BQ⟩ := boxed w8 #[.int .i64 err, .string ⟨out.toArray⟩, .int .i64 dd2.kind, .int .i64 dd2.int, .string dd2.text, .slice qa dd2.list.length qc, .bool d.isSome, .int .i64 m2] 51
 rw [← BQ.eq]
 have hb6q : Below w6.heap.size w6 wq := HB6P.out.trans ((HBP8.out.trans (BQ.below.mono HBP8.out.size)).mono HB6P.out.size)
 have h1q := HDT.out.bel hb6q (Nat.le_refl _)
 have h2q := HDT2.out.bel BQ.below (Nat.le_refl _)
 have HAL := hid (ralike_yes err ⟨out.toArray⟩ dd2 _ _ d.isSome m1 m2 wq (by rw [HDD.out]; exact HD.out) (h1q.mono fun _ _ _ => trivial) (h2q.mono fun _ _ _ => trivial))
 have HBQ := hid (HB0P.out.trans ((HBP8.out.trans (BQ.below.mono HBP8.out.size)).mono HB0P.out.size))
 obtain ⟨x0, x1, x2, x3, x4, x5, x6, x7, xl⟩ := Row.of ((BQ.below.block _ (Array.getElem?_eq_some_iff.1 HKP8.out).1).trans HKP8.out)
 obtain ⟨o0, o1, o2, o3, o4, o5, o6, o7, ol⟩ := Row.of BQ.blk
 clear BQ hb6q h1q h2q
 go_wp2_with (first
  | (go_at_call 35; (with_reducible refine HAL.out.mono ?_); rintro e2 w9 ⟨rfl, hb9⟩; have HB9 : Hid (Below w.heap.size w w9) := HBQ.out.trans (hb9.mono HBQ.out.size); clear hb9)
  | fail)
 go_ret
 exact ⟨rfl, HB9.out⟩
end Ew
end Go.Proofs.YtkplkgdfphbldaaGreat
