/- pass: Clone, copied, Told; what may be. -/
import Derived.Test.YtkplkgdfphbldaaGreatFJba
import Derived.Test.YtkplkgdfphbldaaGreatFJbf
import Derived.Test.YtkplkgdfphbldaaGreatFJat
import Derived.Deep.RegionHeld3
set_option linter.unusedVariables false
set_option linter.unusedSimpArgs false
set_option linter.unnecessarySimpa false
namespace Go.Proofs.YtkplkgdfphbldaaGreat
open Go.RowKit
set_option linter.unusedVariables false
set_option linter.unusedSimpArgs false
set_option maxRecDepth 100000
namespace Ew
open Rn
theorem sl_nil {w : World} {c : Nat} {l : List ByteArray} (h : Sl w (.slice none l.length c) (strs l)) : l = [] ∧ c = 0 := by
  obtain ⟨a, c', e, ⟨rfl, rfl, h3⟩ | ⟨ad, rfl, _⟩⟩ := h
  · exact ⟨by simpa [strs] using h3, (Value.slice.inj e).2.2⟩
  · exact nomatch (Value.slice.inj e).1
set_option maxHeartbeats 4000000 in
theorem clone_any (l : List ByteArray) {w : World} {na : Option Addr} {nc : Nat} (hn : Sl w (.slice na l.length nc) (strs l)) (hl : l.length ≤ 1000000) :
    Calls Tryz.prog 63 #[.slice na l.length nc] w fun e w' => ∃ v, e = .returned v ∧ On (fun b => w.heap.size ≤ b) w' (fun w => Sl w v (strs l)) ∧ RoomOk v ∧ Below w.heap.size w w' := by
  obtain ⟨i0, hi, hz0, hz1, hz2⟩ := info_parts infoStr
  have HI := Lib.hid hi
  have HZ0 := Lib.hid hz0
  have HZ1 := Lib.hid hz1
  have HZ2 := Lib.hid hz2
  clear hi hz0 hz1 hz2
  cases na with
  | none =>
    obtain ⟨rfl, rfl⟩ := sl_nil hn
    have hnn : ∀ w : World, (binOp .eql 22 (.slice none 0 0) (.slice none 0 0)).run Tryz.prog w = .ok (.bool true) w := fun w => by rw [Lib.run_eql_slice_nil (h := Tryz.underlying22)]; rfl
    go_enter Tryz.func63, Tryz.ntmps63
    go_wp2_with fail
    go_ret
    exact ⟨_, rfl, On.nil, room_nil, Below.refl _ _⟩
  | some ad =>
    have HS := Lib.hid (src_sl (sl_bel hn ((Below.refl _ _).alloc (Nat.le_refl _) (.cells #[] 9))))
    have HZR : Hid ((w.alloc (.cells #[] 9)).ownsRow w.heap.size 9 1 (.slice (some ⟨w.heap.size, 0, none⟩) 0 0) 0 []) := zero_row w 9 1
    have HTE : Hid ((w.alloc (.cells #[] 9)).heap.size = w.heap.size + 1) := by unfold Hid; simp
    have HBA : Hid (Below w.heap.size w (w.alloc (.cells #[] 9))) := (Below.refl _ _).alloc (Nat.le_refl _) _
    have hnn : ∀ w : World, (binOp .eql 22 (.slice (some ad) l.length nc) (.slice none 0 0)).run Tryz.prog w = .ok (.bool false) w := fun w => by rw [Lib.run_eql_slice_nil (h := Tryz.underlying22)]; rfl
    clear hn
    go_enter Tryz.func63, Tryz.ntmps63
    go_wp2_with (first
      | (at_builtin; refine wpList_append_v rfl (.tmp 5) (.tmp 6) 22 rfl w.heap.size 9 i0 _ 1 16 Tryz.underlying22 HI.out HZ0.out HZ1.out HZ2.out rfl (by decide) (.slice (some ⟨w.heap.size, 0, none⟩) 0 0) 0 [] rfl HZR.out (some ad) l.length nc (strs l) rfl (by rw [strs_length, Nat.mul_one]) HS.out (strs_one l) (by simp only [maxLen]; omega) (by omega) (by rw [HTE.out]; omega) (w.heap.size + 1) HTE.out ?_; intro a4 c4 w4 hown hgr hlies; generalize hv4 : Value.slice a4 (0 + l.length) c4 = v4 at hown ⊢; clear hv4; have HOW := Lib.hid hown; have HGR := Lib.hid hgr; clear hown hgr hlies)
      | fail)
    go_ret
    have hown := HOW.out
    rw [List.nil_append] at hown
    obtain ⟨h1, h2⟩ := On.names (S := fun b => w.heap.size ≤ b) hown fun b e => (hown.lt b e).1
    exact ⟨v4, rfl, h1, h2, HBA.out.grown HGR.out (by rw [HTE.out]; omega) (fun q hq => by cases hq; exact Nat.le_refl _)⟩
abbrev zeroV : Value := .agg #[.int .i64 0, .string ⟨#[]⟩, .slice none 0 0, .int .i64 0, .int .i64 0, .string ⟨#[]⟩, .slice none 0 0, .slice none 0 0]
structure Blk8 (w : World) (g : Nat) : Prop where
  c0 : ∃ v, w.cell? ⟨g, 0, none⟩ = some v
  c1 : ∃ v, w.cell? ⟨g, 1, none⟩ = some v
  c2 : ∃ v, w.cell? ⟨g, 2, none⟩ = some v
  c3 : ∃ v, w.cell? ⟨g, 3, none⟩ = some v
  c4 : ∃ v, w.cell? ⟨g, 4, none⟩ = some v
  c5 : ∃ v, w.cell? ⟨g, 5, none⟩ = some v
  c6 : ∃ v, w.cell? ⟨g, 6, none⟩ = some v
  c7 : ∃ v, w.cell? ⟨g, 7, none⟩ = some v
  f0 : w.frozen? ⟨g, 0, none⟩ = false
  f1 : w.frozen? ⟨g, 1, none⟩ = false
  f2 : w.frozen? ⟨g, 2, none⟩ = false
  f3 : w.frozen? ⟨g, 3, none⟩ = false
  f4 : w.frozen? ⟨g, 4, none⟩ = false
  f5 : w.frozen? ⟨g, 5, none⟩ = false
  f6 : w.frozen? ⟨g, 6, none⟩ = false
  f7 : w.frozen? ⟨g, 7, none⟩ = false
  lt : g < w.heap.size
theorem blk8 {w : World} {g : Nat} {a0 a1 a2 a3 a4 a5 a6 a7 : Value} {t : TypeId} (h : w.heap[g]? = some (.cells #[a0, a1, a2, a3, a4, a5, a6, a7] t (0, 0))) : Blk8 w g := by
  have hR := Row.of h
  exact ⟨⟨_, hR.c0⟩, ⟨_, hR.c1⟩, ⟨_, hR.c2⟩, ⟨_, hR.c3⟩, ⟨_, hR.c4⟩, ⟨_, hR.c5⟩, ⟨_, hR.c6⟩, ⟨_, hR.c7⟩, frozen_row8 h, frozen_row8 h, frozen_row8 h, frozen_row8 h, frozen_row8 h, frozen_row8 h, frozen_row8 h, frozen_row8 h, hR.lt⟩
theorem const_nil {w w' : World} {c : Dt} {dl : Value} (h : ConstAt w c dl) (hl : c.list = []) (hs : w.heap.size ≤ w'.heap.size) : ConstAt w' c dl := by
  have key : ∀ (v : Value) (d : Dt), DtAt w (fun _ => True) v d → d.list = [] → DtAt w' (fun _ => True) v d := by
    intro v d h hl
    cases h with
    | nil k i t => exact .nil k i t
    | row k i t b off c l lv hS hb hc hd =>
      have hl : l = [] := hl
      subst hl
      exact .row k i t b off c [] lv trivial (Nat.lt_of_lt_of_le hb hs) (fun j x hx => by simp at hx) (fun j x hx => by simp at hx)
  exact key _ _ h hl
set_option maxHeartbeats 16000000 in
theorem copied_any (w0 : World) (e : Ex) : ∀ {w : World} {na : Option Addr} {nc : Nat} {da : Option Addr} {dn dc : Nat} {ka : Option Addr} {kc : Nat}, Few e → Op w0 e na nc da dn dc ka kc → Below w0.heap.size w0 w →
    Calls Tryz.prog 41 #[.agg #[.int .i64 e.kind, .string e.name, .slice na e.names.length nc, .int .i64 e.const.kind, .int .i64 e.const.int, .string e.const.text, .slice da dn dc, .slice ka e.kids.length kc]] w (MadePost 0 e w) := by
  induction e using Ex.byKids with
  | h e ih =>
  intro w na nc da dn dc ka kc hf ho hb
  obtain ⟨w1, B1⟩ := boxed w #[.int .i64 e.kind, .string e.name, .slice na e.names.length nc, .int .i64 e.const.kind, .int .i64 e.const.int, .string e.const.text, .slice da dn dc, .slice ka e.kids.length kc] 28
  obtain ⟨w2, B2⟩ := boxed w1 #[.int .i64 0, .string ⟨#[]⟩, .slice none 0 0, .int .i64 0, .int .i64 0, .string ⟨#[]⟩, .slice none 0 0, .slice none 0 0] 28
  have hB02 : Below w.heap.size w w2 := B1.below.trans (B2.below.mono B1.below.size)
  have hsz2 : w2.heap.size = w.heap.size + 2 := by rw [B2.size, B1.size]
  have hZ : w2.heap[w.heap.size + 1]? = some (.cells #[.int .i64 0, .string ⟨#[]⟩, .slice none 0 0, .int .i64 0, .int .i64 0, .string ⟨#[]⟩, .slice none 0 0, .slice none 0 0] 28 (0, 0)) := by
    have := B2.blk
    rw [B1.size] at this
    exact this
  have hP := (B2.below.block _ (by rw [B1.size]; omega)).trans B1.blk
  have HBA := Lib.hid B1
  have HBB := Lib.hid B2
  have HZB := Lib.hid hZ
  have HPB := Lib.hid hP
  have HB02 := Lib.hid hB02
  have HS2 := Lib.hid hsz2
  have HIH := Lib.hid ih
  have HF := Lib.hid hf
  have HO := Lib.hid ho
  have hb2 := hb.trans (hB02.mono hb.size)
  have HBW := Lib.hid hb
  have HB0 := Lib.hid hb2
  have HCL := Lib.hid (clone_any e.names (sl_bel ho.names hb2) (by have := hf.nl; omega))
  obtain ⟨x0, x1, x2, x3, x4, x5, x6, x7, hbl⟩ := Row.of hP
  clear B1 B2 hB02 hsz2 hZ hP ih hf ho hb hb2
  go_enter Tryz.func41, Tryz.ntmps41
  go_upto_region 1 with fail
  rw [← HBA.out.eq, ← HBB.out.eq]
  go_upto_region 2 with (first
    | (go_at_call 63; (with_reducible refine HCL.out.mono ?_); rintro e2 w3 ⟨v3, rfl, hon, ⟨av, nv, cv, rfl, hroom⟩, hb3⟩; have HON := Lib.hid hon; have HRM : Hid (RoomOk (.slice av nv cv)) := ⟨_, _, _, rfl, hroom⟩; have HB3 := Lib.hid hb3; have HP3 := Lib.hid ((hb3.block w.heap.size (by rw [HS2.out]; omega)).trans HPB.out); have HZ3 := Lib.hid ((hb3.block (w.heap.size + 1) (by rw [HS2.out]; omega)).trans HZB.out); obtain ⟨y0, y1, y2, y3, y4, y5, y6, y7, ybl⟩ := Row.of HP3.out; have yf : w3.frozen? ⟨w.heap.size, 2, none⟩ = false := frozen_row8 HP3.out; clear hon hb3 hroom)
    | fail)
  generalize hw4 : w3.setCell ⟨w.heap.size, 2, none⟩ (.slice av nv cv) = w4
  have hp4 : w4.heap[w.heap.size]? = some (.cells #[.int .i64 e.kind, .string e.name, .slice av nv cv, .int .i64 e.const.kind, .int .i64 e.const.int, .string e.const.text, .slice da dn dc, .slice ka e.kids.length kc] 28 (0, 0)) := by
    rw [← hw4]
    exact heap_setCell_same w3 w.heap.size 2 _ _ _ HP3.out
  have hz4 : w4.heap[w.heap.size + 1]? = some (.cells #[.int .i64 0, .string ⟨#[]⟩, .slice none 0 0, .int .i64 0, .int .i64 0, .string ⟨#[]⟩, .slice none 0 0, .slice none 0 0] 28 (0, 0)) := by
    rw [← hw4, heap_setCell_other _ _ _ _ (by show w.heap.size + 1 ≠ w.heap.size; omega)]
    exact HZ3.out
  have hb4 : Below w.heap.size w w4 := by rw [← hw4]; exact (HB02.out.trans (HB3.out.mono HB02.out.size)).setCell (p := ⟨w.heap.size, 2, none⟩) (Nat.le_refl _) _
  have hs4 : w4.heap.size = w3.heap.size := by rw [← hw4]; simp [World.setCell]
  have hon4 : On (fun b => w2.heap.size ≤ b) w4 (fun w => Sl w (.slice av nv cv) (strs e.names)) := HON.out.same (by omega) fun b hb _ => ⟨hb, by rw [← hw4]; exact heap_setCell_other _ _ _ _ (by show b ≠ w.heap.size; rw [HS2.out] at hb; omega)⟩
  have HB4 := Lib.hid hb4
  have HZ4 := Lib.hid hz4
  have HON4 := Lib.hid hon4
  have hs42 : w2.heap.size ≤ w4.heap.size := by rw [hs4]; exact HB3.out.size
  have HS42 := Lib.hid hs42
  have HMP := Lib.hid (map_any 41 (fun _ _ => rfl) (fun x => x) w0 0 (Nat.zero_le _) e.kind e.name e.const e.kids (w := w4) (na := av) (nn := nv) (nc := cv) (da := da) (dn := dn) (dc := dc) HO.out.kids (HBW.out.trans (hb4.mono HBW.out.size)) HF.out.len (fun W x na nc da dn dc ka kc hx hop hbw => HIH.out x hx (HF.out.kid hx) hop hbw))
  unfold MapPost at HMP
  obtain ⟨t0, t1, t2, t3, t4, t5, t6, t7, tbl⟩ := Row.of hp4
  clear hp4 hz4 hb4 hs4 hon4 hs42 hw4 y0 y1 y2 y3 y4 y5 y6 y7 ybl yf HP3 HZ3 x0 x1 x2 x3 x4 x5 x6 x7 hbl
  go_wp2_with (first
    | (go_at_call 42; (with_reducible refine HMP.out.mono ?_); rintro e2 w5 ⟨rv, M, hes, rfl, hown, hblk, hels, hb5⟩; unfold exV; have HES := Lib.hid hes; have HOW := Lib.hid hown; have HBK := Lib.hid hblk; have HEL := Lib.hid hels; have HB5 := Lib.hid hb5; have hz5 := (hb5.block (w.heap.size + 1) (by have := HS42.out; rw [HS2.out] at this; omega)).trans HZ4.out; have HZ5 := Lib.hid hz5; obtain ⟨⟨_, s0⟩, ⟨_, s1⟩, ⟨_, s2⟩, ⟨_, s3⟩, ⟨_, s4⟩, ⟨_, s5⟩, ⟨_, s6⟩, ⟨_, s7⟩, q0, q1, q2, q3, q4, q5, q6, q7, sbl⟩ := blk8 hz5; obtain ⟨ar, cr, hrv⟩ : ∃ ar cr, rv = .slice ar M.length cr := RowR.slice (ρ := fun _ => 0) (r := 0) ⟨hown, fun _ _ => rfl⟩; subst hrv; clear hes hown hblk hels hb5 hz5)
    | fail)
  refine bodyPost_ret (res1 rfl _ _ (w.heap.size + 1) 28 #[.int .i64 e.kind, .string e.name, .slice av nv cv, .int .i64 e.const.kind, .int .i64 e.const.int, .string e.const.text, .slice da dn dc, .slice ar M.length cr] (0, 0) rfl (eight_set _ _ _ _ _ _ _ _ _ _ _ (.int .i64 e.kind) (.string e.name) (.slice av nv cv) (.int .i64 e.const.kind) (.int .i64 e.const.int) (.string e.const.text) (.slice da dn dc) (.slice ar M.length cr) HZ5.out) exprD exprSize) rfl ?_
  show MadePost 0 e w _ (put8 w5 (w.heap.size + 1) (.int .i64 e.kind) (.string e.name) (.slice av nv cv) (.int .i64 e.const.kind) (.int .i64 e.const.int) (.string e.const.text) (.slice da dn dc) (.slice ar M.length cr))
  have hb15 : Below w.heap.size w w5 := HB4.out.trans (HB5.out.mono HB4.out.size)
  have hs42 := HS42.out
  have hs2 := HS2.out
  refine ⟨⟨e, .slice av nv cv, .slice da dn dc, .slice ar M.length cr⟩, rfl, rfl, ?_, below_put8 hb15 (Nat.le_succ _) _ _ _ _ _ _ _ _⟩
  have hkids : On (fun b => b < 0 ∨ w4.heap.size ≤ b) w5 (fun w => KidsAt w (.slice ar M.length cr) (M.map (·.e))) := On.kids HOW.out (fun b e => .inr (HBK.out b e)) HEL.out
  rw [HES.out, List.map_id'] at hkids
  have hnot : ¬ (fun b => b < 0 ∨ w2.heap.size ≤ b) (w.heap.size + 1) := fun h => by
    have h : w.heap.size + 1 < 0 ∨ w2.heap.size ≤ w.heap.size + 1 := h
    omega
  have hcn : On (fun b => b < 0 ∨ w2.heap.size ≤ b) w5 (fun w => ConstAt w e.const (.slice da dn dc)) := fun w' h1 _ => const_nil HO.out.const HF.out.cl (Nat.le_trans HBW.out.size (Nat.le_trans hb15.size h1))
  have hall : On (fun b => b < 0 ∨ w2.heap.size ≤ b) w5 (fun w => ExAt w (exV e.kind e.name (.slice av nv cv) e.const (.slice da dn dc) (.slice ar M.length cr)) (.mk e.kind e.name e.names e.const e.kids)) :=
    On.mk ((HON4.out.bel HB5.out).mono fun b hb _ => .inr hb) hcn HRM.out (hkids.mono fun b hb _ => hb.imp id fun h => Nat.le_trans hs42 h)
  rw [Ex.eta] at hall
  exact (on_put8 hall hnot _ _ _ _ _ _ _ _).mono fun b hb _ => hb.imp id fun h => by omega
end Ew
end Go.Proofs.YtkplkgdfphbldaaGreat
namespace Go.Proofs.YtkplkgdfphbldaaGreat
open Go.RowKit
set_option linter.unusedVariables false
set_option linter.unusedSimpArgs false
set_option maxRecDepth 100000
namespace Ew
open Rn
structure GrS (R : Nat → Prop) (w : World) (ρ : Nat → Nat) (w' : World) (ρ' : Nat → Nat) : Prop where
  os : w'.os = w.os
  tape : w'.tape = w.tape
  output : w'.output = w.output
  size : w.heap.size ≤ w'.heap.size
  keep : ∀ b, b < w.heap.size → ¬ R (ρ b) → w'.heap[b]? = w.heap[b]?
  role : ∀ b, b < w.heap.size → ρ' b = ρ b
theorem Gr.toS {r : Nat} {R : Nat → Prop} {w w' : World} {ρ ρ' : Nat → Nat} (h : Gr r w ρ w' ρ') (hr : R r) : GrS R w ρ w' ρ' :=
  ⟨h.os, h.tape, h.output, h.size, fun b hb hn => h.keep b hb fun e => hn (by rw [e]; exact hr), h.role⟩
theorem GrS.trans {R : Nat → Prop} {a b d : World} {ρ ρ' ρ'' : Nat → Nat} (h : GrS R a ρ b ρ') (k : GrS R b ρ' d ρ'') : GrS R a ρ d ρ'' :=
  ⟨k.os.trans h.os, k.tape.trans h.tape, k.output.trans h.output, Nat.le_trans h.size k.size, fun i hi hc => (k.keep i (Nat.lt_of_lt_of_le hi h.size) (by rw [h.role i hi]; exact hc)).trans (h.keep i hi hc), fun i hi => (k.role i (Nat.lt_of_lt_of_le hi h.size)).trans (h.role i hi)⟩
theorem GrS.of_bel {R : Nat → Prop} {w w' : World} {ρ : Nat → Nat} (hb : Below w.heap.size w w') : GrS R w ρ w' ρ := ⟨hb.os, hb.tape, hb.output, hb.size, fun b hl _ => hb.block b hl, fun _ _ => rfl⟩
theorem RowR.grs {R : Nat → Prop} {r' ty size n : Nat} {w w' : World} {ρ ρ' : Nat → Nat} {v : Value} {xs : List Value} (h : RowR w ρ r' ty size n v xs) (hr : ¬ R r') (hg : GrS R w ρ w' ρ') : RowR w' ρ' r' ty size n v xs :=
  RowR.keep h fun b hl e => ⟨hg.keep b hl (by rw [e]; exact hr), (hg.role b hl).trans e⟩
theorem free_grs {R : Nat → Prop} {w w' : World} {ρ ρ' : Nat → Nat} {P : World → Prop} (h : Free0 ρ w P) (hr : ¬ R 0) (hg : GrS R w ρ w' ρ') : Free0 ρ' w' P :=
  On.same h hg.size fun b hb hl => ⟨(hg.role b hl).trans hb, hg.keep b hl (by rw [hb]; exact hr)⟩
theorem XR.grs {R : Nat → Prop} {r' : Nat} {w w' : World} {ρ ρ' : Nat → Nat} {v : Value} {l : List XM} (h : XR w ρ r' v l) (hr : ¬ R r') (h0 : ¬ R 0) (hg : GrS R w ρ w' ρ') : XR w' ρ' r' v l :=
  ⟨RowR.grs h.row hr hg, fun x hx => free_grs (h.els x hx) h0 hg⟩
theorem GrS.below {R : Nat → Prop} {B : Nat} {w w' : World} {ρ ρ' : Nat → Nat} (h : GrS R w ρ w' ρ') (hr : ¬ R 0) (hi : RI B w ρ) : Below B w w' :=
  ⟨h.os, h.tape, h.output, h.size, fun b hb => h.keep b (Nat.lt_of_lt_of_le hb hi.le) (by rw [hi.low b hb]; exact hr)⟩
theorem GrS.bel {R : Nat → Prop} {N : Nat} {w w' : World} {ρ ρ' : Nat → Nat} (h : GrS R w ρ w' ρ') (hN : ∀ b, b < N → ¬ R (ρ b)) (hl : N ≤ w.heap.size) : Below N w w' :=
  ⟨h.os, h.tape, h.output, h.size, fun b hb => h.keep b (Nat.lt_of_lt_of_le hb hl) (hN b hb)⟩
structure View (o : Nat) (mk : Value → Value → Array Value) : Prop where
  c1 : ∀ a b, (mk a b)[o + 2]? = some a
  c2 : ∀ a b, (mk a b)[o + 7]? = some b
  s1 : ∀ a b a', (mk a b).setIfInBounds (o + 2) a' = mk a' b
  s2 : ∀ a b b', (mk a b).setIfInBounds (o + 7) b' = mk a b'
abbrev partC (v1 v2 v3 v4 : Value) : Array Value := #[.int .i64 0, .string ⟨#[]⟩, v1, .int .i64 0, .int .i64 0, .string ⟨#[]⟩, .slice none 0 0, v2, .int .i64 0, .string ⟨#[]⟩, v3, .int .i64 0, .int .i64 0, .string ⟨#[]⟩, .slice none 0 0, v4]
theorem view0 (v3 v4 : Value) : View 0 (fun a b => partC a b v3 v4) := ⟨fun _ _ => rfl, fun _ _ => rfl, fun _ _ _ => rfl, fun _ _ _ => rfl⟩
theorem view8 (v1 v2 : Value) : View 8 (fun a b => partC v1 v2 a b) := ⟨fun _ _ => rfl, fun _ _ => rfl, fun _ _ _ => rfl, fun _ _ _ => rfl⟩
def zeroX : XM := ⟨Ex.zero, .slice none 0 0, .slice none 0 0, .slice none 0 0⟩
theorem own_ne {w : World} {B e size n : Nat} {v : Value} {xs : List Value} (h : w.ownsRow B e size v (n + 1) xs) : ∃ g c, v = .slice (some ⟨g, 0, none⟩) (n + 1) c := by
  rcases own_shape h with ⟨_, e2, _⟩ | ⟨g, c, e, _⟩
  · omega
  · exact ⟨g, c, e⟩
theorem last8 {w : World} {B e : Nat} {g n c : Nat} {M : List XM} {x : XM} (hn : M.length = n) (h : w.ownsRow B e 8 (.slice (some ⟨g, 0, none⟩) (n + 1) c) (n + 1) (flatX M ++ x.cells)) : (∀ j, j < 8 → (∃ u, w.cell? ⟨g, n * 8 + j, none⟩ = some u) ∧ w.frozen? ⟨g, n * 8 + j, none⟩ = false) ∧ g < w.heap.size := by
  refine ⟨fun j hj => ⟨?_, ?_⟩, (h.lt g rfl).2⟩
  · have hl : (flatX M ++ x.cells).length = n * 8 + 8 := by rw [List.length_append, flatX_length, hn]; rfl
    have := h.cells (g := g) rfl (n * 8 + j) _ (List.getElem?_eq_getElem (by omega))
    rw [Addr.add_mid, Nat.zero_add] at this
    exact ⟨_, this⟩
  · obtain ⟨_, ⟨e1, _⟩ | ⟨g', cap, cur, e1, _, hg, _⟩⟩ := h
    · cases e1
    · cases e1
      exact frozen_of_row _ _ _ _ _ hg
theorem set_tail (A Z : List Value) (k i : Nat) (hk : A.length = k) (u : Value) : (A ++ Z).set (k + i) u = A ++ Z.set i u := by
  rw [List.set_append_right _ _ (by omega)]
  congr 2
  omega
theorem row_put {w : World} {B e : Nat} {g n c : Nat} {M : List XM} {x y : XM} (hn : M.length = n) (h : w.ownsRow B e 8 (.slice (some ⟨g, 0, none⟩) (n + 1) c) (n + 1) (flatX M ++ y.cells)) :
    (((((((((w.setCell ⟨g, n * 8, none⟩ (.int .i64 x.e.kind)).setCell ⟨g, n * 8 + 1, none⟩ (.string x.e.name)).setCell ⟨g, n * 8 + 2, none⟩ x.nv).setCell ⟨g, n * 8 + 3, none⟩ (.int .i64 x.e.const.kind)).setCell ⟨g, n * 8 + 4, none⟩ (.int .i64 x.e.const.int)).setCell ⟨g, n * 8 + 5, none⟩ (.string x.e.const.text)).setCell ⟨g, n * 8 + 6, none⟩ x.dl).setCell ⟨g, n * 8 + 7, none⟩ x.kv)).ownsRow B e 8 (.slice (some ⟨g, 0, none⟩) (n + 1) c) (n + 1) (flatX M ++ x.cells) ∧ w.grownBy (((((((((w.setCell ⟨g, n * 8, none⟩ (.int .i64 x.e.kind)).setCell ⟨g, n * 8 + 1, none⟩ (.string x.e.name)).setCell ⟨g, n * 8 + 2, none⟩ x.nv).setCell ⟨g, n * 8 + 3, none⟩ (.int .i64 x.e.const.kind)).setCell ⟨g, n * 8 + 4, none⟩ (.int .i64 x.e.const.int)).setCell ⟨g, n * 8 + 5, none⟩ (.string x.e.const.text)).setCell ⟨g, n * 8 + 6, none⟩ x.dl).setCell ⟨g, n * 8 + 7, none⟩ x.kv)) (some g) := by
  have hl : (flatX M).length = n * 8 := by rw [flatX_length, hn]
  obtain ⟨p0, g0⟩ := h.stored (n * 8) (.int .i64 x.e.kind)
  obtain ⟨p1, g1⟩ := p0.stored (n * 8 + 1) (.string x.e.name)
  obtain ⟨p2, g2⟩ := p1.stored (n * 8 + 2) x.nv
  obtain ⟨p3, g3⟩ := p2.stored (n * 8 + 3) (.int .i64 x.e.const.kind)
  obtain ⟨p4, g4⟩ := p3.stored (n * 8 + 4) (.int .i64 x.e.const.int)
  obtain ⟨p5, g5⟩ := p4.stored (n * 8 + 5) (.string x.e.const.text)
  obtain ⟨p6, g6⟩ := p5.stored (n * 8 + 6) x.dl
  obtain ⟨p7, g7⟩ := p6.stored (n * 8 + 7) x.kv
  have e0 : ∀ (Z : List Value) (u : Value), (flatX M ++ Z).set (n * 8) u = flatX M ++ Z.set 0 u := fun Z u => set_tail _ Z (n * 8) 0 hl u
  rw [e0, set_tail _ _ _ 1 hl, set_tail _ _ _ 2 hl, set_tail _ _ _ 3 hl, set_tail _ _ _ 4 hl, set_tail _ _ _ 5 hl, set_tail _ _ _ 6 hl, set_tail _ _ _ 7 hl] at p7
  refine ⟨p7, ?_⟩
  have tr : ∀ {a b d : World}, a.grownBy b (some g) → b.grownBy d (some g) → a.grownBy d (some g) := fun h k => ⟨k.os.trans h.os, k.tape.trans h.tape, k.output.trans h.output, Nat.le_trans h.size k.size, fun i hi hc => (k.block i (Nat.lt_of_lt_of_le hi h.size) hc).trans (h.block i hi hc)⟩
  exact tr (tr (tr (tr (tr (tr (tr g0 g1) g2) g3) g4) g5) g6) g7
end Ew
end Go.Proofs.YtkplkgdfphbldaaGreat
namespace Go.Proofs.YtkplkgdfphbldaaGreat
open Go.RowKit
set_option linter.unusedVariables false
set_option linter.unusedSimpArgs false
set_option maxRecDepth 100000
namespace Ew
open Rn
def PutPost (B pb : Nat) (mk : Value → Value → Array Value) (r1 r2 : Nat) (l1 : List ByteArray) (l2 : List XM) (n : ByteArray) (x : XM) (w : World) (ρ : Nat → Nat) (en : Ending) (w' : World) : Prop :=
  en = .returned (.tuple #[]) ∧ ∃ ρ' v1' v2', w'.heap[pb]? = some (.cells (mk v1' v2') 61 (0, 0)) ∧ RowR w' ρ' r1 9 1 (l1.length + 1) v1' (strs (l1 ++ [n])) ∧ XR w' ρ' r2 v2' (l2 ++ [x]) ∧ RI B w' ρ' ∧ GrS (fun r => r = 1 ∨ r = r1 ∨ r = r2) w ρ w' ρ'
theorem Gr.of_grown {r g : Nat} {w w' : World} {ρ : Nat → Nat} (h : w.grownBy w' (some g)) (hg : ρ g = r) : Gr r w ρ w' ρ :=
  ⟨h.os, h.tape, h.output, h.size, fun b hb hn => h.block b hb fun e => hn (by cases e; exact hg), fun _ _ => rfl⟩
theorem RI.up {B : Nat} {w w' : World} {ρ : Nat → Nat} (h : RI B w ρ) (hs : w.heap.size ≤ w'.heap.size) : RI B w' ρ := ⟨h.low, fun b hb => h.hi b (Nat.le_trans hs hb), Nat.le_trans h.le hs⟩
theorem put_fin {B pb o r1 r2 : Nat} {mk : Value → Value → Array Value} (V : View o mk) {l1 : List ByteArray} {l2 : List XM} {n : ByteArray} {x : XM} {w w3 wa w5 w6 : World} {ρ ρ1 : Nat → Nat} {v1 v2 : Value} {g2 c2 : Nat}
    (hpb : ρ1 pb = 1) (hr1 : r1 ≠ 0 ∧ r1 ≠ 1) (hr2 : r2 ≠ 0 ∧ r2 ≠ 1) (hr : r1 ≠ r2)
    (hP : w3.heap[pb]? = some (.cells (mk v1 v2) 61 (0, 0))) (h1 : RowR w3 ρ1 r1 9 1 (l1.length + 1) v1 (strs (l1 ++ [n]))) (h2 : XR w3 ρ1 r2 v2 l2) (hi : RI B w3 ρ1) (hG : GrS (fun r => r = 1 ∨ r = r1 ∨ r = r2) w ρ w3 ρ1) (hx : Free0 ρ w (fun w => ExAt w x.val x.e))
    (hb : Below w3.heap.size w3 wa) (hown : w5.ownsRow 0 28 8 (.slice (some ⟨g2, 0, none⟩) (l2.length + 1) c2) (l2.length + 1) (flatX l2 ++ zeroX.cells)) (hg : wa.grownBy w5 v2.ownBlock) (hl : some g2 = v2.ownBlock ∨ some g2 = some wa.heap.size)
    (h6 : w6.ownsRow 0 28 8 (.slice (some ⟨g2, 0, none⟩) (l2.length + 1) c2) (l2.length + 1) (flatX l2 ++ x.cells)) (hg6 : w5.grownBy w6 (some g2)) :
    PutPost B pb mk r1 r2 l1 l2 n x w ρ (.returned (.tuple #[])) (w6.setCell ⟨pb, o + 7, none⟩ (.slice (some ⟨g2, 0, none⟩) (l2.length + 1) c2)) := by
  obtain ⟨ρ2, k1, k2, k3⟩ := row_grow (B := B) h2.row hi hr2.1 hb hown hg hl
  have hpl : pb < w3.heap.size := (Array.getElem?_eq_some_iff.1 hP).1
  have hg2 : ρ2 g2 = r2 := k1.2 g2 rfl
  have k4 : Gr r2 w5 ρ2 w6 ρ2 := Gr.of_grown hg6 hg2
  have k5 := k2.trans k4
  have hP6 : w6.heap[pb]? = some (.cells (mk v1 v2) 61 (0, 0)) := (k5.keep pb hpl (by rw [hpb]; exact fun e => hr2.2 e.symm)).trans hP
  have hpb2 : ρ2 pb = 1 := (k5.role pb hpl).trans hpb
  have k7 : Gr 1 w6 ρ2 (w6.setCell ⟨pb, o + 7, none⟩ (.slice (some ⟨g2, 0, none⟩) (l2.length + 1) c2)) ρ2 := Gr.set _ hpb2
  have i6 : RI B w6 ρ2 := k3.up hg6.size
  have hx3 : Free0 ρ1 w3 (fun w => ExAt w x.val x.e) := free_grs hx (by show ¬ (0 = 1 ∨ 0 = r1 ∨ 0 = r2); omega) hG
  refine ⟨rfl, ρ2, v1, .slice (some ⟨g2, 0, none⟩) (l2.length + 1) c2, ?_, RowR.gr (RowR.gr h1 hr k5) hr1.2 k7, ⟨?_, fun y hy => ?_⟩, i6.set, (hG.trans (k5.toS (.inr (.inr rfl)))).trans (k7.toS (.inl rfl))⟩
  · have := heap_setCell_same w6 pb (o + 7) _ _ (.slice (some ⟨g2, 0, none⟩) (l2.length + 1) c2) hP6
    rw [V.s2] at this
    exact this
  · rw [flatX_app, flatX_one, List.length_append]
    exact RowR.gr ⟨h6, k1.2⟩ hr2.2 k7
  · rw [List.mem_append] at hy
    refine free_gr ?_ (by decide) k7
    rcases hy with hy | hy
    · exact free_gr (h2.els y hy) hr2.1 k5
    · simp at hy
      subst hy
      exact free_gr hx3 hr2.1 k5
theorem put_end {B pb o r1 r2 : Nat} {mk : Value → Value → Array Value} (V : View o mk) {l1 : List ByteArray} {l2 : List XM} {n : ByteArray} {e : Ex} {an ad ak : Option Addr} {nn cn nd cd nk ck : Nat} {w w3 wa w5 : World} {ρ ρ1 : Nat → Nat} {v1 v2 : Value} {g2 c2 : Nat}
    (hpb : ρ1 pb = 1) (hr1 : r1 ≠ 0 ∧ r1 ≠ 1) (hr2 : r2 ≠ 0 ∧ r2 ≠ 1) (hr : r1 ≠ r2)
    (hP : w3.heap[pb]? = some (.cells (mk v1 v2) 61 (0, 0))) (h1 : RowR w3 ρ1 r1 9 1 (l1.length + 1) v1 (strs (l1 ++ [n]))) (h2 : XR w3 ρ1 r2 v2 l2) (hi : RI B w3 ρ1) (hG : GrS (fun r => r = 1 ∨ r = r1 ∨ r = r2) w ρ w3 ρ1) (hx : Free0 ρ w (fun w => ExAt w (exV e.kind e.name (.slice an nn cn) e.const (.slice ad nd cd) (.slice ak nk ck)) e))
    (hb : Below w3.heap.size w3 wa) (hown : w5.ownsRow 0 28 8 (.slice (some ⟨g2, 0, none⟩) (l2.length + 1) c2) (l2.length + 1) (flatX l2 ++ zeroX.cells)) (hg : wa.grownBy w5 v2.ownBlock) (hl : some g2 = v2.ownBlock ∨ some g2 = some wa.heap.size) :
    PutPost B pb mk r1 r2 l1 l2 n ⟨e, .slice an nn cn, .slice ad nd cd, .slice ak nk ck⟩ w ρ (.returned (.tuple #[])) (((((((((w5.setCell ⟨g2, l2.length * 8, none⟩ (.int .i64 e.kind)).setCell ⟨g2, l2.length * 8 + 1, none⟩ (.string e.name)).setCell ⟨g2, l2.length * 8 + 2, none⟩ (.slice an nn cn)).setCell ⟨g2, l2.length * 8 + 3, none⟩ (.int .i64 e.const.kind)).setCell ⟨g2, l2.length * 8 + 4, none⟩ (.int .i64 e.const.int)).setCell ⟨g2, l2.length * 8 + 5, none⟩ (.string e.const.text)).setCell ⟨g2, l2.length * 8 + 6, none⟩ (.slice ad nd cd)).setCell ⟨g2, l2.length * 8 + 7, none⟩ (.slice ak nk ck)).setCell ⟨pb, o + 7, none⟩ (.slice (some ⟨g2, 0, none⟩) (l2.length + 1) c2)) := by
  obtain ⟨k1, k2⟩ := row_put (x := ⟨e, .slice an nn cn, .slice ad nd cd, .slice ak nk ck⟩) (y := zeroX) rfl hown
  dsimp only at k1 k2
  exact put_fin (x := ⟨e, .slice an nn cn, .slice ad nd cd, .slice ak nk ck⟩) V hpb hr1 hr2 hr hP h1 h2 hi hG hx hb hown hg hl k1 k2
theorem put_end2 {B pb o r1 r2 : Nat} {mk : Value → Value → Array Value} (V : View o mk) {l1 : List ByteArray} {l2 : List XM} {n : ByteArray} {e : Ex} {an ad ak : Option Addr} {nn cn nd cd nk ck : Nat} {w w3 wa w5 : World} {ρ ρ1 : Nat → Nat} {v1 v2 : Value} {g2 c2 : Nat}
    (hpb : ρ1 pb = 1) (hr1 : r1 ≠ 0 ∧ r1 ≠ 1) (hr2 : r2 ≠ 0 ∧ r2 ≠ 1) (hr : r1 ≠ r2)
    (hP : w3.heap[pb]? = some (.cells (mk v1 v2) 61 (0, 0))) (h1 : RowR w3 ρ1 r1 9 1 (l1.length + 1) v1 (strs (l1 ++ [n]))) (h2 : XR w3 ρ1 r2 v2 l2) (hi : RI B w3 ρ1) (hG : GrS (fun r => r = 1 ∨ r = r1 ∨ r = r2) w ρ w3 ρ1) (hx : Free0 ρ w (fun w => ExAt w (exV e.kind e.name (.slice an nn cn) e.const (.slice ad nd cd) (.slice ak nk ck)) e))
    (hb : Below w3.heap.size w3 wa) (hown : w5.ownsRow 0 28 8 (.slice (some ⟨g2, 0, none⟩) (l2.length + 1) c2) (l2.length + 1) (flatX l2 ++ zeroX.cells)) (hg : wa.grownBy w5 v2.ownBlock) (hl : some g2 = v2.ownBlock ∨ some g2 = some wa.heap.size) :
    PutPost B pb mk r1 r2 l1 l2 n ⟨e, .slice an nn cn, .slice ad nd cd, .slice ak nk ck⟩ w ρ (.returned (.tuple #[])) (((((((((w5.setCell ⟨pb, o + 7, none⟩ (.slice (some ⟨g2, 0, none⟩) (l2.length + 1) c2)).setCell ⟨g2, l2.length * 8, none⟩ (.int .i64 e.kind)).setCell ⟨g2, l2.length * 8 + 1, none⟩ (.string e.name)).setCell ⟨g2, l2.length * 8 + 2, none⟩ (.slice an nn cn)).setCell ⟨g2, l2.length * 8 + 3, none⟩ (.int .i64 e.const.kind)).setCell ⟨g2, l2.length * 8 + 4, none⟩ (.int .i64 e.const.int)).setCell ⟨g2, l2.length * 8 + 5, none⟩ (.string e.const.text)).setCell ⟨g2, l2.length * 8 + 6, none⟩ (.slice ad nd cd)).setCell ⟨g2, l2.length * 8 + 7, none⟩ (.slice ak nk ck)) := by
  obtain ⟨ρ2, k1, k2, k3⟩ := row_grow (B := B) h2.row hi hr2.1 hb hown hg hl
  have hpl : pb < w3.heap.size := (Array.getElem?_eq_some_iff.1 hP).1
  have hg2 : ρ2 g2 = r2 := k1.2 g2 rfl
  have hpb2 : ρ2 pb = 1 := (k2.role pb hpl).trans hpb
  have hne : g2 ≠ pb := fun e => by rw [e, hpb2] at hg2; exact hr2.2 hg2.symm
  have hP5 : w5.heap[pb]? = some (.cells (mk v1 v2) 61 (0, 0)) := (k2.keep pb hpl (by rw [hpb]; exact fun e => hr2.2 e.symm)).trans hP
  have hP6 := heap_setCell_same w5 pb (o + 7) _ _ (.slice (some ⟨g2, 0, none⟩) (l2.length + 1) c2) hP5
  rw [V.s2] at hP6
  have k7 : Gr 1 w5 ρ2 (w5.setCell ⟨pb, o + 7, none⟩ (.slice (some ⟨g2, 0, none⟩) (l2.length + 1) c2)) ρ2 := Gr.set _ hpb2
  have hown7 : (w5.setCell ⟨pb, o + 7, none⟩ (.slice (some ⟨g2, 0, none⟩) (l2.length + 1) c2)).ownsRow 0 28 8 (.slice (some ⟨g2, 0, none⟩) (l2.length + 1) c2) (l2.length + 1) (flatX l2 ++ zeroX.cells) := own_same hown fun b e => heap_setCell_other _ _ _ _ (by show b ≠ pb; cases e; exact hne)
  have i7 : RI B (w5.setCell ⟨pb, o + 7, none⟩ (.slice (some ⟨g2, 0, none⟩) (l2.length + 1) c2)) ρ2 := k3.set
  generalize w5.setCell ⟨pb, o + 7, none⟩ (.slice (some ⟨g2, 0, none⟩) (l2.length + 1) c2) = w7 at hP6 k7 hown7 i7 ⊢
  obtain ⟨q1, q2⟩ := row_put (x := ⟨e, .slice an nn cn, .slice ad nd cd, .slice ak nk ck⟩) (y := zeroX) rfl hown7
  dsimp only at q1 q2
  generalize (((((((w7.setCell ⟨g2, l2.length * 8, none⟩ (.int .i64 e.kind)).setCell ⟨g2, l2.length * 8 + 1, none⟩ (.string e.name)).setCell ⟨g2, l2.length * 8 + 2, none⟩ (.slice an nn cn)).setCell ⟨g2, l2.length * 8 + 3, none⟩ (.int .i64 e.const.kind)).setCell ⟨g2, l2.length * 8 + 4, none⟩ (.int .i64 e.const.int)).setCell ⟨g2, l2.length * 8 + 5, none⟩ (.string e.const.text)).setCell ⟨g2, l2.length * 8 + 6, none⟩ (.slice ad nd cd)).setCell ⟨g2, l2.length * 8 + 7, none⟩ (.slice ak nk ck) = w8 at q1 q2 ⊢
  have k8 : Gr r2 w7 ρ2 w8 ρ2 := Gr.of_grown q2 hg2
  have hp7 : pb < w7.heap.size := (Array.getElem?_eq_some_iff.1 hP6).1
  have hx3 : Free0 ρ1 w3 (fun w => ExAt w (exV e.kind e.name (.slice an nn cn) e.const (.slice ad nd cd) (.slice ak nk ck)) e) := free_grs hx (by show ¬ (0 = 1 ∨ 0 = r1 ∨ 0 = r2); omega) hG
  refine ⟨rfl, ρ2, v1, .slice (some ⟨g2, 0, none⟩) (l2.length + 1) c2, (k8.keep pb hp7 (by rw [hpb2]; exact fun e => hr2.2 e.symm)).trans hP6, RowR.gr (RowR.gr (RowR.gr h1 hr k2) hr1.2 k7) hr k8, ⟨?_, fun y hy => ?_⟩, i7.up k8.size, ((hG.trans (k2.toS (.inr (.inr rfl)))).trans (k7.toS (.inl rfl))).trans (k8.toS (.inr (.inr rfl)))⟩
  · rw [flatX_app, flatX_one, List.length_append]
    exact ⟨q1, k1.2⟩
  · rw [List.mem_append] at hy
    refine free_gr (free_gr ?_ (by decide) k7) hr2.1 k8
    rcases hy with hy | hy
    · exact free_gr (h2.els y hy) hr2.1 k2
    · simp at hy
      subst hy
      exact free_gr hx3 hr2.1 k2
theorem put_grow {r2 g2 pb bx : Nat} {w3 wa w5 : World} {ρ1 : Nat → Nat} {v2 : Value} {l2 : List XM} {n : Nat} {c : Nat} {xs : List Value} {o1 o2 : Obj} (h : XR w3 ρ1 r2 v2 l2) (hpb : ρ1 pb = 1) (hr2 : r2 ≠ 0 ∧ r2 ≠ 1) (hown : w5.ownsRow 0 28 8 (.slice (some ⟨g2, 0, none⟩) n c) n xs) (hg : wa.grownBy w5 v2.ownBlock) (hl : some g2 = v2.ownBlock ∨ some g2 = some wa.heap.size) (hwa : Below w3.heap.size w3 wa) (h1 : w3.heap[pb]? = some o1) (hb : w3.heap[bx]? = some o2) (hbr : v2.ownBlock ≠ some bx) : pb ≠ g2 ∧ g2 ≠ pb ∧ w5.heap[pb]? = some o1 ∧ w5.heap[bx]? = some o2 := by
  have hp := (Array.getElem?_eq_some_iff.1 h1).1
  have hbx := (Array.getElem?_eq_some_iff.1 hb).1
  have hsz := hwa.size
  have hne : pb ≠ g2 := by
    rintro rfl
    rcases hl with h2 | h2
    · have := h.row.2 _ h2.symm
      rw [hpb] at this
      exact hr2.2 this.symm
    · have := Option.some.inj h2
      omega
  refine ⟨hne, fun e => hne e.symm, ?_, ?_⟩
  · refine ((hg.block pb (by omega) fun e => ?_).trans (hwa.block pb hp)).trans h1
    have := h.row.2 _ e.symm
    rw [hpb] at this
    exact hr2.2 this.symm
  · exact ((hg.block bx (by omega) fun e => hbr e.symm).trans (hwa.block bx hbx)).trans hb
theorem box_kept {r ty size n : Nat} {w w1 w2 : World} {ρ : Nat → Nat} {v : Value} {xs : List Value} {cs : Array Value} {t : TypeId} {o : Obj} (hg : (w1.alloc o).grownBy w2 v.ownBlock) (h : RowR w ρ r ty size n v xs) (hB : Boxed w w1 cs t) : w2.heap[w.heap.size]? = some (.cells cs t (0, 0)) := by
  have h1 : w.heap.size < w1.heap.size := by rw [hB.size]; omega
  refine (hg.block w.heap.size (by rw [World.heap_size_alloc]; omega) fun e => ?_).trans ((Below.heap_alloc w1 o _ h1).trans hB.blk)
  have := (h.1.lt _ e.symm).2
  omega
set_option maxHeartbeats 16000000 in
theorem put_any (B pb o r1 r2 : Nat) (mk : Value → Value → Array Value) (V : View o mk) (l1 : List ByteArray) (l2 : List XM) (n : ByteArray) (e : Ex) {w : World} {ρ : Nat → Nat} {v1 v2 : Value} {an ad ak : Option Addr} {nn cn nd cd nk ck : Nat}
    (hpb : ρ pb = 1) (hr1 : r1 ≠ 0 ∧ r1 ≠ 1) (hr2 : r2 ≠ 0 ∧ r2 ≠ 1) (hr : r1 ≠ r2) (hP : w.heap[pb]? = some (.cells (mk v1 v2) 61 (0, 0))) (h1 : RowR w ρ r1 9 1 l1.length v1 (strs l1)) (h2 : XR w ρ r2 v2 l2) (hi : RI B w ρ)
    (hx : Free0 ρ w (fun w => ExAt w (exV e.kind e.name (.slice an nn cn) e.const (.slice ad nd cd) (.slice ak nk ck)) e)) (hl1 : l1.length ≤ 100000) (hl2 : l2.length ≤ 100000) :
    Calls Tryz.prog 44 #[.pointer (some ⟨pb, o, none⟩), .string n, .agg #[.int .i64 e.kind, .string e.name, .slice an nn cn, .int .i64 e.const.kind, .int .i64 e.const.int, .string e.const.text, .slice ad nd cd, .slice ak nk ck]] w (PutPost B pb mk r1 r2 l1 l2 n ⟨e, .slice an nn cn, .slice ad nd cd, .slice ak nk ck⟩ w ρ) := by
  obtain ⟨i0, hi0, hz0, hz1, hz2⟩ := info_parts infoStr
  obtain ⟨i1, hj0, hy0, hy1, hy2⟩ := info_parts infoExpr
  have HI := Lib.hid hi0
  have HZ0 := Lib.hid hz0
  have HZ1 := Lib.hid hz1
  have HZ2 := Lib.hid hz2
  have HJ := Lib.hid hj0
  have HY0 := Lib.hid hy0
  have HY1 := Lib.hid hy1
  have HY2 := Lib.hid hy2
  obtain ⟨a2, c2, rfl⟩ := XR.slice h2
  obtain ⟨w1, B1⟩ := boxed w #[.int .i64 e.kind, .string e.name, .slice an nn cn, .int .i64 e.const.kind, .int .i64 e.const.int, .string e.const.text, .slice ad nd cd, .slice ak nk ck] 28
  have hP1 := (B1.below.block pb (Array.getElem?_eq_some_iff.1 hP).1).trans hP
  have hplt : pb < w.heap.size := (Array.getElem?_eq_some_iff.1 hP).1
  have hsz1 : w1.heap.size = w.heap.size + 1 := B1.size
  have HB := Lib.hid B1
  have HV := Lib.hid V
  have HPB := Lib.hid hpb
  have HR1 := Lib.hid hr1
  have HR2 := Lib.hid hr2
  have HR := Lib.hid hr
  have HP := Lib.hid hP
  have HP1 := Lib.hid hP1
  have H1 := Lib.hid h1
  have H2 := Lib.hid h2
  have HRI := Lib.hid hi
  have HX := Lib.hid hx
  have HL1 := Lib.hid hl1
  have HL2 := Lib.hid hl2
  have HPL := Lib.hid hplt
  have HS1 := Lib.hid hsz1
  have HO1 : Hid ((w1.alloc (.cells #[.string n] 9)).ownsRow 0 9 1 v1 l1.length (strs l1)) := (own_same h1.1 fun b e => B1.below.block b (h1.1.lt b e).2).alloc _
  obtain ⟨a1, c1, hv1⟩ := RowR.slice h1
  subst hv1
  have p2 : w1.cell? ⟨pb, o + 2, none⟩ = some (.slice a1 l1.length c1) := by
    rw [cell_of_row w1 pb (o + 2) _ _ _ hP1]
    exact V.c1 _ _
  have pf2 : w1.frozen? ⟨pb, o + 2, none⟩ = false := frozen_row8 hP1
  have pl1 : pb < w1.heap.size := by omega
  clear B1 hP1 hsz1 V hpb hr1 hr2 hr hP h1 h2 hi hx hl1 hl2 hplt hi0 hz0 hz1 hz2 hj0 hy0 hy1 hy2
  go_enter Tryz.func44, Tryz.ntmps44
  go_upto_region 1 with fail
  rw [← HB.out.eq]
  go_upto_region 2 with (first
    | (at_builtin; refine wpList_append_v rfl (.tmp 10) (.tmp 12) 22 rfl 0 9 i0 _ 1 16 Tryz.underlying22 HI.out HZ0.out HZ1.out HZ2.out rfl (by decide) (.slice a1 l1.length c1) l1.length (strs l1) rfl HO1.out (some ⟨w1.heap.size, 0, none⟩) 1 1 [.string n] rfl rfl (.inr ⟨_, rfl, new_cell1 _ _ _⟩) (by simp [Value.oneCell']) (by have := HL1.out; simp only [maxLen]; omega) (by have := HL1.out; omega) (Nat.zero_le _) (w1.heap.size + 1) (by simp) ?_; intro av2 cv2 w2 hown hgr hlb; obtain ⟨g1, c1', e1⟩ := own_ne hown; cases e1; obtain ⟨ρ1, k1, k2, k3⟩ := row_grow (B := B) H1.out HRI.out HR1.out.1 (HB.out.below.alloc HB.out.below.size _) hown hgr (by rw [World.heap_size_alloc]; exact hlb); have hP2 := (k2.keep pb HPL.out (by rw [HPB.out]; exact fun e => HR1.out.2 e.symm)).trans HP.out; have HP2 := Lib.hid hP2; have HK1 := Lib.hid k1; have HK2 := Lib.hid k2; have HK3 := Lib.hid k3; have hbx : w2.heap[w.heap.size]? = some (.cells #[.int .i64 e.kind, .string e.name, .slice an nn cn, .int .i64 e.const.kind, .int .i64 e.const.int, .string e.const.text, .slice ad nd cd, .slice ak nk ck] 28 (0, 0)) := box_kept hgr H1.out HB.out; have p2' : w2.cell? ⟨pb, o + 2, none⟩ = some (.slice a1 l1.length c1) := (cell_of_row w2 pb (o + 2) _ _ _ hP2).trans (HV.out.c1 _ _); have pl2 : pb < w2.heap.size := (Array.getElem?_eq_some_iff.1 hP2).1; have pf2' : w2.frozen? ⟨pb, o + 2, none⟩ = false := frozen_row8 hP2; have HBX2 := Lib.hid hbx; clear hown hgr hlb k1 k2 k3 hP2 hbx)
    | fail)
  have h1s : RowR (w2.setCell ⟨pb, o + 2, none⟩ (.slice (some ⟨g1, 0, none⟩) (l1.length + 1) cv2)) ρ1 r1 9 1 (l1.length + 1) (.slice (some ⟨g1, 0, none⟩) (l1.length + 1) cv2) (strs (l1 ++ [n])) := by
    have k := RowR.gr HK1.out HR1.out.2 (Gr.set (i := o + 2) (.slice (some ⟨g1, 0, none⟩) (l1.length + 1) cv2) ((HK2.out.role pb HPL.out).trans HPB.out))
    rw [← strs_snoc] at k
    exact k
  generalize hw3 : w2.setCell ⟨pb, o + 2, none⟩ (.slice (some ⟨g1, 0, none⟩) (l1.length + 1) cv2) = w3 at h1s ⊢
  have hpr : ρ1 pb = 1 := (HK2.out.role pb HPL.out).trans HPB.out
  have hk3 : Gr 1 w2 ρ1 w3 ρ1 := by rw [← hw3]; exact Gr.set _ hpr
  have hP3 : w3.heap[pb]? = some (.cells (mk (.slice (some ⟨g1, 0, none⟩) (l1.length + 1) cv2) (.slice a2 l2.length c2)) 61 (0, 0)) := by
    have := heap_setCell_same w2 pb (o + 2) _ _ (.slice (some ⟨g1, 0, none⟩) (l1.length + 1) cv2) HP2.out
    rw [HV.out.s1, hw3] at this
    exact this
  have hi3 : RI B w3 ρ1 := by rw [← hw3]; exact HK3.out.set
  have hg3 : GrS (fun r => r = 1 ∨ r = r1 ∨ r = r2) w ρ w3 ρ1 := (HK2.out.toS (.inr (.inl rfl))).trans (hk3.toS (.inl rfl))
  have h23 : XR w3 ρ1 r2 (.slice a2 l2.length c2) l2 := XR.gr (XR.gr H2.out (fun e => HR.out e.symm) HR1.out.1 HK2.out) HR2.out.2 (by decide) hk3
  have hne0 : w.heap.size ≠ pb := by have := HPL.out; omega
  have hbx3 : w3.heap[w.heap.size]? = some (.cells #[.int .i64 e.kind, .string e.name, .slice an nn cn, .int .i64 e.const.kind, .int .i64 e.const.int, .string e.const.text, .slice ad nd cd, .slice ak nk ck] 28 (0, 0)) := by
    rw [← hw3, heap_setCell_other _ _ _ _ (by show w.heap.size ≠ pb; exact hne0)]
    exact HBX2.out
  have H13 := Lib.hid h1s
  have HPR := Lib.hid hpr
  have HP3 := Lib.hid hP3
  have HI3 := Lib.hid hi3
  have HG3 := Lib.hid hg3
  have H23 := Lib.hid h23
  have HBX3 := Lib.hid hbx3
  have hwz : Below w3.heap.size w3 ((w3.alloc (.cells #[.int .i64 0, .string ⟨#[]⟩, .slice none 0 0, .int .i64 0, .int .i64 0, .string ⟨#[]⟩, .slice none 0 0, .slice none 0 0] 28)).drew) := ((Below.refl _ _).alloc (Nat.le_refl _) _).drew
  have hzs : ((w3.alloc (.cells #[.int .i64 0, .string ⟨#[]⟩, .slice none 0 0, .int .i64 0, .int .i64 0, .string ⟨#[]⟩, .slice none 0 0, .slice none 0 0] 28)).drew).heap.size = w3.heap.size + 1 := by show (w3.alloc _).heap.size = _; simp
  have HWZ := Lib.hid hwz
  have HZS := Lib.hid hzs
  have HOZ : Hid (((w3.alloc (.cells #[.int .i64 0, .string ⟨#[]⟩, .slice none 0 0, .int .i64 0, .int .i64 0, .string ⟨#[]⟩, .slice none 0 0, .slice none 0 0] 28)).drew).ownsRow 0 28 8 (.slice a2 l2.length c2) l2.length (flatX l2)) := own_same h23.row.1 fun b e => hwz.block b (h23.row.1.lt b e).2
  have HSZ : Hid (∀ (j : Nat) (u : Value), zeroX.cells[j]? = some u → ((w3.alloc (.cells #[.int .i64 0, .string ⟨#[]⟩, .slice none 0 0, .int .i64 0, .int .i64 0, .string ⟨#[]⟩, .slice none 0 0, .slice none 0 0] 28)).drew).cell? ((⟨w3.heap.size, 0, none⟩ : Addr).add j) = some u) := World.news_of_block (cs := #[.int .i64 0, .string ⟨#[]⟩, .slice none 0 0, .int .i64 0, .int .i64 0, .string ⟨#[]⟩, .slice none 0 0, .slice none 0 0]) (heap_alloc_new _ _)
  have HOC : Hid (∀ u ∈ zeroX.cells, u.oneCell' = true) := XM.oneCell zeroX ⟨_, _, _, rfl⟩ ⟨_, _, _, rfl⟩ ⟨_, _, _, rfl⟩
  obtain ⟨x0, x1, x2, x3, x4, x5, x6, x7, xl⟩ := Row.of hbx3
  have hbxz := (hwz.block _ (Array.getElem?_eq_some_iff.1 hbx3).1).trans hbx3
  obtain ⟨z0, z1, z2, z3, z4, z5, z6, z7, zl⟩ := Row.of hbxz
  have t7 : w3.cell? ⟨pb, o + 7, none⟩ = some (.slice a2 l2.length c2) := (cell_of_row w3 pb (o + 7) _ _ _ hP3).trans (HV.out.c2 _ _)
  have tf7 : w3.frozen? ⟨pb, o + 7, none⟩ = false := frozen_row8 hP3
  have pl3 : pb < w3.heap.size := (Array.getElem?_eq_some_iff.1 hP3).1
  have hPz := (hwz.block _ pl3).trans hP3
  have s7 : ((w3.alloc (.cells #[.int .i64 0, .string ⟨#[]⟩, .slice none 0 0, .int .i64 0, .int .i64 0, .string ⟨#[]⟩, .slice none 0 0, .slice none 0 0] 28)).drew).cell? ⟨pb, o + 7, none⟩ = some (.slice a2 l2.length c2) := (cell_of_row _ pb (o + 7) _ _ _ hPz).trans (HV.out.c2 _ _)
  have pl4 : pb < w3.heap.size + 1 := by omega
  have gl0 : (0 : Int) ≤ (l2.length : Int) := by omega
  have gl1 : (l2.length : Int) < ((l2.length + 1 : Nat) : Int) := by omega
  have gl2 : (l2.length : Int) < (l2.length : Int) + 1 := by omega
  have HNB : Hid ((Value.slice a2 l2.length c2).ownBlock ≠ some w.heap.size) := fun e => by have := (H2.out.row.1.lt _ e).2; omega
  clear hw3 hk3 hP3 hi3 hg3 h23 hne0 hbx3 hwz hzs hbxz hPz h1s hpr
  go_region_law (first
    | (refine step_append_v (by rfl) (.tmp 19) (.tmp 22) 26 (by rfl) 0 28 i1 _ 8 128 Tryz.underlying26 HJ.out HY0.out HY1.out HY2.out rfl (by decide) (.slice a2 l2.length c2) l2.length (flatX l2) (by rfl) HOZ.out (some ⟨w3.heap.size, 0, none⟩) 1 1 zeroX.cells (by rfl) (by rfl) (.inr ⟨_, rfl, HSZ.out⟩) HOC.out (by have := HL2.out; simp only [maxLen]; omega) (by have := HL2.out; omega) (Nat.zero_le _) (w3.heap.size + 1) HZS.out ?_; intro av5 cv5 w5 hown hgr hlb; obtain ⟨g2, c5, e5⟩ := own_ne hown; cases e5; have hq := last8 rfl hown; obtain ⟨⟨_, n0⟩, m0⟩ := hq.1 0 (by omega); obtain ⟨⟨_, n1⟩, m1⟩ := hq.1 1 (by omega); obtain ⟨⟨_, n2⟩, m2⟩ := hq.1 2 (by omega); obtain ⟨⟨_, n3⟩, m3⟩ := hq.1 3 (by omega); obtain ⟨⟨_, n4⟩, m4⟩ := hq.1 4 (by omega); obtain ⟨⟨_, n5⟩, m5⟩ := hq.1 5 (by omega); obtain ⟨⟨_, n6⟩, m6⟩ := hq.1 6 (by omega); obtain ⟨⟨_, n7⟩, m7⟩ := hq.1 7 (by omega); rw [Nat.add_zero] at n0 m0; have hgl := hq.2; have hgp := put_grow H23.out HPR.out HR2.out hown hgr (by rw [HZS.out]; exact hlb) HWZ.out HP3.out HBX3.out HNB.out; have HOW := Lib.hid hown; have HGR := Lib.hid hgr; have HLB := Lib.hid hlb; obtain ⟨hne1, hne2, hP5, hbx5⟩ := hgp; obtain ⟨y0, y1, y2, y3, y4, y5, y6, y7, yl⟩ := Row.of hbx5; have r7 : w5.cell? ⟨pb, o + 7, none⟩ = some (.slice a2 l2.length c2) := (cell_of_row w5 pb (o + 7) _ _ _ hP5).trans (HV.out.c2 _ _); have rf7 : w5.frozen? ⟨pb, o + 7, none⟩ = false := frozen_row8 hP5; have pl5 : pb < w5.heap.size := (Array.getElem?_eq_some_iff.1 hP5).1; clear hown hgr hlb hq hP5 hbx5)
    | fail)
  all_goals
    have hfin := put_end HV.out HPR.out HR1.out HR2.out HR.out HP3.out H13.out H23.out HI3.out HG3.out HX.out HWZ.out HOW.out HGR.out (by rw [HZS.out]; exact HLB.out)
    have hfin2 := put_end2 HV.out HPR.out HR1.out HR2.out HR.out HP3.out H13.out H23.out HI3.out HG3.out HX.out HWZ.out HOW.out HGR.out (by rw [HZS.out]; exact HLB.out)
    go_end0
    first | with_reducible exact hfin | with_reducible exact hfin2 | fail
end Ew
end Go.Proofs.YtkplkgdfphbldaaGreat
namespace Go.Proofs.YtkplkgdfphbldaaGreat
open Go.RowKit
set_option linter.unusedVariables false
set_option linter.unusedSimpArgs false
set_option maxRecDepth 100000
namespace Ew
open Rn
set_option maxHeartbeats 2000000 in
theorem prim_any' (s : ByteArray) (a : Option Addr) (n c : Nat) (w : World) : Calls Tryz.prog 45 #[.string s, .slice a n c] w fun en w' => en = .returned (.agg #[.int .i64 7, .string s, .slice none 0 0, .int .i64 0, .int .i64 0, .string ⟨#[]⟩, .slice none 0 0, .slice a n c]) ∧ Below w.heap.size w w' := by
  go_enter Tryz.func45, Tryz.ntmps45
  go_wp2_with fail
  refine bodyPost_ret (res1 rfl _ _ w.heap.size 28 #[.int .i64 7, .string s, .slice none 0 0, .int .i64 0, .int .i64 0, .string ⟨#[]⟩, .slice none 0 0, .slice a n c] (0, 0) rfl (heap_alloc_new w _) exprD exprSize) rfl ?_
  exact ⟨rfl, (Below.refl _ _).alloc (Nat.le_refl _) _⟩
structure RowC (w : World) (g : Nat) (x : XM) (o : Nat) : Prop where
  c0 : w.cell? ⟨g, o, none⟩ = some (.int .i64 x.e.kind)
  c1 : w.cell? ⟨g, o + 1, none⟩ = some (.string x.e.name)
  c2 : w.cell? ⟨g, o + 2, none⟩ = some x.nv
  c3 : w.cell? ⟨g, o + 3, none⟩ = some (.int .i64 x.e.const.kind)
  c4 : w.cell? ⟨g, o + 4, none⟩ = some (.int .i64 x.e.const.int)
  c5 : w.cell? ⟨g, o + 5, none⟩ = some (.string x.e.const.text)
  c6 : w.cell? ⟨g, o + 6, none⟩ = some x.dl
  c7 : w.cell? ⟨g, o + 7, none⟩ = some x.kv
theorem rowC {w : World} {B n g c : Nat} {M : List XM} (h : w.ownsRow B 28 8 (.slice (some ⟨g, 0, none⟩) n c) n (flatX M)) {i : Nat} {x : XM} (hx : M[i]? = some x) : RowC w g x (i * 8) := by
  have hc := h.cells (g := g) rfl
  have hh := fun j (hj : j < 8) u (hu : x.cells[j]? = some u) => hc (i * 8 + j) u ((flatX_at M i x hx j hj).trans hu)
  have e : ∀ j, (⟨g, 0, none⟩ : Addr).add j = ⟨g, j, none⟩ := fun j => by rw [Addr.add_mid, Nat.zero_add]
  refine ⟨?_, ?_, ?_, ?_, ?_, ?_, ?_, ?_⟩
  · have := hh 0 (by omega) _ rfl; rw [e] at this; exact this
  · have := hh 1 (by omega) _ rfl; rw [e] at this; exact this
  · have := hh 2 (by omega) _ rfl; rw [e] at this; exact this
  · have := hh 3 (by omega) _ rfl; rw [e] at this; exact this
  · have := hh 4 (by omega) _ rfl; rw [e] at this; exact this
  · have := hh 5 (by omega) _ rfl; rw [e] at this; exact this
  · have := hh 6 (by omega) _ rfl; rw [e] at this; exact this
  · have := hh 7 (by omega) _ rfl; rw [e] at this; exact this
def seqX (M : List XM) (v : Value) : XM := match M with
  | [x] => x
  | M => ⟨.mk 4 ⟨#[]⟩ [] Dt.zero (M.map (·.e)), .slice none 0 0, .slice none 0 0, v⟩
theorem seqX_e (l : List XM) (x : XM) (v : Value) : (seqX (l ++ [x]) v).e = Ex.seqE (l.map (·.e)) x.e := by
  cases l with
  | nil => rfl
  | cons y l =>
    cases l with
    | nil => rfl
    | cons z l => simp [seqX, Ex.seqE]
theorem seqX_more {M : List XM} (h : M.length ≠ 1) (v : Value) : seqX M v = ⟨.mk 4 ⟨#[]⟩ [] Dt.zero (M.map (·.e)), .slice none 0 0, .slice none 0 0, v⟩ := by
  unfold seqX
  split
  · exact absurd rfl h
  · rfl
def Sliced (x : XM) : Prop := (∃ a n c, x.nv = .slice a n c) ∧ (∃ a n c, x.dl = .slice a n c) ∧ ∃ a n c, x.kv = .slice a n c
theorem sliced_at {w : World} {x : XM} (h : ExAt w x.val x.e) : Sliced x := ExAt.slices h
set_option maxHeartbeats 4000000 in
theorem seq_any (M : List XM) {w : World} {B g c : Nat} (h : w.ownsRow B 28 8 (.slice (some ⟨g, 0, none⟩) M.length c) M.length (flatX M)) (hs : ∀ x ∈ M, Sliced x) (hl : M.length ≤ 1000000) :
    Calls Tryz.prog 46 #[.slice (some ⟨g, 0, none⟩) M.length c] w fun en w' => en = .returned (seqX M (.slice (some ⟨g, 0, none⟩) M.length c)).val ∧ Below w.heap.size w w' := by
  obtain ⟨w1, B1⟩ := boxed w #[.int .i64 0, .string ⟨#[]⟩, .slice none 0 0, .int .i64 0, .int .i64 0, .string ⟨#[]⟩, .slice none 0 0, .slice none 0 0] 28
  have hb1 := blk8 B1.blk
  have HB := Lib.hid B1
  by_cases h1 : M.length = 1
  · obtain ⟨x, rfl⟩ := List.length_eq_one_iff.1 h1
    have hr := rowC h (i := 0) (x := x) rfl
    obtain ⟨⟨an, nn, cn, s1⟩, ⟨ad, nd, cd, s2⟩, ⟨ak, nk, ck, s3⟩⟩ := hs x (by simp)
    obtain ⟨e, xn, xd, xk⟩ := x
    dsimp only at s1 s2 s3
    subst s1 s2 s3
    rw [Nat.zero_mul] at hr
    obtain ⟨c0, c1, c2, c3, c4, c5, c6, c7⟩ := hr
    dsimp only at c0 c1 c2 c3 c4 c5 c6 c7
    have hg : g < w.heap.size := (h.lt g rfl).2
    have k : ∀ o, w1.cell? ⟨g, o, none⟩ = w.cell? ⟨g, o, none⟩ := fun o => B1.below.cell (p := ⟨g, o, none⟩) hg
    rw [← k] at c0 c1 c2 c3 c4 c5 c6 c7
    obtain ⟨⟨_, s0⟩, ⟨_, s1⟩, ⟨_, s2⟩, ⟨_, s3⟩, ⟨_, s4⟩, ⟨_, s5⟩, ⟨_, s6⟩, ⟨_, s7⟩, q0, q1, q2, q3, q4, q5, q6, q7, sbl⟩ := hb1
    have hg1 : g < w1.heap.size := Nat.lt_of_lt_of_le hg B1.below.size
    show Calls _ _ #[.slice (some ⟨g, 0, none⟩) 1 c] _ _
    clear B1 h hs hl h1 k
    go_enter Tryz.func46, Tryz.ntmps46
    go_upto_region 1 with fail
    rw [← HB.out.eq]
    go_wp2_with fail
    refine bodyPost_ret (res1 rfl _ _ w.heap.size 28 #[.int .i64 e.kind, .string e.name, .slice an nn cn, .int .i64 e.const.kind, .int .i64 e.const.int, .string e.const.text, .slice ad nd cd, .slice ak nk ck] (0, 0) rfl (eight_set _ _ _ _ _ _ _ _ _ _ _ (.int .i64 e.kind) (.string e.name) (.slice an nn cn) (.int .i64 e.const.kind) (.int .i64 e.const.int) (.string e.const.text) (.slice ad nd cd) (.slice ak nk ck) HB.out.blk) exprD exprSize) rfl ?_
    exact ⟨rfl, below_put8 HB.out.below (Nat.le_refl _) _ _ _ _ _ _ _ _⟩
  · rw [seqX_more h1]
    have k1 : ((M.length : Int) == 1) = false := by rw [beq_eq_false_iff_ne]; omega
    obtain ⟨m, hm⟩ : ∃ m, M.length = m := ⟨_, rfl⟩
    rw [hm] at k1
    obtain ⟨⟨_, s0⟩, ⟨_, s1⟩, ⟨_, s2⟩, ⟨_, s3⟩, ⟨_, s4⟩, ⟨_, s5⟩, ⟨_, s6⟩, ⟨_, s7⟩, q0, q1, q2, q3, q4, q5, q6, q7, sbl⟩ := hb1
    rw [hm]
    clear B1 h hs hl h1 hm
    go_enter Tryz.func46, Tryz.ntmps46
    go_upto_region 1 with fail
    rw [← HB.out.eq]
    go_wp2_with fail
    refine bodyPost_ret (res1 rfl _ _ w.heap.size 28 #[.int .i64 4, .string ⟨#[]⟩, .slice none 0 0, .int .i64 0, .int .i64 0, .string ⟨#[]⟩, .slice none 0 0, .slice (some ⟨g, 0, none⟩) m c] (0, 0) rfl (eight_set _ _ _ _ _ _ _ _ _ _ _ (.int .i64 4) (.string ⟨#[]⟩) (.slice none 0 0) (.int .i64 0) (.int .i64 0) (.string ⟨#[]⟩) (.slice none 0 0) (.slice (some ⟨g, 0, none⟩) m c) HB.out.blk) exprD exprSize) rfl ?_
    exact ⟨rfl, below_put8 HB.out.below (Nat.le_refl _) _ _ _ _ _ _ _ _⟩
end Ew
end Go.Proofs.YtkplkgdfphbldaaGreat
namespace Go.Proofs.YtkplkgdfphbldaaGreat
open Go.RowKit
set_option linter.unusedVariables false
set_option linter.unusedSimpArgs false
set_option maxRecDepth 100000
namespace Ew
open Rn
theorem GrS.mono {R R' : Nat → Prop} {w w' : World} {ρ ρ' : Nat → Nat} (h : GrS R w ρ w' ρ') (hr : ∀ r, R r → R' r) : GrS R' w ρ w' ρ' :=
  ⟨h.os, h.tape, h.output, h.size, fun b hb hn => h.keep b hb fun e => hn (hr _ e), h.role⟩
def prs (e : Ex) (j : Nat) : List (ByteArray × Ex) := (e.names.zip (e.kids.map Ex.fixE)).take j
theorem prs_succ {e : Ex} {j : Nat} {n : ByteArray} {y : Ex} (hn : e.names[j]? = some n) (hy : (e.kids.map Ex.fixE)[j]? = some y) : prs e (j + 1) = prs e j ++ [(n, y)] := by
  unfold prs
  rw [List.take_add_one, List.getElem?_zip_eq_some (z := (n, y)) |>.2 ⟨hn, hy⟩]
  rfl
theorem prs_len (e : Ex) (j : Nat) : (prs e j).length ≤ j := by unfold prs; rw [List.length_take]; omega
structure Fx (B : Nat) (e : Ex) (w5 : World) (ρ0 : Nat → Nat) (pb j : Nat) (wr : World) (ρ : Nat → Nat) (vf1 vf2 vo1 vo2 vl vs : Value) (F O : List ByteArray) (FX OX LX SX : List XM) : Prop where
  blk : wr.heap[pb]? = some (.cells (partC vf1 vf2 vo1 vo2) 61 (0, 0))
  f1 : RowR wr ρ 2 9 1 F.length vf1 (strs F)
  f2 : XR wr ρ 3 vf2 FX
  o1 : RowR wr ρ 4 9 1 O.length vo1 (strs O)
  o2 : XR wr ρ 5 vo2 OX
  ls : XR wr ρ 6 vl LX
  ss : XR wr ρ 7 vs SX
  ri : RI B wr ρ
  gr : GrS (fun r => 1 ≤ r ∧ r ≤ 7) w5 ρ0 wr ρ
  eF : F = (Ex.tiedL (Ex.assigned e) (prs e j)).map (·.1)
  eFX : FX.map (·.e) = (Ex.tiedL (Ex.assigned e) (prs e j)).map (·.2)
  eO : O = (Ex.looseL (Ex.assigned e) (prs e j)).map (·.1)
  eOX : OX.map (·.e) = (Ex.looseL (Ex.assigned e) (prs e j)).map fun _ => Ex.unsetE
  eL : LX.map (·.e) = ((Ex.looseL (Ex.assigned e) (prs e j)).filter fun p => decide (p.2.kind = 5)).map fun p => Ex.setE p.1 p.2
  eS : SX.map (·.e) = ((Ex.looseL (Ex.assigned e) (prs e j)).filter fun p => !decide (p.2.kind = 5)).map fun p => Ex.setE p.1 p.2
  rp : ρ pb = 1
section
variable {B : Nat} {e : Ex} {w5 : World} {ρ0 : Nat → Nat} {pb j : Nat} {wr : World} {ρ : Nat → Nat} {vf1 vf2 vo1 vo2 vl vs : Value} {F O : List ByteArray} {FX OX LX SX : List XM}
theorem Fx.bel (h : Fx B e w5 ρ0 pb j wr ρ vf1 vf2 vo1 vo2 vl vs F O FX OX LX SX) {w' : World} (hb : Below wr.heap.size wr w') : Fx B e w5 ρ0 pb j w' ρ vf1 vf2 vo1 vo2 vl vs F O FX OX LX SX :=
  ⟨(hb.block pb (Array.getElem?_eq_some_iff.1 h.blk).1).trans h.blk, RowR.keep h.f1 fun b hl e => ⟨hb.block b hl, e⟩, h.f2.bel hb, RowR.keep h.o1 fun b hl e => ⟨hb.block b hl, e⟩, h.o2.bel hb, h.ls.bel hb, h.ss.bel hb, h.ri.bel hb, h.gr.trans (GrS.of_bel hb), h.eF, h.eFX, h.eO, h.eOX, h.eL, h.eS, h.rp⟩
theorem Fx.lens (h : Fx B e w5 ρ0 pb j wr ρ vf1 vf2 vo1 vo2 vl vs F O FX OX LX SX) : F.length ≤ j ∧ FX.length ≤ j ∧ O.length ≤ j ∧ OX.length ≤ j ∧ LX.length ≤ j ∧ SX.length ≤ j := by
  have hp := prs_len e j
  have k1 : (Ex.tiedL (Ex.assigned e) (prs e j)).length ≤ j := Nat.le_trans (List.length_filter_le _ _) hp
  have k2 : (Ex.looseL (Ex.assigned e) (prs e j)).length ≤ j := Nat.le_trans (List.length_filter_le _ _) hp
  have h2 := congrArg List.length h.eFX
  have h4 := congrArg List.length h.eOX
  have h5 := congrArg List.length h.eL
  have h6 := congrArg List.length h.eS
  have q1 := List.length_filter_le (fun p : ByteArray × Ex => decide (p.2.kind = 5)) (Ex.looseL (Ex.assigned e) (prs e j))
  have q2 := List.length_filter_le (fun p : ByteArray × Ex => !decide (p.2.kind = 5)) (Ex.looseL (Ex.assigned e) (prs e j))
  rw [List.length_map, List.length_map] at h2 h4 h5 h6
  refine ⟨by rw [h.eF, List.length_map]; exact k1, by omega, by rw [h.eO, List.length_map]; exact k2, by omega, by omega, by omega⟩
theorem Fx.below (h : Fx B e w5 ρ0 pb j wr ρ vf1 vf2 vo1 vo2 vl vs F O FX OX LX SX) (hi : RI B w5 ρ0) : Below B w5 wr := h.gr.below (by show ¬ (1 ≤ 0 ∧ 0 ≤ 7); omega) hi
theorem Fx.free (h : Fx B e w5 ρ0 pb j wr ρ vf1 vf2 vo1 vo2 vl vs F O FX OX LX SX) {P : World → Prop} (k : Free0 ρ0 w5 P) : Free0 ρ wr P := free_grs k (by show ¬ (1 ≤ 0 ∧ 0 ≤ 7); omega) h.gr
theorem Fx.kept (h : Fx B e w5 ρ0 pb j wr ρ vf1 vf2 vo1 vo2 vl vs F O FX OX LX SX) {b : Nat} {o : Obj} (hb : w5.heap[b]? = some o) (hr : ρ0 b = 0 ∨ 8 ≤ ρ0 b) : wr.heap[b]? = some o :=
  (h.gr.keep b (Array.getElem?_eq_some_iff.1 hb).1 (by show ¬ (1 ≤ ρ0 b ∧ ρ0 b ≤ 7); omega)).trans hb
theorem tied_snoc (A : ByteArray → Bool) (l : List (ByteArray × Ex)) (p : ByteArray × Ex) (h : Ex.tied A p = true) : Ex.tiedL A (l ++ [p]) = Ex.tiedL A l ++ [p] ∧ Ex.looseL A (l ++ [p]) = Ex.looseL A l := by
  unfold Ex.tiedL Ex.looseL
  rw [List.filter_append, List.filter_append]
  simp [h]
theorem loose_snoc (A : ByteArray → Bool) (l : List (ByteArray × Ex)) (p : ByteArray × Ex) (h : Ex.tied A p = false) : Ex.tiedL A (l ++ [p]) = Ex.tiedL A l ∧ Ex.looseL A (l ++ [p]) = Ex.looseL A l ++ [p] := by
  unfold Ex.tiedL Ex.looseL
  rw [List.filter_append, List.filter_append]
  simp [h]
theorem Fx.tie (h : Fx B e w5 ρ0 pb j wr ρ vf1 vf2 vo1 vo2 vl vs F O FX OX LX SX) {n : ByteArray} {x : XM} (hn : e.names[j]? = some n) (hy : (e.kids.map Ex.fixE)[j]? = some x.e) (ht : Ex.tied (Ex.assigned e) (n, x.e) = true) {en : Ending} {w' : World}
    (hp : PutPost B pb (fun a b => partC a b vo1 vo2) 2 3 F FX n x wr ρ en w') : en = .returned (.tuple #[]) ∧ ∃ ρ' vf1' vf2', Fx B e w5 ρ0 pb (j + 1) w' ρ' vf1' vf2' vo1 vo2 vl vs (F ++ [n]) O (FX ++ [x]) OX LX SX := by
  obtain ⟨he, ρ', v1, v2, k1, k2, k3, k4, k5⟩ := hp
  obtain ⟨t1, t2⟩ := tied_snoc (Ex.assigned e) (prs e j) (n, x.e) ht
  have hR : ∀ r, 4 ≤ r → ¬ (fun r => r = 1 ∨ r = 2 ∨ r = 3) r := fun r hr => by show ¬ (r = 1 ∨ r = 2 ∨ r = 3); omega
  have hR0 : ¬ (fun r => r = 1 ∨ r = 2 ∨ r = 3) 0 := by show ¬ (0 = 1 ∨ 0 = 2 ∨ 0 = 3); omega
  refine ⟨he, ρ', v1, v2, k1, by rw [List.length_append]; exact k2, k3, RowR.grs h.o1 (hR 4 (by omega)) k5, h.o2.grs (hR 5 (by omega)) hR0 k5, h.ls.grs (hR 6 (by omega)) hR0 k5, h.ss.grs (hR 7 (by omega)) hR0 k5, k4, h.gr.trans (k5.mono fun r hr => by omega), ?_, ?_, ?_, ?_, ?_, ?_, (k5.role pb (Array.getElem?_eq_some_iff.1 h.blk).1).trans h.rp⟩
  · rw [prs_succ hn hy, t1, List.map_append, ← h.eF]; rfl
  · rw [prs_succ hn hy, t1, List.map_append, List.map_append, h.eFX]; rfl
  · rw [prs_succ hn hy, t2]; exact h.eO
  · rw [prs_succ hn hy, t2]; exact h.eOX
  · rw [prs_succ hn hy, t2]; exact h.eL
  · rw [prs_succ hn hy, t2]; exact h.eS
structure Fh (B : Nat) (e : Ex) (w5 : World) (ρ0 : Nat → Nat) (pb j : Nat) (wr : World) (ρ : Nat → Nat) (vf1 vf2 vo1 vo2 vl vs : Value) (F O : List ByteArray) (FX OX LX SX : List XM) (n : ByteArray) (ux : XM) : Prop where
  blk : wr.heap[pb]? = some (.cells (partC vf1 vf2 vo1 vo2) 61 (0, 0))
  f1 : RowR wr ρ 2 9 1 F.length vf1 (strs F)
  f2 : XR wr ρ 3 vf2 FX
  o1 : RowR wr ρ 4 9 1 (O ++ [n]).length vo1 (strs (O ++ [n]))
  o2 : XR wr ρ 5 vo2 (OX ++ [ux])
  ls : XR wr ρ 6 vl LX
  ss : XR wr ρ 7 vs SX
  ri : RI B wr ρ
  gr : GrS (fun r => 1 ≤ r ∧ r ≤ 7) w5 ρ0 wr ρ
  eF : F = (Ex.tiedL (Ex.assigned e) (prs e j)).map (·.1)
  eFX : FX.map (·.e) = (Ex.tiedL (Ex.assigned e) (prs e j)).map (·.2)
  eO : O = (Ex.looseL (Ex.assigned e) (prs e j)).map (·.1)
  eOX : OX.map (·.e) = (Ex.looseL (Ex.assigned e) (prs e j)).map fun _ => Ex.unsetE
  eL : LX.map (·.e) = ((Ex.looseL (Ex.assigned e) (prs e j)).filter fun p => decide (p.2.kind = 5)).map fun p => Ex.setE p.1 p.2
  eS : SX.map (·.e) = ((Ex.looseL (Ex.assigned e) (prs e j)).filter fun p => !decide (p.2.kind = 5)).map fun p => Ex.setE p.1 p.2
  rp : ρ pb = 1
theorem Fx.half (h : Fx B e w5 ρ0 pb j wr ρ vf1 vf2 vo1 vo2 vl vs F O FX OX LX SX) {n : ByteArray} {ux : XM} {en : Ending} {w' : World}
    (hp : PutPost B pb (fun a b => partC vf1 vf2 a b) 4 5 O OX n ux wr ρ en w') : en = .returned (.tuple #[]) ∧ ∃ ρ' vo1' vo2', Fh B e w5 ρ0 pb j w' ρ' vf1 vf2 vo1' vo2' vl vs F O FX OX LX SX n ux ∧ GrS (fun r => 1 ≤ r ∧ r ≤ 7) wr ρ w' ρ' := by
  obtain ⟨he, ρ', v1, v2, k1, k2, k3, k4, k5⟩ := hp
  have hR : ∀ r, r = 2 ∨ r = 3 ∨ r = 6 ∨ r = 7 → ¬ (fun r => r = 1 ∨ r = 4 ∨ r = 5) r := fun r hr => by show ¬ (r = 1 ∨ r = 4 ∨ r = 5); omega
  have hR0 : ¬ (fun r => r = 1 ∨ r = 4 ∨ r = 5) 0 := by show ¬ (0 = 1 ∨ 0 = 4 ∨ 0 = 5); omega
  have km := k5.mono (R' := fun r => 1 ≤ r ∧ r ≤ 7) fun r hr => by omega
  exact ⟨he, ρ', v1, v2, ⟨k1, RowR.grs h.f1 (hR 2 (by omega)) k5, h.f2.grs (hR 3 (by omega)) hR0 k5, by rw [List.length_append]; exact k2, k3, h.ls.grs (hR 6 (by omega)) hR0 k5, h.ss.grs (hR 7 (by omega)) hR0 k5, k4, h.gr.trans km, h.eF, h.eFX, h.eO, h.eOX, h.eL, h.eS, (k5.role pb (Array.getElem?_eq_some_iff.1 h.blk).1).trans h.rp⟩, km⟩
theorem Fh.bel {n : ByteArray} {ux : XM} (h : Fh B e w5 ρ0 pb j wr ρ vf1 vf2 vo1 vo2 vl vs F O FX OX LX SX n ux) {w' : World} (hb : Below wr.heap.size wr w') : Fh B e w5 ρ0 pb j w' ρ vf1 vf2 vo1 vo2 vl vs F O FX OX LX SX n ux :=
  ⟨(hb.block pb (Array.getElem?_eq_some_iff.1 h.blk).1).trans h.blk, RowR.keep h.f1 fun b hl e => ⟨hb.block b hl, e⟩, h.f2.bel hb, RowR.keep h.o1 fun b hl e => ⟨hb.block b hl, e⟩, h.o2.bel hb, h.ls.bel hb, h.ss.bel hb, h.ri.bel hb, h.gr.trans (GrS.of_bel hb), h.eF, h.eFX, h.eO, h.eOX, h.eL, h.eS, h.rp⟩
theorem Fh.lam {n : ByteArray} {ux : XM} (h : Fh B e w5 ρ0 pb j wr ρ vf1 vf2 vo1 vo2 vl vs F O FX OX LX SX n ux) {x sx : XM} (hn : e.names[j]? = some n) (hy : (e.kids.map Ex.fixE)[j]? = some x.e) (ht : Ex.tied (Ex.assigned e) (n, x.e) = false)
    (hu : ux.e = Ex.unsetE) (hs : sx.e = Ex.setE n x.e) (hk : x.e.kind = 5) (hx : Free0 ρ wr (fun w => ExAt w sx.val sx.e))
    {w1 w2 : World} {v' : Value} (hb : Below wr.heap.size wr w1) (hown : w2.ownsRow 0 28 8 v' (LX.length + 1) (flatX LX ++ sx.cells)) (hg : w1.grownBy w2 vl.ownBlock) (hl : v'.ownBlock = vl.ownBlock ∨ v'.ownBlock = some w1.heap.size) :
    ∃ ρ', Fx B e w5 ρ0 pb (j + 1) w2 ρ' vf1 vf2 vo1 vo2 v' vs F (O ++ [n]) FX (OX ++ [ux]) (LX ++ [sx]) SX := by
  obtain ⟨ρ', k1, k2, k3⟩ := h.ls.push (B := B) h.ri (by decide) hx hb hown hg hl
  obtain ⟨t1, t2⟩ := loose_snoc (Ex.assigned e) (prs e j) (n, x.e) ht
  have hpb := (Array.getElem?_eq_some_iff.1 h.blk).1
  have hp1 : ρ pb ≠ 6 := by rw [h.rp]; decide
  refine ⟨ρ', (k2.keep pb hpb hp1).trans h.blk, RowR.gr h.f1 (by decide) k2, h.f2.gr (by decide) (by decide) k2, RowR.gr h.o1 (by decide) k2, h.o2.gr (by decide) (by decide) k2, k1, h.ss.gr (by decide) (by decide) k2, k3, h.gr.trans (k2.toS (by decide)), ?_, ?_, ?_, ?_, ?_, ?_, (k2.role pb hpb).trans h.rp⟩
  · rw [prs_succ hn hy, t1]; exact h.eF
  · rw [prs_succ hn hy, t1]; exact h.eFX
  · rw [prs_succ hn hy, t2, List.map_append, ← h.eO]; rfl
  · rw [prs_succ hn hy, t2, List.map_append, List.map_append, h.eOX, List.map_cons, hu]; rfl
  · rw [prs_succ hn hy, t2, List.filter_append, List.map_append, List.map_append, h.eL]
    simp [hk, hs]
  · rw [prs_succ hn hy, t2, List.filter_append, List.map_append, h.eS]
    simp [hk, hs]
theorem Fh.set {n : ByteArray} {ux : XM} (h : Fh B e w5 ρ0 pb j wr ρ vf1 vf2 vo1 vo2 vl vs F O FX OX LX SX n ux) {x sx : XM} (hn : e.names[j]? = some n) (hy : (e.kids.map Ex.fixE)[j]? = some x.e) (ht : Ex.tied (Ex.assigned e) (n, x.e) = false)
    (hu : ux.e = Ex.unsetE) (hs : sx.e = Ex.setE n x.e) (hk : ¬ x.e.kind = 5) (hx : Free0 ρ wr (fun w => ExAt w sx.val sx.e))
    {w1 w2 : World} {v' : Value} (hb : Below wr.heap.size wr w1) (hown : w2.ownsRow 0 28 8 v' (SX.length + 1) (flatX SX ++ sx.cells)) (hg : w1.grownBy w2 vs.ownBlock) (hl : v'.ownBlock = vs.ownBlock ∨ v'.ownBlock = some w1.heap.size) :
    ∃ ρ', Fx B e w5 ρ0 pb (j + 1) w2 ρ' vf1 vf2 vo1 vo2 vl v' F (O ++ [n]) FX (OX ++ [ux]) LX (SX ++ [sx]) := by
  obtain ⟨ρ', k1, k2, k3⟩ := h.ss.push (B := B) h.ri (by decide) hx hb hown hg hl
  obtain ⟨t1, t2⟩ := loose_snoc (Ex.assigned e) (prs e j) (n, x.e) ht
  have hpb := (Array.getElem?_eq_some_iff.1 h.blk).1
  have hp1 : ρ pb ≠ 7 := by rw [h.rp]; decide
  refine ⟨ρ', (k2.keep pb hpb hp1).trans h.blk, RowR.gr h.f1 (by decide) k2, h.f2.gr (by decide) (by decide) k2, RowR.gr h.o1 (by decide) k2, h.o2.gr (by decide) (by decide) k2, h.ls.gr (by decide) (by decide) k2, k1, k3, h.gr.trans (k2.toS (by decide)), ?_, ?_, ?_, ?_, ?_, ?_, (k2.role pb hpb).trans h.rp⟩
  · rw [prs_succ hn hy, t1]; exact h.eF
  · rw [prs_succ hn hy, t1]; exact h.eFX
  · rw [prs_succ hn hy, t2, List.map_append, ← h.eO]; rfl
  · rw [prs_succ hn hy, t2, List.map_append, List.map_append, h.eOX, List.map_cons, hu]; rfl
  · rw [prs_succ hn hy, t2, List.filter_append, List.map_append, h.eL]
    simp [hk, hs]
  · rw [prs_succ hn hy, t2, List.filter_append, List.map_append, List.map_append, h.eS]
    simp [hk, hs]
end
end Ew
end Go.Proofs.YtkplkgdfphbldaaGreat
namespace Go.Proofs.YtkplkgdfphbldaaGreat
open Go.RowKit
set_option linter.unusedVariables false
set_option linter.unusedSimpArgs false
set_option maxRecDepth 100000
namespace Ew
open Rn
structure Bo (B : Nat) (w5 : World) (ρ0 : Nat → Nat) (pb : Nat) (wx : World) (ρ : Nat → Nat) (vf1 vf2 vo1 vo2 : Value) (F O : List ByteArray) (FX OX : List XM) (bb : Nat) (y : XM) : Prop where
  blk : wx.heap[pb]? = some (.cells (partC vf1 vf2 vo1 vo2) 61 (0, 0))
  f1 : RowR wx ρ 2 9 1 F.length vf1 (strs F)
  f2 : XR wx ρ 3 vf2 FX
  o1 : RowR wx ρ 4 9 1 O.length vo1 (strs O)
  o2 : XR wx ρ 5 vo2 OX
  ri : RI B wx ρ
  gr : GrS (fun r => 1 ≤ r ∧ r ≤ 7) w5 ρ0 wx ρ
  rp : ρ pb = 1
  body : wx.heap[bb]? = some (.cells #[.int .i64 y.e.kind, .string y.e.name, y.nv, .int .i64 y.e.const.kind, .int .i64 y.e.const.int, .string y.e.const.text, y.dl, y.kv] 28 (0, 0))
  yr : ρ bb = 9
  yl : w5.heap.size ≤ bb
  ex : Free0 ρ wx (fun w => ExAt w y.val y.e)
section
variable {B : Nat} {e : Ex} {w5 : World} {ρ0 : Nat → Nat} {pb j : Nat} {wr : World} {ρ : Nat → Nat} {vf1 vf2 vo1 vo2 vl vs : Value} {F O : List ByteArray} {FX OX LX SX : List XM}
theorem bo_of (H : Fx B e w5 ρ0 pb j wr ρ vf1 vf2 vo1 vo2 vl vs F O FX OX LX SX) {bx : XM} (hbx : Free0 ρ wr (fun w => ExAt w bx.val bx.e)) (h6 : ∀ b, b < w5.heap.size → ρ0 b ≠ 6)
    {wz : World} (hos : wz.os = wr.os) (htp : wz.tape = wr.tape) (hou : wz.output = wr.output) (hsz : wr.heap.size ≤ wz.heap.size) (hkeep : ∀ b, b < wr.heap.size → ρ b ≠ 6 → wz.heap[b]? = wr.heap[b]?)
    {g7 c7 : Nat} (hown : wz.ownsRow 0 28 8 (.slice (some ⟨g7, 0, none⟩) (LX.length + SX.length + 1) c7) (LX.length + SX.length + 1) (flatX LX ++ flatX SX ++ bx.cells)) (hg7 : vl.ownBlock = some g7 ∨ wr.heap.size ≤ g7) {bb : Nat} (hbb : wr.heap.size ≤ bb) (hne : bb ≠ g7)
    {y : XM} (hy : y = seqX (LX ++ SX ++ [bx]) (.slice (some ⟨g7, 0, none⟩) (LX.length + SX.length + 1) c7))
    (hbody : wz.heap[bb]? = some (.cells #[.int .i64 y.e.kind, .string y.e.name, y.nv, .int .i64 y.e.const.kind, .int .i64 y.e.const.int, .string y.e.const.text, y.dl, y.kv] 28 (0, 0))) :
    ∃ ρ', Bo B w5 ρ0 pb wz ρ' vf1 vf2 vo1 vo2 F O FX OX bb y := by
  obtain ⟨ρ', hρ⟩ : ∃ ρ' : Nat → Nat, ρ' = fun b => if b = bb then 9 else if b = g7 then 0 else if ρ b = 6 then 0 else ρ b := ⟨_, rfl⟩
  have hbz : bb < wz.heap.size := (Array.getElem?_eq_some_iff.1 hbody).1
  have hpl := (Array.getElem?_eq_some_iff.1 H.blk).1
  have hw5 : w5.heap.size ≤ wr.heap.size := H.gr.size
  have hg6 : ρ g7 = 6 ∨ wr.heap.size ≤ g7 := hg7.imp (fun h => H.ls.row.2 _ h) id
  have hi0 : ∀ b, wr.heap.size ≤ b → ρ b = 0 := H.ri.hi
  have kb : ρ' bb = 9 := by subst hρ; exact if_pos rfl
  have kr : ∀ b, b < wr.heap.size → ρ b ≠ 6 → ρ b ≠ 0 → ρ' b = ρ b := by
    intro b h1 h2 h3
    subst hρ
    show (if _ then _ else _) = _
    rw [if_neg (by omega), if_neg, if_neg h2]
    rintro rfl
    rcases hg6 with h | h
    · exact h2 h
    · omega
  have k0 : ∀ b, ρ b = 0 → b ≠ bb → ρ' b = 0 := by
    intro b h1 h2
    subst hρ
    show (if _ then _ else _) = _
    rw [if_neg h2]
    split
    · rfl
    · split
      · rfl
      · exact h1
  have kg : ρ' g7 = 0 := by
    subst hρ
    show (if _ then _ else _) = _
    rw [if_neg (fun h => hne h.symm), if_pos rfl]
  have row : ∀ {r ty size n : Nat} {v : Value} {xs : List Value}, RowR wr ρ r ty size n v xs → r ≠ 0 → r ≠ 6 → RowR wz ρ' r ty size n v xs := fun h h0 hr =>
    RowR.keep h fun b hl e => ⟨hkeep b hl (by rw [e]; exact hr), (kr b hl (by rw [e]; exact hr) (by rw [e]; exact h0)).trans e⟩
  have fre : ∀ {P : World → Prop}, Free0 ρ wr P → Free0 ρ' wz P := fun h => On.same h hsz fun b hb hl => ⟨k0 b hb (by omega), hkeep b hl (by rw [hb]; decide)⟩
  have xr : ∀ {r : Nat} {v : Value} {l : List XM}, XR wr ρ r v l → r ≠ 0 → r ≠ 6 → XR wz ρ' r v l := fun h h0 hr => ⟨row h.row h0 hr, fun x hx => fre (h.els x hx)⟩
  refine ⟨ρ', (hkeep pb hpl (by rw [H.rp]; decide)).trans H.blk, row H.f1 (by decide) (by decide), xr H.f2 (by decide) (by decide), row H.o1 (by decide) (by decide), xr H.o2 (by decide) (by decide), ⟨fun b hb => k0 b (H.ri.low b hb) (by have := H.ri.le; omega), fun b hb => k0 b (hi0 b (by omega)) (by omega), Nat.le_trans H.ri.le hsz⟩, ?_, (kr pb hpl (by rw [H.rp]; decide) (by rw [H.rp]; decide)).trans H.rp, hbody, kb, by omega, ?_⟩
  · refine ⟨hos.trans H.gr.os, htp.trans H.gr.tape, hou.trans H.gr.output, Nat.le_trans hw5 hsz, fun b hb hn => ?_, fun b hb => ?_⟩
    · have h1 := H.gr.role b hb
      exact (hkeep b (by omega) (by rw [h1]; exact h6 b hb)).trans (H.gr.keep b hb hn)
    · have h1 := H.gr.role b hb
      rw [← h1]
      by_cases h0 : ρ b = 0
      · rw [h0]
        exact k0 b h0 (by omega)
      · exact kr b (by omega) (by rw [h1]; exact h6 b hb) h0
  · subst hy
    have hels : ∀ x ∈ LX ++ SX ++ [bx], Free0 ρ' wz (fun w => ExAt w x.val x.e) := by
      intro x hx
      simp only [List.mem_append, List.mem_singleton] at hx
      rcases hx with (hx | hx) | rfl
      · exact fre (H.ls.els x hx)
      · exact fre (H.ss.els x hx)
      · exact fre hbx
    have hlen : (LX ++ SX ++ [bx]).length = LX.length + SX.length + 1 := by simp; omega
    by_cases h1 : (LX ++ SX ++ [bx]).length = 1
    · obtain ⟨x, hx⟩ := List.length_eq_one_iff.1 h1
      rw [hx]
      exact hels x (by rw [hx]; simp)
    · rw [seqX_more h1]
      have hown2 : wz.ownsRow 0 28 8 (.slice (some ⟨g7, 0, none⟩) (LX.length + SX.length + 1) c7) (LX ++ SX ++ [bx]).length (flatX (LX ++ SX ++ [bx])) := by
        rw [hlen, flatX_app, flatX_app, flatX_one]
        exact hown
      have hk := On.kids (S := fun b => ρ' b = 0) hown2 (fun b e => by cases e; exact kg) hels
      exact On.mk On.nil On.zero room_nil hk
end
end Ew
end Go.Proofs.YtkplkgdfphbldaaGreat
namespace Go.Proofs.YtkplkgdfphbldaaGreat
open Go.RowKit
set_option linter.unusedVariables false
set_option linter.unusedSimpArgs false
set_option maxRecDepth 100000
namespace Ew
open Rn
theorem flatX_cells {M : List XM} (hs : ∀ x ∈ M, Sliced x) : ∀ u ∈ flatX M, u.oneCell' = true := by
  intro u hu
  unfold flatX at hu
  obtain ⟨x, hx, hu⟩ := List.mem_flatMap.1 hu
  obtain ⟨h1, h2, h3⟩ := hs x hx
  exact XM.oneCell x h1 h2 h3 u hu
theorem src_row {w W : World} {B n c : Nat} {a : Option Addr} {M : List XM} (h : w.ownsRow B 28 8 (.slice a n c) n (flatX M)) (hW : Below w.heap.size w W) : (a = none ∧ c = 0 ∧ flatX M = []) ∨ ∃ ad, a = some ad ∧ ∀ (j : Nat) (u : Value), (flatX M)[j]? = some u → W.cell? (ad.add j) = some u := by
  have hMW : W.ownsRow B 28 8 (.slice a n c) n (flatX M) := own_same h fun b e => hW.block b (h.lt b e).2
  rcases own_shape hMW with ⟨e1, e2, e3⟩ | ⟨g, c, e1, _⟩
  · exact .inl ⟨(Value.slice.inj e1).1, (Value.slice.inj e1).2.2, e3⟩
  · obtain ⟨e2, _, _⟩ := Value.slice.inj e1
    subst e2
    exact .inr ⟨_, rfl, hMW.cells rfl⟩
structure M6 (wr : World) (vl : Value) (W : World) : Prop where
  os : W.os = wr.os
  tape : W.tape = wr.tape
  output : W.output = wr.output
  size : wr.heap.size ≤ W.heap.size
  keep : ∀ b, b < wr.heap.size → vl.ownBlock ≠ some b → W.heap[b]? = wr.heap[b]?
section
variable {wr W : World} {vl : Value}
theorem M6.of_bel (hb : Below wr.heap.size wr W) : M6 wr vl W := ⟨hb.os, hb.tape, hb.output, hb.size, fun b hl _ => hb.block b hl⟩
theorem M6.bel (h : M6 wr vl W) {W' : World} (hb : Below W.heap.size W W') : M6 wr vl W' :=
  ⟨hb.os.trans h.os, hb.tape.trans h.tape, hb.output.trans h.output, Nat.le_trans h.size hb.size, fun b hl hn => (hb.block b (Nat.lt_of_lt_of_le hl h.size)).trans (h.keep b hl hn)⟩
theorem M6.alloc (h : M6 wr vl W) (o : Obj) : M6 wr vl (W.alloc o) := h.bel ((Below.refl _ _).alloc (Nat.le_refl _) _)
theorem M6.put8 (h : M6 wr vl W) {z : Nat} (hz : wr.heap.size ≤ z) (b0 b1 b2 b3 b4 b5 b6 b7 : Value) : M6 wr vl (put8 W z b0 b1 b2 b3 b4 b5 b6 b7) := by
  obtain ⟨k1, k2⟩ := put8_kp (g := z) (w := W) b0 b1 b2 b3 b4 b5 b6 b7
  have kg := put8_gr (r := 1) (g := z) (w := W) (ρ := fun _ => 1) rfl b0 b1 b2 b3 b4 b5 b6 b7
  exact ⟨kg.os.trans h.os, kg.tape.trans h.tape, kg.output.trans h.output, by rw [k1]; exact h.size, fun b hl hn => (k2 b (by omega)).trans (h.keep b hl hn)⟩
theorem M6.set8 (h : M6 wr vl W) {z : Nat} (hz : wr.heap.size ≤ z) (b0 b1 b2 b3 b4 b5 b6 b7 : Value) : M6 wr vl ((((((((W.setCell ⟨z, 0, none⟩ b0).setCell ⟨z, 1, none⟩ b1).setCell ⟨z, 2, none⟩ b2).setCell ⟨z, 3, none⟩ b3).setCell ⟨z, 4, none⟩ b4).setCell ⟨z, 5, none⟩ b5).setCell ⟨z, 6, none⟩ b6).setCell ⟨z, 7, none⟩ b7) := h.put8 hz b0 b1 b2 b3 b4 b5 b6 b7
structure C18 (W : World) (p1 p3 gr n : Nat) (nv kv : Value) (x : XM) : Prop where
  c1 : W.cell? ⟨p1, 2, none⟩ = some nv
  c3 : W.cell? ⟨p3, 7, none⟩ = some kv
  row : RowC W gr x (n * 8)
abbrev S18 (wr : World) (vl : Value) (W : World) (p1 p3 gr n : Nat) (nv kv : Value) (x : XM) : Prop :=
  M6 wr vl W ∧ W.cell? ⟨p1, 2, none⟩ = some nv ∧ W.cell? ⟨p3, 7, none⟩ = some kv ∧ W.cell? ⟨gr, n * 8, none⟩ = some (.int .i64 x.e.kind) ∧ W.cell? ⟨gr, n * 8 + 1, none⟩ = some (.string x.e.name) ∧ W.cell? ⟨gr, n * 8 + 2, none⟩ = some x.nv ∧ W.cell? ⟨gr, n * 8 + 3, none⟩ = some (.int .i64 x.e.const.kind) ∧ W.cell? ⟨gr, n * 8 + 4, none⟩ = some (.int .i64 x.e.const.int) ∧ W.cell? ⟨gr, n * 8 + 5, none⟩ = some (.string x.e.const.text) ∧ W.cell? ⟨gr, n * 8 + 6, none⟩ = some x.dl ∧ W.cell? ⟨gr, n * 8 + 7, none⟩ = some x.kv
theorem s18 {p1 p3 gr n : Nat} {nv kv : Value} {x : XM} (h : C18 wr p1 p3 gr n nv kv x) (h1 : vl.ownBlock ≠ some p1) (h3 : vl.ownBlock ≠ some p3) (hg : vl.ownBlock ≠ some gr) (m : M6 wr vl W) : S18 wr vl W p1 p3 gr n nv kv x := by
  have k : ∀ {b o : Nat} {v : Value}, vl.ownBlock ≠ some b → wr.cell? ⟨b, o, none⟩ = some v → W.cell? ⟨b, o, none⟩ = some v := fun {b o v} hb hc =>
    (World.cell?_of_block (a := ⟨b, o, none⟩) (m.keep b (World.block_lt_of_cell? wr _ hc) hb)).trans hc
  exact ⟨m, k h1 h.c1, k h3 h.c3, k hg h.row.c0, k hg h.row.c1, k hg h.row.c2, k hg h.row.c3, k hg h.row.c4, k hg h.row.c5, k hg h.row.c6, k hg h.row.c7⟩
structure Rows18 (wr : World) (vl : Value) (asv : Option Addr) (cs : Nat) (LX SX : List XM) : Prop where
  l : wr.ownsRow 0 28 8 vl LX.length (flatX LX)
  s : wr.ownsRow 0 28 8 (.slice asv SX.length cs) SX.length (flatX SX)
  o : ∀ u ∈ flatX SX, u.oneCell' = true
  n1 : LX.length ≤ 100000
  n2 : SX.length ≤ 100000
structure A6 (wr : World) (vl : Value) (W w6 : World) (v6 : Value) (n : Nat) (xs : List Value) : Prop where
  own : w6.ownsRow 0 28 8 v6 n xs
  m : M6 wr vl w6
  le : W.heap.size ≤ w6.heap.size
  new : ∀ b, wr.heap.size ≤ b → b < W.heap.size → v6.ownBlock ≠ some b
  kept : ∀ b o, wr.heap.size ≤ b → W.heap[b]? = some o → w6.heap[b]? = some o
  blk : ∀ b, v6.ownBlock = some b → vl.ownBlock = some b ∨ wr.heap.size ≤ b
theorem step_A {ops : Array Oper} {o : Oper} {a : Act} {K : Act → World → Prop} {Q : Exit → Act → World → Prop} {E : Prop} {asv : Option Addr} {cs : Nat} {LX SX : List XM} (hgd : o.guard = none)
    (ho : o.op = .call { callee := .builtin .append, args := #[.tmp 69, .tmp 70], argTypes := #[26, 26] }) (hs : a.eval (.tmp 69) = vl) (hx : a.eval (.tmp 70) = .slice asv SX.length cs) (R : Rows18 wr vl asv cs LX SX) (hb : Below wr.heap.size wr W)
    (h : ∀ v6 w6, A6 wr vl W w6 v6 (LX.length + SX.length) (flatX LX ++ flatX SX) → K (a.put o.dst v6) w6) : if Region.wanted o (yielded ops a.tmps) = true then Oper.wp Tryz.prog o a W K Q else E := by
  obtain ⟨i0, hi0, hz0, hz1, hz2⟩ := info_parts infoExpr
  have n1 := R.n1
  have n2 := R.n2
  refine step_append_v hgd (.tmp 69) (.tmp 70) 26 ho 0 28 i0 _ 8 128 Tryz.underlying26 hi0 hz0 hz1 hz2 rfl (by decide) vl LX.length (flatX LX) hs (own_same R.l fun b e => hb.block b (R.l.lt b e).2) asv SX.length cs (flatX SX) hx (flatX_length SX) (src_row R.s hb) R.o (by simp only [maxLen]; omega) (by omega) (Nat.zero_le _) _ rfl ?_
  intro av cv w6 hown hg hl
  refine h _ _ ⟨hown, ⟨hg.os.trans hb.os, hg.tape.trans hb.tape, hg.output.trans hb.output, Nat.le_trans hb.size hg.size, fun b hbl hn => (hg.block b (Nat.lt_of_lt_of_le hbl hb.size) fun e => hn e.symm).trans (hb.block b hbl)⟩, hg.size, fun b h1 h2 e => ?_, fun b ob h1 h2 => ?_, fun b e => ?_⟩
  · rcases hl with h | h
    · have := (R.l.lt b (h.symm.trans e)).2
      omega
    · rw [h] at e
      have := Option.some.inj e
      omega
  · exact (hg.block b (Array.getElem?_eq_some_iff.1 h2).1 fun e => by have := (R.l.lt b e.symm).2; omega).trans h2
  · rcases hl with h | h
    · exact .inl (h.symm.trans e)
    · rw [h] at e
      have := Option.some.inj e
      have := hb.size
      exact .inr (by omega)
structure A7 (wr : World) (vl v6 : Value) (W w7 : World) (g7 c7 n : Nat) (xs : List Value) : Prop where
  own : w7.ownsRow 0 28 8 (.slice (some ⟨g7, 0, none⟩) n c7) n xs
  m : M6 wr vl w7
  ne : ∀ b, b < W.heap.size → v6.ownBlock ≠ some b → b ≠ g7
  kept : ∀ b o, v6.ownBlock ≠ some b → W.heap[b]? = some o → w7.heap[b]? = some o
  blk : vl.ownBlock = some g7 ∨ wr.heap.size ≤ g7
theorem step_P {ops : Array Oper} {o : Oper} {a : Act} {K : Act → World → Prop} {Q : Exit → Act → World → Prop} {E : Prop} {W6 w6 : World} {v6 : Value} {n : Nat} {xs : List Value} {x : XM} (hgd : o.guard = none)
    (ho : o.op = .call { callee := .builtin .append, args := #[.tmp 71, .tmp 79], argTypes := #[26, 26] }) (hs : a.eval (.tmp 71) = v6) (h6 : A6 wr vl W6 w6 v6 n xs) (hn : n ≤ 200000)
    (hb : Below w6.heap.size w6 W) (hsl : Sliced x) (hx : ∃ xb, a.eval (.tmp 79) = .slice (some ⟨xb, 0, none⟩) 1 1 ∧ W.heap[xb]? = some (.cells #[.int .i64 x.e.kind, .string x.e.name, x.nv, .int .i64 x.e.const.kind, .int .i64 x.e.const.int, .string x.e.const.text, x.dl, x.kv] 28 (0, 0)))
    (h : ∀ g7 c7 w7, A7 wr vl v6 W w7 g7 c7 (n + 1) (xs ++ x.cells) → K (a.put o.dst (.slice (some ⟨g7, 0, none⟩) (n + 1) c7)) w7) : if Region.wanted o (yielded ops a.tmps) = true then Oper.wp Tryz.prog o a W K Q else E := by
  obtain ⟨i0, hi0, hz0, hz1, hz2⟩ := info_parts infoExpr
  obtain ⟨xb, hx, hxb⟩ := hx
  refine step_append_v hgd (.tmp 71) (.tmp 79) 26 ho 0 28 i0 _ 8 128 Tryz.underlying26 hi0 hz0 hz1 hz2 rfl (by decide) v6 n xs hs (own_same h6.own fun b e => hb.block b (h6.own.lt b e).2) (some ⟨xb, 0, none⟩) 1 1 x.cells hx rfl (.inr ⟨_, rfl, World.news_of_block hxb⟩) (XM.oneCell x hsl.1 hsl.2.1 hsl.2.2) (by simp only [maxLen]; omega) (by omega) (Nat.zero_le _) _ rfl ?_
  intro av cv w7 hown hg hl
  obtain ⟨g7, c7, e7⟩ := own_ne hown
  rw [e7] at hown hl ⊢
  refine h g7 c7 w7 ⟨hown, ⟨hg.os.trans (hb.os.trans h6.m.os), hg.tape.trans (hb.tape.trans h6.m.tape), hg.output.trans (hb.output.trans h6.m.output), Nat.le_trans h6.m.size (Nat.le_trans hb.size hg.size), fun b hbl hn => ?_⟩, fun b hbl hn e => ?_, fun b ob hn hbo => (hg.block b (Array.getElem?_eq_some_iff.1 hbo).1 fun e => hn e.symm).trans hbo, ?_⟩
  · have h1 := Nat.lt_of_lt_of_le hbl h6.m.size
    refine ((hg.block b (Nat.lt_of_lt_of_le h1 hb.size) fun e => ?_).trans (hb.block b h1)).trans (h6.m.keep b hbl hn)
    rcases h6.blk b e.symm with h | h
    · exact hn h
    · omega
  · subst e
    rcases hl with h | h
    · exact hn (h.symm.trans rfl)
    · have := Option.some.inj ((show some b = (Value.slice (some ⟨b, 0, none⟩) (n + 1) c7).ownBlock from rfl).trans h)
      omega
  · rcases hl with h | h
    · exact h6.blk g7 (h.symm.trans rfl)
    · have h1 := Option.some.inj ((show some g7 = (Value.slice (some ⟨g7, 0, none⟩) (n + 1) c7).ownBlock from rfl).trans h)
      have h2 := hb.size
      have h3 := h6.m.size
      exact .inr (by omega)
theorem heap_two (w : World) (o p : Obj) : ((w.alloc o).alloc p).heap[w.heap.size + 1]? = some p := heap_new (by simp)
def Zb (wr W : World) (g7 z : Nat) : Prop := W.heap[z]? = some (.cells #[.int .i64 0, .string ⟨#[]⟩, .slice none 0 0, .int .i64 0, .int .i64 0, .string ⟨#[]⟩, .slice none 0 0, .slice none 0 0] 28 (0, 0)) ∧ z ≠ g7 ∧ wr.heap.size ≤ z
theorem old_alloc {w : World} {b : Nat} {o p : Obj} (h : w.heap[b]? = some o) : (w.alloc p).heap[b]? = some o := (Below.heap_alloc w p b (Array.getElem?_eq_some_iff.1 h).1).trans h
theorem zb_new {v6 : Value} {W6 w6 W w7 : World} {n g7 c7 m z : Nat} {xs ys : List Value} (h6 : A6 wr vl W6 w6 v6 n xs) (h7 : A7 wr vl v6 W w7 g7 c7 m ys) (hz : w6.heap.size ≤ z) (hb : W.heap[z]? = some (.cells #[.int .i64 0, .string ⟨#[]⟩, .slice none 0 0, .int .i64 0, .int .i64 0, .string ⟨#[]⟩, .slice none 0 0, .slice none 0 0] 28 (0, 0))) : Zb wr w7 g7 z := by
  have hn : v6.ownBlock ≠ some z := fun e => by have := (h6.own.lt z e).2; omega
  exact ⟨h7.kept z _ hn hb, h7.ne z (Array.getElem?_eq_some_iff.1 hb).1 hn, Nat.le_trans h6.m.size hz⟩
theorem zb_old {v6 : Value} {W6 w6 W w7 : World} {n g7 c7 m z : Nat} {xs ys : List Value} (h6 : A6 wr vl W6 w6 v6 n xs) (h7 : A7 wr vl v6 W w7 g7 c7 m ys) (hz : wr.heap.size ≤ z) (hw : Below w6.heap.size w6 W) (hb : W6.heap[z]? = some (.cells #[.int .i64 0, .string ⟨#[]⟩, .slice none 0 0, .int .i64 0, .int .i64 0, .string ⟨#[]⟩, .slice none 0 0, .slice none 0 0] 28 (0, 0))) : Zb wr w7 g7 z := by
  have hn := h6.new z hz (Array.getElem?_eq_some_iff.1 hb).1
  have h := h6.kept z _ hz hb
  have hl := (Array.getElem?_eq_some_iff.1 h).1
  exact ⟨h7.kept z _ hn ((hw.block z hl).trans h), h7.ne z (Nat.lt_of_lt_of_le hl hw.size) hn, hz⟩
theorem zb_last {v6 : Value} {W w7 : World} {g7 c7 m : Nat} {ys : List Value} (h7 : A7 wr vl v6 W w7 g7 c7 m ys) : Zb wr (w7.alloc (.cells #[.int .i64 0, .string ⟨#[]⟩, .slice none 0 0, .int .i64 0, .int .i64 0, .string ⟨#[]⟩, .slice none 0 0, .slice none 0 0] 28)) g7 w7.heap.size :=
  ⟨heap_alloc_new w7 _, fun e => by have := (h7.own.lt g7 rfl).2; omega, h7.m.size⟩
theorem Zb.lo {W : World} {g7 z : Nat} (h : Zb wr W g7 z) : wr.heap.size ≤ z := h.2.2
theorem Zb.bel {W W' : World} {g7 z : Nat} (h : Zb wr W g7 z) (hb : Below W.heap.size W W') : Zb wr W' g7 z := ⟨(hb.block z (Array.getElem?_eq_some_iff.1 h.1).1).trans h.1, h.2⟩
end
section
variable {B : Nat} {e : Ex} {w5 : World} {ρ0 : Nat → Nat} {pb j : Nat} {wr : World} {ρ : Nat → Nat} {vf1 vf2 vo1 vo2 vl : Value} {asv : Option Addr} {cs : Nat} {F O : List ByteArray} {FX OX LX SX : List XM}
theorem rows18 (H : Fx B e w5 ρ0 pb j wr ρ vf1 vf2 vo1 vo2 vl (.slice asv SX.length cs) F O FX OX LX SX) (hj : j ≤ 100000) : Rows18 wr vl asv cs LX SX := by
  have hl := H.lens
  exact ⟨H.ls.row.1, H.ss.row.1, flatX_cells fun x hx => sliced_at (H.ss.els x hx).at, by omega, by omega⟩
theorem seqX_sliced {M : List XM} {v : Value} (hs : ∀ x ∈ M, Sliced x) (hv : ∃ a n c, v = .slice a n c) : Sliced (seqX M v) := by
  unfold seqX
  split
  · exact hs _ (by simp)
  · exact ⟨⟨_, _, _, rfl⟩, ⟨_, _, _, rfl⟩, hv⟩
theorem seq_call {vs : Value} (H : Fx B e w5 ρ0 pb j wr ρ vf1 vf2 vo1 vo2 vl vs F O FX OX LX SX) {bx : XM} (hbx : Free0 ρ wr (fun w => ExAt w bx.val bx.e)) {w7 : World} {g7 c7 : Nat} (m1 : w7.ownsRow 0 28 8 (.slice (some ⟨g7, 0, none⟩) (LX.length + SX.length + 1) c7) (LX.length + SX.length + 1) (flatX LX ++ flatX SX ++ bx.cells)) (hn : j ≤ 100000) :
    Calls Tryz.prog 46 #[.slice (some ⟨g7, 0, none⟩) (LX.length + SX.length + 1) c7] w7 fun en w' => ∃ y : XM, y = seqX (LX ++ SX ++ [bx]) (.slice (some ⟨g7, 0, none⟩) (LX.length + SX.length + 1) c7) ∧ en = .returned y.val ∧ Sliced y ∧ Below w7.heap.size w7 w' := by
  have hels : ∀ x ∈ LX ++ SX ++ [bx], Sliced x := by
    intro x hx
    simp only [List.mem_append, List.mem_singleton] at hx
    rcases hx with (hx | hx) | rfl
    · exact sliced_at (H.ls.els x hx).at
    · exact sliced_at (H.ss.els x hx).at
    · exact sliced_at hbx.at
  have hlen : (LX ++ SX ++ [bx]).length = LX.length + SX.length + 1 := by simp; omega
  have hl := H.lens
  have hown : w7.ownsRow 0 28 8 (.slice (some ⟨g7, 0, none⟩) (LX ++ SX ++ [bx]).length c7) (LX ++ SX ++ [bx]).length (flatX (LX ++ SX ++ [bx])) := by
    rw [hlen, flatX_app, flatX_app, flatX_one]
    exact m1
  have hc := seq_any (LX ++ SX ++ [bx]) hown hels (by omega)
  rw [hlen] at hc
  refine hc.mono ?_
  rintro en w' ⟨rfl, hb⟩
  exact ⟨_, rfl, rfl, seqX_sliced hels ⟨_, _, _, rfl⟩, hb⟩
theorem end18 {vs : Value} (H : Fx B e w5 ρ0 pb j wr ρ vf1 vf2 vo1 vo2 vl vs F O FX OX LX SX) {bx : XM} (hbx : Free0 ρ wr (fun w => ExAt w bx.val bx.e)) (h6 : ∀ b, b < w5.heap.size → ρ0 b ≠ 6) {w8 : World} {g7 c7 z : Nat} (m : M6 wr vl w8)
    (hown : w8.ownsRow 0 28 8 (.slice (some ⟨g7, 0, none⟩) (LX.length + SX.length + 1) c7) (LX.length + SX.length + 1) (flatX LX ++ flatX SX ++ bx.cells)) (hg : vl.ownBlock = some g7 ∨ wr.heap.size ≤ g7) (hz : Zb wr w8 g7 z) {y : XM} (hy : y = seqX (LX ++ SX ++ [bx]) (.slice (some ⟨g7, 0, none⟩) (LX.length + SX.length + 1) c7)) :
    ∃ ρ', Bo B w5 ρ0 pb (put8 w8 z (.int .i64 y.e.kind) (.string y.e.name) y.nv (.int .i64 y.e.const.kind) (.int .i64 y.e.const.int) (.string y.e.const.text) y.dl y.kv) ρ' vf1 vf2 vo1 vo2 F O FX OX z y := by
  have mz := m.put8 hz.2.2 (.int .i64 y.e.kind) (.string y.e.name) y.nv (.int .i64 y.e.const.kind) (.int .i64 y.e.const.int) (.string y.e.const.text) y.dl y.kv
  refine bo_of H hbx h6 mz.os mz.tape mz.output mz.size (fun b hb hr => mz.keep b hb fun e => hr (H.ls.row.2 _ e)) (own_same hown fun b e => ?_) hg hz.2.2 hz.2.1 hy ?_
  · cases e
    exact (put8_kp _ _ _ _ _ _ _ _).2 _ fun e => hz.2.1 e.symm
  · exact eight_set _ _ _ _ _ _ _ _ _ _ _ _ _ _ _ _ _ _ _ hz.1
theorem end18n {vs : Value} (H : Fx B e w5 ρ0 pb j wr ρ vf1 vf2 vo1 vo2 vl vs F O FX OX LX SX) {bx : XM} (hbx : Free0 ρ wr (fun w => ExAt w bx.val bx.e)) (h6 : ∀ b, b < w5.heap.size → ρ0 b ≠ 6) {w8 : World} {g7 c7 : Nat} (m : M6 wr vl w8)
    (hown : w8.ownsRow 0 28 8 (.slice (some ⟨g7, 0, none⟩) (LX.length + SX.length + 1) c7) (LX.length + SX.length + 1) (flatX LX ++ flatX SX ++ bx.cells)) (hg : vl.ownBlock = some g7 ∨ wr.heap.size ≤ g7) {y : XM} (hy : y = seqX (LX ++ SX ++ [bx]) (.slice (some ⟨g7, 0, none⟩) (LX.length + SX.length + 1) c7)) :
    ∃ ρ', Bo B w5 ρ0 pb (w8.alloc (.cells #[.int .i64 y.e.kind, .string y.e.name, y.nv, .int .i64 y.e.const.kind, .int .i64 y.e.const.int, .string y.e.const.text, y.dl, y.kv] 28)) ρ' vf1 vf2 vo1 vo2 F O FX OX w8.heap.size y := by
  have mz := m.alloc (.cells #[.int .i64 y.e.kind, .string y.e.name, y.nv, .int .i64 y.e.const.kind, .int .i64 y.e.const.int, .string y.e.const.text, y.dl, y.kv] 28)
  exact bo_of H hbx h6 mz.os mz.tape mz.output mz.size (fun b hb hr => mz.keep b hb fun e => hr (H.ls.row.2 _ e)) (hown.alloc _) hg m.size (fun e => by have := (hown.lt g7 rfl).2; omega) hy (heap_alloc_new w8 _)
def regsOf : Code → List Code
  | .region i o d => [.region i o d]
  | .loop c => regsOf c
  | .seq a b => regsOf a ++ regsOf b
  | .block _ c => regsOf c
  | .scope c => regsOf c
  | .cond _ a b => regsOf a ++ regsOf b
  | _ => []
noncomputable def fix18 : Code := ((Tryz.f25.body.map regsOf).getD []).getD 18 .skip
set_option maxHeartbeats 40000000 in
set_option maxRecDepth 1000000 in
theorem reg18 {B : Nat} {e : Ex} {w5 : World} {ρ0 : Nat → Nat} {pb j : Nat} {wr : World} {ρ : Nat → Nat} {vf1 vf2 vo1 vo2 vl : Value} {asv : Option Addr} {cs : Nat} {F O : List ByteArray} {FX OX LX SX : List XM}
    (H : Fx B e w5 ρ0 pb j wr ρ vf1 vf2 vo1 vo2 vl (.slice asv SX.length cs) F O FX OX LX SX) (hj : j ≤ 100000) (h6 : ∀ b, b < w5.heap.size → ρ0 b ≠ 6)
    {xe : Ex} {xan xad xak : Option Addr} {xnn xcn xnd xcd xnk xck : Nat} (hbx : Free0 ρ wr (fun w => ExAt w ((⟨xe, .slice xan xnn xcn, .slice xad xnd xcd, .slice xak xnk xck⟩ : XM)).val xe)) {p1 p3 gr n m : Nat} {cr : Nat} {na : Option Addr} {nc : Nat} (hnm : n < m)
    (hC : C18 wr p1 p3 gr n (.slice na n nc) (.slice (some ⟨gr, 0, none⟩) m cr) (⟨xe, .slice xan xnn xcn, .slice xad xnd xcd, .slice xak xnk xck⟩ : XM)) (hn1 : vl.ownBlock ≠ some p1) (hn3 : vl.ownBlock ≠ some p3) (hng : vl.ownBlock ≠ some gr) {c0 c2 c4 c7 c8 c9 c10 c11 c12 c13 c14 c15 c16 c17 c18 c19 c20 c21 c22 c23 c24 c25 c26 c27 c28 c29 c30 c31 c32 c33 c34 c35 c36 c37 c38 c39 c40 c41 c42 c43 c44 c45 c46 c47 c48 c49 c50 c51 c52 c53 c54 c55 c56 c57 c58 c59 c60 c61 c62 c63 c64 c65 c66 c67 c68 c69 c70 c71 c72 c73 c74 c75 c76 c77 c78 c79 c80 c81 c82 c83 c84 c85 c86 c87 c88 c89 c90 c91 c92 c93 c94 c95 c96 c97 c98 c99 c100 c101 c102 c103 c104 : Value} {Q : Exit → Act → World → Prop}
    (hQ : ∀ (u69 u70 u71 u72 u73 u74 u75 u76 u77 u78 u79 u80 u81 : Value) (z : Nat) (y : XM) (wz : World) (ρ' : Nat → Nat), y.e = Ex.seqE ((LX ++ SX).map (·.e)) xe → Sliced y → Bo B w5 ρ0 pb wz ρ' vf1 vf2 vo1 vo2 F O FX OX z y → Q .normal ⟨List.toArray (c0 :: .pointer (some ⟨p1, 0, none⟩) :: c2 :: .pointer (some ⟨p3, 0, none⟩) :: c4 :: vl :: .slice asv SX.length cs :: c7 :: c8 :: c9 :: c10 :: .pointer (some ⟨z, 0, none⟩) :: c12 :: c13 :: c14 :: c15 :: c16 :: c17 :: c18 :: c19 :: c20 :: c21 :: c22 :: c23 :: c24 :: c25 :: c26 :: c27 :: c28 :: c29 :: c30 :: c31 :: c32 :: c33 :: c34 :: c35 :: c36 :: c37 :: c38 :: c39 :: c40 :: c41 :: c42 :: c43 :: c44 :: c45 :: c46 :: c47 :: c48 :: c49 :: c50 :: c51 :: c52 :: c53 :: c54 :: c55 :: c56 :: c57 :: c58 :: c59 :: c60 :: c61 :: c62 :: c63 :: c64 :: c65 :: c66 :: c67 :: c68 :: u69 :: u70 :: u71 :: u72 :: u73 :: u74 :: u75 :: u76 :: u77 :: u78 :: u79 :: u80 :: u81 :: c82 :: c83 :: c84 :: c85 :: c86 :: c87 :: c88 :: c89 :: c90 :: c91 :: c92 :: c93 :: c94 :: c95 :: c96 :: c97 :: c98 :: c99 :: c100 :: c101 :: c102 :: c103 :: c104 :: []), []⟩ wz) :
    Code.wp Tryz.prog fix18 Q ⟨List.toArray (c0 :: .pointer (some ⟨p1, 0, none⟩) :: c2 :: .pointer (some ⟨p3, 0, none⟩) :: c4 :: vl :: .slice asv SX.length cs :: c7 :: c8 :: c9 :: c10 :: c11 :: c12 :: c13 :: c14 :: c15 :: c16 :: c17 :: c18 :: c19 :: c20 :: c21 :: c22 :: c23 :: c24 :: c25 :: c26 :: c27 :: c28 :: c29 :: c30 :: c31 :: c32 :: c33 :: c34 :: c35 :: c36 :: c37 :: c38 :: c39 :: c40 :: c41 :: c42 :: c43 :: c44 :: c45 :: c46 :: c47 :: c48 :: c49 :: c50 :: c51 :: c52 :: c53 :: c54 :: c55 :: c56 :: c57 :: c58 :: c59 :: c60 :: c61 :: c62 :: c63 :: c64 :: c65 :: c66 :: c67 :: c68 :: c69 :: c70 :: c71 :: c72 :: c73 :: c74 :: c75 :: c76 :: c77 :: c78 :: c79 :: c80 :: c81 :: c82 :: c83 :: c84 :: c85 :: c86 :: c87 :: c88 :: c89 :: c90 :: c91 :: c92 :: c93 :: c94 :: c95 :: c96 :: c97 :: c98 :: c99 :: c100 :: c101 :: c102 :: c103 :: c104 :: []), []⟩ wr := by
  have HH := Lib.hid H
  have HJ := Lib.hid hj
  have H06 := Lib.hid h6
  have HBX := Lib.hid hbx
  have HC := Lib.hid hC
  have HN1 := Lib.hid hn1
  have HN3 := Lib.hid hn3
  have HNG := Lib.hid hng
  have HQ := Lib.hid hQ
  have g1 : (0 : Int) ≤ (n : Int) := by omega
  have g3 : (n : Int) < (m : Int) := by omega
  have HR := Lib.hid (rows18 H hj)
  clear H hj h6 hbx hC hn1 hn3 hng hQ hnm
  unfold fix18
  conv => arg 2; whnf
  refine wp_region_noPanic ?_
  go_region_held3 (fun W => S18 wr vl W p1 p3 gr n (.slice na n nc) (.slice (some ⟨gr, 0, none⟩) m cr) (⟨xe, .slice xan xnn xcn, .slice xad xnd xcd, .slice xak xnk xck⟩ : XM))
    ((refine s18 HC.out HN1.out HN3.out HNG.out ?_; (first
      | with_reducible exact M6.set8 H8.out (Zb.lo HZ8.out) _ _ _ _ _ _ _ _
      | with_reducible exact M6.of_bel (Below.refl _ _).drew
      | with_reducible exact M6.of_bel ((Below.refl _ _).alloc (Nat.le_refl _) _).drew
      | (with_reducible refine M6.of_bel (((Below.refl _ _).alloc (Nat.le_refl _) _).alloc ?_ _).drew; simp; done)
      | with_reducible exact H6.out.m
      | with_reducible exact H6.out.m.alloc _
      | with_reducible exact (H6.out.m.alloc _).alloc _
      | with_reducible exact H7.out.m
      | with_reducible exact H7.out.m.alloc _
      | with_reducible exact H8.out
      | with_reducible exact H8.out.alloc _
      | fail)))
    (first
    | ((with_reducible refine step_A (vl := vl) (asv := asv) (cs := cs) (SX := SX) rfl rfl ?_ ?_ HR.out ?_ ?_); (· rfl); (· rfl); (· (first | exact (Below.refl _ _).drew | exact ((Below.refl _ _).alloc (Nat.le_refl _) _).drew | exact (((Below.refl _ _).alloc (Nat.le_refl _) _).alloc (by simp) _).drew | fail)); intro v6 w6 h6; have H6 := Lib.hid h6; clear h6)
    | ((with_reducible refine step_P (x := (⟨xe, .slice xan xnn xcn, .slice xad xnd xcd, .slice xak xnk xck⟩ : XM)) (v6 := v6) rfl rfl ?_ H6.out ?_ ?_ ?_ ?_ ?_)
       (· rfl)
       (· have := HR.out.n1; have := HR.out.n2; omega)
       (· (first | with_reducible exact (Below.refl _ _) | with_reducible exact ((Below.refl _ _).alloc (Nat.le_refl _) _) | exact (((Below.refl _ _).alloc (Nat.le_refl _) _).alloc (by simp) _) | fail))
       (· exact ⟨⟨_, _, _, rfl⟩, ⟨_, _, _, rfl⟩, ⟨_, _, _, rfl⟩⟩)
       (· (first
          | exact ⟨_, rfl, heap_alloc_new w6 _⟩
          | exact ⟨_, rfl, old_alloc (heap_alloc_new w6 _)⟩
          | exact ⟨_, rfl, heap_two w6 _ _⟩
          | exact ⟨_, rfl, H6.out.kept _ _ (Nat.le_refl _) (heap_alloc_new wr _)⟩
          | exact ⟨_, rfl, H6.out.kept _ _ (Nat.le_refl _) (old_alloc (heap_alloc_new wr _))⟩
          | exact ⟨_, rfl, H6.out.kept _ _ (Nat.le_succ _) (heap_two wr _ _)⟩
          | exact ⟨_, rfl, old_alloc (H6.out.kept _ _ (Nat.le_refl _) (heap_alloc_new wr _))⟩
          | fail))
       intro g7 k7 w7 h7; have H7 := Lib.hid h7
       (first
         | have HZ7 : Hid (Zb wr w7 g7 (w6.heap.size + 1)) := zb_new H6.out h7 (Nat.le_succ _) (heap_two w6 _ _)
         | have HZ7 : Hid (Zb wr w7 g7 w6.heap.size) := zb_new H6.out h7 (Nat.le_refl _) (heap_alloc_new w6 _)
         | have HZ7 : Hid (Zb wr w7 g7 w6.heap.size) := zb_new H6.out h7 (Nat.le_refl _) (old_alloc (heap_alloc_new w6 _))
         | have HZ7 : Hid (Zb wr w7 g7 wr.heap.size) := zb_old H6.out h7 (Nat.le_refl _) (Below.refl _ _) (heap_alloc_new wr _)
         | have HZ7 : Hid (Zb wr w7 g7 wr.heap.size) := zb_old H6.out h7 (Nat.le_refl _) (Below.refl _ _) (old_alloc (heap_alloc_new wr _))
         | have HZ7 : Hid (Zb wr w7 g7 (wr.heap.size + 1)) := zb_old H6.out h7 (Nat.le_succ _) (Below.refl _ _) (heap_two wr _ _)
         | have HZ7 : Hid (Zb wr w7 g7 wr.heap.size) := zb_old H6.out h7 (Nat.le_refl _) ((Below.refl _ _).alloc (Nat.le_refl _) _) (heap_alloc_new wr _)
         | skip)
       clear h7)
    | ((go_at_call 46)
       (first
         | ((with_reducible refine (seq_call HH.out HBX.out H7.out.own HJ.out).mono ?_); rintro e2 w8 ⟨⟨ye, yn, yd, yk⟩, hye, rfl, hsl, hb8⟩; have H8 : Hid (M6 wr vl w8) := H7.out.m.bel hb8; have HO8 := Lib.hid (own_same H7.out.own fun b e => hb8.block b (H7.out.own.lt b e).2); (first | have HZ8 := Lib.hid (HZ7.out.bel hb8) | skip))
         | ((with_reducible refine (seq_call HH.out HBX.out (H7.out.own.alloc _) HJ.out).mono ?_); rintro e2 w8 ⟨⟨ye, yn, yd, yk⟩, hye, rfl, hsl, hb8⟩; have H8 : Hid (M6 wr vl w8) := (H7.out.m.alloc _).bel hb8; have HO8 := Lib.hid (own_same (H7.out.own.alloc _) fun b e => hb8.block b ((H7.out.own.alloc _).lt b e).2); have HZ8 := Lib.hid ((zb_last H7.out).bel hb8))
         | fail)
       have HSL := Lib.hid hsl
       obtain ⟨⟨yan, ynn, ycn, u1⟩, ⟨yad, ynd, ycd, u2⟩, ⟨yak, ynk, yck, u3⟩⟩ := hsl
       dsimp only at u1 u2 u3; subst u1 u2 u3; unfold XM.val exV; dsimp only; have HYE := Lib.hid hye
       (first | (have hz8 := HZ8.out.1; obtain ⟨⟨_, s0⟩, ⟨_, s1⟩, ⟨_, s2⟩, ⟨_, s3⟩, ⟨_, s4⟩, ⟨_, s5⟩, ⟨_, s6⟩, ⟨_, s7⟩, q0, q1, q2, q3, q4, q5, q6, q7, sbl⟩ := blk8 hz8; clear hz8) | skip)
       clear hye hb8)
    | fail)
  all_goals
    refine NoPanic.normal ?_
    have he := (congrArg XM.e HYE.out).trans (seqX_e (LX ++ SX) (⟨xe, .slice xan xnn xcn, .slice xad xnd xcd, .slice xak xnk xck⟩ : XM) _)
    first
    | (obtain ⟨ρ', hbo⟩ := end18 HH.out HBX.out H06.out H8.out HO8.out H7.out.blk HZ8.out HYE.out; unfold put8 at hbo; dsimp only at hbo; with_reducible exact HQ.out _ _ _ _ _ _ _ _ _ _ _ _ _ _ ⟨ye, .slice yan ynn ycn, .slice yad ynd ycd, .slice yak ynk yck⟩ _ ρ' he HSL.out hbo)
    | (obtain ⟨ρ', hbo⟩ := end18n HH.out HBX.out H06.out H8.out HO8.out H7.out.blk HYE.out; dsimp only at hbo; with_reducible exact HQ.out _ _ _ _ _ _ _ _ _ _ _ _ _ _ ⟨ye, .slice yan ynn ycn, .slice yad ynd ycd, .slice yak ynk yck⟩ _ ρ' he HSL.out hbo)
    | fail
end
end Ew
end Go.Proofs.YtkplkgdfphbldaaGreat
