/- The law's counted: by calls at the end. -/
import Derived.Deep.AppendLies
import Derived.Test.YtalfnaielhbocaaCJbi
import Derived.Deep.RegionHeld3
set_option linter.unusedVariables false
set_option linter.unusedSimpArgs false
set_option linter.unnecessarySimpa false
namespace Go.Proofs.Ytalfnaielhbocaa
open Go.RowKit
set_option linter.unusedVariables false
set_option linter.unusedSimpArgs false
set_option maxRecDepth 100000
namespace Vm
theorem infoIns : (Try.prog.info? 55).map (fun i => (i.zero, i.size, i.bytes)) = some (some (.agg #[.string ⟨#[]⟩, .int .i64 0, .slice none 0 0, .int .i64 0, .int .i64 0, .string ⟨#[]⟩, .slice none 0 0, .int .i64 0]), 8, 112) := by kernel_rfl
set_option maxHeartbeats 16000000 in
theorem counted_tails (n : Nat) (how : Int) (hn : n ≤ 3000) (hh : how.tmod 2 ≠ 0) (w : World) : Calls Try.prog 14 #[.int .i64 n, .int .i64 how] w (OutPost (run (cT n) [] 100000) w) := by
  have g1 : (how.tmod 2 == 0) = false := beq_eq_false_iff_ne.2 hh
  obtain ⟨w0, B0⟩ := boxed w #[.int .i64 0, .string ⟨#[]⟩, .int .i64 0, .int .i64 0, .string ⟨#[]⟩, .slice none 0 0, .bool false, .int .i64 0] 33
  have HX0 := Lib.hid B0
  clear B0 hh
  go_enter Try.func14, Try.ntmps14
  go_wp2_with fail
  rw [← HX0.out.eq]
  with_reducible refine (lnum_any 1 _).mono ?_
  rintro e w1 ⟨rfl, hb1⟩
  have HB1 := Lib.hid hb1
  clear hb1
  -- up
  obtain ⟨wa, Ba⟩ := boxed w1 #[.int .i64 0, .int .i64 2] 3
  obtain ⟨wb, Bb⟩ := boxed wa #[.string ⟨#[99, 111, 110, 115, 116]⟩, .int .i64 2, .slice none 0 0, .int .i64 1, .int .i64 1, .string ⟨#[]⟩, .slice none 0 0, .int .i64 0, .string ⟨#[43]⟩, .int .i64 0, .slice (some ⟨w1.heap.size, 0, none⟩) 2 2, .int .i64 0, .int .i64 0, .string ⟨#[]⟩, .slice none 0 0, .int .i64 0] 55
  have HXa := Lib.hid Ba
  have HXb := Lib.hid Bb
  have hsa := Ba.size
  have hsb := Bb.size
  have hab := Ba.below.trans (Bb.below.mono Ba.below.size)
  have HUB : Hid (wb.heap[w1.heap.size + 1]? = some (.cells #[.string ⟨#[99, 111, 110, 115, 116]⟩, .int .i64 2, .slice none 0 0, .int .i64 1, .int .i64 1, .string ⟨#[]⟩, .slice none 0 0, .int .i64 0, .string ⟨#[43]⟩, .int .i64 0, .slice (some ⟨w1.heap.size, 0, none⟩) 2 2, .int .i64 0, .int .i64 0, .string ⟨#[]⟩, .slice none 0 0, .int .i64 0] 55 (0, 0))) := by have hq := Bb.blk; rw [hsa] at hq; exact hq
  have HSU : Hid (Sl wb (.slice (some ⟨w1.heap.size, 0, none⟩) 2 2) (ints [0, 2])) := Sl.below (sl_arr (l := ints [0, 2]) Ba.blk rfl) Bb.below (Nat.le_refl _)
  have HUP : Hid (Row wb (.slice (some ⟨w1.heap.size + 1, 0, none⟩) 2 2) 8 [iC 2 1, iAdd] (InsC wb)) := by
    have hq := Bb.blk
    rw [hsa] at hq
    exact row_two (by omega) (insC_at hq rfl rfl rfl rfl rfl rfl rfl rfl (sl_nil _) (.nil _ _ _)) (insC_at hq rfl rfl rfl rfl rfl rfl rfl rfl (Sl.below (sl_arr (l := ints [0, 2]) Ba.blk rfl) Bb.below (Nat.le_refl _)) (.nil _ _ _))
  have HBb := Lib.hid (HB1.out.trans (hab.mono HB1.out.size))
  clear Ba Bb hab
  go_wp2_with fail
  rw [← HXa.out.eq, ← HXb.out.eq]
  with_reducible refine (lnum_any n wb).mono ?_
  rintro e w2 ⟨rfl, hb2⟩
  have HUP2 : Hid (Row w2 (.slice (some ⟨w1.heap.size + 1, 0, none⟩) 2 2) 8 [iC 2 1, iAdd] (InsC w2)) := HUP.out.mono hb2.size fun _ _ _ _ hl h => h.bel hb2 hl
  have HB2 := Lib.hid (HBb.out.trans (hb2.mono HBb.out.size))
  have HQ2 := Lib.hid hb2
  clear hb2
  -- test
  obtain ⟨wc, Bc⟩ := boxed w2 #[.int .i64 0, .int .i64 1] 3
  obtain ⟨wd, Bd⟩ := boxed wc #[.string ⟨#[99, 111, 110, 115, 116]⟩, .int .i64 1, .slice none 0 0, .int .i64 1, .int .i64 n, .string ⟨#[]⟩, .slice none 0 0, .int .i64 0, .string ⟨#[61]⟩, .int .i64 2, .slice (some ⟨w2.heap.size, 0, none⟩) 2 2, .int .i64 0, .int .i64 0, .string ⟨#[]⟩, .slice none 0 0, .int .i64 0] 55
  have HXc := Lib.hid Bc
  have HXd := Lib.hid Bd
  have hsc := Bc.size
  have hsd := Bd.size
  have hcd := Bc.below.trans (Bd.below.mono Bc.below.size)
  have HTE : Hid (Row wd (.slice (some ⟨w2.heap.size + 1, 0, none⟩) 2 2) 8 [iC 1 n, iEq] (InsC wd)) := by
    have hq := Bd.blk
    rw [hsc] at hq
    exact row_two (by omega) (insC_at hq rfl rfl rfl rfl rfl rfl rfl rfl (sl_nil _) (.nil _ _ _)) (insC_at hq rfl rfl rfl rfl rfl rfl rfl rfl (Sl.below (sl_arr (l := ints [0, 1]) Bc.blk rfl) Bd.below (Nat.le_refl _)) (.nil _ _ _))
  have HUPd : Hid (Row wd (.slice (some ⟨w1.heap.size + 1, 0, none⟩) 2 2) 8 [iC 2 1, iAdd] (InsC wd)) := HUP2.out.mono hcd.size fun _ _ _ _ hl h => h.bel hcd hl
  have HBd := Lib.hid (HB2.out.trans (hcd.mono HB2.out.size))
  have HQd := Lib.hid (HQ2.out.trans (hcd.mono HQ2.out.size))
  clear Bc Bd hcd
  -- main's instructions
  obtain ⟨we, Be⟩ := boxed wd #[.int .i64 1] 3
  obtain ⟨wf, Bf⟩ := boxed we #[.int .i64 1, .int .i64 1] 3
  have HXe := Lib.hid Be
  have HXf := Lib.hid Bf
  have hse := Be.size
  have hsf := Bf.size
  have hdf := Be.below.trans (Bf.below.mono Be.below.size)
  have HS1 : Hid (Sl wf (.slice (some ⟨w2.heap.size + 1 + 1, 0, none⟩) 1 1) (ints [1])) := by
    have hq := Be.blk
    rw [hsd, hsc] at hq
    exact Sl.below (sl_arr (l := ints [1]) hq rfl) Bf.below (Nat.le_refl _)
  have HS2 : Hid (Sl wf (.slice (some ⟨w2.heap.size + 1 + 1 + 1, 0, none⟩) 2 2) (ints [1, 1])) := by
    have hq := Bf.blk
    rw [hse, hsd, hsc] at hq
    exact sl_arr (l := ints [1, 1]) hq rfl
  have HUPf := Lib.hid (HUPd.out.ins hdf)
  have HTEf := Lib.hid (HTE.out.ins hdf)
  have HBf := Lib.hid (HBd.out.trans (hdf.mono HBd.out.size))
  have HQf := Lib.hid (HQd.out.trans (hdf.mono HQd.out.size))
  clear Be Bf hdf
  go_wp2_with fail
  rw [← HXc.out.eq, ← HXd.out.eq, ← HXe.out.eq, ← HXf.out.eq]
  with_reducible refine (lnum_any 0 wf).mono ?_
  rintro e w3 ⟨rfl, hb3⟩
  have HUP3 := Lib.hid (HUPf.out.ins hb3)
  have HTE3 := Lib.hid (HTEf.out.ins hb3)
  have HS13 : Hid (Sl w3 (.slice (some ⟨w2.heap.size + 1 + 1, 0, none⟩) 1 1) (ints [1])) := HS1.out.below hb3 (Nat.le_refl _)
  have HS23 : Hid (Sl w3 (.slice (some ⟨w2.heap.size + 1 + 1 + 1, 0, none⟩) 2 2) (ints [1, 1])) := HS2.out.below hb3 (Nat.le_refl _)
  have HB3 := Lib.hid (HBf.out.trans (hb3.mono HBf.out.size))
  have HQ3 := Lib.hid (HQf.out.trans (hb3.mono HQf.out.size))
  clear hb3
  obtain ⟨wg, Bg⟩ := boxed w3 #[.string ⟨#[99, 108, 111, 115, 117, 114, 101]⟩, .int .i64 1, .slice (some ⟨w2.heap.size + 1 + 1, 0, none⟩) 1 1, .int .i64 0, .int .i64 0, .string ⟨#[]⟩, .slice none 0 0, .int .i64 1, .string ⟨#[116, 105, 101]⟩, .int .i64 0, .slice (some ⟨w2.heap.size + 1 + 1 + 1, 0, none⟩) 2 2, .int .i64 0, .int .i64 0, .string ⟨#[]⟩, .slice none 0 0, .int .i64 0, .string ⟨#[99, 111, 110, 115, 116]⟩, .int .i64 0, .slice none 0 0, .int .i64 1, .int .i64 0, .string ⟨#[]⟩, .slice none 0 0, .int .i64 0] 55
  obtain ⟨wh, Bh⟩ := boxed wg #[.int .i64 0] 3
  obtain ⟨wi, Bi⟩ := boxed wh #[.slice (some ⟨w3.heap.size, 0, none⟩) 3 3, .int .i64 3, .int .i64 1, .slice (some ⟨w3.heap.size + 1, 0, none⟩) 1 1, .int .i64 0, .int .i64 0, .int .i64 0] 48
  obtain ⟨wj, Bj⟩ := boxed wi #[.int .i64 0, .int .i64 0, .int .i64 2, .slice (some ⟨w3.heap.size + 1 + 1, 0, none⟩) 1 1] 40
  have HXg := Lib.hid Bg
  have HXh := Lib.hid Bh
  have HXi := Lib.hid Bi
  have HXj := Lib.hid Bj
  have hsg := Bg.size
  have hsh := Bh.size
  have hsi := Bi.size
  have hsj := Bj.size
  have hgh := Bh.below
  have hhi := Bi.below
  have hij := Bj.below
  have hgi := hgh.trans (hhi.mono hgh.size)
  have h3i := Bg.below.trans (hgi.mono Bg.below.size)
  have h3j := h3i.trans (hij.mono h3i.size)
  have HMAIN : Hid (Row wi (.slice (some ⟨w3.heap.size + 1 + 1, 0, none⟩) 1 1) 7 [⟨[⟨sClosure, 1, [1], dZ, 1⟩, ⟨sTie, 0, [1, 1], dZ, 0⟩, iC 0 0], ⟨3, 1, [0], 0, 0, 0⟩⟩] (BlkC wi)) := by
    have hg := Bg.blk
    have hh := Bh.blk
    have hi := Bi.blk
    rw [hsg] at hh
    rw [hsh, hsg] at hi
    have i0 : Row wg (.slice (some ⟨w3.heap.size, 0, none⟩) 3 3) 8 [⟨sClosure, 1, [1], dZ, 1⟩, ⟨sTie, 0, [1, 1], dZ, 0⟩, iC 0 0] (InsC wg) :=
      row_three (by omega) (insC_at hg rfl rfl rfl rfl rfl rfl rfl rfl (HS13.out.below Bg.below (Nat.le_refl _)) (.nil _ _ _)) (insC_at hg rfl rfl rfl rfl rfl rfl rfl rfl (HS23.out.below Bg.below (Nat.le_refl _)) (.nil _ _ _)) (insC_at hg rfl rfl rfl rfl rfl rfl rfl rfl (sl_nil _) (.nil _ _ _))
    exact row_one (by omega) (blkC_at hi rfl rfl rfl rfl rfl rfl rfl (i0.ins hgi) (Sl.below (sl_arr (l := ints [0]) hh rfl) hhi (Nat.le_refl _)))
  have HMJ : Hid (wj.heap[w3.heap.size + 1 + 1 + 1]? = some (.cells #[.int .i64 0, .int .i64 0, .int .i64 2, .slice (some ⟨w3.heap.size + 1 + 1, 0, none⟩) 1 1] 40 (0, 0))) := by
    have hq := Bj.blk
    rw [hsi, hsh, hsg] at hq
    exact hq
  have HMAINj := Lib.hid (HMAIN.out.blk hij)
  have HUPj := Lib.hid (HUP3.out.ins h3j)
  have HTEj := Lib.hid (HTE3.out.ins h3j)
  have HBj := Lib.hid (HB3.out.trans (h3j.mono HB3.out.size))
  have HQj := Lib.hid (HQ3.out.trans (h3j.mono HQ3.out.size))
  have HL1 : Hid (w1.heap.size + 1 < wb.heap.size) := (by omega : w1.heap.size + 1 < wb.heap.size)
  obtain ⟨wk, Bk⟩ := boxed wj #[] 55
  have HXk := Lib.hid Bk
  have hsk := Bk.size
  have HOWN0 : Hid (wk.ownsRow w3.heap.size 55 8 (.slice (some ⟨w3.heap.size + 1 + 1 + 1 + 1, 0, none⟩) 0 0) 0 []) := by
    have hq := Bk.blk
    rw [hsj, hsi, hsh, hsg] at hq
    exact ⟨rfl, .inr ⟨w3.heap.size + 1 + 1 + 1 + 1, 0, #[], rfl, by omega, hq, Nat.le_refl _, by decide, rfl, rfl⟩⟩
  obtain ⟨i0, hi0, hz0, hz1, hz2⟩ := info_parts infoIns
  have HI := Lib.hid hi0
  have HZ0 := Lib.hid hz0
  have HZ1 := Lib.hid hz1
  have HZ2 := Lib.hid hz2
  have hjk := Bk.below
  have HJK := Lib.hid hjk
  have HUBk : Hid (wk.heap[w1.heap.size + 1]? = some (.cells #[.string ⟨#[99, 111, 110, 115, 116]⟩, .int .i64 2, .slice none 0 0, .int .i64 1, .int .i64 1, .string ⟨#[]⟩, .slice none 0 0, .int .i64 0, .string ⟨#[43]⟩, .int .i64 0, .slice (some ⟨w1.heap.size, 0, none⟩) 2 2, .int .i64 0, .int .i64 0, .string ⟨#[]⟩, .slice none 0 0, .int .i64 0] 55 (0, 0))) := (hjk.block _ (Nat.lt_of_lt_of_le HL1.out HQj.out.size)).trans ((HQj.out.block _ HL1.out).trans HUB.out)
  have HSZ : Hid (wj.heap.size = w3.heap.size + 1 + 1 + 1 + 1 ∧ wk.heap.size = w3.heap.size + 1 + 1 + 1 + 1 + 1) := ⟨by omega, by omega⟩
  clear Bg Bh Bi Bj Bk hgh hhi hij hgi h3i h3j hi0 hz0 hz1 hz2 hjk
  have HSUj : Hid (Sl wj (.slice (some ⟨w1.heap.size, 0, none⟩) 2 2) (ints [0, 2])) := HSU.out.below HQj.out (Nat.le_refl _)
  go_wp2_with (first
    | (at_builtin; (rw [← HXg.out.eq, ← HXh.out.eq, ← HXi.out.eq, ← HXj.out.eq, ← HXk.out.eq]; refine wpList_append_lies _ rfl (.tmp 56) (.tmp 57) 46 rfl w3.heap.size 55 i0 _ 8 112 Try.underlying46 HI.out HZ0.out HZ1.out HZ2.out rfl (by decide) (.slice (some ⟨w3.heap.size + 1 + 1 + 1 + 1, 0, none⟩) 0 0) 0 [] rfl HOWN0.out ⟨w1.heap.size + 1, 0, none⟩ 2 2 [.string ⟨#[99, 111, 110, 115, 116]⟩, .int .i64 2, .slice none 0 0, .int .i64 1, .int .i64 1, .string ⟨#[]⟩, .slice none 0 0, .int .i64 0, .string ⟨#[43]⟩, .int .i64 0, .slice (some ⟨w1.heap.size, 0, none⟩) 2 2, .int .i64 0, .int .i64 0, .string ⟨#[]⟩, .slice none 0 0, .int .i64 0] rfl rfl (World.news_of_block HUBk.out) (by simp [Value.oneCell']) (by decide) (by simp only [maxLen]; omega) (by omega) (by have := HSZ.out.2; omega) wk.heap.size rfl ?_; intro g5 c5 w5 hown5 hgr5 hat5 hlt5; have HO5 := Lib.hid hown5; have HG5 := Lib.hid hgr5; have HA5 := Lib.hid hat5; have HJ5 := Lib.hid (HJK.out.grown hgr5 (by have := HSZ.out; omega) (fun q hq => by have := HSZ.out; have e : w3.heap.size + 1 + 1 + 1 + 1 = q := (by simpa [Value.ownBlock] using hq); omega)); clear hown5 hgr5 hat5))
    | (at_builtin; refine wpList_append_lies _ rfl (.tmp 58) (.tmp 60) 46 rfl w3.heap.size 55 i0 _ 8 112 Try.underlying46 HI.out HZ0.out HZ1.out HZ2.out rfl (by decide) (.slice (some ⟨g5, 0, none⟩) 2 c5) 2 _ rfl (HO5.out.alloc _) ⟨w5.heap.size, 0, none⟩ 1 1 [.string ⟨#[104, 101, 108, 100]⟩, .int .i64 3, .slice none 0 0, .int .i64 0, .int .i64 0, .string ⟨#[]⟩, .slice none 0 0, .int .i64 0] rfl rfl (new_cells _ (heap_new (by simp))) (by simp [Value.oneCell']) (by decide) (by simp only [maxLen]; omega) (by omega) (by have := HJ5.out.size; have := HSZ.out; simp; omega) (w5.heap.size + 1) (by simp) ?_; intro g6 c6 w6 hown6 hgr6 hat6 hlt6; have HO6 := Lib.hid hown6; have HJ6 := Lib.hid ((HJ5.out.alloc HJ5.out.size (.cells #[.string ⟨#[104, 101, 108, 100]⟩, .int .i64 3, .slice none 0 0, .int .i64 0, .int .i64 0, .string ⟨#[]⟩, .slice none 0 0, .int .i64 0] 55)).grown hgr6 (by have := HJ5.out.size; simp; omega) (fun q hq => by have := HSZ.out; have e : g5 = q := (by simpa [Value.ownBlock] using hq); rcases HA5.out with h | h; (have e2 : w3.heap.size + 1 + 1 + 1 + 1 = g5 := (by simpa [Value.ownBlock] using h); omega); omega)); have hmj := (HJ6.out.block (w3.heap.size + 1 + 1 + 1) (by have := HSZ.out; omega)).trans HMJ.out; have m0 := cell_of_row w6 _ 0 _ _ _ hmj; have m1 := cell_of_row w6 _ 1 _ _ _ hmj; have m2 := cell_of_row w6 _ 2 _ _ _ hmj; have m3 := cell_of_row w6 _ 3 _ _ _ hmj; simp only [List.getElem?_toArray, List.getElem?_cons_zero, List.getElem?_cons_succ] at m0 m1 m2 m3; have k0 := fun o1 o2 o3 => alloc_at o3 (alloc_at o2 (alloc_at o1 m0)); have k1 := fun o1 o2 o3 => alloc_at o3 (alloc_at o2 (alloc_at o1 m1)); have k2 := fun o1 o2 o3 => alloc_at o3 (alloc_at o2 (alloc_at o1 m2)); have k3 := fun o1 o2 o3 => alloc_at o3 (alloc_at o2 (alloc_at o1 m3));  clear hown6 hgr6 hat6 hmj)
    | fail)
  clear m0 m1 m2 m3 k0 k1 k2 k3
  obtain ⟨wl, Bl⟩ := boxed w6 #[.int .i64 0] 3
  obtain ⟨wm, Bm⟩ := boxed wl #[.slice (some ⟨w2.heap.size + 1, 0, none⟩) 2 2, .int .i64 1, .int .i64 2, .slice none 0 0, .int .i64 0, .int .i64 1, .int .i64 2, .slice none 0 0, .int .i64 2, .int .i64 0, .slice none 0 0, .int .i64 0, .int .i64 0, .int .i64 0, .slice (some ⟨g6, 0, none⟩) 3 c6, .int .i64 3, .int .i64 3, .slice (some ⟨w6.heap.size, 0, none⟩) 1 1, .int .i64 0, .int .i64 0, .int .i64 0] 48
  obtain ⟨wn, Bn⟩ := boxed wm #[.int .i64 1, .int .i64 1, .int .i64 4, .slice (some ⟨w6.heap.size + 1, 0, none⟩) 3 3] 40
  obtain ⟨wo, Bo⟩ := boxed wn #[.int .i64 0, .int .i64 0, .int .i64 2, .slice (some ⟨w3.heap.size + 1 + 1, 0, none⟩) 1 1, .int .i64 1, .int .i64 1, .int .i64 4, .slice (some ⟨w6.heap.size + 1, 0, none⟩) 3 3] 40
  have hsl := Bl.size
  have hsm := Bm.size
  have hsn := Bn.size
  have hso := Bo.size
  have h6m := Bl.below.trans (Bm.below.mono Bl.below.size)
  have hmo := Bn.below.trans (Bo.below.mono Bn.below.size)
  have h6o := h6m.trans (hmo.mono h6m.size)
  have hjo := HJ6.out.trans (h6o.mono HJ6.out.size)
  have HCODE : Hid (CodeAt wo (.slice (some ⟨w6.heap.size + 1 + 1 + 1, 0, none⟩) 2 2) (cT n)) := by
    have hl := Bl.blk
    have hm := Bm.blk
    have ho := Bo.blk
    rw [hsl] at hm
    rw [hsn, hsm, hsl] at ho
    have C := fun k hk => HO6.out.cellAt k hk
    have iu : Sl w6 (.slice (some ⟨w1.heap.size, 0, none⟩) 2 2) (ints [0, 2]) := HSUj.out.below HJ6.out (Nat.le_refl _)
    have is : Row w6 (.slice (some ⟨g6, 0, none⟩) 3 c6) 8 [iC 2 1, iAdd, ⟨sHeld, 3, [], dZ, 0⟩] (InsC w6) :=
      row_three hlt6 ⟨C 0 (by decide), C 1 (by decide), ⟨_, C 2 (by decide), sl_nil _⟩, C 3 (by decide), C 4 (by decide), C 5 (by decide), ⟨_, C 6 (by decide), .nil _ _ _⟩, C 7 (by decide)⟩
        ⟨C 8 (by decide), C 9 (by decide), ⟨_, C 10 (by decide), iu⟩, C 11 (by decide), C 12 (by decide), C 13 (by decide), ⟨_, C 14 (by decide), .nil _ _ _⟩, C 15 (by decide)⟩
        ⟨C 16 (by decide), C 17 (by decide), ⟨_, C 18 (by decide), sl_nil _⟩, C 19 (by decide), C 20 (by decide), C 21 (by decide), ⟨_, C 22 (by decide), .nil _ _ _⟩, C 23 (by decide)⟩
    have it := (HTEj.out.ins HJ6.out).ins h6m
    have hb : Row wm (.slice (some ⟨w6.heap.size + 1, 0, none⟩) 3 3) 7 [⟨[iC 1 n, iEq], ⟨1, 2, [], 0, 1, 2⟩⟩, ⟨[], ⟨2, 0, [], 0, 0, 0⟩⟩, ⟨[iC 2 1, iAdd, ⟨sHeld, 3, [], dZ, 0⟩], ⟨3, 3, [0], 0, 0, 0⟩⟩] (BlkC wm) :=
      row_three (by omega) (blkC_at hm rfl rfl rfl rfl rfl rfl rfl it (sl_nil _)) (blkC_at hm rfl rfl rfl rfl rfl rfl rfl (row_nil _ _ _) (sl_nil _)) (blkC_at hm rfl rfl rfl rfl rfl rfl rfl (is.ins h6m) (Sl.below (sl_arr (l := ints [0]) hl rfl) Bm.below (Nat.le_refl _)))
    exact row_two (by omega) (prcC_at ho rfl rfl rfl rfl (HMAINj.out.blk hjo)) (prcC_at ho rfl rfl rfl rfl (hb.blk hmo))
  have HBh := Lib.hid (HBj.out.trans (hjo.mono HBj.out.size))
  rw [← Bl.eq, ← Bm.eq, ← Bn.eq, ← Bo.eq]
  clear Bl Bm Bn Bo h6m hmo h6o hjo
  with_reducible refine (run_T _ wo HCODE.out).mono ?_
  rintro e w9 ⟨d, da, dc, rfl, hd, hb9, hdo⟩
  obtain ⟨o, ho⟩ : ∃ o, o = run (cT n) [] 100000 := ⟨_, rfl⟩
  rw [← ho] at hdo ⊢
  have HWS : Hid (w.heap.size < wo.heap.size) := Nat.lt_of_lt_of_le (by have := HX0.out.size; omega) HBh.out.size
  have hr9 := (hb9.block w.heap.size HWS.out).trans ((HBh.out.block w.heap.size (by have := HX0.out.size; omega)).trans HX0.out.blk)
  have hl9 : w.heap.size < w9.heap.size := Nat.lt_of_lt_of_le HWS.out hb9.size
  obtain ⟨z0, z1, z2, z3, z4, z5, z6, z7, zf⟩ := Res8.of hr9
  have y0 := zf 0
  have y1 := zf 1
  have y2 := zf 2
  have y3 := zf 3
  have y4 := zf 4
  have y5 := zf 5
  have y6 := zf 6
  have y7 := zf 7
  have HR9 := Lib.hid hr9
  have HD := Lib.hid hd
  have HB9 : Hid (Below w.heap.size w w9) := (HX0.out.below.trans (HBh.out.mono HX0.out.below.size)).trans (hb9.mono (by have := HWS.out; omega))
  have HDO := Lib.hid hdo
  have HO := Lib.hid ho
  clear hr9 zf hd hb9 hdo ho HXa HXb HXc HXd HXe HXf HXg HXh HXi HXj HXk HUP HUP2 HUP3 HUPd HUPf HUPj HTE HTE3 HTEf HTEj HCODE HB1 HB2 HB3 HBb HBd HBf HBj HUB HUBk HSU HSUj HQ2 HQd HQf HQ3 HQj HJK HJ5 HJ6 HO5 HO6 HG5 HA5 HOWN0 HMAIN HMAINj HMJ HI HZ0 HZ1 HZ2 HS1 HS2 HS13 HS23 HSZ HL1
  unfold outCells
  go_wp2_with fail
  refine bodyPost_ret (res1 rfl _ _ w.heap.size 33 _ (0, 0) rfl (out_set _ _ _ _ _ _ _ _ _ _ _ _ _ _ _ _ _ _ HR9.out) outcomeD outcomeSize) rfl ?_
  rw [← HO.out]
  refine ⟨d, da, dc, rfl, ?_, below8 HB9.out (Nat.le_refl _) _ _ _ _ _ _ _ _, HDO.out⟩
  refine (dt_eight HD.out (fun b hb => ?_) _ _ _ _ _ _ _ _).mono fun b hb _ => ?_
  · have h1 : wo.heap.size ≤ b := hb
    have h2 := HWS.out
    omega
  · have h1 : wo.heap.size ≤ b := hb
    have h2 := HWS.out
    show w.heap.size ≤ b
    omega
theorem counted_any (how : Int) : ∃ s k : Nat, s ≤ 8 ∧ k ≤ 7 ∧ ∀ (n : Nat) (w : World), n ≤ 3000 → Calls Try.prog 14 #[.int .i64 n, .int .i64 how] w (OutPost ⟨0, ⟨#[]⟩, some (dN n), ((s + k * n : Nat) : Int)⟩ w) := by
  by_cases h : how.tmod 2 = 0
  · refine ⟨6, 6, by omega, by omega, fun n w hn => ?_⟩
    have := counted_jumps n how hn h w
    rw [runJ n hn] at this
    have e : ((6 + 6 * n : Nat) : Int) = 6 + 6 * n := by omega
    rw [e]
    exact this
  · refine ⟨8, 7, by omega, by omega, fun n w hn => ?_⟩
    have := counted_tails n how hn h w
    rw [runT n hn] at this
    have e : ((8 + 7 * n : Nat) : Int) = 8 + 7 * n := by omega
    rw [e]
    exact this
end Vm
end Go.Proofs.Ytalfnaielhbocaa
namespace Go.Proofs.Ytalfnaielhbocaa
open Go.RowKit
set_option linter.unusedVariables false
set_option linter.unusedSimpArgs false
set_option maxRecDepth 100000
namespace Vm
abbrev CtS (w : World) (b1 b2 b3 : Nat) (n : Int) (lv : Value) (s1 s2 s3 : Int) : Prop := w.cell? ⟨b1, 0, none⟩ = some (.int .i64 0) ∧ w.cell? ⟨b1, 2, none⟩ = some (.int .i64 1) ∧ w.cell? ⟨b1, 3, none⟩ = some (.int .i64 n) ∧ w.cell? ⟨b1, 4, none⟩ = some (.string ⟨#[]⟩) ∧ w.cell? ⟨b1, 5, none⟩ = some lv ∧ w.cell? ⟨b1, 7, none⟩ = some (.int .i64 s1) ∧ w.cell? ⟨b2, 7, none⟩ = some (.int .i64 s2) ∧ w.cell? ⟨b3, 7, none⟩ = some (.int .i64 s3)
theorem CtS.bel {w w' : World} {b1 b2 b3 : Nat} {n : Int} {lv : Value} {s1 s2 s3 : Int} (h : CtS w b1 b2 b3 n lv s1 s2 s3) (hb : Below w.heap.size w w') (h1 : b1 < w.heap.size ∧ b2 < w.heap.size ∧ b3 < w.heap.size) : CtS w' b1 b2 b3 n lv s1 s2 s3 := by
  obtain ⟨l1, l2, l3⟩ := h1
  obtain ⟨c0, c1, c2, c3, c4, c5, c6, c7⟩ := h
  exact ⟨(cell_bel hb l1).trans c0, (cell_bel hb l1).trans c1, (cell_bel hb l1).trans c2, (cell_bel hb l1).trans c3, (cell_bel hb l1).trans c4, (cell_bel hb l1).trans c5, (cell_bel hb l2).trans c6, (cell_bel hb l3).trans c7⟩
set_option maxHeartbeats 8000000 in
theorem counts_far (n how : Int) (hn : n < 0 ∨ 3000 < n) (w : World) : Calls Try.prog 7 #[.int .i64 n, .int .i64 how] w fun e w' => e = .returned (.bool true) ∧ Below w.heap.size w w' := by
  cases g1 : decide (n < 0) with
  | true =>
    go_enter Try.func7, Try.ntmps7
    go_wp2_with fail
    with_reducible refine (fixed_any _).mono ?_
    rintro e w1 ⟨rfl, hb1⟩
    have HB1 := Lib.hid hb1
    clear hb1
    go_wp2_with fail
    with_reducible refine (fixed_any _).mono ?_
    rintro e w2 ⟨rfl, hb2⟩
    have HB2 := Lib.hid (HB1.out.trans (hb2.mono HB1.out.size))
    clear hb2
    go_wp2_with fail
    go_ret
    exact ⟨rfl, HB2.out⟩
  | false =>
    have g2 : decide ((3000 : Int) < n) = true := decide_eq_true (by have := of_decide_eq_false g1; omega)
    go_enter Try.func7, Try.ntmps7
    go_wp2_with fail
    with_reducible refine (fixed_any _).mono ?_
    rintro e w1 ⟨rfl, hb1⟩
    have HB1 := Lib.hid hb1
    clear hb1
    go_wp2_with fail
    with_reducible refine (fixed_any _).mono ?_
    rintro e w2 ⟨rfl, hb2⟩
    have HB2 := Lib.hid (HB1.out.trans (hb2.mono HB1.out.size))
    clear hb2
    go_wp2_with fail
    go_ret
    exact ⟨rfl, HB2.out⟩
set_option maxHeartbeats 8000000 in
theorem counts_near (n : Nat) (how : Int) (hn : n ≤ 3000) (w : World) : Calls Try.prog 7 #[.int .i64 n, .int .i64 how] w fun e w' => e = .returned (.bool true) ∧ Below w.heap.size w w' := by
  obtain ⟨s, k, hs, hk, hC⟩ := counted_any how
  have g1 : decide ((n : Int) < 0) = false := decide_eq_false (by omega)
  have g2 : decide ((3000 : Int) < n) = false := decide_eq_false (by omega)
  have g2' : decide (3000 < n) = false := decide_eq_false (by omega)
  have HC := Lib.hid hC
  have HN := Lib.hid hn
  clear hC
  go_enter Try.func7, Try.ntmps7
  go_wp2_with fail
  with_reducible refine (fixed_any _).mono ?_
  rintro e w1 ⟨rfl, hb1⟩
  have HB1 := Lib.hid hb1
  clear hb1
  go_wp2_with fail
  with_reducible refine (HC.out n w1 HN.out).mono ?_
  rintro e w2 ⟨d2, a2, c2, rfl, hd2, hb2, hdo2⟩
  have hd2e : d2 = dN n := hdo2
  subst hd2e
  have HD2 : Hid (DtAt w2 (fun b => w1.heap.size ≤ b) (.agg #[.int .i64 1, .int .i64 n, .string ⟨#[]⟩, .slice a2 0 c2]) (dN n)) := hd2
  have HB2 := Lib.hid (HB1.out.trans (hb2.mono HB1.out.size))
  clear hb2 hd2 hdo2
  have HC0 : Hid (Calls Try.prog 14 #[.int .i64 0, .int .i64 how] w2 (OutPost ⟨0, ⟨#[]⟩, some (dN 0), (s : Int)⟩ w2)) := by
    have := HC.out 0 w2 (by omega)
    rw [show ((s + k * 0 : Nat) : Int) = s by omega] at this
    exact this
  have HC1 : Hid (∀ w3, Calls Try.prog 14 #[.int .i64 1, .int .i64 how] w3 (OutPost ⟨0, ⟨#[]⟩, some (dN 1), (s : Int) + k⟩ w3)) := fun w3 => by
    have := HC.out 1 w3 (by omega)
    rw [show ((s + k * 1 : Nat) : Int) = s + k by omega] at this
    exact this
  go_wp2_with fail
  with_reducible refine HC0.out.mono ?_
  rintro e w3 ⟨⟨k3, i3, t3, m3⟩, a3, c3, rfl, hd3, hb3, hdo3⟩
  have HB3 := Lib.hid hb3
  clear hb3 hd3 hdo3
  go_wp2_with fail
  with_reducible refine (HC1.out w3).mono ?_
  rintro e w4 ⟨⟨k4, i4, t4, m4⟩, a4, c4, rfl, hd4, hb4, hdo4⟩
  have HB4 := Lib.hid (HB3.out.trans (hb4.mono HB3.out.size))
  clear hb4 hd4 hdo4
  obtain ⟨S, hS⟩ : ∃ S : Int, S = (s : Int) + k * n := ⟨_, rfl⟩
  have HSS := Lib.hid hS
  rw [← hS]
  clear hS
  unfold outCells dN
  dsimp only [Dt.kind, Dt.int, Dt.text, Dt.list, List.length_nil, Option.isSome]
  obtain ⟨w5, B5⟩ := boxed w4 #[.int .i64 0, .string ⟨#[]⟩, .int .i64 1, .int .i64 n, .string ⟨#[]⟩, .slice a2 0 c2, .bool true, .int .i64 S] 33
  obtain ⟨w6, B6⟩ := boxed w5 #[.int .i64 0, .string ⟨#[]⟩, .int .i64 k3, .int .i64 i3, .string t3, .slice a3 m3.length c3, .bool true, .int .i64 (s : Int)] 33
  obtain ⟨w7, B7⟩ := boxed w6 #[.int .i64 0, .string ⟨#[]⟩, .int .i64 k4, .int .i64 i4, .string t4, .slice a4 m4.length c4, .bool true, .int .i64 ((s : Int) + k)] 33
  have HX5 := Lib.hid B5
  have HX6 := Lib.hid B6
  have HX7 := Lib.hid B7
  have hs5 := B5.size
  have hs6 := B6.size
  have hs7 := B7.size
  have h27 := HB4.out.trans ((B5.below.trans ((B6.below.trans (B7.below.mono B6.below.size)).mono B5.below.size)).mono HB4.out.size)
  have HB7 := Lib.hid (HB2.out.trans (h27.mono HB2.out.size))
  have HD7 : Hid (DtAt w7 (fun b => w1.heap.size ≤ b) (.agg #[.int .i64 1, .int .i64 n, .string ⟨#[]⟩, .slice a2 0 c2]) (dN n)) := HD2.out.bel h27 (Nat.le_refl _)
  have HFS : Hid (CtS w7 w4.heap.size (w4.heap.size + 1) (w4.heap.size + 1 + 1) n (.slice a2 0 c2) S s ((s : Int) + k)) := by
    have q1 := (B7.below.block _ (by omega)).trans ((B6.below.block _ (by omega)).trans B5.blk)
    have q2 := (B7.below.block _ (by omega)).trans B6.blk
    have q3 := B7.blk
    rw [hs5] at q2
    rw [hs6, hs5] at q3
    exact ⟨cell_of_row _ _ 0 _ _ _ q1, cell_of_row _ _ 2 _ _ _ q1, cell_of_row _ _ 3 _ _ _ q1, cell_of_row _ _ 4 _ _ _ q1, cell_of_row _ _ 5 _ _ _ q1, cell_of_row _ _ 7 _ _ _ q1, cell_of_row _ _ 7 _ _ _ q2, cell_of_row _ _ 7 _ _ _ q3⟩
  have HL7 : Hid (w4.heap.size < w7.heap.size ∧ w4.heap.size + 1 < w7.heap.size ∧ w4.heap.size + 1 + 1 < w7.heap.size) := ⟨by omega, by omega, by omega⟩
  have HSH : Hid (Dt.Short (dN n)) := Dt.short_of (by simp [dN, Dt.nodes, Dt.nodess])
  clear B5 B6 B7 h27 HC HC0 HC1
  have hkn : (n : Int) * k ≤ 21000 := by
    have h1 : n * k ≤ 3000 * 7 := Nat.mul_le_mul HN.out hk
    have h2 : ((n * k : Nat) : Int) = n * k := by simp
    omega
  have hkn0 : 0 ≤ (n : Int) * k := Int.mul_nonneg (by omega) (by omega)
  have f1 : IntKind.i64.wrap ((s : Int) + k - s) = k := by rw [IntKind.wrap_i64]; omega
  have f2 : IntKind.i64.wrap ((n : Int) * k) = n * k := by rw [IntKind.wrap_i64]; omega
  have f3 : IntKind.i64.wrap ((s : Int) + n * k) = s + n * k := by rw [IntKind.wrap_i64]; omega
  have f4 : (S == (s : Int) + n * k) = true := by
    rw [HSS.out, beq_iff_eq, Int.mul_comm]
  clear hkn hkn0
  go_wp2_with fail
  rw [← HX5.out.eq, ← HX6.out.eq, ← HX7.out.eq]
  go_region_held3 (fun w' => w'.cell? ⟨w4.heap.size, 0, none⟩ = some (.int .i64 0) ∧ w'.cell? ⟨w4.heap.size, 2, none⟩ = some (.int .i64 1) ∧ w'.cell? ⟨w4.heap.size, 3, none⟩ = some (.int .i64 n) ∧ w'.cell? ⟨w4.heap.size, 4, none⟩ = some (.string ⟨#[]⟩) ∧ w'.cell? ⟨w4.heap.size, 5, none⟩ = some (.slice a2 0 c2) ∧ w'.cell? ⟨w4.heap.size, 7, none⟩ = some (.int .i64 S) ∧ w'.cell? ⟨w4.heap.size + 1, 7, none⟩ = some (.int .i64 s) ∧ w'.cell? ⟨w4.heap.size + 1 + 1, 7, none⟩ = some (.int .i64 ((s : Int) + k)))
    (first | with_reducible exact HFS.out | with_reducible exact HF8.out | with_reducible exact HF9.out | exact HFS.out)
    (first
      | (go_at_call 16; (with_reducible refine (lnum_any n _).mono ?_); rintro e w8 ⟨rfl, hb8⟩; have hb8' := (below_drewN (Below.refl w7.heap.size w7) 1).trans hb8; have HB8 := Lib.hid hb8'; have HF8 := Lib.hid (CtS.bel HFS.out hb8' HL7.out); clear hb8 hb8')
      | (go_at_call 15; (with_reducible refine (same_any (dN n) (dN n) _ _ w8 HSH.out HSH.out ((HD7.out.bel HB8.out (Nat.le_refl _)).mono fun _ _ _ => trivial) (.nil _ _ _)).mono ?_); rintro e w9 ⟨rfl, hb9⟩; rw [Dt.same_self]; have hb9' := HB8.out.trans (hb9.mono HB8.out.size); have HB9 := Lib.hid hb9'; have HF9 := Lib.hid (CtS.bel HFS.out hb9' HL7.out); clear hb9 hb9'))
  go_wp2_with fail
  go_ret
  exact ⟨rfl, HB7.out.trans (HB9.out.mono HB7.out.size)⟩
theorem counts_walk (n how : Int) (w : World) : Calls Try.prog 7 #[.int .i64 n, .int .i64 how] w fun e w' => e = .returned (.bool true) ∧ Below w.heap.size w w' := by
  by_cases h : n < 0 ∨ 3000 < n
  · exact counts_far n how h w
  · obtain ⟨k, rfl⟩ : ∃ k : Nat, n = k := ⟨n.toNat, by omega⟩
    exact counts_near k how (by omega) w
end Vm
end Go.Proofs.Ytalfnaielhbocaa
