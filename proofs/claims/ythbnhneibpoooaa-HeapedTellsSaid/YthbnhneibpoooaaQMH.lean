/- The heap's act: get. -/
import Derived.Test.YthbnhneibpoooaaQMG
set_option linter.unusedVariables false
set_option linter.unusedSimpArgs false
set_option linter.unnecessarySimpa false
namespace Go.Proofs.Ythbnhneibpoooaa
open Go.RowKit
set_option linter.unusedVariables false
set_option linter.unusedSimpArgs false
set_option maxHeartbeats 8000000 in
set_option maxRecDepth 100000 in
theorem act_get0 (h : Nat) (O : Nat → Prop) (T : List Hp.Th) (r : Hp.V) (er : Int) (p : ByteArray) (hp : p = ⟨#[99, 97, 114]⟩ ∨ p = ⟨#[37, 117, 110, 98, 111, 120]⟩) (x : Hp.V) (av : Value) (w : World) (hv : VSl w av [x]) (hO : ∀ b, O b → b < w.heap.size) (hf : Hp.free O av)
    (HG : After w 2 fun w1 => Calls Try.prog 58 #[.pointer (some ⟨h, 0, none⟩), x.val, .agg #[.int .i64 1, .int .i64 0, .string ⟨#[]⟩]] w1 (DoPost 65 h O r er T w1)) :
    Calls Try.prog 31 #[.pointer (some ⟨h, 0, none⟩), .string p, av] w (DoPost 65 h O r er T w) := by
  obtain ⟨a, c, rfl⟩ := hv.len
  obtain ⟨b, off, rfl, hbl, hat⟩ := hv.at (by simp)
  obtain ⟨d0, d1, d2⟩ := hat 0 x rfl
  rw [Nat.zero_mul, Nat.add_zero] at d0 d1 d2
  have HO := Lib.hid hO
  have HC := Lib.hid HG
  have HF := Lib.hid hf
  clear hat hv hO HG hf
  obtain ⟨xk, xi, xt⟩ := x
  obtain ⟨rk, ri, rt⟩ := r
  unfold DoPost at *
  unfold After Hp.V.val at *
  dsimp only at *
  rcases hp with rfl | rfl
  all_goals
    go_enter Try.func31, Try.ntmps31
    go_wp2_with fail
    have HW1 : Hid (Below w.heap.size w ((w.alloc (.cells #[.int .i64 0, .int .i64 0, .string ⟨#[]⟩] 27)).alloc (.cells #[.int .i64 5, .int .i64 0, .string ⟨#[]⟩] 27)).drew) := (((Below.refl _ _).alloc (Nat.le_refl _) _).alloc (by simp) _).drew
    have HZ : Hid (((w.alloc (.cells #[.int .i64 0, .int .i64 0, .string ⟨#[]⟩] 27)).alloc (.cells #[.int .i64 5, .int .i64 0, .string ⟨#[]⟩] 27)).drew.heap[w.heap.size]? = some (.cells #[.int .i64 0, .int .i64 0, .string ⟨#[]⟩] 27 (0, 0))) := (heap_alloc_old _ _ (by simp)).trans (heap_alloc_new w _)
    have HS : Hid (ArgC b off [⟨xk, xi, xt⟩] w) := ⟨d0, d1, d2⟩
    go_region_held3 (fun w' => w'.cell? ⟨b, off, none⟩ = some (.int .i64 xk) ∧ w'.cell? ⟨b, off + 1, none⟩ = some (.int .i64 xi) ∧ w'.cell? ⟨b, off + 2, none⟩ = some (.string xt))
      (first | exact HS.out.below HW1.out hbl | exact HSZ.out | exact HS2.out | exact HS2.out.stored3 (by omega) _ _ _)
      (first
        | (go_at_call 57; (with_reducible refine (zero_any _ _).mono ?_); rintro e wz ⟨rfl, hbz⟩; have HWZ : Hid (Below w.heap.size w wz) := HW1.out.trans (hbz.mono HW1.out.size); have HSZ : Hid (ArgC b off [⟨xk, xi, xt⟩] wz) := HS.out.below HWZ.out hbl; have HZZ : Hid (wz.heap[w.heap.size]? = some (.cells #[.int .i64 0, .int .i64 0, .string ⟨#[]⟩] 27 (0, 0))) := (hbz.block _ (two_size1 _ _ _)).trans HZ.out; have HLZ : Hid (w.heap.size + 2 ≤ wz.heap.size) := Nat.le_trans (two_size _ _ _) hbz.size; clear hbz)
        | (go_at_call 58; (with_reducible refine (HC.out _ HWZ.out HLZ.out).mono ?_); rintro e w3 ⟨O', rfl, hst, hgr⟩; have HT := Lib.hid (do_tail HWZ.out HO.out (Nat.le_refl _) (Nat.lt_of_lt_of_le (by omega) HLZ.out) HZZ.out hst hgr); have HS2 : Hid (ArgC b off [⟨xk, xi, xt⟩] w3) := (HS.out.below HWZ.out hbl).grow hgr (HF.out _ rfl) (Nat.lt_trans hbl (Nat.lt_of_lt_of_le (by omega) HLZ.out)); have hz2 := HT.out.1; have q0 := cell_of_row w3 _ 0 _ _ _ hz2; have q1 := cell_of_row w3 _ 1 _ _ _ hz2; have q2 := cell_of_row w3 _ 2 _ _ _ hz2; simp only [List.getElem?_toArray, List.getElem?_cons_zero, List.getElem?_cons_succ] at q0 q1 q2; have k0 := frozen_of_row w3 _ 0 _ _ hz2; have k1 := frozen_of_row w3 _ 1 _ _ hz2; have k2 := frozen_of_row w3 _ 2 _ _ hz2; clear hst hgr hz2))
    go_wp2_with fail
    refine bodyPost_ret (res2 rfl _ _ w.heap.size 27 _ (0, 0) rfl (three_set _ _ _ _ _ _ _ _ _ HT.out.1) valD valSize) rfl ?_
    exact ⟨O', by simp, HT.out.2 _ _ _⟩
set_option maxHeartbeats 8000000 in
set_option maxRecDepth 100000 in
theorem act_get1 (h : Nat) (O : Nat → Prop) (T : List Hp.Th) (r : Hp.V) (er : Int) (p : ByteArray) (hp : p = ⟨#[99, 100, 114]⟩) (x : Hp.V) (av : Value) (w : World) (hv : VSl w av [x]) (hO : ∀ b, O b → b < w.heap.size) (hf : Hp.free O av)
    (HG : After w 2 fun w1 => Calls Try.prog 58 #[.pointer (some ⟨h, 0, none⟩), x.val, .agg #[.int .i64 1, .int .i64 1, .string ⟨#[]⟩]] w1 (DoPost 65 h O r er T w1)) :
    Calls Try.prog 31 #[.pointer (some ⟨h, 0, none⟩), .string p, av] w (DoPost 65 h O r er T w) := by
  obtain ⟨a, c, rfl⟩ := hv.len
  obtain ⟨b, off, rfl, hbl, hat⟩ := hv.at (by simp)
  obtain ⟨d0, d1, d2⟩ := hat 0 x rfl
  rw [Nat.zero_mul, Nat.add_zero] at d0 d1 d2
  have HO := Lib.hid hO
  have HC := Lib.hid HG
  have HF := Lib.hid hf
  clear hat hv hO HG hf
  obtain ⟨xk, xi, xt⟩ := x
  obtain ⟨rk, ri, rt⟩ := r
  unfold DoPost at *
  unfold After Hp.V.val at *
  dsimp only at *
  rcases hp with rfl
  all_goals
    go_enter Try.func31, Try.ntmps31
    go_wp2_with fail
    have HW1 : Hid (Below w.heap.size w ((w.alloc (.cells #[.int .i64 0, .int .i64 0, .string ⟨#[]⟩] 27)).alloc (.cells #[.int .i64 5, .int .i64 0, .string ⟨#[]⟩] 27)).drew) := (((Below.refl _ _).alloc (Nat.le_refl _) _).alloc (by simp) _).drew
    have HZ : Hid (((w.alloc (.cells #[.int .i64 0, .int .i64 0, .string ⟨#[]⟩] 27)).alloc (.cells #[.int .i64 5, .int .i64 0, .string ⟨#[]⟩] 27)).drew.heap[w.heap.size]? = some (.cells #[.int .i64 0, .int .i64 0, .string ⟨#[]⟩] 27 (0, 0))) := (heap_alloc_old _ _ (by simp)).trans (heap_alloc_new w _)
    have HS : Hid (ArgC b off [⟨xk, xi, xt⟩] w) := ⟨d0, d1, d2⟩
    go_region_held3 (fun w' => w'.cell? ⟨b, off, none⟩ = some (.int .i64 xk) ∧ w'.cell? ⟨b, off + 1, none⟩ = some (.int .i64 xi) ∧ w'.cell? ⟨b, off + 2, none⟩ = some (.string xt))
      (first | exact HS.out.below HW1.out hbl | exact HSZ.out | exact HS2.out | exact HS2.out.stored3 (by omega) _ _ _)
      (first
        | (go_at_call 57; (with_reducible refine (zero_any _ _).mono ?_); rintro e wz ⟨rfl, hbz⟩; have HWZ : Hid (Below w.heap.size w wz) := HW1.out.trans (hbz.mono HW1.out.size); have HSZ : Hid (ArgC b off [⟨xk, xi, xt⟩] wz) := HS.out.below HWZ.out hbl; have HZZ : Hid (wz.heap[w.heap.size]? = some (.cells #[.int .i64 0, .int .i64 0, .string ⟨#[]⟩] 27 (0, 0))) := (hbz.block _ (two_size1 _ _ _)).trans HZ.out; have HLZ : Hid (w.heap.size + 2 ≤ wz.heap.size) := Nat.le_trans (two_size _ _ _) hbz.size; clear hbz)
        | (go_at_call 58; (with_reducible refine (HC.out _ HWZ.out HLZ.out).mono ?_); rintro e w3 ⟨O', rfl, hst, hgr⟩; have HT := Lib.hid (do_tail HWZ.out HO.out (Nat.le_refl _) (Nat.lt_of_lt_of_le (by omega) HLZ.out) HZZ.out hst hgr); have HS2 : Hid (ArgC b off [⟨xk, xi, xt⟩] w3) := (HS.out.below HWZ.out hbl).grow hgr (HF.out _ rfl) (Nat.lt_trans hbl (Nat.lt_of_lt_of_le (by omega) HLZ.out)); have hz2 := HT.out.1; have q0 := cell_of_row w3 _ 0 _ _ _ hz2; have q1 := cell_of_row w3 _ 1 _ _ _ hz2; have q2 := cell_of_row w3 _ 2 _ _ _ hz2; simp only [List.getElem?_toArray, List.getElem?_cons_zero, List.getElem?_cons_succ] at q0 q1 q2; have k0 := frozen_of_row w3 _ 0 _ _ hz2; have k1 := frozen_of_row w3 _ 1 _ _ hz2; have k2 := frozen_of_row w3 _ 2 _ _ hz2; clear hst hgr hz2))
    go_wp2_with fail
    refine bodyPost_ret (res2 rfl _ _ w.heap.size 27 _ (0, 0) rfl (three_set _ _ _ _ _ _ _ _ _ HT.out.1) valD valSize) rfl ?_
    exact ⟨O', by simp, HT.out.2 _ _ _⟩
end Go.Proofs.Ythbnhneibpoooaa
/- The heap's act: put at a place. -/
namespace Go.Proofs.Ythbnhneibpoooaa
open Go.RowKit
set_option linter.unusedVariables false
set_option linter.unusedSimpArgs false
set_option maxHeartbeats 8000000 in
set_option maxRecDepth 100000 in
theorem act_put (h : Nat) (O : Nat → Prop) (T : List Hp.Th) (r : Hp.V) (er : Int) (p : ByteArray) (hp : p = ⟨#[118, 101, 99, 116, 111, 114, 45, 115, 101, 116, 33]⟩ ∨ p = ⟨#[115, 116, 114, 105, 110, 103, 45, 115, 101, 116, 33]⟩) (x y z : Hp.V) (av : Value) (w : World) (hv : VSl w av [x, y, z]) (hO : ∀ b, O b → b < w.heap.size) (hf : Hp.free O av)
    (HG : After w 2 fun w1 => Calls Try.prog 59 #[.pointer (some ⟨h, 0, none⟩), x.val, y.val, z.val] w1 (DoPost 65 h O r er T w1)) :
    Calls Try.prog 31 #[.pointer (some ⟨h, 0, none⟩), .string p, av] w (DoPost 65 h O r er T w) := by
  obtain ⟨a, c, rfl⟩ := hv.len
  obtain ⟨b, off, rfl, hbl, hat⟩ := hv.at (by simp)
  obtain ⟨d0, d1, d2⟩ := hat 0 x rfl
  obtain ⟨f0, f1, f2⟩ := hat 1 y rfl
  obtain ⟨g0, g1, g2⟩ := hat 2 z rfl
  rw [Nat.zero_mul, Nat.add_zero] at d0 d1 d2
  rw [Nat.one_mul] at f0 f1 f2
  rw [show 2 * 3 = 6 from rfl] at g0 g1 g2
  have HO := Lib.hid hO
  have HC := Lib.hid HG
  have HF := Lib.hid hf
  clear hat hv hO HG hf
  obtain ⟨xk, xi, xt⟩ := x
  obtain ⟨yk, yi, yt⟩ := y
  obtain ⟨zk, zi, zt⟩ := z
  obtain ⟨rk, ri, rt⟩ := r
  unfold DoPost at *
  unfold After Hp.V.val at *
  dsimp only at *
  rcases hp with rfl | rfl
  all_goals
    go_enter Try.func31, Try.ntmps31
    go_wp2_with fail
    have HW1 : Hid (Below w.heap.size w ((w.alloc (.cells #[.int .i64 0, .int .i64 0, .string ⟨#[]⟩] 27)).alloc (.cells #[.int .i64 5, .int .i64 0, .string ⟨#[]⟩] 27)).drew) := (((Below.refl _ _).alloc (Nat.le_refl _) _).alloc (by simp) _).drew
    have HZ : Hid (((w.alloc (.cells #[.int .i64 0, .int .i64 0, .string ⟨#[]⟩] 27)).alloc (.cells #[.int .i64 5, .int .i64 0, .string ⟨#[]⟩] 27)).drew.heap[w.heap.size]? = some (.cells #[.int .i64 0, .int .i64 0, .string ⟨#[]⟩] 27 (0, 0))) := (heap_alloc_old _ _ (by simp)).trans (heap_alloc_new w _)
    have HS : Hid (ArgC b off [⟨xk, xi, xt⟩, ⟨yk, yi, yt⟩, ⟨zk, zi, zt⟩] w) := ⟨d0, d1, d2, f0, f1, f2, g0, g1, g2⟩
    go_region_held3 (fun w' => w'.cell? ⟨b, off, none⟩ = some (.int .i64 xk) ∧ w'.cell? ⟨b, off + 1, none⟩ = some (.int .i64 xi) ∧ w'.cell? ⟨b, off + 2, none⟩ = some (.string xt) ∧ w'.cell? ⟨b, off + 3, none⟩ = some (.int .i64 yk) ∧ w'.cell? ⟨b, off + 3 + 1, none⟩ = some (.int .i64 yi) ∧ w'.cell? ⟨b, off + 3 + 2, none⟩ = some (.string yt) ∧ w'.cell? ⟨b, off + 6, none⟩ = some (.int .i64 zk) ∧ w'.cell? ⟨b, off + 6 + 1, none⟩ = some (.int .i64 zi) ∧ w'.cell? ⟨b, off + 6 + 2, none⟩ = some (.string zt))
      (first | exact HS.out.below HW1.out hbl | exact HS2.out | exact HS2.out.stored3 (by omega) _ _ _)
      (first
        | (go_at_call 59; (with_reducible refine (HC.out _ HW1.out (two_size _ _ _)).mono ?_); rintro e w3 ⟨O', rfl, hst, hgr⟩; have HT := Lib.hid (do_tail HW1.out HO.out (Nat.le_refl _) (two_size1 _ _ _) HZ.out hst hgr); have HS2 : Hid (ArgC b off [⟨xk, xi, xt⟩, ⟨yk, yi, yt⟩, ⟨zk, zi, zt⟩] w3) := (HS.out.below HW1.out hbl).grow hgr (HF.out _ rfl) (Nat.lt_trans hbl (two_size1 _ _ _)); have hz2 := HT.out.1; have q0 := cell_of_row w3 _ 0 _ _ _ hz2; have q1 := cell_of_row w3 _ 1 _ _ _ hz2; have q2 := cell_of_row w3 _ 2 _ _ _ hz2; simp only [List.getElem?_toArray, List.getElem?_cons_zero, List.getElem?_cons_succ] at q0 q1 q2; have k0 := frozen_of_row w3 _ 0 _ _ hz2; have k1 := frozen_of_row w3 _ 1 _ _ hz2; have k2 := frozen_of_row w3 _ 2 _ _ hz2; clear hst hgr hz2))
    go_wp2_with fail
    refine bodyPost_ret (res2 rfl _ _ w.heap.size 27 _ (0, 0) rfl (three_set _ _ _ _ _ _ _ _ _ HT.out.1) valD valSize) rfl ?_
    exact ⟨O', by simp, HT.out.2 _ _ _⟩
end Go.Proofs.Ythbnhneibpoooaa
/- The heap's act: filled. -/
namespace Go.Proofs.Ythbnhneibpoooaa
open Go.RowKit
set_option linter.unusedVariables false
set_option linter.unusedSimpArgs false
set_option maxHeartbeats 8000000 in
set_option maxRecDepth 100000 in
theorem act_makev (h : Nat) (O : Nat → Prop) (T : List Hp.Th) (r : Hp.V) (er : Int) (p : ByteArray) (hp : p = ⟨#[109, 97, 107, 101, 45, 118, 101, 99, 116, 111, 114]⟩) (x y : Hp.V) (av : Value) (w : World) (hv : VSl w av [x, y]) (hO : ∀ b, O b → b < w.heap.size) (hf : Hp.free O av)
    (HG : After w 2 fun w1 => Calls Try.prog 56 #[.pointer (some ⟨h, 0, none⟩), .int .i64 1, .int .i64 x.int, y.val] w1 (DoPost 65 h O r er T w1)) :
    Calls Try.prog 31 #[.pointer (some ⟨h, 0, none⟩), .string p, av] w (DoPost 65 h O r er T w) := by
  obtain ⟨a, c, rfl⟩ := hv.len
  obtain ⟨b, off, rfl, hbl, hat⟩ := hv.at (by simp)
  obtain ⟨d0, d1, d2⟩ := hat 0 x rfl
  obtain ⟨f0, f1, f2⟩ := hat 1 y rfl
  rw [Nat.zero_mul, Nat.add_zero] at d0 d1 d2
  rw [Nat.one_mul] at f0 f1 f2
  have HO := Lib.hid hO
  have HC := Lib.hid HG
  have HF := Lib.hid hf
  clear hat hv hO HG hf
  obtain ⟨xk, xi, xt⟩ := x
  obtain ⟨yk, yi, yt⟩ := y
  obtain ⟨rk, ri, rt⟩ := r
  unfold DoPost at *
  unfold After Hp.V.val at *
  dsimp only at *
  rcases hp with rfl
  all_goals
    go_enter Try.func31, Try.ntmps31
    go_wp2_with fail
    have HW1 : Hid (Below w.heap.size w ((w.alloc (.cells #[.int .i64 0, .int .i64 0, .string ⟨#[]⟩] 27)).alloc (.cells #[.int .i64 5, .int .i64 0, .string ⟨#[]⟩] 27)).drew) := (((Below.refl _ _).alloc (Nat.le_refl _) _).alloc (by simp) _).drew
    have HZ : Hid (((w.alloc (.cells #[.int .i64 0, .int .i64 0, .string ⟨#[]⟩] 27)).alloc (.cells #[.int .i64 5, .int .i64 0, .string ⟨#[]⟩] 27)).drew.heap[w.heap.size]? = some (.cells #[.int .i64 0, .int .i64 0, .string ⟨#[]⟩] 27 (0, 0))) := (heap_alloc_old _ _ (by simp)).trans (heap_alloc_new w _)
    have HS : Hid (ArgC b off [⟨xk, xi, xt⟩, ⟨yk, yi, yt⟩] w) := ⟨d0, d1, d2, f0, f1, f2⟩
    go_region_held3 (fun w' => w'.cell? ⟨b, off, none⟩ = some (.int .i64 xk) ∧ w'.cell? ⟨b, off + 1, none⟩ = some (.int .i64 xi) ∧ w'.cell? ⟨b, off + 2, none⟩ = some (.string xt) ∧ w'.cell? ⟨b, off + 3, none⟩ = some (.int .i64 yk) ∧ w'.cell? ⟨b, off + 3 + 1, none⟩ = some (.int .i64 yi) ∧ w'.cell? ⟨b, off + 3 + 2, none⟩ = some (.string yt))
      (first | exact HS.out.below HW1.out hbl | exact HS2.out | exact HS2.out.stored3 (by omega) _ _ _)
      (first
        | (go_at_call 56; (with_reducible refine (HC.out _ HW1.out (two_size _ _ _)).mono ?_); rintro e w3 ⟨O', rfl, hst, hgr⟩; have HT := Lib.hid (do_tail HW1.out HO.out (Nat.le_refl _) (two_size1 _ _ _) HZ.out hst hgr); have HS2 : Hid (ArgC b off [⟨xk, xi, xt⟩, ⟨yk, yi, yt⟩] w3) := (HS.out.below HW1.out hbl).grow hgr (HF.out _ rfl) (Nat.lt_trans hbl (two_size1 _ _ _)); have hz2 := HT.out.1; have q0 := cell_of_row w3 _ 0 _ _ _ hz2; have q1 := cell_of_row w3 _ 1 _ _ _ hz2; have q2 := cell_of_row w3 _ 2 _ _ _ hz2; simp only [List.getElem?_toArray, List.getElem?_cons_zero, List.getElem?_cons_succ] at q0 q1 q2; have k0 := frozen_of_row w3 _ 0 _ _ hz2; have k1 := frozen_of_row w3 _ 1 _ _ hz2; have k2 := frozen_of_row w3 _ 2 _ _ hz2; clear hst hgr hz2))
    go_wp2_with fail
    refine bodyPost_ret (res2 rfl _ _ w.heap.size 27 _ (0, 0) rfl (three_set _ _ _ _ _ _ _ _ _ HT.out.1) valD valSize) rfl ?_
    exact ⟨O', by simp, HT.out.2 _ _ _⟩
set_option maxHeartbeats 8000000 in
set_option maxRecDepth 100000 in
theorem act_makes (h : Nat) (O : Nat → Prop) (T : List Hp.Th) (r : Hp.V) (er : Int) (p : ByteArray) (hp : p = ⟨#[109, 97, 107, 101, 45, 115, 116, 114, 105, 110, 103]⟩) (x y : Hp.V) (av : Value) (w : World) (hv : VSl w av [x, y]) (hO : ∀ b, O b → b < w.heap.size) (hf : Hp.free O av)
    (HG : After w 2 fun w1 => Calls Try.prog 56 #[.pointer (some ⟨h, 0, none⟩), .int .i64 2, .int .i64 x.int, y.val] w1 (DoPost 65 h O r er T w1)) :
    Calls Try.prog 31 #[.pointer (some ⟨h, 0, none⟩), .string p, av] w (DoPost 65 h O r er T w) := by
  obtain ⟨a, c, rfl⟩ := hv.len
  obtain ⟨b, off, rfl, hbl, hat⟩ := hv.at (by simp)
  obtain ⟨d0, d1, d2⟩ := hat 0 x rfl
  obtain ⟨f0, f1, f2⟩ := hat 1 y rfl
  rw [Nat.zero_mul, Nat.add_zero] at d0 d1 d2
  rw [Nat.one_mul] at f0 f1 f2
  have HO := Lib.hid hO
  have HC := Lib.hid HG
  have HF := Lib.hid hf
  clear hat hv hO HG hf
  obtain ⟨xk, xi, xt⟩ := x
  obtain ⟨yk, yi, yt⟩ := y
  obtain ⟨rk, ri, rt⟩ := r
  unfold DoPost at *
  unfold After Hp.V.val at *
  dsimp only at *
  rcases hp with rfl
  all_goals
    go_enter Try.func31, Try.ntmps31
    go_wp2_with fail
    have HW1 : Hid (Below w.heap.size w ((w.alloc (.cells #[.int .i64 0, .int .i64 0, .string ⟨#[]⟩] 27)).alloc (.cells #[.int .i64 5, .int .i64 0, .string ⟨#[]⟩] 27)).drew) := (((Below.refl _ _).alloc (Nat.le_refl _) _).alloc (by simp) _).drew
    have HZ : Hid (((w.alloc (.cells #[.int .i64 0, .int .i64 0, .string ⟨#[]⟩] 27)).alloc (.cells #[.int .i64 5, .int .i64 0, .string ⟨#[]⟩] 27)).drew.heap[w.heap.size]? = some (.cells #[.int .i64 0, .int .i64 0, .string ⟨#[]⟩] 27 (0, 0))) := (heap_alloc_old _ _ (by simp)).trans (heap_alloc_new w _)
    have HS : Hid (ArgC b off [⟨xk, xi, xt⟩, ⟨yk, yi, yt⟩] w) := ⟨d0, d1, d2, f0, f1, f2⟩
    go_region_held3 (fun w' => w'.cell? ⟨b, off, none⟩ = some (.int .i64 xk) ∧ w'.cell? ⟨b, off + 1, none⟩ = some (.int .i64 xi) ∧ w'.cell? ⟨b, off + 2, none⟩ = some (.string xt) ∧ w'.cell? ⟨b, off + 3, none⟩ = some (.int .i64 yk) ∧ w'.cell? ⟨b, off + 3 + 1, none⟩ = some (.int .i64 yi) ∧ w'.cell? ⟨b, off + 3 + 2, none⟩ = some (.string yt))
      (first | exact HS.out.below HW1.out hbl | exact HS2.out | exact HS2.out.stored3 (by omega) _ _ _)
      (first
        | (go_at_call 56; (with_reducible refine (HC.out _ HW1.out (two_size _ _ _)).mono ?_); rintro e w3 ⟨O', rfl, hst, hgr⟩; have HT := Lib.hid (do_tail HW1.out HO.out (Nat.le_refl _) (two_size1 _ _ _) HZ.out hst hgr); have HS2 : Hid (ArgC b off [⟨xk, xi, xt⟩, ⟨yk, yi, yt⟩] w3) := (HS.out.below HW1.out hbl).grow hgr (HF.out _ rfl) (Nat.lt_trans hbl (two_size1 _ _ _)); have hz2 := HT.out.1; have q0 := cell_of_row w3 _ 0 _ _ _ hz2; have q1 := cell_of_row w3 _ 1 _ _ _ hz2; have q2 := cell_of_row w3 _ 2 _ _ _ hz2; simp only [List.getElem?_toArray, List.getElem?_cons_zero, List.getElem?_cons_succ] at q0 q1 q2; have k0 := frozen_of_row w3 _ 0 _ _ hz2; have k1 := frozen_of_row w3 _ 1 _ _ hz2; have k2 := frozen_of_row w3 _ 2 _ _ hz2; clear hst hgr hz2))
    go_wp2_with fail
    refine bodyPost_ret (res2 rfl _ _ w.heap.size 27 _ (0, 0) rfl (three_set _ _ _ _ _ _ _ _ _ HT.out.1) valD valSize) rfl ?_
    exact ⟨O', by simp, HT.out.2 _ _ _⟩
end Go.Proofs.Ythbnhneibpoooaa
