/- The heap's act: get. -/
import Derived.Test.YtalfnaielhbocaaKJav
import Derived.Test.YtalfnaielhbocaaKJaq
import Derived.Test.YtalfnaielhbocaaKJai
set_option linter.unusedVariables false
set_option linter.unusedSimpArgs false
set_option linter.unnecessarySimpa false
namespace Go.Proofs.Ytalfnaielhbocaa
open Go.RowKit
set_option maxRecDepth 100000
set_option linter.unusedVariables false
set_option linter.unusedSimpArgs false
set_option maxHeartbeats 8000000 in
set_option maxRecDepth 100000 in
theorem act_get0 (h : Nat) (O : Nat → Prop) (T : List Hp.Th) (r : Hp.V) (er : Int) (p : ByteArray) (hp : p = ⟨#[99, 97, 114]⟩ ∨ p = ⟨#[37, 117, 110, 98, 111, 120]⟩) (x : Hp.V) (av : Value) (w : World) (hv : VSl w av [x]) (hO : ∀ b, O b → b < w.heap.size) (hf : Hp.free O av)
    (HG : After w 2 fun w1 => Calls Try.prog 96 #[.pointer (some ⟨h, 0, none⟩), x.val, .agg #[.int .i64 1, .int .i64 0, .string ⟨#[]⟩]] w1 (DoPost 83 h O r er T w1)) :
    Calls Try.prog 83 #[.pointer (some ⟨h, 0, none⟩), .string p, av] w (DoPost 83 h O r er T w) := by
  obtain ⟨a, c, rfl⟩ := hv.len
  obtain ⟨b, off, rfl, hbl, hat⟩ := hv.at (by simp)
  obtain ⟨d0, d1, d2⟩ := hat 0 x rfl
  rw [Nat.zero_mul, Nat.add_zero] at d0 d1 d2
  have HO := Lib.hid hO
  have HC := Lib.hid HG
  have HF := Lib.hid hf
  clear hat hv hO HG hf
  obtain ⟨xk, xi, xt⟩ := x
  obtain ⟨rk, ri, rt⟩ := r
  unfold DoPost at *
  unfold After Hp.V.val at *
  dsimp only at *
  rcases hp with rfl | rfl
  all_goals
    go_enter Try.func83, Try.ntmps83
    go_wp2_with fail
    have HW1 : Hid (Below w.heap.size w ((w.alloc (.cells #[.int .i64 0, .int .i64 0, .string ⟨#[]⟩] 64)).alloc (.cells #[.int .i64 5, .int .i64 0, .string ⟨#[]⟩] 64)).drew) := (((Below.refl _ _).alloc (Nat.le_refl _) _).alloc (by simp) _).drew
    have HZ : Hid (((w.alloc (.cells #[.int .i64 0, .int .i64 0, .string ⟨#[]⟩] 64)).alloc (.cells #[.int .i64 5, .int .i64 0, .string ⟨#[]⟩] 64)).drew.heap[w.heap.size]? = some (.cells #[.int .i64 0, .int .i64 0, .string ⟨#[]⟩] 64 (0, 0))) := (heap_alloc_old _ _ (by simp)).trans (heap_alloc_new w _)
    have HS : Hid (ArgC b off [⟨xk, xi, xt⟩] w) := ⟨d0, d1, d2⟩
    go_region_held3 (fun w' => w'.cell? ⟨b, off, none⟩ = some (.int .i64 xk) ∧ w'.cell? ⟨b, off + 1, none⟩ = some (.int .i64 xi) ∧ w'.cell? ⟨b, off + 2, none⟩ = some (.string xt))
      (first | exact HS.out.below HW1.out hbl | exact HSZ.out | exact HS2.out | exact HS2.out.stored3 (by omega) _ _ _)
      (first
        | (go_at_call 95; (with_reducible refine (zero_any _ _).mono ?_); rintro e wz ⟨rfl, hbz⟩; have HWZ : Hid (Below w.heap.size w wz) := HW1.out.trans (hbz.mono HW1.out.size); have HSZ : Hid (ArgC b off [⟨xk, xi, xt⟩] wz) := HS.out.below HWZ.out hbl; have HZZ : Hid (wz.heap[w.heap.size]? = some (.cells #[.int .i64 0, .int .i64 0, .string ⟨#[]⟩] 64 (0, 0))) := (hbz.block _ (two_size1 _ _ _)).trans HZ.out; have HLZ : Hid (w.heap.size + 2 ≤ wz.heap.size) := Nat.le_trans (two_size _ _ _) hbz.size; clear hbz)
        | (go_at_call 96; (with_reducible refine (HC.out _ HWZ.out HLZ.out).mono ?_); rintro e w3 ⟨O', rfl, hst, hgr⟩; have HT := Lib.hid (do_tail HWZ.out HO.out (Nat.le_refl _) (Nat.lt_of_lt_of_le (by omega) HLZ.out) HZZ.out hst hgr); have HS2 : Hid (ArgC b off [⟨xk, xi, xt⟩] w3) := (HS.out.below HWZ.out hbl).grow hgr (HF.out _ rfl) (Nat.lt_trans hbl (Nat.lt_of_lt_of_le (by omega) HLZ.out)); have hz2 := HT.out.1; have q0 := cell_of_row w3 _ 0 _ _ _ hz2; have q1 := cell_of_row w3 _ 1 _ _ _ hz2; have q2 := cell_of_row w3 _ 2 _ _ _ hz2; simp only [List.getElem?_toArray, List.getElem?_cons_zero, List.getElem?_cons_succ] at q0 q1 q2; have k0 := frozen_of_row w3 _ 0 _ _ hz2; have k1 := frozen_of_row w3 _ 1 _ _ hz2; have k2 := frozen_of_row w3 _ 2 _ _ hz2; clear hst hgr hz2))
    go_wp2_with fail
    refine bodyPost_ret (res2 rfl _ _ w.heap.size 64 _ (0, 0) rfl (three_set _ _ _ _ _ _ _ _ _ HT.out.1) valD valSize) rfl ?_
    exact ⟨O', by simp, HT.out.2 _ _ _⟩
set_option maxHeartbeats 8000000 in
set_option maxRecDepth 100000 in
theorem act_get1 (h : Nat) (O : Nat → Prop) (T : List Hp.Th) (r : Hp.V) (er : Int) (p : ByteArray) (hp : p = ⟨#[99, 100, 114]⟩) (x : Hp.V) (av : Value) (w : World) (hv : VSl w av [x]) (hO : ∀ b, O b → b < w.heap.size) (hf : Hp.free O av)
    (HG : After w 2 fun w1 => Calls Try.prog 96 #[.pointer (some ⟨h, 0, none⟩), x.val, .agg #[.int .i64 1, .int .i64 1, .string ⟨#[]⟩]] w1 (DoPost 83 h O r er T w1)) :
    Calls Try.prog 83 #[.pointer (some ⟨h, 0, none⟩), .string p, av] w (DoPost 83 h O r er T w) := by
  obtain ⟨a, c, rfl⟩ := hv.len
  obtain ⟨b, off, rfl, hbl, hat⟩ := hv.at (by simp)
  obtain ⟨d0, d1, d2⟩ := hat 0 x rfl
  rw [Nat.zero_mul, Nat.add_zero] at d0 d1 d2
  have HO := Lib.hid hO
  have HC := Lib.hid HG
  have HF := Lib.hid hf
  clear hat hv hO HG hf
  obtain ⟨xk, xi, xt⟩ := x
  obtain ⟨rk, ri, rt⟩ := r
  unfold DoPost at *
  unfold After Hp.V.val at *
  dsimp only at *
  rcases hp with rfl
  all_goals
    go_enter Try.func83, Try.ntmps83
    go_wp2_with fail
    have HW1 : Hid (Below w.heap.size w ((w.alloc (.cells #[.int .i64 0, .int .i64 0, .string ⟨#[]⟩] 64)).alloc (.cells #[.int .i64 5, .int .i64 0, .string ⟨#[]⟩] 64)).drew) := (((Below.refl _ _).alloc (Nat.le_refl _) _).alloc (by simp) _).drew
    have HZ : Hid (((w.alloc (.cells #[.int .i64 0, .int .i64 0, .string ⟨#[]⟩] 64)).alloc (.cells #[.int .i64 5, .int .i64 0, .string ⟨#[]⟩] 64)).drew.heap[w.heap.size]? = some (.cells #[.int .i64 0, .int .i64 0, .string ⟨#[]⟩] 64 (0, 0))) := (heap_alloc_old _ _ (by simp)).trans (heap_alloc_new w _)
    have HS : Hid (ArgC b off [⟨xk, xi, xt⟩] w) := ⟨d0, d1, d2⟩
    go_region_held3 (fun w' => w'.cell? ⟨b, off, none⟩ = some (.int .i64 xk) ∧ w'.cell? ⟨b, off + 1, none⟩ = some (.int .i64 xi) ∧ w'.cell? ⟨b, off + 2, none⟩ = some (.string xt))
      (first | exact HS.out.below HW1.out hbl | exact HSZ.out | exact HS2.out | exact HS2.out.stored3 (by omega) _ _ _)
      (first
        | (go_at_call 95; (with_reducible refine (zero_any _ _).mono ?_); rintro e wz ⟨rfl, hbz⟩; have HWZ : Hid (Below w.heap.size w wz) := HW1.out.trans (hbz.mono HW1.out.size); have HSZ : Hid (ArgC b off [⟨xk, xi, xt⟩] wz) := HS.out.below HWZ.out hbl; have HZZ : Hid (wz.heap[w.heap.size]? = some (.cells #[.int .i64 0, .int .i64 0, .string ⟨#[]⟩] 64 (0, 0))) := (hbz.block _ (two_size1 _ _ _)).trans HZ.out; have HLZ : Hid (w.heap.size + 2 ≤ wz.heap.size) := Nat.le_trans (two_size _ _ _) hbz.size; clear hbz)
        | (go_at_call 96; (with_reducible refine (HC.out _ HWZ.out HLZ.out).mono ?_); rintro e w3 ⟨O', rfl, hst, hgr⟩; have HT := Lib.hid (do_tail HWZ.out HO.out (Nat.le_refl _) (Nat.lt_of_lt_of_le (by omega) HLZ.out) HZZ.out hst hgr); have HS2 : Hid (ArgC b off [⟨xk, xi, xt⟩] w3) := (HS.out.below HWZ.out hbl).grow hgr (HF.out _ rfl) (Nat.lt_trans hbl (Nat.lt_of_lt_of_le (by omega) HLZ.out)); have hz2 := HT.out.1; have q0 := cell_of_row w3 _ 0 _ _ _ hz2; have q1 := cell_of_row w3 _ 1 _ _ _ hz2; have q2 := cell_of_row w3 _ 2 _ _ _ hz2; simp only [List.getElem?_toArray, List.getElem?_cons_zero, List.getElem?_cons_succ] at q0 q1 q2; have k0 := frozen_of_row w3 _ 0 _ _ hz2; have k1 := frozen_of_row w3 _ 1 _ _ hz2; have k2 := frozen_of_row w3 _ 2 _ _ hz2; clear hst hgr hz2))
    go_wp2_with fail
    refine bodyPost_ret (res2 rfl _ _ w.heap.size 64 _ (0, 0) rfl (three_set _ _ _ _ _ _ _ _ _ HT.out.1) valD valSize) rfl ?_
    exact ⟨O', by simp, HT.out.2 _ _ _⟩
end Go.Proofs.Ytalfnaielhbocaa
namespace Go.Proofs.Ytalfnaielhbocaa
open Go.RowKit
set_option maxRecDepth 100000
set_option linter.unusedVariables false
set_option linter.unusedSimpArgs false
set_option maxHeartbeats 8000000 in
set_option maxRecDepth 100000 in
theorem act_put (h : Nat) (O : Nat → Prop) (T : List Hp.Th) (r : Hp.V) (er : Int) (p : ByteArray) (hp : p = ⟨#[118, 101, 99, 116, 111, 114, 45, 115, 101, 116, 33]⟩ ∨ p = ⟨#[115, 116, 114, 105, 110, 103, 45, 115, 101, 116, 33]⟩) (x y z : Hp.V) (av : Value) (w : World) (hv : VSl w av [x, y, z]) (hO : ∀ b, O b → b < w.heap.size) (hf : Hp.free O av)
    (HG : After w 2 fun w1 => Calls Try.prog 97 #[.pointer (some ⟨h, 0, none⟩), x.val, y.val, z.val] w1 (DoPost 83 h O r er T w1)) :
    Calls Try.prog 83 #[.pointer (some ⟨h, 0, none⟩), .string p, av] w (DoPost 83 h O r er T w) := by
  obtain ⟨a, c, rfl⟩ := hv.len
  obtain ⟨b, off, rfl, hbl, hat⟩ := hv.at (by simp)
  obtain ⟨d0, d1, d2⟩ := hat 0 x rfl
  obtain ⟨f0, f1, f2⟩ := hat 1 y rfl
  obtain ⟨g0, g1, g2⟩ := hat 2 z rfl
  rw [Nat.zero_mul, Nat.add_zero] at d0 d1 d2
  rw [Nat.one_mul] at f0 f1 f2
  rw [show 2 * 3 = 6 from rfl] at g0 g1 g2
  have HO := Lib.hid hO
  have HC := Lib.hid HG
  have HF := Lib.hid hf
  clear hat hv hO HG hf
  obtain ⟨xk, xi, xt⟩ := x
  obtain ⟨yk, yi, yt⟩ := y
  obtain ⟨zk, zi, zt⟩ := z
  obtain ⟨rk, ri, rt⟩ := r
  unfold DoPost at *
  unfold After Hp.V.val at *
  dsimp only at *
  rcases hp with rfl | rfl
  all_goals
    go_enter Try.func83, Try.ntmps83
    go_wp2_with fail
    have HW1 : Hid (Below w.heap.size w ((w.alloc (.cells #[.int .i64 0, .int .i64 0, .string ⟨#[]⟩] 64)).alloc (.cells #[.int .i64 5, .int .i64 0, .string ⟨#[]⟩] 64)).drew) := (((Below.refl _ _).alloc (Nat.le_refl _) _).alloc (by simp) _).drew
    have HZ : Hid (((w.alloc (.cells #[.int .i64 0, .int .i64 0, .string ⟨#[]⟩] 64)).alloc (.cells #[.int .i64 5, .int .i64 0, .string ⟨#[]⟩] 64)).drew.heap[w.heap.size]? = some (.cells #[.int .i64 0, .int .i64 0, .string ⟨#[]⟩] 64 (0, 0))) := (heap_alloc_old _ _ (by simp)).trans (heap_alloc_new w _)
    have HS : Hid (ArgC b off [⟨xk, xi, xt⟩, ⟨yk, yi, yt⟩, ⟨zk, zi, zt⟩] w) := ⟨d0, d1, d2, f0, f1, f2, g0, g1, g2⟩
    go_region_held3 (fun w' => w'.cell? ⟨b, off, none⟩ = some (.int .i64 xk) ∧ w'.cell? ⟨b, off + 1, none⟩ = some (.int .i64 xi) ∧ w'.cell? ⟨b, off + 2, none⟩ = some (.string xt) ∧ w'.cell? ⟨b, off + 3, none⟩ = some (.int .i64 yk) ∧ w'.cell? ⟨b, off + 3 + 1, none⟩ = some (.int .i64 yi) ∧ w'.cell? ⟨b, off + 3 + 2, none⟩ = some (.string yt) ∧ w'.cell? ⟨b, off + 6, none⟩ = some (.int .i64 zk) ∧ w'.cell? ⟨b, off + 6 + 1, none⟩ = some (.int .i64 zi) ∧ w'.cell? ⟨b, off + 6 + 2, none⟩ = some (.string zt))
      (first | exact HS.out.below HW1.out hbl | exact HS2.out | exact HS2.out.stored3 (by omega) _ _ _)
      (first
        | (go_at_call 97; (with_reducible refine (HC.out _ HW1.out (two_size _ _ _)).mono ?_); rintro e w3 ⟨O', rfl, hst, hgr⟩; have HT := Lib.hid (do_tail HW1.out HO.out (Nat.le_refl _) (two_size1 _ _ _) HZ.out hst hgr); have HS2 : Hid (ArgC b off [⟨xk, xi, xt⟩, ⟨yk, yi, yt⟩, ⟨zk, zi, zt⟩] w3) := (HS.out.below HW1.out hbl).grow hgr (HF.out _ rfl) (Nat.lt_trans hbl (two_size1 _ _ _)); have hz2 := HT.out.1; have q0 := cell_of_row w3 _ 0 _ _ _ hz2; have q1 := cell_of_row w3 _ 1 _ _ _ hz2; have q2 := cell_of_row w3 _ 2 _ _ _ hz2; simp only [List.getElem?_toArray, List.getElem?_cons_zero, List.getElem?_cons_succ] at q0 q1 q2; have k0 := frozen_of_row w3 _ 0 _ _ hz2; have k1 := frozen_of_row w3 _ 1 _ _ hz2; have k2 := frozen_of_row w3 _ 2 _ _ hz2; clear hst hgr hz2))
    go_wp2_with fail
    refine bodyPost_ret (res2 rfl _ _ w.heap.size 64 _ (0, 0) rfl (three_set _ _ _ _ _ _ _ _ _ HT.out.1) valD valSize) rfl ?_
    exact ⟨O', by simp, HT.out.2 _ _ _⟩
end Go.Proofs.Ytalfnaielhbocaa
namespace Go.Proofs.Ytalfnaielhbocaa
open Go.RowKit
set_option maxRecDepth 100000
set_option linter.unusedVariables false
set_option linter.unusedSimpArgs false
set_option maxHeartbeats 8000000 in
set_option maxRecDepth 100000 in
theorem act_makev (h : Nat) (O : Nat → Prop) (T : List Hp.Th) (r : Hp.V) (er : Int) (p : ByteArray) (hp : p = ⟨#[109, 97, 107, 101, 45, 118, 101, 99, 116, 111, 114]⟩) (x y : Hp.V) (av : Value) (w : World) (hv : VSl w av [x, y]) (hO : ∀ b, O b → b < w.heap.size) (hf : Hp.free O av)
    (HG : After w 2 fun w1 => Calls Try.prog 94 #[.pointer (some ⟨h, 0, none⟩), .int .i64 1, .int .i64 x.int, y.val] w1 (DoPost 83 h O r er T w1)) :
    Calls Try.prog 83 #[.pointer (some ⟨h, 0, none⟩), .string p, av] w (DoPost 83 h O r er T w) := by
  obtain ⟨a, c, rfl⟩ := hv.len
  obtain ⟨b, off, rfl, hbl, hat⟩ := hv.at (by simp)
  obtain ⟨d0, d1, d2⟩ := hat 0 x rfl
  obtain ⟨f0, f1, f2⟩ := hat 1 y rfl
  rw [Nat.zero_mul, Nat.add_zero] at d0 d1 d2
  rw [Nat.one_mul] at f0 f1 f2
  have HO := Lib.hid hO
  have HC := Lib.hid HG
  have HF := Lib.hid hf
  clear hat hv hO HG hf
  obtain ⟨xk, xi, xt⟩ := x
  obtain ⟨yk, yi, yt⟩ := y
  obtain ⟨rk, ri, rt⟩ := r
  unfold DoPost at *
  unfold After Hp.V.val at *
  dsimp only at *
  rcases hp with rfl
  all_goals
    go_enter Try.func83, Try.ntmps83
    go_wp2_with fail
    have HW1 : Hid (Below w.heap.size w ((w.alloc (.cells #[.int .i64 0, .int .i64 0, .string ⟨#[]⟩] 64)).alloc (.cells #[.int .i64 5, .int .i64 0, .string ⟨#[]⟩] 64)).drew) := (((Below.refl _ _).alloc (Nat.le_refl _) _).alloc (by simp) _).drew
    have HZ : Hid (((w.alloc (.cells #[.int .i64 0, .int .i64 0, .string ⟨#[]⟩] 64)).alloc (.cells #[.int .i64 5, .int .i64 0, .string ⟨#[]⟩] 64)).drew.heap[w.heap.size]? = some (.cells #[.int .i64 0, .int .i64 0, .string ⟨#[]⟩] 64 (0, 0))) := (heap_alloc_old _ _ (by simp)).trans (heap_alloc_new w _)
    have HS : Hid (ArgC b off [⟨xk, xi, xt⟩, ⟨yk, yi, yt⟩] w) := ⟨d0, d1, d2, f0, f1, f2⟩
    go_region_held3 (fun w' => w'.cell? ⟨b, off, none⟩ = some (.int .i64 xk) ∧ w'.cell? ⟨b, off + 1, none⟩ = some (.int .i64 xi) ∧ w'.cell? ⟨b, off + 2, none⟩ = some (.string xt) ∧ w'.cell? ⟨b, off + 3, none⟩ = some (.int .i64 yk) ∧ w'.cell? ⟨b, off + 3 + 1, none⟩ = some (.int .i64 yi) ∧ w'.cell? ⟨b, off + 3 + 2, none⟩ = some (.string yt))
      (first | exact HS.out.below HW1.out hbl | exact HS2.out | exact HS2.out.stored3 (by omega) _ _ _)
      (first
        | (go_at_call 94; (with_reducible refine (HC.out _ HW1.out (two_size _ _ _)).mono ?_); rintro e w3 ⟨O', rfl, hst, hgr⟩; have HT := Lib.hid (do_tail HW1.out HO.out (Nat.le_refl _) (two_size1 _ _ _) HZ.out hst hgr); have HS2 : Hid (ArgC b off [⟨xk, xi, xt⟩, ⟨yk, yi, yt⟩] w3) := (HS.out.below HW1.out hbl).grow hgr (HF.out _ rfl) (Nat.lt_trans hbl (two_size1 _ _ _)); have hz2 := HT.out.1; have q0 := cell_of_row w3 _ 0 _ _ _ hz2; have q1 := cell_of_row w3 _ 1 _ _ _ hz2; have q2 := cell_of_row w3 _ 2 _ _ _ hz2; simp only [List.getElem?_toArray, List.getElem?_cons_zero, List.getElem?_cons_succ] at q0 q1 q2; have k0 := frozen_of_row w3 _ 0 _ _ hz2; have k1 := frozen_of_row w3 _ 1 _ _ hz2; have k2 := frozen_of_row w3 _ 2 _ _ hz2; clear hst hgr hz2))
    go_wp2_with fail
    refine bodyPost_ret (res2 rfl _ _ w.heap.size 64 _ (0, 0) rfl (three_set _ _ _ _ _ _ _ _ _ HT.out.1) valD valSize) rfl ?_
    exact ⟨O', by simp, HT.out.2 _ _ _⟩
set_option maxHeartbeats 8000000 in
set_option maxRecDepth 100000 in
theorem act_makes (h : Nat) (O : Nat → Prop) (T : List Hp.Th) (r : Hp.V) (er : Int) (p : ByteArray) (hp : p = ⟨#[109, 97, 107, 101, 45, 115, 116, 114, 105, 110, 103]⟩) (x y : Hp.V) (av : Value) (w : World) (hv : VSl w av [x, y]) (hO : ∀ b, O b → b < w.heap.size) (hf : Hp.free O av)
    (HG : After w 2 fun w1 => Calls Try.prog 94 #[.pointer (some ⟨h, 0, none⟩), .int .i64 2, .int .i64 x.int, y.val] w1 (DoPost 83 h O r er T w1)) :
    Calls Try.prog 83 #[.pointer (some ⟨h, 0, none⟩), .string p, av] w (DoPost 83 h O r er T w) := by
  obtain ⟨a, c, rfl⟩ := hv.len
  obtain ⟨b, off, rfl, hbl, hat⟩ := hv.at (by simp)
  obtain ⟨d0, d1, d2⟩ := hat 0 x rfl
  obtain ⟨f0, f1, f2⟩ := hat 1 y rfl
  rw [Nat.zero_mul, Nat.add_zero] at d0 d1 d2
  rw [Nat.one_mul] at f0 f1 f2
  have HO := Lib.hid hO
  have HC := Lib.hid HG
  have HF := Lib.hid hf
  clear hat hv hO HG hf
  obtain ⟨xk, xi, xt⟩ := x
  obtain ⟨yk, yi, yt⟩ := y
  obtain ⟨rk, ri, rt⟩ := r
  unfold DoPost at *
  unfold After Hp.V.val at *
  dsimp only at *
  rcases hp with rfl
  all_goals
    go_enter Try.func83, Try.ntmps83
    go_wp2_with fail
    have HW1 : Hid (Below w.heap.size w ((w.alloc (.cells #[.int .i64 0, .int .i64 0, .string ⟨#[]⟩] 64)).alloc (.cells #[.int .i64 5, .int .i64 0, .string ⟨#[]⟩] 64)).drew) := (((Below.refl _ _).alloc (Nat.le_refl _) _).alloc (by simp) _).drew
    have HZ : Hid (((w.alloc (.cells #[.int .i64 0, .int .i64 0, .string ⟨#[]⟩] 64)).alloc (.cells #[.int .i64 5, .int .i64 0, .string ⟨#[]⟩] 64)).drew.heap[w.heap.size]? = some (.cells #[.int .i64 0, .int .i64 0, .string ⟨#[]⟩] 64 (0, 0))) := (heap_alloc_old _ _ (by simp)).trans (heap_alloc_new w _)
    have HS : Hid (ArgC b off [⟨xk, xi, xt⟩, ⟨yk, yi, yt⟩] w) := ⟨d0, d1, d2, f0, f1, f2⟩
    go_region_held3 (fun w' => w'.cell? ⟨b, off, none⟩ = some (.int .i64 xk) ∧ w'.cell? ⟨b, off + 1, none⟩ = some (.int .i64 xi) ∧ w'.cell? ⟨b, off + 2, none⟩ = some (.string xt) ∧ w'.cell? ⟨b, off + 3, none⟩ = some (.int .i64 yk) ∧ w'.cell? ⟨b, off + 3 + 1, none⟩ = some (.int .i64 yi) ∧ w'.cell? ⟨b, off + 3 + 2, none⟩ = some (.string yt))
      (first | exact HS.out.below HW1.out hbl | exact HS2.out | exact HS2.out.stored3 (by omega) _ _ _)
      (first
        | (go_at_call 94; (with_reducible refine (HC.out _ HW1.out (two_size _ _ _)).mono ?_); rintro e w3 ⟨O', rfl, hst, hgr⟩; have HT := Lib.hid (do_tail HW1.out HO.out (Nat.le_refl _) (two_size1 _ _ _) HZ.out hst hgr); have HS2 : Hid (ArgC b off [⟨xk, xi, xt⟩, ⟨yk, yi, yt⟩] w3) := (HS.out.below HW1.out hbl).grow hgr (HF.out _ rfl) (Nat.lt_trans hbl (two_size1 _ _ _)); have hz2 := HT.out.1; have q0 := cell_of_row w3 _ 0 _ _ _ hz2; have q1 := cell_of_row w3 _ 1 _ _ _ hz2; have q2 := cell_of_row w3 _ 2 _ _ _ hz2; simp only [List.getElem?_toArray, List.getElem?_cons_zero, List.getElem?_cons_succ] at q0 q1 q2; have k0 := frozen_of_row w3 _ 0 _ _ hz2; have k1 := frozen_of_row w3 _ 1 _ _ hz2; have k2 := frozen_of_row w3 _ 2 _ _ hz2; clear hst hgr hz2))
    go_wp2_with fail
    refine bodyPost_ret (res2 rfl _ _ w.heap.size 64 _ (0, 0) rfl (three_set _ _ _ _ _ _ _ _ _ HT.out.1) valD valSize) rfl ?_
    exact ⟨O', by simp, HT.out.2 _ _ _⟩
end Go.Proofs.Ytalfnaielhbocaa
namespace Go.Proofs.Ytalfnaielhbocaa
open Go.RowKit
set_option maxRecDepth 100000
set_option linter.unusedVariables false
set_option linter.unusedSimpArgs false
namespace Hp
def okAt (T : List Th) (q : V × Int) : Bool := isL (kindOf T q.1) q.1.kind q.2
def allOk (T : List Th) (l : List V) (ls : List Int) : Bool := (l.zip ls).all (okAt T)
theorem tab_bytes : ∀ x ∈ tab, Nm.bytesI x.bytes = x.letters := by
  have h : ∀ x ∈ tab, (Nm.bytesI x.bytes == x.letters) = true := by decide +kernel
  exact fun x hx => by simpa using h x hx
theorem tab_ok : ∀ x ∈ tab, ∀ c ∈ x.letters, letterOk c := by
  have h : ∀ x ∈ tab, ∀ c ∈ x.letters, (decide (c = 46) || decide (c = 105) || decide (c = 99) || decide (c = 112) || decide (c = 118) || decide (c = 115) || decide (c = 98) || decide (c = 114)) = true := by decide +kernel
  intro x hx c hc
  have := h x hx c hc
  simpa [letterOk, or_assoc] using this
theorem may_thing' {n : Nat} {v : V} (h : may n v = true) (h8 : v.kind = 8) : ∃ k, k < n ∧ v = ⟨8, k, ⟨#[]⟩⟩ := by
  obtain ⟨vk, vi, vt⟩ := v
  dsimp only at h8
  subst h8
  simp [may] at h
  exact ⟨vi.toNat, by omega, by rw [h.1]; congr; omega⟩
end Hp
theorem is_any {w : World} {h : Nat} {O : Nat → Prop} {T : List Hp.Th} (H : HSt w 83 h O T) (v : Hp.V) (hm : Hp.may T.length v = true) (ht : v.text.size ≤ maxLen) (l : Int) (hl : Hp.letterOk l) :
    Calls Try.prog 79 #[.pointer (some ⟨h, 0, none⟩), v.val, .int .u8 l] w fun e w' => e = .returned (.bool (Hp.okAt T (v, l))) ∧ Below w.heap.size w w' := by
  obtain ⟨vt, M, H, rfl⟩ := H
  by_cases h8 : v.kind = 8
  · obtain ⟨k, hk, rfl⟩ := Hp.may_thing' hm h8
    obtain ⟨m, hmm⟩ : ∃ m, M[k]? = some m := ⟨_, List.getElem?_eq_getElem (by simpa using hk)⟩
    have e : Hp.okAt (M.map (·.1)) (⟨8, k, ⟨#[]⟩⟩, l) = Hp.isL m.1.kind 8 l := by
      simp [Hp.okAt, Hp.kindOf, List.getElem?_map, hmm]
    rw [e]
    exact is_thing l hl w H hmm
  · obtain ⟨a, c, rfl⟩ := H.shape
    have e : Hp.okAt (M.map (·.1)) (v, l) = Hp.isL (-1) v.kind l := by
      simp [Hp.okAt, Hp.kindOf, h8]
    rw [e]
    exact is_other h M.length c a v l hl ht w H.c0 h8
theorem all_st {w : World} {h : Nat} {O : Nat → Prop} {T : List Hp.Th} (H : HSt w 83 h O T) {av : Value} {l : List Hp.V} (hv : VSl w av l) (hlen : l.length ≤ 1000000) (ht : ∀ x ∈ l, x.text.size ≤ maxLen) :
    Makes w 50 #[.pointer (some ⟨h, 0, none⟩), av] (.bool (l.all (Hp.may T.length))) := by
  intro w1 hb
  obtain ⟨vt, M, H2, e⟩ := H.below hb (Nat.le_refl _)
  obtain ⟨a, c, rfl⟩ := H2.shape
  have el : T.length = M.length := by rw [← e, List.length_map]
  rw [el]
  exact all_any h M.length c a av l w1 H2.c0 (hv.below hb (Nat.le_refl _)) hlen ht
def atG (T : List Hp.Th) (l : List Hp.V) (ls : List Int) (k : Nat) : Bool := match (l.zip ls)[k]? with | some q => Hp.okAt T q | none => true
theorem isAt_row {w : World} {h : Nat} {O : Nat → Prop} {T : List Hp.Th} (H : HSt w 83 h O T) (x : Hp.Row) (hx : x ∈ Hp.tab) (l : List Hp.V) (hm : ∀ v ∈ l, Hp.may T.length v = true) (ht : ∀ v ∈ l, v.text.size ≤ maxLen) : IsAt w h l x.bytes (atG T l x.letters) := by
  intro k v hk hv w1 hb
  have e1 : x.letters[k]? = some ((x.bytes[k].toNat : Nat) : Int) := by rw [← Hp.tab_bytes x hx]; exact Nm.bytesI_get _ hk
  have e2 : atG T l x.letters k = Hp.okAt T (v, ((x.bytes[k].toNat : Nat) : Int)) := by
    have ez : (l.zip x.letters)[k]? = some (v, ((x.bytes[k].toNat : Nat) : Int)) := by rw [List.getElem?_zip_eq_some]; exact ⟨hv, e1⟩
    unfold atG
    rw [ez]
  rw [e2]
  exact is_any (H.below hb (Nat.le_refl _)) v (hm v (List.mem_of_getElem? hv)) (ht v (List.mem_of_getElem? hv)) _ (Hp.tab_ok x hx _ (List.mem_of_getElem? e1))
theorem atG_all {T : List Hp.Th} {l : List Hp.V} {ls : List Int} (h : Hp.allOk T l ls = true) (k : Nat) : atG T l ls k = true := by
  unfold atG
  split
  · rename_i q hq
    exact List.all_eq_true.1 h q (List.mem_of_getElem? hq)
  · rfl
theorem row_size {x : Hp.Row} (hx : x ∈ Hp.tab) : x.bytes.size = x.letters.length := by rw [← Hp.tab_bytes x hx, Nm.bytesI_length]
theorem do_row_act {w : World} {h : Nat} {O : Nat → Prop} {T : List Hp.Th} (H : HSt w 83 h O T) (x : Hp.Row) (hx : x ∈ Hp.tab) (hask : x.ask = -1 ∧ x.letter = 0) (hops : ∀ q ∈ Hp.ops, (q == x.name.toList) = false) (av : Value) (l : List Hp.V) (hv : VSl w av l) (hlen : l.length = x.letters.length) (hl3 : l.length ≤ 1000) (hm : ∀ v ∈ l, Hp.may T.length v = true) (ht : ∀ v ∈ l, v.text.size ≤ maxLen) (hok : Hp.allOk T l x.letters = true) (r : Hp.V) (er : Int) (T' : List Hp.Th)
    (hAct : After w 1 fun w1 => Calls Try.prog 83 #[.pointer (some ⟨h, 0, none⟩), .string x.name, av] w1 (DoPost 83 h O r er T' w1)) :
    Calls Try.prog 69 #[.pointer (some ⟨h, 0, none⟩), .string x.name, av] w (DoPost 83 h O r er T' w) := by
  have hA := all_st H hv (by omega) ht
  have e : l.all (Hp.may T.length) = true := List.all_eq_true.2 hm
  rw [e] at hA
  have hK : Still 80 #[.string x.name] (.tuple #[.int .i64 (-1), .int .u8 0]) := fun w1 => by
    have := asks_at x hx w1
    rw [hask.1, hask.2] at this
    exact this
  exact do_act h x.name x.bytes av l w hv (by rw [hlen, row_size hx]) hl3 (atG T l x.letters) (wants_at x hx) hA (isAt_row H x hx l hm ht) (fun k _ => atG_all hok k) O r er T' H.lt hK hops hAct
theorem op_ne {p : ByteArray} (h : (Hp.ops.all fun q => !(q == p.data.toList)) = true) : ∀ q ∈ Hp.ops, (q == p.toList) = false := by
  intro q hq
  have := List.all_eq_true.1 h q hq
  rw [Lib.toList_data]
  simpa using this
theorem tab_at (i : Nat) (x : Hp.Row) (h : Hp.tab[i]? = some x) : x ∈ Hp.tab := List.mem_of_getElem? h
section
variable {w : World} {h : Nat} {O : Nat → Prop} {T : List Hp.Th}
end
end Go.Proofs.Ytalfnaielhbocaa
namespace Go.Proofs.Ytalfnaielhbocaa
open Go.RowKit
set_option maxRecDepth 100000
set_option linter.unusedVariables false
set_option linter.unusedSimpArgs false
section
variable {w : World} {h : Nat} {O : Nat → Prop} {T : List Hp.Th}
theorem HSt.find {k : Nat} {t : Hp.Th} (H : HSt w 83 h O T) (hk : T[k]? = some t) : ∃ vt M m, HpAt w 83 h O vt M ∧ M.map (·.1) = T ∧ M[k]? = some m ∧ m.1 = t := by
  obtain ⟨vt, M, HA, e⟩ := H
  rw [← e, List.getElem?_map] at hk
  obtain ⟨m, hm, hmt⟩ : ∃ m, M[k]? = some m ∧ m.1 = t := by simpa using hk
  exact ⟨vt, M, m, HA, e, hm, hmt⟩
theorem use_bad (H : HSt w 83 h O T) (x : Hp.Row) (hx : x ∈ Hp.tab) (av : Value) (l : List Hp.V) (hv : VSl w av l) (hlen : l.length ≤ 1000000) (ht : ∀ v ∈ l, v.text.size ≤ maxLen) (hm : l.all (Hp.may T.length) = false) :
    Calls Try.prog 69 #[.pointer (some ⟨h, 0, none⟩), .string x.name, av] w (DoPost 83 h O Hp.none 1 T w) := by
  have hA := all_st H hv hlen ht
  rw [hm] at hA
  obtain ⟨a, c, rfl⟩ := hv.len
  refine (do_bad h x.name x.bytes true false _ _ c a rfl w (wants_at x hx) hA (.inr (.inr rfl))).mono ?_
  rintro e w' ⟨rfl, hb⟩
  exact DoPost.read H rfl hb
end
end Go.Proofs.Ytalfnaielhbocaa
namespace Go.Proofs.Ytalfnaielhbocaa
open Go.RowKit
set_option maxRecDepth 100000
set_option linter.unusedVariables false
set_option linter.unusedSimpArgs false
theorem zero_own (w : World) (t : TypeId) : (w.alloc (.cells #[] t)).ownsRow w.heap.size t 3 (.slice (some ⟨w.heap.size, 0, none⟩) 0 0) 0 [] :=
  ⟨rfl, .inr ⟨w.heap.size, 0, #[], rfl, Nat.le_refl _, heap_alloc_new w _, Nat.le_refl _, by decide, rfl, rfl⟩⟩
structure RAdd (ty h : Nat) (O : Nat → Prop) (vt : Value) (M : List (Hp.Th × Value)) (l : List Hp.V) (pv : Value) (w w1 : World) : Prop where
  hp : HpAt w1 ty h O vt M
  own : w1.ownsRow (w.heap.size + 1) 64 3 pv l.length (Hp.flatV l)
  below : Below w.heap.size w w1
  size : w.heap.size + 2 ≤ w1.heap.size
  res : w1.heap[w.heap.size]? = some (.cells #[.int .i64 0, .int .i64 0, .string ⟨#[]⟩] 64 (0, 0))
theorem RAdd.mk' {ty h : Nat} {O : Nat → Prop} {vt : Value} {M : List (Hp.Th × Value)} {l : List Hp.V} {av : Option Addr} {cv : Nat} {w w1 : World} (H : HpAt w ty h O vt M)
    (hown : w1.ownsRow (w.heap.size + 1) 64 3 (.slice av (0 + l.length) cv) (0 + l.length) ([] ++ Hp.flatV l))
    (hg : ((w.alloc (.cells #[.int .i64 0, .int .i64 0, .string ⟨#[]⟩] 64)).alloc (.cells #[] 64)).drew.grownBy w1 (Value.slice (some ⟨w.heap.size + 1, 0, none⟩) 0 0).ownBlock) :
    RAdd ty h O vt M l (.slice av l.length cv) w w1 := by
  have hw : Below w.heap.size w ((w.alloc (.cells #[.int .i64 0, .int .i64 0, .string ⟨#[]⟩] 64)).alloc (.cells #[] 64)).drew := (((Below.refl _ _).alloc (Nat.le_refl _) _).alloc (by simp) _).drew
  have hne : ∀ j, j < w.heap.size + 1 → some j ≠ (Value.slice (some ⟨w.heap.size + 1, 0, none⟩) 0 0).ownBlock := by
    intro j hj e
    simp [Value.ownBlock] at e
    omega
  have hs : ((w.alloc (.cells #[.int .i64 0, .int .i64 0, .string ⟨#[]⟩] 64)).alloc (.cells #[] 64)).drew.heap.size = w.heap.size + 1 + 1 := two_size_eq _ _ _
  have hb : Below w.heap.size w w1 := ⟨hg.os.trans hw.os, hg.tape.trans hw.tape, hg.output.trans hw.output, Nat.le_trans hw.size hg.size, fun b hb => (hg.block b (by rw [hs]; omega) (hne b (by omega))).trans (hw.block b hb)⟩
  rw [Nat.zero_add, List.nil_append] at hown
  refine ⟨H.below hb (Nat.le_refl _), hown, hb, by have := hg.size; rw [hs] at this; omega, ?_⟩
  rw [hg.block w.heap.size (by rw [hs]; omega) (hne _ (by omega))]
  show ((w.alloc (.cells #[.int .i64 0, .int .i64 0, .string ⟨#[]⟩] 64)).alloc (.cells #[] 64)).heap[w.heap.size]? = _
  rw [heap_alloc_old _ _ (by simp)]
  exact heap_alloc_new w _
structure RAdd2 (ty h : Nat) (O : Nat → Prop) (M : List (Hp.Th × Value)) (t : Hp.Th) (pv sv : Value) (w w2 : World) : Prop where
  hp : ∃ O', HpAt (w2.setCell ⟨h, 0, none⟩ sv) ty h O' sv (M ++ [(t, pv)]) ∧ Grow O O' w (w2.setCell ⟨h, 0, none⟩ sv) ∧ ¬ O' w.heap.size
  res : w2.heap[w.heap.size]? = some (.cells #[.int .i64 0, .int .i64 0, .string ⟨#[]⟩] 64 (0, 0))
  cell : ∃ vt, w2.cell? ⟨h, 0, none⟩ = some vt
  fz : w2.frozen? ⟨h, 0, none⟩ = false
  lt : h < w2.heap.size
  le : w.heap.size ≤ w2.heap.size
theorem RAdd2.mk' {ty h : Nat} {O : Nat → Prop} {vt : Value} {M : List (Hp.Th × Value)} {kind : Int} {l : List Hp.V} {pv : Value} {w w1 w2 : World} {o : Obj} {g cap : Nat} (H : RAdd ty h O vt M l pv w w1) (hO : ∀ b, O b → b < w.heap.size)
    (hown : w2.ownsRow 0 118 2 (.slice (some ⟨g, 0, none⟩) (M.length + 1) cap) (M.length + 1) (Hp.thC M ++ [.int .i64 kind, pv])) (hg : (w1.alloc o).grownBy w2 vt.ownBlock) (hl : vt.ownBlock = some g ∨ g = w1.heap.size + 1) (hlt : g < w2.heap.size) :
    RAdd2 ty h O M ⟨kind, l⟩ pv (.slice (some ⟨g, 0, none⟩) (M.length + 1) cap) w w2 := by
  have hA := H.hp.below ((Below.refl w1.heap.size w1).alloc (Nat.le_refl _) o) (Nat.le_refl _)
  have hB : ∀ b, O b → b < w.heap.size + 1 := fun b hb => by have := hO b hb; omega
  have hz := H.size
  obtain ⟨P1, P2⟩ := hA.push (t := ⟨kind, l⟩) (H.own.alloc o) hB (by simp; omega) hown hg (by simpa using hl) hlt
  have hhlt := H.hp.own.1
  have hh0 := hO _ hhlt
  have hne : vt.ownBlock ≠ some h := H.hp.ne
  have hnw : some w.heap.size ≠ vt.ownBlock := fun e => by have := hO _ (H.hp.own.2.1 _ e.symm); omega
  have hgw : w.heap.size ≤ w2.heap.size := by have := hg.size; simp at this; omega
  have hblk : w2.heap[h]? = (w1.alloc o).heap[h]? := hg.block h (by simp; omega) (fun e => hne e.symm)
  refine ⟨⟨_, P1, ?_, ?_⟩, ?_, ⟨vt, ?_⟩, ?_, by omega, hgw⟩
  · have hb1 : Below w.heap.size w (w1.alloc o) := H.below.alloc (by omega) o
    exact ⟨P2.os.trans hb1.os, P2.tape.trans hb1.tape, P2.output.trans hb1.output, Nat.le_trans hb1.size P2.size, fun b hb ho => (P2.block b (Nat.lt_of_lt_of_le hb hb1.size) ho).trans (hb1.block b hb), fun b hb => (P2.own b hb).imp id fun e => by omega⟩
  · rintro (e | e | e)
    · have := hO _ e; omega
    · rcases hl with e2 | e2
      · have := hO _ (H.hp.own.2.1 _ e2); omega
      · omega
    · have := (H.own.lt _ e).1; omega
  · rw [hg.block w.heap.size (by simp; omega) hnw, heap_alloc_old _ _ (by omega)]
    exact H.res
  · exact (World.cell?_of_block (a := ⟨h, 0, none⟩) hblk).trans hA.c0
  · exact (World.frozen?_of_block (a := ⟨h, 0, none⟩) hblk).trans hA.fz
theorem RAdd2.fin {ty h : Nat} {O : Nat → Prop} {M : List (Hp.Th × Value)} {t : Hp.Th} {pv sv : Value} {w w2 : World} (H : RAdd2 ty h O M t pv sv w w2) (hh : h < w.heap.size) (x y z : Value) :
    (∃ O', HSt ((((w2.setCell ⟨h, 0, none⟩ sv).setCell ⟨w.heap.size, 0, none⟩ x).setCell ⟨w.heap.size, 1, none⟩ y).setCell ⟨w.heap.size, 2, none⟩ z) ty h O' (M.map (·.1) ++ [t]) ∧ Grow O O' w ((((w2.setCell ⟨h, 0, none⟩ sv).setCell ⟨w.heap.size, 0, none⟩ x).setCell ⟨w.heap.size, 1, none⟩ y).setCell ⟨w.heap.size, 2, none⟩ z)) ∧
    ((((w2.setCell ⟨h, 0, none⟩ sv).setCell ⟨w.heap.size, 0, none⟩ x).setCell ⟨w.heap.size, 1, none⟩ y).setCell ⟨w.heap.size, 2, none⟩ z).heap[w.heap.size]? = some (.cells #[x, y, z] 64 (0, 0)) := by
  obtain ⟨O', h1, h2, h3⟩ := H.hp
  have hne : w.heap.size ≠ h := by omega
  refine ⟨⟨O', ret_end ⟨_, _, h1, by simp⟩ h2 h3 (Nat.le_refl _) x y z⟩, three_set _ _ _ _ _ _ x y z ((heap_setCell_other _ _ _ _ hne).trans H.res)⟩
end Go.Proofs.Ytalfnaielhbocaa
namespace Go.Proofs.Ytalfnaielhbocaa
open Go.RowKit
set_option maxRecDepth 100000
set_option linter.unusedVariables false
set_option linter.unusedSimpArgs false
structure RFil (v : Hp.V) (w wx : World) (i : Nat) (pv : Value) : Prop where
  own : wx.ownsRow (w.heap.size + 2) 64 3 pv i (Hp.flatV (List.replicate i v))
  below : Below w.heap.size w wx
  box : wx.heap[w.heap.size]? = some (.cells #[.int .i64 v.kind, .int .i64 v.int, .string v.text] 64 (0, 0))
  res : wx.heap[w.heap.size + 1]? = some (.cells #[.int .i64 0, .int .i64 0, .string ⟨#[]⟩] 64 (0, 0))
  size : w.heap.size + 2 ≤ wx.heap.size
theorem RFil.init (v : Hp.V) (w : World) : RFil v w (((w.alloc (.cells #[.int .i64 v.kind, .int .i64 v.int, .string v.text] 64)).alloc (.cells #[.int .i64 0, .int .i64 0, .string ⟨#[]⟩] 64)).alloc (.cells #[] 64)) 0 (.slice (some ⟨w.heap.size + 1 + 1, 0, none⟩) 0 0) := by
  refine ⟨?_, (((Below.refl _ _).alloc (Nat.le_refl _) _).alloc (by simp) _).alloc (by simp; omega) _, ?_, ?_, by simp⟩
  · have h := zero_own ((w.alloc (.cells #[.int .i64 v.kind, .int .i64 v.int, .string v.text] 64)).alloc (.cells #[.int .i64 0, .int .i64 0, .string ⟨#[]⟩] 64)) 64
    rw [two_size_eq'] at h
    exact h
  · rw [heap_alloc_old _ _ (by simp; omega), heap_alloc_old _ _ (by simp)]
    exact heap_alloc_new w _
  · rw [heap_alloc_old _ _ (by simp)]
    exact heap_new (by simp)
theorem RFil.step {v : Hp.V} {w wx w1 : World} {i : Nat} {pv pv' : Value} {o : Obj} (H : RFil v w wx i pv) (hown : w1.ownsRow (w.heap.size + 2) 64 3 pv' (i + 1) (Hp.flatV (List.replicate i v) ++ [.int .i64 v.kind, .int .i64 v.int, .string v.text])) (hg : (wx.alloc o).grownBy w1 pv.ownBlock) : RFil v w w1 (i + 1) pv' := by
  have hne : ∀ j, j < w.heap.size + 2 → some j ≠ pv.ownBlock := own_ne H.own
  have hs := H.size
  have hk : ∀ j, j < w.heap.size + 2 → w1.heap[j]? = wx.heap[j]? := fun j hj => by
    rw [hg.block j (by simp; omega) (hne j hj), heap_alloc_old _ _ (by omega)]
  refine ⟨?_, ⟨hg.os.trans H.below.os, hg.tape.trans H.below.tape, hg.output.trans H.below.output, ?_, fun b hb => (hk b (by omega)).trans (H.below.block b hb)⟩, (hk _ (by omega)).trans H.box, (hk _ (by omega)).trans H.res, ?_⟩
  · rw [List.replicate_succ', Hp.flatV_append]
    exact hown
  · have := hg.size
    simp at this
    omega
  · have := hg.size
    simp at this
    omega
theorem RFil.cells {v : Hp.V} {w wx : World} {i : Nat} {pv : Value} (H : RFil v w wx i pv) : wx.cell? ⟨w.heap.size, 0, none⟩ = some (.int .i64 v.kind) ∧ wx.cell? ⟨w.heap.size, 1, none⟩ = some (.int .i64 v.int) ∧ wx.cell? ⟨w.heap.size, 2, none⟩ = some (.string v.text) ∧ w.heap.size < wx.heap.size :=
  ⟨cell_of_row wx _ 0 _ _ _ H.box, cell_of_row wx _ 1 _ _ _ H.box, cell_of_row wx _ 2 _ _ _ H.box, by have := H.size; omega⟩
end Go.Proofs.Ytalfnaielhbocaa
namespace Go.Proofs.Ytalfnaielhbocaa
open Go.RowKit
set_option maxRecDepth 100000
set_option linter.unusedVariables false
set_option linter.unusedSimpArgs false
def Hp.codeOf (l : Int) : Int := if l = 46 then -1 else if l = 105 then 1 else if l = 99 then 2 else if l = 112 then 10 else if l = 118 then 11 else if l = 115 then 12 else if l = 98 then 13 else 14
def RTab (w : World) (g : Nat) : Prop :=
  g < w.heap.size ∧ ∀ (i : Nat) (x : Hp.Row), Hp.tab[i]? = some x → w.cell? ⟨g, i * 2, none⟩ = some (.string x.name) ∧ ∃ a c, w.cell? ⟨g, i * 2 + 1, none⟩ = some (.slice a x.letters.length c) ∧ ∀ (j : Nat) (l : Int), x.letters[j]? = some l → ∃ b, a = some ⟨b, 0, none⟩ ∧ b < w.heap.size ∧ w.cell? ⟨b, j, none⟩ = some (.int .i64 (Hp.codeOf l))
theorem RTab.below {w w' : World} {g N : Nat} (h : RTab w g) (hb : Below N w w') (hN : w.heap.size ≤ N) : RTab w' g := by
  refine ⟨Nat.lt_of_lt_of_le h.1 hb.size, fun i x hx => ?_⟩
  obtain ⟨h1, a, c, h2, h3⟩ := h.2 i x hx
  have hg := h.1
  refine ⟨(hb.cell (p := ⟨g, i * 2, none⟩) (by dsimp only; omega)).trans h1, a, c, (hb.cell (p := ⟨g, i * 2 + 1, none⟩) (by dsimp only; omega)).trans h2, fun j l hl => ?_⟩
  obtain ⟨b, e, hlt, hc⟩ := h3 j l hl
  exact ⟨b, e, Nat.lt_of_lt_of_le hlt hb.size, (hb.cell (p := ⟨b, j, none⟩) (by dsimp only; omega)).trans hc⟩
end Go.Proofs.Ytalfnaielhbocaa
namespace Go.Proofs.Ytalfnaielhbocaa
open Go.RowKit
set_option maxRecDepth 100000
set_option linter.unusedVariables false
set_option linter.unusedSimpArgs false
namespace Hp
def partsOf (T : List Th) (v : V) : List V := match T[v.int.toNat]? with | some t => t.parts | Option.none => []
def getF (T : List Th) (v : V) (i : Int) : V × Int × List Th :=
  if 0 ≤ i ∧ i < ((partsOf T v).length : Int) then ((partsOf T v).getD i.toNat none, 0, T) else (none, 83, T)
def putF (T : List Th) (v : V) (i : Int) (x : V) : V × Int × List Th :=
  if 0 ≤ i ∧ i < ((partsOf T v).length : Int) then (void, 0, T.set v.int.toNat ⟨kindOf T v, (partsOf T v).set i.toNat x⟩) else (none, 83, T)
def addF (T : List Th) (t : Th) : V × Int × List Th := (⟨8, T.length, ⟨#[]⟩⟩, 0, T ++ [t])
def fillF (T : List Th) (kind n : Int) (v : V) : V × Int × List Th := if n < 0 ∨ 1000 < n then (none, 83, T) else addF T ⟨kind, List.replicate n.toNat v⟩
def sayF (T : List Th) (v : V) : V × Int × List Th := (v, 0, T)
def actF (T : List Th) (i : Nat) (a b c : V) (l : List V) : V × Int × List Th :=
  match i with
  | 0 => ((reckF 0 a.int b.int).1, (reckF 0 a.int b.int).2, T)
  | 1 => ((reckF 1 a.int b.int).1, (reckF 1 a.int b.int).2, T)
  | 2 => ((reckF 2 a.int b.int).1, (reckF 2 a.int b.int).2, T)
  | 3 => ((reckF 3 a.int b.int).1, (reckF 3 a.int b.int).2, T)
  | 4 => ((reckF 4 a.int b.int).1, (reckF 4 a.int b.int).2, T)
  | 5 => sayF T (truth (decide (a.int < b.int)))
  | 6 => sayF T (truth (decide (a = b)))
  | 7 => sayF T (truth (decide (a = b)))
  | 8 => sayF T (truth (decide (a.kind = 4)))
  | 9 => sayF T (truth (decide (a.kind = 3)))
  | 10 => sayF T (truth (decide (a.kind = 2)))
  | 11 => sayF T (truth (decide (a.kind = 1)))
  | 12 => sayF T (truth (decide (a.kind = 0)))
  | 13 => sayF T (truth (decide (a.kind = 6)))
  | 14 => sayF T (truth (decide (kindOf T a = 0)))
  | 15 => sayF T (truth (decide (kindOf T a = 1)))
  | 16 => sayF T (truth (decide (kindOf T a = 2)))
  | 17 => sayF T (truth (decide (kindOf T a = 4)))
  | 18 => addF T ⟨0, l⟩
  | 19 => getF T a 0
  | 20 => getF T a 1
  | 21 => putF T a 0 b
  | 22 => putF T a 1 b
  | 23 => fillF T 1 a.int b
  | 24 => fillF T 2 a.int b
  | 25 => sayF T (num (partsOf T a).length)
  | 26 => sayF T (num (partsOf T a).length)
  | 27 => getF T a b.int
  | 28 => getF T a b.int
  | 29 => putF T a b.int c
  | 30 => putF T a b.int c
  | 31 => sayF T (num a.int)
  | 32 => if a.int < 0 ∨ 255 < a.int then (none, 83, T) else sayF T ⟨2, a.int, ⟨#[]⟩⟩
  | 33 => addF T ⟨3, l⟩
  | 34 => getF T a 0
  | 35 => putF T a 0 b
  | 37 => sayF T ⟨7, 0, ⟨#[]⟩⟩
  | _ => sayF T void
def rat (p : ByteArray) : Nat → Int
  | 0 => -1
  | k + 1 => match tab[k]? with
    | some x => if x.name = p then k else rat p k
    | Option.none => rat p k
def doF (T : List Th) (p : ByteArray) (l : List V) : V × Int × List Th :=
  match tab[(rat p 38).toNat]? with
  | some x =>
    if rat p 38 < 0 ∨ x.letters.length ≠ l.length then (none, 1, T)
    else if l.all (may T.length) = false then (none, 1, T)
    else if allOk T l x.letters = false then (none, 80, T)
    else actF T (rat p 38).toNat (l.getD 0 none) (l.getD 1 none) (l.getD 2 none) l
  | Option.none => (none, 1, T)
theorem rat_some (p : ByteArray) : ∀ k, 0 ≤ rat p k → ∃ x, tab[(rat p k).toNat]? = some x ∧ x.name = p
  | 0, h => by simp [rat] at h
  | k + 1, h => by
    unfold rat at h ⊢
    split at h
    · rename_i x hx
      split at h
      · rename_i e
        rw [if_pos e]
        exact ⟨x, by simpa using hx, e⟩
      · rename_i e
        rw [if_neg e]
        exact rat_some p k h
    · exact rat_some p k h
theorem doF_none {T : List Th} {p : ByteArray} {l : List V} (h : rat p 38 < 0) : doF T p l = (none, 1, T) := by
  unfold doF
  split
  · rw [if_pos (.inl h)]
  · rfl
theorem doF_len {T : List Th} {p : ByteArray} {l : List V} {i : Nat} {x : Row} (h : rat p 38 = i) (hx : tab[i]? = some x) (hl : x.letters.length ≠ l.length) : doF T p l = (none, 1, T) := by
  unfold doF
  rw [h, Int.toNat_natCast, hx]
  simp [hl]
theorem doF_may {T : List Th} {p : ByteArray} {l : List V} {i : Nat} {x : Row} (h : rat p 38 = i) (hx : tab[i]? = some x) (hl : x.letters.length = l.length) (hm : l.all (may T.length) = false) : doF T p l = (none, 1, T) := by
  unfold doF
  rw [h, Int.toNat_natCast, hx]
  have : ¬ ((i : Int) < 0 ∨ x.letters.length ≠ l.length) := by omega
  dsimp only
  rw [if_neg this, if_pos hm]
theorem doF_type {T : List Th} {p : ByteArray} {l : List V} {i : Nat} {x : Row} (h : rat p 38 = i) (hx : tab[i]? = some x) (hl : x.letters.length = l.length) (hm : l.all (may T.length) = true) (ho : allOk T l x.letters = false) : doF T p l = (none, 80, T) := by
  unfold doF
  rw [h, Int.toNat_natCast, hx]
  have : ¬ ((i : Int) < 0 ∨ x.letters.length ≠ l.length) := by omega
  dsimp only
  rw [if_neg this, if_neg (by rw [hm]; decide), if_pos ho]
theorem doF_act {T : List Th} {p : ByteArray} {l : List V} {i : Nat} {x : Row} (h : rat p 38 = i) (hx : tab[i]? = some x) (hl : x.letters.length = l.length) (hm : l.all (may T.length) = true) (ho : allOk T l x.letters = true) : doF T p l = actF T i (l.getD 0 none) (l.getD 1 none) (l.getD 2 none) l := by
  unfold doF
  rw [h, Int.toNat_natCast, hx]
  have : ¬ ((i : Int) < 0 ∨ x.letters.length ≠ l.length) := by omega
  dsimp only
  rw [if_neg this, if_neg (by rw [hm]; decide), if_neg (by rw [ho]; decide)]
end Hp
end Go.Proofs.Ytalfnaielhbocaa
namespace Go.Proofs.Ytalfnaielhbocaa
open Go.RowKit
set_option maxRecDepth 100000
set_option linter.unusedVariables false
set_option linter.unusedSimpArgs false
set_option maxHeartbeats 8000000 in
set_option maxRecDepth 100000 in
theorem do_ask0 (h : Nat) (p bs : ByteArray) (av : Value) (l : List Hp.V) (w : World) (hv : VSl w av l) (hl : l.length = bs.size) (hlm : l.length ≤ 1000) (G : Nat → Bool) (hW : Still 78 #[.string p] (.tuple #[.string bs, .bool true]))
    (hA : Makes w 50 #[.pointer (some ⟨h, 0, none⟩), av] (.bool true)) (hI : IsAt w h l bs G) (hG : ∀ k, k < l.length → G k = true) (v : Hp.V) (hv0 : l[0]? = some v) (kd : Int) (hkd : 0 ≤ kd)
    (hK : Still 80 #[.string p] (.tuple #[.int .i64 kd, .int .u8 0])) :
    Calls Try.prog 69 #[.pointer (some ⟨h, 0, none⟩), .string p, av] w fun e w' => e = .returned (.tuple #[(Hp.truth (decide (v.kind = kd))).val, .int .i64 0]) ∧ Below w.heap.size w w' := by
  obtain ⟨a, c, rfl⟩ := hv.len
  have HV := Lib.hid hv
  have HW := Lib.hid hW
  have HA := Lib.hid hA
  have HI := Lib.hid hI
  have HGG := Lib.hid hG
  have HLE := Lib.hid hl
  have HK := Lib.hid hK
  have HT := Lib.hid (fun (b : Bool) w => truth_any b w)
  have HV9 := Lib.hid hv
  have HL0 := Lib.hid hv0
  clear hW hA hv hI hG hK hv0
  unfold Still at HK
  unfold Still at HW
  unfold Makes at HA
  unfold IsAt at HI
  unfold Hp.V.val at *
  obtain ⟨vk, vi, vt⟩ := v
  dsimp only at *
  rw [hl] at HA ⊢
  go_enter Try.func69, Try.ntmps69
  go_wp2_with fail
  with_reducible refine (HW.out _).mono ?_
  rintro e w1 ⟨rfl, rfl⟩
  go_wp2_with fail
  with_reducible refine (HA.out _ ((Below.refl _ _).alloc (Nat.le_refl _) _)).mono ?_
  rintro e w2 ⟨rfl, hb⟩
  have HD := Lib.hid ((DoW.first w).next hb)
  clear hb
  go_wp2_with fail
  go_loopg [39] l.length (fun gk i wx => ∃ k : Nat, k ≤ l.length ∧ gk = l.length - k ∧ i = .int .i64 k ∧ Hid (∀ j, j < k → G j = true) ∧ Hid (DoW w wx))
  case atStart => exact ⟨0, Nat.zero_le _, rfl, rfl, fun j hj => by omega, HD.out⟩
  case round =>
    obtain ⟨k, hk, rfl, rfl, HALL, HX⟩ := hrel
    by_cases hlt : k < l.length
    · obtain ⟨x, hx⟩ : ∃ x, l[k]? = some x := ⟨_, List.getElem?_eq_getElem hlt⟩
      have hne : l ≠ [] := fun e => by rw [e] at hlt; simp at hlt
      have hv2 := HV.out.below HX.out.below (Nat.le_refl _)
      rw [hl] at hv2
      obtain ⟨b, off, rfl, hbl, hat⟩ := hv2.at hne
      obtain ⟨d0, d1, d2⟩ := hat k x hx
      have hks : k < bs.size := by omega
      have HIk := Lib.hid (fun w1 hb => HI.out k x hks hx w1 hb)
      obtain ⟨xk, xi, xt⟩ := x
      dsimp only at *
      have hg1 : (0 : Int) ≤ k := by omega
      have hg2 : (k : Int) < bs.size := by omega
      have hgw : IntKind.i64.wrap ((k : Int) + 1) = k + 1 := by rw [IntKind.wrap_i64]; omega
      clear hat hx hne hv2 HV
      have HS := Lib.hid (new3 wr xk xi xt)
      have hG := HGG.out k hlt
      rw [hG] at HIk
      have HGT := Lib.hid hG
      clear hG HI
      go_wp2_with fail
      go_region_held3 (fun w' => w'.cell? ⟨wr.heap.size, 0, none⟩ = some (.int .i64 xk) ∧ w'.cell? ⟨wr.heap.size, 1, none⟩ = some (.int .i64 xi) ∧ w'.cell? ⟨wr.heap.size, 2, none⟩ = some (.string xt))
        (first | exact HS.out | exact HS4.out)
        (first | (go_at_call 79; (with_reducible refine (HIk.out _ HX.out.at).mono ?_); rintro e w4 ⟨rfl, hb4⟩; have HX4 := Lib.hid (HX.out.call hb4); have HS4 : Hid (New3 wr.heap.size xk xi xt w4) := HS.out.below hb4 (drew_lt _ _); clear hb4))
      go_wp2_with fail
      go_roundg (l.length - (k + 1))
      case measure => omega
      case rel => exact ⟨k + 1, by omega, rfl, by go_num, fun j hj => (Nat.lt_or_eq_of_le (Nat.le_of_lt_succ hj)).elim (fun h => HALL.out j h) (fun h => h ▸ HGT.out), HX4.out⟩
    · obtain rfl : k = l.length := by omega
      go_wp2_with fail
      with_reducible refine (HK.out _).mono ?_
      rintro e w3 ⟨rfl, rfl⟩
      have hv2 := HV9.out.below HX.out.below (Nat.le_refl _)
      rw [hl] at hv2
      obtain ⟨b, off, rfl, hbl, hat⟩ := hv2.at (fun e => by have := HL0.out; rw [e] at this; simp at this)
      obtain ⟨d0, d1, d2⟩ := hat 0 ⟨vk, vi, vt⟩ HL0.out
      rw [Nat.zero_mul, Nat.add_zero] at d0 d1 d2
      dsimp only at d0 d1 d2
      have hpos : 0 < bs.size := by
        have := (List.getElem?_eq_some_iff.1 HL0.out).1
        omega
      have hpos2 : (0 : Int) < bs.size := by omega
      have q9 : decide (0 ≤ kd) = true := decide_eq_true hkd
      clear hat hv2 HV HV9 HI
      have HX2 := HX
      obtain ⟨bb, hbb⟩ : ∃ bb, decide (vk = kd) = bb := ⟨_, rfl⟩
      have HBB := Lib.hid hbb
      by_cases hvk : vk = kd
      · obtain rfl : bb = true := by rw [← hbb]; exact decide_eq_true hvk
        have q8 : (vk == kd) = true := beq_iff_eq.2 hvk
        clear hbb hvk
        go_wp2_with fail
        with_reducible refine (HT.out _ _).mono ?_
        rintro e w5 ⟨rfl, hb5⟩
        have HY := Lib.hid (HX2.out.next hb5)
        obtain ⟨q0, q1, q2, k0, k1, k2⟩ := HY.out.cells
        clear hb5
        go_wp2_with fail
        have hz2 := HY.out.blk
        refine bodyPost_ret (res2 rfl _ _ w.heap.size 64 _ (0, 0) rfl (three_set _ _ _ _ _ _ _ _ _ hz2) valD valSize) rfl ?_
        exact ⟨by rw [HBB.out]; rfl, below_three HY.out.below (Nat.le_refl _) _ _ _⟩
      · obtain rfl : bb = false := by rw [← hbb]; exact decide_eq_false hvk
        have q8 : (vk == kd) = false := beq_eq_false_iff_ne.2 hvk
        clear hbb hvk
        go_wp2_with fail
        with_reducible refine (HT.out _ _).mono ?_
        rintro e w5 ⟨rfl, hb5⟩
        have HY := Lib.hid (HX2.out.next hb5)
        obtain ⟨q0, q1, q2, k0, k1, k2⟩ := HY.out.cells
        clear hb5
        go_wp2_with fail
        have hz2 := HY.out.blk
        refine bodyPost_ret (res2 rfl _ _ w.heap.size 64 _ (0, 0) rfl (three_set _ _ _ _ _ _ _ _ _ hz2) valD valSize) rfl ?_
        exact ⟨by rw [HBB.out]; rfl, below_three HY.out.below (Nat.le_refl _) _ _ _⟩
set_option maxHeartbeats 8000000 in
set_option maxRecDepth 100000 in
theorem do_ask1 (h : Nat) (p bs : ByteArray) (av : Value) (l : List Hp.V) (w : World) (hv : VSl w av l) (hl : l.length = bs.size) (hlm : l.length ≤ 1000) (G : Nat → Bool) (hW : Still 78 #[.string p] (.tuple #[.string bs, .bool true]))
    (hA : Makes w 50 #[.pointer (some ⟨h, 0, none⟩), av] (.bool true)) (hI : IsAt w h l bs G) (hG : ∀ k, k < l.length → G k = true) (v : Hp.V) (hv0 : l[0]? = some v) (kd : Int) (hkd : 0 ≤ kd) (lt : Int) (hlt : lt = 112 ∨ lt = 118 ∨ lt = 115 ∨ lt = 114) (bb : Bool) (hIs : Makes w 79 #[.pointer (some ⟨h, 0, none⟩), v.val, .int .u8 lt] (.bool bb))
    (hK : Still 80 #[.string p] (.tuple #[.int .i64 kd, .int .u8 lt])) :
    Calls Try.prog 69 #[.pointer (some ⟨h, 0, none⟩), .string p, av] w fun e w' => e = .returned (.tuple #[(Hp.truth bb).val, .int .i64 0]) ∧ Below w.heap.size w w' := by
  have HIS := Lib.hid hIs
  unfold Makes at HIS
  clear hIs
  obtain ⟨a, c, rfl⟩ := hv.len
  have HV := Lib.hid hv
  have HW := Lib.hid hW
  have HA := Lib.hid hA
  have HI := Lib.hid hI
  have HGG := Lib.hid hG
  have HLE := Lib.hid hl
  have HK := Lib.hid hK
  have HT := Lib.hid (fun (b : Bool) w => truth_any b w)
  have HV9 := Lib.hid hv
  have HL0 := Lib.hid hv0
  clear hW hA hv hI hG hK hv0
  unfold Still at HK
  unfold Still at HW
  unfold Makes at HA
  unfold IsAt at HI
  unfold Hp.V.val at *
  obtain ⟨vk, vi, vt⟩ := v
  dsimp only at *
  rw [hl] at HA ⊢
  go_enter Try.func69, Try.ntmps69
  go_wp2_with fail
  with_reducible refine (HW.out _).mono ?_
  rintro e w1 ⟨rfl, rfl⟩
  go_wp2_with fail
  with_reducible refine (HA.out _ ((Below.refl _ _).alloc (Nat.le_refl _) _)).mono ?_
  rintro e w2 ⟨rfl, hb⟩
  have HD := Lib.hid ((DoW.first w).next hb)
  clear hb
  go_wp2_with fail
  go_loopg [39] l.length (fun gk i wx => ∃ k : Nat, k ≤ l.length ∧ gk = l.length - k ∧ i = .int .i64 k ∧ Hid (∀ j, j < k → G j = true) ∧ Hid (DoW w wx))
  case atStart => exact ⟨0, Nat.zero_le _, rfl, rfl, fun j hj => by omega, HD.out⟩
  case round =>
    obtain ⟨k, hk, rfl, rfl, HALL, HX⟩ := hrel
    by_cases hlt : k < l.length
    · obtain ⟨x, hx⟩ : ∃ x, l[k]? = some x := ⟨_, List.getElem?_eq_getElem hlt⟩
      have hne : l ≠ [] := fun e => by rw [e] at hlt; simp at hlt
      have hv2 := HV.out.below HX.out.below (Nat.le_refl _)
      rw [hl] at hv2
      obtain ⟨b, off, rfl, hbl, hat⟩ := hv2.at hne
      obtain ⟨d0, d1, d2⟩ := hat k x hx
      have hks : k < bs.size := by omega
      have HIk := Lib.hid (fun w1 hb => HI.out k x hks hx w1 hb)
      obtain ⟨xk, xi, xt⟩ := x
      dsimp only at *
      have hg1 : (0 : Int) ≤ k := by omega
      have hg2 : (k : Int) < bs.size := by omega
      have hgw : IntKind.i64.wrap ((k : Int) + 1) = k + 1 := by rw [IntKind.wrap_i64]; omega
      clear hat hx hne hv2 HV
      have HS := Lib.hid (new3 wr xk xi xt)
      have hG := HGG.out k hlt
      rw [hG] at HIk
      have HGT := Lib.hid hG
      clear hG HI
      go_wp2_with fail
      go_region_held3 (fun w' => w'.cell? ⟨wr.heap.size, 0, none⟩ = some (.int .i64 xk) ∧ w'.cell? ⟨wr.heap.size, 1, none⟩ = some (.int .i64 xi) ∧ w'.cell? ⟨wr.heap.size, 2, none⟩ = some (.string xt))
        (first | exact HS.out | exact HS4.out)
        (first | (go_at_call 79; (with_reducible refine (HIk.out _ HX.out.at).mono ?_); rintro e w4 ⟨rfl, hb4⟩; have HX4 := Lib.hid (HX.out.call hb4); have HS4 : Hid (New3 wr.heap.size xk xi xt w4) := HS.out.below hb4 (drew_lt _ _); clear hb4))
      go_wp2_with fail
      go_roundg (l.length - (k + 1))
      case measure => omega
      case rel => exact ⟨k + 1, by omega, rfl, by go_num, fun j hj => (Nat.lt_or_eq_of_le (Nat.le_of_lt_succ hj)).elim (fun h => HALL.out j h) (fun h => h ▸ HGT.out), HX4.out⟩
    · obtain rfl : k = l.length := by omega
      go_wp2_with fail
      with_reducible refine (HK.out _).mono ?_
      rintro e w3 ⟨rfl, rfl⟩
      have hv2 := HV9.out.below HX.out.below (Nat.le_refl _)
      rw [hl] at hv2
      obtain ⟨b, off, rfl, hbl, hat⟩ := hv2.at (fun e => by have := HL0.out; rw [e] at this; simp at this)
      obtain ⟨d0, d1, d2⟩ := hat 0 ⟨vk, vi, vt⟩ HL0.out
      rw [Nat.zero_mul, Nat.add_zero] at d0 d1 d2
      dsimp only at d0 d1 d2
      have hpos : 0 < bs.size := by
        have := (List.getElem?_eq_some_iff.1 HL0.out).1
        omega
      have hpos2 : (0 : Int) < bs.size := by omega
      have q9 : decide (0 ≤ kd) = true := decide_eq_true hkd
      clear hat hv2 HV HV9 HI
      have q7 : (lt == 0) = false := beq_eq_false_iff_ne.2 (by omega)
      have q6 : (lt != 0) = true := by rw [bne_iff_ne]; omega
      go_wp2_with fail
      with_reducible refine (HIS.out _ HX.out.below).mono ?_
      rintro e w4 ⟨rfl, hb4⟩
      have HX2 := Lib.hid (HX.out.next hb4)
      clear hb4
      go_wp2_with fail
      with_reducible refine (HT.out _ _).mono ?_
      rintro e w5 ⟨rfl, hb5⟩
      have HY := Lib.hid (HX2.out.next hb5)
      obtain ⟨q0, q1, q2, k0, k1, k2⟩ := HY.out.cells
      clear hb5
      go_wp2_with fail
      have hz2 := HY.out.blk
      refine bodyPost_ret (res2 rfl _ _ w.heap.size 64 _ (0, 0) rfl (three_set _ _ _ _ _ _ _ _ _ hz2) valD valSize) rfl ?_
      exact ⟨rfl, below_three HY.out.below (Nat.le_refl _) _ _ _⟩
end Go.Proofs.Ytalfnaielhbocaa
namespace Go.Proofs.Ytalfnaielhbocaa
open Go.RowKit
set_option maxRecDepth 100000
set_option linter.unusedVariables false
set_option linter.unusedSimpArgs false
set_option maxHeartbeats 8000000 in
set_option maxRecDepth 100000 in
theorem act_put0 (h : Nat) (O : Nat → Prop) (T : List Hp.Th) (r : Hp.V) (er : Int) (p : ByteArray) (hp : p = ⟨#[115, 101, 116, 45, 99, 97, 114, 33]⟩ ∨ p = ⟨#[37, 115, 101, 116, 45, 98, 111, 120, 33]⟩) (x y : Hp.V) (av : Value) (w : World) (hv : VSl w av [x, y]) (hO : ∀ b, O b → b < w.heap.size) (hf : Hp.free O av)
    (HG : After w 2 fun w1 => Calls Try.prog 97 #[.pointer (some ⟨h, 0, none⟩), x.val, .agg #[.int .i64 1, .int .i64 0, .string ⟨#[]⟩], y.val] w1 (DoPost 83 h O r er T w1)) :
    Calls Try.prog 83 #[.pointer (some ⟨h, 0, none⟩), .string p, av] w (DoPost 83 h O r er T w) := by
  obtain ⟨a, c, rfl⟩ := hv.len
  obtain ⟨b, off, rfl, hbl, hat⟩ := hv.at (by simp)
  obtain ⟨d0, d1, d2⟩ := hat 0 x rfl
  obtain ⟨f0, f1, f2⟩ := hat 1 y rfl
  rw [Nat.zero_mul, Nat.add_zero] at d0 d1 d2
  rw [Nat.one_mul] at f0 f1 f2
  have HO := Lib.hid hO
  have HC := Lib.hid HG
  have HF := Lib.hid hf
  clear hat hv hO HG hf
  obtain ⟨xk, xi, xt⟩ := x
  obtain ⟨yk, yi, yt⟩ := y
  obtain ⟨rk, ri, rt⟩ := r
  unfold DoPost at *
  unfold After Hp.V.val at *
  dsimp only at *
  rcases hp with rfl | rfl
  all_goals
    go_enter Try.func83, Try.ntmps83
    go_wp2_with fail
    have HW1 : Hid (Below w.heap.size w ((w.alloc (.cells #[.int .i64 0, .int .i64 0, .string ⟨#[]⟩] 64)).alloc (.cells #[.int .i64 5, .int .i64 0, .string ⟨#[]⟩] 64)).drew) := (((Below.refl _ _).alloc (Nat.le_refl _) _).alloc (by simp) _).drew
    have HZ : Hid (((w.alloc (.cells #[.int .i64 0, .int .i64 0, .string ⟨#[]⟩] 64)).alloc (.cells #[.int .i64 5, .int .i64 0, .string ⟨#[]⟩] 64)).drew.heap[w.heap.size]? = some (.cells #[.int .i64 0, .int .i64 0, .string ⟨#[]⟩] 64 (0, 0))) := (heap_alloc_old _ _ (by simp)).trans (heap_alloc_new w _)
    have HS : Hid (ArgC b off [⟨xk, xi, xt⟩, ⟨yk, yi, yt⟩] w) := ⟨d0, d1, d2, f0, f1, f2⟩
    go_region_held3 (fun w' => w'.cell? ⟨b, off, none⟩ = some (.int .i64 xk) ∧ w'.cell? ⟨b, off + 1, none⟩ = some (.int .i64 xi) ∧ w'.cell? ⟨b, off + 2, none⟩ = some (.string xt) ∧ w'.cell? ⟨b, off + 3, none⟩ = some (.int .i64 yk) ∧ w'.cell? ⟨b, off + 3 + 1, none⟩ = some (.int .i64 yi) ∧ w'.cell? ⟨b, off + 3 + 2, none⟩ = some (.string yt))
      (first | exact HS.out.below HW1.out hbl | exact HSZ.out | exact HS2.out | exact HS2.out.stored3 (by omega) _ _ _)
      (first
        | (go_at_call 95; (with_reducible refine (zero_any _ _).mono ?_); rintro e wz ⟨rfl, hbz⟩; have HWZ : Hid (Below w.heap.size w wz) := HW1.out.trans (hbz.mono HW1.out.size); have HSZ : Hid (ArgC b off [⟨xk, xi, xt⟩, ⟨yk, yi, yt⟩] wz) := HS.out.below HWZ.out hbl; have HZZ : Hid (wz.heap[w.heap.size]? = some (.cells #[.int .i64 0, .int .i64 0, .string ⟨#[]⟩] 64 (0, 0))) := (hbz.block _ (two_size1 _ _ _)).trans HZ.out; have HLZ : Hid (w.heap.size + 2 ≤ wz.heap.size) := Nat.le_trans (two_size _ _ _) hbz.size; clear hbz)
        | (go_at_call 97; (with_reducible refine (HC.out _ HWZ.out HLZ.out).mono ?_); rintro e w3 ⟨O', rfl, hst, hgr⟩; have HT := Lib.hid (do_tail HWZ.out HO.out (Nat.le_refl _) (Nat.lt_of_lt_of_le (by omega) HLZ.out) HZZ.out hst hgr); have HS2 : Hid (ArgC b off [⟨xk, xi, xt⟩, ⟨yk, yi, yt⟩] w3) := (HS.out.below HWZ.out hbl).grow hgr (HF.out _ rfl) (Nat.lt_trans hbl (Nat.lt_of_lt_of_le (by omega) HLZ.out)); have hz2 := HT.out.1; have q0 := cell_of_row w3 _ 0 _ _ _ hz2; have q1 := cell_of_row w3 _ 1 _ _ _ hz2; have q2 := cell_of_row w3 _ 2 _ _ _ hz2; simp only [List.getElem?_toArray, List.getElem?_cons_zero, List.getElem?_cons_succ] at q0 q1 q2; have k0 := frozen_of_row w3 _ 0 _ _ hz2; have k1 := frozen_of_row w3 _ 1 _ _ hz2; have k2 := frozen_of_row w3 _ 2 _ _ hz2; clear hst hgr hz2))
    go_wp2_with fail
    refine bodyPost_ret (res2 rfl _ _ w.heap.size 64 _ (0, 0) rfl (three_set _ _ _ _ _ _ _ _ _ HT.out.1) valD valSize) rfl ?_
    exact ⟨O', by simp, HT.out.2 _ _ _⟩
set_option maxHeartbeats 8000000 in
set_option maxRecDepth 100000 in
theorem act_put1 (h : Nat) (O : Nat → Prop) (T : List Hp.Th) (r : Hp.V) (er : Int) (p : ByteArray) (hp : p = ⟨#[115, 101, 116, 45, 99, 100, 114, 33]⟩) (x y : Hp.V) (av : Value) (w : World) (hv : VSl w av [x, y]) (hO : ∀ b, O b → b < w.heap.size) (hf : Hp.free O av)
    (HG : After w 2 fun w1 => Calls Try.prog 97 #[.pointer (some ⟨h, 0, none⟩), x.val, .agg #[.int .i64 1, .int .i64 1, .string ⟨#[]⟩], y.val] w1 (DoPost 83 h O r er T w1)) :
    Calls Try.prog 83 #[.pointer (some ⟨h, 0, none⟩), .string p, av] w (DoPost 83 h O r er T w) := by
  obtain ⟨a, c, rfl⟩ := hv.len
  obtain ⟨b, off, rfl, hbl, hat⟩ := hv.at (by simp)
  obtain ⟨d0, d1, d2⟩ := hat 0 x rfl
  obtain ⟨f0, f1, f2⟩ := hat 1 y rfl
  rw [Nat.zero_mul, Nat.add_zero] at d0 d1 d2
  rw [Nat.one_mul] at f0 f1 f2
  have HO := Lib.hid hO
  have HC := Lib.hid HG
  have HF := Lib.hid hf
  clear hat hv hO HG hf
  obtain ⟨xk, xi, xt⟩ := x
  obtain ⟨yk, yi, yt⟩ := y
  obtain ⟨rk, ri, rt⟩ := r
  unfold DoPost at *
  unfold After Hp.V.val at *
  dsimp only at *
  rcases hp with rfl
  all_goals
    go_enter Try.func83, Try.ntmps83
    go_wp2_with fail
    have HW1 : Hid (Below w.heap.size w ((w.alloc (.cells #[.int .i64 0, .int .i64 0, .string ⟨#[]⟩] 64)).alloc (.cells #[.int .i64 5, .int .i64 0, .string ⟨#[]⟩] 64)).drew) := (((Below.refl _ _).alloc (Nat.le_refl _) _).alloc (by simp) _).drew
    have HZ : Hid (((w.alloc (.cells #[.int .i64 0, .int .i64 0, .string ⟨#[]⟩] 64)).alloc (.cells #[.int .i64 5, .int .i64 0, .string ⟨#[]⟩] 64)).drew.heap[w.heap.size]? = some (.cells #[.int .i64 0, .int .i64 0, .string ⟨#[]⟩] 64 (0, 0))) := (heap_alloc_old _ _ (by simp)).trans (heap_alloc_new w _)
    have HS : Hid (ArgC b off [⟨xk, xi, xt⟩, ⟨yk, yi, yt⟩] w) := ⟨d0, d1, d2, f0, f1, f2⟩
    go_region_held3 (fun w' => w'.cell? ⟨b, off, none⟩ = some (.int .i64 xk) ∧ w'.cell? ⟨b, off + 1, none⟩ = some (.int .i64 xi) ∧ w'.cell? ⟨b, off + 2, none⟩ = some (.string xt) ∧ w'.cell? ⟨b, off + 3, none⟩ = some (.int .i64 yk) ∧ w'.cell? ⟨b, off + 3 + 1, none⟩ = some (.int .i64 yi) ∧ w'.cell? ⟨b, off + 3 + 2, none⟩ = some (.string yt))
      (first | exact HS.out.below HW1.out hbl | exact HSZ.out | exact HS2.out | exact HS2.out.stored3 (by omega) _ _ _)
      (first
        | (go_at_call 95; (with_reducible refine (zero_any _ _).mono ?_); rintro e wz ⟨rfl, hbz⟩; have HWZ : Hid (Below w.heap.size w wz) := HW1.out.trans (hbz.mono HW1.out.size); have HSZ : Hid (ArgC b off [⟨xk, xi, xt⟩, ⟨yk, yi, yt⟩] wz) := HS.out.below HWZ.out hbl; have HZZ : Hid (wz.heap[w.heap.size]? = some (.cells #[.int .i64 0, .int .i64 0, .string ⟨#[]⟩] 64 (0, 0))) := (hbz.block _ (two_size1 _ _ _)).trans HZ.out; have HLZ : Hid (w.heap.size + 2 ≤ wz.heap.size) := Nat.le_trans (two_size _ _ _) hbz.size; clear hbz)
        | (go_at_call 97; (with_reducible refine (HC.out _ HWZ.out HLZ.out).mono ?_); rintro e w3 ⟨O', rfl, hst, hgr⟩; have HT := Lib.hid (do_tail HWZ.out HO.out (Nat.le_refl _) (Nat.lt_of_lt_of_le (by omega) HLZ.out) HZZ.out hst hgr); have HS2 : Hid (ArgC b off [⟨xk, xi, xt⟩, ⟨yk, yi, yt⟩] w3) := (HS.out.below HWZ.out hbl).grow hgr (HF.out _ rfl) (Nat.lt_trans hbl (Nat.lt_of_lt_of_le (by omega) HLZ.out)); have hz2 := HT.out.1; have q0 := cell_of_row w3 _ 0 _ _ _ hz2; have q1 := cell_of_row w3 _ 1 _ _ _ hz2; have q2 := cell_of_row w3 _ 2 _ _ _ hz2; simp only [List.getElem?_toArray, List.getElem?_cons_zero, List.getElem?_cons_succ] at q0 q1 q2; have k0 := frozen_of_row w3 _ 0 _ _ hz2; have k1 := frozen_of_row w3 _ 1 _ _ hz2; have k2 := frozen_of_row w3 _ 2 _ _ hz2; clear hst hgr hz2))
    go_wp2_with fail
    refine bodyPost_ret (res2 rfl _ _ w.heap.size 64 _ (0, 0) rfl (three_set _ _ _ _ _ _ _ _ _ HT.out.1) valD valSize) rfl ?_
    exact ⟨O', by simp, HT.out.2 _ _ _⟩
end Go.Proofs.Ytalfnaielhbocaa
namespace Go.Proofs.Ytalfnaielhbocaa
open Go.RowKit
set_option maxRecDepth 100000
set_option linter.unusedVariables false
set_option linter.unusedSimpArgs false
set_option maxHeartbeats 8000000 in
set_option maxRecDepth 100000 in
theorem act_lt (h : Nat) (x y : Hp.V) (av : Value) (w : World) (hv : VSl w av [x, y]) :
    Calls Try.prog 83 #[.pointer (some ⟨h, 0, none⟩), .string ⟨#[60]⟩, av] w fun e w' => e = .returned (.tuple #[(Hp.truth (decide (x.int < y.int))).val, .int .i64 0]) ∧ Below w.heap.size w w' := by
  obtain ⟨a, c, rfl⟩ := hv.len
  obtain ⟨b, off, rfl, hbl, hat⟩ := hv.at (by simp)
  obtain ⟨d0, d1, d2⟩ := hat 0 x rfl
  obtain ⟨f0, f1, f2⟩ := hat 1 y rfl
  rw [Nat.zero_mul, Nat.add_zero] at d0 d1 d2
  rw [Nat.one_mul] at f0 f1 f2
  clear hat hv
  have HC : Hid (∀ w', Below w.heap.size w w' → w'.cell? ⟨b, off + 1, none⟩ = some (.int .i64 x.int) ∧ w'.cell? ⟨b, off + 3 + 1, none⟩ = some (.int .i64 y.int)) := fun w' hb => ⟨(hb.cell (p := ⟨b, off + 1, none⟩) hbl).trans d1, (hb.cell (p := ⟨b, off + 3 + 1, none⟩) hbl).trans f1⟩
  have HW1 : Hid (Below w.heap.size w ((w.alloc (.cells #[.int .i64 0, .int .i64 0, .string ⟨#[]⟩] 64)).alloc (.cells #[.int .i64 5, .int .i64 0, .string ⟨#[]⟩] 64)).drew) := (((Below.refl _ _).alloc (Nat.le_refl _) _).alloc (by simp) _).drew
  have HZ : Hid (((w.alloc (.cells #[.int .i64 0, .int .i64 0, .string ⟨#[]⟩] 64)).alloc (.cells #[.int .i64 5, .int .i64 0, .string ⟨#[]⟩] 64)).drew.heap[w.heap.size]? = some (.cells #[.int .i64 0, .int .i64 0, .string ⟨#[]⟩] 64 (0, 0))) := (heap_alloc_old _ _ (by simp)).trans (heap_alloc_new w _)
  have HTR := Lib.hid (fun (b : Bool) w => truth_any b w)
  unfold Hp.V.val at *
  clear d0 d1 d2 f0 f1 f2
  go_enter Try.func83, Try.ntmps83
  go_wp2_with fail
  go_region_held3 (fun w' => w'.cell? ⟨b, off + 1, none⟩ = some (.int .i64 x.int) ∧ w'.cell? ⟨b, off + 3 + 1, none⟩ = some (.int .i64 y.int))
    (first | with_reducible exact HC.out _ HW1.out | with_reducible exact HC.out _ HW3.out | with_reducible exact HC.out _ (below_three HW3.out (Nat.le_refl _) _ _ _) | fail)
    (first
      | (go_at_call 81; (with_reducible refine (HTR.out _ _).mono ?_); rintro e w3 ⟨rfl, hb3⟩; have HW3 := Lib.hid (HW1.out.trans (hb3.mono HW1.out.size)); have hz3 := (hb3.block w.heap.size (by show _ < (World.alloc _ _).heap.size; simp; omega)).trans HZ.out; have q0 := cell_of_row w3 _ 0 _ _ _ hz3; have q1 := cell_of_row w3 _ 1 _ _ _ hz3; have q2 := cell_of_row w3 _ 2 _ _ _ hz3; simp only [List.getElem?_toArray, List.getElem?_cons_zero, List.getElem?_cons_succ] at q0 q1 q2; have k0 := frozen_of_row w3 _ 0 _ _ hz3; have k1 := frozen_of_row w3 _ 1 _ _ hz3; have k2 := frozen_of_row w3 _ 2 _ _ hz3; have HZ3 := Lib.hid hz3; clear hb3 hz3)
      | fail)
  all_goals
    go_wp2_with fail
    refine bodyPost_ret (res2 rfl _ _ w.heap.size 64 _ (0, 0) rfl (three_set _ _ _ _ _ _ _ _ _ HZ3.out) valD valSize) rfl ?_
    exact ⟨rfl, below_three HW3.out (Nat.le_refl _) _ _ _⟩
set_option maxHeartbeats 8000000 in
set_option maxRecDepth 100000 in
theorem act_ci (h : Nat) (x : Hp.V) (av : Value) (w : World) (hv : VSl w av [x]) :
    Calls Try.prog 83 #[.pointer (some ⟨h, 0, none⟩), .string ⟨#[99, 104, 97, 114, 45, 62, 105, 110, 116, 101, 103, 101, 114]⟩, av] w fun e w' => e = .returned (.tuple #[(Hp.num x.int).val, .int .i64 0]) ∧ Below w.heap.size w w' := by
  obtain ⟨a, c, rfl⟩ := hv.len
  obtain ⟨b, off, rfl, hbl, hat⟩ := hv.at (by simp)
  obtain ⟨d0, d1, d2⟩ := hat 0 x rfl
  rw [Nat.zero_mul, Nat.add_zero] at d0 d1 d2
  clear hat hv
  have hb1 : b < w.heap.size + 1 := by omega
  have HZ : Hid (((w.alloc (.cells #[.int .i64 0, .int .i64 0, .string ⟨#[]⟩] 64)).alloc (.cells #[.int .i64 5, .int .i64 0, .string ⟨#[]⟩] 64)).heap[w.heap.size]? = some (.cells #[.int .i64 0, .int .i64 0, .string ⟨#[]⟩] 64 (0, 0))) := (heap_alloc_old _ _ (by simp)).trans (heap_alloc_new w _)
  have HW1 : Hid (Below w.heap.size w ((w.alloc (.cells #[.int .i64 0, .int .i64 0, .string ⟨#[]⟩] 64)).alloc (.cells #[.int .i64 5, .int .i64 0, .string ⟨#[]⟩] 64))) := (((Below.refl _ _).alloc (Nat.le_refl _) _).alloc (by simp) _)
  go_enter Try.func83, Try.ntmps83
  go_wp2_with fail
  with_reducible refine (zero_any _ _).mono ?_
  rintro e w3 ⟨rfl, hb3⟩
  have HW3 := Lib.hid (HW1.out.trans (hb3.mono HW1.out.size))
  have hz3 := (hb3.block w.heap.size (by simp; omega)).trans HZ.out
  have q0 := cell_of_row w3 _ 0 _ _ _ hz3
  have q1 := cell_of_row w3 _ 1 _ _ _ hz3
  have q2 := cell_of_row w3 _ 2 _ _ _ hz3
  simp only [List.getElem?_toArray, List.getElem?_cons_zero, List.getElem?_cons_succ] at q0 q1 q2
  have k0 := frozen_of_row w3 _ 0 _ _ hz3
  have k1 := frozen_of_row w3 _ 1 _ _ hz3
  have k2 := frozen_of_row w3 _ 2 _ _ hz3
  have HZ3 := Lib.hid hz3
  clear hb3 hz3
  go_wp2_with fail
  refine bodyPost_ret (res2 rfl _ _ w.heap.size 64 _ (0, 0) rfl (three_set _ _ _ _ _ _ _ _ _ HZ3.out) valD valSize) rfl ?_
  exact ⟨rfl, below_three HW3.out (Nat.le_refl _) _ _ _⟩
set_option maxHeartbeats 8000000 in
set_option maxRecDepth 100000 in
theorem act_void (hv av : Value) (w : World) :
    Calls Try.prog 83 #[hv, .string ⟨#[118, 111, 105, 100]⟩, av] w fun e w' => e = .returned (.tuple #[Hp.void.val, .int .i64 0]) ∧ Below w.heap.size w w' := by
  go_enter Try.func83, Try.ntmps83
  go_wp2_with fail
  refine bodyPost_ret (res2 rfl _ _ w.heap.size 64 _ (0, 0) rfl ((heap_alloc_old _ _ (by simp)).trans (heap_alloc_new w _)) valD valSize) rfl ?_
  exact ⟨rfl, (((Below.refl _ _).alloc (Nat.le_refl _) _).alloc (by simp) _)⟩
set_option maxHeartbeats 8000000 in
set_option maxRecDepth 100000 in
theorem act_unset (hv av : Value) (w : World) :
    Calls Try.prog 83 #[hv, .string ⟨#[37, 117, 110, 115, 101, 116]⟩, av] w fun e w' => e = .returned (.tuple #[Hp.V.val ⟨7, 0, ⟨#[]⟩⟩, .int .i64 0]) ∧ Below w.heap.size w w' := by
  go_enter Try.func83, Try.ntmps83
  go_wp2_with fail
  refine bodyPost_ret (res2 rfl _ _ w.heap.size 64 _ (0, 0) rfl ((heap_alloc_old _ _ (by simp)).trans (heap_alloc_new w _)) valD valSize) rfl ?_
  exact ⟨rfl, (((Below.refl _ _).alloc (Nat.le_refl _) _).alloc (by simp) _)⟩
set_option maxHeartbeats 8000000 in
set_option maxRecDepth 100000 in
theorem act_len (h : Nat) (p : ByteArray) (hp : p = ⟨#[118, 101, 99, 116, 111, 114, 45, 108, 101, 110, 103, 116, 104]⟩ ∨ p = ⟨#[115, 116, 114, 105, 110, 103, 45, 108, 101, 110, 103, 116, 104]⟩) {k : Nat} {O : Nat → Prop} {vt : Value} {M : List (Hp.Th × Value)} {m : Hp.Th × Value} (av : Value) (w : World) (hv : VSl w av [⟨8, k, ⟨#[]⟩⟩]) (HM : HpAt w 83 h O vt M) (hmm : M[k]? = some m) (hl : m.1.parts.length ≤ 1000000) :
    Calls Try.prog 83 #[.pointer (some ⟨h, 0, none⟩), .string p, av] w fun e w' => e = .returned (.tuple #[(Hp.num m.1.parts.length).val, .int .i64 0]) ∧ Below w.heap.size w w' := by
  obtain ⟨a, c, rfl⟩ := hv.len
  obtain ⟨b, off, rfl, hbl, hat⟩ := hv.at (by simp)
  obtain ⟨d0, d1, d2⟩ := hat 0 _ rfl
  rw [Nat.zero_mul, Nat.add_zero] at d0 d1 d2
  dsimp only at d0 d1 d2
  clear hat hv
  have hb1 : b < w.heap.size + 1 := by omega
  obtain ⟨gg, cc, rfl, hgg, hgh, e0, e1⟩ := HM.at hmm
  obtain ⟨pa, pc, hs⟩ := HM.partLen (List.mem_of_getElem? hmm)
  rw [hs] at e1
  have h0 := HM.c0
  have hh := HM.lth
  have hkl : k < M.length := (List.getElem?_eq_some_iff.1 hmm).1
  have HZ : Hid (((w.alloc (.cells #[.int .i64 0, .int .i64 0, .string ⟨#[]⟩] 64)).alloc (.cells #[.int .i64 5, .int .i64 0, .string ⟨#[]⟩] 64)).heap[w.heap.size]? = some (.cells #[.int .i64 0, .int .i64 0, .string ⟨#[]⟩] 64 (0, 0))) := (heap_alloc_old _ _ (by simp)).trans (heap_alloc_new w _)
  have hw1 : Below w.heap.size w ((w.alloc (.cells #[.int .i64 0, .int .i64 0, .string ⟨#[]⟩] 64)).alloc (.cells #[.int .i64 5, .int .i64 0, .string ⟨#[]⟩] 64)) := (((Below.refl _ _).alloc (Nat.le_refl _) _).alloc (by simp) _)
  have HW1 := Lib.hid hw1
  have HTH := Lib.hid (thing_some h M.length cc gg k hkl _ ((hw1.cell (p := ⟨h, 0, none⟩) hh).trans h0))
  obtain ⟨pl, hpl⟩ : ∃ pl, m.1.parts.length = pl := ⟨_, rfl⟩
  rw [hpl] at e1 hl ⊢
  clear hpl hs hmm HM hw1 h0
  rcases hp with rfl | rfl
  all_goals
    go_enter Try.func83, Try.ntmps83
    go_wp2_with fail
    with_reducible refine HTH.out.mono ?_
    rintro e w2 ⟨rfl, hb2⟩
    have HW2 := Lib.hid (HW1.out.trans (hb2.mono HW1.out.size))
    have e2 : w2.cell? ⟨gg, k * 2 + 1, none⟩ = some (.slice pa pl pc) := (HW2.out.cell (p := ⟨gg, k * 2 + 1, none⟩) hgg).trans e1
    have hz2 := (hb2.block w.heap.size (by simp; omega)).trans HZ.out
    have HZ2 := Lib.hid hz2
    clear hb2 hz2
    go_wp2_with fail
    with_reducible refine (zero_any _ _).mono ?_
    rintro e w3 ⟨rfl, hb3⟩
    have HW3 := Lib.hid (HW2.out.trans (hb3.mono HW2.out.size))
    have hz3 := (hb3.block w.heap.size (Array.getElem?_eq_some_iff.1 HZ2.out).1).trans HZ2.out
    have q0 := cell_of_row w3 _ 0 _ _ _ hz3
    have q1 := cell_of_row w3 _ 1 _ _ _ hz3
    have q2 := cell_of_row w3 _ 2 _ _ _ hz3
    simp only [List.getElem?_toArray, List.getElem?_cons_zero, List.getElem?_cons_succ] at q0 q1 q2
    have k0 := frozen_of_row w3 _ 0 _ _ hz3
    have k1 := frozen_of_row w3 _ 1 _ _ hz3
    have k2 := frozen_of_row w3 _ 2 _ _ hz3
    have HZ3 := Lib.hid hz3
    clear hb3 hz3
    go_wp2_with fail
    refine bodyPost_ret (res2 rfl _ _ w.heap.size 64 _ (0, 0) rfl (three_set _ _ _ _ _ _ _ _ _ HZ3.out) valD valSize) rfl ?_
    exact ⟨rfl, below_three HW3.out (Nat.le_refl _) _ _ _⟩
set_option maxHeartbeats 8000000 in
set_option maxRecDepth 100000 in
theorem act_ic (h : Nat) (x : Hp.V) (av : Value) (w : World) (hv : VSl w av [x]) (hx : isN x.int = true) :
    Calls Try.prog 83 #[.pointer (some ⟨h, 0, none⟩), .string ⟨#[105, 110, 116, 101, 103, 101, 114, 45, 62, 99, 104, 97, 114]⟩, av] w fun e w' => e = .returned (.tuple #[(if x.int < 0 ∨ 255 < x.int then Hp.none else ⟨2, x.int, ⟨#[]⟩⟩ : Hp.V).val, .int .i64 (if x.int < 0 ∨ 255 < x.int then 83 else 0)]) ∧ Below w.heap.size w w' := by
  obtain ⟨a, c, rfl⟩ := hv.len
  obtain ⟨b, off, rfl, hbl, hat⟩ := hv.at (by simp)
  obtain ⟨d0, d1, d2⟩ := hat 0 x rfl
  rw [Nat.zero_mul, Nat.add_zero] at d0 d1 d2
  clear hat hv
  have hn := isN_iff.1 hx
  have hb1 : b < w.heap.size + 1 := by omega
  have ha := i64_and255 x.int
  have HZ : Hid (((w.alloc (.cells #[.int .i64 0, .int .i64 0, .string ⟨#[]⟩] 64)).alloc (.cells #[.int .i64 5, .int .i64 0, .string ⟨#[]⟩] 64)).heap[w.heap.size]? = some (.cells #[.int .i64 0, .int .i64 0, .string ⟨#[]⟩] 64 (0, 0))) := (heap_alloc_old _ _ (by simp)).trans (heap_alloc_new w _)
  have HW1 : Hid (Below w.heap.size w ((w.alloc (.cells #[.int .i64 0, .int .i64 0, .string ⟨#[]⟩] 64)).alloc (.cells #[.int .i64 5, .int .i64 0, .string ⟨#[]⟩] 64))) := (((Below.refl _ _).alloc (Nat.le_refl _) _).alloc (by simp) _)
  by_cases hr : x.int < 0 ∨ 255 < x.int
  · rw [if_pos hr, if_pos hr]
    have q : (x.int % 256 != x.int) = true := by rw [bne_iff_ne]; omega
    clear hr hx
    go_enter Try.func83, Try.ntmps83
    go_wp2_with fail
    go_quiet (fail)
    go_wp2_with fail
    refine bodyPost_ret (res2 rfl _ _ w.heap.size 64 _ (0, 0) rfl (three_set _ _ _ _ _ _ (.int .i64 0) (.int .i64 0) (.string ⟨#[]⟩) HZ.out) valD valSize) rfl ?_
    exact ⟨rfl, below_three (below_drewN HW1.out _) (Nat.le_refl _) _ _ _⟩
  · rw [if_neg hr, if_neg hr]
    have q : (x.int % 256 != x.int) = false := by
      have : x.int % 256 = x.int := by omega
      rw [this]
      simp
    clear hr hx
    go_enter Try.func83, Try.ntmps83
    go_wp2_with fail
    go_quiet (fail)
    go_wp2_with fail
    refine bodyPost_ret (res2 rfl _ _ w.heap.size 64 _ (0, 0) rfl (three_set _ _ _ _ _ _ (.int .i64 2) (.int .i64 x.int) (.string ⟨#[]⟩) HZ.out) valD valSize) rfl ?_
    exact ⟨rfl, below_three (below_drewN HW1.out _) (Nat.le_refl _) _ _ _⟩
end Go.Proofs.Ytalfnaielhbocaa
