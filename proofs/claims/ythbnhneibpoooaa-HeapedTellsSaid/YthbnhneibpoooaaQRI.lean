/- The heap's Do where it asks for a kind. -/
import Derived.Test.YthbnhneibpoooaaQHpDoD
import Derived.Test.YthbnhneibpoooaaQMG
import Derived.Laws.Strings
import Derived.Test.YthbnhneibpoooaaQMB
set_option linter.unusedVariables false
set_option linter.unusedSimpArgs false
set_option linter.unnecessarySimpa false
namespace Go.Proofs.Ythbnhneibpoooaa
open Go.RowKit
set_option linter.unusedVariables false
set_option linter.unusedSimpArgs false
set_option maxHeartbeats 8000000 in
set_option maxRecDepth 100000 in
theorem do_ask0 (h : Nat) (p bs : ByteArray) (av : Value) (l : List Hp.V) (w : World) (hv : VSl w av l) (hl : l.length = bs.size) (hlm : l.length ≤ 1000) (G : Nat → Bool) (hW : Still 25 #[.string p] (.tuple #[.string bs, .bool true]))
    (hA : Makes w 26 #[.pointer (some ⟨h, 0, none⟩), av] (.bool true)) (hI : IsAt w h l bs G) (hG : ∀ k, k < l.length → G k = true) (v : Hp.V) (hv0 : l[0]? = some v) (kd : Int) (hkd : 0 ≤ kd)
    (hK : Still 28 #[.string p] (.tuple #[.int .i64 kd, .int .u8 0])) :
    Calls Try.prog 11 #[.pointer (some ⟨h, 0, none⟩), .string p, av] w fun e w' => e = .returned (.tuple #[(Hp.truth (decide (v.kind = kd))).val, .int .i64 0]) ∧ Below w.heap.size w w' := by
  obtain ⟨a, c, rfl⟩ := hv.len
  have HV := Lib.hid hv
  have HW := Lib.hid hW
  have HA := Lib.hid hA
  have HI := Lib.hid hI
  have HGG := Lib.hid hG
  have HLE := Lib.hid hl
  have HK := Lib.hid hK
  have HT := Lib.hid (fun (b : Bool) w => truth_any b w)
  have HV9 := Lib.hid hv
  have HL0 := Lib.hid hv0
  clear hW hA hv hI hG hK hv0
  unfold Still at HK
  unfold Still at HW
  unfold Makes at HA
  unfold IsAt at HI
  unfold Hp.V.val at *
  obtain ⟨vk, vi, vt⟩ := v
  dsimp only at *
  rw [hl] at HA ⊢
  go_enter Try.func11, Try.ntmps11
  go_wp2_with fail
  with_reducible refine (HW.out _).mono ?_
  rintro e w1 ⟨rfl, rfl⟩
  go_wp2_with fail
  with_reducible refine (HA.out _ ((Below.refl _ _).alloc (Nat.le_refl _) _)).mono ?_
  rintro e w2 ⟨rfl, hb⟩
  have HD := Lib.hid ((DoW.first w).next hb)
  clear hb
  go_wp2_with fail
  go_loopg [39] l.length (fun gk i wx => ∃ k : Nat, k ≤ l.length ∧ gk = l.length - k ∧ i = .int .i64 k ∧ Hid (∀ j, j < k → G j = true) ∧ Hid (DoW w wx))
  case atStart => exact ⟨0, Nat.zero_le _, rfl, rfl, fun j hj => by omega, HD.out⟩
  case round =>
    obtain ⟨k, hk, rfl, rfl, HALL, HX⟩ := hrel
    by_cases hlt : k < l.length
    · obtain ⟨x, hx⟩ : ∃ x, l[k]? = some x := ⟨_, List.getElem?_eq_getElem hlt⟩
      have hne : l ≠ [] := fun e => by rw [e] at hlt; simp at hlt
      have hv2 := HV.out.below HX.out.below (Nat.le_refl _)
      rw [hl] at hv2
      obtain ⟨b, off, rfl, hbl, hat⟩ := hv2.at hne
      obtain ⟨d0, d1, d2⟩ := hat k x hx
      have hks : k < bs.size := by omega
      have HIk := Lib.hid (fun w1 hb => HI.out k x hks hx w1 hb)
      obtain ⟨xk, xi, xt⟩ := x
      dsimp only at *
      have hg1 : (0 : Int) ≤ k := by omega
      have hg2 : (k : Int) < bs.size := by omega
      have hgw : IntKind.i64.wrap ((k : Int) + 1) = k + 1 := by rw [IntKind.wrap_i64]; omega
      clear hat hx hne hv2 HV
      have HS := Lib.hid (new3 wr xk xi xt)
      have hG := HGG.out k hlt
      rw [hG] at HIk
      have HGT := Lib.hid hG
      clear hG HI
      go_wp2_with fail
      go_region_held3 (fun w' => w'.cell? ⟨wr.heap.size, 0, none⟩ = some (.int .i64 xk) ∧ w'.cell? ⟨wr.heap.size, 1, none⟩ = some (.int .i64 xi) ∧ w'.cell? ⟨wr.heap.size, 2, none⟩ = some (.string xt))
        (first | exact HS.out | exact HS4.out)
        (first | (go_at_call 27; (with_reducible refine (HIk.out _ HX.out.at).mono ?_); rintro e w4 ⟨rfl, hb4⟩; have HX4 := Lib.hid (HX.out.call hb4); have HS4 : Hid (New3 wr.heap.size xk xi xt w4) := HS.out.below hb4 (drew_lt _ _); clear hb4))
      go_wp2_with fail
      go_roundg (l.length - (k + 1))
      case measure => omega
      case rel => exact ⟨k + 1, by omega, rfl, by go_num, fun j hj => (Nat.lt_or_eq_of_le (Nat.le_of_lt_succ hj)).elim (fun h => HALL.out j h) (fun h => h ▸ HGT.out), HX4.out⟩
    · obtain rfl : k = l.length := by omega
      go_wp2_with fail
      with_reducible refine (HK.out _).mono ?_
      rintro e w3 ⟨rfl, rfl⟩
      have hv2 := HV9.out.below HX.out.below (Nat.le_refl _)
      rw [hl] at hv2
      obtain ⟨b, off, rfl, hbl, hat⟩ := hv2.at (fun e => by have := HL0.out; rw [e] at this; simp at this)
      obtain ⟨d0, d1, d2⟩ := hat 0 ⟨vk, vi, vt⟩ HL0.out
      rw [Nat.zero_mul, Nat.add_zero] at d0 d1 d2
      dsimp only at d0 d1 d2
      have hpos : 0 < bs.size := by
        have := (List.getElem?_eq_some_iff.1 HL0.out).1
        omega
      have hpos2 : (0 : Int) < bs.size := by omega
      have q9 : decide (0 ≤ kd) = true := decide_eq_true hkd
      clear hat hv2 HV HV9 HI
      have HX2 := HX
      obtain ⟨bb, hbb⟩ : ∃ bb, decide (vk = kd) = bb := ⟨_, rfl⟩
      have HBB := Lib.hid hbb
      by_cases hvk : vk = kd
      · obtain rfl : bb = true := by rw [← hbb]; exact decide_eq_true hvk
        have q8 : (vk == kd) = true := beq_iff_eq.2 hvk
        clear hbb hvk
        go_wp2_with fail
        with_reducible refine (HT.out _ _).mono ?_
        rintro e w5 ⟨rfl, hb5⟩
        have HY := Lib.hid (HX2.out.next hb5)
        obtain ⟨q0, q1, q2, k0, k1, k2⟩ := HY.out.cells
        clear hb5
        go_wp2_with fail
        have hz2 := HY.out.blk
        refine bodyPost_ret (res2 rfl _ _ w.heap.size 27 _ (0, 0) rfl (three_set _ _ _ _ _ _ _ _ _ hz2) valD valSize) rfl ?_
        exact ⟨by rw [HBB.out]; rfl, below_three HY.out.below (Nat.le_refl _) _ _ _⟩
      · obtain rfl : bb = false := by rw [← hbb]; exact decide_eq_false hvk
        have q8 : (vk == kd) = false := beq_eq_false_iff_ne.2 hvk
        clear hbb hvk
        go_wp2_with fail
        with_reducible refine (HT.out _ _).mono ?_
        rintro e w5 ⟨rfl, hb5⟩
        have HY := Lib.hid (HX2.out.next hb5)
        obtain ⟨q0, q1, q2, k0, k1, k2⟩ := HY.out.cells
        clear hb5
        go_wp2_with fail
        have hz2 := HY.out.blk
        refine bodyPost_ret (res2 rfl _ _ w.heap.size 27 _ (0, 0) rfl (three_set _ _ _ _ _ _ _ _ _ hz2) valD valSize) rfl ?_
        exact ⟨by rw [HBB.out]; rfl, below_three HY.out.below (Nat.le_refl _) _ _ _⟩
set_option maxHeartbeats 8000000 in
set_option maxRecDepth 100000 in
theorem do_ask1 (h : Nat) (p bs : ByteArray) (av : Value) (l : List Hp.V) (w : World) (hv : VSl w av l) (hl : l.length = bs.size) (hlm : l.length ≤ 1000) (G : Nat → Bool) (hW : Still 25 #[.string p] (.tuple #[.string bs, .bool true]))
    (hA : Makes w 26 #[.pointer (some ⟨h, 0, none⟩), av] (.bool true)) (hI : IsAt w h l bs G) (hG : ∀ k, k < l.length → G k = true) (v : Hp.V) (hv0 : l[0]? = some v) (kd : Int) (hkd : 0 ≤ kd) (lt : Int) (hlt : lt = 112 ∨ lt = 118 ∨ lt = 115 ∨ lt = 114) (bb : Bool) (hIs : Makes w 27 #[.pointer (some ⟨h, 0, none⟩), v.val, .int .u8 lt] (.bool bb))
    (hK : Still 28 #[.string p] (.tuple #[.int .i64 kd, .int .u8 lt])) :
    Calls Try.prog 11 #[.pointer (some ⟨h, 0, none⟩), .string p, av] w fun e w' => e = .returned (.tuple #[(Hp.truth bb).val, .int .i64 0]) ∧ Below w.heap.size w w' := by
  have HIS := Lib.hid hIs
  unfold Makes at HIS
  clear hIs
  obtain ⟨a, c, rfl⟩ := hv.len
  have HV := Lib.hid hv
  have HW := Lib.hid hW
  have HA := Lib.hid hA
  have HI := Lib.hid hI
  have HGG := Lib.hid hG
  have HLE := Lib.hid hl
  have HK := Lib.hid hK
  have HT := Lib.hid (fun (b : Bool) w => truth_any b w)
  have HV9 := Lib.hid hv
  have HL0 := Lib.hid hv0
  clear hW hA hv hI hG hK hv0
  unfold Still at HK
  unfold Still at HW
  unfold Makes at HA
  unfold IsAt at HI
  unfold Hp.V.val at *
  obtain ⟨vk, vi, vt⟩ := v
  dsimp only at *
  rw [hl] at HA ⊢
  go_enter Try.func11, Try.ntmps11
  go_wp2_with fail
  with_reducible refine (HW.out _).mono ?_
  rintro e w1 ⟨rfl, rfl⟩
  go_wp2_with fail
  with_reducible refine (HA.out _ ((Below.refl _ _).alloc (Nat.le_refl _) _)).mono ?_
  rintro e w2 ⟨rfl, hb⟩
  have HD := Lib.hid ((DoW.first w).next hb)
  clear hb
  go_wp2_with fail
  go_loopg [39] l.length (fun gk i wx => ∃ k : Nat, k ≤ l.length ∧ gk = l.length - k ∧ i = .int .i64 k ∧ Hid (∀ j, j < k → G j = true) ∧ Hid (DoW w wx))
  case atStart => exact ⟨0, Nat.zero_le _, rfl, rfl, fun j hj => by omega, HD.out⟩
  case round =>
    obtain ⟨k, hk, rfl, rfl, HALL, HX⟩ := hrel
    by_cases hlt : k < l.length
    · obtain ⟨x, hx⟩ : ∃ x, l[k]? = some x := ⟨_, List.getElem?_eq_getElem hlt⟩
      have hne : l ≠ [] := fun e => by rw [e] at hlt; simp at hlt
      have hv2 := HV.out.below HX.out.below (Nat.le_refl _)
      rw [hl] at hv2
      obtain ⟨b, off, rfl, hbl, hat⟩ := hv2.at hne
      obtain ⟨d0, d1, d2⟩ := hat k x hx
      have hks : k < bs.size := by omega
      have HIk := Lib.hid (fun w1 hb => HI.out k x hks hx w1 hb)
      obtain ⟨xk, xi, xt⟩ := x
      dsimp only at *
      have hg1 : (0 : Int) ≤ k := by omega
      have hg2 : (k : Int) < bs.size := by omega
      have hgw : IntKind.i64.wrap ((k : Int) + 1) = k + 1 := by rw [IntKind.wrap_i64]; omega
      clear hat hx hne hv2 HV
      have HS := Lib.hid (new3 wr xk xi xt)
      have hG := HGG.out k hlt
      rw [hG] at HIk
      have HGT := Lib.hid hG
      clear hG HI
      go_wp2_with fail
      go_region_held3 (fun w' => w'.cell? ⟨wr.heap.size, 0, none⟩ = some (.int .i64 xk) ∧ w'.cell? ⟨wr.heap.size, 1, none⟩ = some (.int .i64 xi) ∧ w'.cell? ⟨wr.heap.size, 2, none⟩ = some (.string xt))
        (first | exact HS.out | exact HS4.out)
        (first | (go_at_call 27; (with_reducible refine (HIk.out _ HX.out.at).mono ?_); rintro e w4 ⟨rfl, hb4⟩; have HX4 := Lib.hid (HX.out.call hb4); have HS4 : Hid (New3 wr.heap.size xk xi xt w4) := HS.out.below hb4 (drew_lt _ _); clear hb4))
      go_wp2_with fail
      go_roundg (l.length - (k + 1))
      case measure => omega
      case rel => exact ⟨k + 1, by omega, rfl, by go_num, fun j hj => (Nat.lt_or_eq_of_le (Nat.le_of_lt_succ hj)).elim (fun h => HALL.out j h) (fun h => h ▸ HGT.out), HX4.out⟩
    · obtain rfl : k = l.length := by omega
      go_wp2_with fail
      with_reducible refine (HK.out _).mono ?_
      rintro e w3 ⟨rfl, rfl⟩
      have hv2 := HV9.out.below HX.out.below (Nat.le_refl _)
      rw [hl] at hv2
      obtain ⟨b, off, rfl, hbl, hat⟩ := hv2.at (fun e => by have := HL0.out; rw [e] at this; simp at this)
      obtain ⟨d0, d1, d2⟩ := hat 0 ⟨vk, vi, vt⟩ HL0.out
      rw [Nat.zero_mul, Nat.add_zero] at d0 d1 d2
      dsimp only at d0 d1 d2
      have hpos : 0 < bs.size := by
        have := (List.getElem?_eq_some_iff.1 HL0.out).1
        omega
      have hpos2 : (0 : Int) < bs.size := by omega
      have q9 : decide (0 ≤ kd) = true := decide_eq_true hkd
      clear hat hv2 HV HV9 HI
      have q7 : (lt == 0) = false := beq_eq_false_iff_ne.2 (by omega)
      have q6 : (lt != 0) = true := by rw [bne_iff_ne]; omega
      go_wp2_with fail
      with_reducible refine (HIS.out _ HX.out.below).mono ?_
      rintro e w4 ⟨rfl, hb4⟩
      have HX2 := Lib.hid (HX.out.next hb4)
      clear hb4
      go_wp2_with fail
      with_reducible refine (HT.out _ _).mono ?_
      rintro e w5 ⟨rfl, hb5⟩
      have HY := Lib.hid (HX2.out.next hb5)
      obtain ⟨q0, q1, q2, k0, k1, k2⟩ := HY.out.cells
      clear hb5
      go_wp2_with fail
      have hz2 := HY.out.blk
      refine bodyPost_ret (res2 rfl _ _ w.heap.size 27 _ (0, 0) rfl (three_set _ _ _ _ _ _ _ _ _ hz2) valD valSize) rfl ?_
      exact ⟨rfl, below_three HY.out.below (Nat.le_refl _) _ _ _⟩
end Go.Proofs.Ythbnhneibpoooaa
/- The heap's act: put. -/
namespace Go.Proofs.Ythbnhneibpoooaa
open Go.RowKit
set_option linter.unusedVariables false
set_option linter.unusedSimpArgs false
set_option maxHeartbeats 8000000 in
set_option maxRecDepth 100000 in
theorem act_put0 (h : Nat) (O : Nat → Prop) (T : List Hp.Th) (r : Hp.V) (er : Int) (p : ByteArray) (hp : p = ⟨#[115, 101, 116, 45, 99, 97, 114, 33]⟩ ∨ p = ⟨#[37, 115, 101, 116, 45, 98, 111, 120, 33]⟩) (x y : Hp.V) (av : Value) (w : World) (hv : VSl w av [x, y]) (hO : ∀ b, O b → b < w.heap.size) (hf : Hp.free O av)
    (HG : After w 2 fun w1 => Calls Try.prog 59 #[.pointer (some ⟨h, 0, none⟩), x.val, .agg #[.int .i64 1, .int .i64 0, .string ⟨#[]⟩], y.val] w1 (DoPost 65 h O r er T w1)) :
    Calls Try.prog 31 #[.pointer (some ⟨h, 0, none⟩), .string p, av] w (DoPost 65 h O r er T w) := by
  obtain ⟨a, c, rfl⟩ := hv.len
  obtain ⟨b, off, rfl, hbl, hat⟩ := hv.at (by simp)
  obtain ⟨d0, d1, d2⟩ := hat 0 x rfl
  obtain ⟨f0, f1, f2⟩ := hat 1 y rfl
  rw [Nat.zero_mul, Nat.add_zero] at d0 d1 d2
  rw [Nat.one_mul] at f0 f1 f2
  have HO := Lib.hid hO
  have HC := Lib.hid HG
  have HF := Lib.hid hf
  clear hat hv hO HG hf
  obtain ⟨xk, xi, xt⟩ := x
  obtain ⟨yk, yi, yt⟩ := y
  obtain ⟨rk, ri, rt⟩ := r
  unfold DoPost at *
  unfold After Hp.V.val at *
  dsimp only at *
  rcases hp with rfl | rfl
  all_goals
    go_enter Try.func31, Try.ntmps31
    go_wp2_with fail
    have HW1 : Hid (Below w.heap.size w ((w.alloc (.cells #[.int .i64 0, .int .i64 0, .string ⟨#[]⟩] 27)).alloc (.cells #[.int .i64 5, .int .i64 0, .string ⟨#[]⟩] 27)).drew) := (((Below.refl _ _).alloc (Nat.le_refl _) _).alloc (by simp) _).drew
    have HZ : Hid (((w.alloc (.cells #[.int .i64 0, .int .i64 0, .string ⟨#[]⟩] 27)).alloc (.cells #[.int .i64 5, .int .i64 0, .string ⟨#[]⟩] 27)).drew.heap[w.heap.size]? = some (.cells #[.int .i64 0, .int .i64 0, .string ⟨#[]⟩] 27 (0, 0))) := (heap_alloc_old _ _ (by simp)).trans (heap_alloc_new w _)
    have HS : Hid (ArgC b off [⟨xk, xi, xt⟩, ⟨yk, yi, yt⟩] w) := ⟨d0, d1, d2, f0, f1, f2⟩
    go_region_held3 (fun w' => w'.cell? ⟨b, off, none⟩ = some (.int .i64 xk) ∧ w'.cell? ⟨b, off + 1, none⟩ = some (.int .i64 xi) ∧ w'.cell? ⟨b, off + 2, none⟩ = some (.string xt) ∧ w'.cell? ⟨b, off + 3, none⟩ = some (.int .i64 yk) ∧ w'.cell? ⟨b, off + 3 + 1, none⟩ = some (.int .i64 yi) ∧ w'.cell? ⟨b, off + 3 + 2, none⟩ = some (.string yt))
      (first | exact HS.out.below HW1.out hbl | exact HSZ.out | exact HS2.out | exact HS2.out.stored3 (by omega) _ _ _)
      (first
        | (go_at_call 57; (with_reducible refine (zero_any _ _).mono ?_); rintro e wz ⟨rfl, hbz⟩; have HWZ : Hid (Below w.heap.size w wz) := HW1.out.trans (hbz.mono HW1.out.size); have HSZ : Hid (ArgC b off [⟨xk, xi, xt⟩, ⟨yk, yi, yt⟩] wz) := HS.out.below HWZ.out hbl; have HZZ : Hid (wz.heap[w.heap.size]? = some (.cells #[.int .i64 0, .int .i64 0, .string ⟨#[]⟩] 27 (0, 0))) := (hbz.block _ (two_size1 _ _ _)).trans HZ.out; have HLZ : Hid (w.heap.size + 2 ≤ wz.heap.size) := Nat.le_trans (two_size _ _ _) hbz.size; clear hbz)
        | (go_at_call 59; (with_reducible refine (HC.out _ HWZ.out HLZ.out).mono ?_); rintro e w3 ⟨O', rfl, hst, hgr⟩; have HT := Lib.hid (do_tail HWZ.out HO.out (Nat.le_refl _) (Nat.lt_of_lt_of_le (by omega) HLZ.out) HZZ.out hst hgr); have HS2 : Hid (ArgC b off [⟨xk, xi, xt⟩, ⟨yk, yi, yt⟩] w3) := (HS.out.below HWZ.out hbl).grow hgr (HF.out _ rfl) (Nat.lt_trans hbl (Nat.lt_of_lt_of_le (by omega) HLZ.out)); have hz2 := HT.out.1; have q0 := cell_of_row w3 _ 0 _ _ _ hz2; have q1 := cell_of_row w3 _ 1 _ _ _ hz2; have q2 := cell_of_row w3 _ 2 _ _ _ hz2; simp only [List.getElem?_toArray, List.getElem?_cons_zero, List.getElem?_cons_succ] at q0 q1 q2; have k0 := frozen_of_row w3 _ 0 _ _ hz2; have k1 := frozen_of_row w3 _ 1 _ _ hz2; have k2 := frozen_of_row w3 _ 2 _ _ hz2; clear hst hgr hz2))
    go_wp2_with fail
    refine bodyPost_ret (res2 rfl _ _ w.heap.size 27 _ (0, 0) rfl (three_set _ _ _ _ _ _ _ _ _ HT.out.1) valD valSize) rfl ?_
    exact ⟨O', by simp, HT.out.2 _ _ _⟩
set_option maxHeartbeats 8000000 in
set_option maxRecDepth 100000 in
theorem act_put1 (h : Nat) (O : Nat → Prop) (T : List Hp.Th) (r : Hp.V) (er : Int) (p : ByteArray) (hp : p = ⟨#[115, 101, 116, 45, 99, 100, 114, 33]⟩) (x y : Hp.V) (av : Value) (w : World) (hv : VSl w av [x, y]) (hO : ∀ b, O b → b < w.heap.size) (hf : Hp.free O av)
    (HG : After w 2 fun w1 => Calls Try.prog 59 #[.pointer (some ⟨h, 0, none⟩), x.val, .agg #[.int .i64 1, .int .i64 1, .string ⟨#[]⟩], y.val] w1 (DoPost 65 h O r er T w1)) :
    Calls Try.prog 31 #[.pointer (some ⟨h, 0, none⟩), .string p, av] w (DoPost 65 h O r er T w) := by
  obtain ⟨a, c, rfl⟩ := hv.len
  obtain ⟨b, off, rfl, hbl, hat⟩ := hv.at (by simp)
  obtain ⟨d0, d1, d2⟩ := hat 0 x rfl
  obtain ⟨f0, f1, f2⟩ := hat 1 y rfl
  rw [Nat.zero_mul, Nat.add_zero] at d0 d1 d2
  rw [Nat.one_mul] at f0 f1 f2
  have HO := Lib.hid hO
  have HC := Lib.hid HG
  have HF := Lib.hid hf
  clear hat hv hO HG hf
  obtain ⟨xk, xi, xt⟩ := x
  obtain ⟨yk, yi, yt⟩ := y
  obtain ⟨rk, ri, rt⟩ := r
  unfold DoPost at *
  unfold After Hp.V.val at *
  dsimp only at *
  rcases hp with rfl
  all_goals
    go_enter Try.func31, Try.ntmps31
    go_wp2_with fail
    have HW1 : Hid (Below w.heap.size w ((w.alloc (.cells #[.int .i64 0, .int .i64 0, .string ⟨#[]⟩] 27)).alloc (.cells #[.int .i64 5, .int .i64 0, .string ⟨#[]⟩] 27)).drew) := (((Below.refl _ _).alloc (Nat.le_refl _) _).alloc (by simp) _).drew
    have HZ : Hid (((w.alloc (.cells #[.int .i64 0, .int .i64 0, .string ⟨#[]⟩] 27)).alloc (.cells #[.int .i64 5, .int .i64 0, .string ⟨#[]⟩] 27)).drew.heap[w.heap.size]? = some (.cells #[.int .i64 0, .int .i64 0, .string ⟨#[]⟩] 27 (0, 0))) := (heap_alloc_old _ _ (by simp)).trans (heap_alloc_new w _)
    have HS : Hid (ArgC b off [⟨xk, xi, xt⟩, ⟨yk, yi, yt⟩] w) := ⟨d0, d1, d2, f0, f1, f2⟩
    go_region_held3 (fun w' => w'.cell? ⟨b, off, none⟩ = some (.int .i64 xk) ∧ w'.cell? ⟨b, off + 1, none⟩ = some (.int .i64 xi) ∧ w'.cell? ⟨b, off + 2, none⟩ = some (.string xt) ∧ w'.cell? ⟨b, off + 3, none⟩ = some (.int .i64 yk) ∧ w'.cell? ⟨b, off + 3 + 1, none⟩ = some (.int .i64 yi) ∧ w'.cell? ⟨b, off + 3 + 2, none⟩ = some (.string yt))
      (first | exact HS.out.below HW1.out hbl | exact HSZ.out | exact HS2.out | exact HS2.out.stored3 (by omega) _ _ _)
      (first
        | (go_at_call 57; (with_reducible refine (zero_any _ _).mono ?_); rintro e wz ⟨rfl, hbz⟩; have HWZ : Hid (Below w.heap.size w wz) := HW1.out.trans (hbz.mono HW1.out.size); have HSZ : Hid (ArgC b off [⟨xk, xi, xt⟩, ⟨yk, yi, yt⟩] wz) := HS.out.below HWZ.out hbl; have HZZ : Hid (wz.heap[w.heap.size]? = some (.cells #[.int .i64 0, .int .i64 0, .string ⟨#[]⟩] 27 (0, 0))) := (hbz.block _ (two_size1 _ _ _)).trans HZ.out; have HLZ : Hid (w.heap.size + 2 ≤ wz.heap.size) := Nat.le_trans (two_size _ _ _) hbz.size; clear hbz)
        | (go_at_call 59; (with_reducible refine (HC.out _ HWZ.out HLZ.out).mono ?_); rintro e w3 ⟨O', rfl, hst, hgr⟩; have HT := Lib.hid (do_tail HWZ.out HO.out (Nat.le_refl _) (Nat.lt_of_lt_of_le (by omega) HLZ.out) HZZ.out hst hgr); have HS2 : Hid (ArgC b off [⟨xk, xi, xt⟩, ⟨yk, yi, yt⟩] w3) := (HS.out.below HWZ.out hbl).grow hgr (HF.out _ rfl) (Nat.lt_trans hbl (Nat.lt_of_lt_of_le (by omega) HLZ.out)); have hz2 := HT.out.1; have q0 := cell_of_row w3 _ 0 _ _ _ hz2; have q1 := cell_of_row w3 _ 1 _ _ _ hz2; have q2 := cell_of_row w3 _ 2 _ _ _ hz2; simp only [List.getElem?_toArray, List.getElem?_cons_zero, List.getElem?_cons_succ] at q0 q1 q2; have k0 := frozen_of_row w3 _ 0 _ _ hz2; have k1 := frozen_of_row w3 _ 1 _ _ hz2; have k2 := frozen_of_row w3 _ 2 _ _ hz2; clear hst hgr hz2))
    go_wp2_with fail
    refine bodyPost_ret (res2 rfl _ _ w.heap.size 27 _ (0, 0) rfl (three_set _ _ _ _ _ _ _ _ _ HT.out.1) valD valSize) rfl ?_
    exact ⟨O', by simp, HT.out.2 _ _ _⟩
end Go.Proofs.Ythbnhneibpoooaa
/- The heap's act: =, eq?. -/
namespace Go.Proofs.Ythbnhneibpoooaa
open Go.RowKit
set_option linter.unusedVariables false
set_option linter.unusedSimpArgs false
set_option maxHeartbeats 16000000 in
set_option maxRecDepth 100000 in
theorem act_eq (h : Nat) (p : ByteArray) (hp : p = ⟨#[61]⟩ ∨ p = ⟨#[101, 113, 63]⟩) (x y : Hp.V) (av : Value) (w : World) (hv : VSl w av [x, y]) :
    Calls Try.prog 31 #[.pointer (some ⟨h, 0, none⟩), .string p, av] w fun e w' => e = .returned (.tuple #[(Hp.truth (decide (x = y))).val, .int .i64 0]) ∧ Below w.heap.size w w' := by
  obtain ⟨a, c, rfl⟩ := hv.len
  obtain ⟨b, off, rfl, hbl, hat⟩ := hv.at (by simp)
  obtain ⟨d0, d1, d2⟩ := hat 0 x rfl
  obtain ⟨f0, f1, f2⟩ := hat 1 y rfl
  rw [Nat.zero_mul, Nat.add_zero] at d0 d1 d2
  rw [Nat.one_mul] at f0 f1 f2
  clear hat hv
  have HW1 : Hid (Below w.heap.size w ((w.alloc (.cells #[.int .i64 0, .int .i64 0, .string ⟨#[]⟩] 27)).alloc (.cells #[.int .i64 5, .int .i64 0, .string ⟨#[]⟩] 27)).drew) := (((Below.refl _ _).alloc (Nat.le_refl _) _).alloc (by simp) _).drew
  have HZ : Hid (((w.alloc (.cells #[.int .i64 0, .int .i64 0, .string ⟨#[]⟩] 27)).alloc (.cells #[.int .i64 5, .int .i64 0, .string ⟨#[]⟩] 27)).drew.heap[w.heap.size]? = some (.cells #[.int .i64 0, .int .i64 0, .string ⟨#[]⟩] 27 (0, 0))) := (heap_alloc_old _ _ (by simp)).trans (heap_alloc_new w _)
  obtain ⟨xk, xi, xt⟩ := x
  obtain ⟨yk, yi, yt⟩ := y
  dsimp only at *
  have HS : Hid (ArgC b off [⟨xk, xi, xt⟩, ⟨yk, yi, yt⟩] w) := ⟨d0, d1, d2, f0, f1, f2⟩
  have hcase : (xk = yk ∧ xi = yi ∧ xt = yt) ∨ (xk == yk) = false ∨ (xk = yk ∧ (xi == yi) = false) ∨ (xk = yk ∧ xi = yi ∧ (xt.toList == yt.toList) = false) := by
    by_cases h1 : xk = yk
    · by_cases h2 : xi = yi
      · by_cases h3 : xt = yt
        · exact .inl ⟨h1, h2, h3⟩
        · refine .inr (.inr (.inr ⟨h1, h2, ?_⟩))
          rw [beq_eq_false_iff_ne]
          intro e
          rw [ByteArray.toList_eq, ByteArray.toList_eq] at e
          exact h3 (by cases xt; cases yt; simp at e; rw [e])
      · exact .inr (.inr (.inl ⟨h1, beq_eq_false_iff_ne.2 h2⟩))
    · exact .inr (.inl (beq_eq_false_iff_ne.2 h1))
  have HQ : Hid (∀ (b : Bool), (decide ((⟨xk, xi, xt⟩ : Hp.V) = ⟨yk, yi, yt⟩) = b) → True) := fun _ _ => trivial
  generalize hdec : decide ((⟨xk, xi, xt⟩ : Hp.V) = ⟨yk, yi, yt⟩) = dd
  have HDEC : Hid ((xk = yk ∧ xi = yi ∧ xt = yt) ↔ dd = true) := by
    show _ ↔ _
    rw [← hdec, decide_eq_true_eq]
    simp
  clear hdec HQ
  rcases hcase with ⟨rfl, rfl, rfl⟩ | v1 | ⟨rfl, v1⟩ | ⟨rfl, rfl, v1⟩
  · obtain rfl : dd = true := HDEC.out.1 ⟨rfl, rfl, rfl⟩
    have HTR : Hid (∀ w1, Calls Try.prog 29 #[.bool true] w1 fun e w' => e = .returned (.agg #[.int .i64 0, .int .i64 1, .string ⟨#[]⟩]) ∧ Below w1.heap.size w1 w') := fun w1 => truth_any true w1
    rcases hp with rfl | rfl
    all_goals
      go_enter Try.func31, Try.ntmps31
      go_wp2_with fail
      go_region_held3 (fun w' => w'.cell? ⟨b, off, none⟩ = some (.int .i64 xk) ∧ w'.cell? ⟨b, off + 1, none⟩ = some (.int .i64 xi) ∧ w'.cell? ⟨b, off + 2, none⟩ = some (.string xt) ∧ w'.cell? ⟨b, off + 3, none⟩ = some (.int .i64 xk) ∧ w'.cell? ⟨b, off + 3 + 1, none⟩ = some (.int .i64 xi) ∧ w'.cell? ⟨b, off + 3 + 2, none⟩ = some (.string xt))
        (first | exact HS.out.below HW1.out hbl | exact HS2.out | exact HS2.out.stored3 (by omega) _ _ _ | fail)
        (first
          | (go_at_call 29; (with_reducible refine (HTR.out _).mono ?_); rintro e w3 ⟨rfl, hb3⟩; have HW3 := Lib.hid (HW1.out.trans (hb3.mono HW1.out.size)); have HS2 := Lib.hid (HS.out.below HW3.out hbl); have hz3 := (hb3.block w.heap.size (by show _ < (World.alloc _ _).heap.size; simp; omega)).trans HZ.out; have q0 := cell_of_row w3 _ 0 _ _ _ hz3; have q1 := cell_of_row w3 _ 1 _ _ _ hz3; have q2 := cell_of_row w3 _ 2 _ _ _ hz3; simp only [List.getElem?_toArray, List.getElem?_cons_zero, List.getElem?_cons_succ] at q0 q1 q2; have k0 := frozen_of_row w3 _ 0 _ _ hz3; have k1 := frozen_of_row w3 _ 1 _ _ hz3; have k2 := frozen_of_row w3 _ 2 _ _ hz3; have HZ3 := Lib.hid hz3; clear hb3 hz3)
          | fail)
      go_wp2_with fail
      refine bodyPost_ret (res2 rfl _ _ w.heap.size 27 _ (0, 0) rfl (three_set _ _ _ _ _ _ _ _ _ HZ3.out) valD valSize) rfl ?_
      exact ⟨by rfl, ((HW3.out.setCell (p := ⟨w.heap.size, 0, none⟩) (Nat.le_refl _) _).setCell (p := ⟨w.heap.size, 1, none⟩) (Nat.le_refl _) _).setCell (p := ⟨w.heap.size, 2, none⟩) (Nat.le_refl _) _⟩
  · have HF : Hid (dd = false) := by
      show dd = false
      rw [← Bool.not_eq_true, ← HDEC.out]
      rintro ⟨h1, _, _⟩
      subst h1
      simp at v1
    obtain rfl := HF.out
    have HTR : Hid (∀ w1, Calls Try.prog 29 #[.bool false] w1 fun e w' => e = .returned (.agg #[.int .i64 0, .int .i64 0, .string ⟨#[]⟩]) ∧ Below w1.heap.size w1 w') := fun w1 => truth_any false w1
    rcases hp with rfl | rfl
    all_goals
      go_enter Try.func31, Try.ntmps31
      go_wp2_with fail
      go_region_held3 (fun w' => w'.cell? ⟨b, off, none⟩ = some (.int .i64 xk) ∧ w'.cell? ⟨b, off + 1, none⟩ = some (.int .i64 xi) ∧ w'.cell? ⟨b, off + 2, none⟩ = some (.string xt) ∧ w'.cell? ⟨b, off + 3, none⟩ = some (.int .i64 yk) ∧ w'.cell? ⟨b, off + 3 + 1, none⟩ = some (.int .i64 yi) ∧ w'.cell? ⟨b, off + 3 + 2, none⟩ = some (.string yt))
        (first | exact HS.out.below HW1.out hbl | exact HS2.out | exact HS2.out.stored3 (by omega) _ _ _ | fail)
        (first
          | (go_at_call 29; (with_reducible refine (HTR.out _).mono ?_); rintro e w3 ⟨rfl, hb3⟩; have HW3 := Lib.hid (HW1.out.trans (hb3.mono HW1.out.size)); have HS2 := Lib.hid (HS.out.below HW3.out hbl); have hz3 := (hb3.block w.heap.size (by show _ < (World.alloc _ _).heap.size; simp; omega)).trans HZ.out; have q0 := cell_of_row w3 _ 0 _ _ _ hz3; have q1 := cell_of_row w3 _ 1 _ _ _ hz3; have q2 := cell_of_row w3 _ 2 _ _ _ hz3; simp only [List.getElem?_toArray, List.getElem?_cons_zero, List.getElem?_cons_succ] at q0 q1 q2; have k0 := frozen_of_row w3 _ 0 _ _ hz3; have k1 := frozen_of_row w3 _ 1 _ _ hz3; have k2 := frozen_of_row w3 _ 2 _ _ hz3; have HZ3 := Lib.hid hz3; clear hb3 hz3)
          | fail)
      go_wp2_with fail
      refine bodyPost_ret (res2 rfl _ _ w.heap.size 27 _ (0, 0) rfl (three_set _ _ _ _ _ _ _ _ _ HZ3.out) valD valSize) rfl ?_
      exact ⟨by rfl, ((HW3.out.setCell (p := ⟨w.heap.size, 0, none⟩) (Nat.le_refl _) _).setCell (p := ⟨w.heap.size, 1, none⟩) (Nat.le_refl _) _).setCell (p := ⟨w.heap.size, 2, none⟩) (Nat.le_refl _) _⟩
  · have HF : Hid (dd = false) := by
      show dd = false
      rw [← Bool.not_eq_true, ← HDEC.out]
      rintro ⟨_, h1, _⟩
      subst h1
      simp at v1
    obtain rfl := HF.out
    have HTR : Hid (∀ w1, Calls Try.prog 29 #[.bool false] w1 fun e w' => e = .returned (.agg #[.int .i64 0, .int .i64 0, .string ⟨#[]⟩]) ∧ Below w1.heap.size w1 w') := fun w1 => truth_any false w1
    rcases hp with rfl | rfl
    all_goals
      go_enter Try.func31, Try.ntmps31
      go_wp2_with fail
      go_region_held3 (fun w' => w'.cell? ⟨b, off, none⟩ = some (.int .i64 xk) ∧ w'.cell? ⟨b, off + 1, none⟩ = some (.int .i64 xi) ∧ w'.cell? ⟨b, off + 2, none⟩ = some (.string xt) ∧ w'.cell? ⟨b, off + 3, none⟩ = some (.int .i64 xk) ∧ w'.cell? ⟨b, off + 3 + 1, none⟩ = some (.int .i64 yi) ∧ w'.cell? ⟨b, off + 3 + 2, none⟩ = some (.string yt))
        (first | exact HS.out.below HW1.out hbl | exact HS2.out | exact HS2.out.stored3 (by omega) _ _ _ | fail)
        (first
          | (go_at_call 29; (with_reducible refine (HTR.out _).mono ?_); rintro e w3 ⟨rfl, hb3⟩; have HW3 := Lib.hid (HW1.out.trans (hb3.mono HW1.out.size)); have HS2 := Lib.hid (HS.out.below HW3.out hbl); have hz3 := (hb3.block w.heap.size (by show _ < (World.alloc _ _).heap.size; simp; omega)).trans HZ.out; have q0 := cell_of_row w3 _ 0 _ _ _ hz3; have q1 := cell_of_row w3 _ 1 _ _ _ hz3; have q2 := cell_of_row w3 _ 2 _ _ _ hz3; simp only [List.getElem?_toArray, List.getElem?_cons_zero, List.getElem?_cons_succ] at q0 q1 q2; have k0 := frozen_of_row w3 _ 0 _ _ hz3; have k1 := frozen_of_row w3 _ 1 _ _ hz3; have k2 := frozen_of_row w3 _ 2 _ _ hz3; have HZ3 := Lib.hid hz3; clear hb3 hz3)
          | fail)
      go_wp2_with fail
      refine bodyPost_ret (res2 rfl _ _ w.heap.size 27 _ (0, 0) rfl (three_set _ _ _ _ _ _ _ _ _ HZ3.out) valD valSize) rfl ?_
      exact ⟨by rfl, ((HW3.out.setCell (p := ⟨w.heap.size, 0, none⟩) (Nat.le_refl _) _).setCell (p := ⟨w.heap.size, 1, none⟩) (Nat.le_refl _) _).setCell (p := ⟨w.heap.size, 2, none⟩) (Nat.le_refl _) _⟩
  · have HF : Hid (dd = false) := by
      show dd = false
      rw [← Bool.not_eq_true, ← HDEC.out]
      rintro ⟨_, _, h1⟩
      subst h1
      simp at v1
    obtain rfl := HF.out
    have HTR : Hid (∀ w1, Calls Try.prog 29 #[.bool false] w1 fun e w' => e = .returned (.agg #[.int .i64 0, .int .i64 0, .string ⟨#[]⟩]) ∧ Below w1.heap.size w1 w') := fun w1 => truth_any false w1
    rcases hp with rfl | rfl
    all_goals
      go_enter Try.func31, Try.ntmps31
      go_wp2_with fail
      go_region_held3 (fun w' => w'.cell? ⟨b, off, none⟩ = some (.int .i64 xk) ∧ w'.cell? ⟨b, off + 1, none⟩ = some (.int .i64 xi) ∧ w'.cell? ⟨b, off + 2, none⟩ = some (.string xt) ∧ w'.cell? ⟨b, off + 3, none⟩ = some (.int .i64 xk) ∧ w'.cell? ⟨b, off + 3 + 1, none⟩ = some (.int .i64 xi) ∧ w'.cell? ⟨b, off + 3 + 2, none⟩ = some (.string yt))
        (first | exact HS.out.below HW1.out hbl | exact HS2.out | exact HS2.out.stored3 (by omega) _ _ _ | fail)
        (first
          | (go_at_call 29; (with_reducible refine (HTR.out _).mono ?_); rintro e w3 ⟨rfl, hb3⟩; have HW3 := Lib.hid (HW1.out.trans (hb3.mono HW1.out.size)); have HS2 := Lib.hid (HS.out.below HW3.out hbl); have hz3 := (hb3.block w.heap.size (by show _ < (World.alloc _ _).heap.size; simp; omega)).trans HZ.out; have q0 := cell_of_row w3 _ 0 _ _ _ hz3; have q1 := cell_of_row w3 _ 1 _ _ _ hz3; have q2 := cell_of_row w3 _ 2 _ _ _ hz3; simp only [List.getElem?_toArray, List.getElem?_cons_zero, List.getElem?_cons_succ] at q0 q1 q2; have k0 := frozen_of_row w3 _ 0 _ _ hz3; have k1 := frozen_of_row w3 _ 1 _ _ hz3; have k2 := frozen_of_row w3 _ 2 _ _ hz3; have HZ3 := Lib.hid hz3; clear hb3 hz3)
          | fail)
      go_wp2_with fail
      refine bodyPost_ret (res2 rfl _ _ w.heap.size 27 _ (0, 0) rfl (three_set _ _ _ _ _ _ _ _ _ HZ3.out) valD valSize) rfl ?_
      exact ⟨by rfl, ((HW3.out.setCell (p := ⟨w.heap.size, 0, none⟩) (Nat.le_refl _) _).setCell (p := ⟨w.heap.size, 1, none⟩) (Nat.le_refl _) _).setCell (p := ⟨w.heap.size, 2, none⟩) (Nat.le_refl _) _⟩
end Go.Proofs.Ythbnhneibpoooaa
/- act: less than, lengths, characters, nothing. -/
namespace Go.Proofs.Ythbnhneibpoooaa
open Go.RowKit
set_option linter.unusedVariables false
set_option linter.unusedSimpArgs false
set_option maxHeartbeats 8000000 in
set_option maxRecDepth 100000 in
theorem act_lt (h : Nat) (x y : Hp.V) (av : Value) (w : World) (hv : VSl w av [x, y]) :
    Calls Try.prog 31 #[.pointer (some ⟨h, 0, none⟩), .string ⟨#[60]⟩, av] w fun e w' => e = .returned (.tuple #[(Hp.truth (decide (x.int < y.int))).val, .int .i64 0]) ∧ Below w.heap.size w w' := by
  obtain ⟨a, c, rfl⟩ := hv.len
  obtain ⟨b, off, rfl, hbl, hat⟩ := hv.at (by simp)
  obtain ⟨d0, d1, d2⟩ := hat 0 x rfl
  obtain ⟨f0, f1, f2⟩ := hat 1 y rfl
  rw [Nat.zero_mul, Nat.add_zero] at d0 d1 d2
  rw [Nat.one_mul] at f0 f1 f2
  clear hat hv
  have HC : Hid (∀ w', Below w.heap.size w w' → w'.cell? ⟨b, off + 1, none⟩ = some (.int .i64 x.int) ∧ w'.cell? ⟨b, off + 3 + 1, none⟩ = some (.int .i64 y.int)) := fun w' hb => ⟨(hb.cell (p := ⟨b, off + 1, none⟩) hbl).trans d1, (hb.cell (p := ⟨b, off + 3 + 1, none⟩) hbl).trans f1⟩
  have HW1 : Hid (Below w.heap.size w ((w.alloc (.cells #[.int .i64 0, .int .i64 0, .string ⟨#[]⟩] 27)).alloc (.cells #[.int .i64 5, .int .i64 0, .string ⟨#[]⟩] 27)).drew) := (((Below.refl _ _).alloc (Nat.le_refl _) _).alloc (by simp) _).drew
  have HZ : Hid (((w.alloc (.cells #[.int .i64 0, .int .i64 0, .string ⟨#[]⟩] 27)).alloc (.cells #[.int .i64 5, .int .i64 0, .string ⟨#[]⟩] 27)).drew.heap[w.heap.size]? = some (.cells #[.int .i64 0, .int .i64 0, .string ⟨#[]⟩] 27 (0, 0))) := (heap_alloc_old _ _ (by simp)).trans (heap_alloc_new w _)
  have HTR := Lib.hid (fun (b : Bool) w => truth_any b w)
  unfold Hp.V.val at *
  clear d0 d1 d2 f0 f1 f2
  go_enter Try.func31, Try.ntmps31
  go_wp2_with fail
  go_region_held3 (fun w' => w'.cell? ⟨b, off + 1, none⟩ = some (.int .i64 x.int) ∧ w'.cell? ⟨b, off + 3 + 1, none⟩ = some (.int .i64 y.int))
    (first | with_reducible exact HC.out _ HW1.out | with_reducible exact HC.out _ HW3.out | with_reducible exact HC.out _ (below_three HW3.out (Nat.le_refl _) _ _ _) | fail)
    (first
      | (go_at_call 29; (with_reducible refine (HTR.out _ _).mono ?_); rintro e w3 ⟨rfl, hb3⟩; have HW3 := Lib.hid (HW1.out.trans (hb3.mono HW1.out.size)); have hz3 := (hb3.block w.heap.size (by show _ < (World.alloc _ _).heap.size; simp; omega)).trans HZ.out; have q0 := cell_of_row w3 _ 0 _ _ _ hz3; have q1 := cell_of_row w3 _ 1 _ _ _ hz3; have q2 := cell_of_row w3 _ 2 _ _ _ hz3; simp only [List.getElem?_toArray, List.getElem?_cons_zero, List.getElem?_cons_succ] at q0 q1 q2; have k0 := frozen_of_row w3 _ 0 _ _ hz3; have k1 := frozen_of_row w3 _ 1 _ _ hz3; have k2 := frozen_of_row w3 _ 2 _ _ hz3; have HZ3 := Lib.hid hz3; clear hb3 hz3)
      | fail)
  all_goals
    go_wp2_with fail
    refine bodyPost_ret (res2 rfl _ _ w.heap.size 27 _ (0, 0) rfl (three_set _ _ _ _ _ _ _ _ _ HZ3.out) valD valSize) rfl ?_
    exact ⟨rfl, below_three HW3.out (Nat.le_refl _) _ _ _⟩
set_option maxHeartbeats 8000000 in
set_option maxRecDepth 100000 in
theorem act_ci (h : Nat) (x : Hp.V) (av : Value) (w : World) (hv : VSl w av [x]) :
    Calls Try.prog 31 #[.pointer (some ⟨h, 0, none⟩), .string ⟨#[99, 104, 97, 114, 45, 62, 105, 110, 116, 101, 103, 101, 114]⟩, av] w fun e w' => e = .returned (.tuple #[(Hp.num x.int).val, .int .i64 0]) ∧ Below w.heap.size w w' := by
  obtain ⟨a, c, rfl⟩ := hv.len
  obtain ⟨b, off, rfl, hbl, hat⟩ := hv.at (by simp)
  obtain ⟨d0, d1, d2⟩ := hat 0 x rfl
  rw [Nat.zero_mul, Nat.add_zero] at d0 d1 d2
  clear hat hv
  have hb1 : b < w.heap.size + 1 := by omega
  have HZ : Hid (((w.alloc (.cells #[.int .i64 0, .int .i64 0, .string ⟨#[]⟩] 27)).alloc (.cells #[.int .i64 5, .int .i64 0, .string ⟨#[]⟩] 27)).heap[w.heap.size]? = some (.cells #[.int .i64 0, .int .i64 0, .string ⟨#[]⟩] 27 (0, 0))) := (heap_alloc_old _ _ (by simp)).trans (heap_alloc_new w _)
  have HW1 : Hid (Below w.heap.size w ((w.alloc (.cells #[.int .i64 0, .int .i64 0, .string ⟨#[]⟩] 27)).alloc (.cells #[.int .i64 5, .int .i64 0, .string ⟨#[]⟩] 27))) := (((Below.refl _ _).alloc (Nat.le_refl _) _).alloc (by simp) _)
  go_enter Try.func31, Try.ntmps31
  go_wp2_with fail
  with_reducible refine (zero_any _ _).mono ?_
  rintro e w3 ⟨rfl, hb3⟩
  have HW3 := Lib.hid (HW1.out.trans (hb3.mono HW1.out.size))
  have hz3 := (hb3.block w.heap.size (by simp; omega)).trans HZ.out
  have q0 := cell_of_row w3 _ 0 _ _ _ hz3
  have q1 := cell_of_row w3 _ 1 _ _ _ hz3
  have q2 := cell_of_row w3 _ 2 _ _ _ hz3
  simp only [List.getElem?_toArray, List.getElem?_cons_zero, List.getElem?_cons_succ] at q0 q1 q2
  have k0 := frozen_of_row w3 _ 0 _ _ hz3
  have k1 := frozen_of_row w3 _ 1 _ _ hz3
  have k2 := frozen_of_row w3 _ 2 _ _ hz3
  have HZ3 := Lib.hid hz3
  clear hb3 hz3
  go_wp2_with fail
  refine bodyPost_ret (res2 rfl _ _ w.heap.size 27 _ (0, 0) rfl (three_set _ _ _ _ _ _ _ _ _ HZ3.out) valD valSize) rfl ?_
  exact ⟨rfl, below_three HW3.out (Nat.le_refl _) _ _ _⟩
set_option maxHeartbeats 8000000 in
set_option maxRecDepth 100000 in
theorem act_void (hv av : Value) (w : World) :
    Calls Try.prog 31 #[hv, .string ⟨#[118, 111, 105, 100]⟩, av] w fun e w' => e = .returned (.tuple #[Hp.void.val, .int .i64 0]) ∧ Below w.heap.size w w' := by
  go_enter Try.func31, Try.ntmps31
  go_wp2_with fail
  refine bodyPost_ret (res2 rfl _ _ w.heap.size 27 _ (0, 0) rfl ((heap_alloc_old _ _ (by simp)).trans (heap_alloc_new w _)) valD valSize) rfl ?_
  exact ⟨rfl, (((Below.refl _ _).alloc (Nat.le_refl _) _).alloc (by simp) _)⟩
set_option maxHeartbeats 8000000 in
set_option maxRecDepth 100000 in
theorem act_unset (hv av : Value) (w : World) :
    Calls Try.prog 31 #[hv, .string ⟨#[37, 117, 110, 115, 101, 116]⟩, av] w fun e w' => e = .returned (.tuple #[Hp.V.val ⟨7, 0, ⟨#[]⟩⟩, .int .i64 0]) ∧ Below w.heap.size w w' := by
  go_enter Try.func31, Try.ntmps31
  go_wp2_with fail
  refine bodyPost_ret (res2 rfl _ _ w.heap.size 27 _ (0, 0) rfl ((heap_alloc_old _ _ (by simp)).trans (heap_alloc_new w _)) valD valSize) rfl ?_
  exact ⟨rfl, (((Below.refl _ _).alloc (Nat.le_refl _) _).alloc (by simp) _)⟩
set_option maxHeartbeats 8000000 in
set_option maxRecDepth 100000 in
theorem act_len (h : Nat) (p : ByteArray) (hp : p = ⟨#[118, 101, 99, 116, 111, 114, 45, 108, 101, 110, 103, 116, 104]⟩ ∨ p = ⟨#[115, 116, 114, 105, 110, 103, 45, 108, 101, 110, 103, 116, 104]⟩) {k : Nat} {O : Nat → Prop} {vt : Value} {M : List (Hp.Th × Value)} {m : Hp.Th × Value} (av : Value) (w : World) (hv : VSl w av [⟨8, k, ⟨#[]⟩⟩]) (HM : HpAt w 65 h O vt M) (hmm : M[k]? = some m) (hl : m.1.parts.length ≤ 1000000) :
    Calls Try.prog 31 #[.pointer (some ⟨h, 0, none⟩), .string p, av] w fun e w' => e = .returned (.tuple #[(Hp.num m.1.parts.length).val, .int .i64 0]) ∧ Below w.heap.size w w' := by
  obtain ⟨a, c, rfl⟩ := hv.len
  obtain ⟨b, off, rfl, hbl, hat⟩ := hv.at (by simp)
  obtain ⟨d0, d1, d2⟩ := hat 0 _ rfl
  rw [Nat.zero_mul, Nat.add_zero] at d0 d1 d2
  dsimp only at d0 d1 d2
  clear hat hv
  have hb1 : b < w.heap.size + 1 := by omega
  obtain ⟨gg, cc, rfl, hgg, hgh, e0, e1⟩ := HM.at hmm
  obtain ⟨pa, pc, hs⟩ := HM.partLen (List.mem_of_getElem? hmm)
  rw [hs] at e1
  have h0 := HM.c0
  have hh := HM.lth
  have hkl : k < M.length := (List.getElem?_eq_some_iff.1 hmm).1
  have HZ : Hid (((w.alloc (.cells #[.int .i64 0, .int .i64 0, .string ⟨#[]⟩] 27)).alloc (.cells #[.int .i64 5, .int .i64 0, .string ⟨#[]⟩] 27)).heap[w.heap.size]? = some (.cells #[.int .i64 0, .int .i64 0, .string ⟨#[]⟩] 27 (0, 0))) := (heap_alloc_old _ _ (by simp)).trans (heap_alloc_new w _)
  have hw1 : Below w.heap.size w ((w.alloc (.cells #[.int .i64 0, .int .i64 0, .string ⟨#[]⟩] 27)).alloc (.cells #[.int .i64 5, .int .i64 0, .string ⟨#[]⟩] 27)) := (((Below.refl _ _).alloc (Nat.le_refl _) _).alloc (by simp) _)
  have HW1 := Lib.hid hw1
  have HTH := Lib.hid (thing_some h M.length cc gg k hkl _ ((hw1.cell (p := ⟨h, 0, none⟩) hh).trans h0))
  obtain ⟨pl, hpl⟩ : ∃ pl, m.1.parts.length = pl := ⟨_, rfl⟩
  rw [hpl] at e1 hl ⊢
  clear hpl hs hmm HM hw1 h0
  rcases hp with rfl | rfl
  all_goals
    go_enter Try.func31, Try.ntmps31
    go_wp2_with fail
    with_reducible refine HTH.out.mono ?_
    rintro e w2 ⟨rfl, hb2⟩
    have HW2 := Lib.hid (HW1.out.trans (hb2.mono HW1.out.size))
    have e2 : w2.cell? ⟨gg, k * 2 + 1, none⟩ = some (.slice pa pl pc) := (HW2.out.cell (p := ⟨gg, k * 2 + 1, none⟩) hgg).trans e1
    have hz2 := (hb2.block w.heap.size (by simp; omega)).trans HZ.out
    have HZ2 := Lib.hid hz2
    clear hb2 hz2
    go_wp2_with fail
    with_reducible refine (zero_any _ _).mono ?_
    rintro e w3 ⟨rfl, hb3⟩
    have HW3 := Lib.hid (HW2.out.trans (hb3.mono HW2.out.size))
    have hz3 := (hb3.block w.heap.size (Array.getElem?_eq_some_iff.1 HZ2.out).1).trans HZ2.out
    have q0 := cell_of_row w3 _ 0 _ _ _ hz3
    have q1 := cell_of_row w3 _ 1 _ _ _ hz3
    have q2 := cell_of_row w3 _ 2 _ _ _ hz3
    simp only [List.getElem?_toArray, List.getElem?_cons_zero, List.getElem?_cons_succ] at q0 q1 q2
    have k0 := frozen_of_row w3 _ 0 _ _ hz3
    have k1 := frozen_of_row w3 _ 1 _ _ hz3
    have k2 := frozen_of_row w3 _ 2 _ _ hz3
    have HZ3 := Lib.hid hz3
    clear hb3 hz3
    go_wp2_with fail
    refine bodyPost_ret (res2 rfl _ _ w.heap.size 27 _ (0, 0) rfl (three_set _ _ _ _ _ _ _ _ _ HZ3.out) valD valSize) rfl ?_
    exact ⟨rfl, below_three HW3.out (Nat.le_refl _) _ _ _⟩
set_option maxHeartbeats 8000000 in
set_option maxRecDepth 100000 in
theorem act_ic (h : Nat) (x : Hp.V) (av : Value) (w : World) (hv : VSl w av [x]) (hx : isN x.int = true) :
    Calls Try.prog 31 #[.pointer (some ⟨h, 0, none⟩), .string ⟨#[105, 110, 116, 101, 103, 101, 114, 45, 62, 99, 104, 97, 114]⟩, av] w fun e w' => e = .returned (.tuple #[(if x.int < 0 ∨ 255 < x.int then Hp.none else ⟨2, x.int, ⟨#[]⟩⟩ : Hp.V).val, .int .i64 (if x.int < 0 ∨ 255 < x.int then 83 else 0)]) ∧ Below w.heap.size w w' := by
  obtain ⟨a, c, rfl⟩ := hv.len
  obtain ⟨b, off, rfl, hbl, hat⟩ := hv.at (by simp)
  obtain ⟨d0, d1, d2⟩ := hat 0 x rfl
  rw [Nat.zero_mul, Nat.add_zero] at d0 d1 d2
  clear hat hv
  have hn := isN_iff.1 hx
  have hb1 : b < w.heap.size + 1 := by omega
  have ha := i64_and255 x.int
  have HZ : Hid (((w.alloc (.cells #[.int .i64 0, .int .i64 0, .string ⟨#[]⟩] 27)).alloc (.cells #[.int .i64 5, .int .i64 0, .string ⟨#[]⟩] 27)).heap[w.heap.size]? = some (.cells #[.int .i64 0, .int .i64 0, .string ⟨#[]⟩] 27 (0, 0))) := (heap_alloc_old _ _ (by simp)).trans (heap_alloc_new w _)
  have HW1 : Hid (Below w.heap.size w ((w.alloc (.cells #[.int .i64 0, .int .i64 0, .string ⟨#[]⟩] 27)).alloc (.cells #[.int .i64 5, .int .i64 0, .string ⟨#[]⟩] 27))) := (((Below.refl _ _).alloc (Nat.le_refl _) _).alloc (by simp) _)
  by_cases hr : x.int < 0 ∨ 255 < x.int
  · rw [if_pos hr, if_pos hr]
    have q : (x.int % 256 != x.int) = true := by rw [bne_iff_ne]; omega
    clear hr hx
    go_enter Try.func31, Try.ntmps31
    go_wp2_with fail
    go_quiet (fail)
    go_wp2_with fail
    refine bodyPost_ret (res2 rfl _ _ w.heap.size 27 _ (0, 0) rfl (three_set _ _ _ _ _ _ (.int .i64 0) (.int .i64 0) (.string ⟨#[]⟩) HZ.out) valD valSize) rfl ?_
    exact ⟨rfl, below_three (below_drewN HW1.out _) (Nat.le_refl _) _ _ _⟩
  · rw [if_neg hr, if_neg hr]
    have q : (x.int % 256 != x.int) = false := by
      have : x.int % 256 = x.int := by omega
      rw [this]
      simp
    clear hr hx
    go_enter Try.func31, Try.ntmps31
    go_wp2_with fail
    go_quiet (fail)
    go_wp2_with fail
    refine bodyPost_ret (res2 rfl _ _ w.heap.size 27 _ (0, 0) rfl (three_set _ _ _ _ _ _ (.int .i64 2) (.int .i64 x.int) (.string ⟨#[]⟩) HZ.out) valD valSize) rfl ?_
    exact ⟨rfl, below_three (below_drewN HW1.out _) (Nat.le_refl _) _ _ _⟩
end Go.Proofs.Ythbnhneibpoooaa
