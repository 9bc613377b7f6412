/- The heap's Do where it reckons. -/
import Derived.Test.YthbnhneibpoooaaQMI
set_option linter.unusedVariables false
set_option linter.unusedSimpArgs false
set_option linter.unnecessarySimpa false
namespace Go.Proofs.Ythbnhneibpoooaa
open Go.RowKit
set_option linter.unusedVariables false
set_option linter.unusedSimpArgs false
set_option maxHeartbeats 2000000 in
set_option maxRecDepth 100000 in
theorem do_op0 (h : Nat) (p bs : ByteArray) (av : Value) (l : List Hp.V) (w : World) (hv : VSl w av l) (hl : l.length = bs.size) (hlm : l.length ≤ 1000) (G : Nat → Bool) (hW : Still 25 #[.string p] (.tuple #[.string bs, .bool true]))
    (hA : Makes w 26 #[.pointer (some ⟨h, 0, none⟩), av] (.bool true)) (hI : IsAt w h l bs G) (hG : ∀ k, k < l.length → G k = true) (r : Hp.V) (er : Int) (x0 y0 : Hp.V) (hxy : l = [x0, y0])
    (hK : Still 28 #[.string p] (.tuple #[.int .i64 (-1), .int .u8 0])) (hp : p = ⟨#[43]⟩)
    (hAct : ∀ w1, Calls Try.prog 30 #[.int .i64 0, x0.val, y0.val] w1 fun e w' => e = .returned (.tuple #[r.val, .int .i64 er]) ∧ Below w1.heap.size w1 w') :
    Calls Try.prog 11 #[.pointer (some ⟨h, 0, none⟩), .string p, av] w fun e w' => e = .returned (.tuple #[r.val, .int .i64 er]) ∧ Below w.heap.size w w' := by
  obtain ⟨a, c, rfl⟩ := hv.len
  obtain ⟨b0, off0, rfl, hbl0, hat0⟩ := hv.at (by rw [hxy]; simp)
  obtain ⟨d0, d1, d2⟩ := hat0 0 x0 (by rw [hxy]; rfl)
  obtain ⟨f0, f1, f2⟩ := hat0 1 y0 (by rw [hxy]; rfl)
  rw [Nat.zero_mul, Nat.add_zero] at d0 d1 d2
  rw [Nat.one_mul] at f0 f1 f2
  have HCL : Hid (ArgC b0 off0 [x0, y0] w) := ⟨d0, d1, d2, f0, f1, f2⟩
  have hl2 : bs.size = 2 := by rw [← hl, hxy]; rfl
  have HL2 := Lib.hid hl2
  clear hat0 d0 d1 d2 f0 f1 f2 hxy hl2
  have HV := Lib.hid hv
  have HW := Lib.hid hW
  have HA := Lib.hid hA
  have HI := Lib.hid hI
  have HGG := Lib.hid hG
  have HLE := Lib.hid hl
  have HK := Lib.hid hK
  have HC := Lib.hid hAct
  clear hW hA hv hI hG hK hAct
  obtain ⟨rk, ri, rt⟩ := r
  obtain ⟨xk0, xi0, xt0⟩ := x0
  obtain ⟨yk0, yi0, yt0⟩ := y0
  subst hp
  unfold Still at HK
  unfold Still at HW
  unfold Makes at HA
  unfold IsAt at HI
  unfold Hp.V.val at *
  dsimp only at HC ⊢
  rw [hl] at HA ⊢
  go_enter Try.func11, Try.ntmps11
  go_wp2_with fail
  with_reducible refine (HW.out _).mono ?_
  rintro e w1 ⟨rfl, rfl⟩
  go_wp2_with fail
  with_reducible refine (HA.out _ ((Below.refl _ _).alloc (Nat.le_refl _) _)).mono ?_
  rintro e w2 ⟨rfl, hb⟩
  have HD := Lib.hid ((DoW.first w).next hb)
  clear hb
  go_wp2_with fail
  go_loopg [39] l.length (fun gk i wx => ∃ k : Nat, k ≤ l.length ∧ gk = l.length - k ∧ i = .int .i64 k ∧ Hid (∀ j, j < k → G j = true) ∧ Hid (DoW w wx))
  case atStart => exact ⟨0, Nat.zero_le _, rfl, rfl, fun j hj => by omega, HD.out⟩
  case round =>
    obtain ⟨k, hk, rfl, rfl, HALL, HX⟩ := hrel
    by_cases hlt : k < l.length
    · obtain ⟨x, hx⟩ : ∃ x, l[k]? = some x := ⟨_, List.getElem?_eq_getElem hlt⟩
      have hne : l ≠ [] := fun e => by rw [e] at hlt; simp at hlt
      have hv2 := HV.out.below HX.out.below (Nat.le_refl _)
      rw [hl] at hv2
      obtain ⟨b, off, hbe, hbl, hat⟩ := hv2.at hne
      cases hbe
      obtain ⟨d0, d1, d2⟩ := hat k x hx
      have hks : k < bs.size := by omega
      have HIk := Lib.hid (fun w1 hb => HI.out k x hks hx w1 hb)
      obtain ⟨xk, xi, xt⟩ := x
      dsimp only at *
      have hg1 : (0 : Int) ≤ k := by omega
      have hg2 : (k : Int) < bs.size := by omega
      have hgw : IntKind.i64.wrap ((k : Int) + 1) = k + 1 := by rw [IntKind.wrap_i64]; omega
      clear hat hx hne hv2 HV
      have HS := Lib.hid (new3 wr xk xi xt)
      have hG := HGG.out k hlt
      rw [hG] at HIk
      have HGT := Lib.hid hG
      clear hG HI
      go_wp2_with fail
      go_region_held3 (fun w' => w'.cell? ⟨wr.heap.size, 0, none⟩ = some (.int .i64 xk) ∧ w'.cell? ⟨wr.heap.size, 1, none⟩ = some (.int .i64 xi) ∧ w'.cell? ⟨wr.heap.size, 2, none⟩ = some (.string xt))
        (first | exact HS.out | exact HS4.out)
        (first | (go_at_call 27; (with_reducible refine (HIk.out _ HX.out.at).mono ?_); rintro e w4 ⟨rfl, hb4⟩; have HX4 := Lib.hid (HX.out.call hb4); have HS4 : Hid (New3 wr.heap.size xk xi xt w4) := HS.out.below hb4 (drew_lt _ _); clear hb4))
      go_wp2_with fail
      go_roundg (l.length - (k + 1))
      case measure => omega
      case rel => exact ⟨k + 1, by omega, rfl, by go_num, fun j hj => (Nat.lt_or_eq_of_le (Nat.le_of_lt_succ hj)).elim (fun h => HALL.out j h) (fun h => h ▸ HGT.out), HX4.out⟩
    · obtain rfl : k = l.length := by omega
      go_wp2_with fail
      with_reducible refine (HK.out _).mono ?_
      rintro e w3 ⟨rfl, rfl⟩
      go_wp2_with fail
      have i0 : ∀ w : World, (Instr.index 72 (.agg #[.string ⟨#[43]⟩, .string ⟨#[45]⟩, .string ⟨#[42]⟩, .string ⟨#[113, 117, 111, 116, 105, 101, 110, 116]⟩, .string ⟨#[114, 101, 109, 97, 105, 110, 100, 101, 114]⟩]) (.int .i64 0)).run Try.prog w = .ok (.string ⟨#[43]⟩) w := fun _ => by kernel_rfl
      have i1 : ∀ w : World, (Instr.index 72 (.agg #[.string ⟨#[43]⟩, .string ⟨#[45]⟩, .string ⟨#[42]⟩, .string ⟨#[113, 117, 111, 116, 105, 101, 110, 116]⟩, .string ⟨#[114, 101, 109, 97, 105, 110, 100, 101, 114]⟩]) (.int .i64 1)).run Try.prog w = .ok (.string ⟨#[45]⟩) w := fun _ => by kernel_rfl
      have i2 : ∀ w : World, (Instr.index 72 (.agg #[.string ⟨#[43]⟩, .string ⟨#[45]⟩, .string ⟨#[42]⟩, .string ⟨#[113, 117, 111, 116, 105, 101, 110, 116]⟩, .string ⟨#[114, 101, 109, 97, 105, 110, 100, 101, 114]⟩]) (.int .i64 2)).run Try.prog w = .ok (.string ⟨#[42]⟩) w := fun _ => by kernel_rfl
      have i3 : ∀ w : World, (Instr.index 72 (.agg #[.string ⟨#[43]⟩, .string ⟨#[45]⟩, .string ⟨#[42]⟩, .string ⟨#[113, 117, 111, 116, 105, 101, 110, 116]⟩, .string ⟨#[114, 101, 109, 97, 105, 110, 100, 101, 114]⟩]) (.int .i64 3)).run Try.prog w = .ok (.string ⟨#[113, 117, 111, 116, 105, 101, 110, 116]⟩) w := fun _ => by kernel_rfl
      have i4 : ∀ w : World, (Instr.index 72 (.agg #[.string ⟨#[43]⟩, .string ⟨#[45]⟩, .string ⟨#[42]⟩, .string ⟨#[113, 117, 111, 116, 105, 101, 110, 116]⟩, .string ⟨#[114, 101, 109, 97, 105, 110, 100, 101, 114]⟩]) (.int .i64 4)).run Try.prog w = .ok (.string ⟨#[114, 101, 109, 97, 105, 110, 100, 101, 114]⟩) w := fun _ => by kernel_rfl
      go_loopg [84] 0 (fun gk i wx => ∃ k : Int, (k = 0) ∧ gk = 0 - k.toNat ∧ i = .int .i64 k ∧ Hid (DoW w wx))
      case atStart => exact ⟨0, by omega, rfl, rfl, HX.out⟩
      case round =>
        obtain ⟨k, rfl, rfl, rfl, HY⟩ := hrel
        · have hg0 : (0 : Int) < bs.size := by have := HL2.out; omega
          have hg1 : (1 : Int) < bs.size := by have := HL2.out; omega
          have hg0n : 0 < bs.size := by have := HL2.out; omega
          have hg1n : 1 < bs.size := by have := HL2.out; omega
          have HS : Hid (ArgC b0 off0 [⟨xk0, xi0, xt0⟩, ⟨yk0, yi0, yt0⟩] wr.drew) := (HCL.out.below HY.out.below hbl0).same fun _ => rfl
          go_wp2_with fail
          go_region_held3 (fun w' => w'.cell? ⟨b0, off0, none⟩ = some (.int .i64 xk0) ∧ w'.cell? ⟨b0, off0 + 1, none⟩ = some (.int .i64 xi0) ∧ w'.cell? ⟨b0, off0 + 2, none⟩ = some (.string xt0) ∧ w'.cell? ⟨b0, off0 + 3, none⟩ = some (.int .i64 yk0) ∧ w'.cell? ⟨b0, off0 + 3 + 1, none⟩ = some (.int .i64 yi0) ∧ w'.cell? ⟨b0, off0 + 3 + 2, none⟩ = some (.string yt0))
            (first | exact HS.out | exact HS5.out | exact HS5.out.stored3 (by omega) _ _ _)
            (first | (go_at_call 30; (with_reducible refine (HC.out _).mono ?_); rintro e w5 ⟨rfl, hb5⟩; have HY2 := Lib.hid (HY.out.next ((Below.refl _ _).drew.trans hb5)); have HS5 : Hid (ArgC b0 off0 [⟨xk0, xi0, xt0⟩, ⟨yk0, yi0, yt0⟩] w5) := HS.out.below hb5 (Nat.lt_of_lt_of_le hbl0 HY.out.below.size); obtain ⟨q0, q1, q2, k0, k1, k2⟩ := HY2.out.cells; clear hb5))
          go_wp2_with fail
          refine bodyPost_ret (res2 rfl _ _ w.heap.size 27 _ (0, 0) rfl (three_set _ _ _ _ _ _ _ _ _ HY2.out.blk) valD valSize) rfl ?_
          exact ⟨by simp, below_three HY2.out.below (Nat.le_refl _) _ _ _⟩
set_option maxHeartbeats 2000000 in
set_option maxRecDepth 100000 in
theorem do_op1 (h : Nat) (p bs : ByteArray) (av : Value) (l : List Hp.V) (w : World) (hv : VSl w av l) (hl : l.length = bs.size) (hlm : l.length ≤ 1000) (G : Nat → Bool) (hW : Still 25 #[.string p] (.tuple #[.string bs, .bool true]))
    (hA : Makes w 26 #[.pointer (some ⟨h, 0, none⟩), av] (.bool true)) (hI : IsAt w h l bs G) (hG : ∀ k, k < l.length → G k = true) (r : Hp.V) (er : Int) (x0 y0 : Hp.V) (hxy : l = [x0, y0])
    (hK : Still 28 #[.string p] (.tuple #[.int .i64 (-1), .int .u8 0])) (hp : p = ⟨#[45]⟩)
    (hAct : ∀ w1, Calls Try.prog 30 #[.int .i64 1, x0.val, y0.val] w1 fun e w' => e = .returned (.tuple #[r.val, .int .i64 er]) ∧ Below w1.heap.size w1 w') :
    Calls Try.prog 11 #[.pointer (some ⟨h, 0, none⟩), .string p, av] w fun e w' => e = .returned (.tuple #[r.val, .int .i64 er]) ∧ Below w.heap.size w w' := by
  obtain ⟨a, c, rfl⟩ := hv.len
  obtain ⟨b0, off0, rfl, hbl0, hat0⟩ := hv.at (by rw [hxy]; simp)
  obtain ⟨d0, d1, d2⟩ := hat0 0 x0 (by rw [hxy]; rfl)
  obtain ⟨f0, f1, f2⟩ := hat0 1 y0 (by rw [hxy]; rfl)
  rw [Nat.zero_mul, Nat.add_zero] at d0 d1 d2
  rw [Nat.one_mul] at f0 f1 f2
  have HCL : Hid (ArgC b0 off0 [x0, y0] w) := ⟨d0, d1, d2, f0, f1, f2⟩
  have hl2 : bs.size = 2 := by rw [← hl, hxy]; rfl
  have HL2 := Lib.hid hl2
  clear hat0 d0 d1 d2 f0 f1 f2 hxy hl2
  have HV := Lib.hid hv
  have HW := Lib.hid hW
  have HA := Lib.hid hA
  have HI := Lib.hid hI
  have HGG := Lib.hid hG
  have HLE := Lib.hid hl
  have HK := Lib.hid hK
  have HC := Lib.hid hAct
  clear hW hA hv hI hG hK hAct
  obtain ⟨rk, ri, rt⟩ := r
  obtain ⟨xk0, xi0, xt0⟩ := x0
  obtain ⟨yk0, yi0, yt0⟩ := y0
  subst hp
  unfold Still at HK
  unfold Still at HW
  unfold Makes at HA
  unfold IsAt at HI
  unfold Hp.V.val at *
  dsimp only at HC ⊢
  rw [hl] at HA ⊢
  go_enter Try.func11, Try.ntmps11
  go_wp2_with fail
  with_reducible refine (HW.out _).mono ?_
  rintro e w1 ⟨rfl, rfl⟩
  go_wp2_with fail
  with_reducible refine (HA.out _ ((Below.refl _ _).alloc (Nat.le_refl _) _)).mono ?_
  rintro e w2 ⟨rfl, hb⟩
  have HD := Lib.hid ((DoW.first w).next hb)
  clear hb
  go_wp2_with fail
  go_loopg [39] l.length (fun gk i wx => ∃ k : Nat, k ≤ l.length ∧ gk = l.length - k ∧ i = .int .i64 k ∧ Hid (∀ j, j < k → G j = true) ∧ Hid (DoW w wx))
  case atStart => exact ⟨0, Nat.zero_le _, rfl, rfl, fun j hj => by omega, HD.out⟩
  case round =>
    obtain ⟨k, hk, rfl, rfl, HALL, HX⟩ := hrel
    by_cases hlt : k < l.length
    · obtain ⟨x, hx⟩ : ∃ x, l[k]? = some x := ⟨_, List.getElem?_eq_getElem hlt⟩
      have hne : l ≠ [] := fun e => by rw [e] at hlt; simp at hlt
      have hv2 := HV.out.below HX.out.below (Nat.le_refl _)
      rw [hl] at hv2
      obtain ⟨b, off, hbe, hbl, hat⟩ := hv2.at hne
      cases hbe
      obtain ⟨d0, d1, d2⟩ := hat k x hx
      have hks : k < bs.size := by omega
      have HIk := Lib.hid (fun w1 hb => HI.out k x hks hx w1 hb)
      obtain ⟨xk, xi, xt⟩ := x
      dsimp only at *
      have hg1 : (0 : Int) ≤ k := by omega
      have hg2 : (k : Int) < bs.size := by omega
      have hgw : IntKind.i64.wrap ((k : Int) + 1) = k + 1 := by rw [IntKind.wrap_i64]; omega
      clear hat hx hne hv2 HV
      have HS := Lib.hid (new3 wr xk xi xt)
      have hG := HGG.out k hlt
      rw [hG] at HIk
      have HGT := Lib.hid hG
      clear hG HI
      go_wp2_with fail
      go_region_held3 (fun w' => w'.cell? ⟨wr.heap.size, 0, none⟩ = some (.int .i64 xk) ∧ w'.cell? ⟨wr.heap.size, 1, none⟩ = some (.int .i64 xi) ∧ w'.cell? ⟨wr.heap.size, 2, none⟩ = some (.string xt))
        (first | exact HS.out | exact HS4.out)
        (first | (go_at_call 27; (with_reducible refine (HIk.out _ HX.out.at).mono ?_); rintro e w4 ⟨rfl, hb4⟩; have HX4 := Lib.hid (HX.out.call hb4); have HS4 : Hid (New3 wr.heap.size xk xi xt w4) := HS.out.below hb4 (drew_lt _ _); clear hb4))
      go_wp2_with fail
      go_roundg (l.length - (k + 1))
      case measure => omega
      case rel => exact ⟨k + 1, by omega, rfl, by go_num, fun j hj => (Nat.lt_or_eq_of_le (Nat.le_of_lt_succ hj)).elim (fun h => HALL.out j h) (fun h => h ▸ HGT.out), HX4.out⟩
    · obtain rfl : k = l.length := by omega
      go_wp2_with fail
      with_reducible refine (HK.out _).mono ?_
      rintro e w3 ⟨rfl, rfl⟩
      go_wp2_with fail
      have i0 : ∀ w : World, (Instr.index 72 (.agg #[.string ⟨#[43]⟩, .string ⟨#[45]⟩, .string ⟨#[42]⟩, .string ⟨#[113, 117, 111, 116, 105, 101, 110, 116]⟩, .string ⟨#[114, 101, 109, 97, 105, 110, 100, 101, 114]⟩]) (.int .i64 0)).run Try.prog w = .ok (.string ⟨#[43]⟩) w := fun _ => by kernel_rfl
      have i1 : ∀ w : World, (Instr.index 72 (.agg #[.string ⟨#[43]⟩, .string ⟨#[45]⟩, .string ⟨#[42]⟩, .string ⟨#[113, 117, 111, 116, 105, 101, 110, 116]⟩, .string ⟨#[114, 101, 109, 97, 105, 110, 100, 101, 114]⟩]) (.int .i64 1)).run Try.prog w = .ok (.string ⟨#[45]⟩) w := fun _ => by kernel_rfl
      have i2 : ∀ w : World, (Instr.index 72 (.agg #[.string ⟨#[43]⟩, .string ⟨#[45]⟩, .string ⟨#[42]⟩, .string ⟨#[113, 117, 111, 116, 105, 101, 110, 116]⟩, .string ⟨#[114, 101, 109, 97, 105, 110, 100, 101, 114]⟩]) (.int .i64 2)).run Try.prog w = .ok (.string ⟨#[42]⟩) w := fun _ => by kernel_rfl
      have i3 : ∀ w : World, (Instr.index 72 (.agg #[.string ⟨#[43]⟩, .string ⟨#[45]⟩, .string ⟨#[42]⟩, .string ⟨#[113, 117, 111, 116, 105, 101, 110, 116]⟩, .string ⟨#[114, 101, 109, 97, 105, 110, 100, 101, 114]⟩]) (.int .i64 3)).run Try.prog w = .ok (.string ⟨#[113, 117, 111, 116, 105, 101, 110, 116]⟩) w := fun _ => by kernel_rfl
      have i4 : ∀ w : World, (Instr.index 72 (.agg #[.string ⟨#[43]⟩, .string ⟨#[45]⟩, .string ⟨#[42]⟩, .string ⟨#[113, 117, 111, 116, 105, 101, 110, 116]⟩, .string ⟨#[114, 101, 109, 97, 105, 110, 100, 101, 114]⟩]) (.int .i64 4)).run Try.prog w = .ok (.string ⟨#[114, 101, 109, 97, 105, 110, 100, 101, 114]⟩) w := fun _ => by kernel_rfl
      go_loopg [84] 1 (fun gk i wx => ∃ k : Int, (k = 0 ∨ k = 1) ∧ gk = 1 - k.toNat ∧ i = .int .i64 k ∧ Hid (DoW w wx))
      case atStart => exact ⟨0, by omega, rfl, rfl, HX.out⟩
      case round =>
        obtain ⟨k, hk, rfl, rfl, HY⟩ := hrel
        rcases hk with rfl | rfl
        · go_wp2_with fail
          go_roundg 0
          case measure => decide
          case rel => exact ⟨1, by omega, rfl, rfl, HY.out⟩
        · have hg0 : (0 : Int) < bs.size := by have := HL2.out; omega
          have hg1 : (1 : Int) < bs.size := by have := HL2.out; omega
          have hg0n : 0 < bs.size := by have := HL2.out; omega
          have hg1n : 1 < bs.size := by have := HL2.out; omega
          have HS : Hid (ArgC b0 off0 [⟨xk0, xi0, xt0⟩, ⟨yk0, yi0, yt0⟩] wr.drew) := (HCL.out.below HY.out.below hbl0).same fun _ => rfl
          go_wp2_with fail
          go_region_held3 (fun w' => w'.cell? ⟨b0, off0, none⟩ = some (.int .i64 xk0) ∧ w'.cell? ⟨b0, off0 + 1, none⟩ = some (.int .i64 xi0) ∧ w'.cell? ⟨b0, off0 + 2, none⟩ = some (.string xt0) ∧ w'.cell? ⟨b0, off0 + 3, none⟩ = some (.int .i64 yk0) ∧ w'.cell? ⟨b0, off0 + 3 + 1, none⟩ = some (.int .i64 yi0) ∧ w'.cell? ⟨b0, off0 + 3 + 2, none⟩ = some (.string yt0))
            (first | exact HS.out | exact HS5.out | exact HS5.out.stored3 (by omega) _ _ _)
            (first | (go_at_call 30; (with_reducible refine (HC.out _).mono ?_); rintro e w5 ⟨rfl, hb5⟩; have HY2 := Lib.hid (HY.out.next ((Below.refl _ _).drew.trans hb5)); have HS5 : Hid (ArgC b0 off0 [⟨xk0, xi0, xt0⟩, ⟨yk0, yi0, yt0⟩] w5) := HS.out.below hb5 (Nat.lt_of_lt_of_le hbl0 HY.out.below.size); obtain ⟨q0, q1, q2, k0, k1, k2⟩ := HY2.out.cells; clear hb5))
          go_wp2_with fail
          refine bodyPost_ret (res2 rfl _ _ w.heap.size 27 _ (0, 0) rfl (three_set _ _ _ _ _ _ _ _ _ HY2.out.blk) valD valSize) rfl ?_
          exact ⟨by simp, below_three HY2.out.below (Nat.le_refl _) _ _ _⟩
set_option maxHeartbeats 2000000 in
set_option maxRecDepth 100000 in
theorem do_op2 (h : Nat) (p bs : ByteArray) (av : Value) (l : List Hp.V) (w : World) (hv : VSl w av l) (hl : l.length = bs.size) (hlm : l.length ≤ 1000) (G : Nat → Bool) (hW : Still 25 #[.string p] (.tuple #[.string bs, .bool true]))
    (hA : Makes w 26 #[.pointer (some ⟨h, 0, none⟩), av] (.bool true)) (hI : IsAt w h l bs G) (hG : ∀ k, k < l.length → G k = true) (r : Hp.V) (er : Int) (x0 y0 : Hp.V) (hxy : l = [x0, y0])
    (hK : Still 28 #[.string p] (.tuple #[.int .i64 (-1), .int .u8 0])) (hp : p = ⟨#[42]⟩)
    (hAct : ∀ w1, Calls Try.prog 30 #[.int .i64 2, x0.val, y0.val] w1 fun e w' => e = .returned (.tuple #[r.val, .int .i64 er]) ∧ Below w1.heap.size w1 w') :
    Calls Try.prog 11 #[.pointer (some ⟨h, 0, none⟩), .string p, av] w fun e w' => e = .returned (.tuple #[r.val, .int .i64 er]) ∧ Below w.heap.size w w' := by
  obtain ⟨a, c, rfl⟩ := hv.len
  obtain ⟨b0, off0, rfl, hbl0, hat0⟩ := hv.at (by rw [hxy]; simp)
  obtain ⟨d0, d1, d2⟩ := hat0 0 x0 (by rw [hxy]; rfl)
  obtain ⟨f0, f1, f2⟩ := hat0 1 y0 (by rw [hxy]; rfl)
  rw [Nat.zero_mul, Nat.add_zero] at d0 d1 d2
  rw [Nat.one_mul] at f0 f1 f2
  have HCL : Hid (ArgC b0 off0 [x0, y0] w) := ⟨d0, d1, d2, f0, f1, f2⟩
  have hl2 : bs.size = 2 := by rw [← hl, hxy]; rfl
  have HL2 := Lib.hid hl2
  clear hat0 d0 d1 d2 f0 f1 f2 hxy hl2
  have HV := Lib.hid hv
  have HW := Lib.hid hW
  have HA := Lib.hid hA
  have HI := Lib.hid hI
  have HGG := Lib.hid hG
  have HLE := Lib.hid hl
  have HK := Lib.hid hK
  have HC := Lib.hid hAct
  clear hW hA hv hI hG hK hAct
  obtain ⟨rk, ri, rt⟩ := r
  obtain ⟨xk0, xi0, xt0⟩ := x0
  obtain ⟨yk0, yi0, yt0⟩ := y0
  subst hp
  unfold Still at HK
  unfold Still at HW
  unfold Makes at HA
  unfold IsAt at HI
  unfold Hp.V.val at *
  dsimp only at HC ⊢
  rw [hl] at HA ⊢
  go_enter Try.func11, Try.ntmps11
  go_wp2_with fail
  with_reducible refine (HW.out _).mono ?_
  rintro e w1 ⟨rfl, rfl⟩
  go_wp2_with fail
  with_reducible refine (HA.out _ ((Below.refl _ _).alloc (Nat.le_refl _) _)).mono ?_
  rintro e w2 ⟨rfl, hb⟩
  have HD := Lib.hid ((DoW.first w).next hb)
  clear hb
  go_wp2_with fail
  go_loopg [39] l.length (fun gk i wx => ∃ k : Nat, k ≤ l.length ∧ gk = l.length - k ∧ i = .int .i64 k ∧ Hid (∀ j, j < k → G j = true) ∧ Hid (DoW w wx))
  case atStart => exact ⟨0, Nat.zero_le _, rfl, rfl, fun j hj => by omega, HD.out⟩
  case round =>
    obtain ⟨k, hk, rfl, rfl, HALL, HX⟩ := hrel
    by_cases hlt : k < l.length
    · obtain ⟨x, hx⟩ : ∃ x, l[k]? = some x := ⟨_, List.getElem?_eq_getElem hlt⟩
      have hne : l ≠ [] := fun e => by rw [e] at hlt; simp at hlt
      have hv2 := HV.out.below HX.out.below (Nat.le_refl _)
      rw [hl] at hv2
      obtain ⟨b, off, hbe, hbl, hat⟩ := hv2.at hne
      cases hbe
      obtain ⟨d0, d1, d2⟩ := hat k x hx
      have hks : k < bs.size := by omega
      have HIk := Lib.hid (fun w1 hb => HI.out k x hks hx w1 hb)
      obtain ⟨xk, xi, xt⟩ := x
      dsimp only at *
      have hg1 : (0 : Int) ≤ k := by omega
      have hg2 : (k : Int) < bs.size := by omega
      have hgw : IntKind.i64.wrap ((k : Int) + 1) = k + 1 := by rw [IntKind.wrap_i64]; omega
      clear hat hx hne hv2 HV
      have HS := Lib.hid (new3 wr xk xi xt)
      have hG := HGG.out k hlt
      rw [hG] at HIk
      have HGT := Lib.hid hG
      clear hG HI
      go_wp2_with fail
      go_region_held3 (fun w' => w'.cell? ⟨wr.heap.size, 0, none⟩ = some (.int .i64 xk) ∧ w'.cell? ⟨wr.heap.size, 1, none⟩ = some (.int .i64 xi) ∧ w'.cell? ⟨wr.heap.size, 2, none⟩ = some (.string xt))
        (first | exact HS.out | exact HS4.out)
        (first | (go_at_call 27; (with_reducible refine (HIk.out _ HX.out.at).mono ?_); rintro e w4 ⟨rfl, hb4⟩; have HX4 := Lib.hid (HX.out.call hb4); have HS4 : Hid (New3 wr.heap.size xk xi xt w4) := HS.out.below hb4 (drew_lt _ _); clear hb4))
      go_wp2_with fail
      go_roundg (l.length - (k + 1))
      case measure => omega
      case rel => exact ⟨k + 1, by omega, rfl, by go_num, fun j hj => (Nat.lt_or_eq_of_le (Nat.le_of_lt_succ hj)).elim (fun h => HALL.out j h) (fun h => h ▸ HGT.out), HX4.out⟩
    · obtain rfl : k = l.length := by omega
      go_wp2_with fail
      with_reducible refine (HK.out _).mono ?_
      rintro e w3 ⟨rfl, rfl⟩
      go_wp2_with fail
      have i0 : ∀ w : World, (Instr.index 72 (.agg #[.string ⟨#[43]⟩, .string ⟨#[45]⟩, .string ⟨#[42]⟩, .string ⟨#[113, 117, 111, 116, 105, 101, 110, 116]⟩, .string ⟨#[114, 101, 109, 97, 105, 110, 100, 101, 114]⟩]) (.int .i64 0)).run Try.prog w = .ok (.string ⟨#[43]⟩) w := fun _ => by kernel_rfl
      have i1 : ∀ w : World, (Instr.index 72 (.agg #[.string ⟨#[43]⟩, .string ⟨#[45]⟩, .string ⟨#[42]⟩, .string ⟨#[113, 117, 111, 116, 105, 101, 110, 116]⟩, .string ⟨#[114, 101, 109, 97, 105, 110, 100, 101, 114]⟩]) (.int .i64 1)).run Try.prog w = .ok (.string ⟨#[45]⟩) w := fun _ => by kernel_rfl
      have i2 : ∀ w : World, (Instr.index 72 (.agg #[.string ⟨#[43]⟩, .string ⟨#[45]⟩, .string ⟨#[42]⟩, .string ⟨#[113, 117, 111, 116, 105, 101, 110, 116]⟩, .string ⟨#[114, 101, 109, 97, 105, 110, 100, 101, 114]⟩]) (.int .i64 2)).run Try.prog w = .ok (.string ⟨#[42]⟩) w := fun _ => by kernel_rfl
      have i3 : ∀ w : World, (Instr.index 72 (.agg #[.string ⟨#[43]⟩, .string ⟨#[45]⟩, .string ⟨#[42]⟩, .string ⟨#[113, 117, 111, 116, 105, 101, 110, 116]⟩, .string ⟨#[114, 101, 109, 97, 105, 110, 100, 101, 114]⟩]) (.int .i64 3)).run Try.prog w = .ok (.string ⟨#[113, 117, 111, 116, 105, 101, 110, 116]⟩) w := fun _ => by kernel_rfl
      have i4 : ∀ w : World, (Instr.index 72 (.agg #[.string ⟨#[43]⟩, .string ⟨#[45]⟩, .string ⟨#[42]⟩, .string ⟨#[113, 117, 111, 116, 105, 101, 110, 116]⟩, .string ⟨#[114, 101, 109, 97, 105, 110, 100, 101, 114]⟩]) (.int .i64 4)).run Try.prog w = .ok (.string ⟨#[114, 101, 109, 97, 105, 110, 100, 101, 114]⟩) w := fun _ => by kernel_rfl
      go_loopg [84] 2 (fun gk i wx => ∃ k : Int, (k = 0 ∨ k = 1 ∨ k = 2) ∧ gk = 2 - k.toNat ∧ i = .int .i64 k ∧ Hid (DoW w wx))
      case atStart => exact ⟨0, by omega, rfl, rfl, HX.out⟩
      case round =>
        obtain ⟨k, hk, rfl, rfl, HY⟩ := hrel
        rcases hk with rfl | rfl | rfl
        · go_wp2_with fail
          go_roundg 1
          case measure => decide
          case rel => exact ⟨1, by omega, rfl, rfl, HY.out⟩
        · go_wp2_with fail
          go_roundg 0
          case measure => decide
          case rel => exact ⟨2, by omega, rfl, rfl, HY.out⟩
        · have hg0 : (0 : Int) < bs.size := by have := HL2.out; omega
          have hg1 : (1 : Int) < bs.size := by have := HL2.out; omega
          have hg0n : 0 < bs.size := by have := HL2.out; omega
          have hg1n : 1 < bs.size := by have := HL2.out; omega
          have HS : Hid (ArgC b0 off0 [⟨xk0, xi0, xt0⟩, ⟨yk0, yi0, yt0⟩] wr.drew) := (HCL.out.below HY.out.below hbl0).same fun _ => rfl
          go_wp2_with fail
          go_region_held3 (fun w' => w'.cell? ⟨b0, off0, none⟩ = some (.int .i64 xk0) ∧ w'.cell? ⟨b0, off0 + 1, none⟩ = some (.int .i64 xi0) ∧ w'.cell? ⟨b0, off0 + 2, none⟩ = some (.string xt0) ∧ w'.cell? ⟨b0, off0 + 3, none⟩ = some (.int .i64 yk0) ∧ w'.cell? ⟨b0, off0 + 3 + 1, none⟩ = some (.int .i64 yi0) ∧ w'.cell? ⟨b0, off0 + 3 + 2, none⟩ = some (.string yt0))
            (first | exact HS.out | exact HS5.out | exact HS5.out.stored3 (by omega) _ _ _)
            (first | (go_at_call 30; (with_reducible refine (HC.out _).mono ?_); rintro e w5 ⟨rfl, hb5⟩; have HY2 := Lib.hid (HY.out.next ((Below.refl _ _).drew.trans hb5)); have HS5 : Hid (ArgC b0 off0 [⟨xk0, xi0, xt0⟩, ⟨yk0, yi0, yt0⟩] w5) := HS.out.below hb5 (Nat.lt_of_lt_of_le hbl0 HY.out.below.size); obtain ⟨q0, q1, q2, k0, k1, k2⟩ := HY2.out.cells; clear hb5))
          go_wp2_with fail
          refine bodyPost_ret (res2 rfl _ _ w.heap.size 27 _ (0, 0) rfl (three_set _ _ _ _ _ _ _ _ _ HY2.out.blk) valD valSize) rfl ?_
          exact ⟨by simp, below_three HY2.out.below (Nat.le_refl _) _ _ _⟩
set_option maxHeartbeats 2000000 in
set_option maxRecDepth 100000 in
theorem do_op3 (h : Nat) (p bs : ByteArray) (av : Value) (l : List Hp.V) (w : World) (hv : VSl w av l) (hl : l.length = bs.size) (hlm : l.length ≤ 1000) (G : Nat → Bool) (hW : Still 25 #[.string p] (.tuple #[.string bs, .bool true]))
    (hA : Makes w 26 #[.pointer (some ⟨h, 0, none⟩), av] (.bool true)) (hI : IsAt w h l bs G) (hG : ∀ k, k < l.length → G k = true) (r : Hp.V) (er : Int) (x0 y0 : Hp.V) (hxy : l = [x0, y0])
    (hK : Still 28 #[.string p] (.tuple #[.int .i64 (-1), .int .u8 0])) (hp : p = ⟨#[113, 117, 111, 116, 105, 101, 110, 116]⟩)
    (hAct : ∀ w1, Calls Try.prog 30 #[.int .i64 3, x0.val, y0.val] w1 fun e w' => e = .returned (.tuple #[r.val, .int .i64 er]) ∧ Below w1.heap.size w1 w') :
    Calls Try.prog 11 #[.pointer (some ⟨h, 0, none⟩), .string p, av] w fun e w' => e = .returned (.tuple #[r.val, .int .i64 er]) ∧ Below w.heap.size w w' := by
  obtain ⟨a, c, rfl⟩ := hv.len
  obtain ⟨b0, off0, rfl, hbl0, hat0⟩ := hv.at (by rw [hxy]; simp)
  obtain ⟨d0, d1, d2⟩ := hat0 0 x0 (by rw [hxy]; rfl)
  obtain ⟨f0, f1, f2⟩ := hat0 1 y0 (by rw [hxy]; rfl)
  rw [Nat.zero_mul, Nat.add_zero] at d0 d1 d2
  rw [Nat.one_mul] at f0 f1 f2
  have HCL : Hid (ArgC b0 off0 [x0, y0] w) := ⟨d0, d1, d2, f0, f1, f2⟩
  have hl2 : bs.size = 2 := by rw [← hl, hxy]; rfl
  have HL2 := Lib.hid hl2
  clear hat0 d0 d1 d2 f0 f1 f2 hxy hl2
  have HV := Lib.hid hv
  have HW := Lib.hid hW
  have HA := Lib.hid hA
  have HI := Lib.hid hI
  have HGG := Lib.hid hG
  have HLE := Lib.hid hl
  have HK := Lib.hid hK
  have HC := Lib.hid hAct
  clear hW hA hv hI hG hK hAct
  obtain ⟨rk, ri, rt⟩ := r
  obtain ⟨xk0, xi0, xt0⟩ := x0
  obtain ⟨yk0, yi0, yt0⟩ := y0
  subst hp
  unfold Still at HK
  unfold Still at HW
  unfold Makes at HA
  unfold IsAt at HI
  unfold Hp.V.val at *
  dsimp only at HC ⊢
  rw [hl] at HA ⊢
  go_enter Try.func11, Try.ntmps11
  go_wp2_with fail
  with_reducible refine (HW.out _).mono ?_
  rintro e w1 ⟨rfl, rfl⟩
  go_wp2_with fail
  with_reducible refine (HA.out _ ((Below.refl _ _).alloc (Nat.le_refl _) _)).mono ?_
  rintro e w2 ⟨rfl, hb⟩
  have HD := Lib.hid ((DoW.first w).next hb)
  clear hb
  go_wp2_with fail
  go_loopg [39] l.length (fun gk i wx => ∃ k : Nat, k ≤ l.length ∧ gk = l.length - k ∧ i = .int .i64 k ∧ Hid (∀ j, j < k → G j = true) ∧ Hid (DoW w wx))
  case atStart => exact ⟨0, Nat.zero_le _, rfl, rfl, fun j hj => by omega, HD.out⟩
  case round =>
    obtain ⟨k, hk, rfl, rfl, HALL, HX⟩ := hrel
    by_cases hlt : k < l.length
    · obtain ⟨x, hx⟩ : ∃ x, l[k]? = some x := ⟨_, List.getElem?_eq_getElem hlt⟩
      have hne : l ≠ [] := fun e => by rw [e] at hlt; simp at hlt
      have hv2 := HV.out.below HX.out.below (Nat.le_refl _)
      rw [hl] at hv2
      obtain ⟨b, off, hbe, hbl, hat⟩ := hv2.at hne
      cases hbe
      obtain ⟨d0, d1, d2⟩ := hat k x hx
      have hks : k < bs.size := by omega
      have HIk := Lib.hid (fun w1 hb => HI.out k x hks hx w1 hb)
      obtain ⟨xk, xi, xt⟩ := x
      dsimp only at *
      have hg1 : (0 : Int) ≤ k := by omega
      have hg2 : (k : Int) < bs.size := by omega
      have hgw : IntKind.i64.wrap ((k : Int) + 1) = k + 1 := by rw [IntKind.wrap_i64]; omega
      clear hat hx hne hv2 HV
      have HS := Lib.hid (new3 wr xk xi xt)
      have hG := HGG.out k hlt
      rw [hG] at HIk
      have HGT := Lib.hid hG
      clear hG HI
      go_wp2_with fail
      go_region_held3 (fun w' => w'.cell? ⟨wr.heap.size, 0, none⟩ = some (.int .i64 xk) ∧ w'.cell? ⟨wr.heap.size, 1, none⟩ = some (.int .i64 xi) ∧ w'.cell? ⟨wr.heap.size, 2, none⟩ = some (.string xt))
        (first | exact HS.out | exact HS4.out)
        (first | (go_at_call 27; (with_reducible refine (HIk.out _ HX.out.at).mono ?_); rintro e w4 ⟨rfl, hb4⟩; have HX4 := Lib.hid (HX.out.call hb4); have HS4 : Hid (New3 wr.heap.size xk xi xt w4) := HS.out.below hb4 (drew_lt _ _); clear hb4))
      go_wp2_with fail
      go_roundg (l.length - (k + 1))
      case measure => omega
      case rel => exact ⟨k + 1, by omega, rfl, by go_num, fun j hj => (Nat.lt_or_eq_of_le (Nat.le_of_lt_succ hj)).elim (fun h => HALL.out j h) (fun h => h ▸ HGT.out), HX4.out⟩
    · obtain rfl : k = l.length := by omega
      go_wp2_with fail
      with_reducible refine (HK.out _).mono ?_
      rintro e w3 ⟨rfl, rfl⟩
      go_wp2_with fail
      have i0 : ∀ w : World, (Instr.index 72 (.agg #[.string ⟨#[43]⟩, .string ⟨#[45]⟩, .string ⟨#[42]⟩, .string ⟨#[113, 117, 111, 116, 105, 101, 110, 116]⟩, .string ⟨#[114, 101, 109, 97, 105, 110, 100, 101, 114]⟩]) (.int .i64 0)).run Try.prog w = .ok (.string ⟨#[43]⟩) w := fun _ => by kernel_rfl
      have i1 : ∀ w : World, (Instr.index 72 (.agg #[.string ⟨#[43]⟩, .string ⟨#[45]⟩, .string ⟨#[42]⟩, .string ⟨#[113, 117, 111, 116, 105, 101, 110, 116]⟩, .string ⟨#[114, 101, 109, 97, 105, 110, 100, 101, 114]⟩]) (.int .i64 1)).run Try.prog w = .ok (.string ⟨#[45]⟩) w := fun _ => by kernel_rfl
      have i2 : ∀ w : World, (Instr.index 72 (.agg #[.string ⟨#[43]⟩, .string ⟨#[45]⟩, .string ⟨#[42]⟩, .string ⟨#[113, 117, 111, 116, 105, 101, 110, 116]⟩, .string ⟨#[114, 101, 109, 97, 105, 110, 100, 101, 114]⟩]) (.int .i64 2)).run Try.prog w = .ok (.string ⟨#[42]⟩) w := fun _ => by kernel_rfl
      have i3 : ∀ w : World, (Instr.index 72 (.agg #[.string ⟨#[43]⟩, .string ⟨#[45]⟩, .string ⟨#[42]⟩, .string ⟨#[113, 117, 111, 116, 105, 101, 110, 116]⟩, .string ⟨#[114, 101, 109, 97, 105, 110, 100, 101, 114]⟩]) (.int .i64 3)).run Try.prog w = .ok (.string ⟨#[113, 117, 111, 116, 105, 101, 110, 116]⟩) w := fun _ => by kernel_rfl
      have i4 : ∀ w : World, (Instr.index 72 (.agg #[.string ⟨#[43]⟩, .string ⟨#[45]⟩, .string ⟨#[42]⟩, .string ⟨#[113, 117, 111, 116, 105, 101, 110, 116]⟩, .string ⟨#[114, 101, 109, 97, 105, 110, 100, 101, 114]⟩]) (.int .i64 4)).run Try.prog w = .ok (.string ⟨#[114, 101, 109, 97, 105, 110, 100, 101, 114]⟩) w := fun _ => by kernel_rfl
      go_loopg [84] 3 (fun gk i wx => ∃ k : Int, (k = 0 ∨ k = 1 ∨ k = 2 ∨ k = 3) ∧ gk = 3 - k.toNat ∧ i = .int .i64 k ∧ Hid (DoW w wx))
      case atStart => exact ⟨0, by omega, rfl, rfl, HX.out⟩
      case round =>
        obtain ⟨k, hk, rfl, rfl, HY⟩ := hrel
        rcases hk with rfl | rfl | rfl | rfl
        · go_wp2_with fail
          go_roundg 2
          case measure => decide
          case rel => exact ⟨1, by omega, rfl, rfl, HY.out⟩
        · go_wp2_with fail
          go_roundg 1
          case measure => decide
          case rel => exact ⟨2, by omega, rfl, rfl, HY.out⟩
        · go_wp2_with fail
          go_roundg 0
          case measure => decide
          case rel => exact ⟨3, by omega, rfl, rfl, HY.out⟩
        · have hg0 : (0 : Int) < bs.size := by have := HL2.out; omega
          have hg1 : (1 : Int) < bs.size := by have := HL2.out; omega
          have hg0n : 0 < bs.size := by have := HL2.out; omega
          have hg1n : 1 < bs.size := by have := HL2.out; omega
          have HS : Hid (ArgC b0 off0 [⟨xk0, xi0, xt0⟩, ⟨yk0, yi0, yt0⟩] wr.drew) := (HCL.out.below HY.out.below hbl0).same fun _ => rfl
          go_wp2_with fail
          go_region_held3 (fun w' => w'.cell? ⟨b0, off0, none⟩ = some (.int .i64 xk0) ∧ w'.cell? ⟨b0, off0 + 1, none⟩ = some (.int .i64 xi0) ∧ w'.cell? ⟨b0, off0 + 2, none⟩ = some (.string xt0) ∧ w'.cell? ⟨b0, off0 + 3, none⟩ = some (.int .i64 yk0) ∧ w'.cell? ⟨b0, off0 + 3 + 1, none⟩ = some (.int .i64 yi0) ∧ w'.cell? ⟨b0, off0 + 3 + 2, none⟩ = some (.string yt0))
            (first | exact HS.out | exact HS5.out | exact HS5.out.stored3 (by omega) _ _ _)
            (first | (go_at_call 30; (with_reducible refine (HC.out _).mono ?_); rintro e w5 ⟨rfl, hb5⟩; have HY2 := Lib.hid (HY.out.next ((Below.refl _ _).drew.trans hb5)); have HS5 : Hid (ArgC b0 off0 [⟨xk0, xi0, xt0⟩, ⟨yk0, yi0, yt0⟩] w5) := HS.out.below hb5 (Nat.lt_of_lt_of_le hbl0 HY.out.below.size); obtain ⟨q0, q1, q2, k0, k1, k2⟩ := HY2.out.cells; clear hb5))
          go_wp2_with fail
          refine bodyPost_ret (res2 rfl _ _ w.heap.size 27 _ (0, 0) rfl (three_set _ _ _ _ _ _ _ _ _ HY2.out.blk) valD valSize) rfl ?_
          exact ⟨by simp, below_three HY2.out.below (Nat.le_refl _) _ _ _⟩
set_option maxHeartbeats 2000000 in
set_option maxRecDepth 100000 in
theorem do_op4 (h : Nat) (p bs : ByteArray) (av : Value) (l : List Hp.V) (w : World) (hv : VSl w av l) (hl : l.length = bs.size) (hlm : l.length ≤ 1000) (G : Nat → Bool) (hW : Still 25 #[.string p] (.tuple #[.string bs, .bool true]))
    (hA : Makes w 26 #[.pointer (some ⟨h, 0, none⟩), av] (.bool true)) (hI : IsAt w h l bs G) (hG : ∀ k, k < l.length → G k = true) (r : Hp.V) (er : Int) (x0 y0 : Hp.V) (hxy : l = [x0, y0])
    (hK : Still 28 #[.string p] (.tuple #[.int .i64 (-1), .int .u8 0])) (hp : p = ⟨#[114, 101, 109, 97, 105, 110, 100, 101, 114]⟩)
    (hAct : ∀ w1, Calls Try.prog 30 #[.int .i64 4, x0.val, y0.val] w1 fun e w' => e = .returned (.tuple #[r.val, .int .i64 er]) ∧ Below w1.heap.size w1 w') :
    Calls Try.prog 11 #[.pointer (some ⟨h, 0, none⟩), .string p, av] w fun e w' => e = .returned (.tuple #[r.val, .int .i64 er]) ∧ Below w.heap.size w w' := by
  obtain ⟨a, c, rfl⟩ := hv.len
  obtain ⟨b0, off0, rfl, hbl0, hat0⟩ := hv.at (by rw [hxy]; simp)
  obtain ⟨d0, d1, d2⟩ := hat0 0 x0 (by rw [hxy]; rfl)
  obtain ⟨f0, f1, f2⟩ := hat0 1 y0 (by rw [hxy]; rfl)
  rw [Nat.zero_mul, Nat.add_zero] at d0 d1 d2
  rw [Nat.one_mul] at f0 f1 f2
  have HCL : Hid (ArgC b0 off0 [x0, y0] w) := ⟨d0, d1, d2, f0, f1, f2⟩
  have hl2 : bs.size = 2 := by rw [← hl, hxy]; rfl
  have HL2 := Lib.hid hl2
  clear hat0 d0 d1 d2 f0 f1 f2 hxy hl2
  have HV := Lib.hid hv
  have HW := Lib.hid hW
  have HA := Lib.hid hA
  have HI := Lib.hid hI
  have HGG := Lib.hid hG
  have HLE := Lib.hid hl
  have HK := Lib.hid hK
  have HC := Lib.hid hAct
  clear hW hA hv hI hG hK hAct
  obtain ⟨rk, ri, rt⟩ := r
  obtain ⟨xk0, xi0, xt0⟩ := x0
  obtain ⟨yk0, yi0, yt0⟩ := y0
  subst hp
  unfold Still at HK
  unfold Still at HW
  unfold Makes at HA
  unfold IsAt at HI
  unfold Hp.V.val at *
  dsimp only at HC ⊢
  rw [hl] at HA ⊢
  go_enter Try.func11, Try.ntmps11
  go_wp2_with fail
  with_reducible refine (HW.out _).mono ?_
  rintro e w1 ⟨rfl, rfl⟩
  go_wp2_with fail
  with_reducible refine (HA.out _ ((Below.refl _ _).alloc (Nat.le_refl _) _)).mono ?_
  rintro e w2 ⟨rfl, hb⟩
  have HD := Lib.hid ((DoW.first w).next hb)
  clear hb
  go_wp2_with fail
  go_loopg [39] l.length (fun gk i wx => ∃ k : Nat, k ≤ l.length ∧ gk = l.length - k ∧ i = .int .i64 k ∧ Hid (∀ j, j < k → G j = true) ∧ Hid (DoW w wx))
  case atStart => exact ⟨0, Nat.zero_le _, rfl, rfl, fun j hj => by omega, HD.out⟩
  case round =>
    obtain ⟨k, hk, rfl, rfl, HALL, HX⟩ := hrel
    by_cases hlt : k < l.length
    · obtain ⟨x, hx⟩ : ∃ x, l[k]? = some x := ⟨_, List.getElem?_eq_getElem hlt⟩
      have hne : l ≠ [] := fun e => by rw [e] at hlt; simp at hlt
      have hv2 := HV.out.below HX.out.below (Nat.le_refl _)
      rw [hl] at hv2
      obtain ⟨b, off, hbe, hbl, hat⟩ := hv2.at hne
      cases hbe
      obtain ⟨d0, d1, d2⟩ := hat k x hx
      have hks : k < bs.size := by omega
      have HIk := Lib.hid (fun w1 hb => HI.out k x hks hx w1 hb)
      obtain ⟨xk, xi, xt⟩ := x
      dsimp only at *
      have hg1 : (0 : Int) ≤ k := by omega
      have hg2 : (k : Int) < bs.size := by omega
      have hgw : IntKind.i64.wrap ((k : Int) + 1) = k + 1 := by rw [IntKind.wrap_i64]; omega
      clear hat hx hne hv2 HV
      have HS := Lib.hid (new3 wr xk xi xt)
      have hG := HGG.out k hlt
      rw [hG] at HIk
      have HGT := Lib.hid hG
      clear hG HI
      go_wp2_with fail
      go_region_held3 (fun w' => w'.cell? ⟨wr.heap.size, 0, none⟩ = some (.int .i64 xk) ∧ w'.cell? ⟨wr.heap.size, 1, none⟩ = some (.int .i64 xi) ∧ w'.cell? ⟨wr.heap.size, 2, none⟩ = some (.string xt))
        (first | exact HS.out | exact HS4.out)
        (first | (go_at_call 27; (with_reducible refine (HIk.out _ HX.out.at).mono ?_); rintro e w4 ⟨rfl, hb4⟩; have HX4 := Lib.hid (HX.out.call hb4); have HS4 : Hid (New3 wr.heap.size xk xi xt w4) := HS.out.below hb4 (drew_lt _ _); clear hb4))
      go_wp2_with fail
      go_roundg (l.length - (k + 1))
      case measure => omega
      case rel => exact ⟨k + 1, by omega, rfl, by go_num, fun j hj => (Nat.lt_or_eq_of_le (Nat.le_of_lt_succ hj)).elim (fun h => HALL.out j h) (fun h => h ▸ HGT.out), HX4.out⟩
    · obtain rfl : k = l.length := by omega
      go_wp2_with fail
      with_reducible refine (HK.out _).mono ?_
      rintro e w3 ⟨rfl, rfl⟩
      go_wp2_with fail
      have i0 : ∀ w : World, (Instr.index 72 (.agg #[.string ⟨#[43]⟩, .string ⟨#[45]⟩, .string ⟨#[42]⟩, .string ⟨#[113, 117, 111, 116, 105, 101, 110, 116]⟩, .string ⟨#[114, 101, 109, 97, 105, 110, 100, 101, 114]⟩]) (.int .i64 0)).run Try.prog w = .ok (.string ⟨#[43]⟩) w := fun _ => by kernel_rfl
      have i1 : ∀ w : World, (Instr.index 72 (.agg #[.string ⟨#[43]⟩, .string ⟨#[45]⟩, .string ⟨#[42]⟩, .string ⟨#[113, 117, 111, 116, 105, 101, 110, 116]⟩, .string ⟨#[114, 101, 109, 97, 105, 110, 100, 101, 114]⟩]) (.int .i64 1)).run Try.prog w = .ok (.string ⟨#[45]⟩) w := fun _ => by kernel_rfl
      have i2 : ∀ w : World, (Instr.index 72 (.agg #[.string ⟨#[43]⟩, .string ⟨#[45]⟩, .string ⟨#[42]⟩, .string ⟨#[113, 117, 111, 116, 105, 101, 110, 116]⟩, .string ⟨#[114, 101, 109, 97, 105, 110, 100, 101, 114]⟩]) (.int .i64 2)).run Try.prog w = .ok (.string ⟨#[42]⟩) w := fun _ => by kernel_rfl
      have i3 : ∀ w : World, (Instr.index 72 (.agg #[.string ⟨#[43]⟩, .string ⟨#[45]⟩, .string ⟨#[42]⟩, .string ⟨#[113, 117, 111, 116, 105, 101, 110, 116]⟩, .string ⟨#[114, 101, 109, 97, 105, 110, 100, 101, 114]⟩]) (.int .i64 3)).run Try.prog w = .ok (.string ⟨#[113, 117, 111, 116, 105, 101, 110, 116]⟩) w := fun _ => by kernel_rfl
      have i4 : ∀ w : World, (Instr.index 72 (.agg #[.string ⟨#[43]⟩, .string ⟨#[45]⟩, .string ⟨#[42]⟩, .string ⟨#[113, 117, 111, 116, 105, 101, 110, 116]⟩, .string ⟨#[114, 101, 109, 97, 105, 110, 100, 101, 114]⟩]) (.int .i64 4)).run Try.prog w = .ok (.string ⟨#[114, 101, 109, 97, 105, 110, 100, 101, 114]⟩) w := fun _ => by kernel_rfl
      go_loopg [84] 4 (fun gk i wx => ∃ k : Int, (k = 0 ∨ k = 1 ∨ k = 2 ∨ k = 3 ∨ k = 4) ∧ gk = 4 - k.toNat ∧ i = .int .i64 k ∧ Hid (DoW w wx))
      case atStart => exact ⟨0, by omega, rfl, rfl, HX.out⟩
      case round =>
        obtain ⟨k, hk, rfl, rfl, HY⟩ := hrel
        rcases hk with rfl | rfl | rfl | rfl | rfl
        · go_wp2_with fail
          go_roundg 3
          case measure => decide
          case rel => exact ⟨1, by omega, rfl, rfl, HY.out⟩
        · go_wp2_with fail
          go_roundg 2
          case measure => decide
          case rel => exact ⟨2, by omega, rfl, rfl, HY.out⟩
        · go_wp2_with fail
          go_roundg 1
          case measure => decide
          case rel => exact ⟨3, by omega, rfl, rfl, HY.out⟩
        · go_wp2_with fail
          go_roundg 0
          case measure => decide
          case rel => exact ⟨4, by omega, rfl, rfl, HY.out⟩
        · have hg0 : (0 : Int) < bs.size := by have := HL2.out; omega
          have hg1 : (1 : Int) < bs.size := by have := HL2.out; omega
          have hg0n : 0 < bs.size := by have := HL2.out; omega
          have hg1n : 1 < bs.size := by have := HL2.out; omega
          have HS : Hid (ArgC b0 off0 [⟨xk0, xi0, xt0⟩, ⟨yk0, yi0, yt0⟩] wr.drew) := (HCL.out.below HY.out.below hbl0).same fun _ => rfl
          go_wp2_with fail
          go_region_held3 (fun w' => w'.cell? ⟨b0, off0, none⟩ = some (.int .i64 xk0) ∧ w'.cell? ⟨b0, off0 + 1, none⟩ = some (.int .i64 xi0) ∧ w'.cell? ⟨b0, off0 + 2, none⟩ = some (.string xt0) ∧ w'.cell? ⟨b0, off0 + 3, none⟩ = some (.int .i64 yk0) ∧ w'.cell? ⟨b0, off0 + 3 + 1, none⟩ = some (.int .i64 yi0) ∧ w'.cell? ⟨b0, off0 + 3 + 2, none⟩ = some (.string yt0))
            (first | exact HS.out | exact HS5.out | exact HS5.out.stored3 (by omega) _ _ _)
            (first | (go_at_call 30; (with_reducible refine (HC.out _).mono ?_); rintro e w5 ⟨rfl, hb5⟩; have HY2 := Lib.hid (HY.out.next ((Below.refl _ _).drew.trans hb5)); have HS5 : Hid (ArgC b0 off0 [⟨xk0, xi0, xt0⟩, ⟨yk0, yi0, yt0⟩] w5) := HS.out.below hb5 (Nat.lt_of_lt_of_le hbl0 HY.out.below.size); obtain ⟨q0, q1, q2, k0, k1, k2⟩ := HY2.out.cells; clear hb5))
          go_wp2_with fail
          refine bodyPost_ret (res2 rfl _ _ w.heap.size 27 _ (0, 0) rfl (three_set _ _ _ _ _ _ _ _ _ HY2.out.blk) valD valSize) rfl ?_
          exact ⟨by simp, below_three HY2.out.below (Nat.le_refl _) _ _ _⟩
end Go.Proofs.Ythbnhneibpoooaa
