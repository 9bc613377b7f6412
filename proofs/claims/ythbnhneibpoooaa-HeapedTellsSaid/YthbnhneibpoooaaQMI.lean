/- The heap's Do. -/
import Derived.Test.YthbnhneibpoooaaQMG
set_option linter.unusedVariables false
set_option linter.unusedSimpArgs false
set_option linter.unnecessarySimpa false
namespace Go.Proofs.Ythbnhneibpoooaa
open Go.RowKit
set_option linter.unusedVariables false
set_option linter.unusedSimpArgs false
/-- What a call that leaves the world alone answers. -/
def Still (f : Nat) (args : Array Value) (v : Value) : Prop := ∀ w1, Calls Try.prog f args w1 fun e w' => e = .returned v ∧ w1 = w'
/-- What a call that only makes memory answers. -/
def Makes (w : World) (f : Nat) (args : Array Value) (v : Value) : Prop := ∀ w1, Below w.heap.size w w1 → Calls Try.prog f args w1 fun e w' => e = .returned v ∧ Below w1.heap.size w1 w'
theorem below_one {w w2 : World} {o : Obj} (hb : Below (w.alloc o).heap.size (w.alloc o) w2) : Below w.heap.size w w2 := ((Below.refl w.heap.size w).alloc (Nat.le_refl _) o).trans (hb.mono (by simp))
set_option maxHeartbeats 1000000 in
set_option maxRecDepth 100000 in
theorem do_bad (h : Nat) (p bs : ByteArray) (ok A : Bool) (av : Value) (n c : Nat) (a : Option Addr) (hav : av = .slice a n c) (w : World) (hW : Still 25 #[.string p] (.tuple #[.string bs, .bool ok]))
    (hA : Makes w 26 #[.pointer (some ⟨h, 0, none⟩), av] (.bool A)) (hbad : ok = false ∨ n ≠ bs.size ∨ A = false) :
    Calls Try.prog 11 #[.pointer (some ⟨h, 0, none⟩), .string p, av] w fun e w' => e = .returned (.tuple #[Hp.none.val, .int .i64 1]) ∧ Below w.heap.size w w' := by
  subst hav
  have HW := Lib.hid hW
  have HA := Lib.hid hA
  clear hW hA
  unfold Still at HW
  unfold Makes at HA
  cases ok with
  | false =>
    clear hbad
    go_enter Try.func11, Try.ntmps11
    go_wp2_with fail
    with_reducible refine (HW.out _).mono ?_
    rintro e w1 ⟨rfl, rfl⟩
    go_wp2_with fail
    refine bodyPost_ret (res2 rfl _ _ w.heap.size 27 _ (0, 0) rfl (heap_alloc_new w _) valD valSize) rfl ?_
    exact ⟨rfl, (Below.refl _ _).alloc (Nat.le_refl _) _⟩
  | true =>
    by_cases hn : n = bs.size
    · have hA2 : A = false := by
        rcases hbad with h | h | h
        · cases h
        · exact absurd hn h
        · exact h
      subst hA2
      subst hn
      clear hbad
      go_enter Try.func11, Try.ntmps11
      go_wp2_with fail
      with_reducible refine (HW.out _).mono ?_
      rintro e w1 ⟨rfl, rfl⟩
      go_wp2_with fail
      with_reducible refine (HA.out _ ((Below.refl _ _).alloc (Nat.le_refl _) _)).mono ?_
      rintro e w2 ⟨rfl, hb⟩
      have hz : w2.heap[w.heap.size]? = some (.cells #[.int .i64 0, .int .i64 0, .string ⟨#[]⟩] 27 (0, 0)) := (hb.block _ (by simp)).trans (heap_alloc_new w _)
      have q0 := cell_of_row w2 _ 0 _ _ _ hz
      have q1 := cell_of_row w2 _ 1 _ _ _ hz
      have q2 := cell_of_row w2 _ 2 _ _ _ hz
      simp only [List.getElem?_toArray, List.getElem?_cons_zero, List.getElem?_cons_succ] at q0 q1 q2
      have k0 := frozen_of_row w2 _ 0 _ _ hz
      have k1 := frozen_of_row w2 _ 1 _ _ hz
      have k2 := frozen_of_row w2 _ 2 _ _ hz
      have HZ := Lib.hid hz
      have HB := Lib.hid (below_one hb)
      clear hz hb
      go_wp2_with fail
      refine bodyPost_ret (res2 rfl _ _ w.heap.size 27 _ (0, 0) rfl (three_set _ _ _ _ _ _ _ _ _ HZ.out) valD valSize) rfl ?_
      exact ⟨by simp [Hp.none, Hp.V.val], below_three HB.out (Nat.le_refl _) _ _ _⟩
    · have g1 : ¬ (n : Int) = (bs.size : Int) := by omega
      have g2 := beq_eq_false_iff_ne.2 g1
      have g3 := beq_eq_false_iff_ne.2 hn
      clear hbad
      go_enter Try.func11, Try.ntmps11
      go_wp2_with fail
      with_reducible refine (HW.out _).mono ?_
      rintro e w1 ⟨rfl, rfl⟩
      go_wp2_with fail
      refine bodyPost_ret (res2 rfl _ _ w.heap.size 27 _ (0, 0) rfl (heap_alloc_new w _) valD valSize) rfl ?_
      exact ⟨rfl, (Below.refl _ _).alloc (Nat.le_refl _) _⟩
end Go.Proofs.Ythbnhneibpoooaa
/- The heap's Do behind its checks. -/
namespace Go.Proofs.Ythbnhneibpoooaa
open Go.RowKit
set_option linter.unusedVariables false
set_option linter.unusedSimpArgs false
/-- What is of a world in which a call's result block stands. -/
structure DoW (w wx : World) : Prop where
  below : Below w.heap.size w wx
  lt : w.heap.size < wx.heap.size
  blk : wx.heap[w.heap.size]? = some (.cells #[.int .i64 0, .int .i64 0, .string ⟨#[]⟩] 27 (0, 0))
theorem DoW.next {w wx wy : World} (h : DoW w wx) (hb : Below wx.heap.size wx wy) : DoW w wy :=
  ⟨h.below.trans (hb.mono h.below.size), Nat.lt_of_lt_of_le h.lt hb.size, (hb.block _ h.lt).trans h.blk⟩
theorem DoW.first (w : World) : DoW w (w.alloc (.cells #[.int .i64 0, .int .i64 0, .string ⟨#[]⟩] 27)) := ⟨(Below.refl _ _).alloc (Nat.le_refl _) _, by simp, heap_alloc_new w _⟩
theorem DoW.cells {w wx : World} (h : DoW w wx) : wx.cell? ⟨w.heap.size, 0, none⟩ = some (.int .i64 0) ∧ wx.cell? ⟨w.heap.size, 1, none⟩ = some (.int .i64 0) ∧ wx.cell? ⟨w.heap.size, 2, none⟩ = some (.string ⟨#[]⟩) ∧ wx.frozen? ⟨w.heap.size, 0, none⟩ = false ∧ wx.frozen? ⟨w.heap.size, 1, none⟩ = false ∧ wx.frozen? ⟨w.heap.size, 2, none⟩ = false := by
  have q0 := cell_of_row wx _ 0 _ _ _ h.blk
  have q1 := cell_of_row wx _ 1 _ _ _ h.blk
  have q2 := cell_of_row wx _ 2 _ _ _ h.blk
  simp only [List.getElem?_toArray, List.getElem?_cons_zero, List.getElem?_cons_succ] at q0 q1 q2
  exact ⟨q0, q1, q2, frozen_of_row wx _ 0 _ _ h.blk, frozen_of_row wx _ 1 _ _ h.blk, frozen_of_row wx _ 2 _ _ h.blk⟩
theorem DoW.call {w wx w4 : World} {o : Obj} (h : DoW w wx) (hb : Below (wx.alloc o).drew.heap.size (wx.alloc o).drew w4) : DoW w w4 := by
  have h1 : Below wx.heap.size wx (wx.alloc o).drew := ((Below.refl _ _).alloc (Nat.le_refl _) _).drew
  exact h.next (h1.trans (hb.mono h1.size))
theorem DoW.at {w wx : World} {o : Obj} (h : DoW w wx) : Below w.heap.size w (wx.alloc o).drew := (h.below.alloc h.below.size _).drew
/-- A new block of a value reads as it. -/
def New3 (g : Nat) (k i : Int) (t : ByteArray) (w : World) : Prop := w.cell? ⟨g, 0, none⟩ = some (.int .i64 k) ∧ w.cell? ⟨g, 1, none⟩ = some (.int .i64 i) ∧ w.cell? ⟨g, 2, none⟩ = some (.string t)
theorem new3 (w : World) (k i : Int) (t : ByteArray) : New3 w.heap.size k i t (w.alloc (.cells #[.int .i64 k, .int .i64 i, .string t] 27)).drew := by
  refine ⟨?_, ?_, ?_⟩
  all_goals
    show (w.alloc _).cell? _ = _
    rw [World.cell?_alloc_at _ _ _ _ rfl]
    rfl
theorem New3.below {g N : Nat} {k i : Int} {t : ByteArray} {w w' : World} (h : New3 g k i t w) (hb : Below N w w') (hg : g < N) : New3 g k i t w' := ⟨(hb.cell (p := ⟨g, 0, none⟩) hg).trans h.1, (hb.cell (p := ⟨g, 1, none⟩) hg).trans h.2.1, (hb.cell (p := ⟨g, 2, none⟩) hg).trans h.2.2⟩
theorem drew_lt (w : World) (o : Obj) : w.heap.size < (w.alloc o).drew.heap.size := by show _ < (w.alloc o).heap.size; simp
/-- What is gives of the k-th argument. -/
def IsAt (w : World) (h : Nat) (l : List Hp.V) (bs : ByteArray) (G : Nat → Bool) : Prop :=
  ∀ (k : Nat) (x : Hp.V) (hk : k < bs.size), l[k]? = some x → ∀ w1, Below w.heap.size w w1 → Calls Try.prog 27 #[.pointer (some ⟨h, 0, none⟩), x.val, .int .u8 (bs[k].toNat : Nat)] w1 fun e w' => e = .returned (.bool (G k)) ∧ Below w1.heap.size w1 w'
set_option maxHeartbeats 2000000 in
set_option maxRecDepth 100000 in
theorem do_type (h : Nat) (p bs : ByteArray) (av : Value) (l : List Hp.V) (w : World) (hv : VSl w av l) (hl : l.length = bs.size) (hlm : l.length ≤ 1000) (G : Nat → Bool) (hW : Still 25 #[.string p] (.tuple #[.string bs, .bool true]))
    (hA : Makes w 26 #[.pointer (some ⟨h, 0, none⟩), av] (.bool true)) (hI : IsAt w h l bs G) (hG : ∃ k, k < l.length ∧ G k = false) :
    Calls Try.prog 11 #[.pointer (some ⟨h, 0, none⟩), .string p, av] w fun e w' => e = .returned (.tuple #[Hp.none.val, .int .i64 80]) ∧ Below w.heap.size w w' := by
  obtain ⟨a, c, rfl⟩ := hv.len
  have HV := Lib.hid hv
  have HW := Lib.hid hW
  have HA := Lib.hid hA
  have HI := Lib.hid hI
  have HGG := Lib.hid hG
  have HLE := Lib.hid hl
  clear hW hA hv hI hG
  unfold Still at HW
  unfold Makes at HA
  unfold IsAt at HI
  unfold Hp.V.val at *
  go_enter Try.func11, Try.ntmps11
  go_wp2_with fail
  with_reducible refine (HW.out _).mono ?_
  rintro e w1 ⟨rfl, rfl⟩
  rw [hl] at HA ⊢
  go_wp2_with fail
  with_reducible refine (HA.out _ ((Below.refl _ _).alloc (Nat.le_refl _) _)).mono ?_
  rintro e w2 ⟨rfl, hb⟩
  have HD := Lib.hid ((DoW.first w).next hb)
  clear hb
  go_wp2_with fail
  go_loopg [39] l.length (fun gk i wx => ∃ k : Nat, k ≤ l.length ∧ gk = l.length - k ∧ i = .int .i64 k ∧ Hid (∀ j, j < k → G j = true) ∧ Hid (DoW w wx))
  case atStart => exact ⟨0, Nat.zero_le _, rfl, rfl, fun j hj => by omega, HD.out⟩
  case round =>
    obtain ⟨k, hk, rfl, rfl, HALL, HX⟩ := hrel
    by_cases hlt : k < l.length
    · obtain ⟨x, hx⟩ : ∃ x, l[k]? = some x := ⟨_, List.getElem?_eq_getElem hlt⟩
      have hne : l ≠ [] := fun e => by rw [e] at hlt; simp at hlt
      have hv2 := HV.out.below HX.out.below (Nat.le_refl _)
      rw [hl] at hv2
      obtain ⟨b, off, rfl, hbl, hat⟩ := hv2.at hne
      obtain ⟨d0, d1, d2⟩ := hat k x hx
      have hks : k < bs.size := by omega
      have HIk := Lib.hid (fun w1 hb => HI.out k x hks hx w1 hb)
      obtain ⟨xk, xi, xt⟩ := x
      dsimp only at *
      have hg1 : (0 : Int) ≤ k := by omega
      have hg2 : (k : Int) < bs.size := by omega
      have hgw : IntKind.i64.wrap ((k : Int) + 1) = k + 1 := by rw [IntKind.wrap_i64]; omega
      clear hat hx hne hv2 HV
      have HS := Lib.hid (new3 wr xk xi xt)
      cases hG : G k with
      | true =>
        rw [hG] at HIk
        have HGT := Lib.hid hG
        clear hG HI
        go_wp2_with fail
        go_region_held3 (fun w' => w'.cell? ⟨wr.heap.size, 0, none⟩ = some (.int .i64 xk) ∧ w'.cell? ⟨wr.heap.size, 1, none⟩ = some (.int .i64 xi) ∧ w'.cell? ⟨wr.heap.size, 2, none⟩ = some (.string xt))
          (first | exact HS.out | exact HS4.out)
          (first | (go_at_call 27; (with_reducible refine (HIk.out _ HX.out.at).mono ?_); rintro e w4 ⟨rfl, hb4⟩; have HX4 := Lib.hid (HX.out.call hb4); have HS4 : Hid (New3 wr.heap.size xk xi xt w4) := HS.out.below hb4 (drew_lt _ _); clear hb4))
        go_wp2_with fail
        go_roundg (l.length - (k + 1))
        case measure => omega
        case rel => exact ⟨k + 1, by omega, rfl, by go_num, fun j hj => (Nat.lt_or_eq_of_le (Nat.le_of_lt_succ hj)).elim (fun h => HALL.out j h) (fun h => h ▸ HGT.out), HX4.out⟩
      | false =>
        rw [hG] at HIk
        clear hG HI
        go_wp2_with fail
        go_region_held3 (fun w' => w'.cell? ⟨wr.heap.size, 0, none⟩ = some (.int .i64 xk) ∧ w'.cell? ⟨wr.heap.size, 1, none⟩ = some (.int .i64 xi) ∧ w'.cell? ⟨wr.heap.size, 2, none⟩ = some (.string xt))
          (first | exact HS.out | exact HS4.out)
          (first | (go_at_call 27; (with_reducible refine (HIk.out _ HX.out.at).mono ?_); rintro e w4 ⟨rfl, hb4⟩; have HX4 := Lib.hid (HX.out.call hb4); have HS4 : Hid (New3 wr.heap.size xk xi xt w4) := HS.out.below hb4 (drew_lt _ _); clear hb4))
        obtain ⟨q0, q1, q2, k0, k1, k2⟩ := HX4.out.cells
        go_wp2_with fail
        refine bodyPost_ret (res2 rfl _ _ w.heap.size 27 _ (0, 0) rfl (three_set _ _ _ _ _ _ _ _ _ HX4.out.blk) valD valSize) rfl ?_
        exact ⟨by simp [Hp.none, Hp.V.val], below_three HX4.out.below (Nat.le_refl _) _ _ _⟩
    · obtain rfl : k = l.length := by omega
      obtain ⟨j, hj, hjG⟩ := HGG.out
      have := HALL.out j hj
      rw [hjG] at this
      cases this
end Go.Proofs.Ythbnhneibpoooaa
/- The heap's Do: what act does. -/
namespace Go.Proofs.Ythbnhneibpoooaa
open Go.RowKit
set_option linter.unusedVariables false
set_option linter.unusedSimpArgs false
namespace Hp
/-- The primitives that reckon. -/
def ops : List (List UInt8) := [[43], [45], [42], [113, 117, 111, 116, 105, 101, 110, 116], [114, 101, 109, 97, 105, 110, 100, 101, 114]]
end Hp
set_option maxHeartbeats 2000000 in
set_option maxRecDepth 100000 in
theorem do_act (h : Nat) (p bs : ByteArray) (av : Value) (l : List Hp.V) (w : World) (hv : VSl w av l) (hl : l.length = bs.size) (hlm : l.length ≤ 1000) (G : Nat → Bool) (hW : Still 25 #[.string p] (.tuple #[.string bs, .bool true]))
    (hA : Makes w 26 #[.pointer (some ⟨h, 0, none⟩), av] (.bool true)) (hI : IsAt w h l bs G) (hG : ∀ k, k < l.length → G k = true) (O : Nat → Prop) (r : Hp.V) (er : Int) (T : List Hp.Th) (hO : ∀ b, O b → b < w.heap.size)
    (hK : Still 28 #[.string p] (.tuple #[.int .i64 (-1), .int .u8 0])) (hp : ∀ q ∈ Hp.ops, (q == p.toList) = false)
    (hAct : After w 1 fun w1 => Calls Try.prog 31 #[.pointer (some ⟨h, 0, none⟩), .string p, av] w1 (DoPost 65 h O r er T w1)) :
    Calls Try.prog 11 #[.pointer (some ⟨h, 0, none⟩), .string p, av] w (DoPost 65 h O r er T w) := by
  obtain ⟨a, c, rfl⟩ := hv.len
  have HV := Lib.hid hv
  have HW := Lib.hid hW
  have HA := Lib.hid hA
  have HI := Lib.hid hI
  have HGG := Lib.hid hG
  have HLE := Lib.hid hl
  have HK := Lib.hid hK
  have HP := Lib.hid hp
  have HC := Lib.hid hAct
  have HO := Lib.hid hO
  clear hW hA hv hI hG hK hp hAct hO
  obtain ⟨rk, ri, rt⟩ := r
  unfold DoPost at *
  unfold After at *
  unfold Still at HK
  unfold Still at HW
  unfold Makes at HA
  unfold IsAt at HI
  unfold Hp.V.val at *
  rw [hl] at HA HC ⊢
  go_enter Try.func11, Try.ntmps11
  go_wp2_with fail
  with_reducible refine (HW.out _).mono ?_
  rintro e w1 ⟨rfl, rfl⟩
  go_wp2_with fail
  with_reducible refine (HA.out _ ((Below.refl _ _).alloc (Nat.le_refl _) _)).mono ?_
  rintro e w2 ⟨rfl, hb⟩
  have HD := Lib.hid ((DoW.first w).next hb)
  clear hb
  go_wp2_with fail
  go_loopg [39] l.length (fun gk i wx => ∃ k : Nat, k ≤ l.length ∧ gk = l.length - k ∧ i = .int .i64 k ∧ Hid (∀ j, j < k → G j = true) ∧ Hid (DoW w wx))
  case atStart => exact ⟨0, Nat.zero_le _, rfl, rfl, fun j hj => by omega, HD.out⟩
  case round =>
    obtain ⟨k, hk, rfl, rfl, HALL, HX⟩ := hrel
    by_cases hlt : k < l.length
    · obtain ⟨x, hx⟩ : ∃ x, l[k]? = some x := ⟨_, List.getElem?_eq_getElem hlt⟩
      have hne : l ≠ [] := fun e => by rw [e] at hlt; simp at hlt
      have hv2 := HV.out.below HX.out.below (Nat.le_refl _)
      rw [hl] at hv2
      obtain ⟨b, off, rfl, hbl, hat⟩ := hv2.at hne
      obtain ⟨d0, d1, d2⟩ := hat k x hx
      have hks : k < bs.size := by omega
      have HIk := Lib.hid (fun w1 hb => HI.out k x hks hx w1 hb)
      obtain ⟨xk, xi, xt⟩ := x
      dsimp only at *
      have hg1 : (0 : Int) ≤ k := by omega
      have hg2 : (k : Int) < bs.size := by omega
      have hgw : IntKind.i64.wrap ((k : Int) + 1) = k + 1 := by rw [IntKind.wrap_i64]; omega
      clear hat hx hne hv2 HV
      have HS := Lib.hid (new3 wr xk xi xt)
      have hG := HGG.out k hlt
      rw [hG] at HIk
      have HGT := Lib.hid hG
      clear hG HI
      go_wp2_with fail
      go_region_held3 (fun w' => w'.cell? ⟨wr.heap.size, 0, none⟩ = some (.int .i64 xk) ∧ w'.cell? ⟨wr.heap.size, 1, none⟩ = some (.int .i64 xi) ∧ w'.cell? ⟨wr.heap.size, 2, none⟩ = some (.string xt))
        (first | exact HS.out | exact HS4.out)
        (first | (go_at_call 27; (with_reducible refine (HIk.out _ HX.out.at).mono ?_); rintro e w4 ⟨rfl, hb4⟩; have HX4 := Lib.hid (HX.out.call hb4); have HS4 : Hid (New3 wr.heap.size xk xi xt w4) := HS.out.below hb4 (drew_lt _ _); clear hb4))
      go_wp2_with fail
      go_roundg (l.length - (k + 1))
      case measure => omega
      case rel => exact ⟨k + 1, by omega, rfl, by go_num, fun j hj => (Nat.lt_or_eq_of_le (Nat.le_of_lt_succ hj)).elim (fun h => HALL.out j h) (fun h => h ▸ HGT.out), HX4.out⟩
    · obtain rfl : k = l.length := by omega
      go_wp2_with fail
      with_reducible refine (HK.out _).mono ?_
      rintro e w3 ⟨rfl, rfl⟩
      go_wp2_with fail
      have i0 : ∀ w : World, (Instr.index 72 (.agg #[.string ⟨#[43]⟩, .string ⟨#[45]⟩, .string ⟨#[42]⟩, .string ⟨#[113, 117, 111, 116, 105, 101, 110, 116]⟩, .string ⟨#[114, 101, 109, 97, 105, 110, 100, 101, 114]⟩]) (.int .i64 0)).run Try.prog w = .ok (.string ⟨#[43]⟩) w := fun _ => by kernel_rfl
      have i1 : ∀ w : World, (Instr.index 72 (.agg #[.string ⟨#[43]⟩, .string ⟨#[45]⟩, .string ⟨#[42]⟩, .string ⟨#[113, 117, 111, 116, 105, 101, 110, 116]⟩, .string ⟨#[114, 101, 109, 97, 105, 110, 100, 101, 114]⟩]) (.int .i64 1)).run Try.prog w = .ok (.string ⟨#[45]⟩) w := fun _ => by kernel_rfl
      have i2 : ∀ w : World, (Instr.index 72 (.agg #[.string ⟨#[43]⟩, .string ⟨#[45]⟩, .string ⟨#[42]⟩, .string ⟨#[113, 117, 111, 116, 105, 101, 110, 116]⟩, .string ⟨#[114, 101, 109, 97, 105, 110, 100, 101, 114]⟩]) (.int .i64 2)).run Try.prog w = .ok (.string ⟨#[42]⟩) w := fun _ => by kernel_rfl
      have i3 : ∀ w : World, (Instr.index 72 (.agg #[.string ⟨#[43]⟩, .string ⟨#[45]⟩, .string ⟨#[42]⟩, .string ⟨#[113, 117, 111, 116, 105, 101, 110, 116]⟩, .string ⟨#[114, 101, 109, 97, 105, 110, 100, 101, 114]⟩]) (.int .i64 3)).run Try.prog w = .ok (.string ⟨#[113, 117, 111, 116, 105, 101, 110, 116]⟩) w := fun _ => by kernel_rfl
      have i4 : ∀ w : World, (Instr.index 72 (.agg #[.string ⟨#[43]⟩, .string ⟨#[45]⟩, .string ⟨#[42]⟩, .string ⟨#[113, 117, 111, 116, 105, 101, 110, 116]⟩, .string ⟨#[114, 101, 109, 97, 105, 110, 100, 101, 114]⟩]) (.int .i64 4)).run Try.prog w = .ok (.string ⟨#[114, 101, 109, 97, 105, 110, 100, 101, 114]⟩) w := fun _ => by kernel_rfl
      go_loopg [84] 5 (fun gk i wx => ∃ k : Int, (k = 0 ∨ k = 1 ∨ k = 2 ∨ k = 3 ∨ k = 4 ∨ k = 5) ∧ gk = 5 - k.toNat ∧ i = .int .i64 k ∧ Hid (DoW w wx))
      case atStart => exact ⟨0, by omega, rfl, rfl, HX.out⟩
      case round =>
        obtain ⟨k, hk, rfl, rfl, HY⟩ := hrel
        rcases hk with rfl | rfl | rfl | rfl | rfl | rfl
        · have hq : ([43] == p.toList) = false := HP.out _ (by simp [Hp.ops])
          go_wp2_with fail
          go_roundg 4
          case measure => decide
          case rel => exact ⟨1, by omega, rfl, rfl, HY.out⟩
        · have hq : ([45] == p.toList) = false := HP.out _ (by simp [Hp.ops])
          go_wp2_with fail
          go_roundg 3
          case measure => decide
          case rel => exact ⟨2, by omega, rfl, rfl, HY.out⟩
        · have hq : ([42] == p.toList) = false := HP.out _ (by simp [Hp.ops])
          go_wp2_with fail
          go_roundg 2
          case measure => decide
          case rel => exact ⟨3, by omega, rfl, rfl, HY.out⟩
        · have hq : ([113, 117, 111, 116, 105, 101, 110, 116] == p.toList) = false := HP.out _ (by simp [Hp.ops])
          go_wp2_with fail
          go_roundg 1
          case measure => decide
          case rel => exact ⟨4, by omega, rfl, rfl, HY.out⟩
        · have hq : ([114, 101, 109, 97, 105, 110, 100, 101, 114] == p.toList) = false := HP.out _ (by simp [Hp.ops])
          go_wp2_with fail
          go_roundg 0
          case measure => decide
          case rel => exact ⟨5, by omega, rfl, rfl, HY.out⟩
        · go_wp2_with fail
          with_reducible refine (HC.out _ HY.out.below (Nat.succ_le_of_lt HY.out.lt)).mono ?_
          rintro e w5 ⟨O', rfl, hst, hgr⟩
          have HT := Lib.hid (do_tail HY.out.below HO.out (Nat.le_refl _) HY.out.lt HY.out.blk hst hgr)
          have hz2 := HT.out.1
          have q0 := cell_of_row w5 _ 0 _ _ _ hz2
          have q1 := cell_of_row w5 _ 1 _ _ _ hz2
          have q2 := cell_of_row w5 _ 2 _ _ _ hz2
          simp only [List.getElem?_toArray, List.getElem?_cons_zero, List.getElem?_cons_succ] at q0 q1 q2
          have k0 := frozen_of_row w5 _ 0 _ _ hz2
          have k1 := frozen_of_row w5 _ 1 _ _ hz2
          have k2 := frozen_of_row w5 _ 2 _ _ hz2
          clear hst hgr hz2
          go_wp2_with fail
          refine bodyPost_ret (res2 rfl _ _ w.heap.size 27 _ (0, 0) rfl (three_set _ _ _ _ _ _ _ _ _ HT.out.1) valD valSize) rfl ?_
          exact ⟨O', by simp, HT.out.2 _ _ _⟩
end Go.Proofs.Ythbnhneibpoooaa
