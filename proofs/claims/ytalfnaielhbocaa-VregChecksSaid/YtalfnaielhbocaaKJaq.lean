/- The heap's part, get, put. -/
import Derived.Test.YtalfnaielhbocaaKJap
import Derived.Deep.RegionHeld3
import Derived.Test.YtalfnaielhbocaaKJar
import Derived.Deep.QuietTactic
import Derived.BigQuiet
set_option linter.unusedVariables false
set_option linter.unusedSimpArgs false
set_option linter.unnecessarySimpa false
namespace Go.Proofs.Ytalfnaielhbocaa
open Go.RowKit
set_option maxRecDepth 100000
set_option linter.unusedVariables false
set_option linter.unusedSimpArgs false
set_option maxHeartbeats 4000000 in
set_option maxRecDepth 100000 in
theorem part_out {h k ty : Nat} {O : Nat → Prop} {vt : Value} {M : List (Hp.Th × Value)} {m : Hp.Th × Value} (at_ : Hp.V) (w : World) (H : HpAt w ty h O vt M) (hm : M[k]? = some m) (hl : m.1.parts.length ≤ 1000000) (ha : at_.int < 0 ∨ (m.1.parts.length : Int) ≤ at_.int) :
    Calls Try.prog 103 #[.pointer (some ⟨h, 0, none⟩), .agg #[.int .i64 8, .int .i64 k, .string ⟨#[]⟩], at_.val] w fun e w' => e = .returned (.tuple #[.pointer none, .int .i64 83]) ∧ Below w.heap.size w w' := by
  have hk : k < M.length := (List.getElem?_eq_some_iff.1 hm).1
  obtain ⟨g, c, rfl, hg, hgh, d0, d1⟩ := H.at hm
  have c0 := H.c0
  have hh := H.lth
  have HC := Lib.hid (fun (w1 : World) (hc : w1.cell? ⟨h, 0, none⟩ = some (.slice (some ⟨g, 0, none⟩) M.length c)) => thing_some h M.length c g k hk w1 hc)
  have HC2 := Lib.hid (alloc_at (.cells #[.int .i64 at_.kind, .int .i64 at_.int, .string at_.text] 64) (alloc_at (.cells #[.int .i64 8, .int .i64 k, .string ⟨#[]⟩] 64) c0))
  obtain ⟨ap, cp, hap⟩ := H.partLen (List.mem_of_getElem? hm)
  obtain ⟨⟨kd, l⟩, pv0⟩ := m
  obtain ⟨ak, ai, at3⟩ := at_
  dsimp only at *
  subst hap
  unfold Hp.V.val
  dsimp only
  clear H hm hk
  rcases (by omega : ai < 0 ∨ (0 ≤ ai ∧ (l.length : Int) ≤ ai)) with g1 | ⟨g1, g2⟩
  · have z1 : decide (ai < 0) = true := decide_eq_true g1
    go_enter Try.func103, Try.ntmps103
    go_wp2_with fail
    with_reducible refine (HC.out _ HC2.out).mono ?_
    rintro e w1 ⟨rfl, hb⟩
    have HB : Hid (Below w.heap.size w w1) := ((((Below.refl _ _).alloc (Nat.le_refl _) _).alloc (by simp) _).trans (hb.mono (by simp; omega)))
    have y1 : w1.cell? ⟨w.heap.size + 1, 1, none⟩ = some (.int .i64 ai) := by
      rw [hb.cell (p := ⟨w.heap.size + 1, 1, none⟩) (by simp), World.cell?_alloc_at _ _ _ _ (by simp)]
      rfl
    clear hb
    go_wp2_with fail
    go_quiet (fail)
    go_wp2_with fail
    go_ret2
    exact ⟨rfl, below_drewN HB.out _⟩
  · have z1 : decide (ai < 0) = false := decide_eq_false (by omega)
    have z2 : decide ((l.length : Int) ≤ ai) = true := decide_eq_true g2
    go_enter Try.func103, Try.ntmps103
    go_wp2_with fail
    with_reducible refine (HC.out _ HC2.out).mono ?_
    rintro e w1 ⟨rfl, hb⟩
    have HB : Hid (Below w.heap.size w w1) := ((((Below.refl _ _).alloc (Nat.le_refl _) _).alloc (by simp) _).trans (hb.mono (by simp; omega)))
    have y1 : w1.cell? ⟨w.heap.size + 1, 1, none⟩ = some (.int .i64 ai) := by
      rw [hb.cell (p := ⟨w.heap.size + 1, 1, none⟩) (by simp), World.cell?_alloc_at _ _ _ _ (by simp)]
      rfl
    have x0 : w1.cell? ⟨g, k * 2, none⟩ = some (.int .i64 kd) := (HB.out.cell (p := ⟨g, k * 2, none⟩) hg).trans d0
    have x1 : w1.cell? ⟨g, k * 2 + 1, none⟩ = some (.slice ap l.length cp) := (HB.out.cell (p := ⟨g, k * 2 + 1, none⟩) hg).trans d1
    clear hb
    go_wp2_with fail
    go_quiet (fail)
    go_wp2_with fail
    go_ret2
    exact ⟨rfl, below_drewN HB.out _⟩
set_option maxHeartbeats 4000000 in
set_option maxRecDepth 100000 in
theorem part_in {h k ty : Nat} {O : Nat → Prop} {vt : Value} {M : List (Hp.Th × Value)} {m : Hp.Th × Value} (ak : Int) (j : Nat) (at3 : ByteArray) (w : World) (H : HpAt w ty h O vt M) (hm : M[k]? = some m) (hl : m.1.parts.length ≤ 1000000) (hj : j < m.1.parts.length) (pg cp : Nat) (hs : m.2 = .slice (some ⟨pg, 0, none⟩) m.1.parts.length cp) :
    Calls Try.prog 103 #[.pointer (some ⟨h, 0, none⟩), .agg #[.int .i64 8, .int .i64 k, .string ⟨#[]⟩], .agg #[.int .i64 ak, .int .i64 j, .string at3]] w fun e w' => e = .returned (.tuple #[.pointer (some ⟨pg, j * 3, none⟩), .int .i64 0]) ∧ Below w.heap.size w w' := by
  have hk : k < M.length := (List.getElem?_eq_some_iff.1 hm).1
  obtain ⟨g, c, rfl, hg, hgh, d0, d1⟩ := H.at hm
  have c0 := H.c0
  have hh := H.lth
  have HC := Lib.hid (fun (w1 : World) (hc : w1.cell? ⟨h, 0, none⟩ = some (.slice (some ⟨g, 0, none⟩) M.length c)) => thing_some h M.length c g k hk w1 hc)
  have HC2 := Lib.hid (alloc_at (.cells #[.int .i64 ak, .int .i64 j, .string at3] 64) (alloc_at (.cells #[.int .i64 8, .int .i64 k, .string ⟨#[]⟩] 64) c0))
  obtain ⟨⟨kd, l⟩, pv0⟩ := m
  dsimp only at *
  subst hs
  clear H hm hk
  have hg1 : (0 : Int) ≤ j := by omega
  have hg2 : (j : Int) < l.length := by omega
  have z1 : decide ((j : Int) < 0) = false := decide_eq_false (by omega)
  have z2 : decide (l.length ≤ j) = false := decide_eq_false (by omega)
  have z3 : decide ((l.length : Int) ≤ (j : Int)) = false := decide_eq_false (by omega)
  go_enter Try.func103, Try.ntmps103
  go_wp2_with fail
  with_reducible refine (HC.out _ HC2.out).mono ?_
  rintro e w1 ⟨rfl, hb⟩
  have HB : Hid (Below w.heap.size w w1) := ((((Below.refl _ _).alloc (Nat.le_refl _) _).alloc (by simp) _).trans (hb.mono (by simp; omega)))
  have y1 : w1.cell? ⟨w.heap.size + 1, 1, none⟩ = some (.int .i64 j) := by
    rw [hb.cell (p := ⟨w.heap.size + 1, 1, none⟩) (by simp), World.cell?_alloc_at _ _ _ _ (by simp)]
    rfl
  have x0 : w1.cell? ⟨g, k * 2, none⟩ = some (.int .i64 kd) := (HB.out.cell (p := ⟨g, k * 2, none⟩) hg).trans d0
  have x1 : w1.cell? ⟨g, k * 2 + 1, none⟩ = some (.slice (some ⟨pg, 0, none⟩) l.length cp) := (HB.out.cell (p := ⟨g, k * 2 + 1, none⟩) hg).trans d1
  clear hb
  go_wp2_with fail
  go_quiet (fail)
  go_wp2_with fail
  go_quiet (fail)
  go_wp2_with fail
  go_ret2
  exact ⟨by simp, below_drewN (below_drewN HB.out _) _⟩
end Go.Proofs.Ytalfnaielhbocaa
namespace Go.Proofs.Ytalfnaielhbocaa
open Go.RowKit
set_option maxRecDepth 100000
set_option linter.unusedVariables false
set_option linter.unusedSimpArgs false
theorem three_set (w : World) (g : Nat) (t : TypeId) (a b c x y z : Value) (h : w.heap[g]? = some (.cells #[a, b, c] t (0, 0))) :
    (((w.setCell ⟨g, 0, none⟩ x).setCell ⟨g, 1, none⟩ y).setCell ⟨g, 2, none⟩ z).heap[g]? = some (.cells #[x, y, z] t (0, 0)) := by
  have e1 := heap_setCell_same _ g 0 _ _ x h
  have e2 := heap_setCell_same _ g 1 _ _ y e1
  exact heap_setCell_same _ g 2 _ _ z e2
theorem below_three {B : Nat} {w w1 : World} {g : Nat} (h : Below B w w1) (hg : B ≤ g) (x y z : Value) : Below B w (((w1.setCell ⟨g, 0, none⟩ x).setCell ⟨g, 1, none⟩ y).setCell ⟨g, 2, none⟩ z) :=
  ((h.setCell (p := ⟨g, 0, none⟩) hg _).setCell (p := ⟨g, 1, none⟩) hg _).setCell (p := ⟨g, 2, none⟩) hg _
set_option maxHeartbeats 4000000 in
set_option maxRecDepth 100000 in
theorem get_out {h k ty : Nat} {O : Nat → Prop} {vt : Value} {M : List (Hp.Th × Value)} {m : Hp.Th × Value} (at_ : Hp.V) (w : World) (H : HpAt w ty h O vt M) (hm : M[k]? = some m) (hl : m.1.parts.length ≤ 1000000) (ha : at_.int < 0 ∨ (m.1.parts.length : Int) ≤ at_.int) :
    Calls Try.prog 96 #[.pointer (some ⟨h, 0, none⟩), .agg #[.int .i64 8, .int .i64 k, .string ⟨#[]⟩], at_.val] w fun e w' => e = .returned (.tuple #[Hp.none.val, .int .i64 83]) ∧ Below w.heap.size w w' := by
  have HP := Lib.hid (fun (w1 : World) (hb : Below w.heap.size w w1) => part_out at_ w1 (H.below hb (Nat.le_refl _)) hm hl ha)
  obtain ⟨ak, ai, at3⟩ := at_
  clear H hm hl ha
  unfold Hp.V.val at *
  dsimp only at *
  go_enter Try.func96, Try.ntmps96
  go_wp2_with fail
  with_reducible refine (HP.out _ ((((Below.refl _ _).alloc (Nat.le_refl _) _).alloc (by simp) _).alloc (by simp; omega) _)).mono ?_
  rintro e w1 ⟨rfl, hb⟩
  have HB : Hid (Below w.heap.size w w1) := (((((Below.refl _ _).alloc (Nat.le_refl _) _).alloc (by simp) _).alloc (by simp; omega) _).trans (hb.mono (by simp; omega)))
  have hz : w1.heap[w.heap.size + 2]? = some (.cells #[.int .i64 0, .int .i64 0, .string ⟨#[]⟩] 64 (0, 0)) := by
    rw [hb.block _ (by simp)]
    exact heap_new (by simp)
  have q0 := cell_of_row w1 _ 0 _ _ _ hz
  have q1 := cell_of_row w1 _ 1 _ _ _ hz
  have q2 := cell_of_row w1 _ 2 _ _ _ hz
  simp only [List.getElem?_toArray, List.getElem?_cons_zero, List.getElem?_cons_succ] at q0 q1 q2
  have k0 := frozen_of_row w1 _ 0 _ _ hz
  have k1 := frozen_of_row w1 _ 1 _ _ hz
  have k2 := frozen_of_row w1 _ 2 _ _ hz
  have HZ := Lib.hid hz
  clear hb hz
  go_wp2_with fail
  refine bodyPost_ret (res2 rfl _ _ (w.heap.size + 2) 64 _ (0, 0) rfl (three_set _ _ _ _ _ _ _ _ _ HZ.out) valD valSize) rfl ?_
  exact ⟨by simp [Hp.none], below_three HB.out (by omega) _ _ _⟩
set_option maxHeartbeats 4000000 in
set_option maxRecDepth 100000 in
theorem get_in {h k ty : Nat} {O : Nat → Prop} {vt : Value} {M : List (Hp.Th × Value)} {m : Hp.Th × Value} (ak : Int) (j : Nat) (at3 : ByteArray) (x : Hp.V) (w : World) (H : HpAt w ty h O vt M) (hm : M[k]? = some m) (hl : m.1.parts.length ≤ 1000000) (hx : m.1.parts[j]? = some x) :
    Calls Try.prog 96 #[.pointer (some ⟨h, 0, none⟩), .agg #[.int .i64 8, .int .i64 k, .string ⟨#[]⟩], .agg #[.int .i64 ak, .int .i64 j, .string at3]] w fun e w' => e = .returned (.tuple #[x.val, .int .i64 0]) ∧ Below w.heap.size w w' := by
  obtain ⟨pg, cp, hs, hpg, hpgh, hpr, d0, d1, d2⟩ := H.part (List.mem_of_getElem? hm) hx
  have hj : j < m.1.parts.length := (List.getElem?_eq_some_iff.1 hx).1
  have HP := Lib.hid (fun (w1 : World) (hb : Below w.heap.size w w1) => part_in ak j at3 w1 (H.below hb (Nat.le_refl _)) hm hl hj pg cp hs)
  obtain ⟨xk, xi, xt⟩ := x
  clear H hm hl hx hs hpr hj
  unfold Hp.V.val at *
  dsimp only at *
  go_enter Try.func96, Try.ntmps96
  go_wp2_with fail
  with_reducible refine (HP.out _ ((((Below.refl _ _).alloc (Nat.le_refl _) _).alloc (by simp) _).alloc (by simp; omega) _)).mono ?_
  rintro e w1 ⟨rfl, hb⟩
  have HB : Hid (Below w.heap.size w w1) := (((((Below.refl _ _).alloc (Nat.le_refl _) _).alloc (by simp) _).alloc (by simp; omega) _).trans (hb.mono (by simp; omega)))
  have hz : w1.heap[w.heap.size + 2]? = some (.cells #[.int .i64 0, .int .i64 0, .string ⟨#[]⟩] 64 (0, 0)) := by
    rw [hb.block _ (by simp)]
    exact heap_new (by simp)
  have q0 := cell_of_row w1 _ 0 _ _ _ hz
  have q1 := cell_of_row w1 _ 1 _ _ _ hz
  have q2 := cell_of_row w1 _ 2 _ _ _ hz
  simp only [List.getElem?_toArray, List.getElem?_cons_zero, List.getElem?_cons_succ] at q0 q1 q2
  have k0 := frozen_of_row w1 _ 0 _ _ hz
  have k1 := frozen_of_row w1 _ 1 _ _ hz
  have k2 := frozen_of_row w1 _ 2 _ _ hz
  have x0 : w1.cell? ⟨pg, j * 3, none⟩ = some (.int .i64 xk) := (HB.out.cell (p := ⟨pg, j * 3, none⟩) hpg).trans d0
  have x1 : w1.cell? ⟨pg, j * 3 + 1, none⟩ = some (.int .i64 xi) := (HB.out.cell (p := ⟨pg, j * 3 + 1, none⟩) hpg).trans d1
  have x2 : w1.cell? ⟨pg, j * 3 + 2, none⟩ = some (.string xt) := (HB.out.cell (p := ⟨pg, j * 3 + 2, none⟩) hpg).trans d2
  have HZ := Lib.hid hz
  clear hb hz d0 d1 d2
  go_wp2_with fail
  refine bodyPost_ret (res2 rfl _ _ (w.heap.size + 2) 64 _ (0, 0) rfl (three_set _ _ _ _ _ _ _ _ _ HZ.out) valD valSize) rfl ?_
  exact ⟨by simp, below_three HB.out (by omega) _ _ _⟩
set_option maxHeartbeats 4000000 in
set_option maxRecDepth 100000 in
theorem put_out {h k ty : Nat} {O : Nat → Prop} {vt : Value} {M : List (Hp.Th × Value)} {m : Hp.Th × Value} (at_ x : Hp.V) (w : World) (H : HpAt w ty h O vt M) (hm : M[k]? = some m) (hl : m.1.parts.length ≤ 1000000) (ha : at_.int < 0 ∨ (m.1.parts.length : Int) ≤ at_.int) :
    Calls Try.prog 97 #[.pointer (some ⟨h, 0, none⟩), .agg #[.int .i64 8, .int .i64 k, .string ⟨#[]⟩], at_.val, x.val] w fun e w' => e = .returned (.tuple #[Hp.none.val, .int .i64 83]) ∧ Below w.heap.size w w' := by
  have HP := Lib.hid (fun (w1 : World) (hb : Below w.heap.size w w1) => part_out at_ w1 (H.below hb (Nat.le_refl _)) hm hl ha)
  obtain ⟨ak, ai, at3⟩ := at_
  obtain ⟨xk, xi, xt⟩ := x
  clear H hm hl ha
  unfold Hp.V.val at *
  dsimp only at *
  go_enter Try.func97, Try.ntmps97
  go_wp2_with fail
  with_reducible refine (HP.out _ (((((Below.refl _ _).alloc (Nat.le_refl _) _).alloc (by simp) _).alloc (by simp; omega) _).alloc (by simp; omega) _)).mono ?_
  rintro e w1 ⟨rfl, hb⟩
  have HB : Hid (Below w.heap.size w w1) := ((((((Below.refl _ _).alloc (Nat.le_refl _) _).alloc (by simp) _).alloc (by simp; omega) _).alloc (by simp; omega) _).trans (hb.mono (by simp; omega)))
  have hz : w1.heap[w.heap.size + 3]? = some (.cells #[.int .i64 0, .int .i64 0, .string ⟨#[]⟩] 64 (0, 0)) := by
    rw [hb.block _ (by simp)]
    exact heap_new (by simp)
  have q0 := cell_of_row w1 _ 0 _ _ _ hz
  have q1 := cell_of_row w1 _ 1 _ _ _ hz
  have q2 := cell_of_row w1 _ 2 _ _ _ hz
  simp only [List.getElem?_toArray, List.getElem?_cons_zero, List.getElem?_cons_succ] at q0 q1 q2
  have k0 := frozen_of_row w1 _ 0 _ _ hz
  have k1 := frozen_of_row w1 _ 1 _ _ hz
  have k2 := frozen_of_row w1 _ 2 _ _ hz
  have HZ := Lib.hid hz
  clear hb hz
  go_wp2_with fail
  refine bodyPost_ret (res2 rfl _ _ (w.heap.size + 3) 64 _ (0, 0) rfl (three_set _ _ _ _ _ _ _ _ _ HZ.out) valD valSize) rfl ?_
  exact ⟨by simp [Hp.none], below_three HB.out (by omega) _ _ _⟩
theorem put_end {w w1 w3 : World} {ty h pg g3 : Nat} {O : Nat → Prop} {vt : Value} {M : List (Hp.Th × Value)} (hA : HpAt w3 ty h O vt M) (hG : w1.grownBy w3 (some pg)) (hO : O pg) (hB : Below w.heap.size w w1) (hlt : ∀ b, O b → b ≠ g3) (hg3 : w.heap.size ≤ g3) (x y z : Value) :
    HSt (((w3.setCell ⟨g3, 0, none⟩ x).setCell ⟨g3, 1, none⟩ y).setCell ⟨g3, 2, none⟩ z) ty h O (M.map (·.1)) ∧ Grow O O w (((w3.setCell ⟨g3, 0, none⟩ x).setCell ⟨g3, 1, none⟩ y).setCell ⟨g3, 2, none⟩ z) := by
  have hk : ∀ b, b ≠ g3 → (((w3.setCell ⟨g3, 0, none⟩ x).setCell ⟨g3, 1, none⟩ y).setCell ⟨g3, 2, none⟩ z).heap[b]? = w3.heap[b]? := fun b hb => by
    rw [heap_setCell_other _ _ _ _ hb, heap_setCell_other _ _ _ _ hb, heap_setCell_other _ _ _ _ hb]
  have hs : (((w3.setCell ⟨g3, 0, none⟩ x).setCell ⟨g3, 1, none⟩ y).setCell ⟨g3, 2, none⟩ z).heap.size = w3.heap.size := by simp [World.setCell]
  refine ⟨⟨vt, M, hA.keep (by rw [hs]; exact Nat.le_refl _) fun b hb => hk b (hlt b hb), rfl⟩, ⟨hG.os.trans hB.os, hG.tape.trans hB.tape, hG.output.trans hB.output, by rw [hs]; exact Nat.le_trans hB.size hG.size, fun b hb hno => ?_, fun b hb => .inl hb⟩⟩
  rw [hk b (by omega), hG.block b (by have := hB.size; omega) (fun e => hno (by cases e; exact hO))]
  exact hB.block b hb
def PutPost (ty h : Nat) (O : Nat → Prop) (T : List Hp.Th) (w : World) (e : Ending) (w' : World) : Prop :=
  e = .returned (.tuple #[Hp.void.val, .int .i64 0]) ∧ HSt w' ty h O T ∧ Grow O O w w'
set_option maxHeartbeats 4000000 in
set_option maxRecDepth 100000 in
theorem put_in {h k ty : Nat} {O : Nat → Prop} {vt : Value} {M : List (Hp.Th × Value)} {m : Hp.Th × Value} (ak : Int) (j : Nat) (at3 : ByteArray) (x : Hp.V) (w : World) (H : HpAt w ty h O vt M) (hm : M[k]? = some m) (hl : m.1.parts.length ≤ 1000000) (hj : j < m.1.parts.length) :
    Calls Try.prog 97 #[.pointer (some ⟨h, 0, none⟩), .agg #[.int .i64 8, .int .i64 k, .string ⟨#[]⟩], .agg #[.int .i64 ak, .int .i64 j, .string at3], x.val] w (PutPost ty h O ((M.map (·.1)).set k ⟨m.1.kind, m.1.parts.set j x⟩) w) := by
  obtain ⟨y, hy⟩ : ∃ y, m.1.parts[j]? = some y := ⟨_, List.getElem?_eq_getElem hj⟩
  obtain ⟨pg, cp, hs, hpg, hpgh, hpr, d0, d1, d2⟩ := H.part (List.mem_of_getElem? hm) hy
  have HP := Lib.hid (fun (w1 : World) (hb : Below w.heap.size w w1) => part_in ak j at3 w1 (H.below hb (Nat.le_refl _)) hm hl hj pg cp hs)
  have HH := Lib.hid H
  have HM := Lib.hid hm
  have HS := Lib.hid hs
  have HJ := Lib.hid hj
  have HF : Hid (∀ o, w.frozen? ⟨pg, o, none⟩ = false) := fun o => by
    have := H.parts m (List.mem_of_getElem? hm)
    rw [hs] at this
    rcases this.2 with ⟨h', _⟩ | ⟨g', cap', cur, h', _, hh, _⟩
    · cases h'
    · cases h'
      exact frozen_of_row w _ o _ _ hh
  obtain ⟨xk, xi, xt⟩ := x
  clear H hm hl hs hpr hj hy
  unfold PutPost Hp.V.val at *
  dsimp only at *
  go_enter Try.func97, Try.ntmps97
  go_wp2_with fail
  with_reducible refine (HP.out _ (((((Below.refl _ _).alloc (Nat.le_refl _) _).alloc (by simp) _).alloc (by simp; omega) _).alloc (by simp; omega) _)).mono ?_
  rintro e w1 ⟨rfl, hb⟩
  have HB : Hid (Below w.heap.size w w1) := ((((((Below.refl _ _).alloc (Nat.le_refl _) _).alloc (by simp) _).alloc (by simp; omega) _).alloc (by simp; omega) _).trans (hb.mono (by simp; omega)))
  have hz : w1.heap[w.heap.size + 1 + 1 + 1]? = some (.cells #[.int .i64 0, .int .i64 0, .string ⟨#[]⟩] 64 (0, 0)) := by
    rw [hb.block _ (by simp)]
    exact heap_new (by simp)
  have hz2 : w1.heap[w.heap.size + 2]? = some (.cells #[.int .i64 xk, .int .i64 xi, .string xt] 64 (0, 0)) := by
    rw [hb.block _ (by simp), heap_alloc_old _ _ (by simp)]
    exact heap_new (by simp)
  have q0 := cell_of_row w1 _ 0 _ _ _ hz
  have q1 := cell_of_row w1 _ 1 _ _ _ hz
  have q2 := cell_of_row w1 _ 2 _ _ _ hz
  have r0 := cell_of_row w1 _ 0 _ _ _ hz2
  have r1 := cell_of_row w1 _ 1 _ _ _ hz2
  have r2 := cell_of_row w1 _ 2 _ _ _ hz2
  simp only [List.getElem?_toArray, List.getElem?_cons_zero, List.getElem?_cons_succ] at q0 q1 q2 r0 r1 r2
  have k0 := frozen_of_row w1 _ 0 _ _ hz
  have k1 := frozen_of_row w1 _ 1 _ _ hz
  have k2 := frozen_of_row w1 _ 2 _ _ hz
  have x0 : w1.cell? ⟨pg, j * 3, none⟩ = some (.int .i64 y.kind) := (HB.out.cell (p := ⟨pg, j * 3, none⟩) hpg).trans d0
  have x1 : w1.cell? ⟨pg, j * 3 + 1, none⟩ = some (.int .i64 y.int) := (HB.out.cell (p := ⟨pg, j * 3 + 1, none⟩) hpg).trans d1
  have x2 : w1.cell? ⟨pg, j * 3 + 2, none⟩ = some (.string y.text) := (HB.out.cell (p := ⟨pg, j * 3 + 2, none⟩) hpg).trans d2
  have f0 : w1.frozen? ⟨pg, j * 3, none⟩ = false := (HB.out.frozen (p := ⟨pg, j * 3, none⟩) hpg).trans (HF.out _)
  have f1 : w1.frozen? ⟨pg, j * 3 + 1, none⟩ = false := (HB.out.frozen (p := ⟨pg, j * 3 + 1, none⟩) hpg).trans (HF.out _)
  have f2 : w1.frozen? ⟨pg, j * 3 + 2, none⟩ = false := (HB.out.frozen (p := ⟨pg, j * 3 + 2, none⟩) hpg).trans (HF.out _)
  have HZ := Lib.hid hz
  have hne : pg ≠ w.heap.size + 1 + 1 + 1 := by omega
  have hne2 : w.heap.size + 1 + 1 + 1 ≠ pg := by omega
  have HPut := Lib.hid ((HH.out.below HB.out (Nat.le_refl _)).put HM.out HJ.out HS.out ⟨xk, xi, xt⟩)
  clear hb hz hz2 d0 d1 d2
  go_wp2_with fail
  obtain ⟨hA, hG, hO⟩ := HPut.out
  have hz2 : (((w1.setCell ⟨pg, j * 3, none⟩ (.int .i64 xk)).setCell ⟨pg, j * 3 + 1, none⟩ (.int .i64 xi)).setCell ⟨pg, j * 3 + 2, none⟩ (.string xt)).heap[w.heap.size + 1 + 1 + 1]? = some (.cells #[.int .i64 0, .int .i64 0, .string ⟨#[]⟩] 64 (0, 0)) := by
    rw [heap_setCell_other _ _ _ _ hne2, heap_setCell_other _ _ _ _ hne2, heap_setCell_other _ _ _ _ hne2]
    exact HZ.out
  refine bodyPost_ret (res2 rfl _ _ (w.heap.size + 1 + 1 + 1) 64 _ (0, 0) rfl (three_set _ _ _ _ _ _ (.int .i64 5) (.int .i64 0) (.string ⟨#[]⟩) hz2) valD valSize) rfl ?_
  have hOlt : ∀ b, O b → b ≠ w.heap.size + 1 + 1 + 1 := fun b hb => by have := HH.out.lt b hb; omega
  have hE := put_end hA hG hO HB.out hOlt (by omega) (.int .i64 5) (.int .i64 0) (.string ⟨#[]⟩)
  rw [List.map_set] at hE
  exact ⟨rfl, hE⟩
end Go.Proofs.Ytalfnaielhbocaa
namespace Go.Proofs.Ytalfnaielhbocaa
open Go.RowKit
set_option maxRecDepth 100000
set_option linter.unusedVariables false
set_option linter.unusedSimpArgs false
namespace Hp
def isL (kd vk l : Int) : Bool :=
  if l = 105 then vk == 1 else if l = 99 then vk == 2 else if l = 112 then kd == 0 else if l = 118 then kd == 1 else if l = 115 then kd == 2 else if l = 98 then kd == 3 else if l = 114 then kd == 4 else true
def letterOk (l : Int) : Prop := l = 46 ∨ l = 105 ∨ l = 99 ∨ l = 112 ∨ l = 118 ∨ l = 115 ∨ l = 98 ∨ l = 114
end Hp
set_option maxHeartbeats 8000000 in
set_option maxRecDepth 100000 in
theorem is_other (h n c : Nat) (a : Option Addr) (v : Hp.V) (l : Int) (hl : Hp.letterOk l) (ht : v.text.size ≤ maxLen) (w : World) (hc : w.cell? ⟨h, 0, none⟩ = some (.slice a n c)) (hv : v.kind ≠ 8) :
    Calls Try.prog 79 #[.pointer (some ⟨h, 0, none⟩), v.val, .int .u8 l] w fun e w' => e = .returned (.bool (Hp.isL (-1) v.kind l)) ∧ Below w.heap.size w w' := by
  have hh := block_lt_of_cell hc
  dsimp only at hh
  have HC := Lib.hid (fun (w1 : World) (hc : w1.cell? ⟨h, 0, none⟩ = some (.slice a n c)) => thing_none h n c a v ht w1 hc (.inl hv))
  have HC2 := Lib.hid (alloc_at (.cells #[.int .i64 v.kind, .int .i64 v.int, .string v.text] 64) hc)
  obtain ⟨vk, vi, vt⟩ := v
  clear hv ht
  unfold Hp.V.val at *
  dsimp only at *
  unfold Hp.letterOk at hl
  rcases hl with rfl | rfl | rfl | rfl | rfl | rfl | rfl | rfl
  all_goals
    go_enter Try.func79, Try.ntmps79
    go_wp2_with fail
    with_reducible refine (HC.out _ HC2.out).mono ?_
    rintro e w1 ⟨rfl, hb⟩
    have HB : Hid (Below w.heap.size w w1) := ((Below.refl _ _).alloc (Nat.le_refl _) _).trans (hb.mono (by simp))
    have y1 : w1.cell? ⟨w.heap.size, 0, none⟩ = some (.int .i64 vk) := by
      rw [hb.cell (p := ⟨w.heap.size, 0, none⟩) (by simp), World.cell?_alloc_at _ _ _ _ rfl]
      rfl
    clear hb
    go_wp2_with fail
    go_ret
    exact ⟨rfl, HB.out⟩
set_option maxHeartbeats 8000000 in
set_option maxRecDepth 100000 in
theorem is_thing {h k ty : Nat} {O : Nat → Prop} {vt : Value} {M : List (Hp.Th × Value)} {m : Hp.Th × Value} (l : Int) (hl : Hp.letterOk l) (w : World) (H : HpAt w ty h O vt M) (hm : M[k]? = some m) :
    Calls Try.prog 79 #[.pointer (some ⟨h, 0, none⟩), .agg #[.int .i64 8, .int .i64 k, .string ⟨#[]⟩], .int .u8 l] w fun e w' => e = .returned (.bool (Hp.isL m.1.kind 8 l)) ∧ Below w.heap.size w w' := by
  have hk : k < M.length := (List.getElem?_eq_some_iff.1 hm).1
  obtain ⟨g, c, rfl, hg, hgh, d0, d1⟩ := H.at hm
  have c0 := H.c0
  have hh := H.lth
  have HC := Lib.hid (fun (w1 : World) (hc : w1.cell? ⟨h, 0, none⟩ = some (.slice (some ⟨g, 0, none⟩) M.length c)) => thing_some h M.length c g k hk w1 hc)
  have HC2 := Lib.hid (alloc_at (.cells #[.int .i64 8, .int .i64 k, .string ⟨#[]⟩] 64) c0)
  obtain ⟨⟨kd, l0⟩, pv0⟩ := m
  dsimp only at *
  clear H hm hk
  unfold Hp.letterOk at hl
  rcases hl with rfl | rfl | rfl | rfl | rfl | rfl | rfl | rfl
  all_goals
    go_enter Try.func79, Try.ntmps79
    go_wp2_with fail
    with_reducible refine (HC.out _ HC2.out).mono ?_
    rintro e w1 ⟨rfl, hb⟩
    have HB : Hid (Below w.heap.size w w1) := ((Below.refl _ _).alloc (Nat.le_refl _) _).trans (hb.mono (by simp))
    have y1 : w1.cell? ⟨w.heap.size, 0, none⟩ = some (.int .i64 8) := by
      rw [hb.cell (p := ⟨w.heap.size, 0, none⟩) (by simp), World.cell?_alloc_at _ _ _ _ rfl]
      rfl
    have x0 : w1.cell? ⟨g, k * 2, none⟩ = some (.int .i64 kd) := (HB.out.cell (p := ⟨g, k * 2, none⟩) hg).trans d0
    clear hb
    go_wp2_with fail
    go_ret
    exact ⟨rfl, HB.out⟩
set_option maxHeartbeats 4000000 in
theorem truth_any (b : Bool) (w : World) : Calls Try.prog 81 #[.bool b] w fun e w' => e = .returned (Hp.truth b).val ∧ Below w.heap.size w w' := by
  cases b
  all_goals
    go_enter Try.func81, Try.ntmps81
    go_wp2_with fail
    refine bodyPost_ret (res1 rfl _ _ w.heap.size 64 _ (0, 0) rfl (heap_alloc_new w _) valD valSize) rfl ?_
    exact ⟨rfl, (Below.refl _ _).alloc (Nat.le_refl _) _⟩
set_option maxHeartbeats 4000000 in
theorem zero_any (n : Int) (w : World) : Calls Try.prog 95 #[.int .i64 n] w fun e w' => e = .returned (.agg #[.int .i64 1, .int .i64 n, .string ⟨#[]⟩]) ∧ Below w.heap.size w w' := by
  go_enter Try.func95, Try.ntmps95
  go_wp2_with fail
  refine bodyPost_ret (res1 rfl _ _ w.heap.size 64 _ (0, 0) rfl (heap_alloc_new w _) valD valSize) rfl ?_
  exact ⟨rfl, (Below.refl _ _).alloc (Nat.le_refl _) _⟩
end Go.Proofs.Ytalfnaielhbocaa
namespace Go.Proofs.Ytalfnaielhbocaa
open Go.RowKit
set_option maxRecDepth 100000
set_option linter.unusedVariables false
set_option linter.unusedSimpArgs false
namespace Hp
def reckF (op x y : Int) : V × Int :=
  if (rk op (8 * x) (8 * y)).2 = 10 then (none, 81) else if (rk op (8 * x) (8 * y)).2 = 11 then (none, 82) else (num ((rk op (8 * x) (8 * y)).1 / 8), 0)
end Hp
set_option maxHeartbeats 4000000 in
set_option maxRecDepth 100000 in
theorem hreckon_any (op : Int) (a b : Hp.V) (w : World) (ha : isN a.int = true) (hb : isN b.int = true) :
    Calls Try.prog 82 #[.int .i64 op, a.val, b.val] w fun e w' => e = .returned (.tuple #[(Hp.reckF op a.int b.int).1.val, .int .i64 (Hp.reckF op a.int b.int).2]) ∧ Below w.heap.size w w' := by
  obtain ⟨ak, ai, at3⟩ := a
  obtain ⟨bk, bi, bt⟩ := b
  dsimp only at *
  have a1 := isN_iff.1 ha
  have b1 := isN_iff.1 hb
  have HA : Hid (intA ai = (8 * ai, 0)) := by unfold Hid intA; rw [ha]; rfl
  have HB : Hid (intA bi = (8 * bi, 0)) := by unfold Hid intA; rw [hb]; rfl
  obtain ⟨r, hr⟩ : ∃ r, rk op (8 * ai) (8 * bi) = r := ⟨_, rfl⟩
  have HK := Lib.hid (fun w => reckon_any op (8 * ai) (8 * bi) w (by omega) (by omega) (by omega) (by omega))
  rw [hr] at HK
  have HRF : Hid (Hp.reckF op ai bi = if r.2 = 10 then (Hp.none, 81) else if r.2 = 11 then (Hp.none, 82) else (Hp.num (r.1 / 8), 0)) := by unfold Hid Hp.reckF; rw [hr]
  have HI := Lib.hid (int_any ai)
  have HJ := Lib.hid (int_any bi)
  rw [HA.out] at HI
  rw [HB.out] at HJ
  rw [HRF.out]
  obtain ⟨r1, r2⟩ := r
  dsimp only at *
  clear ha hb hr HA HB HRF
  unfold Hp.V.val
  dsimp only
  rcases (by omega : r2 = 10 ∨ r2 = 11 ∨ (r2 ≠ 10 ∧ r2 ≠ 11)) with rfl | rfl | ⟨g1, g2⟩
  · rw [if_pos rfl]
    go_enter Try.func82, Try.ntmps82
    go_wp2_with (first | (go_at_call 92; (with_reducible refine (HK.out _).mono ?_); rintro e w1 ⟨rfl, rfl⟩) | (with_reducible refine (HI.out _).mono ?_; rintro e w1 ⟨rfl, rfl⟩) | (with_reducible refine (HJ.out _).mono ?_; rintro e w1 ⟨rfl, rfl⟩))
    refine bodyPost_ret (res2 rfl _ _ (w.heap.size + 1 + 1) 64 _ (0, 0) rfl (heap_new (by simp)) valD valSize) rfl ?_
    exact ⟨rfl, (((Below.refl _ _).alloc (Nat.le_refl _) _).alloc (by simp) _).alloc (by simp; omega) _⟩
  · rw [if_neg (by decide), if_pos rfl]
    go_enter Try.func82, Try.ntmps82
    go_wp2_with (first | (go_at_call 92; (with_reducible refine (HK.out _).mono ?_); rintro e w1 ⟨rfl, rfl⟩) | (with_reducible refine (HI.out _).mono ?_; rintro e w1 ⟨rfl, rfl⟩) | (with_reducible refine (HJ.out _).mono ?_; rintro e w1 ⟨rfl, rfl⟩))
    refine bodyPost_ret (res2 rfl _ _ (w.heap.size + 1 + 1) 64 _ (0, 0) rfl (heap_new (by simp)) valD valSize) rfl ?_
    exact ⟨rfl, (((Below.refl _ _).alloc (Nat.le_refl _) _).alloc (by simp) _).alloc (by simp; omega) _⟩
  · rw [if_neg g1, if_neg g2]
    have q1 := beq_eq_false_iff_ne.2 g1
    have q2 := beq_eq_false_iff_ne.2 g2
    clear g1 g2
    go_enter Try.func82, Try.ntmps82
    go_wp2_with (first | (go_at_call 92; (with_reducible refine (HK.out _).mono ?_); rintro e w1 ⟨rfl, rfl⟩) | (go_at_call 93; (with_reducible refine (value_any _ _).mono ?_); rintro e w1 ⟨rfl, rfl⟩) | (with_reducible refine (HI.out _).mono ?_; rintro e w1 ⟨rfl, rfl⟩) | (with_reducible refine (HJ.out _).mono ?_; rintro e w1 ⟨rfl, rfl⟩))
    refine bodyPost_ret (res2 rfl _ _ (w.heap.size + 1 + 1) 64 _ (0, 0) rfl (heap_new (by simp)) valD valSize) rfl ?_
    exact ⟨rfl, (((Below.refl _ _).alloc (Nat.le_refl _) _).alloc (by simp) _).alloc (by simp; omega) _⟩
end Go.Proofs.Ytalfnaielhbocaa
namespace Go.Proofs.Ytalfnaielhbocaa
open Go.RowKit
set_option maxRecDepth 100000
set_option linter.unusedVariables false
set_option linter.unusedSimpArgs false
namespace Hp
structure Row where
  name : ByteArray
  letters : List Int
  bytes : ByteArray
  ask : Int
  letter : Int
def tab : List Row := [
  ⟨⟨#[43]⟩, [105, 105], ⟨#[105, 105]⟩, -1, 0⟩,
  ⟨⟨#[45]⟩, [105, 105], ⟨#[105, 105]⟩, -1, 0⟩,
  ⟨⟨#[42]⟩, [105, 105], ⟨#[105, 105]⟩, -1, 0⟩,
  ⟨⟨#[113, 117, 111, 116, 105, 101, 110, 116]⟩, [105, 105], ⟨#[105, 105]⟩, -1, 0⟩,
  ⟨⟨#[114, 101, 109, 97, 105, 110, 100, 101, 114]⟩, [105, 105], ⟨#[105, 105]⟩, -1, 0⟩,
  ⟨⟨#[60]⟩, [105, 105], ⟨#[105, 105]⟩, -1, 0⟩,
  ⟨⟨#[61]⟩, [105, 105], ⟨#[105, 105]⟩, -1, 0⟩,
  ⟨⟨#[101, 113, 63]⟩, [46, 46], ⟨#[46, 46]⟩, -1, 0⟩,
  ⟨⟨#[110, 117, 108, 108, 63]⟩, [46], ⟨#[46]⟩, 4, 0⟩,
  ⟨⟨#[115, 121, 109, 98, 111, 108, 63]⟩, [46], ⟨#[46]⟩, 3, 0⟩,
  ⟨⟨#[99, 104, 97, 114, 63]⟩, [46], ⟨#[46]⟩, 2, 0⟩,
  ⟨⟨#[105, 110, 116, 101, 103, 101, 114, 63]⟩, [46], ⟨#[46]⟩, 1, 0⟩,
  ⟨⟨#[98, 111, 111, 108, 101, 97, 110, 63]⟩, [46], ⟨#[46]⟩, 0, 0⟩,
  ⟨⟨#[101, 111, 102, 45, 111, 98, 106, 101, 99, 116, 63]⟩, [46], ⟨#[46]⟩, 6, 0⟩,
  ⟨⟨#[112, 97, 105, 114, 63]⟩, [46], ⟨#[46]⟩, 0, 112⟩,
  ⟨⟨#[118, 101, 99, 116, 111, 114, 63]⟩, [46], ⟨#[46]⟩, 0, 118⟩,
  ⟨⟨#[115, 116, 114, 105, 110, 103, 63]⟩, [46], ⟨#[46]⟩, 0, 115⟩,
  ⟨⟨#[112, 114, 111, 99, 101, 100, 117, 114, 101, 63]⟩, [46], ⟨#[46]⟩, 0, 114⟩,
  ⟨⟨#[99, 111, 110, 115]⟩, [46, 46], ⟨#[46, 46]⟩, -1, 0⟩,
  ⟨⟨#[99, 97, 114]⟩, [112], ⟨#[112]⟩, -1, 0⟩,
  ⟨⟨#[99, 100, 114]⟩, [112], ⟨#[112]⟩, -1, 0⟩,
  ⟨⟨#[115, 101, 116, 45, 99, 97, 114, 33]⟩, [112, 46], ⟨#[112, 46]⟩, -1, 0⟩,
  ⟨⟨#[115, 101, 116, 45, 99, 100, 114, 33]⟩, [112, 46], ⟨#[112, 46]⟩, -1, 0⟩,
  ⟨⟨#[109, 97, 107, 101, 45, 118, 101, 99, 116, 111, 114]⟩, [105, 46], ⟨#[105, 46]⟩, -1, 0⟩,
  ⟨⟨#[109, 97, 107, 101, 45, 115, 116, 114, 105, 110, 103]⟩, [105, 99], ⟨#[105, 99]⟩, -1, 0⟩,
  ⟨⟨#[118, 101, 99, 116, 111, 114, 45, 108, 101, 110, 103, 116, 104]⟩, [118], ⟨#[118]⟩, -1, 0⟩,
  ⟨⟨#[115, 116, 114, 105, 110, 103, 45, 108, 101, 110, 103, 116, 104]⟩, [115], ⟨#[115]⟩, -1, 0⟩,
  ⟨⟨#[118, 101, 99, 116, 111, 114, 45, 114, 101, 102]⟩, [118, 105], ⟨#[118, 105]⟩, -1, 0⟩,
  ⟨⟨#[115, 116, 114, 105, 110, 103, 45, 114, 101, 102]⟩, [115, 105], ⟨#[115, 105]⟩, -1, 0⟩,
  ⟨⟨#[118, 101, 99, 116, 111, 114, 45, 115, 101, 116, 33]⟩, [118, 105, 46], ⟨#[118, 105, 46]⟩, -1, 0⟩,
  ⟨⟨#[115, 116, 114, 105, 110, 103, 45, 115, 101, 116, 33]⟩, [115, 105, 99], ⟨#[115, 105, 99]⟩, -1, 0⟩,
  ⟨⟨#[99, 104, 97, 114, 45, 62, 105, 110, 116, 101, 103, 101, 114]⟩, [99], ⟨#[99]⟩, -1, 0⟩,
  ⟨⟨#[105, 110, 116, 101, 103, 101, 114, 45, 62, 99, 104, 97, 114]⟩, [105], ⟨#[105]⟩, -1, 0⟩,
  ⟨⟨#[37, 98, 111, 120]⟩, [46], ⟨#[46]⟩, -1, 0⟩,
  ⟨⟨#[37, 117, 110, 98, 111, 120]⟩, [98], ⟨#[98]⟩, -1, 0⟩,
  ⟨⟨#[37, 115, 101, 116, 45, 98, 111, 120, 33]⟩, [98, 46], ⟨#[98, 46]⟩, -1, 0⟩,
  ⟨⟨#[118, 111, 105, 100]⟩, [], ⟨#[]⟩, -1, 0⟩,
  ⟨⟨#[37, 117, 110, 115, 101, 116]⟩, [], ⟨#[]⟩, -1, 0⟩]
end Hp
set_option maxHeartbeats 16000000 in
set_option maxRecDepth 100000 in
theorem wants_at : ∀ x ∈ Hp.tab, ∀ w : World, Calls Try.prog 78 #[.string x.name] w fun e w' => e = .returned (.tuple #[.string x.bytes, .bool true]) ∧ w = w' := by
  intro x hx
  simp only [Hp.tab, List.mem_cons, List.not_mem_nil, or_false] at hx
  rcases hx with rfl | rfl | rfl | rfl | rfl | rfl | rfl | rfl | rfl | rfl | rfl | rfl | rfl | rfl | rfl | rfl | rfl | rfl | rfl | rfl | rfl | rfl | rfl | rfl | rfl | rfl | rfl | rfl | rfl | rfl | rfl | rfl | rfl | rfl | rfl | rfl | rfl | rfl
  all_goals
    intro w
    go_enter Try.func78, Try.ntmps78
    go_wp2_with fail
    go_ret2
    exact ⟨rfl, rfl⟩
set_option maxHeartbeats 16000000 in
set_option maxRecDepth 100000 in
theorem asks_at : ∀ x ∈ Hp.tab, ∀ w : World, Calls Try.prog 80 #[.string x.name] w fun e w' => e = .returned (.tuple #[.int .i64 x.ask, .int .u8 x.letter]) ∧ w = w' := by
  intro x hx
  simp only [Hp.tab, List.mem_cons, List.not_mem_nil, or_false] at hx
  rcases hx with rfl | rfl | rfl | rfl | rfl | rfl | rfl | rfl | rfl | rfl | rfl | rfl | rfl | rfl | rfl | rfl | rfl | rfl | rfl | rfl | rfl | rfl | rfl | rfl | rfl | rfl | rfl | rfl | rfl | rfl | rfl | rfl | rfl | rfl | rfl | rfl | rfl | rfl
  all_goals
    intro w
    go_enter Try.func80, Try.ntmps80
    go_wp2_with fail
    go_ret2
    exact ⟨rfl, rfl⟩
end Go.Proofs.Ytalfnaielhbocaa
