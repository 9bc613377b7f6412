/- What a call of the heap leaves; filled. -/
import Derived.Test.YtalfnaielhbocaaKJaq
import Derived.Test.YtalfnaielhbocaaKJat
set_option linter.unusedVariables false
set_option linter.unusedSimpArgs false
set_option linter.unnecessarySimpa false
namespace Go.Proofs.Ytalfnaielhbocaa
open Go.RowKit
set_option maxRecDepth 100000
set_option linter.unusedVariables false
set_option linter.unusedSimpArgs false
def DoPost (ty h : Nat) (O : Nat → Prop) (r : Hp.V) (err : Int) (T : List Hp.Th) (w : World) (e : Ending) (w' : World) : Prop :=
  ∃ O', e = .returned (.tuple #[r.val, .int .i64 err]) ∧ HSt w' ty h O' T ∧ Grow O O' w w'
theorem DoPost.read {ty h : Nat} {O : Nat → Prop} {r : Hp.V} {err : Int} {T : List Hp.Th} {w w' : World} {e : Ending} (H : HSt w ty h O T) (he : e = .returned (.tuple #[r.val, .int .i64 err])) (hb : Below w.heap.size w w') : DoPost ty h O r err T w e w' :=
  ⟨O, he, H.below hb (Nat.le_refl _), Grow.of hb⟩
theorem ret_end {w w2 : World} {ty h g : Nat} {O O' : Nat → Prop} {T : List Hp.Th} (H : HSt w2 ty h O' T) (G : Grow O O' w w2) (hn : ¬ O' g) (hg : w.heap.size ≤ g) (x y z : Value) :
    HSt (((w2.setCell ⟨g, 0, none⟩ x).setCell ⟨g, 1, none⟩ y).setCell ⟨g, 2, none⟩ z) ty h O' T ∧ Grow O O' w (((w2.setCell ⟨g, 0, none⟩ x).setCell ⟨g, 1, none⟩ y).setCell ⟨g, 2, none⟩ z) := by
  have hk : ∀ b, b ≠ g → (((w2.setCell ⟨g, 0, none⟩ x).setCell ⟨g, 1, none⟩ y).setCell ⟨g, 2, none⟩ z).heap[b]? = w2.heap[b]? := fun b hb => by
    rw [heap_setCell_other _ _ _ _ hb, heap_setCell_other _ _ _ _ hb, heap_setCell_other _ _ _ _ hb]
  have hs : (((w2.setCell ⟨g, 0, none⟩ x).setCell ⟨g, 1, none⟩ y).setCell ⟨g, 2, none⟩ z).heap.size = w2.heap.size := by simp [World.setCell]
  exact ⟨H.keep (by rw [hs]; exact Nat.le_refl _) fun b hb => hk b (fun e => hn (e ▸ hb)), ⟨G.os, G.tape, G.output, by rw [hs]; exact G.size, fun b hb ho => (hk b (by omega)).trans (G.block b hb ho), G.own⟩⟩
theorem GrowB.grow {B : Nat} {O O' : Nat → Prop} {w w' : World} (h : GrowB B O O' w w') (hB : w.heap.size ≤ B) : Grow O O' w w' := ⟨h.os, h.tape, h.output, h.size, h.block, fun b hb => (h.own b hb).imp id fun e => Nat.le_trans hB e⟩
set_option maxHeartbeats 2000000 in
theorem filled_out (h : Nat) (kind n : Int) (v : Hp.V) (w : World) (hn : n < 0 ∨ 1000 < n) :
    Calls Try.prog 94 #[.pointer (some ⟨h, 0, none⟩), .int .i64 kind, .int .i64 n, v.val] w fun e w' => e = .returned (.tuple #[Hp.none.val, .int .i64 83]) ∧ Below w.heap.size w w' := by
  unfold Hp.V.val
  rcases hn with hn | hn
  · have g1 : decide (n < 0) = true := decide_eq_true hn
    clear hn
    go_enter Try.func94, Try.ntmps94
    go_wp2_with fail
    refine bodyPost_ret (res2 rfl _ _ (w.heap.size + 1) 64 _ (0, 0) rfl (heap_new (by simp)) valD valSize) rfl ?_
    exact ⟨rfl, ((Below.refl _ _).alloc (Nat.le_refl _) _).alloc (by simp) _⟩
  · have g1 : decide (n < 0) = false := decide_eq_false (by omega)
    have g2 : decide (1000 < n) = true := decide_eq_true hn
    clear hn
    go_enter Try.func94, Try.ntmps94
    go_wp2_with fail
    refine bodyPost_ret (res2 rfl _ _ (w.heap.size + 1) 64 _ (0, 0) rfl (heap_new (by simp)) valD valSize) rfl ?_
    exact ⟨rfl, ((Below.refl _ _).alloc (Nat.le_refl _) _).alloc (by simp) _⟩
set_option maxHeartbeats 4000000 in
set_option maxRecDepth 100000 in
theorem filled_in (h : Nat) (O : Nat → Prop) (T : List Hp.Th) (kind : Int) (n : Nat) (v : Hp.V) (w : World) (H : HSt w 83 h O T) (hT : T.length ≤ 1000000) (hn : n ≤ 1000) :
    Calls Try.prog 94 #[.pointer (some ⟨h, 0, none⟩), .int .i64 kind, .int .i64 n, v.val] w (DoPost 83 h O ⟨8, T.length, ⟨#[]⟩⟩ 0 (T ++ [⟨kind, List.replicate n v⟩]) w) := by
  have g1 : decide ((n : Int) < 0) = false := decide_eq_false (by omega)
  have g2 : decide ((1000 : Int) < n) = false := decide_eq_false (by omega)
  have HH := Lib.hid H
  have HR : Hid (∀ (b : Nat) (w1 : World), w1.heap[b]? = some (.cells #[.int .i64 v.kind, .int .i64 v.int, .string v.text] 64 (0, 0)) → Calls Try.prog 35 #[.slice (some ⟨b, 0, none⟩) 1 1, .int .i64 n] w1 (RepPost n v w1)) := fun b w1 h => repeat_any v n hn b w1 h
  have HA : Hid (∀ (pv : Value) (B : Nat) (w1 : World), Below w.heap.size w w1 → w1.ownsRow B 64 3 pv n (Hp.flatV (List.replicate n v)) → w.heap.size ≤ B → B ≤ w1.heap.size → Calls Try.prog 53 #[.pointer (some ⟨h, 0, none⟩), .int .i64 kind, pv] w1 (AddPost 83 h B O T ⟨kind, List.replicate n v⟩ w1)) := by
    intro pv B w1 hb ho hB1 hB2
    refine add_any h O T B ⟨kind, List.replicate n v⟩ pv w1 (H.below hb (Nat.le_refl _)) (by simpa using ho) (fun b hb => Nat.lt_of_lt_of_le (H.lt b hb) hB1) hB2 hT
  clear H
  obtain ⟨vk, vi, vt⟩ := v
  unfold DoPost
  unfold AddPost at HA
  unfold Hp.V.val at *
  dsimp only at *
  go_enter Try.func94, Try.ntmps94
  go_wp2_with fail
  with_reducible refine (HR.out _ _ (heap_new (by simp))).mono ?_
  rintro e w1 ⟨a, c, rfl, hown, hb⟩
  have hb1 : Below w.heap.size w ((w.alloc (.cells #[.int .i64 vk, .int .i64 vi, .string vt] 64)).alloc (.cells #[.int .i64 0, .int .i64 0, .string ⟨#[]⟩] 64) |>.alloc (.cells #[.int .i64 vk, .int .i64 vi, .string vt] 64)) := (((Below.refl _ _).alloc (Nat.le_refl _) _).alloc (by simp) _).alloc (by simp; omega) _
  have e3 : w.heap.size + 1 + 1 + 1 = ((w.alloc (.cells #[.int .i64 vk, .int .i64 vi, .string vt] 64)).alloc (.cells #[.int .i64 0, .int .i64 0, .string ⟨#[]⟩] 64) |>.alloc (.cells #[.int .i64 vk, .int .i64 vi, .string vt] 64)).heap.size := by simp
  have hw1 : Below w.heap.size w w1 := hb1.trans (hb.mono hb1.size)
  have hs1 : w.heap.size + 1 + 1 + 1 ≤ w1.heap.size := by rw [e3]; exact hb.size
  rw [← e3] at hb hown
  have hz : w1.heap[w.heap.size + 1]? = some (.cells #[.int .i64 0, .int .i64 0, .string ⟨#[]⟩] 64 (0, 0)) := by
    rw [hb.block _ (by omega), heap_alloc_old _ _ (by simp)]
    exact heap_new (by simp)
  have HB := Lib.hid hw1
  have HO := Lib.hid hown
  have HZ := Lib.hid hz
  have HS1 := Lib.hid hs1
  clear hb hown hb1 e3 hw1 hz hs1
  go_wp2_with fail
  with_reducible refine (HA.out _ (w.heap.size + 1 + 1 + 1) w1 HB.out HO.out (by omega) HS1.out).mono ?_
  rintro e w2 ⟨O', rfl, hst, hg⟩
  have hnO : ¬ O (w.heap.size + 1) := fun e => by have := HH.out.lt _ e; omega
  have hnO' : ¬ O' (w.heap.size + 1) := fun e => by
    rcases hg.own _ e with e | e
    · exact hnO e
    · omega
  have hz2 : w2.heap[w.heap.size + 1]? = some (.cells #[.int .i64 0, .int .i64 0, .string ⟨#[]⟩] 64 (0, 0)) := (hg.block _ (by have := HS1.out; omega) hnO).trans HZ.out
  have q0 := cell_of_row w2 _ 0 _ _ _ hz2
  have q1 := cell_of_row w2 _ 1 _ _ _ hz2
  have q2 := cell_of_row w2 _ 2 _ _ _ hz2
  simp only [List.getElem?_toArray, List.getElem?_cons_zero, List.getElem?_cons_succ] at q0 q1 q2
  have k0 := frozen_of_row w2 _ 0 _ _ hz2
  have k1 := frozen_of_row w2 _ 1 _ _ hz2
  have k2 := frozen_of_row w2 _ 2 _ _ hz2
  have HZ2 := Lib.hid hz2
  have HE := Lib.hid (fun x y z => ret_end hst ((hg.pre HB.out).grow (by omega)) hnO' (g := w.heap.size + 1) (by omega) x y z)
  clear hg hst hz2 hnO hnO'
  go_wp2_with fail
  refine bodyPost_ret (res2 rfl _ _ (w.heap.size + 1) 64 _ (0, 0) rfl (three_set _ _ _ _ _ _ _ _ _ HZ2.out) valD valSize) rfl ?_
  exact ⟨O', by simp, HE.out _ _ _⟩
end Go.Proofs.Ytalfnaielhbocaa
