/- What a call of the heap leaves; filled. -/
import Derived.Test.YthbnhneibpoooaaQMD
import Derived.Test.YthbnhneibpoooaaQHpRepW
import Derived.StillTailTactics
import Derived.Deep.RegionHeld3
set_option linter.unusedVariables false
set_option linter.unusedSimpArgs false
set_option linter.unnecessarySimpa false
namespace Go.Proofs.Ythbnhneibpoooaa
open Go.RowKit
set_option linter.unusedVariables false
set_option linter.unusedSimpArgs false
/-- A value and an error; the things then. -/
def DoPost (ty h : Nat) (O : Nat → Prop) (r : Hp.V) (err : Int) (T : List Hp.Th) (w : World) (e : Ending) (w' : World) : Prop :=
  ∃ O', e = .returned (.tuple #[r.val, .int .i64 err]) ∧ HSt w' ty h O' T ∧ Grow O O' w w'
theorem DoPost.read {ty h : Nat} {O : Nat → Prop} {r : Hp.V} {err : Int} {T : List Hp.Th} {w w' : World} {e : Ending} (H : HSt w ty h O T) (he : e = .returned (.tuple #[r.val, .int .i64 err])) (hb : Below w.heap.size w w') : DoPost ty h O r err T w e w' :=
  ⟨O, he, H.below hb (Nat.le_refl _), Grow.of hb⟩
/-- A result that stands in a block of the call's own. -/
theorem ret_end {w w2 : World} {ty h g : Nat} {O O' : Nat → Prop} {T : List Hp.Th} (H : HSt w2 ty h O' T) (G : Grow O O' w w2) (hn : ¬ O' g) (hg : w.heap.size ≤ g) (x y z : Value) :
    HSt (((w2.setCell ⟨g, 0, none⟩ x).setCell ⟨g, 1, none⟩ y).setCell ⟨g, 2, none⟩ z) ty h O' T ∧ Grow O O' w (((w2.setCell ⟨g, 0, none⟩ x).setCell ⟨g, 1, none⟩ y).setCell ⟨g, 2, none⟩ z) := by
  have hk : ∀ b, b ≠ g → (((w2.setCell ⟨g, 0, none⟩ x).setCell ⟨g, 1, none⟩ y).setCell ⟨g, 2, none⟩ z).heap[b]? = w2.heap[b]? := fun b hb => by
    rw [heap_setCell_other _ _ _ _ hb, heap_setCell_other _ _ _ _ hb, heap_setCell_other _ _ _ _ hb]
  have hs : (((w2.setCell ⟨g, 0, none⟩ x).setCell ⟨g, 1, none⟩ y).setCell ⟨g, 2, none⟩ z).heap.size = w2.heap.size := by simp [World.setCell]
  exact ⟨H.keep (by rw [hs]; exact Nat.le_refl _) fun b hb => hk b (fun e => hn (e ▸ hb)), ⟨G.os, G.tape, G.output, by rw [hs]; exact G.size, fun b hb ho => (hk b (by omega)).trans (G.block b hb ho), G.own⟩⟩
theorem GrowB.grow {B : Nat} {O O' : Nat → Prop} {w w' : World} (h : GrowB B O O' w w') (hB : w.heap.size ≤ B) : Grow O O' w w' := ⟨h.os, h.tape, h.output, h.size, h.block, fun b hb => (h.own b hb).imp id fun e => Nat.le_trans hB e⟩
set_option maxHeartbeats 2000000 in
theorem filled_out (h : Nat) (kind n : Int) (v : Hp.V) (w : World) (hn : n < 0 ∨ 1000 < n) :
    Calls Try.prog 56 #[.pointer (some ⟨h, 0, none⟩), .int .i64 kind, .int .i64 n, v.val] w fun e w' => e = .returned (.tuple #[Hp.none.val, .int .i64 83]) ∧ Below w.heap.size w w' := by
  unfold Hp.V.val
  rcases hn with hn | hn
  · have g1 : decide (n < 0) = true := decide_eq_true hn
    clear hn
    go_enter Try.func56, Try.ntmps56
    go_wp2_with fail
    refine bodyPost_ret (res2 rfl _ _ (w.heap.size + 1) 27 _ (0, 0) rfl (heap_new (by simp)) valD valSize) rfl ?_
    exact ⟨rfl, ((Below.refl _ _).alloc (Nat.le_refl _) _).alloc (by simp) _⟩
  · have g1 : decide (n < 0) = false := decide_eq_false (by omega)
    have g2 : decide (1000 < n) = true := decide_eq_true hn
    clear hn
    go_enter Try.func56, Try.ntmps56
    go_wp2_with fail
    refine bodyPost_ret (res2 rfl _ _ (w.heap.size + 1) 27 _ (0, 0) rfl (heap_new (by simp)) valD valSize) rfl ?_
    exact ⟨rfl, ((Below.refl _ _).alloc (Nat.le_refl _) _).alloc (by simp) _⟩
set_option maxHeartbeats 4000000 in
set_option maxRecDepth 100000 in
theorem filled_in (h : Nat) (O : Nat → Prop) (T : List Hp.Th) (kind : Int) (n : Nat) (v : Hp.V) (w : World) (H : HSt w 65 h O T) (hT : T.length ≤ 1000000) (hn : n ≤ 1000) :
    Calls Try.prog 56 #[.pointer (some ⟨h, 0, none⟩), .int .i64 kind, .int .i64 n, v.val] w (DoPost 65 h O ⟨8, T.length, ⟨#[]⟩⟩ 0 (T ++ [⟨kind, List.replicate n v⟩]) w) := by
  have g1 : decide ((n : Int) < 0) = false := decide_eq_false (by omega)
  have g2 : decide ((1000 : Int) < n) = false := decide_eq_false (by omega)
  have HH := Lib.hid H
  have HR : Hid (∀ (b : Nat) (w1 : World), w1.heap[b]? = some (.cells #[.int .i64 v.kind, .int .i64 v.int, .string v.text] 27 (0, 0)) → Calls Try.prog 75 #[.slice (some ⟨b, 0, none⟩) 1 1, .int .i64 n] w1 (RepPost n v w1)) := fun b w1 h => repeat_any v n hn b w1 h
  have HA : Hid (∀ (pv : Value) (B : Nat) (w1 : World), Below w.heap.size w w1 → w1.ownsRow B 27 3 pv n (Hp.flatV (List.replicate n v)) → w.heap.size ≤ B → B ≤ w1.heap.size → Calls Try.prog 34 #[.pointer (some ⟨h, 0, none⟩), .int .i64 kind, pv] w1 (AddPost 65 h B O T ⟨kind, List.replicate n v⟩ w1)) := by
    intro pv B w1 hb ho hB1 hB2
    refine add_any h O T B ⟨kind, List.replicate n v⟩ pv w1 (H.below hb (Nat.le_refl _)) (by simpa using ho) (fun b hb => Nat.lt_of_lt_of_le (H.lt b hb) hB1) hB2 hT
  clear H
  obtain ⟨vk, vi, vt⟩ := v
  unfold DoPost
  unfold AddPost at HA
  unfold Hp.V.val at *
  dsimp only at *
  go_enter Try.func56, Try.ntmps56
  go_wp2_with fail
  with_reducible refine (HR.out _ _ (heap_new (by simp))).mono ?_
  rintro e w1 ⟨a, c, rfl, hown, hb⟩
  have hb1 : Below w.heap.size w ((w.alloc (.cells #[.int .i64 vk, .int .i64 vi, .string vt] 27)).alloc (.cells #[.int .i64 0, .int .i64 0, .string ⟨#[]⟩] 27) |>.alloc (.cells #[.int .i64 vk, .int .i64 vi, .string vt] 27)) := (((Below.refl _ _).alloc (Nat.le_refl _) _).alloc (by simp) _).alloc (by simp; omega) _
  have e3 : w.heap.size + 1 + 1 + 1 = ((w.alloc (.cells #[.int .i64 vk, .int .i64 vi, .string vt] 27)).alloc (.cells #[.int .i64 0, .int .i64 0, .string ⟨#[]⟩] 27) |>.alloc (.cells #[.int .i64 vk, .int .i64 vi, .string vt] 27)).heap.size := by simp
  have hw1 : Below w.heap.size w w1 := hb1.trans (hb.mono hb1.size)
  have hs1 : w.heap.size + 1 + 1 + 1 ≤ w1.heap.size := by rw [e3]; exact hb.size
  rw [← e3] at hb hown
  have hz : w1.heap[w.heap.size + 1]? = some (.cells #[.int .i64 0, .int .i64 0, .string ⟨#[]⟩] 27 (0, 0)) := by
    rw [hb.block _ (by omega), heap_alloc_old _ _ (by simp)]
    exact heap_new (by simp)
  have HB := Lib.hid hw1
  have HO := Lib.hid hown
  have HZ := Lib.hid hz
  have HS1 := Lib.hid hs1
  clear hb hown hb1 e3 hw1 hz hs1
  go_wp2_with fail
  with_reducible refine (HA.out _ (w.heap.size + 1 + 1 + 1) w1 HB.out HO.out (by omega) HS1.out).mono ?_
  rintro e w2 ⟨O', rfl, hst, hg⟩
  have hnO : ¬ O (w.heap.size + 1) := fun e => by have := HH.out.lt _ e; omega
  have hnO' : ¬ O' (w.heap.size + 1) := fun e => by
    rcases hg.own _ e with e | e
    · exact hnO e
    · omega
  have hz2 : w2.heap[w.heap.size + 1]? = some (.cells #[.int .i64 0, .int .i64 0, .string ⟨#[]⟩] 27 (0, 0)) := (hg.block _ (by have := HS1.out; omega) hnO).trans HZ.out
  have q0 := cell_of_row w2 _ 0 _ _ _ hz2
  have q1 := cell_of_row w2 _ 1 _ _ _ hz2
  have q2 := cell_of_row w2 _ 2 _ _ _ hz2
  simp only [List.getElem?_toArray, List.getElem?_cons_zero, List.getElem?_cons_succ] at q0 q1 q2
  have k0 := frozen_of_row w2 _ 0 _ _ hz2
  have k1 := frozen_of_row w2 _ 1 _ _ hz2
  have k2 := frozen_of_row w2 _ 2 _ _ hz2
  have HZ2 := Lib.hid hz2
  have HE := Lib.hid (fun x y z => ret_end hst ((hg.pre HB.out).grow (by omega)) hnO' (g := w.heap.size + 1) (by omega) x y z)
  clear hg hst hz2 hnO hnO'
  go_wp2_with fail
  refine bodyPost_ret (res2 rfl _ _ (w.heap.size + 1) 27 _ (0, 0) rfl (three_set _ _ _ _ _ _ _ _ _ HZ2.out) valD valSize) rfl ?_
  exact ⟨O', by simp, HE.out _ _ _⟩
end Go.Proofs.Ythbnhneibpoooaa
/- The heap's act. -/
namespace Go.Proofs.Ythbnhneibpoooaa
open Go.RowKit
set_option linter.unusedVariables false
set_option linter.unusedSimpArgs false
/-- A result's block behind a call, and the world behind the result's store. -/
theorem do_tail {w w2 w3 : World} {ty h g : Nat} {O O' : Nat → Prop} {T : List Hp.Th} {t : TypeId} (hb : Below w.heap.size w w2) (hO : ∀ b, O b → b < w.heap.size) (hg : w.heap.size ≤ g) (hg2 : g < w2.heap.size)
    (hz : w2.heap[g]? = some (.cells #[.int .i64 0, .int .i64 0, .string ⟨#[]⟩] t (0, 0))) (hst : HSt w3 ty h O' T) (hgr : Grow O O' w2 w3) :
    w3.heap[g]? = some (.cells #[.int .i64 0, .int .i64 0, .string ⟨#[]⟩] t (0, 0)) ∧ ∀ x y z, HSt (((w3.setCell ⟨g, 0, none⟩ x).setCell ⟨g, 1, none⟩ y).setCell ⟨g, 2, none⟩ z) ty h O' T ∧ Grow O O' w (((w3.setCell ⟨g, 0, none⟩ x).setCell ⟨g, 1, none⟩ y).setCell ⟨g, 2, none⟩ z) := by
  have hn : ¬ O g := fun e => by have := hO g e; omega
  have hn' : ¬ O' g := fun e => by
    rcases hgr.own g e with e | e
    · exact hn e
    · omega
  exact ⟨(hgr.block g hg2 hn).trans hz, fun x y z => ret_end hst ((Grow.of hb).trans hgr) hn' hg x y z⟩
/-- The cells of a call's arguments. -/
def ArgC (b off : Nat) : List Hp.V → World → Prop
  | [], w => True
  | [x], w => w.cell? ⟨b, off, none⟩ = some (.int .i64 x.kind) ∧ w.cell? ⟨b, off + 1, none⟩ = some (.int .i64 x.int) ∧ w.cell? ⟨b, off + 2, none⟩ = some (.string x.text)
  | [x, y], w => w.cell? ⟨b, off, none⟩ = some (.int .i64 x.kind) ∧ w.cell? ⟨b, off + 1, none⟩ = some (.int .i64 x.int) ∧ w.cell? ⟨b, off + 2, none⟩ = some (.string x.text) ∧
    w.cell? ⟨b, off + 3, none⟩ = some (.int .i64 y.kind) ∧ w.cell? ⟨b, off + 3 + 1, none⟩ = some (.int .i64 y.int) ∧ w.cell? ⟨b, off + 3 + 2, none⟩ = some (.string y.text)
  | x :: y :: z :: _, w => w.cell? ⟨b, off, none⟩ = some (.int .i64 x.kind) ∧ w.cell? ⟨b, off + 1, none⟩ = some (.int .i64 x.int) ∧ w.cell? ⟨b, off + 2, none⟩ = some (.string x.text) ∧
    w.cell? ⟨b, off + 3, none⟩ = some (.int .i64 y.kind) ∧ w.cell? ⟨b, off + 3 + 1, none⟩ = some (.int .i64 y.int) ∧ w.cell? ⟨b, off + 3 + 2, none⟩ = some (.string y.text) ∧
    w.cell? ⟨b, off + 6, none⟩ = some (.int .i64 z.kind) ∧ w.cell? ⟨b, off + 6 + 1, none⟩ = some (.int .i64 z.int) ∧ w.cell? ⟨b, off + 6 + 2, none⟩ = some (.string z.text)
theorem ArgC.same {b off : Nat} {l : List Hp.V} {w w' : World} (h : ArgC b off l w) (hs : ∀ o, w'.cell? ⟨b, o, none⟩ = w.cell? ⟨b, o, none⟩) : ArgC b off l w' := by
  rcases l with _ | ⟨x, _ | ⟨y, _ | ⟨z, l⟩⟩⟩
  · trivial
  all_goals
    unfold ArgC at *
    simp only [hs]
    exact h
theorem ArgC.below {b off N : Nat} {l : List Hp.V} {w w' : World} (h : ArgC b off l w) (hb : Below N w w') (hl : b < N) : ArgC b off l w' := h.same fun o => hb.cell (p := ⟨b, o, none⟩) hl
theorem ArgC.grow {b off : Nat} {O O' : Nat → Prop} {l : List Hp.V} {w w' : World} (h : ArgC b off l w) (hb : Grow O O' w w') (hn : ¬ O b) (hl : b < w.heap.size) : ArgC b off l w' := h.same fun o => World.cell?_of_block (a := ⟨b, o, none⟩) (hb.block b hl hn)
theorem ArgC.stored3 {b off g : Nat} {l : List Hp.V} {w : World} (h : ArgC b off l w) (hl : b ≠ g) (x y z : Value) : ArgC b off l (((w.setCell ⟨g, 0, none⟩ x).setCell ⟨g, 1, none⟩ y).setCell ⟨g, 2, none⟩ z) :=
  h.same fun o => World.cell?_of_block (a := ⟨b, o, none⟩) (by rw [heap_setCell_other _ _ _ _ hl, heap_setCell_other _ _ _ _ hl, heap_setCell_other _ _ _ _ hl])
theorem two_size (w : World) (o p : Obj) : w.heap.size + 2 ≤ ((w.alloc o).alloc p).drew.heap.size := by
  show _ ≤ ((w.alloc o).alloc p).heap.size
  simp
theorem two_size1 (w : World) (o p : Obj) : w.heap.size < ((w.alloc o).alloc p).drew.heap.size := Nat.lt_of_lt_of_le (by omega) (two_size w o p)
namespace Hp
/-- The call's arguments stand in no block of the heap. -/
def free (O : Nat → Prop) (v : Value) : Prop := ∀ b, v.ownBlock = some b → ¬ O b
end Hp
/-- A contract for a world that is not much more than w. -/
def After (w : World) (n : Nat) (S : World → Prop) : Prop := ∀ w1, Below w.heap.size w w1 → w.heap.size + n ≤ w1.heap.size → S w1
set_option maxHeartbeats 8000000 in
set_option maxRecDepth 100000 in
theorem act_ref (h : Nat) (O : Nat → Prop) (T : List Hp.Th) (r : Hp.V) (er : Int) (p : ByteArray) (hp : p = ⟨#[118, 101, 99, 116, 111, 114, 45, 114, 101, 102]⟩ ∨ p = ⟨#[115, 116, 114, 105, 110, 103, 45, 114, 101, 102]⟩) (x y : Hp.V) (av : Value) (w : World) (hv : VSl w av [x, y]) (hO : ∀ b, O b → b < w.heap.size) (hf : Hp.free O av)
    (HG : After w 2 fun w1 => Calls Try.prog 58 #[.pointer (some ⟨h, 0, none⟩), x.val, y.val] w1 (DoPost 65 h O r er T w1)) :
    Calls Try.prog 31 #[.pointer (some ⟨h, 0, none⟩), .string p, av] w (DoPost 65 h O r er T w) := by
  obtain ⟨a, c, rfl⟩ := hv.len
  obtain ⟨b, off, rfl, hbl, hat⟩ := hv.at (by simp)
  obtain ⟨d0, d1, d2⟩ := hat 0 x rfl
  obtain ⟨f0, f1, f2⟩ := hat 1 y rfl
  rw [Nat.zero_mul, Nat.add_zero] at d0 d1 d2
  rw [Nat.one_mul] at f0 f1 f2
  have HO := Lib.hid hO
  have HC := Lib.hid HG
  have HF := Lib.hid hf
  clear hat hv hO HG hf
  obtain ⟨xk, xi, xt⟩ := x
  obtain ⟨yk, yi, yt⟩ := y
  obtain ⟨rk, ri, rt⟩ := r
  unfold DoPost at *
  unfold After Hp.V.val at *
  dsimp only at *
  rcases hp with rfl | rfl
  all_goals
    go_enter Try.func31, Try.ntmps31
    go_wp2_with fail
    have HW1 : Hid (Below w.heap.size w ((w.alloc (.cells #[.int .i64 0, .int .i64 0, .string ⟨#[]⟩] 27)).alloc (.cells #[.int .i64 5, .int .i64 0, .string ⟨#[]⟩] 27)).drew) := (((Below.refl _ _).alloc (Nat.le_refl _) _).alloc (by simp) _).drew
    have HZ : Hid (((w.alloc (.cells #[.int .i64 0, .int .i64 0, .string ⟨#[]⟩] 27)).alloc (.cells #[.int .i64 5, .int .i64 0, .string ⟨#[]⟩] 27)).drew.heap[w.heap.size]? = some (.cells #[.int .i64 0, .int .i64 0, .string ⟨#[]⟩] 27 (0, 0))) := (heap_alloc_old _ _ (by simp)).trans (heap_alloc_new w _)
    have HS : Hid (ArgC b off [⟨xk, xi, xt⟩, ⟨yk, yi, yt⟩] w) := ⟨d0, d1, d2, f0, f1, f2⟩
    go_region_held3 (fun w' => w'.cell? ⟨b, off, none⟩ = some (.int .i64 xk) ∧ w'.cell? ⟨b, off + 1, none⟩ = some (.int .i64 xi) ∧ w'.cell? ⟨b, off + 2, none⟩ = some (.string xt) ∧ w'.cell? ⟨b, off + 3, none⟩ = some (.int .i64 yk) ∧ w'.cell? ⟨b, off + 3 + 1, none⟩ = some (.int .i64 yi) ∧ w'.cell? ⟨b, off + 3 + 2, none⟩ = some (.string yt))
      (first | exact HS.out.below HW1.out hbl | exact HS2.out | exact HS2.out.stored3 (by omega) _ _ _)
      (first
        | (go_at_call 58; (with_reducible refine (HC.out _ HW1.out (two_size _ _ _)).mono ?_); rintro e w3 ⟨O', rfl, hst, hgr⟩; have HT := Lib.hid (do_tail HW1.out HO.out (Nat.le_refl _) (two_size1 _ _ _) HZ.out hst hgr); have HS2 : Hid (ArgC b off [⟨xk, xi, xt⟩, ⟨yk, yi, yt⟩] w3) := (HS.out.below HW1.out hbl).grow hgr (HF.out _ rfl) (Nat.lt_trans hbl (two_size1 _ _ _)); have hz2 := HT.out.1; have q0 := cell_of_row w3 _ 0 _ _ _ hz2; have q1 := cell_of_row w3 _ 1 _ _ _ hz2; have q2 := cell_of_row w3 _ 2 _ _ _ hz2; simp only [List.getElem?_toArray, List.getElem?_cons_zero, List.getElem?_cons_succ] at q0 q1 q2; have k0 := frozen_of_row w3 _ 0 _ _ hz2; have k1 := frozen_of_row w3 _ 1 _ _ hz2; have k2 := frozen_of_row w3 _ 2 _ _ hz2; clear hst hgr hz2))
    go_wp2_with fail
    refine bodyPost_ret (res2 rfl _ _ w.heap.size 27 _ (0, 0) rfl (three_set _ _ _ _ _ _ _ _ _ HT.out.1) valD valSize) rfl ?_
    exact ⟨O', by simp, HT.out.2 _ _ _⟩
end Go.Proofs.Ythbnhneibpoooaa
/- The heap's act: cons, box. -/
namespace Go.Proofs.Ythbnhneibpoooaa
open Go.RowKit
set_option linter.unusedVariables false
set_option linter.unusedSimpArgs false
theorem two_size_eq (w : World) (o p : Obj) : ((w.alloc o).alloc p).drew.heap.size = w.heap.size + 1 + 1 := by
  show ((w.alloc o).alloc p).heap.size = _
  simp
theorem two_size_eq' (w : World) (o p : Obj) : ((w.alloc o).alloc p).heap.size = w.heap.size + 1 + 1 := by simp
theorem lit_own {W1 : World} {n : Nat} (hn : W1.heap.size = n) (cs : Array Value) (k : Nat) (hk : k ≤ maxLen) (hs : cs.size = k * 3) : (W1.alloc (.cells cs 27)).ownsRow n 27 3 (.slice (some ⟨n, 0, none⟩) k k) k cs.toList := by
  subst hn
  exact World.ownsRow_lit _ cs k (Nat.le_refl _) hk hs
theorem World.heap_size_alloc (w : World) (o : Obj) : (w.alloc o).heap.size = w.heap.size + 1 := by simp
theorem ArgC.growB {b off B : Nat} {O O' : Nat → Prop} {l : List Hp.V} {w w' : World} (h : ArgC b off l w) (hb : GrowB B O O' w w') (hn : ¬ O b) (hl : b < w.heap.size) : ArgC b off l w' := h.same fun o => World.cell?_of_block (a := ⟨b, o, none⟩) (hb.block b hl hn)
theorem do_tailB {w w2 w3 : World} {ty h g B : Nat} {O O' : Nat → Prop} {T : List Hp.Th} {t : TypeId} (hb : Below w.heap.size w w2) (hO : ∀ b, O b → b < w.heap.size) (hg : w.heap.size ≤ g) (hg2 : g < w2.heap.size) (hgB : g < B)
    (hz : w2.heap[g]? = some (.cells #[.int .i64 0, .int .i64 0, .string ⟨#[]⟩] t (0, 0))) (hst : HSt w3 ty h O' T) (hgr : GrowB B O O' w2 w3) :
    w3.heap[g]? = some (.cells #[.int .i64 0, .int .i64 0, .string ⟨#[]⟩] t (0, 0)) ∧ ∀ x y z, HSt (((w3.setCell ⟨g, 0, none⟩ x).setCell ⟨g, 1, none⟩ y).setCell ⟨g, 2, none⟩ z) ty h O' T ∧ Grow O O' w (((w3.setCell ⟨g, 0, none⟩ x).setCell ⟨g, 1, none⟩ y).setCell ⟨g, 2, none⟩ z) := by
  have hn : ¬ O g := fun e => by have := hO g e; omega
  have hn' : ¬ O' g := fun e => by
    rcases hgr.own g e with e | e
    · exact hn e
    · omega
  exact ⟨(hgr.block g hg2 hn).trans hz, fun x y z => ret_end hst ((hgr.pre hb).grow (by omega)) hn' hg x y z⟩
set_option maxHeartbeats 8000000 in
set_option maxRecDepth 100000 in
theorem act_cons (h : Nat) (O : Nat → Prop) (T : List Hp.Th) (x y : Hp.V) (av : Value) (w : World) (hv : VSl w av [x, y]) (H : HSt w 65 h O T) (hf : Hp.free O av) (hT : T.length ≤ 1000000) :
    Calls Try.prog 31 #[.pointer (some ⟨h, 0, none⟩), .string ⟨#[99, 111, 110, 115]⟩, av] w (DoPost 65 h O ⟨8, T.length, ⟨#[]⟩⟩ 0 (T ++ [⟨0, [x, y]⟩]) w) := by
  have hO := H.lt
  obtain ⟨a, c, rfl⟩ := hv.len
  obtain ⟨b, off, rfl, hbl, hat⟩ := hv.at (by simp)
  obtain ⟨d0, d1, d2⟩ := hat 0 x rfl
  obtain ⟨f0, f1, f2⟩ := hat 1 y rfl
  rw [Nat.zero_mul, Nat.add_zero] at d0 d1 d2
  rw [Nat.one_mul] at f0 f1 f2
  have HA : Hid (∀ (pv : Value) (B : Nat) (w1 : World), Below w.heap.size w w1 → w1.ownsRow B 27 3 pv 2 (Hp.flatV [x, y]) → w.heap.size ≤ B → B ≤ w1.heap.size → Calls Try.prog 34 #[.pointer (some ⟨h, 0, none⟩), .int .i64 0, pv] w1 (AddPost 65 h B O T ⟨0, [x, y]⟩ w1)) := by
    intro pv B w1 hb ho hB1 hB2
    exact add_any h O T B ⟨0, [x, y]⟩ pv w1 (H.below hb (Nat.le_refl _)) (by simpa using ho) (fun b hb => Nat.lt_of_lt_of_le (H.lt b hb) hB1) hB2 hT
  have HO := Lib.hid hO
  have HF := Lib.hid hf
  clear hat hv hO hf H hT
  obtain ⟨xk, xi, xt⟩ := x
  obtain ⟨yk, yi, yt⟩ := y
  unfold DoPost at *
  unfold AddPost at *
  unfold Hp.V.val at *
  dsimp only at *
  go_enter Try.func31, Try.ntmps31
  go_wp2_with fail
  have HW1 : Hid (Below w.heap.size w ((w.alloc (.cells #[.int .i64 0, .int .i64 0, .string ⟨#[]⟩] 27)).alloc (.cells #[.int .i64 5, .int .i64 0, .string ⟨#[]⟩] 27)).drew) := (((Below.refl _ _).alloc (Nat.le_refl _) _).alloc (by simp) _).drew
  have HW2 : Hid (Below w.heap.size w (((w.alloc (.cells #[.int .i64 0, .int .i64 0, .string ⟨#[]⟩] 27)).alloc (.cells #[.int .i64 5, .int .i64 0, .string ⟨#[]⟩] 27)).alloc (.cells #[.int .i64 xk, .int .i64 xi, .string xt, .int .i64 yk, .int .i64 yi, .string yt] 27)).drew) := ((((Below.refl _ _).alloc (Nat.le_refl _) _).alloc (by simp) _).alloc (by simp; omega) _).drew
  have HZ : Hid ((((w.alloc (.cells #[.int .i64 0, .int .i64 0, .string ⟨#[]⟩] 27)).alloc (.cells #[.int .i64 5, .int .i64 0, .string ⟨#[]⟩] 27)).alloc (.cells #[.int .i64 xk, .int .i64 xi, .string xt, .int .i64 yk, .int .i64 yi, .string yt] 27)).drew.heap[w.heap.size]? = some (.cells #[.int .i64 0, .int .i64 0, .string ⟨#[]⟩] 27 (0, 0))) := (heap_alloc_old _ _ (by simp; omega)).trans ((heap_alloc_old _ _ (by simp)).trans (heap_alloc_new w _))
  have HL2 : Hid (w.heap.size + 1 + 1 ≤ (((w.alloc (.cells #[.int .i64 0, .int .i64 0, .string ⟨#[]⟩] 27)).alloc (.cells #[.int .i64 5, .int .i64 0, .string ⟨#[]⟩] 27)).alloc (.cells #[.int .i64 xk, .int .i64 xi, .string xt, .int .i64 yk, .int .i64 yi, .string yt] 27)).drew.heap.size) := by show _ ≤ (World.alloc _ _).heap.size; simp
  have HR : Hid ((((w.alloc (.cells #[.int .i64 0, .int .i64 0, .string ⟨#[]⟩] 27)).alloc (.cells #[.int .i64 5, .int .i64 0, .string ⟨#[]⟩] 27)).alloc (.cells #[.int .i64 xk, .int .i64 xi, .string xt, .int .i64 yk, .int .i64 yi, .string yt] 27)).drew.ownsRow (w.heap.size + 1 + 1) 27 3 (.slice (some ⟨w.heap.size + 1 + 1, 0, none⟩) 2 2) 2 (Hp.flatV [⟨xk, xi, xt⟩, ⟨yk, yi, yt⟩])) := lit_own (two_size_eq' _ _ _) _ 2 (by decide) rfl
  have HS : Hid (ArgC b off [⟨xk, xi, xt⟩, ⟨yk, yi, yt⟩] w) := ⟨d0, d1, d2, f0, f1, f2⟩
  go_region_held3 (fun w' => w'.cell? ⟨b, off, none⟩ = some (.int .i64 xk) ∧ w'.cell? ⟨b, off + 1, none⟩ = some (.int .i64 xi) ∧ w'.cell? ⟨b, off + 2, none⟩ = some (.string xt) ∧ w'.cell? ⟨b, off + 3, none⟩ = some (.int .i64 yk) ∧ w'.cell? ⟨b, off + 3 + 1, none⟩ = some (.int .i64 yi) ∧ w'.cell? ⟨b, off + 3 + 2, none⟩ = some (.string yt))
      (first | exact HS.out.below HW1.out hbl | exact HS.out.below HW2.out hbl | exact HS2.out | exact HS2.out.stored3 (by omega) _ _ _)
      (first
        | (go_at_call 34; (with_reducible refine (HA.out _ (w.heap.size + 1 + 1) _ HW2.out HR.out (by omega) HL2.out).mono ?_); rintro e w3 ⟨O', rfl, hst, hgr⟩; have HT := Lib.hid (do_tailB HW2.out HO.out (Nat.le_refl _) (Nat.lt_of_lt_of_le (by omega) HL2.out) (by omega) HZ.out hst hgr); have HS2 : Hid (ArgC b off [⟨xk, xi, xt⟩, ⟨yk, yi, yt⟩] w3) := (HS.out.below HW2.out hbl).growB hgr (HF.out _ rfl) (Nat.lt_of_lt_of_le (by omega) HL2.out); have hz2 := HT.out.1; have q0 := cell_of_row w3 _ 0 _ _ _ hz2; have q1 := cell_of_row w3 _ 1 _ _ _ hz2; have q2 := cell_of_row w3 _ 2 _ _ _ hz2; simp only [List.getElem?_toArray, List.getElem?_cons_zero, List.getElem?_cons_succ] at q0 q1 q2; have k0 := frozen_of_row w3 _ 0 _ _ hz2; have k1 := frozen_of_row w3 _ 1 _ _ hz2; have k2 := frozen_of_row w3 _ 2 _ _ hz2; clear hst hgr hz2))
  go_wp2_with fail
  refine bodyPost_ret (res2 rfl _ _ w.heap.size 27 _ (0, 0) rfl (three_set _ _ _ _ _ _ _ _ _ HT.out.1) valD valSize) rfl ?_
  exact ⟨O', by simp, HT.out.2 _ _ _⟩
set_option maxHeartbeats 8000000 in
set_option maxRecDepth 100000 in
theorem act_box (h : Nat) (O : Nat → Prop) (T : List Hp.Th) (x : Hp.V) (av : Value) (w : World) (hv : VSl w av [x]) (H : HSt w 65 h O T) (hf : Hp.free O av) (hT : T.length ≤ 1000000) :
    Calls Try.prog 31 #[.pointer (some ⟨h, 0, none⟩), .string ⟨#[37, 98, 111, 120]⟩, av] w (DoPost 65 h O ⟨8, T.length, ⟨#[]⟩⟩ 0 (T ++ [⟨3, [x]⟩]) w) := by
  have hO := H.lt
  obtain ⟨a, c, rfl⟩ := hv.len
  obtain ⟨b, off, rfl, hbl, hat⟩ := hv.at (by simp)
  obtain ⟨d0, d1, d2⟩ := hat 0 x rfl
  rw [Nat.zero_mul, Nat.add_zero] at d0 d1 d2
  have HA : Hid (∀ (pv : Value) (B : Nat) (w1 : World), Below w.heap.size w w1 → w1.ownsRow B 27 3 pv 1 (Hp.flatV [x]) → w.heap.size ≤ B → B ≤ w1.heap.size → Calls Try.prog 34 #[.pointer (some ⟨h, 0, none⟩), .int .i64 3, pv] w1 (AddPost 65 h B O T ⟨3, [x]⟩ w1)) := by
    intro pv B w1 hb ho hB1 hB2
    exact add_any h O T B ⟨3, [x]⟩ pv w1 (H.below hb (Nat.le_refl _)) (by simpa using ho) (fun b hb => Nat.lt_of_lt_of_le (H.lt b hb) hB1) hB2 hT
  have HO := Lib.hid hO
  have HF := Lib.hid hf
  clear hat hv hO hf H hT
  obtain ⟨xk, xi, xt⟩ := x
  unfold DoPost at *
  unfold AddPost at *
  unfold Hp.V.val at *
  dsimp only at *
  have HW2 : Hid (Below w.heap.size w (((w.alloc (.cells #[.int .i64 0, .int .i64 0, .string ⟨#[]⟩] 27)).alloc (.cells #[.int .i64 5, .int .i64 0, .string ⟨#[]⟩] 27)).alloc (.cells #[.int .i64 xk, .int .i64 xi, .string xt] 27))) := (((Below.refl _ _).alloc (Nat.le_refl _) _).alloc (by simp) _).alloc (by simp; omega) _
  have HZ : Hid ((((w.alloc (.cells #[.int .i64 0, .int .i64 0, .string ⟨#[]⟩] 27)).alloc (.cells #[.int .i64 5, .int .i64 0, .string ⟨#[]⟩] 27)).alloc (.cells #[.int .i64 xk, .int .i64 xi, .string xt] 27)).heap[w.heap.size]? = some (.cells #[.int .i64 0, .int .i64 0, .string ⟨#[]⟩] 27 (0, 0))) := (heap_alloc_old _ _ (by simp; omega)).trans ((heap_alloc_old _ _ (by simp)).trans (heap_alloc_new w _))
  have HL2 : Hid (w.heap.size + 1 + 1 ≤ (((w.alloc (.cells #[.int .i64 0, .int .i64 0, .string ⟨#[]⟩] 27)).alloc (.cells #[.int .i64 5, .int .i64 0, .string ⟨#[]⟩] 27)).alloc (.cells #[.int .i64 xk, .int .i64 xi, .string xt] 27)).heap.size) := by unfold Hid; simp
  have HR : Hid ((((w.alloc (.cells #[.int .i64 0, .int .i64 0, .string ⟨#[]⟩] 27)).alloc (.cells #[.int .i64 5, .int .i64 0, .string ⟨#[]⟩] 27)).alloc (.cells #[.int .i64 xk, .int .i64 xi, .string xt] 27)).ownsRow (w.heap.size + 1 + 1) 27 3 (.slice (some ⟨w.heap.size + 1 + 1, 0, none⟩) 1 1) 1 (Hp.flatV [⟨xk, xi, xt⟩])) := lit_own (two_size_eq' _ _ _) _ 1 (by decide) rfl
  go_enter Try.func31, Try.ntmps31
  go_wp2_with fail
  with_reducible refine (HA.out _ (w.heap.size + 1 + 1) _ HW2.out HR.out (by omega) HL2.out).mono ?_
  rintro e w3 ⟨O', rfl, hst, hgr⟩
  have HT := Lib.hid (do_tailB HW2.out HO.out (Nat.le_refl _) (Nat.lt_of_lt_of_le (by omega) HL2.out) (by omega) HZ.out hst hgr)
  have hz2 := HT.out.1
  have q0 := cell_of_row w3 _ 0 _ _ _ hz2
  have q1 := cell_of_row w3 _ 1 _ _ _ hz2
  have q2 := cell_of_row w3 _ 2 _ _ _ hz2
  simp only [List.getElem?_toArray, List.getElem?_cons_zero, List.getElem?_cons_succ] at q0 q1 q2
  have k0 := frozen_of_row w3 _ 0 _ _ hz2
  have k1 := frozen_of_row w3 _ 1 _ _ hz2
  have k2 := frozen_of_row w3 _ 2 _ _ hz2
  clear hst hgr hz2
  go_wp2_with fail
  refine bodyPost_ret (res2 rfl _ _ w.heap.size 27 _ (0, 0) rfl (three_set _ _ _ _ _ _ _ _ _ HT.out.1) valD valSize) rfl ?_
  exact ⟨O', by simp, HT.out.2 _ _ _⟩
end Go.Proofs.Ythbnhneibpoooaa
