/- The heap's act. -/
import Derived.StillTailTactics
import Derived.Deep.RegionHeld3
import Derived.Test.YtalfnaielhbocaaKJau
import Derived.Test.YtalfnaielhbocaaKJan
set_option linter.unusedVariables false
set_option linter.unusedSimpArgs false
set_option linter.unnecessarySimpa false
namespace Go.Proofs.Ytalfnaielhbocaa
open Go.RowKit
set_option maxRecDepth 100000
set_option linter.unusedVariables false
set_option linter.unusedSimpArgs false
theorem do_tail {w w2 w3 : World} {ty h g : Nat} {O O' : Nat → Prop} {T : List Hp.Th} {t : TypeId} (hb : Below w.heap.size w w2) (hO : ∀ b, O b → b < w.heap.size) (hg : w.heap.size ≤ g) (hg2 : g < w2.heap.size)
    (hz : w2.heap[g]? = some (.cells #[.int .i64 0, .int .i64 0, .string ⟨#[]⟩] t (0, 0))) (hst : HSt w3 ty h O' T) (hgr : Grow O O' w2 w3) :
    w3.heap[g]? = some (.cells #[.int .i64 0, .int .i64 0, .string ⟨#[]⟩] t (0, 0)) ∧ ∀ x y z, HSt (((w3.setCell ⟨g, 0, none⟩ x).setCell ⟨g, 1, none⟩ y).setCell ⟨g, 2, none⟩ z) ty h O' T ∧ Grow O O' w (((w3.setCell ⟨g, 0, none⟩ x).setCell ⟨g, 1, none⟩ y).setCell ⟨g, 2, none⟩ z) := by
  have hn : ¬ O g := fun e => by have := hO g e; omega
  have hn' : ¬ O' g := fun e => by
    rcases hgr.own g e with e | e
    · exact hn e
    · omega
  exact ⟨(hgr.block g hg2 hn).trans hz, fun x y z => ret_end hst ((Grow.of hb).trans hgr) hn' hg x y z⟩
def ArgC (b off : Nat) : List Hp.V → World → Prop
  | [], w => True
  | [x], w => w.cell? ⟨b, off, none⟩ = some (.int .i64 x.kind) ∧ w.cell? ⟨b, off + 1, none⟩ = some (.int .i64 x.int) ∧ w.cell? ⟨b, off + 2, none⟩ = some (.string x.text)
  | [x, y], w => w.cell? ⟨b, off, none⟩ = some (.int .i64 x.kind) ∧ w.cell? ⟨b, off + 1, none⟩ = some (.int .i64 x.int) ∧ w.cell? ⟨b, off + 2, none⟩ = some (.string x.text) ∧
    w.cell? ⟨b, off + 3, none⟩ = some (.int .i64 y.kind) ∧ w.cell? ⟨b, off + 3 + 1, none⟩ = some (.int .i64 y.int) ∧ w.cell? ⟨b, off + 3 + 2, none⟩ = some (.string y.text)
  | x :: y :: z :: _, w => w.cell? ⟨b, off, none⟩ = some (.int .i64 x.kind) ∧ w.cell? ⟨b, off + 1, none⟩ = some (.int .i64 x.int) ∧ w.cell? ⟨b, off + 2, none⟩ = some (.string x.text) ∧
    w.cell? ⟨b, off + 3, none⟩ = some (.int .i64 y.kind) ∧ w.cell? ⟨b, off + 3 + 1, none⟩ = some (.int .i64 y.int) ∧ w.cell? ⟨b, off + 3 + 2, none⟩ = some (.string y.text) ∧
    w.cell? ⟨b, off + 6, none⟩ = some (.int .i64 z.kind) ∧ w.cell? ⟨b, off + 6 + 1, none⟩ = some (.int .i64 z.int) ∧ w.cell? ⟨b, off + 6 + 2, none⟩ = some (.string z.text)
theorem ArgC.same {b off : Nat} {l : List Hp.V} {w w' : World} (h : ArgC b off l w) (hs : ∀ o, w'.cell? ⟨b, o, none⟩ = w.cell? ⟨b, o, none⟩) : ArgC b off l w' := by
  rcases l with _ | ⟨x, _ | ⟨y, _ | ⟨z, l⟩⟩⟩
  · trivial
  all_goals
    unfold ArgC at *
    simp only [hs]
    exact h
theorem ArgC.below {b off N : Nat} {l : List Hp.V} {w w' : World} (h : ArgC b off l w) (hb : Below N w w') (hl : b < N) : ArgC b off l w' := h.same fun o => hb.cell (p := ⟨b, o, none⟩) hl
theorem ArgC.grow {b off : Nat} {O O' : Nat → Prop} {l : List Hp.V} {w w' : World} (h : ArgC b off l w) (hb : Grow O O' w w') (hn : ¬ O b) (hl : b < w.heap.size) : ArgC b off l w' := h.same fun o => World.cell?_of_block (a := ⟨b, o, none⟩) (hb.block b hl hn)
theorem ArgC.stored3 {b off g : Nat} {l : List Hp.V} {w : World} (h : ArgC b off l w) (hl : b ≠ g) (x y z : Value) : ArgC b off l (((w.setCell ⟨g, 0, none⟩ x).setCell ⟨g, 1, none⟩ y).setCell ⟨g, 2, none⟩ z) :=
  h.same fun o => World.cell?_of_block (a := ⟨b, o, none⟩) (by rw [heap_setCell_other _ _ _ _ hl, heap_setCell_other _ _ _ _ hl, heap_setCell_other _ _ _ _ hl])
theorem two_size (w : World) (o p : Obj) : w.heap.size + 2 ≤ ((w.alloc o).alloc p).drew.heap.size := by
  show _ ≤ ((w.alloc o).alloc p).heap.size
  simp
theorem two_size1 (w : World) (o p : Obj) : w.heap.size < ((w.alloc o).alloc p).drew.heap.size := Nat.lt_of_lt_of_le (by omega) (two_size w o p)
namespace Hp
def free (O : Nat → Prop) (v : Value) : Prop := ∀ b, v.ownBlock = some b → ¬ O b
end Hp
def After (w : World) (n : Nat) (S : World → Prop) : Prop := ∀ w1, Below w.heap.size w w1 → w.heap.size + n ≤ w1.heap.size → S w1
set_option maxHeartbeats 8000000 in
set_option maxRecDepth 100000 in
theorem act_ref (h : Nat) (O : Nat → Prop) (T : List Hp.Th) (r : Hp.V) (er : Int) (p : ByteArray) (hp : p = ⟨#[118, 101, 99, 116, 111, 114, 45, 114, 101, 102]⟩ ∨ p = ⟨#[115, 116, 114, 105, 110, 103, 45, 114, 101, 102]⟩) (x y : Hp.V) (av : Value) (w : World) (hv : VSl w av [x, y]) (hO : ∀ b, O b → b < w.heap.size) (hf : Hp.free O av)
    (HG : After w 2 fun w1 => Calls Try.prog 96 #[.pointer (some ⟨h, 0, none⟩), x.val, y.val] w1 (DoPost 83 h O r er T w1)) :
    Calls Try.prog 83 #[.pointer (some ⟨h, 0, none⟩), .string p, av] w (DoPost 83 h O r er T w) := by
  obtain ⟨a, c, rfl⟩ := hv.len
  obtain ⟨b, off, rfl, hbl, hat⟩ := hv.at (by simp)
  obtain ⟨d0, d1, d2⟩ := hat 0 x rfl
  obtain ⟨f0, f1, f2⟩ := hat 1 y rfl
  rw [Nat.zero_mul, Nat.add_zero] at d0 d1 d2
  rw [Nat.one_mul] at f0 f1 f2
  have HO := Lib.hid hO
  have HC := Lib.hid HG
  have HF := Lib.hid hf
  clear hat hv hO HG hf
  obtain ⟨xk, xi, xt⟩ := x
  obtain ⟨yk, yi, yt⟩ := y
  obtain ⟨rk, ri, rt⟩ := r
  unfold DoPost at *
  unfold After Hp.V.val at *
  dsimp only at *
  rcases hp with rfl | rfl
  all_goals
    go_enter Try.func83, Try.ntmps83
    go_wp2_with fail
    have HW1 : Hid (Below w.heap.size w ((w.alloc (.cells #[.int .i64 0, .int .i64 0, .string ⟨#[]⟩] 64)).alloc (.cells #[.int .i64 5, .int .i64 0, .string ⟨#[]⟩] 64)).drew) := (((Below.refl _ _).alloc (Nat.le_refl _) _).alloc (by simp) _).drew
    have HZ : Hid (((w.alloc (.cells #[.int .i64 0, .int .i64 0, .string ⟨#[]⟩] 64)).alloc (.cells #[.int .i64 5, .int .i64 0, .string ⟨#[]⟩] 64)).drew.heap[w.heap.size]? = some (.cells #[.int .i64 0, .int .i64 0, .string ⟨#[]⟩] 64 (0, 0))) := (heap_alloc_old _ _ (by simp)).trans (heap_alloc_new w _)
    have HS : Hid (ArgC b off [⟨xk, xi, xt⟩, ⟨yk, yi, yt⟩] w) := ⟨d0, d1, d2, f0, f1, f2⟩
    go_region_held3 (fun w' => w'.cell? ⟨b, off, none⟩ = some (.int .i64 xk) ∧ w'.cell? ⟨b, off + 1, none⟩ = some (.int .i64 xi) ∧ w'.cell? ⟨b, off + 2, none⟩ = some (.string xt) ∧ w'.cell? ⟨b, off + 3, none⟩ = some (.int .i64 yk) ∧ w'.cell? ⟨b, off + 3 + 1, none⟩ = some (.int .i64 yi) ∧ w'.cell? ⟨b, off + 3 + 2, none⟩ = some (.string yt))
      (first | exact HS.out.below HW1.out hbl | exact HS2.out | exact HS2.out.stored3 (by omega) _ _ _)
      (first
        | (go_at_call 96; (with_reducible refine (HC.out _ HW1.out (two_size _ _ _)).mono ?_); rintro e w3 ⟨O', rfl, hst, hgr⟩; have HT := Lib.hid (do_tail HW1.out HO.out (Nat.le_refl _) (two_size1 _ _ _) HZ.out hst hgr); have HS2 : Hid (ArgC b off [⟨xk, xi, xt⟩, ⟨yk, yi, yt⟩] w3) := (HS.out.below HW1.out hbl).grow hgr (HF.out _ rfl) (Nat.lt_trans hbl (two_size1 _ _ _)); have hz2 := HT.out.1; have q0 := cell_of_row w3 _ 0 _ _ _ hz2; have q1 := cell_of_row w3 _ 1 _ _ _ hz2; have q2 := cell_of_row w3 _ 2 _ _ _ hz2; simp only [List.getElem?_toArray, List.getElem?_cons_zero, List.getElem?_cons_succ] at q0 q1 q2; have k0 := frozen_of_row w3 _ 0 _ _ hz2; have k1 := frozen_of_row w3 _ 1 _ _ hz2; have k2 := frozen_of_row w3 _ 2 _ _ hz2; clear hst hgr hz2))
    go_wp2_with fail
    refine bodyPost_ret (res2 rfl _ _ w.heap.size 64 _ (0, 0) rfl (three_set _ _ _ _ _ _ _ _ _ HT.out.1) valD valSize) rfl ?_
    exact ⟨O', by simp, HT.out.2 _ _ _⟩
end Go.Proofs.Ytalfnaielhbocaa
namespace Go.Proofs.Ytalfnaielhbocaa
open Go.RowKit
set_option maxRecDepth 100000
set_option linter.unusedVariables false
set_option linter.unusedSimpArgs false
theorem two_size_eq (w : World) (o p : Obj) : ((w.alloc o).alloc p).drew.heap.size = w.heap.size + 1 + 1 := by
  show ((w.alloc o).alloc p).heap.size = _
  simp
theorem two_size_eq' (w : World) (o p : Obj) : ((w.alloc o).alloc p).heap.size = w.heap.size + 1 + 1 := by simp
theorem lit_own {W1 : World} {n : Nat} (hn : W1.heap.size = n) (cs : Array Value) (k : Nat) (hk : k ≤ maxLen) (hs : cs.size = k * 3) : (W1.alloc (.cells cs 64)).ownsRow n 64 3 (.slice (some ⟨n, 0, none⟩) k k) k cs.toList := by
  subst hn
  exact World.ownsRow_lit _ cs k (Nat.le_refl _) hk hs
theorem World.heap_size_alloc (w : World) (o : Obj) : (w.alloc o).heap.size = w.heap.size + 1 := by simp
theorem ArgC.growB {b off B : Nat} {O O' : Nat → Prop} {l : List Hp.V} {w w' : World} (h : ArgC b off l w) (hb : GrowB B O O' w w') (hn : ¬ O b) (hl : b < w.heap.size) : ArgC b off l w' := h.same fun o => World.cell?_of_block (a := ⟨b, o, none⟩) (hb.block b hl hn)
theorem do_tailB {w w2 w3 : World} {ty h g B : Nat} {O O' : Nat → Prop} {T : List Hp.Th} {t : TypeId} (hb : Below w.heap.size w w2) (hO : ∀ b, O b → b < w.heap.size) (hg : w.heap.size ≤ g) (hg2 : g < w2.heap.size) (hgB : g < B)
    (hz : w2.heap[g]? = some (.cells #[.int .i64 0, .int .i64 0, .string ⟨#[]⟩] t (0, 0))) (hst : HSt w3 ty h O' T) (hgr : GrowB B O O' w2 w3) :
    w3.heap[g]? = some (.cells #[.int .i64 0, .int .i64 0, .string ⟨#[]⟩] t (0, 0)) ∧ ∀ x y z, HSt (((w3.setCell ⟨g, 0, none⟩ x).setCell ⟨g, 1, none⟩ y).setCell ⟨g, 2, none⟩ z) ty h O' T ∧ Grow O O' w (((w3.setCell ⟨g, 0, none⟩ x).setCell ⟨g, 1, none⟩ y).setCell ⟨g, 2, none⟩ z) := by
  have hn : ¬ O g := fun e => by have := hO g e; omega
  have hn' : ¬ O' g := fun e => by
    rcases hgr.own g e with e | e
    · exact hn e
    · omega
  exact ⟨(hgr.block g hg2 hn).trans hz, fun x y z => ret_end hst ((hgr.pre hb).grow (by omega)) hn' hg x y z⟩
set_option maxHeartbeats 8000000 in
set_option maxRecDepth 100000 in
theorem act_cons (h : Nat) (O : Nat → Prop) (T : List Hp.Th) (x y : Hp.V) (av : Value) (w : World) (hv : VSl w av [x, y]) (H : HSt w 83 h O T) (hf : Hp.free O av) (hT : T.length ≤ 1000000) :
    Calls Try.prog 83 #[.pointer (some ⟨h, 0, none⟩), .string ⟨#[99, 111, 110, 115]⟩, av] w (DoPost 83 h O ⟨8, T.length, ⟨#[]⟩⟩ 0 (T ++ [⟨0, [x, y]⟩]) w) := by
  have hO := H.lt
  obtain ⟨a, c, rfl⟩ := hv.len
  obtain ⟨b, off, rfl, hbl, hat⟩ := hv.at (by simp)
  obtain ⟨d0, d1, d2⟩ := hat 0 x rfl
  obtain ⟨f0, f1, f2⟩ := hat 1 y rfl
  rw [Nat.zero_mul, Nat.add_zero] at d0 d1 d2
  rw [Nat.one_mul] at f0 f1 f2
  have HA : Hid (∀ (pv : Value) (B : Nat) (w1 : World), Below w.heap.size w w1 → w1.ownsRow B 64 3 pv 2 (Hp.flatV [x, y]) → w.heap.size ≤ B → B ≤ w1.heap.size → Calls Try.prog 53 #[.pointer (some ⟨h, 0, none⟩), .int .i64 0, pv] w1 (AddPost 83 h B O T ⟨0, [x, y]⟩ w1)) := by
    intro pv B w1 hb ho hB1 hB2
    exact add_any h O T B ⟨0, [x, y]⟩ pv w1 (H.below hb (Nat.le_refl _)) (by simpa using ho) (fun b hb => Nat.lt_of_lt_of_le (H.lt b hb) hB1) hB2 hT
  have HO := Lib.hid hO
  have HF := Lib.hid hf
  clear hat hv hO hf H hT
  obtain ⟨xk, xi, xt⟩ := x
  obtain ⟨yk, yi, yt⟩ := y
  unfold DoPost at *
  unfold AddPost at *
  unfold Hp.V.val at *
  dsimp only at *
  go_enter Try.func83, Try.ntmps83
  go_wp2_with fail
  have HW1 : Hid (Below w.heap.size w ((w.alloc (.cells #[.int .i64 0, .int .i64 0, .string ⟨#[]⟩] 64)).alloc (.cells #[.int .i64 5, .int .i64 0, .string ⟨#[]⟩] 64)).drew) := (((Below.refl _ _).alloc (Nat.le_refl _) _).alloc (by simp) _).drew
  have HW2 : Hid (Below w.heap.size w (((w.alloc (.cells #[.int .i64 0, .int .i64 0, .string ⟨#[]⟩] 64)).alloc (.cells #[.int .i64 5, .int .i64 0, .string ⟨#[]⟩] 64)).alloc (.cells #[.int .i64 xk, .int .i64 xi, .string xt, .int .i64 yk, .int .i64 yi, .string yt] 64)).drew) := ((((Below.refl _ _).alloc (Nat.le_refl _) _).alloc (by simp) _).alloc (by simp; omega) _).drew
  have HZ : Hid ((((w.alloc (.cells #[.int .i64 0, .int .i64 0, .string ⟨#[]⟩] 64)).alloc (.cells #[.int .i64 5, .int .i64 0, .string ⟨#[]⟩] 64)).alloc (.cells #[.int .i64 xk, .int .i64 xi, .string xt, .int .i64 yk, .int .i64 yi, .string yt] 64)).drew.heap[w.heap.size]? = some (.cells #[.int .i64 0, .int .i64 0, .string ⟨#[]⟩] 64 (0, 0))) := (heap_alloc_old _ _ (by simp; omega)).trans ((heap_alloc_old _ _ (by simp)).trans (heap_alloc_new w _))
  have HL2 : Hid (w.heap.size + 1 + 1 ≤ (((w.alloc (.cells #[.int .i64 0, .int .i64 0, .string ⟨#[]⟩] 64)).alloc (.cells #[.int .i64 5, .int .i64 0, .string ⟨#[]⟩] 64)).alloc (.cells #[.int .i64 xk, .int .i64 xi, .string xt, .int .i64 yk, .int .i64 yi, .string yt] 64)).drew.heap.size) := by show _ ≤ (World.alloc _ _).heap.size; simp
  have HR : Hid ((((w.alloc (.cells #[.int .i64 0, .int .i64 0, .string ⟨#[]⟩] 64)).alloc (.cells #[.int .i64 5, .int .i64 0, .string ⟨#[]⟩] 64)).alloc (.cells #[.int .i64 xk, .int .i64 xi, .string xt, .int .i64 yk, .int .i64 yi, .string yt] 64)).drew.ownsRow (w.heap.size + 1 + 1) 64 3 (.slice (some ⟨w.heap.size + 1 + 1, 0, none⟩) 2 2) 2 (Hp.flatV [⟨xk, xi, xt⟩, ⟨yk, yi, yt⟩])) := lit_own (two_size_eq' _ _ _) _ 2 (by decide) rfl
  have HS : Hid (ArgC b off [⟨xk, xi, xt⟩, ⟨yk, yi, yt⟩] w) := ⟨d0, d1, d2, f0, f1, f2⟩
  go_region_held3 (fun w' => w'.cell? ⟨b, off, none⟩ = some (.int .i64 xk) ∧ w'.cell? ⟨b, off + 1, none⟩ = some (.int .i64 xi) ∧ w'.cell? ⟨b, off + 2, none⟩ = some (.string xt) ∧ w'.cell? ⟨b, off + 3, none⟩ = some (.int .i64 yk) ∧ w'.cell? ⟨b, off + 3 + 1, none⟩ = some (.int .i64 yi) ∧ w'.cell? ⟨b, off + 3 + 2, none⟩ = some (.string yt))
      (first | exact HS.out.below HW1.out hbl | exact HS.out.below HW2.out hbl | exact HS2.out | exact HS2.out.stored3 (by omega) _ _ _)
      (first
        | (go_at_call 53; (with_reducible refine (HA.out _ (w.heap.size + 1 + 1) _ HW2.out HR.out (by omega) HL2.out).mono ?_); rintro e w3 ⟨O', rfl, hst, hgr⟩; have HT := Lib.hid (do_tailB HW2.out HO.out (Nat.le_refl _) (Nat.lt_of_lt_of_le (by omega) HL2.out) (by omega) HZ.out hst hgr); have HS2 : Hid (ArgC b off [⟨xk, xi, xt⟩, ⟨yk, yi, yt⟩] w3) := (HS.out.below HW2.out hbl).growB hgr (HF.out _ rfl) (Nat.lt_of_lt_of_le (by omega) HL2.out); have hz2 := HT.out.1; have q0 := cell_of_row w3 _ 0 _ _ _ hz2; have q1 := cell_of_row w3 _ 1 _ _ _ hz2; have q2 := cell_of_row w3 _ 2 _ _ _ hz2; simp only [List.getElem?_toArray, List.getElem?_cons_zero, List.getElem?_cons_succ] at q0 q1 q2; have k0 := frozen_of_row w3 _ 0 _ _ hz2; have k1 := frozen_of_row w3 _ 1 _ _ hz2; have k2 := frozen_of_row w3 _ 2 _ _ hz2; clear hst hgr hz2))
  go_wp2_with fail
  refine bodyPost_ret (res2 rfl _ _ w.heap.size 64 _ (0, 0) rfl (three_set _ _ _ _ _ _ _ _ _ HT.out.1) valD valSize) rfl ?_
  exact ⟨O', by simp, HT.out.2 _ _ _⟩
set_option maxHeartbeats 8000000 in
set_option maxRecDepth 100000 in
theorem act_box (h : Nat) (O : Nat → Prop) (T : List Hp.Th) (x : Hp.V) (av : Value) (w : World) (hv : VSl w av [x]) (H : HSt w 83 h O T) (hf : Hp.free O av) (hT : T.length ≤ 1000000) :
    Calls Try.prog 83 #[.pointer (some ⟨h, 0, none⟩), .string ⟨#[37, 98, 111, 120]⟩, av] w (DoPost 83 h O ⟨8, T.length, ⟨#[]⟩⟩ 0 (T ++ [⟨3, [x]⟩]) w) := by
  have hO := H.lt
  obtain ⟨a, c, rfl⟩ := hv.len
  obtain ⟨b, off, rfl, hbl, hat⟩ := hv.at (by simp)
  obtain ⟨d0, d1, d2⟩ := hat 0 x rfl
  rw [Nat.zero_mul, Nat.add_zero] at d0 d1 d2
  have HA : Hid (∀ (pv : Value) (B : Nat) (w1 : World), Below w.heap.size w w1 → w1.ownsRow B 64 3 pv 1 (Hp.flatV [x]) → w.heap.size ≤ B → B ≤ w1.heap.size → Calls Try.prog 53 #[.pointer (some ⟨h, 0, none⟩), .int .i64 3, pv] w1 (AddPost 83 h B O T ⟨3, [x]⟩ w1)) := by
    intro pv B w1 hb ho hB1 hB2
    exact add_any h O T B ⟨3, [x]⟩ pv w1 (H.below hb (Nat.le_refl _)) (by simpa using ho) (fun b hb => Nat.lt_of_lt_of_le (H.lt b hb) hB1) hB2 hT
  have HO := Lib.hid hO
  have HF := Lib.hid hf
  clear hat hv hO hf H hT
  obtain ⟨xk, xi, xt⟩ := x
  unfold DoPost at *
  unfold AddPost at *
  unfold Hp.V.val at *
  dsimp only at *
  have HW2 : Hid (Below w.heap.size w (((w.alloc (.cells #[.int .i64 0, .int .i64 0, .string ⟨#[]⟩] 64)).alloc (.cells #[.int .i64 5, .int .i64 0, .string ⟨#[]⟩] 64)).alloc (.cells #[.int .i64 xk, .int .i64 xi, .string xt] 64))) := (((Below.refl _ _).alloc (Nat.le_refl _) _).alloc (by simp) _).alloc (by simp; omega) _
  have HZ : Hid ((((w.alloc (.cells #[.int .i64 0, .int .i64 0, .string ⟨#[]⟩] 64)).alloc (.cells #[.int .i64 5, .int .i64 0, .string ⟨#[]⟩] 64)).alloc (.cells #[.int .i64 xk, .int .i64 xi, .string xt] 64)).heap[w.heap.size]? = some (.cells #[.int .i64 0, .int .i64 0, .string ⟨#[]⟩] 64 (0, 0))) := (heap_alloc_old _ _ (by simp; omega)).trans ((heap_alloc_old _ _ (by simp)).trans (heap_alloc_new w _))
  have HL2 : Hid (w.heap.size + 1 + 1 ≤ (((w.alloc (.cells #[.int .i64 0, .int .i64 0, .string ⟨#[]⟩] 64)).alloc (.cells #[.int .i64 5, .int .i64 0, .string ⟨#[]⟩] 64)).alloc (.cells #[.int .i64 xk, .int .i64 xi, .string xt] 64)).heap.size) := by unfold Hid; simp
  have HR : Hid ((((w.alloc (.cells #[.int .i64 0, .int .i64 0, .string ⟨#[]⟩] 64)).alloc (.cells #[.int .i64 5, .int .i64 0, .string ⟨#[]⟩] 64)).alloc (.cells #[.int .i64 xk, .int .i64 xi, .string xt] 64)).ownsRow (w.heap.size + 1 + 1) 64 3 (.slice (some ⟨w.heap.size + 1 + 1, 0, none⟩) 1 1) 1 (Hp.flatV [⟨xk, xi, xt⟩])) := lit_own (two_size_eq' _ _ _) _ 1 (by decide) rfl
  go_enter Try.func83, Try.ntmps83
  go_wp2_with fail
  with_reducible refine (HA.out _ (w.heap.size + 1 + 1) _ HW2.out HR.out (by omega) HL2.out).mono ?_
  rintro e w3 ⟨O', rfl, hst, hgr⟩
  have HT := Lib.hid (do_tailB HW2.out HO.out (Nat.le_refl _) (Nat.lt_of_lt_of_le (by omega) HL2.out) (by omega) HZ.out hst hgr)
  have hz2 := HT.out.1
  have q0 := cell_of_row w3 _ 0 _ _ _ hz2
  have q1 := cell_of_row w3 _ 1 _ _ _ hz2
  have q2 := cell_of_row w3 _ 2 _ _ _ hz2
  simp only [List.getElem?_toArray, List.getElem?_cons_zero, List.getElem?_cons_succ] at q0 q1 q2
  have k0 := frozen_of_row w3 _ 0 _ _ hz2
  have k1 := frozen_of_row w3 _ 1 _ _ hz2
  have k2 := frozen_of_row w3 _ 2 _ _ hz2
  clear hst hgr hz2
  go_wp2_with fail
  refine bodyPost_ret (res2 rfl _ _ w.heap.size 64 _ (0, 0) rfl (three_set _ _ _ _ _ _ _ _ _ HT.out.1) valD valSize) rfl ?_
  exact ⟨O', by simp, HT.out.2 _ _ _⟩
end Go.Proofs.Ytalfnaielhbocaa
namespace Go.Proofs.Ytalfnaielhbocaa
open Go.RowKit
set_option maxRecDepth 100000
set_option linter.unusedVariables false
set_option linter.unusedSimpArgs false
def DPost (d : Dt) (w : World) (e : Ending) (w' : World) : Prop := ∃ v, e = .returned v ∧ DtAt w' (fun b => w.heap.size ≤ b) v d ∧ Below w.heap.size w w'
def Cell4 (g : Nat) (a b c d : Value) (w : World) : Prop := w.cell? ⟨g, 0, none⟩ = some a ∧ w.cell? ⟨g, 1, none⟩ = some b ∧ w.cell? ⟨g, 2, none⟩ = some c ∧ w.cell? ⟨g, 3, none⟩ = some d
theorem Cell4.same {g : Nat} {a b c d : Value} {w w' : World} (h : Cell4 g a b c d w) (hs : w'.heap[g]? = w.heap[g]?) : Cell4 g a b c d w' := by
  have e : ∀ o, w'.cell? ⟨g, o, none⟩ = w.cell? ⟨g, o, none⟩ := fun o => World.cell?_of_block (a := ⟨g, o, none⟩) hs
  unfold Cell4 at *
  rw [e, e, e, e]
  exact h
theorem Cell4.below {g N : Nat} {a b c d : Value} {w w' : World} (h : Cell4 g a b c d w) (hb : Below N w w') (hg : g < N) : Cell4 g a b c d w' := h.same (hb.block g hg)
theorem Cell4.four {g g' : Nat} {a b c d : Value} {w : World} (h : Cell4 g a b c d w) (hg : g ≠ g') (x y z u : Value) : Cell4 g a b c d ((((w.setCell ⟨g', 0, none⟩ x).setCell ⟨g', 1, none⟩ y).setCell ⟨g', 2, none⟩ z).setCell ⟨g', 3, none⟩ u) := h.same (four_other _ _ _ _ _ _ _ hg)
theorem app_bound {M : List (Dt × Value)} {l : List Dt} (h : M.map (·.1) = l) (hl : l.length ≤ 100000) : M.length + 1 ≤ maxLen ∧ (M.length + 1) * 56 ≤ 140737488355328 := by
  have : M.length = l.length := by rw [← h, List.length_map]
  constructor
  · simp only [maxLen]; omega
  · omega
theorem make_end {w w3 w5 w6 : World} {o : Obj} {M : List (Dt × Value)} {l : List Dt} {b : Dt} {v lv : Value} {g cap : Nat} (hM : OwnD (w5.alloc o) (w.heap.size + 1 + 1) v M) (hy : DtAt (w5.alloc o) (fun b => w3.heap.size ≤ b) (.agg #[.int .i64 b.kind, .int .i64 b.int, .string b.text, lv]) b) (hMl : M.map (·.1) = l)
    (hown : w6.ownsRow (w.heap.size + 1 + 1) 31 4 (.slice (some ⟨g, 0, none⟩) (M.length + 1) cap) (M.length + 1) (flatD M ++ [.int .i64 b.kind, .int .i64 b.int, .string b.text, lv])) (hg : (w5.alloc o).grownBy w6 v.ownBlock) (hl : v.ownBlock = some g ∨ g = w5.heap.size + 1)
    (h3 : w.heap.size + 1 + 1 ≤ w3.heap.size) (h5 : w3.heap.size ≤ w5.heap.size) (hW5 : Below w.heap.size w (w5.alloc o)) (hv3 : ∀ b, v.ownBlock = some b → b < w3.heap.size) :
    DtAt w6 (fun b => w.heap.size + 1 + 1 ≤ b) (.agg #[.int .i64 6, .int .i64 0, .string ⟨#[]⟩, .slice (some ⟨g, 0, none⟩) (M.length + 1) cap]) (.mk 6 0 ⟨#[]⟩ (l ++ [b])) ∧ Below w.heap.size w w6 := by
  have h := hM.snoc (x := b) (lv := lv) hy (fun k hk _ => ⟨by omega, fun e => by have := hv3 k e; omega⟩) hown hg (by simpa using hl)
  have hd := h.data 6 0 ⟨#[]⟩
  rw [List.map_append, hMl] at hd
  refine ⟨hd, hW5.grown hg hW5.size (fun k e => by have := (hM.row.lt k e).1; omega)⟩
structure Mk3 (w w1 w3 : World) (l : List Dt) (a b c d : Value) (v : Value) (M : List (Dt × Value)) : Prop where
  own : OwnD w3 (w.heap.size + 1 + 1) v M
  map : M.map (·.1) = l
  below : Below w.heap.size w w3
  res : w3.heap[w.heap.size + 1]? = some (.cells #[.int .i64 0, .int .i64 0, .string ⟨#[]⟩, .slice none 0 0] 31 (0, 0))
  box : Cell4 w.heap.size a b c d w3
  size : w.heap.size + 1 + 1 ≤ w3.heap.size
theorem mk3 {w w1 w3 : World} {l : List Dt} {a b c d v : Value} {M : List (Dt × Value)} (hs : w1.heap.size = w.heap.size + 1 + 1) (h1 : Below w.heap.size w w1) (hr : w1.heap[w.heap.size + 1]? = some (.cells #[.int .i64 0, .int .i64 0, .string ⟨#[]⟩, .slice none 0 0] 31 (0, 0))) (hc : Cell4 w.heap.size a b c d w1) (hM : OwnD w3 w1.heap.size v M) (hMl : M.map (·.1) = l) (hb : Below w1.heap.size w1 w3) : Mk3 w w1 w3 l a b c d v M := by
  rw [hs] at hM hb
  refine ⟨hM, hMl, h1.trans (hb.mono (by omega)), (hb.block _ (by omega)).trans hr, hc.below hb (by omega), ?_⟩
  have := hb.size
  omega
structure Mk5 (w w3 w5 : World) (l : List Dt) (a b c d : Value) (v : Value) (M : List (Dt × Value)) (y : Dt) (ly : Value) : Prop where
  own : OwnD (w5.alloc (.cells #[.int .i64 y.kind, .int .i64 y.int, .string y.text, ly] 31)) (w.heap.size + 1 + 1) v M
  dy : DtAt (w5.alloc (.cells #[.int .i64 y.kind, .int .i64 y.int, .string y.text, ly] 31)) (fun b => w3.heap.size ≤ b) (.agg #[.int .i64 y.kind, .int .i64 y.int, .string y.text, ly]) y
  below : Below w.heap.size w (w5.alloc (.cells #[.int .i64 y.kind, .int .i64 y.int, .string y.text, ly] 31))
  res : (w5.alloc (.cells #[.int .i64 y.kind, .int .i64 y.int, .string y.text, ly] 31)).heap[w.heap.size + 1]? = some (.cells #[.int .i64 0, .int .i64 0, .string ⟨#[]⟩, .slice none 0 0] 31 (0, 0))
  box : Cell4 w.heap.size a b c d w5
  box2 : Cell4 w.heap.size a b c d (w5.alloc (.cells #[.int .i64 y.kind, .int .i64 y.int, .string y.text, ly] 31))
  size : w3.heap.size ≤ w5.heap.size
  size2 : w.heap.size + 1 + 1 ≤ (w5.alloc (.cells #[.int .i64 y.kind, .int .i64 y.int, .string y.text, ly] 31)).heap.size
theorem mk5 {w w1 w3 w5 : World} {l : List Dt} {a b c d v ly : Value} {M : List (Dt × Value)} {y : Dt} (h : Mk3 w w1 w3 l a b c d v M) (hd : DtAt w5 (fun b => w3.heap.size ≤ b) (.agg #[.int .i64 y.kind, .int .i64 y.int, .string y.text, ly]) y) (hb : Below w3.heap.size w3 w5) : Mk5 w w3 w5 l a b c d v M y ly := by
  have hs := h.size
  have hs5 := hb.size
  have hA : Below w5.heap.size w5 (w5.alloc (.cells #[.int .i64 y.kind, .int .i64 y.int, .string y.text, ly] 31)) := (Below.refl _ _).alloc (Nat.le_refl _) _
  have hbx := h.box.below hb (by omega)
  refine ⟨(h.own.bel hb (Nat.le_refl _)).bel hA (Nat.le_refl _), hd.bel hA (Nat.le_refl _), h.below.trans ((hb.trans (hA.mono hs5)).mono (by omega)), (hA.block _ (by omega)).trans ((hb.block _ (by omega)).trans h.res), hbx, hbx.below hA (by omega), hs5, ?_⟩
  have := hA.size
  omega
structure Mk6 (w w6 : World) (l : List Dt) (y : Dt) (a b c d : Value) (v : Value) : Prop where
  data : DtAt w6 (fun b => w.heap.size + 1 + 1 ≤ b) (.agg #[.int .i64 6, .int .i64 0, .string ⟨#[]⟩, v]) (.mk 6 0 ⟨#[]⟩ (l ++ [y]))
  below : Below w.heap.size w w6
  res : w6.heap[w.heap.size + 1]? = some (.cells #[.int .i64 0, .int .i64 0, .string ⟨#[]⟩, .slice none 0 0] 31 (0, 0))
  box : Cell4 w.heap.size a b c d w6
theorem mk6 {w w1 w3 w5 w6 : World} {l : List Dt} {a b c d v ly : Value} {M : List (Dt × Value)} {y : Dt} {g cap : Nat} (h3 : Mk3 w w1 w3 l a b c d v M) (h : Mk5 w w3 w5 l a b c d v M y ly)
    (hown : w6.ownsRow (w.heap.size + 1 + 1) 31 4 (.slice (some ⟨g, 0, none⟩) (M.length + 1) cap) (M.length + 1) (flatD M ++ [.int .i64 y.kind, .int .i64 y.int, .string y.text, ly])) (hg : (w5.alloc (.cells #[.int .i64 y.kind, .int .i64 y.int, .string y.text, ly] 31)).grownBy w6 v.ownBlock) (hl : v.ownBlock = some g ∨ g = w5.heap.size + 1) : Mk6 w w6 l y a b c d (.slice (some ⟨g, 0, none⟩) (M.length + 1) cap) := by
  have hE := make_end h.own h.dy h3.map hown hg hl h3.size h.size h.below (fun k e => (h3.own.row.lt k e).2)
  have hs := h.size2
  refine ⟨hE.1, hE.2, (hg.block _ (by omega) (fun e => by have := (h3.own.row.lt _ e.symm).1; omega)).trans h.res, h.box2.same (hg.block _ (by omega) (fun e => by have := (h3.own.row.lt _ e.symm).1; omega))⟩
set_option maxHeartbeats 4000000 in
set_option maxRecDepth 100000 in
theorem make_dotted (l : List Dt) (b : Dt) (lv vb : Value) (w : World) (hl0 : l ≠ []) (hl1 : l.length ≤ 100000) (hs : Dt.Short (.mk 0 0 ⟨#[]⟩ l)) (hsb : Dt.Short b) (hk : b.kind ≠ 5 ∧ b.kind ≠ 6)
    (hl : DtAt w (fun _ => True) (.agg #[.int .i64 0, .int .i64 0, .string ⟨#[]⟩, lv]) (.mk 0 0 ⟨#[]⟩ l)) (hb : DtAt w (fun _ => True) vb b) :
    Calls Try.prog 74 #[lv, vb] w (DPost (.mk 6 0 ⟨#[]⟩ (l ++ [b])) w) := by
  obtain ⟨a, c, rfl⟩ := hl.slice
  simp only [Dt.list_mk] at *
  obtain ⟨ab, cb, rfl, _⟩ := hb.inv
  obtain ⟨i0, hi, hz0, hz1, hz2⟩ := info_parts infoDatum
  have HI := Lib.hid hi
  have HZ0 := Lib.hid hz0
  have HZ1 := Lib.hid hz1
  have HZ2 := Lib.hid hz2
  have HA := Lib.hid (fun (w1 : World) (hB : Below w.heap.size w w1) => dall_any l _ w1 hs (hl.bel hB (Nat.le_refl _)))
  have HC := Lib.hid (fun (w1 : World) (hB : Below w.heap.size w w1) => copied_any b _ w1 hsb (hb.bel hB (Nat.le_refl _)))
  have hlp : 0 < l.length := List.length_pos_iff.2 hl0
  have hg0 : ¬ (l.length : Int) = 0 := by omega
  have hg1 := beq_eq_false_iff_ne.2 hg0
  have hg2 : ¬ l.length = 0 := by omega
  have hg3 := beq_eq_false_iff_ne.2 hk.1
  have hg4 := beq_eq_false_iff_ne.2 hk.2
  clear hi hz0 hz1 hz2 hl hb hk hs hsb
  unfold CopyPost Dt.valOf at HC
  unfold AllPost at HA
  unfold DPost
  go_enter Try.func74, Try.ntmps74
  go_wp2_with fail
  have HW1 : Hid (Below w.heap.size w ((w.alloc (.cells #[.int .i64 b.kind, .int .i64 b.int, .string b.text, .slice ab b.list.length cb] 31)).alloc (.cells #[.int .i64 0, .int .i64 0, .string ⟨#[]⟩, .slice none 0 0] 31)).drew) := (((Below.refl _ _).alloc (Nat.le_refl _) _).alloc (by simp) _).drew
  have HZ1' : Hid ((((w.alloc (.cells #[.int .i64 b.kind, .int .i64 b.int, .string b.text, .slice ab b.list.length cb] 31)).alloc (.cells #[.int .i64 0, .int .i64 0, .string ⟨#[]⟩, .slice none 0 0] 31)).drew).heap[w.heap.size + 1]? = some (.cells #[.int .i64 0, .int .i64 0, .string ⟨#[]⟩, .slice none 0 0] 31 (0, 0))) := heap_new (w := w.alloc (.cells #[.int .i64 b.kind, .int .i64 b.int, .string b.text, .slice ab b.list.length cb] 31)) (by simp)
  have HS : Hid (Cell4 w.heap.size (.int .i64 b.kind) (.int .i64 b.int) (.string b.text) (.slice ab b.list.length cb) ((w.alloc (.cells #[.int .i64 b.kind, .int .i64 b.int, .string b.text, .slice ab b.list.length cb] 31)).alloc (.cells #[.int .i64 0, .int .i64 0, .string ⟨#[]⟩, .slice none 0 0] 31)).drew) := by
    have h := new4 w (.int .i64 b.kind) (.int .i64 b.int) (.string b.text) (.slice ab b.list.length cb) 31
    exact Cell4.same (w := w.alloc (.cells #[.int .i64 b.kind, .int .i64 b.int, .string b.text, .slice ab b.list.length cb] 31)) h (heap_alloc_old _ _ (by simp))
  obtain ⟨a0, a1, a2, a3⟩ := HS.out
  go_region_law (first
      | (refine step_append_lies _ rfl (.tmp 28) (.tmp 31) 29 rfl (w.heap.size + 1 + 1) 31 i0 _ 4 56 Try.underlying29 HI.out HZ0.out HZ1.out HZ2.out rfl (by decide) (.slice a3 M.length c3) M.length (flatD M) (by rfl) H5.out.own.row ⟨w5.heap.size, 0, none⟩ 1 1 [.int .i64 b.kind, .int .i64 b.int, .string b.text, .slice ay b.list.length cy] (by rfl) (by rfl) (new_cells4 _ _ _ _ _ _) (by simp [Value.oneCell']) (by decide) (app_bound H3.out.map hl1).1 (app_bound H3.out.map hl1).2 H5.out.size2 (w5.heap.size + 1) (by simp) ?_; intro g cap w6 hown hgr hlies hlt6; have H6 := Lib.hid (mk6 H3.out H5.out hown hgr hlies); obtain ⟨r0, r1, r2, r3, m0, m1, m2, m3⟩ := Blk4.of H6.out.res; clear hown hgr hlies hlt6)
      | (go_simp; go_wp2_with (first
        | (go_at_call 87; (with_reducible refine (HA.out _ HW1.out).mono ?_); rintro e w3 ⟨v3, M, rfl, hM, hMl, hb3⟩; obtain ⟨a3, c3, rfl⟩ := hM.shape; have H3 := Lib.hid (mk3 (two_size_eq _ _ _) HW1.out HZ1'.out HS.out hM hMl hb3); obtain ⟨b0, b1, b2, b3⟩ := H3.out.box; clear hM hMl hb3)
        | (go_at_call 86; (with_reducible refine (HC.out _ H3.out.below).mono ?_); rintro e w5 ⟨ly, rfl, hdy, hb5⟩; obtain ⟨ay, cy, rfl⟩ := hdy.slice; have H5 := Lib.hid (mk5 H3.out hdy hb5); clear hdy hb5)
        | fail))
      | fail)
  all_goals go_wp2_with fail
  all_goals
    refine bodyPost_ret (res1 rfl _ _ (w.heap.size + 1) 31 _ (0, 0) rfl (four_set _ _ _ _ _ _ _ _ _ _ _ H6.out.res) datumD datumSize) rfl ?_
    exact ⟨_, rfl, (H6.out.data.four (fun k hk e => by omega) _ _ _ _).mono fun k hk _ => by omega, below_four H6.out.below (by omega) _ _ _ _⟩
end Go.Proofs.Ytalfnaielhbocaa
namespace Go.Proofs.Ytalfnaielhbocaa
open Go.RowKit
set_option maxRecDepth 100000
set_option linter.unusedVariables false
set_option linter.unusedSimpArgs false
theorem step_append_any {P : Program} {w : World} {ops : Array Oper} {o : Oper} {a : Act} {K : Act → World → Prop} {Q : Exit → Act → World → Prop} {E : Prop} (hgd : o.guard = none) (s x : Operand) (t : TypeId)
    (ho : o.op = .call { callee := .builtin .append, args := #[s, x], argTypes := #[t, t] })
    (base : Nat) (e : TypeId) (i : TypeInfo) (z : Value) (size bytes : Nat) (ht : P.underlying t = some (.slice e)) (hi : P.info? e = some i) (hz : i.zero = some z)
    (hsize : i.size = size) (hby : i.bytes = bytes) (hzs : z.cells.size = size) (hsz : 0 < size)
    (v : Value) (n : Nat) (xs : List Value) (hs : a.eval s = v) (hown : w.ownsRow base e size v n xs)
    (ax : Option Addr) (m c : Nat) (news : List Value) (hx : a.eval x = .slice ax m c) (hl : news.length = m * size)
    (hsrc : (ax = none ∧ c = 0 ∧ news = []) ∨ ∃ ad, ax = some ad ∧ ∀ (j : Nat) (u : Value), news[j]? = some u → w.cell? (ad.add j) = some u) (h1 : ∀ u ∈ news, u.oneCell' = true)
    (hnm : 0 < n + m) (h63 : n + m ≤ maxLen) (hbytes : (n + m) * bytes ≤ 140737488355328) (hbase : base ≤ w.heap.size) (H : Nat) (hH : w.heap.size = H)
    (h : ∀ g cap w', w'.ownsRow base e size (.slice (some ⟨g, 0, none⟩) (n + m) cap) (n + m) (xs ++ news) → w.grownBy w' v.ownBlock → (v.ownBlock = some g ∨ g = H) → K (a.put o.dst (.slice (some ⟨g, 0, none⟩) (n + m) cap)) w') :
    if Region.wanted o (yielded ops a.tmps) = true then Oper.wp P o a w K Q else E := by
  have hw : Region.wanted o (yielded ops a.tmps) = true := by simp [Region.wanted, hgd]
  rw [if_pos hw]
  rcases hsrc with ⟨rfl, rfl, rfl⟩ | ⟨ad, rfl, hn⟩
  · have hm : m = 0 := by
      have h0 : m * size = 0 := by simpa using hl.symm
      rcases Nat.mul_eq_zero.1 h0 with h | h
      · exact h
      · omega
    subst hm
    have hrun := run_append_owned_none (P := P) (w := w) base t o.type e i size ht hi v n xs hown
    obtain ⟨g, cap, rfl, _, _⟩ := hown.form (by omega)
    have h' := h g cap w (by simpa using hown) ⟨rfl, rfl, rfl, Nat.le_refl _, fun _ _ _ => rfl⟩ (.inl rfl)
    unfold Oper.wp
    simp [execOp, ho, resolve, invoke, builtin, hs, hx, hrun, Result.andThen]
    exact h'
  · obtain ⟨v', w', hr, h2, h3, _, h5⟩ := run_append_own_at (P := P) w base t o.type e i z size bytes ht hi hz hsize hby hzs hsz v n xs hown ad m c news hl hn h1 h63 hbytes hbase
    obtain ⟨g, cap, rfl, _, hlt⟩ := h2.form hnm
    unfold Oper.wp execOp
    simp only [ho, resolve, invoke, builtin, Sem.run_bind, Sem.run_pure, Result.andThen_ok, List.map_toArray, List.map_cons, List.map_nil, hs, hx, hr]
    refine h g cap w' h2 h3 ?_
    rcases h5 with h5 | h5
    · exact .inl (by rw [← h5]; rfl)
    · right
      have : g = w.heap.size := by simpa [Value.ownBlock] using h5
      rw [this, hH]
theorem OwnD.app {w w' : World} {B : Nat} {v v2 : Value} {M N : List (Dt × Value)} (h : OwnD w B v M) {B2 : Nat} (h2 : OwnD w B2 v2 N) (hB : B ≤ B2) (hv : ∀ b, v.ownBlock = some b → b < B2) {g cap : Nat} (hown : w'.ownsRow B 31 4 (.slice (some ⟨g, 0, none⟩) (M.length + N.length) cap) (M.length + N.length) (flatD M ++ flatD N)) (hg : w.grownBy w' v.ownBlock) (hl : v.ownBlock = some g ∨ g = w.heap.size) :
    OwnD w' B (.slice (some ⟨g, 0, none⟩) (M.length + N.length) cap) (M ++ N) := by
  have key : ∀ (y : Dt) (ly : Value) (S' : Nat → Prop), DtAt w S' (y.valOf ly) y → (∀ b, S' b → b < w.heap.size → B ≤ b ∧ v.ownBlock ≠ some b) → DtAt w' (fun b => B ≤ b ∧ (Value.slice (some ⟨g, 0, none⟩) (M.length + N.length) cap).ownBlock ≠ some b) (y.valOf ly) y := by
    intro y ly S' hy hS'
    refine hy.same (fun b hb hlt => ⟨(hS' b hb hlt).1, fun e => ?_⟩) hg.size (fun b hb hlt => hg.block b hlt (fun e => (hS' b hb hlt).2 e.symm))
    simp [Value.ownBlock] at e
    rcases hl with hl | hl
    · exact (hS' b hb hlt).2 (by rw [hl, e])
    · omega
  refine ⟨?_, fun m hm => ?_⟩
  · rw [List.length_append, flatD_append]
    exact hown
  · rw [List.mem_append] at hm
    rcases hm with hm | hm
    · exact key m.1 m.2 _ (h.kids m hm) fun b hb _ => hb
    · exact key m.1 m.2 _ (h2.kids m hm) fun b hb _ => ⟨by omega, fun e => by have := hv b e; omega⟩
theorem flatD_one (M : List (Dt × Value)) (hv : ∀ m ∈ M, m.2.oneCell' = true) : ∀ u ∈ flatD M, u.oneCell' = true := by
  intro u hu
  obtain ⟨m, hm, hu⟩ := List.mem_flatMap.1 hu
  simp only [List.mem_cons, List.not_mem_nil, or_false] at hu
  rcases hu with rfl | rfl | rfl | rfl
  · rfl
  · rfl
  · rfl
  · exact hv m hm
theorem OwnD.one {w : World} {B : Nat} {v : Value} {M : List (Dt × Value)} (h : OwnD w B v M) : ∀ u ∈ flatD M, u.oneCell' = true := by
  refine flatD_one M fun m hm => ?_
  obtain ⟨a, c, e⟩ := (show DtAt w _ (.agg #[.int .i64 m.1.kind, .int .i64 m.1.int, .string m.1.text, m.2]) m.1 from h.kids m hm).slice
  rw [e]
  rfl
theorem OwnD.cells {w : World} {B : Nat} {v : Value} {M : List (Dt × Value)} (h : OwnD w B v M) : ∃ ax c, v = .slice ax M.length c ∧ ((ax = none ∧ c = 0 ∧ flatD M = []) ∨ ∃ ad, ax = some ad ∧ ∀ (j : Nat) (u : Value), (flatD M)[j]? = some u → w.cell? (ad.add j) = some u) := by
  rcases own_shape h.row with ⟨rfl, e0, e⟩ | ⟨g, cap, rfl, h0, h1, h2, h3⟩
  · exact ⟨none, 0, by rw [e0], .inl ⟨rfl, rfl, e⟩⟩
  · refine ⟨_, cap, rfl, .inr ⟨_, rfl, fun j u hu => ?_⟩⟩
    have hj := (List.getElem?_eq_some_iff.1 hu).1
    rw [flatD_length] at hj
    rw [Addr.add_mid, Nat.zero_add, h.row.cellAt j (by omega)]
    exact hu
structure Mk7 (w w3 w5 : World) (l m : List Dt) (a b c d : Value) (v : Value) (M : List (Dt × Value)) (v2 : Value) (N : List (Dt × Value)) : Prop where
  own : OwnD w5 (w.heap.size + 1 + 1) v M
  own2 : OwnD w5 w3.heap.size v2 N
  map2 : N.map (·.1) = m
  below : Below w.heap.size w w5
  res : w5.heap[w.heap.size + 1]? = some (.cells #[.int .i64 0, .int .i64 0, .string ⟨#[]⟩, .slice none 0 0] 31 (0, 0))
  box : Cell4 w.heap.size a b c d w5
  size : w3.heap.size ≤ w5.heap.size
theorem mk7 {w w1 w3 w5 : World} {l m : List Dt} {a b c d v v2 : Value} {M N : List (Dt × Value)} (h : Mk3 w w1 w3 l a b c d v M) (hN : OwnD w5 w3.heap.size v2 N) (hNm : N.map (·.1) = m) (hb : Below w3.heap.size w3 w5) : Mk7 w w3 w5 l m a b c d v M v2 N := by
  have hs := h.size
  exact ⟨h.own.bel hb (Nat.le_refl _), hN, hNm, h.below.trans (hb.mono (by omega)), (hb.block _ (by omega)).trans h.res, h.box.below hb (by omega), hb.size⟩
structure Mk8 (w w6 : World) (k : Int) (l m : List Dt) (a b c d : Value) (v : Value) : Prop where
  data : DtAt w6 (fun b => w.heap.size + 1 + 1 ≤ b) (.agg #[.int .i64 k, .int .i64 0, .string ⟨#[]⟩, v]) (.mk k 0 ⟨#[]⟩ (l ++ m))
  below : Below w.heap.size w w6
  res : w6.heap[w.heap.size + 1]? = some (.cells #[.int .i64 0, .int .i64 0, .string ⟨#[]⟩, .slice none 0 0] 31 (0, 0))
  box : Cell4 w.heap.size a b c d w6
theorem mk8 {w w1 w3 w5 w6 : World} {k : Int} {l m : List Dt} {a b c d v v2 : Value} {M N : List (Dt × Value)} {g cap : Nat} (h3 : Mk3 w w1 w3 l a b c d v M) (h : Mk7 w w3 w5 l m a b c d v M v2 N)
    (hown : w6.ownsRow (w.heap.size + 1 + 1) 31 4 (.slice (some ⟨g, 0, none⟩) (M.length + N.length) cap) (M.length + N.length) (flatD M ++ flatD N)) (hg : w5.grownBy w6 v.ownBlock) (hl : v.ownBlock = some g ∨ g = w5.heap.size) : Mk8 w w6 k l m a b c d (.slice (some ⟨g, 0, none⟩) (M.length + N.length) cap) := by
  have hs := h.size
  have hs3 := h3.size
  have hA := h.own.app h.own2 hs3 (fun b e => (h3.own.row.lt b e).2) hown hg hl
  have hD := hA.data k 0 ⟨#[]⟩
  rw [List.map_append, h3.map, h.map2] at hD
  have hlt : ∀ b, v.ownBlock = some b → w.heap.size + 1 + 1 ≤ b := fun b e => (h.own.row.lt b e).1
  refine ⟨hD, h.below.grown hg h.below.size (fun b e => by have := hlt b e; omega), (hg.block _ (by omega) (fun e => by have := hlt _ e.symm; omega)).trans h.res, h.box.same (hg.block _ (by omega) (fun e => by have := hlt _ e.symm; omega))⟩
theorem app_bound2 {M N : List (Dt × Value)} {l m : List Dt} (h : M.map (·.1) = l) (h2 : N.map (·.1) = m) (hl : l.length ≤ 100000) (hm : m.length ≤ 100000) : M.length + N.length ≤ maxLen ∧ (M.length + N.length) * 56 ≤ 140737488355328 := by
  have : M.length = l.length := by rw [← h, List.length_map]
  have : N.length = m.length := by rw [← h2, List.length_map]
  constructor
  · simp only [maxLen]; omega
  · omega
theorem nm_pos {M : List (Dt × Value)} {l : List Dt} (h : M.map (·.1) = l) (hl : 0 < l.length) {n : Nat} : 0 < M.length + n := by
  have : M.length = l.length := by rw [← h, List.length_map]
  omega
set_option maxHeartbeats 4000000 in
set_option maxRecDepth 100000 in
theorem make_list (l : List Dt) (k i : Int) (t : ByteArray) (m : List Dt) (lv vb : Value) (w : World) (hl0 : l ≠ []) (hl1 : l.length ≤ 100000) (hm1 : m.length ≤ 100000) (hs : Dt.Short (.mk 0 0 ⟨#[]⟩ l)) (hsb : Dt.Short (.mk k i t m)) (hk : k = 5 ∨ k = 6)
    (hl : DtAt w (fun _ => True) (.agg #[.int .i64 0, .int .i64 0, .string ⟨#[]⟩, lv]) (.mk 0 0 ⟨#[]⟩ l)) (hb : DtAt w (fun _ => True) vb (.mk k i t m)) :
    Calls Try.prog 74 #[lv, vb] w (DPost (.mk k 0 ⟨#[]⟩ (l ++ m)) w) := by
  obtain ⟨a, c, rfl⟩ := hl.slice
  obtain ⟨ab, cb, rfl, _⟩ := hb.inv
  simp only [Dt.list_mk, Dt.kind_mk, Dt.int_mk, Dt.text_mk] at *
  obtain ⟨i0, hi, hz0, hz1, hz2⟩ := info_parts infoDatum
  have HI := Lib.hid hi
  have HZ0 := Lib.hid hz0
  have HZ1 := Lib.hid hz1
  have HZ2 := Lib.hid hz2
  have HA := Lib.hid (fun (w1 : World) (hB : Below w.heap.size w w1) => dall_any l _ w1 hs (hl.bel hB (Nat.le_refl _)))
  have HC := Lib.hid (fun (w1 : World) (hB : Below w.heap.size w w1) => dall_any m (.slice ab m.length cb) w1 (by cases hsb with | mk _ _ _ _ h1 h2 => exact .mk _ _ _ _ h1 h2) ((hb.bel hB (Nat.le_refl _)).head))
  have hlp : 0 < l.length := List.length_pos_iff.2 hl0
  have hg0 : ¬ (l.length : Int) = 0 := by omega
  have hg1 := beq_eq_false_iff_ne.2 hg0
  have hg2 : ¬ l.length = 0 := by omega
  have HK := Lib.hid hk
  have HL0 := Lib.hid hlp
  clear hi hz0 hz1 hz2 hl hb hk hs hsb
  unfold AllPost at HA HC
  unfold DPost
  rcases HK.out with hk | hk
  all_goals
    subst hk
    go_enter Try.func74, Try.ntmps74
    go_wp2_with fail
  · have HW1 : Hid (Below w.heap.size w ((w.alloc (.cells #[.int .i64 5, .int .i64 i, .string t, .slice ab m.length cb] 31)).alloc (.cells #[.int .i64 0, .int .i64 0, .string ⟨#[]⟩, .slice none 0 0] 31)).drew) := (((Below.refl _ _).alloc (Nat.le_refl _) _).alloc (by simp) _).drew
    have HZ1' : Hid ((((w.alloc (.cells #[.int .i64 5, .int .i64 i, .string t, .slice ab m.length cb] 31)).alloc (.cells #[.int .i64 0, .int .i64 0, .string ⟨#[]⟩, .slice none 0 0] 31)).drew).heap[w.heap.size + 1]? = some (.cells #[.int .i64 0, .int .i64 0, .string ⟨#[]⟩, .slice none 0 0] 31 (0, 0))) := heap_new (w := w.alloc (.cells #[.int .i64 5, .int .i64 i, .string t, .slice ab m.length cb] 31)) (by simp)
    have HS : Hid (Cell4 w.heap.size (.int .i64 5) (.int .i64 i) (.string t) (.slice ab m.length cb) ((w.alloc (.cells #[.int .i64 5, .int .i64 i, .string t, .slice ab m.length cb] 31)).alloc (.cells #[.int .i64 0, .int .i64 0, .string ⟨#[]⟩, .slice none 0 0] 31)).drew) := by
      have h := new4 w (.int .i64 5) (.int .i64 i) (.string t) (.slice ab m.length cb) 31
      exact Cell4.same (w := w.alloc (.cells #[.int .i64 5, .int .i64 i, .string t, .slice ab m.length cb] 31)) h (heap_alloc_old _ _ (by simp))
    obtain ⟨a0, a1, a2, a3⟩ := HS.out
    go_region_law (first
      | (refine step_append_any rfl (.tmp 21) (.tmp 24) 29 rfl (w.heap.size + 1 + 1) 31 i0 _ 4 56 Try.underlying29 HI.out HZ0.out HZ1.out HZ2.out rfl (by decide) (.slice a3 M.length c3) M.length (flatD M) (by rfl) H5.out.own.row ax5 N.length c5 (flatD N) (by rfl) (flatD_length N) HCE.out H5.out.own2.one (nm_pos H3.out.map HL0.out) (app_bound2 H3.out.map H5.out.map2 hl1 hm1).1 (app_bound2 H3.out.map H5.out.map2 hl1 hm1).2 (Nat.le_trans H3.out.size H5.out.size) w5.heap.size rfl ?_; intro g cap w6 hown hgr hlies; have H6 := Lib.hid (mk8 (k := 5) H3.out H5.out hown hgr hlies); obtain ⟨r0, r1, r2, r3, m0, m1, m2, m3⟩ := Blk4.of H6.out.res; obtain ⟨s0, s1, s2, s3⟩ := H6.out.box; clear hown hgr hlies)
      | (go_simp; go_wp2_with (first
        | (go_at_call 87; (with_reducible refine (HA.out _ HW1.out).mono ?_); rintro e w3 ⟨v3, M, rfl, hM, hMl, hb3⟩; obtain ⟨a3, c3, rfl⟩ := hM.shape; have H3 := Lib.hid (mk3 (two_size_eq _ _ _) HW1.out HZ1'.out HS.out hM hMl hb3); obtain ⟨b0, b1, b2, b3⟩ := H3.out.box; clear hM hMl hb3)
        | (go_at_call 87; (with_reducible refine (HC.out _ H3.out.below).mono ?_); rintro e w5 ⟨v5, N, rfl, hN, hNl, hb5⟩; obtain ⟨ax5, c5, rfl, hcells⟩ := hN.cells; have H5 := Lib.hid (mk7 H3.out hN hNl hb5); have HCE := Lib.hid hcells; obtain ⟨e0, e1, e2, e3⟩ := H5.out.box; clear hN hNl hb5 hcells)
        | fail))
      | fail)
    all_goals go_wp2_with fail
    all_goals
      refine bodyPost_ret (res1 rfl _ _ (w.heap.size + 1) 31 _ (0, 0) rfl (four_set _ _ _ _ _ _ _ _ _ _ _ H6.out.res) datumD datumSize) rfl ?_
      exact ⟨_, rfl, (H6.out.data.four (fun k hk e => by omega) _ _ _ _).mono fun k hk _ => by omega, below_four H6.out.below (by omega) _ _ _ _⟩
  · have HW1 : Hid (Below w.heap.size w ((w.alloc (.cells #[.int .i64 6, .int .i64 i, .string t, .slice ab m.length cb] 31)).alloc (.cells #[.int .i64 0, .int .i64 0, .string ⟨#[]⟩, .slice none 0 0] 31)).drew) := (((Below.refl _ _).alloc (Nat.le_refl _) _).alloc (by simp) _).drew
    have HZ1' : Hid ((((w.alloc (.cells #[.int .i64 6, .int .i64 i, .string t, .slice ab m.length cb] 31)).alloc (.cells #[.int .i64 0, .int .i64 0, .string ⟨#[]⟩, .slice none 0 0] 31)).drew).heap[w.heap.size + 1]? = some (.cells #[.int .i64 0, .int .i64 0, .string ⟨#[]⟩, .slice none 0 0] 31 (0, 0))) := heap_new (w := w.alloc (.cells #[.int .i64 6, .int .i64 i, .string t, .slice ab m.length cb] 31)) (by simp)
    have HS : Hid (Cell4 w.heap.size (.int .i64 6) (.int .i64 i) (.string t) (.slice ab m.length cb) ((w.alloc (.cells #[.int .i64 6, .int .i64 i, .string t, .slice ab m.length cb] 31)).alloc (.cells #[.int .i64 0, .int .i64 0, .string ⟨#[]⟩, .slice none 0 0] 31)).drew) := by
      have h := new4 w (.int .i64 6) (.int .i64 i) (.string t) (.slice ab m.length cb) 31
      exact Cell4.same (w := w.alloc (.cells #[.int .i64 6, .int .i64 i, .string t, .slice ab m.length cb] 31)) h (heap_alloc_old _ _ (by simp))
    obtain ⟨a0, a1, a2, a3⟩ := HS.out
    go_region_law (first
      | (refine step_append_any rfl (.tmp 21) (.tmp 24) 29 rfl (w.heap.size + 1 + 1) 31 i0 _ 4 56 Try.underlying29 HI.out HZ0.out HZ1.out HZ2.out rfl (by decide) (.slice a3 M.length c3) M.length (flatD M) (by rfl) H5.out.own.row ax5 N.length c5 (flatD N) (by rfl) (flatD_length N) HCE.out H5.out.own2.one (nm_pos H3.out.map HL0.out) (app_bound2 H3.out.map H5.out.map2 hl1 hm1).1 (app_bound2 H3.out.map H5.out.map2 hl1 hm1).2 (Nat.le_trans H3.out.size H5.out.size) w5.heap.size rfl ?_; intro g cap w6 hown hgr hlies; have H6 := Lib.hid (mk8 (k := 6) H3.out H5.out hown hgr hlies); obtain ⟨r0, r1, r2, r3, m0, m1, m2, m3⟩ := Blk4.of H6.out.res; obtain ⟨s0, s1, s2, s3⟩ := H6.out.box; clear hown hgr hlies)
      | (go_simp; go_wp2_with (first
        | (go_at_call 87; (with_reducible refine (HA.out _ HW1.out).mono ?_); rintro e w3 ⟨v3, M, rfl, hM, hMl, hb3⟩; obtain ⟨a3, c3, rfl⟩ := hM.shape; have H3 := Lib.hid (mk3 (two_size_eq _ _ _) HW1.out HZ1'.out HS.out hM hMl hb3); obtain ⟨b0, b1, b2, b3⟩ := H3.out.box; clear hM hMl hb3)
        | (go_at_call 87; (with_reducible refine (HC.out _ H3.out.below).mono ?_); rintro e w5 ⟨v5, N, rfl, hN, hNl, hb5⟩; obtain ⟨ax5, c5, rfl, hcells⟩ := hN.cells; have H5 := Lib.hid (mk7 H3.out hN hNl hb5); have HCE := Lib.hid hcells; obtain ⟨e0, e1, e2, e3⟩ := H5.out.box; clear hN hNl hb5 hcells)
        | fail))
      | fail)
    all_goals go_wp2_with fail
    all_goals
      refine bodyPost_ret (res1 rfl _ _ (w.heap.size + 1) 31 _ (0, 0) rfl (four_set _ _ _ _ _ _ _ _ _ _ _ H6.out.res) datumD datumSize) rfl ?_
      exact ⟨_, rfl, (H6.out.data.four (fun k hk e => by omega) _ _ _ _).mono fun k hk _ => by omega, below_four H6.out.below (by omega) _ _ _ _⟩
def mkD (l : List Dt) (b : Dt) : Dt := if b.kind = 5 ∨ b.kind = 6 then .mk b.kind 0 ⟨#[]⟩ (l ++ b.list) else .mk 6 0 ⟨#[]⟩ (l ++ [b])
theorem make_any (l : List Dt) (b : Dt) (lv vb : Value) (w : World) (hl0 : l ≠ []) (hl1 : l.length ≤ 100000) (hb1 : b.list.length ≤ 100000) (hs : Dt.Short (.mk 0 0 ⟨#[]⟩ l)) (hsb : Dt.Short b)
    (hl : DtAt w (fun _ => True) (.agg #[.int .i64 0, .int .i64 0, .string ⟨#[]⟩, lv]) (.mk 0 0 ⟨#[]⟩ l)) (hb : DtAt w (fun _ => True) vb b) :
    Calls Try.prog 74 #[lv, vb] w (DPost (mkD l b) w) := by
  unfold mkD
  by_cases hk : b.kind = 5 ∨ b.kind = 6
  · rw [if_pos hk]
    obtain ⟨k, i, t, m⟩ := b
    exact make_list l k i t m lv vb w hl0 hl1 hb1 hs hsb hk hl hb
  · rw [if_neg hk]
    exact make_dotted l b lv vb w hl0 hl1 hs hsb ⟨fun e => hk (.inl e), fun e => hk (.inr e)⟩ hl hb
end Go.Proofs.Ytalfnaielhbocaa
namespace Go.Proofs.Ytalfnaielhbocaa
open Go.RowKit
set_option maxRecDepth 100000
set_option linter.unusedVariables false
set_option linter.unusedSimpArgs false
def Still (f : Nat) (args : Array Value) (v : Value) : Prop := ∀ w1, Calls Try.prog f args w1 fun e w' => e = .returned v ∧ w1 = w'
def Makes (w : World) (f : Nat) (args : Array Value) (v : Value) : Prop := ∀ w1, Below w.heap.size w w1 → Calls Try.prog f args w1 fun e w' => e = .returned v ∧ Below w1.heap.size w1 w'
theorem below_one {w w2 : World} {o : Obj} (hb : Below (w.alloc o).heap.size (w.alloc o) w2) : Below w.heap.size w w2 := ((Below.refl w.heap.size w).alloc (Nat.le_refl _) o).trans (hb.mono (by simp))
set_option maxHeartbeats 1000000 in
set_option maxRecDepth 100000 in
theorem do_bad (h : Nat) (p bs : ByteArray) (ok A : Bool) (av : Value) (n c : Nat) (a : Option Addr) (hav : av = .slice a n c) (w : World) (hW : Still 78 #[.string p] (.tuple #[.string bs, .bool ok]))
    (hA : Makes w 50 #[.pointer (some ⟨h, 0, none⟩), av] (.bool A)) (hbad : ok = false ∨ n ≠ bs.size ∨ A = false) :
    Calls Try.prog 69 #[.pointer (some ⟨h, 0, none⟩), .string p, av] w fun e w' => e = .returned (.tuple #[Hp.none.val, .int .i64 1]) ∧ Below w.heap.size w w' := by
  subst hav
  have HW := Lib.hid hW
  have HA := Lib.hid hA
  clear hW hA
  unfold Still at HW
  unfold Makes at HA
  cases ok with
  | false =>
    clear hbad
    go_enter Try.func69, Try.ntmps69
    go_wp2_with fail
    with_reducible refine (HW.out _).mono ?_
    rintro e w1 ⟨rfl, rfl⟩
    go_wp2_with fail
    refine bodyPost_ret (res2 rfl _ _ w.heap.size 64 _ (0, 0) rfl (heap_alloc_new w _) valD valSize) rfl ?_
    exact ⟨rfl, (Below.refl _ _).alloc (Nat.le_refl _) _⟩
  | true =>
    by_cases hn : n = bs.size
    · have hA2 : A = false := by
        rcases hbad with h | h | h
        · cases h
        · exact absurd hn h
        · exact h
      subst hA2
      subst hn
      clear hbad
      go_enter Try.func69, Try.ntmps69
      go_wp2_with fail
      with_reducible refine (HW.out _).mono ?_
      rintro e w1 ⟨rfl, rfl⟩
      go_wp2_with fail
      with_reducible refine (HA.out _ ((Below.refl _ _).alloc (Nat.le_refl _) _)).mono ?_
      rintro e w2 ⟨rfl, hb⟩
      have hz : w2.heap[w.heap.size]? = some (.cells #[.int .i64 0, .int .i64 0, .string ⟨#[]⟩] 64 (0, 0)) := (hb.block _ (by simp)).trans (heap_alloc_new w _)
      have q0 := cell_of_row w2 _ 0 _ _ _ hz
      have q1 := cell_of_row w2 _ 1 _ _ _ hz
      have q2 := cell_of_row w2 _ 2 _ _ _ hz
      simp only [List.getElem?_toArray, List.getElem?_cons_zero, List.getElem?_cons_succ] at q0 q1 q2
      have k0 := frozen_of_row w2 _ 0 _ _ hz
      have k1 := frozen_of_row w2 _ 1 _ _ hz
      have k2 := frozen_of_row w2 _ 2 _ _ hz
      have HZ := Lib.hid hz
      have HB := Lib.hid (below_one hb)
      clear hz hb
      go_wp2_with fail
      refine bodyPost_ret (res2 rfl _ _ w.heap.size 64 _ (0, 0) rfl (three_set _ _ _ _ _ _ _ _ _ HZ.out) valD valSize) rfl ?_
      exact ⟨by simp [Hp.none, Hp.V.val], below_three HB.out (Nat.le_refl _) _ _ _⟩
    · have g1 : ¬ (n : Int) = (bs.size : Int) := by omega
      have g2 := beq_eq_false_iff_ne.2 g1
      have g3 := beq_eq_false_iff_ne.2 hn
      clear hbad
      go_enter Try.func69, Try.ntmps69
      go_wp2_with fail
      with_reducible refine (HW.out _).mono ?_
      rintro e w1 ⟨rfl, rfl⟩
      go_wp2_with fail
      refine bodyPost_ret (res2 rfl _ _ w.heap.size 64 _ (0, 0) rfl (heap_alloc_new w _) valD valSize) rfl ?_
      exact ⟨rfl, (Below.refl _ _).alloc (Nat.le_refl _) _⟩
end Go.Proofs.Ytalfnaielhbocaa
namespace Go.Proofs.Ytalfnaielhbocaa
open Go.RowKit
set_option maxRecDepth 100000
set_option linter.unusedVariables false
set_option linter.unusedSimpArgs false
structure DoW (w wx : World) : Prop where
  below : Below w.heap.size w wx
  lt : w.heap.size < wx.heap.size
  blk : wx.heap[w.heap.size]? = some (.cells #[.int .i64 0, .int .i64 0, .string ⟨#[]⟩] 64 (0, 0))
theorem DoW.next {w wx wy : World} (h : DoW w wx) (hb : Below wx.heap.size wx wy) : DoW w wy :=
  ⟨h.below.trans (hb.mono h.below.size), Nat.lt_of_lt_of_le h.lt hb.size, (hb.block _ h.lt).trans h.blk⟩
theorem DoW.first (w : World) : DoW w (w.alloc (.cells #[.int .i64 0, .int .i64 0, .string ⟨#[]⟩] 64)) := ⟨(Below.refl _ _).alloc (Nat.le_refl _) _, by simp, heap_alloc_new w _⟩
theorem DoW.cells {w wx : World} (h : DoW w wx) : wx.cell? ⟨w.heap.size, 0, none⟩ = some (.int .i64 0) ∧ wx.cell? ⟨w.heap.size, 1, none⟩ = some (.int .i64 0) ∧ wx.cell? ⟨w.heap.size, 2, none⟩ = some (.string ⟨#[]⟩) ∧ wx.frozen? ⟨w.heap.size, 0, none⟩ = false ∧ wx.frozen? ⟨w.heap.size, 1, none⟩ = false ∧ wx.frozen? ⟨w.heap.size, 2, none⟩ = false := by
  have q0 := cell_of_row wx _ 0 _ _ _ h.blk
  have q1 := cell_of_row wx _ 1 _ _ _ h.blk
  have q2 := cell_of_row wx _ 2 _ _ _ h.blk
  simp only [List.getElem?_toArray, List.getElem?_cons_zero, List.getElem?_cons_succ] at q0 q1 q2
  exact ⟨q0, q1, q2, frozen_of_row wx _ 0 _ _ h.blk, frozen_of_row wx _ 1 _ _ h.blk, frozen_of_row wx _ 2 _ _ h.blk⟩
theorem DoW.call {w wx w4 : World} {o : Obj} (h : DoW w wx) (hb : Below (wx.alloc o).drew.heap.size (wx.alloc o).drew w4) : DoW w w4 := by
  have h1 : Below wx.heap.size wx (wx.alloc o).drew := ((Below.refl _ _).alloc (Nat.le_refl _) _).drew
  exact h.next (h1.trans (hb.mono h1.size))
theorem DoW.at {w wx : World} {o : Obj} (h : DoW w wx) : Below w.heap.size w (wx.alloc o).drew := (h.below.alloc h.below.size _).drew
def New3 (g : Nat) (k i : Int) (t : ByteArray) (w : World) : Prop := w.cell? ⟨g, 0, none⟩ = some (.int .i64 k) ∧ w.cell? ⟨g, 1, none⟩ = some (.int .i64 i) ∧ w.cell? ⟨g, 2, none⟩ = some (.string t)
theorem new3 (w : World) (k i : Int) (t : ByteArray) : New3 w.heap.size k i t (w.alloc (.cells #[.int .i64 k, .int .i64 i, .string t] 64)).drew := by
  refine ⟨?_, ?_, ?_⟩
  all_goals
    show (w.alloc _).cell? _ = _
    rw [World.cell?_alloc_at _ _ _ _ rfl]
    rfl
theorem New3.below {g N : Nat} {k i : Int} {t : ByteArray} {w w' : World} (h : New3 g k i t w) (hb : Below N w w') (hg : g < N) : New3 g k i t w' := ⟨(hb.cell (p := ⟨g, 0, none⟩) hg).trans h.1, (hb.cell (p := ⟨g, 1, none⟩) hg).trans h.2.1, (hb.cell (p := ⟨g, 2, none⟩) hg).trans h.2.2⟩
theorem drew_lt (w : World) (o : Obj) : w.heap.size < (w.alloc o).drew.heap.size := by show _ < (w.alloc o).heap.size; simp
def IsAt (w : World) (h : Nat) (l : List Hp.V) (bs : ByteArray) (G : Nat → Bool) : Prop :=
  ∀ (k : Nat) (x : Hp.V) (hk : k < bs.size), l[k]? = some x → ∀ w1, Below w.heap.size w w1 → Calls Try.prog 79 #[.pointer (some ⟨h, 0, none⟩), x.val, .int .u8 (bs[k].toNat : Nat)] w1 fun e w' => e = .returned (.bool (G k)) ∧ Below w1.heap.size w1 w'
set_option maxHeartbeats 2000000 in
set_option maxRecDepth 100000 in
theorem do_type (h : Nat) (p bs : ByteArray) (av : Value) (l : List Hp.V) (w : World) (hv : VSl w av l) (hl : l.length = bs.size) (hlm : l.length ≤ 1000) (G : Nat → Bool) (hW : Still 78 #[.string p] (.tuple #[.string bs, .bool true]))
    (hA : Makes w 50 #[.pointer (some ⟨h, 0, none⟩), av] (.bool true)) (hI : IsAt w h l bs G) (hG : ∃ k, k < l.length ∧ G k = false) :
    Calls Try.prog 69 #[.pointer (some ⟨h, 0, none⟩), .string p, av] w fun e w' => e = .returned (.tuple #[Hp.none.val, .int .i64 80]) ∧ Below w.heap.size w w' := by
  obtain ⟨a, c, rfl⟩ := hv.len
  have HV := Lib.hid hv
  have HW := Lib.hid hW
  have HA := Lib.hid hA
  have HI := Lib.hid hI
  have HGG := Lib.hid hG
  have HLE := Lib.hid hl
  clear hW hA hv hI hG
  unfold Still at HW
  unfold Makes at HA
  unfold IsAt at HI
  unfold Hp.V.val at *
  go_enter Try.func69, Try.ntmps69
  go_wp2_with fail
  with_reducible refine (HW.out _).mono ?_
  rintro e w1 ⟨rfl, rfl⟩
  rw [hl] at HA ⊢
  go_wp2_with fail
  with_reducible refine (HA.out _ ((Below.refl _ _).alloc (Nat.le_refl _) _)).mono ?_
  rintro e w2 ⟨rfl, hb⟩
  have HD := Lib.hid ((DoW.first w).next hb)
  clear hb
  go_wp2_with fail
  go_loopg [39] l.length (fun gk i wx => ∃ k : Nat, k ≤ l.length ∧ gk = l.length - k ∧ i = .int .i64 k ∧ Hid (∀ j, j < k → G j = true) ∧ Hid (DoW w wx))
  case atStart => exact ⟨0, Nat.zero_le _, rfl, rfl, fun j hj => by omega, HD.out⟩
  case round =>
    obtain ⟨k, hk, rfl, rfl, HALL, HX⟩ := hrel
    by_cases hlt : k < l.length
    · obtain ⟨x, hx⟩ : ∃ x, l[k]? = some x := ⟨_, List.getElem?_eq_getElem hlt⟩
      have hne : l ≠ [] := fun e => by rw [e] at hlt; simp at hlt
      have hv2 := HV.out.below HX.out.below (Nat.le_refl _)
      rw [hl] at hv2
      obtain ⟨b, off, rfl, hbl, hat⟩ := hv2.at hne
      obtain ⟨d0, d1, d2⟩ := hat k x hx
      have hks : k < bs.size := by omega
      have HIk := Lib.hid (fun w1 hb => HI.out k x hks hx w1 hb)
      obtain ⟨xk, xi, xt⟩ := x
      dsimp only at *
      have hg1 : (0 : Int) ≤ k := by omega
      have hg2 : (k : Int) < bs.size := by omega
      have hgw : IntKind.i64.wrap ((k : Int) + 1) = k + 1 := by rw [IntKind.wrap_i64]; omega
      clear hat hx hne hv2 HV
      have HS := Lib.hid (new3 wr xk xi xt)
      cases hG : G k with
      | true =>
        rw [hG] at HIk
        have HGT := Lib.hid hG
        clear hG HI
        go_wp2_with fail
        go_region_held3 (fun w' => w'.cell? ⟨wr.heap.size, 0, none⟩ = some (.int .i64 xk) ∧ w'.cell? ⟨wr.heap.size, 1, none⟩ = some (.int .i64 xi) ∧ w'.cell? ⟨wr.heap.size, 2, none⟩ = some (.string xt))
          (first | exact HS.out | exact HS4.out)
          (first | (go_at_call 79; (with_reducible refine (HIk.out _ HX.out.at).mono ?_); rintro e w4 ⟨rfl, hb4⟩; have HX4 := Lib.hid (HX.out.call hb4); have HS4 : Hid (New3 wr.heap.size xk xi xt w4) := HS.out.below hb4 (drew_lt _ _); clear hb4))
        go_wp2_with fail
        go_roundg (l.length - (k + 1))
        case measure => omega
        case rel => exact ⟨k + 1, by omega, rfl, by go_num, fun j hj => (Nat.lt_or_eq_of_le (Nat.le_of_lt_succ hj)).elim (fun h => HALL.out j h) (fun h => h ▸ HGT.out), HX4.out⟩
      | false =>
        rw [hG] at HIk
        clear hG HI
        go_wp2_with fail
        go_region_held3 (fun w' => w'.cell? ⟨wr.heap.size, 0, none⟩ = some (.int .i64 xk) ∧ w'.cell? ⟨wr.heap.size, 1, none⟩ = some (.int .i64 xi) ∧ w'.cell? ⟨wr.heap.size, 2, none⟩ = some (.string xt))
          (first | exact HS.out | exact HS4.out)
          (first | (go_at_call 79; (with_reducible refine (HIk.out _ HX.out.at).mono ?_); rintro e w4 ⟨rfl, hb4⟩; have HX4 := Lib.hid (HX.out.call hb4); have HS4 : Hid (New3 wr.heap.size xk xi xt w4) := HS.out.below hb4 (drew_lt _ _); clear hb4))
        obtain ⟨q0, q1, q2, k0, k1, k2⟩ := HX4.out.cells
        go_wp2_with fail
        refine bodyPost_ret (res2 rfl _ _ w.heap.size 64 _ (0, 0) rfl (three_set _ _ _ _ _ _ _ _ _ HX4.out.blk) valD valSize) rfl ?_
        exact ⟨by simp [Hp.none, Hp.V.val], below_three HX4.out.below (Nat.le_refl _) _ _ _⟩
    · obtain rfl : k = l.length := by omega
      obtain ⟨j, hj, hjG⟩ := HGG.out
      have := HALL.out j hj
      rw [hjG] at this
      cases this
end Go.Proofs.Ytalfnaielhbocaa
namespace Go.Proofs.Ytalfnaielhbocaa
open Go.RowKit
set_option maxRecDepth 100000
set_option linter.unusedVariables false
set_option linter.unusedSimpArgs false
namespace Hp
def ops : List (List UInt8) := [[43], [45], [42], [113, 117, 111, 116, 105, 101, 110, 116], [114, 101, 109, 97, 105, 110, 100, 101, 114]]
end Hp
set_option maxHeartbeats 2000000 in
set_option maxRecDepth 100000 in
theorem do_act (h : Nat) (p bs : ByteArray) (av : Value) (l : List Hp.V) (w : World) (hv : VSl w av l) (hl : l.length = bs.size) (hlm : l.length ≤ 1000) (G : Nat → Bool) (hW : Still 78 #[.string p] (.tuple #[.string bs, .bool true]))
    (hA : Makes w 50 #[.pointer (some ⟨h, 0, none⟩), av] (.bool true)) (hI : IsAt w h l bs G) (hG : ∀ k, k < l.length → G k = true) (O : Nat → Prop) (r : Hp.V) (er : Int) (T : List Hp.Th) (hO : ∀ b, O b → b < w.heap.size)
    (hK : Still 80 #[.string p] (.tuple #[.int .i64 (-1), .int .u8 0])) (hp : ∀ q ∈ Hp.ops, (q == p.toList) = false)
    (hAct : After w 1 fun w1 => Calls Try.prog 83 #[.pointer (some ⟨h, 0, none⟩), .string p, av] w1 (DoPost 83 h O r er T w1)) :
    Calls Try.prog 69 #[.pointer (some ⟨h, 0, none⟩), .string p, av] w (DoPost 83 h O r er T w) := by
  obtain ⟨a, c, rfl⟩ := hv.len
  have HV := Lib.hid hv
  have HW := Lib.hid hW
  have HA := Lib.hid hA
  have HI := Lib.hid hI
  have HGG := Lib.hid hG
  have HLE := Lib.hid hl
  have HK := Lib.hid hK
  have HP := Lib.hid hp
  have HC := Lib.hid hAct
  have HO := Lib.hid hO
  clear hW hA hv hI hG hK hp hAct hO
  obtain ⟨rk, ri, rt⟩ := r
  unfold DoPost at *
  unfold After at *
  unfold Still at HK
  unfold Still at HW
  unfold Makes at HA
  unfold IsAt at HI
  unfold Hp.V.val at *
  rw [hl] at HA HC ⊢
  go_enter Try.func69, Try.ntmps69
  go_wp2_with fail
  with_reducible refine (HW.out _).mono ?_
  rintro e w1 ⟨rfl, rfl⟩
  go_wp2_with fail
  with_reducible refine (HA.out _ ((Below.refl _ _).alloc (Nat.le_refl _) _)).mono ?_
  rintro e w2 ⟨rfl, hb⟩
  have HD := Lib.hid ((DoW.first w).next hb)
  clear hb
  go_wp2_with fail
  go_loopg [39] l.length (fun gk i wx => ∃ k : Nat, k ≤ l.length ∧ gk = l.length - k ∧ i = .int .i64 k ∧ Hid (∀ j, j < k → G j = true) ∧ Hid (DoW w wx))
  case atStart => exact ⟨0, Nat.zero_le _, rfl, rfl, fun j hj => by omega, HD.out⟩
  case round =>
    obtain ⟨k, hk, rfl, rfl, HALL, HX⟩ := hrel
    by_cases hlt : k < l.length
    · obtain ⟨x, hx⟩ : ∃ x, l[k]? = some x := ⟨_, List.getElem?_eq_getElem hlt⟩
      have hne : l ≠ [] := fun e => by rw [e] at hlt; simp at hlt
      have hv2 := HV.out.below HX.out.below (Nat.le_refl _)
      rw [hl] at hv2
      obtain ⟨b, off, rfl, hbl, hat⟩ := hv2.at hne
      obtain ⟨d0, d1, d2⟩ := hat k x hx
      have hks : k < bs.size := by omega
      have HIk := Lib.hid (fun w1 hb => HI.out k x hks hx w1 hb)
      obtain ⟨xk, xi, xt⟩ := x
      dsimp only at *
      have hg1 : (0 : Int) ≤ k := by omega
      have hg2 : (k : Int) < bs.size := by omega
      have hgw : IntKind.i64.wrap ((k : Int) + 1) = k + 1 := by rw [IntKind.wrap_i64]; omega
      clear hat hx hne hv2 HV
      have HS := Lib.hid (new3 wr xk xi xt)
      have hG := HGG.out k hlt
      rw [hG] at HIk
      have HGT := Lib.hid hG
      clear hG HI
      go_wp2_with fail
      go_region_held3 (fun w' => w'.cell? ⟨wr.heap.size, 0, none⟩ = some (.int .i64 xk) ∧ w'.cell? ⟨wr.heap.size, 1, none⟩ = some (.int .i64 xi) ∧ w'.cell? ⟨wr.heap.size, 2, none⟩ = some (.string xt))
        (first | exact HS.out | exact HS4.out)
        (first | (go_at_call 79; (with_reducible refine (HIk.out _ HX.out.at).mono ?_); rintro e w4 ⟨rfl, hb4⟩; have HX4 := Lib.hid (HX.out.call hb4); have HS4 : Hid (New3 wr.heap.size xk xi xt w4) := HS.out.below hb4 (drew_lt _ _); clear hb4))
      go_wp2_with fail
      go_roundg (l.length - (k + 1))
      case measure => omega
      case rel => exact ⟨k + 1, by omega, rfl, by go_num, fun j hj => (Nat.lt_or_eq_of_le (Nat.le_of_lt_succ hj)).elim (fun h => HALL.out j h) (fun h => h ▸ HGT.out), HX4.out⟩
    · obtain rfl : k = l.length := by omega
      go_wp2_with fail
      with_reducible refine (HK.out _).mono ?_
      rintro e w3 ⟨rfl, rfl⟩
      go_wp2_with fail
      have i0 : ∀ w : World, (Instr.index 143 (.agg #[.string ⟨#[43]⟩, .string ⟨#[45]⟩, .string ⟨#[42]⟩, .string ⟨#[113, 117, 111, 116, 105, 101, 110, 116]⟩, .string ⟨#[114, 101, 109, 97, 105, 110, 100, 101, 114]⟩]) (.int .i64 0)).run Try.prog w = .ok (.string ⟨#[43]⟩) w := fun _ => by kernel_rfl
      have i1 : ∀ w : World, (Instr.index 143 (.agg #[.string ⟨#[43]⟩, .string ⟨#[45]⟩, .string ⟨#[42]⟩, .string ⟨#[113, 117, 111, 116, 105, 101, 110, 116]⟩, .string ⟨#[114, 101, 109, 97, 105, 110, 100, 101, 114]⟩]) (.int .i64 1)).run Try.prog w = .ok (.string ⟨#[45]⟩) w := fun _ => by kernel_rfl
      have i2 : ∀ w : World, (Instr.index 143 (.agg #[.string ⟨#[43]⟩, .string ⟨#[45]⟩, .string ⟨#[42]⟩, .string ⟨#[113, 117, 111, 116, 105, 101, 110, 116]⟩, .string ⟨#[114, 101, 109, 97, 105, 110, 100, 101, 114]⟩]) (.int .i64 2)).run Try.prog w = .ok (.string ⟨#[42]⟩) w := fun _ => by kernel_rfl
      have i3 : ∀ w : World, (Instr.index 143 (.agg #[.string ⟨#[43]⟩, .string ⟨#[45]⟩, .string ⟨#[42]⟩, .string ⟨#[113, 117, 111, 116, 105, 101, 110, 116]⟩, .string ⟨#[114, 101, 109, 97, 105, 110, 100, 101, 114]⟩]) (.int .i64 3)).run Try.prog w = .ok (.string ⟨#[113, 117, 111, 116, 105, 101, 110, 116]⟩) w := fun _ => by kernel_rfl
      have i4 : ∀ w : World, (Instr.index 143 (.agg #[.string ⟨#[43]⟩, .string ⟨#[45]⟩, .string ⟨#[42]⟩, .string ⟨#[113, 117, 111, 116, 105, 101, 110, 116]⟩, .string ⟨#[114, 101, 109, 97, 105, 110, 100, 101, 114]⟩]) (.int .i64 4)).run Try.prog w = .ok (.string ⟨#[114, 101, 109, 97, 105, 110, 100, 101, 114]⟩) w := fun _ => by kernel_rfl
      go_loopg [84] 5 (fun gk i wx => ∃ k : Int, (k = 0 ∨ k = 1 ∨ k = 2 ∨ k = 3 ∨ k = 4 ∨ k = 5) ∧ gk = 5 - k.toNat ∧ i = .int .i64 k ∧ Hid (DoW w wx))
      case atStart => exact ⟨0, by omega, rfl, rfl, HX.out⟩
      case round =>
        obtain ⟨k, hk, rfl, rfl, HY⟩ := hrel
        rcases hk with rfl | rfl | rfl | rfl | rfl | rfl
        · have hq : ([43] == p.toList) = false := HP.out _ (by simp [Hp.ops])
          go_wp2_with fail
          go_roundg 4
          case measure => decide
          case rel => exact ⟨1, by omega, rfl, rfl, HY.out⟩
        · have hq : ([45] == p.toList) = false := HP.out _ (by simp [Hp.ops])
          go_wp2_with fail
          go_roundg 3
          case measure => decide
          case rel => exact ⟨2, by omega, rfl, rfl, HY.out⟩
        · have hq : ([42] == p.toList) = false := HP.out _ (by simp [Hp.ops])
          go_wp2_with fail
          go_roundg 2
          case measure => decide
          case rel => exact ⟨3, by omega, rfl, rfl, HY.out⟩
        · have hq : ([113, 117, 111, 116, 105, 101, 110, 116] == p.toList) = false := HP.out _ (by simp [Hp.ops])
          go_wp2_with fail
          go_roundg 1
          case measure => decide
          case rel => exact ⟨4, by omega, rfl, rfl, HY.out⟩
        · have hq : ([114, 101, 109, 97, 105, 110, 100, 101, 114] == p.toList) = false := HP.out _ (by simp [Hp.ops])
          go_wp2_with fail
          go_roundg 0
          case measure => decide
          case rel => exact ⟨5, by omega, rfl, rfl, HY.out⟩
        · go_wp2_with fail
          with_reducible refine (HC.out _ HY.out.below (Nat.succ_le_of_lt HY.out.lt)).mono ?_
          rintro e w5 ⟨O', rfl, hst, hgr⟩
          have HT := Lib.hid (do_tail HY.out.below HO.out (Nat.le_refl _) HY.out.lt HY.out.blk hst hgr)
          have hz2 := HT.out.1
          have q0 := cell_of_row w5 _ 0 _ _ _ hz2
          have q1 := cell_of_row w5 _ 1 _ _ _ hz2
          have q2 := cell_of_row w5 _ 2 _ _ _ hz2
          simp only [List.getElem?_toArray, List.getElem?_cons_zero, List.getElem?_cons_succ] at q0 q1 q2
          have k0 := frozen_of_row w5 _ 0 _ _ hz2
          have k1 := frozen_of_row w5 _ 1 _ _ hz2
          have k2 := frozen_of_row w5 _ 2 _ _ hz2
          clear hst hgr hz2
          go_wp2_with fail
          refine bodyPost_ret (res2 rfl _ _ w.heap.size 64 _ (0, 0) rfl (three_set _ _ _ _ _ _ _ _ _ HT.out.1) valD valSize) rfl ?_
          exact ⟨O', by simp, HT.out.2 _ _ _⟩
end Go.Proofs.Ytalfnaielhbocaa
namespace Go.Proofs.Ytalfnaielhbocaa
open Go.RowKit
set_option maxRecDepth 100000
set_option linter.unusedVariables false
set_option linter.unusedSimpArgs false
set_option maxHeartbeats 2000000 in
set_option maxRecDepth 100000 in
theorem do_op0 (h : Nat) (p bs : ByteArray) (av : Value) (l : List Hp.V) (w : World) (hv : VSl w av l) (hl : l.length = bs.size) (hlm : l.length ≤ 1000) (G : Nat → Bool) (hW : Still 78 #[.string p] (.tuple #[.string bs, .bool true]))
    (hA : Makes w 50 #[.pointer (some ⟨h, 0, none⟩), av] (.bool true)) (hI : IsAt w h l bs G) (hG : ∀ k, k < l.length → G k = true) (r : Hp.V) (er : Int) (x0 y0 : Hp.V) (hxy : l = [x0, y0])
    (hK : Still 80 #[.string p] (.tuple #[.int .i64 (-1), .int .u8 0])) (hp : p = ⟨#[43]⟩)
    (hAct : ∀ w1, Calls Try.prog 82 #[.int .i64 0, x0.val, y0.val] w1 fun e w' => e = .returned (.tuple #[r.val, .int .i64 er]) ∧ Below w1.heap.size w1 w') :
    Calls Try.prog 69 #[.pointer (some ⟨h, 0, none⟩), .string p, av] w fun e w' => e = .returned (.tuple #[r.val, .int .i64 er]) ∧ Below w.heap.size w w' := by
  obtain ⟨a, c, rfl⟩ := hv.len
  obtain ⟨b0, off0, rfl, hbl0, hat0⟩ := hv.at (by rw [hxy]; simp)
  obtain ⟨d0, d1, d2⟩ := hat0 0 x0 (by rw [hxy]; rfl)
  obtain ⟨f0, f1, f2⟩ := hat0 1 y0 (by rw [hxy]; rfl)
  rw [Nat.zero_mul, Nat.add_zero] at d0 d1 d2
  rw [Nat.one_mul] at f0 f1 f2
  have HCL : Hid (ArgC b0 off0 [x0, y0] w) := ⟨d0, d1, d2, f0, f1, f2⟩
  have hl2 : bs.size = 2 := by rw [← hl, hxy]; rfl
  have HL2 := Lib.hid hl2
  clear hat0 d0 d1 d2 f0 f1 f2 hxy hl2
  have HV := Lib.hid hv
  have HW := Lib.hid hW
  have HA := Lib.hid hA
  have HI := Lib.hid hI
  have HGG := Lib.hid hG
  have HLE := Lib.hid hl
  have HK := Lib.hid hK
  have HC := Lib.hid hAct
  clear hW hA hv hI hG hK hAct
  obtain ⟨rk, ri, rt⟩ := r
  obtain ⟨xk0, xi0, xt0⟩ := x0
  obtain ⟨yk0, yi0, yt0⟩ := y0
  subst hp
  unfold Still at HK
  unfold Still at HW
  unfold Makes at HA
  unfold IsAt at HI
  unfold Hp.V.val at *
  dsimp only at HC ⊢
  rw [hl] at HA ⊢
  go_enter Try.func69, Try.ntmps69
  go_wp2_with fail
  with_reducible refine (HW.out _).mono ?_
  rintro e w1 ⟨rfl, rfl⟩
  go_wp2_with fail
  with_reducible refine (HA.out _ ((Below.refl _ _).alloc (Nat.le_refl _) _)).mono ?_
  rintro e w2 ⟨rfl, hb⟩
  have HD := Lib.hid ((DoW.first w).next hb)
  clear hb
  go_wp2_with fail
  go_loopg [39] l.length (fun gk i wx => ∃ k : Nat, k ≤ l.length ∧ gk = l.length - k ∧ i = .int .i64 k ∧ Hid (∀ j, j < k → G j = true) ∧ Hid (DoW w wx))
  case atStart => exact ⟨0, Nat.zero_le _, rfl, rfl, fun j hj => by omega, HD.out⟩
  case round =>
    obtain ⟨k, hk, rfl, rfl, HALL, HX⟩ := hrel
    by_cases hlt : k < l.length
    · obtain ⟨x, hx⟩ : ∃ x, l[k]? = some x := ⟨_, List.getElem?_eq_getElem hlt⟩
      have hne : l ≠ [] := fun e => by rw [e] at hlt; simp at hlt
      have hv2 := HV.out.below HX.out.below (Nat.le_refl _)
      rw [hl] at hv2
      obtain ⟨b, off, hbe, hbl, hat⟩ := hv2.at hne
      cases hbe
      obtain ⟨d0, d1, d2⟩ := hat k x hx
      have hks : k < bs.size := by omega
      have HIk := Lib.hid (fun w1 hb => HI.out k x hks hx w1 hb)
      obtain ⟨xk, xi, xt⟩ := x
      dsimp only at *
      have hg1 : (0 : Int) ≤ k := by omega
      have hg2 : (k : Int) < bs.size := by omega
      have hgw : IntKind.i64.wrap ((k : Int) + 1) = k + 1 := by rw [IntKind.wrap_i64]; omega
      clear hat hx hne hv2 HV
      have HS := Lib.hid (new3 wr xk xi xt)
      have hG := HGG.out k hlt
      rw [hG] at HIk
      have HGT := Lib.hid hG
      clear hG HI
      go_wp2_with fail
      go_region_held3 (fun w' => w'.cell? ⟨wr.heap.size, 0, none⟩ = some (.int .i64 xk) ∧ w'.cell? ⟨wr.heap.size, 1, none⟩ = some (.int .i64 xi) ∧ w'.cell? ⟨wr.heap.size, 2, none⟩ = some (.string xt))
        (first | exact HS.out | exact HS4.out)
        (first | (go_at_call 79; (with_reducible refine (HIk.out _ HX.out.at).mono ?_); rintro e w4 ⟨rfl, hb4⟩; have HX4 := Lib.hid (HX.out.call hb4); have HS4 : Hid (New3 wr.heap.size xk xi xt w4) := HS.out.below hb4 (drew_lt _ _); clear hb4))
      go_wp2_with fail
      go_roundg (l.length - (k + 1))
      case measure => omega
      case rel => exact ⟨k + 1, by omega, rfl, by go_num, fun j hj => (Nat.lt_or_eq_of_le (Nat.le_of_lt_succ hj)).elim (fun h => HALL.out j h) (fun h => h ▸ HGT.out), HX4.out⟩
    · obtain rfl : k = l.length := by omega
      go_wp2_with fail
      with_reducible refine (HK.out _).mono ?_
      rintro e w3 ⟨rfl, rfl⟩
      go_wp2_with fail
      have i0 : ∀ w : World, (Instr.index 143 (.agg #[.string ⟨#[43]⟩, .string ⟨#[45]⟩, .string ⟨#[42]⟩, .string ⟨#[113, 117, 111, 116, 105, 101, 110, 116]⟩, .string ⟨#[114, 101, 109, 97, 105, 110, 100, 101, 114]⟩]) (.int .i64 0)).run Try.prog w = .ok (.string ⟨#[43]⟩) w := fun _ => by kernel_rfl
      have i1 : ∀ w : World, (Instr.index 143 (.agg #[.string ⟨#[43]⟩, .string ⟨#[45]⟩, .string ⟨#[42]⟩, .string ⟨#[113, 117, 111, 116, 105, 101, 110, 116]⟩, .string ⟨#[114, 101, 109, 97, 105, 110, 100, 101, 114]⟩]) (.int .i64 1)).run Try.prog w = .ok (.string ⟨#[45]⟩) w := fun _ => by kernel_rfl
      have i2 : ∀ w : World, (Instr.index 143 (.agg #[.string ⟨#[43]⟩, .string ⟨#[45]⟩, .string ⟨#[42]⟩, .string ⟨#[113, 117, 111, 116, 105, 101, 110, 116]⟩, .string ⟨#[114, 101, 109, 97, 105, 110, 100, 101, 114]⟩]) (.int .i64 2)).run Try.prog w = .ok (.string ⟨#[42]⟩) w := fun _ => by kernel_rfl
      have i3 : ∀ w : World, (Instr.index 143 (.agg #[.string ⟨#[43]⟩, .string ⟨#[45]⟩, .string ⟨#[42]⟩, .string ⟨#[113, 117, 111, 116, 105, 101, 110, 116]⟩, .string ⟨#[114, 101, 109, 97, 105, 110, 100, 101, 114]⟩]) (.int .i64 3)).run Try.prog w = .ok (.string ⟨#[113, 117, 111, 116, 105, 101, 110, 116]⟩) w := fun _ => by kernel_rfl
      have i4 : ∀ w : World, (Instr.index 143 (.agg #[.string ⟨#[43]⟩, .string ⟨#[45]⟩, .string ⟨#[42]⟩, .string ⟨#[113, 117, 111, 116, 105, 101, 110, 116]⟩, .string ⟨#[114, 101, 109, 97, 105, 110, 100, 101, 114]⟩]) (.int .i64 4)).run Try.prog w = .ok (.string ⟨#[114, 101, 109, 97, 105, 110, 100, 101, 114]⟩) w := fun _ => by kernel_rfl
      go_loopg [84] 0 (fun gk i wx => ∃ k : Int, (k = 0) ∧ gk = 0 - k.toNat ∧ i = .int .i64 k ∧ Hid (DoW w wx))
      case atStart => exact ⟨0, by omega, rfl, rfl, HX.out⟩
      case round =>
        obtain ⟨k, rfl, rfl, rfl, HY⟩ := hrel
        · have hg0 : (0 : Int) < bs.size := by have := HL2.out; omega
          have hg1 : (1 : Int) < bs.size := by have := HL2.out; omega
          have hg0n : 0 < bs.size := by have := HL2.out; omega
          have hg1n : 1 < bs.size := by have := HL2.out; omega
          have HS : Hid (ArgC b0 off0 [⟨xk0, xi0, xt0⟩, ⟨yk0, yi0, yt0⟩] wr.drew) := (HCL.out.below HY.out.below hbl0).same fun _ => rfl
          go_wp2_with fail
          go_region_held3 (fun w' => w'.cell? ⟨b0, off0, none⟩ = some (.int .i64 xk0) ∧ w'.cell? ⟨b0, off0 + 1, none⟩ = some (.int .i64 xi0) ∧ w'.cell? ⟨b0, off0 + 2, none⟩ = some (.string xt0) ∧ w'.cell? ⟨b0, off0 + 3, none⟩ = some (.int .i64 yk0) ∧ w'.cell? ⟨b0, off0 + 3 + 1, none⟩ = some (.int .i64 yi0) ∧ w'.cell? ⟨b0, off0 + 3 + 2, none⟩ = some (.string yt0))
            (first | exact HS.out | exact HS5.out | exact HS5.out.stored3 (by omega) _ _ _)
            (first | (go_at_call 82; (with_reducible refine (HC.out _).mono ?_); rintro e w5 ⟨rfl, hb5⟩; have HY2 := Lib.hid (HY.out.next ((Below.refl _ _).drew.trans hb5)); have HS5 : Hid (ArgC b0 off0 [⟨xk0, xi0, xt0⟩, ⟨yk0, yi0, yt0⟩] w5) := HS.out.below hb5 (Nat.lt_of_lt_of_le hbl0 HY.out.below.size); obtain ⟨q0, q1, q2, k0, k1, k2⟩ := HY2.out.cells; clear hb5))
          go_wp2_with fail
          refine bodyPost_ret (res2 rfl _ _ w.heap.size 64 _ (0, 0) rfl (three_set _ _ _ _ _ _ _ _ _ HY2.out.blk) valD valSize) rfl ?_
          exact ⟨by simp, below_three HY2.out.below (Nat.le_refl _) _ _ _⟩
set_option maxHeartbeats 2000000 in
set_option maxRecDepth 100000 in
theorem do_op1 (h : Nat) (p bs : ByteArray) (av : Value) (l : List Hp.V) (w : World) (hv : VSl w av l) (hl : l.length = bs.size) (hlm : l.length ≤ 1000) (G : Nat → Bool) (hW : Still 78 #[.string p] (.tuple #[.string bs, .bool true]))
    (hA : Makes w 50 #[.pointer (some ⟨h, 0, none⟩), av] (.bool true)) (hI : IsAt w h l bs G) (hG : ∀ k, k < l.length → G k = true) (r : Hp.V) (er : Int) (x0 y0 : Hp.V) (hxy : l = [x0, y0])
    (hK : Still 80 #[.string p] (.tuple #[.int .i64 (-1), .int .u8 0])) (hp : p = ⟨#[45]⟩)
    (hAct : ∀ w1, Calls Try.prog 82 #[.int .i64 1, x0.val, y0.val] w1 fun e w' => e = .returned (.tuple #[r.val, .int .i64 er]) ∧ Below w1.heap.size w1 w') :
    Calls Try.prog 69 #[.pointer (some ⟨h, 0, none⟩), .string p, av] w fun e w' => e = .returned (.tuple #[r.val, .int .i64 er]) ∧ Below w.heap.size w w' := by
  obtain ⟨a, c, rfl⟩ := hv.len
  obtain ⟨b0, off0, rfl, hbl0, hat0⟩ := hv.at (by rw [hxy]; simp)
  obtain ⟨d0, d1, d2⟩ := hat0 0 x0 (by rw [hxy]; rfl)
  obtain ⟨f0, f1, f2⟩ := hat0 1 y0 (by rw [hxy]; rfl)
  rw [Nat.zero_mul, Nat.add_zero] at d0 d1 d2
  rw [Nat.one_mul] at f0 f1 f2
  have HCL : Hid (ArgC b0 off0 [x0, y0] w) := ⟨d0, d1, d2, f0, f1, f2⟩
  have hl2 : bs.size = 2 := by rw [← hl, hxy]; rfl
  have HL2 := Lib.hid hl2
  clear hat0 d0 d1 d2 f0 f1 f2 hxy hl2
  have HV := Lib.hid hv
  have HW := Lib.hid hW
  have HA := Lib.hid hA
  have HI := Lib.hid hI
  have HGG := Lib.hid hG
  have HLE := Lib.hid hl
  have HK := Lib.hid hK
  have HC := Lib.hid hAct
  clear hW hA hv hI hG hK hAct
  obtain ⟨rk, ri, rt⟩ := r
  obtain ⟨xk0, xi0, xt0⟩ := x0
  obtain ⟨yk0, yi0, yt0⟩ := y0
  subst hp
  unfold Still at HK
  unfold Still at HW
  unfold Makes at HA
  unfold IsAt at HI
  unfold Hp.V.val at *
  dsimp only at HC ⊢
  rw [hl] at HA ⊢
  go_enter Try.func69, Try.ntmps69
  go_wp2_with fail
  with_reducible refine (HW.out _).mono ?_
  rintro e w1 ⟨rfl, rfl⟩
  go_wp2_with fail
  with_reducible refine (HA.out _ ((Below.refl _ _).alloc (Nat.le_refl _) _)).mono ?_
  rintro e w2 ⟨rfl, hb⟩
  have HD := Lib.hid ((DoW.first w).next hb)
  clear hb
  go_wp2_with fail
  go_loopg [39] l.length (fun gk i wx => ∃ k : Nat, k ≤ l.length ∧ gk = l.length - k ∧ i = .int .i64 k ∧ Hid (∀ j, j < k → G j = true) ∧ Hid (DoW w wx))
  case atStart => exact ⟨0, Nat.zero_le _, rfl, rfl, fun j hj => by omega, HD.out⟩
  case round =>
    obtain ⟨k, hk, rfl, rfl, HALL, HX⟩ := hrel
    by_cases hlt : k < l.length
    · obtain ⟨x, hx⟩ : ∃ x, l[k]? = some x := ⟨_, List.getElem?_eq_getElem hlt⟩
      have hne : l ≠ [] := fun e => by rw [e] at hlt; simp at hlt
      have hv2 := HV.out.below HX.out.below (Nat.le_refl _)
      rw [hl] at hv2
      obtain ⟨b, off, hbe, hbl, hat⟩ := hv2.at hne
      cases hbe
      obtain ⟨d0, d1, d2⟩ := hat k x hx
      have hks : k < bs.size := by omega
      have HIk := Lib.hid (fun w1 hb => HI.out k x hks hx w1 hb)
      obtain ⟨xk, xi, xt⟩ := x
      dsimp only at *
      have hg1 : (0 : Int) ≤ k := by omega
      have hg2 : (k : Int) < bs.size := by omega
      have hgw : IntKind.i64.wrap ((k : Int) + 1) = k + 1 := by rw [IntKind.wrap_i64]; omega
      clear hat hx hne hv2 HV
      have HS := Lib.hid (new3 wr xk xi xt)
      have hG := HGG.out k hlt
      rw [hG] at HIk
      have HGT := Lib.hid hG
      clear hG HI
      go_wp2_with fail
      go_region_held3 (fun w' => w'.cell? ⟨wr.heap.size, 0, none⟩ = some (.int .i64 xk) ∧ w'.cell? ⟨wr.heap.size, 1, none⟩ = some (.int .i64 xi) ∧ w'.cell? ⟨wr.heap.size, 2, none⟩ = some (.string xt))
        (first | exact HS.out | exact HS4.out)
        (first | (go_at_call 79; (with_reducible refine (HIk.out _ HX.out.at).mono ?_); rintro e w4 ⟨rfl, hb4⟩; have HX4 := Lib.hid (HX.out.call hb4); have HS4 : Hid (New3 wr.heap.size xk xi xt w4) := HS.out.below hb4 (drew_lt _ _); clear hb4))
      go_wp2_with fail
      go_roundg (l.length - (k + 1))
      case measure => omega
      case rel => exact ⟨k + 1, by omega, rfl, by go_num, fun j hj => (Nat.lt_or_eq_of_le (Nat.le_of_lt_succ hj)).elim (fun h => HALL.out j h) (fun h => h ▸ HGT.out), HX4.out⟩
    · obtain rfl : k = l.length := by omega
      go_wp2_with fail
      with_reducible refine (HK.out _).mono ?_
      rintro e w3 ⟨rfl, rfl⟩
      go_wp2_with fail
      have i0 : ∀ w : World, (Instr.index 143 (.agg #[.string ⟨#[43]⟩, .string ⟨#[45]⟩, .string ⟨#[42]⟩, .string ⟨#[113, 117, 111, 116, 105, 101, 110, 116]⟩, .string ⟨#[114, 101, 109, 97, 105, 110, 100, 101, 114]⟩]) (.int .i64 0)).run Try.prog w = .ok (.string ⟨#[43]⟩) w := fun _ => by kernel_rfl
      have i1 : ∀ w : World, (Instr.index 143 (.agg #[.string ⟨#[43]⟩, .string ⟨#[45]⟩, .string ⟨#[42]⟩, .string ⟨#[113, 117, 111, 116, 105, 101, 110, 116]⟩, .string ⟨#[114, 101, 109, 97, 105, 110, 100, 101, 114]⟩]) (.int .i64 1)).run Try.prog w = .ok (.string ⟨#[45]⟩) w := fun _ => by kernel_rfl
      have i2 : ∀ w : World, (Instr.index 143 (.agg #[.string ⟨#[43]⟩, .string ⟨#[45]⟩, .string ⟨#[42]⟩, .string ⟨#[113, 117, 111, 116, 105, 101, 110, 116]⟩, .string ⟨#[114, 101, 109, 97, 105, 110, 100, 101, 114]⟩]) (.int .i64 2)).run Try.prog w = .ok (.string ⟨#[42]⟩) w := fun _ => by kernel_rfl
      have i3 : ∀ w : World, (Instr.index 143 (.agg #[.string ⟨#[43]⟩, .string ⟨#[45]⟩, .string ⟨#[42]⟩, .string ⟨#[113, 117, 111, 116, 105, 101, 110, 116]⟩, .string ⟨#[114, 101, 109, 97, 105, 110, 100, 101, 114]⟩]) (.int .i64 3)).run Try.prog w = .ok (.string ⟨#[113, 117, 111, 116, 105, 101, 110, 116]⟩) w := fun _ => by kernel_rfl
      have i4 : ∀ w : World, (Instr.index 143 (.agg #[.string ⟨#[43]⟩, .string ⟨#[45]⟩, .string ⟨#[42]⟩, .string ⟨#[113, 117, 111, 116, 105, 101, 110, 116]⟩, .string ⟨#[114, 101, 109, 97, 105, 110, 100, 101, 114]⟩]) (.int .i64 4)).run Try.prog w = .ok (.string ⟨#[114, 101, 109, 97, 105, 110, 100, 101, 114]⟩) w := fun _ => by kernel_rfl
      go_loopg [84] 1 (fun gk i wx => ∃ k : Int, (k = 0 ∨ k = 1) ∧ gk = 1 - k.toNat ∧ i = .int .i64 k ∧ Hid (DoW w wx))
      case atStart => exact ⟨0, by omega, rfl, rfl, HX.out⟩
      case round =>
        obtain ⟨k, hk, rfl, rfl, HY⟩ := hrel
        rcases hk with rfl | rfl
        · go_wp2_with fail
          go_roundg 0
          case measure => decide
          case rel => exact ⟨1, by omega, rfl, rfl, HY.out⟩
        · have hg0 : (0 : Int) < bs.size := by have := HL2.out; omega
          have hg1 : (1 : Int) < bs.size := by have := HL2.out; omega
          have hg0n : 0 < bs.size := by have := HL2.out; omega
          have hg1n : 1 < bs.size := by have := HL2.out; omega
          have HS : Hid (ArgC b0 off0 [⟨xk0, xi0, xt0⟩, ⟨yk0, yi0, yt0⟩] wr.drew) := (HCL.out.below HY.out.below hbl0).same fun _ => rfl
          go_wp2_with fail
          go_region_held3 (fun w' => w'.cell? ⟨b0, off0, none⟩ = some (.int .i64 xk0) ∧ w'.cell? ⟨b0, off0 + 1, none⟩ = some (.int .i64 xi0) ∧ w'.cell? ⟨b0, off0 + 2, none⟩ = some (.string xt0) ∧ w'.cell? ⟨b0, off0 + 3, none⟩ = some (.int .i64 yk0) ∧ w'.cell? ⟨b0, off0 + 3 + 1, none⟩ = some (.int .i64 yi0) ∧ w'.cell? ⟨b0, off0 + 3 + 2, none⟩ = some (.string yt0))
            (first | exact HS.out | exact HS5.out | exact HS5.out.stored3 (by omega) _ _ _)
            (first | (go_at_call 82; (with_reducible refine (HC.out _).mono ?_); rintro e w5 ⟨rfl, hb5⟩; have HY2 := Lib.hid (HY.out.next ((Below.refl _ _).drew.trans hb5)); have HS5 : Hid (ArgC b0 off0 [⟨xk0, xi0, xt0⟩, ⟨yk0, yi0, yt0⟩] w5) := HS.out.below hb5 (Nat.lt_of_lt_of_le hbl0 HY.out.below.size); obtain ⟨q0, q1, q2, k0, k1, k2⟩ := HY2.out.cells; clear hb5))
          go_wp2_with fail
          refine bodyPost_ret (res2 rfl _ _ w.heap.size 64 _ (0, 0) rfl (three_set _ _ _ _ _ _ _ _ _ HY2.out.blk) valD valSize) rfl ?_
          exact ⟨by simp, below_three HY2.out.below (Nat.le_refl _) _ _ _⟩
set_option maxHeartbeats 2000000 in
set_option maxRecDepth 100000 in
theorem do_op2 (h : Nat) (p bs : ByteArray) (av : Value) (l : List Hp.V) (w : World) (hv : VSl w av l) (hl : l.length = bs.size) (hlm : l.length ≤ 1000) (G : Nat → Bool) (hW : Still 78 #[.string p] (.tuple #[.string bs, .bool true]))
    (hA : Makes w 50 #[.pointer (some ⟨h, 0, none⟩), av] (.bool true)) (hI : IsAt w h l bs G) (hG : ∀ k, k < l.length → G k = true) (r : Hp.V) (er : Int) (x0 y0 : Hp.V) (hxy : l = [x0, y0])
    (hK : Still 80 #[.string p] (.tuple #[.int .i64 (-1), .int .u8 0])) (hp : p = ⟨#[42]⟩)
    (hAct : ∀ w1, Calls Try.prog 82 #[.int .i64 2, x0.val, y0.val] w1 fun e w' => e = .returned (.tuple #[r.val, .int .i64 er]) ∧ Below w1.heap.size w1 w') :
    Calls Try.prog 69 #[.pointer (some ⟨h, 0, none⟩), .string p, av] w fun e w' => e = .returned (.tuple #[r.val, .int .i64 er]) ∧ Below w.heap.size w w' := by
  obtain ⟨a, c, rfl⟩ := hv.len
  obtain ⟨b0, off0, rfl, hbl0, hat0⟩ := hv.at (by rw [hxy]; simp)
  obtain ⟨d0, d1, d2⟩ := hat0 0 x0 (by rw [hxy]; rfl)
  obtain ⟨f0, f1, f2⟩ := hat0 1 y0 (by rw [hxy]; rfl)
  rw [Nat.zero_mul, Nat.add_zero] at d0 d1 d2
  rw [Nat.one_mul] at f0 f1 f2
  have HCL : Hid (ArgC b0 off0 [x0, y0] w) := ⟨d0, d1, d2, f0, f1, f2⟩
  have hl2 : bs.size = 2 := by rw [← hl, hxy]; rfl
  have HL2 := Lib.hid hl2
  clear hat0 d0 d1 d2 f0 f1 f2 hxy hl2
  have HV := Lib.hid hv
  have HW := Lib.hid hW
  have HA := Lib.hid hA
  have HI := Lib.hid hI
  have HGG := Lib.hid hG
  have HLE := Lib.hid hl
  have HK := Lib.hid hK
  have HC := Lib.hid hAct
  clear hW hA hv hI hG hK hAct
  obtain ⟨rk, ri, rt⟩ := r
  obtain ⟨xk0, xi0, xt0⟩ := x0
  obtain ⟨yk0, yi0, yt0⟩ := y0
  subst hp
  unfold Still at HK
  unfold Still at HW
  unfold Makes at HA
  unfold IsAt at HI
  unfold Hp.V.val at *
  dsimp only at HC ⊢
  rw [hl] at HA ⊢
  go_enter Try.func69, Try.ntmps69
  go_wp2_with fail
  with_reducible refine (HW.out _).mono ?_
  rintro e w1 ⟨rfl, rfl⟩
  go_wp2_with fail
  with_reducible refine (HA.out _ ((Below.refl _ _).alloc (Nat.le_refl _) _)).mono ?_
  rintro e w2 ⟨rfl, hb⟩
  have HD := Lib.hid ((DoW.first w).next hb)
  clear hb
  go_wp2_with fail
  go_loopg [39] l.length (fun gk i wx => ∃ k : Nat, k ≤ l.length ∧ gk = l.length - k ∧ i = .int .i64 k ∧ Hid (∀ j, j < k → G j = true) ∧ Hid (DoW w wx))
  case atStart => exact ⟨0, Nat.zero_le _, rfl, rfl, fun j hj => by omega, HD.out⟩
  case round =>
    obtain ⟨k, hk, rfl, rfl, HALL, HX⟩ := hrel
    by_cases hlt : k < l.length
    · obtain ⟨x, hx⟩ : ∃ x, l[k]? = some x := ⟨_, List.getElem?_eq_getElem hlt⟩
      have hne : l ≠ [] := fun e => by rw [e] at hlt; simp at hlt
      have hv2 := HV.out.below HX.out.below (Nat.le_refl _)
      rw [hl] at hv2
      obtain ⟨b, off, hbe, hbl, hat⟩ := hv2.at hne
      cases hbe
      obtain ⟨d0, d1, d2⟩ := hat k x hx
      have hks : k < bs.size := by omega
      have HIk := Lib.hid (fun w1 hb => HI.out k x hks hx w1 hb)
      obtain ⟨xk, xi, xt⟩ := x
      dsimp only at *
      have hg1 : (0 : Int) ≤ k := by omega
      have hg2 : (k : Int) < bs.size := by omega
      have hgw : IntKind.i64.wrap ((k : Int) + 1) = k + 1 := by rw [IntKind.wrap_i64]; omega
      clear hat hx hne hv2 HV
      have HS := Lib.hid (new3 wr xk xi xt)
      have hG := HGG.out k hlt
      rw [hG] at HIk
      have HGT := Lib.hid hG
      clear hG HI
      go_wp2_with fail
      go_region_held3 (fun w' => w'.cell? ⟨wr.heap.size, 0, none⟩ = some (.int .i64 xk) ∧ w'.cell? ⟨wr.heap.size, 1, none⟩ = some (.int .i64 xi) ∧ w'.cell? ⟨wr.heap.size, 2, none⟩ = some (.string xt))
        (first | exact HS.out | exact HS4.out)
        (first | (go_at_call 79; (with_reducible refine (HIk.out _ HX.out.at).mono ?_); rintro e w4 ⟨rfl, hb4⟩; have HX4 := Lib.hid (HX.out.call hb4); have HS4 : Hid (New3 wr.heap.size xk xi xt w4) := HS.out.below hb4 (drew_lt _ _); clear hb4))
      go_wp2_with fail
      go_roundg (l.length - (k + 1))
      case measure => omega
      case rel => exact ⟨k + 1, by omega, rfl, by go_num, fun j hj => (Nat.lt_or_eq_of_le (Nat.le_of_lt_succ hj)).elim (fun h => HALL.out j h) (fun h => h ▸ HGT.out), HX4.out⟩
    · obtain rfl : k = l.length := by omega
      go_wp2_with fail
      with_reducible refine (HK.out _).mono ?_
      rintro e w3 ⟨rfl, rfl⟩
      go_wp2_with fail
      have i0 : ∀ w : World, (Instr.index 143 (.agg #[.string ⟨#[43]⟩, .string ⟨#[45]⟩, .string ⟨#[42]⟩, .string ⟨#[113, 117, 111, 116, 105, 101, 110, 116]⟩, .string ⟨#[114, 101, 109, 97, 105, 110, 100, 101, 114]⟩]) (.int .i64 0)).run Try.prog w = .ok (.string ⟨#[43]⟩) w := fun _ => by kernel_rfl
      have i1 : ∀ w : World, (Instr.index 143 (.agg #[.string ⟨#[43]⟩, .string ⟨#[45]⟩, .string ⟨#[42]⟩, .string ⟨#[113, 117, 111, 116, 105, 101, 110, 116]⟩, .string ⟨#[114, 101, 109, 97, 105, 110, 100, 101, 114]⟩]) (.int .i64 1)).run Try.prog w = .ok (.string ⟨#[45]⟩) w := fun _ => by kernel_rfl
      have i2 : ∀ w : World, (Instr.index 143 (.agg #[.string ⟨#[43]⟩, .string ⟨#[45]⟩, .string ⟨#[42]⟩, .string ⟨#[113, 117, 111, 116, 105, 101, 110, 116]⟩, .string ⟨#[114, 101, 109, 97, 105, 110, 100, 101, 114]⟩]) (.int .i64 2)).run Try.prog w = .ok (.string ⟨#[42]⟩) w := fun _ => by kernel_rfl
      have i3 : ∀ w : World, (Instr.index 143 (.agg #[.string ⟨#[43]⟩, .string ⟨#[45]⟩, .string ⟨#[42]⟩, .string ⟨#[113, 117, 111, 116, 105, 101, 110, 116]⟩, .string ⟨#[114, 101, 109, 97, 105, 110, 100, 101, 114]⟩]) (.int .i64 3)).run Try.prog w = .ok (.string ⟨#[113, 117, 111, 116, 105, 101, 110, 116]⟩) w := fun _ => by kernel_rfl
      have i4 : ∀ w : World, (Instr.index 143 (.agg #[.string ⟨#[43]⟩, .string ⟨#[45]⟩, .string ⟨#[42]⟩, .string ⟨#[113, 117, 111, 116, 105, 101, 110, 116]⟩, .string ⟨#[114, 101, 109, 97, 105, 110, 100, 101, 114]⟩]) (.int .i64 4)).run Try.prog w = .ok (.string ⟨#[114, 101, 109, 97, 105, 110, 100, 101, 114]⟩) w := fun _ => by kernel_rfl
      go_loopg [84] 2 (fun gk i wx => ∃ k : Int, (k = 0 ∨ k = 1 ∨ k = 2) ∧ gk = 2 - k.toNat ∧ i = .int .i64 k ∧ Hid (DoW w wx))
      case atStart => exact ⟨0, by omega, rfl, rfl, HX.out⟩
      case round =>
        obtain ⟨k, hk, rfl, rfl, HY⟩ := hrel
        rcases hk with rfl | rfl | rfl
        · go_wp2_with fail
          go_roundg 1
          case measure => decide
          case rel => exact ⟨1, by omega, rfl, rfl, HY.out⟩
        · go_wp2_with fail
          go_roundg 0
          case measure => decide
          case rel => exact ⟨2, by omega, rfl, rfl, HY.out⟩
        · have hg0 : (0 : Int) < bs.size := by have := HL2.out; omega
          have hg1 : (1 : Int) < bs.size := by have := HL2.out; omega
          have hg0n : 0 < bs.size := by have := HL2.out; omega
          have hg1n : 1 < bs.size := by have := HL2.out; omega
          have HS : Hid (ArgC b0 off0 [⟨xk0, xi0, xt0⟩, ⟨yk0, yi0, yt0⟩] wr.drew) := (HCL.out.below HY.out.below hbl0).same fun _ => rfl
          go_wp2_with fail
          go_region_held3 (fun w' => w'.cell? ⟨b0, off0, none⟩ = some (.int .i64 xk0) ∧ w'.cell? ⟨b0, off0 + 1, none⟩ = some (.int .i64 xi0) ∧ w'.cell? ⟨b0, off0 + 2, none⟩ = some (.string xt0) ∧ w'.cell? ⟨b0, off0 + 3, none⟩ = some (.int .i64 yk0) ∧ w'.cell? ⟨b0, off0 + 3 + 1, none⟩ = some (.int .i64 yi0) ∧ w'.cell? ⟨b0, off0 + 3 + 2, none⟩ = some (.string yt0))
            (first | exact HS.out | exact HS5.out | exact HS5.out.stored3 (by omega) _ _ _)
            (first | (go_at_call 82; (with_reducible refine (HC.out _).mono ?_); rintro e w5 ⟨rfl, hb5⟩; have HY2 := Lib.hid (HY.out.next ((Below.refl _ _).drew.trans hb5)); have HS5 : Hid (ArgC b0 off0 [⟨xk0, xi0, xt0⟩, ⟨yk0, yi0, yt0⟩] w5) := HS.out.below hb5 (Nat.lt_of_lt_of_le hbl0 HY.out.below.size); obtain ⟨q0, q1, q2, k0, k1, k2⟩ := HY2.out.cells; clear hb5))
          go_wp2_with fail
          refine bodyPost_ret (res2 rfl _ _ w.heap.size 64 _ (0, 0) rfl (three_set _ _ _ _ _ _ _ _ _ HY2.out.blk) valD valSize) rfl ?_
          exact ⟨by simp, below_three HY2.out.below (Nat.le_refl _) _ _ _⟩
set_option maxHeartbeats 2000000 in
set_option maxRecDepth 100000 in
theorem do_op3 (h : Nat) (p bs : ByteArray) (av : Value) (l : List Hp.V) (w : World) (hv : VSl w av l) (hl : l.length = bs.size) (hlm : l.length ≤ 1000) (G : Nat → Bool) (hW : Still 78 #[.string p] (.tuple #[.string bs, .bool true]))
    (hA : Makes w 50 #[.pointer (some ⟨h, 0, none⟩), av] (.bool true)) (hI : IsAt w h l bs G) (hG : ∀ k, k < l.length → G k = true) (r : Hp.V) (er : Int) (x0 y0 : Hp.V) (hxy : l = [x0, y0])
    (hK : Still 80 #[.string p] (.tuple #[.int .i64 (-1), .int .u8 0])) (hp : p = ⟨#[113, 117, 111, 116, 105, 101, 110, 116]⟩)
    (hAct : ∀ w1, Calls Try.prog 82 #[.int .i64 3, x0.val, y0.val] w1 fun e w' => e = .returned (.tuple #[r.val, .int .i64 er]) ∧ Below w1.heap.size w1 w') :
    Calls Try.prog 69 #[.pointer (some ⟨h, 0, none⟩), .string p, av] w fun e w' => e = .returned (.tuple #[r.val, .int .i64 er]) ∧ Below w.heap.size w w' := by
  obtain ⟨a, c, rfl⟩ := hv.len
  obtain ⟨b0, off0, rfl, hbl0, hat0⟩ := hv.at (by rw [hxy]; simp)
  obtain ⟨d0, d1, d2⟩ := hat0 0 x0 (by rw [hxy]; rfl)
  obtain ⟨f0, f1, f2⟩ := hat0 1 y0 (by rw [hxy]; rfl)
  rw [Nat.zero_mul, Nat.add_zero] at d0 d1 d2
  rw [Nat.one_mul] at f0 f1 f2
  have HCL : Hid (ArgC b0 off0 [x0, y0] w) := ⟨d0, d1, d2, f0, f1, f2⟩
  have hl2 : bs.size = 2 := by rw [← hl, hxy]; rfl
  have HL2 := Lib.hid hl2
  clear hat0 d0 d1 d2 f0 f1 f2 hxy hl2
  have HV := Lib.hid hv
  have HW := Lib.hid hW
  have HA := Lib.hid hA
  have HI := Lib.hid hI
  have HGG := Lib.hid hG
  have HLE := Lib.hid hl
  have HK := Lib.hid hK
  have HC := Lib.hid hAct
  clear hW hA hv hI hG hK hAct
  obtain ⟨rk, ri, rt⟩ := r
  obtain ⟨xk0, xi0, xt0⟩ := x0
  obtain ⟨yk0, yi0, yt0⟩ := y0
  subst hp
  unfold Still at HK
  unfold Still at HW
  unfold Makes at HA
  unfold IsAt at HI
  unfold Hp.V.val at *
  dsimp only at HC ⊢
  rw [hl] at HA ⊢
  go_enter Try.func69, Try.ntmps69
  go_wp2_with fail
  with_reducible refine (HW.out _).mono ?_
  rintro e w1 ⟨rfl, rfl⟩
  go_wp2_with fail
  with_reducible refine (HA.out _ ((Below.refl _ _).alloc (Nat.le_refl _) _)).mono ?_
  rintro e w2 ⟨rfl, hb⟩
  have HD := Lib.hid ((DoW.first w).next hb)
  clear hb
  go_wp2_with fail
  go_loopg [39] l.length (fun gk i wx => ∃ k : Nat, k ≤ l.length ∧ gk = l.length - k ∧ i = .int .i64 k ∧ Hid (∀ j, j < k → G j = true) ∧ Hid (DoW w wx))
  case atStart => exact ⟨0, Nat.zero_le _, rfl, rfl, fun j hj => by omega, HD.out⟩
  case round =>
    obtain ⟨k, hk, rfl, rfl, HALL, HX⟩ := hrel
    by_cases hlt : k < l.length
    · obtain ⟨x, hx⟩ : ∃ x, l[k]? = some x := ⟨_, List.getElem?_eq_getElem hlt⟩
      have hne : l ≠ [] := fun e => by rw [e] at hlt; simp at hlt
      have hv2 := HV.out.below HX.out.below (Nat.le_refl _)
      rw [hl] at hv2
      obtain ⟨b, off, hbe, hbl, hat⟩ := hv2.at hne
      cases hbe
      obtain ⟨d0, d1, d2⟩ := hat k x hx
      have hks : k < bs.size := by omega
      have HIk := Lib.hid (fun w1 hb => HI.out k x hks hx w1 hb)
      obtain ⟨xk, xi, xt⟩ := x
      dsimp only at *
      have hg1 : (0 : Int) ≤ k := by omega
      have hg2 : (k : Int) < bs.size := by omega
      have hgw : IntKind.i64.wrap ((k : Int) + 1) = k + 1 := by rw [IntKind.wrap_i64]; omega
      clear hat hx hne hv2 HV
      have HS := Lib.hid (new3 wr xk xi xt)
      have hG := HGG.out k hlt
      rw [hG] at HIk
      have HGT := Lib.hid hG
      clear hG HI
      go_wp2_with fail
      go_region_held3 (fun w' => w'.cell? ⟨wr.heap.size, 0, none⟩ = some (.int .i64 xk) ∧ w'.cell? ⟨wr.heap.size, 1, none⟩ = some (.int .i64 xi) ∧ w'.cell? ⟨wr.heap.size, 2, none⟩ = some (.string xt))
        (first | exact HS.out | exact HS4.out)
        (first | (go_at_call 79; (with_reducible refine (HIk.out _ HX.out.at).mono ?_); rintro e w4 ⟨rfl, hb4⟩; have HX4 := Lib.hid (HX.out.call hb4); have HS4 : Hid (New3 wr.heap.size xk xi xt w4) := HS.out.below hb4 (drew_lt _ _); clear hb4))
      go_wp2_with fail
      go_roundg (l.length - (k + 1))
      case measure => omega
      case rel => exact ⟨k + 1, by omega, rfl, by go_num, fun j hj => (Nat.lt_or_eq_of_le (Nat.le_of_lt_succ hj)).elim (fun h => HALL.out j h) (fun h => h ▸ HGT.out), HX4.out⟩
    · obtain rfl : k = l.length := by omega
      go_wp2_with fail
      with_reducible refine (HK.out _).mono ?_
      rintro e w3 ⟨rfl, rfl⟩
      go_wp2_with fail
      have i0 : ∀ w : World, (Instr.index 143 (.agg #[.string ⟨#[43]⟩, .string ⟨#[45]⟩, .string ⟨#[42]⟩, .string ⟨#[113, 117, 111, 116, 105, 101, 110, 116]⟩, .string ⟨#[114, 101, 109, 97, 105, 110, 100, 101, 114]⟩]) (.int .i64 0)).run Try.prog w = .ok (.string ⟨#[43]⟩) w := fun _ => by kernel_rfl
      have i1 : ∀ w : World, (Instr.index 143 (.agg #[.string ⟨#[43]⟩, .string ⟨#[45]⟩, .string ⟨#[42]⟩, .string ⟨#[113, 117, 111, 116, 105, 101, 110, 116]⟩, .string ⟨#[114, 101, 109, 97, 105, 110, 100, 101, 114]⟩]) (.int .i64 1)).run Try.prog w = .ok (.string ⟨#[45]⟩) w := fun _ => by kernel_rfl
      have i2 : ∀ w : World, (Instr.index 143 (.agg #[.string ⟨#[43]⟩, .string ⟨#[45]⟩, .string ⟨#[42]⟩, .string ⟨#[113, 117, 111, 116, 105, 101, 110, 116]⟩, .string ⟨#[114, 101, 109, 97, 105, 110, 100, 101, 114]⟩]) (.int .i64 2)).run Try.prog w = .ok (.string ⟨#[42]⟩) w := fun _ => by kernel_rfl
      have i3 : ∀ w : World, (Instr.index 143 (.agg #[.string ⟨#[43]⟩, .string ⟨#[45]⟩, .string ⟨#[42]⟩, .string ⟨#[113, 117, 111, 116, 105, 101, 110, 116]⟩, .string ⟨#[114, 101, 109, 97, 105, 110, 100, 101, 114]⟩]) (.int .i64 3)).run Try.prog w = .ok (.string ⟨#[113, 117, 111, 116, 105, 101, 110, 116]⟩) w := fun _ => by kernel_rfl
      have i4 : ∀ w : World, (Instr.index 143 (.agg #[.string ⟨#[43]⟩, .string ⟨#[45]⟩, .string ⟨#[42]⟩, .string ⟨#[113, 117, 111, 116, 105, 101, 110, 116]⟩, .string ⟨#[114, 101, 109, 97, 105, 110, 100, 101, 114]⟩]) (.int .i64 4)).run Try.prog w = .ok (.string ⟨#[114, 101, 109, 97, 105, 110, 100, 101, 114]⟩) w := fun _ => by kernel_rfl
      go_loopg [84] 3 (fun gk i wx => ∃ k : Int, (k = 0 ∨ k = 1 ∨ k = 2 ∨ k = 3) ∧ gk = 3 - k.toNat ∧ i = .int .i64 k ∧ Hid (DoW w wx))
      case atStart => exact ⟨0, by omega, rfl, rfl, HX.out⟩
      case round =>
        obtain ⟨k, hk, rfl, rfl, HY⟩ := hrel
        rcases hk with rfl | rfl | rfl | rfl
        · go_wp2_with fail
          go_roundg 2
          case measure => decide
          case rel => exact ⟨1, by omega, rfl, rfl, HY.out⟩
        · go_wp2_with fail
          go_roundg 1
          case measure => decide
          case rel => exact ⟨2, by omega, rfl, rfl, HY.out⟩
        · go_wp2_with fail
          go_roundg 0
          case measure => decide
          case rel => exact ⟨3, by omega, rfl, rfl, HY.out⟩
        · have hg0 : (0 : Int) < bs.size := by have := HL2.out; omega
          have hg1 : (1 : Int) < bs.size := by have := HL2.out; omega
          have hg0n : 0 < bs.size := by have := HL2.out; omega
          have hg1n : 1 < bs.size := by have := HL2.out; omega
          have HS : Hid (ArgC b0 off0 [⟨xk0, xi0, xt0⟩, ⟨yk0, yi0, yt0⟩] wr.drew) := (HCL.out.below HY.out.below hbl0).same fun _ => rfl
          go_wp2_with fail
          go_region_held3 (fun w' => w'.cell? ⟨b0, off0, none⟩ = some (.int .i64 xk0) ∧ w'.cell? ⟨b0, off0 + 1, none⟩ = some (.int .i64 xi0) ∧ w'.cell? ⟨b0, off0 + 2, none⟩ = some (.string xt0) ∧ w'.cell? ⟨b0, off0 + 3, none⟩ = some (.int .i64 yk0) ∧ w'.cell? ⟨b0, off0 + 3 + 1, none⟩ = some (.int .i64 yi0) ∧ w'.cell? ⟨b0, off0 + 3 + 2, none⟩ = some (.string yt0))
            (first | exact HS.out | exact HS5.out | exact HS5.out.stored3 (by omega) _ _ _)
            (first | (go_at_call 82; (with_reducible refine (HC.out _).mono ?_); rintro e w5 ⟨rfl, hb5⟩; have HY2 := Lib.hid (HY.out.next ((Below.refl _ _).drew.trans hb5)); have HS5 : Hid (ArgC b0 off0 [⟨xk0, xi0, xt0⟩, ⟨yk0, yi0, yt0⟩] w5) := HS.out.below hb5 (Nat.lt_of_lt_of_le hbl0 HY.out.below.size); obtain ⟨q0, q1, q2, k0, k1, k2⟩ := HY2.out.cells; clear hb5))
          go_wp2_with fail
          refine bodyPost_ret (res2 rfl _ _ w.heap.size 64 _ (0, 0) rfl (three_set _ _ _ _ _ _ _ _ _ HY2.out.blk) valD valSize) rfl ?_
          exact ⟨by simp, below_three HY2.out.below (Nat.le_refl _) _ _ _⟩
set_option maxHeartbeats 2000000 in
set_option maxRecDepth 100000 in
theorem do_op4 (h : Nat) (p bs : ByteArray) (av : Value) (l : List Hp.V) (w : World) (hv : VSl w av l) (hl : l.length = bs.size) (hlm : l.length ≤ 1000) (G : Nat → Bool) (hW : Still 78 #[.string p] (.tuple #[.string bs, .bool true]))
    (hA : Makes w 50 #[.pointer (some ⟨h, 0, none⟩), av] (.bool true)) (hI : IsAt w h l bs G) (hG : ∀ k, k < l.length → G k = true) (r : Hp.V) (er : Int) (x0 y0 : Hp.V) (hxy : l = [x0, y0])
    (hK : Still 80 #[.string p] (.tuple #[.int .i64 (-1), .int .u8 0])) (hp : p = ⟨#[114, 101, 109, 97, 105, 110, 100, 101, 114]⟩)
    (hAct : ∀ w1, Calls Try.prog 82 #[.int .i64 4, x0.val, y0.val] w1 fun e w' => e = .returned (.tuple #[r.val, .int .i64 er]) ∧ Below w1.heap.size w1 w') :
    Calls Try.prog 69 #[.pointer (some ⟨h, 0, none⟩), .string p, av] w fun e w' => e = .returned (.tuple #[r.val, .int .i64 er]) ∧ Below w.heap.size w w' := by
  obtain ⟨a, c, rfl⟩ := hv.len
  obtain ⟨b0, off0, rfl, hbl0, hat0⟩ := hv.at (by rw [hxy]; simp)
  obtain ⟨d0, d1, d2⟩ := hat0 0 x0 (by rw [hxy]; rfl)
  obtain ⟨f0, f1, f2⟩ := hat0 1 y0 (by rw [hxy]; rfl)
  rw [Nat.zero_mul, Nat.add_zero] at d0 d1 d2
  rw [Nat.one_mul] at f0 f1 f2
  have HCL : Hid (ArgC b0 off0 [x0, y0] w) := ⟨d0, d1, d2, f0, f1, f2⟩
  have hl2 : bs.size = 2 := by rw [← hl, hxy]; rfl
  have HL2 := Lib.hid hl2
  clear hat0 d0 d1 d2 f0 f1 f2 hxy hl2
  have HV := Lib.hid hv
  have HW := Lib.hid hW
  have HA := Lib.hid hA
  have HI := Lib.hid hI
  have HGG := Lib.hid hG
  have HLE := Lib.hid hl
  have HK := Lib.hid hK
  have HC := Lib.hid hAct
  clear hW hA hv hI hG hK hAct
  obtain ⟨rk, ri, rt⟩ := r
  obtain ⟨xk0, xi0, xt0⟩ := x0
  obtain ⟨yk0, yi0, yt0⟩ := y0
  subst hp
  unfold Still at HK
  unfold Still at HW
  unfold Makes at HA
  unfold IsAt at HI
  unfold Hp.V.val at *
  dsimp only at HC ⊢
  rw [hl] at HA ⊢
  go_enter Try.func69, Try.ntmps69
  go_wp2_with fail
  with_reducible refine (HW.out _).mono ?_
  rintro e w1 ⟨rfl, rfl⟩
  go_wp2_with fail
  with_reducible refine (HA.out _ ((Below.refl _ _).alloc (Nat.le_refl _) _)).mono ?_
  rintro e w2 ⟨rfl, hb⟩
  have HD := Lib.hid ((DoW.first w).next hb)
  clear hb
  go_wp2_with fail
  go_loopg [39] l.length (fun gk i wx => ∃ k : Nat, k ≤ l.length ∧ gk = l.length - k ∧ i = .int .i64 k ∧ Hid (∀ j, j < k → G j = true) ∧ Hid (DoW w wx))
  case atStart => exact ⟨0, Nat.zero_le _, rfl, rfl, fun j hj => by omega, HD.out⟩
  case round =>
    obtain ⟨k, hk, rfl, rfl, HALL, HX⟩ := hrel
    by_cases hlt : k < l.length
    · obtain ⟨x, hx⟩ : ∃ x, l[k]? = some x := ⟨_, List.getElem?_eq_getElem hlt⟩
      have hne : l ≠ [] := fun e => by rw [e] at hlt; simp at hlt
      have hv2 := HV.out.below HX.out.below (Nat.le_refl _)
      rw [hl] at hv2
      obtain ⟨b, off, hbe, hbl, hat⟩ := hv2.at hne
      cases hbe
      obtain ⟨d0, d1, d2⟩ := hat k x hx
      have hks : k < bs.size := by omega
      have HIk := Lib.hid (fun w1 hb => HI.out k x hks hx w1 hb)
      obtain ⟨xk, xi, xt⟩ := x
      dsimp only at *
      have hg1 : (0 : Int) ≤ k := by omega
      have hg2 : (k : Int) < bs.size := by omega
      have hgw : IntKind.i64.wrap ((k : Int) + 1) = k + 1 := by rw [IntKind.wrap_i64]; omega
      clear hat hx hne hv2 HV
      have HS := Lib.hid (new3 wr xk xi xt)
      have hG := HGG.out k hlt
      rw [hG] at HIk
      have HGT := Lib.hid hG
      clear hG HI
      go_wp2_with fail
      go_region_held3 (fun w' => w'.cell? ⟨wr.heap.size, 0, none⟩ = some (.int .i64 xk) ∧ w'.cell? ⟨wr.heap.size, 1, none⟩ = some (.int .i64 xi) ∧ w'.cell? ⟨wr.heap.size, 2, none⟩ = some (.string xt))
        (first | exact HS.out | exact HS4.out)
        (first | (go_at_call 79; (with_reducible refine (HIk.out _ HX.out.at).mono ?_); rintro e w4 ⟨rfl, hb4⟩; have HX4 := Lib.hid (HX.out.call hb4); have HS4 : Hid (New3 wr.heap.size xk xi xt w4) := HS.out.below hb4 (drew_lt _ _); clear hb4))
      go_wp2_with fail
      go_roundg (l.length - (k + 1))
      case measure => omega
      case rel => exact ⟨k + 1, by omega, rfl, by go_num, fun j hj => (Nat.lt_or_eq_of_le (Nat.le_of_lt_succ hj)).elim (fun h => HALL.out j h) (fun h => h ▸ HGT.out), HX4.out⟩
    · obtain rfl : k = l.length := by omega
      go_wp2_with fail
      with_reducible refine (HK.out _).mono ?_
      rintro e w3 ⟨rfl, rfl⟩
      go_wp2_with fail
      have i0 : ∀ w : World, (Instr.index 143 (.agg #[.string ⟨#[43]⟩, .string ⟨#[45]⟩, .string ⟨#[42]⟩, .string ⟨#[113, 117, 111, 116, 105, 101, 110, 116]⟩, .string ⟨#[114, 101, 109, 97, 105, 110, 100, 101, 114]⟩]) (.int .i64 0)).run Try.prog w = .ok (.string ⟨#[43]⟩) w := fun _ => by kernel_rfl
      have i1 : ∀ w : World, (Instr.index 143 (.agg #[.string ⟨#[43]⟩, .string ⟨#[45]⟩, .string ⟨#[42]⟩, .string ⟨#[113, 117, 111, 116, 105, 101, 110, 116]⟩, .string ⟨#[114, 101, 109, 97, 105, 110, 100, 101, 114]⟩]) (.int .i64 1)).run Try.prog w = .ok (.string ⟨#[45]⟩) w := fun _ => by kernel_rfl
      have i2 : ∀ w : World, (Instr.index 143 (.agg #[.string ⟨#[43]⟩, .string ⟨#[45]⟩, .string ⟨#[42]⟩, .string ⟨#[113, 117, 111, 116, 105, 101, 110, 116]⟩, .string ⟨#[114, 101, 109, 97, 105, 110, 100, 101, 114]⟩]) (.int .i64 2)).run Try.prog w = .ok (.string ⟨#[42]⟩) w := fun _ => by kernel_rfl
      have i3 : ∀ w : World, (Instr.index 143 (.agg #[.string ⟨#[43]⟩, .string ⟨#[45]⟩, .string ⟨#[42]⟩, .string ⟨#[113, 117, 111, 116, 105, 101, 110, 116]⟩, .string ⟨#[114, 101, 109, 97, 105, 110, 100, 101, 114]⟩]) (.int .i64 3)).run Try.prog w = .ok (.string ⟨#[113, 117, 111, 116, 105, 101, 110, 116]⟩) w := fun _ => by kernel_rfl
      have i4 : ∀ w : World, (Instr.index 143 (.agg #[.string ⟨#[43]⟩, .string ⟨#[45]⟩, .string ⟨#[42]⟩, .string ⟨#[113, 117, 111, 116, 105, 101, 110, 116]⟩, .string ⟨#[114, 101, 109, 97, 105, 110, 100, 101, 114]⟩]) (.int .i64 4)).run Try.prog w = .ok (.string ⟨#[114, 101, 109, 97, 105, 110, 100, 101, 114]⟩) w := fun _ => by kernel_rfl
      go_loopg [84] 4 (fun gk i wx => ∃ k : Int, (k = 0 ∨ k = 1 ∨ k = 2 ∨ k = 3 ∨ k = 4) ∧ gk = 4 - k.toNat ∧ i = .int .i64 k ∧ Hid (DoW w wx))
      case atStart => exact ⟨0, by omega, rfl, rfl, HX.out⟩
      case round =>
        obtain ⟨k, hk, rfl, rfl, HY⟩ := hrel
        rcases hk with rfl | rfl | rfl | rfl | rfl
        · go_wp2_with fail
          go_roundg 3
          case measure => decide
          case rel => exact ⟨1, by omega, rfl, rfl, HY.out⟩
        · go_wp2_with fail
          go_roundg 2
          case measure => decide
          case rel => exact ⟨2, by omega, rfl, rfl, HY.out⟩
        · go_wp2_with fail
          go_roundg 1
          case measure => decide
          case rel => exact ⟨3, by omega, rfl, rfl, HY.out⟩
        · go_wp2_with fail
          go_roundg 0
          case measure => decide
          case rel => exact ⟨4, by omega, rfl, rfl, HY.out⟩
        · have hg0 : (0 : Int) < bs.size := by have := HL2.out; omega
          have hg1 : (1 : Int) < bs.size := by have := HL2.out; omega
          have hg0n : 0 < bs.size := by have := HL2.out; omega
          have hg1n : 1 < bs.size := by have := HL2.out; omega
          have HS : Hid (ArgC b0 off0 [⟨xk0, xi0, xt0⟩, ⟨yk0, yi0, yt0⟩] wr.drew) := (HCL.out.below HY.out.below hbl0).same fun _ => rfl
          go_wp2_with fail
          go_region_held3 (fun w' => w'.cell? ⟨b0, off0, none⟩ = some (.int .i64 xk0) ∧ w'.cell? ⟨b0, off0 + 1, none⟩ = some (.int .i64 xi0) ∧ w'.cell? ⟨b0, off0 + 2, none⟩ = some (.string xt0) ∧ w'.cell? ⟨b0, off0 + 3, none⟩ = some (.int .i64 yk0) ∧ w'.cell? ⟨b0, off0 + 3 + 1, none⟩ = some (.int .i64 yi0) ∧ w'.cell? ⟨b0, off0 + 3 + 2, none⟩ = some (.string yt0))
            (first | exact HS.out | exact HS5.out | exact HS5.out.stored3 (by omega) _ _ _)
            (first | (go_at_call 82; (with_reducible refine (HC.out _).mono ?_); rintro e w5 ⟨rfl, hb5⟩; have HY2 := Lib.hid (HY.out.next ((Below.refl _ _).drew.trans hb5)); have HS5 : Hid (ArgC b0 off0 [⟨xk0, xi0, xt0⟩, ⟨yk0, yi0, yt0⟩] w5) := HS.out.below hb5 (Nat.lt_of_lt_of_le hbl0 HY.out.below.size); obtain ⟨q0, q1, q2, k0, k1, k2⟩ := HY2.out.cells; clear hb5))
          go_wp2_with fail
          refine bodyPost_ret (res2 rfl _ _ w.heap.size 64 _ (0, 0) rfl (three_set _ _ _ _ _ _ _ _ _ HY2.out.blk) valD valSize) rfl ?_
          exact ⟨by simp, below_three HY2.out.below (Nat.le_refl _) _ _ _⟩
end Go.Proofs.Ytalfnaielhbocaa
