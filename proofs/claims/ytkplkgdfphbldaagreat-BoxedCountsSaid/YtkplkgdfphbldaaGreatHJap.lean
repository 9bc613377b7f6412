/- A thing more; a part put. -/
import Derived.OneCell
import Derived.Deep.Onto
import Derived.Test.YtkplkgdfphbldaaGreatHJal
namespace Go.Proofs.YtkplkgdfphbldaaGreat
open Go.RowKit
set_option linter.unusedVariables false
set_option linter.unusedSimpArgs false
set_option linter.unnecessarySimpa false
set_option maxRecDepth 100000
structure GrowB (B : Nat) (O O' : Nat → Prop) (w w' : World) : Prop where
 os : w'.os = w.os
 tape : w'.tape = w.tape
 output : w'.output = w.output
 size : w.heap.size ≤ w'.heap.size
 block : ∀ b, b < w.heap.size → ¬ O b → w'.heap[b]? = w.heap[b]?
 own : ∀ b, O' b → O b ∨ B ≤ b
section
variable {w : World} {ty h : Nat} {O : Nat → Prop} {vt : Value} {M : List (Hp.Th × Value)} {T : List Hp.Th}
theorem HpAt.apartAt (H : HpAt w ty h O vt M) {i k : Nat} {a b : Hp.Th × Value} (ha : M[i]? = some a) (hb : M[k]? = some b) (hne : i ≠ k) : ∀ q, a.2.ownBlock = some q → b.2.ownBlock ≠ some q := by
 have hp := List.pairwise_iff_getElem.1 H.apart
 obtain ⟨hi, rfl⟩ := List.getElem?_eq_some_iff.1 ha
 obtain ⟨hk, rfl⟩ := List.getElem?_eq_some_iff.1 hb
 intro q h1 h2
 rcases Nat.lt_or_ge i k with hl | hl
 ·exact hp i k hi hk hl q h1 h2
 ·exact hp k i hk hi (by omega) q h2 h1
theorem Hp.thC_map (M N : List (Hp.Th × Value)) (h : M.map (fun m => (m.1.kind, m.2)) = N.map (fun m => (m.1.kind, m.2))) : Hp.thC M = Hp.thC N := by
 have key : ∀ M : List (Hp.Th × Value), Hp.thC M = (M.map (fun m => (m.1.kind, m.2))).flatMap fun q => [.int .i64 q.1, q.2] := fun M => by
  simp [Hp.thC, List.flatMap_map]
 rw [key, key, h]
theorem map_set_same {α β : Type} (f : α → β) (M : List α) (i : Nat) (m x : α) (hm : M[i]? = some m) (hf : f x = f m) : (M.set i x).map f = M.map f := by
 rw [List.map_set, hf]
 apply List.ext_getElem?
 intro k
 rw [List.getElem?_set]
 split
 ·rename_i e
  subst e
  rw [List.getElem?_map, hm]
  have := (List.getElem?_eq_some_iff.1 hm).1
  simp [this]
 ·rfl
theorem HpAt.upd {w' : World} (H : HpAt w ty h O vt M) {i : Nat} {m : Hp.Th × Value} (hm : M[i]? = some m) {l : List Hp.V} {q : Nat} (hq : m.2.ownBlock = some q) (hg : w.grownBy w' (some q)) (hown : w'.ownsRow 0 78 3 m.2 l.length (Hp.flatV l)) :
  HpAt w' ty h O vt (M.set i (⟨m.1.kind, l⟩, m.2)) := by
 have hmem := List.mem_of_getElem? hm
 have hnh := H.nh m hmem
 have hnr := H.nr m hmem q hq
 have hO := H.own.2.2 m hmem
 have hkeep : ∀ b, b < w.heap.size → b ≠ q → w'.heap[b]? = w.heap[b]? := fun b hb hne => hg.block b hb (fun e => hne (by cases e; rfl))
 have hx : ∀ x ∈ M.set i (⟨m.1.kind, l⟩, m.2), x = (⟨m.1.kind, l⟩, m.2) ∨ ∃ k, k ≠ i ∧ M[k]? = some x := by
  intro x hx
  obtain ⟨k, hk⟩ := List.mem_iff_getElem?.1 hx
  rw [List.getElem?_set] at hk
  split at hk
  ·split at hk
   ·exact .inl (by simpa using hk.symm)
   ·cases hk
  ·exact .inr ⟨k, fun e => by omega, hk⟩
 have hy : ∀ x ∈ M.set i (⟨m.1.kind, l⟩, m.2), ∃ y ∈ M, y.2 = x.2 := fun x h => by
  rcases hx x h with rfl | ⟨k, _, hk⟩
  ·exact ⟨m, hmem, rfl⟩
  ·exact ⟨x, List.mem_of_getElem? hk, rfl⟩
 refine ⟨?_, ?_, fun x h => ?_, H.ne, fun x h => ?_, fun x h => ?_, ?_, ⟨H.own.1, H.own.2.1, fun x h => ?_⟩, fun b hb => Nat.lt_of_lt_of_le (H.lt b hb) hg.size⟩
 ·rw [hkeep h H.lth (fun e => hnh (by rw [hq, e]))]
  exact H.blk
 ·rw [Hp.thC_map _ M (map_set_same (fun m : Hp.Th × Value => (m.1.kind, m.2)) M i m (⟨m.1.kind, l⟩, m.2) hm rfl), List.length_set]
  exact own_same H.row fun b e => hkeep b (H.row.lt b e).2 (fun e2 => hnr (by rw [e, e2]))
 ·rcases hx x h with rfl | ⟨k, hk, hM⟩
  ·exact hown
  ·have hxM := List.mem_of_getElem? hM
   have hp := H.parts x hxM
   exact own_same hp fun b e => hkeep b (hp.lt b e).2 (fun e2 => H.apartAt hm hM (Ne.symm hk) q hq (by rw [e, e2]))
 ·obtain ⟨y, h1, h2⟩ := hy x h
  rw [← h2]; exact H.nh y h1
 ·obtain ⟨y, h1, h2⟩ := hy x h
  rw [← h2]; exact H.nr y h1
 ·have e : ((M.set i (⟨m.1.kind, l⟩, m.2)).map (·.2)).Pairwise (fun a b => ∀ k, a.ownBlock = some k → b.ownBlock ≠ some k) := by
   rw [map_set_same (fun m : Hp.Th × Value => m.2) M i m (⟨m.1.kind, l⟩, m.2) hm rfl, List.pairwise_map]
   exact H.apart
  rwa [List.pairwise_map] at e
 ·obtain ⟨y, h1, h2⟩ := hy x h
  rw [← h2]; exact H.own.2.2 y h1
theorem Hp.flatV_set : ∀ (l : List Hp.V) (j : Nat) (v : Hp.V), j < l.length → ((((Hp.flatV l).set (j * 3) (.int .i64 v.kind)).set (j * 3 + 1) (.int .i64 v.int)).set (j * 3 + 2) (.string v.text)) = Hp.flatV (l.set j v)
 | [], j, v, h => by simp at h
 | x :: l, 0, v, h => rfl
 | x :: l, j + 1, v, h => by
  have e : ∀ (y : Hp.V) (l : List Hp.V), Hp.flatV (y :: l) = .int .i64 y.kind :: .int .i64 y.int :: .string y.text :: Hp.flatV l := fun _ _ => rfl
  have ih := Hp.flatV_set l j v (by simpa using h)
  rw [List.set_cons_succ, e, e, ← ih, show (j + 1) * 3 = j * 3 + 1 + 1 + 1 by omega]
  simp only [List.set_cons_succ]
theorem HpAt.put (H : HpAt w ty h O vt M) {i : Nat} {m : Hp.Th × Value} (hm : M[i]? = some m) {j g c : Nat} (hj : j < m.1.parts.length) (hs : m.2 = .slice (some ⟨g, 0, none⟩) m.1.parts.length c) (v : Hp.V) :
  HpAt (((w.setCell ⟨g, j * 3, none⟩ (.int .i64 v.kind)).setCell ⟨g, j * 3 + 1, none⟩ (.int .i64 v.int)).setCell ⟨g, j * 3 + 2, none⟩ (.string v.text)) ty h O vt (M.set i (⟨m.1.kind, m.1.parts.set j v⟩, m.2)) ∧
  w.grownBy (((w.setCell ⟨g, j * 3, none⟩ (.int .i64 v.kind)).setCell ⟨g, j * 3 + 1, none⟩ (.int .i64 v.int)).setCell ⟨g, j * 3 + 2, none⟩ (.string v.text)) (some g) ∧ O g := by
 have hmem := List.mem_of_getElem? hm
 have hp := H.parts m hmem
 rw [hs] at hp
 obtain ⟨p1, g1⟩ := hp.stored (j * 3) (.int .i64 v.kind)
 obtain ⟨p2, g2⟩ := p1.stored (j * 3 + 1) (.int .i64 v.int)
 obtain ⟨p3, g3⟩ := p2.stored (j * 3 + 2) (.string v.text)
 rw [Hp.flatV_set _ j v hj] at p3
 have hgg : w.grownBy (((w.setCell ⟨g, j * 3, none⟩ (.int .i64 v.kind)).setCell ⟨g, j * 3 + 1, none⟩ (.int .i64 v.int)).setCell ⟨g, j * 3 + 2, none⟩ (.string v.text)) (some g) :=
  ⟨rfl, rfl, rfl, by simp [World.setCell], fun k hk hne => ((g3.block k (by simpa [World.setCell] using hk) hne).trans (g2.block k (by simpa [World.setCell] using hk) hne)).trans (g1.block k hk hne)⟩
 refine ⟨?_, hgg, H.own.2.2 m hmem g (by rw [hs]; rfl)⟩
 refine H.upd hm (by rw [hs]; rfl) hgg ?_
 rw [hs, List.length_set]
 exact p3
theorem HpAt.push {w1 : World} (H : HpAt w ty h O vt M) {t : Hp.Th} {pv : Value} {B : Nat} (hp : w.ownsRow B 78 3 pv t.parts.length (Hp.flatV t.parts)) (hB : ∀ b, O b → b < B) (hBw : B ≤ w.heap.size) {g cap : Nat}
  (hown : w1.ownsRow 0 128 2 (.slice (some ⟨g, 0, none⟩) (M.length + 1) cap) (M.length + 1) (Hp.thC M ++ [.int .i64 t.kind, pv])) (hg : w.grownBy w1 vt.ownBlock) (hl : vt.ownBlock = some g ∨ g = w.heap.size) (hlt : g < w1.heap.size) :
  HpAt (w1.setCell ⟨h, 0, none⟩ (.slice (some ⟨g, 0, none⟩) (M.length + 1) cap)) ty h (fun b => O b ∨ b = g ∨ pv.ownBlock = some b) (.slice (some ⟨g, 0, none⟩) (M.length + 1) cap) (M ++ [(t, pv)]) ∧ GrowB B O (fun b => O b ∨ b = g ∨ pv.ownBlock = some b) w (w1.setCell ⟨h, 0, none⟩ (.slice (some ⟨g, 0, none⟩) (M.length + 1) cap)) := by
 have hO0 := H.own
 have hgh : g ≠ h := by
  rcases hl with e | e
  ·exact fun e2 => H.ne (by rw [e, e2])
  ·have := H.lth; omega
 have hpg : ∀ m ∈ M, ∀ b, m.2.ownBlock = some b → b ≠ g := by
  intro m hm b e e2
  subst e2
  rcases hl with e3 | e3
  ·exact H.nr m hm b e e3
  ·have := ((H.parts m hm).lt b e).2; omega
 have hpvlt : ∀ b, pv.ownBlock = some b → B ≤ b ∧ b < w.heap.size := fun b e => hp.lt b e
 have hpvO : ∀ b, pv.ownBlock = some b → ¬ O b := fun b e ho => by have := hB b ho; have := (hpvlt b e).1; omega
 have hpvg : ∀ b, pv.ownBlock = some b → b ≠ g := fun b e e2 => by
  subst e2
  rcases hl with e3 | e3
  ·exact hpvO b e (hO0.2.1 b e3)
  ·have := (hpvlt b e).2; omega
 have hk1 : ∀ b, b < w.heap.size → vt.ownBlock ≠ some b → w1.heap[b]? = w.heap[b]? := fun b hb hne => hg.block b hb (fun e => hne e.symm)
 have hk2 : ∀ b, b ≠ h → (w1.setCell ⟨h, 0, none⟩ (.slice (some ⟨g, 0, none⟩) (M.length + 1) cap)).heap[b]? = w1.heap[b]? := fun b hb => heap_setCell_other _ _ _ _ hb
 have hs1 : (w1.setCell ⟨h, 0, none⟩ (.slice (some ⟨g, 0, none⟩) (M.length + 1) cap)).heap.size = w1.heap.size := by simp [World.setCell]
 refine ⟨⟨?_, ?_, ?_, ?_, ?_, ?_, ?_, ⟨.inl hO0.1, ?_, ?_⟩, ?_⟩, ⟨hg.os, hg.tape, hg.output, by rw [hs1]; exact hg.size, ?_, ?_⟩⟩
 ·have e : w1.heap[h]? = some (.cells #[vt] ty (0, 0)) := (hk1 h H.lth H.ne).trans H.blk
  rw [heap_setCell_same w1 h 0 _ _ _ e]
  rfl
 ·rw [Hp.thC_append, List.length_append]
  exact ownsRow_setCell_other hown (by simp [Value.ownBlock]; exact hgh) _
 ·intro m hm
  rw [List.mem_append, List.mem_singleton] at hm
  rcases hm with hm | rfl
  ·have hq := H.parts m hm
   refine own_same hq fun b e => ?_
   rw [hk2 b (fun e2 => H.nh m hm (by rw [e, e2])), hk1 b (hq.lt b e).2 (H.nr m hm b e)]
  ·refine own_same (hp.mono (Nat.zero_le _)) fun b e => ?_
   rw [hk2 b (fun e2 => hpvO b e (by rw [e2]; exact hO0.1)), hk1 b (hpvlt b e).2 (fun e2 => hpvO b e (hO0.2.1 b e2))]
 ·simp [Value.ownBlock]; exact hgh
 ·intro m hm
  rw [List.mem_append, List.mem_singleton] at hm
  rcases hm with hm | rfl
  ·exact H.nh m hm
  ·exact fun e => hpvO h e hO0.1
 ·intro m hm b e
  rw [List.mem_append, List.mem_singleton] at hm
  have : b ≠ g := by
   rcases hm with hm | rfl
   ·exact hpg m hm b e
   ·exact hpvg b e
  simp [Value.ownBlock]
  exact fun e => this e.symm
 ·rw [List.pairwise_append]
  refine ⟨H.apart, List.pairwise_singleton _ _, ?_⟩
  intro a ha b hb k e1 e2
  rw [List.mem_singleton] at hb
  subst hb
  exact hpvO k e2 (hO0.2.2 a ha k e1)
 ·intro b e
  simp [Value.ownBlock] at e
  exact .inr (.inl e.symm)
 ·intro m hm b e
  rw [List.mem_append, List.mem_singleton] at hm
  rcases hm with hm | rfl
  ·exact .inl (hO0.2.2 m hm b e)
  ·exact .inr (.inr e)
 ·intro b hb
  rw [hs1]
  rcases hb with hb | rfl | hb
  ·exact Nat.lt_of_lt_of_le (H.lt b hb) hg.size
  ·exact hlt
  ·exact Nat.lt_of_lt_of_le (hpvlt b hb).2 hg.size
 ·intro b hb ho
  rw [hk2 b (fun e => ho (by rw [e]; exact hO0.1)), hk1 b hb (fun e => ho (hO0.2.1 b e))]
 ·intro b hb
  rcases hb with hb | rfl | hb
  ·exact .inl hb
  ·rcases hl with e | e
   ·exact .inl (hO0.2.1 b e)
   ·exact .inr (by omega)
  ·exact .inr (hpvlt b hb).1
end
end Go.Proofs.YtkplkgdfphbldaaGreat
