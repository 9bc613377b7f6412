/- The heap in memory. -/
import Derived.Laws.Rows
import Derived.Laws.OwnMore
import Derived.Laws.AppendOwn
import Derived.Deep.MidRow
import Derived.Test.YtkplkgdfphbldaaGreatHJae
import Derived.Test.YtkplkgdfphbldaaGreatHJab
namespace Go.Proofs.YtkplkgdfphbldaaGreat
open Go.RowKit
set_option linter.unusedVariables false
set_option linter.unusedSimpArgs false
set_option linter.unnecessarySimpa false
set_option maxRecDepth 100000
namespace Hp
def thC (M : List (Th × Value)) : List Value := M.flatMap fun m => [.int .i64 m.1.kind, m.2]
theorem thC_append (M N : List (Th × Value)) : thC (M ++ N) = thC M ++ thC N := by simp [thC]
theorem thC_at : ∀ (M : List (Th × Value)) (i : Nat) (m : Th × Value), M[i]? = some m → (thC M)[i * 2]? = some (.int .i64 m.1.kind) ∧ (thC M)[i * 2 + 1]? = some m.2
 | [], i, m, h => by simp at h
 | x :: M, 0, m, h => by
  simp at h
  subst h
  exact ⟨rfl, rfl⟩
 | x :: M, i + 1, m, h => by
  have e : thC (x :: M) = .int .i64 x.1.kind :: x.2 :: thC M := rfl
  have h2 : M[i]? = some m := by simpa using h
  have := thC_at M i m h2
  rw [e, show (i + 1) * 2 = i * 2 + 1 + 1 by omega]
  simpa using this
theorem flatV_at : ∀ (l : List V) (i : Nat) (v : V), l[i]? = some v → (flatV l)[i * 3]? = some (.int .i64 v.kind) ∧ (flatV l)[i * 3 + 1]? = some (.int .i64 v.int) ∧ (flatV l)[i * 3 + 2]? = some (.string v.text)
 | [], i, v, h => by simp at h
 | x :: l, 0, v, h => by
  simp at h
  subst h
  exact ⟨rfl, rfl, rfl⟩
 | x :: l, i + 1, v, h => by
  have e : flatV (x :: l) = .int .i64 x.kind :: .int .i64 x.int :: .string x.text :: flatV l := rfl
  have h2 : l[i]? = some v := by simpa using h
  have := flatV_at l i v h2
  rw [e, show (i + 1) * 3 = i * 3 + 1 + 1 + 1 by omega]
  simpa using this
theorem flatV_one (l : List V) : ∀ u ∈ flatV l, u.oneCell' = true := by
 intro u hu
 simp only [flatV, List.mem_flatMap] at hu
 obtain ⟨v, _, hu⟩ := hu
 simp only [V.cells, List.mem_cons, List.not_mem_nil, or_false] at hu
 rcases hu with rfl | rfl | rfl <;> rfl
end Hp
theorem own_same {w w' : World} {B e size n : Nat} {v : Value} {xs : List Value} (h : w.ownsRow B e size v n xs) (hb : ∀ b, v.ownBlock = some b → w'.heap[b]? = w.heap[b]?) : w'.ownsRow B e size v n xs := by
 obtain ⟨h1, h2⟩ := h
 refine ⟨h1, ?_⟩
 rcases h2 with h2 | ⟨g, cap, cur, rfl, r1, r2, r⟩
 ·exact .inl h2
 ·exact .inr ⟨g, cap, cur, rfl, r1, (hb g rfl).trans r2, r⟩
structure HpAt (w : World) (ty h : Nat) (O : Nat → Prop) (vt : Value) (M : List (Hp.Th × Value)) : Prop where
 blk : w.heap[h]? = some (.cells #[vt] ty (0, 0))
 row : w.ownsRow 0 128 2 vt M.length (Hp.thC M)
 parts : ∀ m ∈ M, w.ownsRow 0 78 3 m.2 m.1.parts.length (Hp.flatV m.1.parts)
 ne : vt.ownBlock ≠ some h
 nh : ∀ m ∈ M, m.2.ownBlock ≠ some h
 nr : ∀ m ∈ M, ∀ b, m.2.ownBlock = some b → vt.ownBlock ≠ some b
 apart : M.Pairwise fun a b => ∀ k, a.2.ownBlock = some k → b.2.ownBlock ≠ some k
 own : O h ∧ (∀ b, vt.ownBlock = some b → O b) ∧ ∀ m ∈ M, ∀ b, m.2.ownBlock = some b → O b
 lt : ∀ b, O b → b < w.heap.size
def HSt (w : World) (ty h : Nat) (O : Nat → Prop) (T : List Hp.Th) : Prop := ∃ vt M, HpAt w ty h O vt M ∧ M.map (·.1) = T
structure Grow (O O' : Nat → Prop) (w w' : World) : Prop where
 os : w'.os = w.os
 tape : w'.tape = w.tape
 output : w'.output = w.output
 size : w.heap.size ≤ w'.heap.size
 block : ∀ b, b < w.heap.size → ¬ O b → w'.heap[b]? = w.heap[b]?
 own : ∀ b, O' b → O b ∨ w.heap.size ≤ b
theorem Grow.trans {O O' O'' : Nat → Prop} {a b c : World} (h : Grow O O' a b) (k : Grow O' O'' b c) : Grow O O'' a c :=
 ⟨k.os.trans h.os, k.tape.trans h.tape, k.output.trans h.output, Nat.le_trans h.size k.size, fun i hi ho => (k.block i (Nat.lt_of_lt_of_le hi h.size) (fun e => (h.own i e).elim ho (fun e => by omega))).trans (h.block i hi ho),
  fun i hi => (k.own i hi).elim (fun e => h.own i e) (fun e => .inr (Nat.le_trans h.size e))⟩
theorem Grow.of {O : Nat → Prop} {w w' : World} (h : Below w.heap.size w w') : Grow O O w w' := ⟨h.os, h.tape, h.output, h.size, fun b hb _ => h.block b hb, fun _ h => .inl h⟩
theorem Grow.below {O O' : Nat → Prop} {w w' : World} (h : Grow O O' w w') {B : Nat} (hO : ∀ b, O b → B ≤ b) (hB : B ≤ w.heap.size) : Below B w w' := ⟨h.os, h.tape, h.output, h.size, fun b hb => h.block b (by omega) (fun e => by have := hO b e; omega)⟩
section
variable {w : World} {ty h : Nat} {O : Nat → Prop} {vt : Value} {M : List (Hp.Th × Value)} {T : List Hp.Th}
theorem HpAt.lth (H : HpAt w ty h O vt M) : h < w.heap.size := (Array.getElem?_eq_some_iff.1 H.blk).1
theorem HpAt.c0 (H : HpAt w ty h O vt M) : w.cell? ⟨h, 0, none⟩ = some vt := by rw [cell_of_row w h _ _ _ _ H.blk]; rfl
theorem HpAt.fz (H : HpAt w ty h O vt M) : w.frozen? ⟨h, 0, none⟩ = false := frozen_of_row w h 0 _ _ H.blk
theorem HpAt.shape (H : HpAt w ty h O vt M) : ∃ a c, vt = .slice a M.length c := by
 rcases own_shape H.row with ⟨e, e2, _⟩ | ⟨g, c, e, _⟩
 ·exact ⟨none, 0, by rw [e, e2]⟩
 ·exact ⟨_, c, e⟩
theorem HpAt.keep {w' : World} (H : HpAt w ty h O vt M) (hs : w.heap.size ≤ w'.heap.size) (hb : ∀ b, O b → w'.heap[b]? = w.heap[b]?) : HpAt w' ty h O vt M :=
 ⟨(hb h H.own.1).trans H.blk, own_same H.row fun b e => hb b (H.own.2.1 b e), fun m hm => own_same (H.parts m hm) fun b e => hb b (H.own.2.2 m hm b e), H.ne, H.nh, H.nr, H.apart, H.own, fun b e => Nat.lt_of_lt_of_le (H.lt b e) hs⟩
theorem HpAt.below {w' : World} {N : Nat} (H : HpAt w ty h O vt M) (hb : Below N w w') (hN : w.heap.size ≤ N) : HpAt w' ty h O vt M :=
 H.keep hb.size fun b e => hb.block b (by have := H.lt b e; omega)
theorem HpAt.at (H : HpAt w ty h O vt M) {i : Nat} {m : Hp.Th × Value} (hm : M[i]? = some m) :
  ∃ g c, vt = .slice (some ⟨g, 0, none⟩) M.length c ∧ g < w.heap.size ∧ g ≠ h ∧ w.cell? ⟨g, i * 2, none⟩ = some (.int .i64 m.1.kind) ∧ w.cell? ⟨g, i * 2 + 1, none⟩ = some m.2 := by
 have hi : i < M.length := (List.getElem?_eq_some_iff.1 hm).1
 rcases own_shape H.row with ⟨_, e2, _⟩ | ⟨g, c, rfl, h0, h1, h2, h3⟩
 ·omega
 ·refine ⟨g, c, rfl, h1, fun e => H.ne (by rw [e]; rfl), ?_, ?_⟩
  ·rw [H.row.cellAt (i * 2) (by omega)]; exact (Hp.thC_at M i m hm).1
  ·rw [H.row.cellAt (i * 2 + 1) (by omega)]; exact (Hp.thC_at M i m hm).2
theorem HpAt.part (H : HpAt w ty h O vt M) {m : Hp.Th × Value} (hm : m ∈ M) {j : Nat} {v : Hp.V} (hv : m.1.parts[j]? = some v) :
  ∃ g c, m.2 = .slice (some ⟨g, 0, none⟩) m.1.parts.length c ∧ g < w.heap.size ∧ g ≠ h ∧ vt.ownBlock ≠ some g ∧ w.cell? ⟨g, j * 3, none⟩ = some (.int .i64 v.kind) ∧ w.cell? ⟨g, j * 3 + 1, none⟩ = some (.int .i64 v.int) ∧ w.cell? ⟨g, j * 3 + 2, none⟩ = some (.string v.text) := by
 have hj : j < m.1.parts.length := (List.getElem?_eq_some_iff.1 hv).1
 have hp := H.parts m hm
 have hr := H.nr m hm
 have hh := H.nh m hm
 rcases own_shape hp with ⟨_, e2, _⟩ | ⟨g, c, e, h0, h1, h2, h3⟩
 ·omega
 ·rw [e] at hp hr hh
  obtain ⟨f1, f2, f3⟩ := Hp.flatV_at _ j v hv
  refine ⟨g, c, e, h1, fun e => hh (by rw [e]; rfl), hr g rfl, ?_, ?_, ?_⟩
  ·rw [hp.cellAt (j * 3) (by omega)]; exact f1
  ·rw [hp.cellAt (j * 3 + 1) (by omega)]; exact f2
  ·rw [hp.cellAt (j * 3 + 2) (by omega)]; exact f3
theorem HpAt.partLen (H : HpAt w ty h O vt M) {m : Hp.Th × Value} (hm : m ∈ M) : ∃ a c, m.2 = .slice a m.1.parts.length c := by
 rcases own_shape (H.parts m hm) with ⟨e, e2, _⟩ | ⟨g, c, e, _⟩
 ·exact ⟨none, 0, by rw [e, e2]⟩
 ·exact ⟨_, c, e⟩
theorem HSt.keep {w' : World} (H : HSt w ty h O T) (hs : w.heap.size ≤ w'.heap.size) (hb : ∀ b, O b → w'.heap[b]? = w.heap[b]?) : HSt w' ty h O T := by
 obtain ⟨vt, M, H, e⟩ := H
 exact ⟨vt, M, H.keep hs hb, e⟩
theorem HSt.below {w' : World} {N : Nat} (H : HSt w ty h O T) (hb : Below N w w') (hN : w.heap.size ≤ N) : HSt w' ty h O T := by
 obtain ⟨vt, M, H, e⟩ := H
 exact ⟨vt, M, H.below hb hN, e⟩
theorem HSt.lt (H : HSt w ty h O T) : ∀ b, O b → b < w.heap.size := by
 obtain ⟨vt, M, H, e⟩ := H
 exact H.lt
end
end Go.Proofs.YtkplkgdfphbldaaGreat
