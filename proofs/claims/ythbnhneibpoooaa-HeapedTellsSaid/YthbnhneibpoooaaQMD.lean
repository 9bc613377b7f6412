/- A thing more; a part put. -/
import Derived.Test.YthbnhneibpoooaaQMB
import Derived.OneCell
import Derived.Deep.Onto
import Derived.Deep.AppendLies
import Derived.Outline
import Derived.BigQuiet
import Derived.Deep.QuietTactic
import Derived.Deep.RegionHeld3
import Derived.Test.YthbnhneibpoooaaQME
set_option linter.unusedVariables false
set_option linter.unusedSimpArgs false
set_option linter.unnecessarySimpa false
namespace Go.Proofs.Ythbnhneibpoooaa
open Go.RowKit
set_option linter.unusedVariables false
set_option linter.unusedSimpArgs false
/-- As Grow, but what may be new lies from B on. -/
structure GrowB (B : Nat) (O O' : Nat → Prop) (w w' : World) : Prop where
  os : w'.os = w.os
  tape : w'.tape = w.tape
  output : w'.output = w.output
  size : w.heap.size ≤ w'.heap.size
  block : ∀ b, b < w.heap.size → ¬ O b → w'.heap[b]? = w.heap[b]?
  own : ∀ b, O' b → O b ∨ B ≤ b
theorem GrowB.glue {O O' : Nat → Prop} {w0 w w' : World} (hb : Below w0.heap.size w0 w) (h : GrowB w0.heap.size O O' w w') : Grow O O' w0 w' :=
  ⟨h.os.trans hb.os, h.tape.trans hb.tape, h.output.trans hb.output, Nat.le_trans hb.size h.size, fun b hl ho => (h.block b (Nat.lt_of_lt_of_le hl hb.size) ho).trans (hb.block b hl), h.own⟩
theorem GrowB.pre {B : Nat} {O O' : Nat → Prop} {w0 w w' : World} (hb : Below w0.heap.size w0 w) (h : GrowB B O O' w w') : GrowB B O O' w0 w' :=
  ⟨h.os.trans hb.os, h.tape.trans hb.tape, h.output.trans hb.output, Nat.le_trans hb.size h.size, fun b hl ho => (h.block b (Nat.lt_of_lt_of_le hl hb.size) ho).trans (hb.block b hl), h.own⟩
theorem GrowB.post {B : Nat} {O O' : Nat → Prop} {w w' w2 : World} (h : GrowB B O O' w w') (hb : Below w'.heap.size w' w2) : GrowB B O O' w w2 :=
  ⟨hb.os.trans h.os, hb.tape.trans h.tape, hb.output.trans h.output, Nat.le_trans h.size hb.size, fun b hl ho => (hb.block b (Nat.lt_of_lt_of_le hl h.size)).trans (h.block b hl ho), h.own⟩
section
variable {w : World} {ty h : Nat} {O : Nat → Prop} {vt : Value} {M : List (Hp.Th × Value)} {T : List Hp.Th}
theorem HpAt.apartAt (H : HpAt w ty h O vt M) {i k : Nat} {a b : Hp.Th × Value} (ha : M[i]? = some a) (hb : M[k]? = some b) (hne : i ≠ k) : ∀ q, a.2.ownBlock = some q → b.2.ownBlock ≠ some q := by
  have hp := List.pairwise_iff_getElem.1 H.apart
  obtain ⟨hi, rfl⟩ := List.getElem?_eq_some_iff.1 ha
  obtain ⟨hk, rfl⟩ := List.getElem?_eq_some_iff.1 hb
  intro q h1 h2
  rcases Nat.lt_or_ge i k with hl | hl
  · exact hp i k hi hk hl q h1 h2
  · exact hp k i hk hi (by omega) q h2 h1
theorem Hp.thC_map (M N : List (Hp.Th × Value)) (h : M.map (fun m => (m.1.kind, m.2)) = N.map (fun m => (m.1.kind, m.2))) : Hp.thC M = Hp.thC N := by
  have key : ∀ M : List (Hp.Th × Value), Hp.thC M = (M.map (fun m => (m.1.kind, m.2))).flatMap fun q => [.int .i64 q.1, q.2] := fun M => by
    simp [Hp.thC, List.flatMap_map]
  rw [key, key, h]
theorem map_set_same {α β : Type} (f : α → β) (M : List α) (i : Nat) (m x : α) (hm : M[i]? = some m) (hf : f x = f m) : (M.set i x).map f = M.map f := by
  rw [List.map_set, hf]
  apply List.ext_getElem?
  intro k
  rw [List.getElem?_set]
  split
  · rename_i e
    subst e
    rw [List.getElem?_map, hm]
    have := (List.getElem?_eq_some_iff.1 hm).1
    simp [this]
  · rfl
theorem HpAt.upd {w' : World} (H : HpAt w ty h O vt M) {i : Nat} {m : Hp.Th × Value} (hm : M[i]? = some m) {l : List Hp.V} {q : Nat} (hq : m.2.ownBlock = some q) (hg : w.grownBy w' (some q)) (hown : w'.ownsRow 0 27 3 m.2 l.length (Hp.flatV l)) :
    HpAt w' ty h O vt (M.set i (⟨m.1.kind, l⟩, m.2)) := by
  have hmem := List.mem_of_getElem? hm
  have hnh := H.nh m hmem
  have hnr := H.nr m hmem q hq
  have hO := H.own.2.2 m hmem
  have hkeep : ∀ b, b < w.heap.size → b ≠ q → w'.heap[b]? = w.heap[b]? := fun b hb hne => hg.block b hb (fun e => hne (by cases e; rfl))
  have hx : ∀ x ∈ M.set i (⟨m.1.kind, l⟩, m.2), x = (⟨m.1.kind, l⟩, m.2) ∨ ∃ k, k ≠ i ∧ M[k]? = some x := by
    intro x hx
    obtain ⟨k, hk⟩ := List.mem_iff_getElem?.1 hx
    rw [List.getElem?_set] at hk
    split at hk
    · split at hk
      · exact .inl (by simpa using hk.symm)
      · cases hk
    · exact .inr ⟨k, fun e => by omega, hk⟩
  have hy : ∀ x ∈ M.set i (⟨m.1.kind, l⟩, m.2), ∃ y ∈ M, y.2 = x.2 := fun x h => by
    rcases hx x h with rfl | ⟨k, _, hk⟩
    · exact ⟨m, hmem, rfl⟩
    · exact ⟨x, List.mem_of_getElem? hk, rfl⟩
  refine ⟨?_, ?_, fun x h => ?_, H.ne, fun x h => ?_, fun x h => ?_, ?_, ⟨H.own.1, H.own.2.1, fun x h => ?_⟩, fun b hb => Nat.lt_of_lt_of_le (H.lt b hb) hg.size⟩
  · rw [hkeep h H.lth (fun e => hnh (by rw [hq, e]))]
    exact H.blk
  · rw [Hp.thC_map _ M (map_set_same (fun m : Hp.Th × Value => (m.1.kind, m.2)) M i m (⟨m.1.kind, l⟩, m.2) hm rfl), List.length_set]
    exact own_same H.row fun b e => hkeep b (H.row.lt b e).2 (fun e2 => hnr (by rw [e, e2]))
  · rcases hx x h with rfl | ⟨k, hk, hM⟩
    · exact hown
    · have hxM := List.mem_of_getElem? hM
      have hp := H.parts x hxM
      exact own_same hp fun b e => hkeep b (hp.lt b e).2 (fun e2 => H.apartAt hm hM (Ne.symm hk) q hq (by rw [e, e2]))
  · obtain ⟨y, h1, h2⟩ := hy x h
    rw [← h2]; exact H.nh y h1
  · obtain ⟨y, h1, h2⟩ := hy x h
    rw [← h2]; exact H.nr y h1
  · have e : ((M.set i (⟨m.1.kind, l⟩, m.2)).map (·.2)).Pairwise (fun a b => ∀ k, a.ownBlock = some k → b.ownBlock ≠ some k) := by
      rw [map_set_same (fun m : Hp.Th × Value => m.2) M i m (⟨m.1.kind, l⟩, m.2) hm rfl, List.pairwise_map]
      exact H.apart
    rwa [List.pairwise_map] at e
  · obtain ⟨y, h1, h2⟩ := hy x h
    rw [← h2]; exact H.own.2.2 y h1
theorem Hp.flatV_set : ∀ (l : List Hp.V) (j : Nat) (v : Hp.V), j < l.length → ((((Hp.flatV l).set (j * 3) (.int .i64 v.kind)).set (j * 3 + 1) (.int .i64 v.int)).set (j * 3 + 2) (.string v.text)) = Hp.flatV (l.set j v)
  | [], j, v, h => by simp at h
  | x :: l, 0, v, h => rfl
  | x :: l, j + 1, v, h => by
    have e : ∀ (y : Hp.V) (l : List Hp.V), Hp.flatV (y :: l) = .int .i64 y.kind :: .int .i64 y.int :: .string y.text :: Hp.flatV l := fun _ _ => rfl
    have ih := Hp.flatV_set l j v (by simpa using h)
    rw [List.set_cons_succ, e, e, ← ih, show (j + 1) * 3 = j * 3 + 1 + 1 + 1 by omega]
    simp only [List.set_cons_succ]
theorem HpAt.put (H : HpAt w ty h O vt M) {i : Nat} {m : Hp.Th × Value} (hm : M[i]? = some m) {j g c : Nat} (hj : j < m.1.parts.length) (hs : m.2 = .slice (some ⟨g, 0, none⟩) m.1.parts.length c) (v : Hp.V) :
    HpAt (((w.setCell ⟨g, j * 3, none⟩ (.int .i64 v.kind)).setCell ⟨g, j * 3 + 1, none⟩ (.int .i64 v.int)).setCell ⟨g, j * 3 + 2, none⟩ (.string v.text)) ty h O vt (M.set i (⟨m.1.kind, m.1.parts.set j v⟩, m.2)) ∧
    w.grownBy (((w.setCell ⟨g, j * 3, none⟩ (.int .i64 v.kind)).setCell ⟨g, j * 3 + 1, none⟩ (.int .i64 v.int)).setCell ⟨g, j * 3 + 2, none⟩ (.string v.text)) (some g) ∧ O g := by
  have hmem := List.mem_of_getElem? hm
  have hp := H.parts m hmem
  rw [hs] at hp
  obtain ⟨p1, g1⟩ := hp.stored (j * 3) (.int .i64 v.kind)
  obtain ⟨p2, g2⟩ := p1.stored (j * 3 + 1) (.int .i64 v.int)
  obtain ⟨p3, g3⟩ := p2.stored (j * 3 + 2) (.string v.text)
  rw [Hp.flatV_set _ j v hj] at p3
  have hgg : w.grownBy (((w.setCell ⟨g, j * 3, none⟩ (.int .i64 v.kind)).setCell ⟨g, j * 3 + 1, none⟩ (.int .i64 v.int)).setCell ⟨g, j * 3 + 2, none⟩ (.string v.text)) (some g) :=
    ⟨rfl, rfl, rfl, by simp [World.setCell], fun k hk hne => ((g3.block k (by simpa [World.setCell] using hk) hne).trans (g2.block k (by simpa [World.setCell] using hk) hne)).trans (g1.block k hk hne)⟩
  refine ⟨?_, hgg, H.own.2.2 m hmem g (by rw [hs]; rfl)⟩
  refine H.upd hm (by rw [hs]; rfl) hgg ?_
  rw [hs, List.length_set]
  exact p3
/-- A thing more. -/
theorem HpAt.push {w1 : World} (H : HpAt w ty h O vt M) {t : Hp.Th} {pv : Value} {B : Nat} (hp : w.ownsRow B 27 3 pv t.parts.length (Hp.flatV t.parts)) (hB : ∀ b, O b → b < B) (hBw : B ≤ w.heap.size) {g cap : Nat}
    (hown : w1.ownsRow 0 54 2 (.slice (some ⟨g, 0, none⟩) (M.length + 1) cap) (M.length + 1) (Hp.thC M ++ [.int .i64 t.kind, pv])) (hg : w.grownBy w1 vt.ownBlock) (hl : vt.ownBlock = some g ∨ g = w.heap.size) (hlt : g < w1.heap.size) :
    HpAt (w1.setCell ⟨h, 0, none⟩ (.slice (some ⟨g, 0, none⟩) (M.length + 1) cap)) ty h (fun b => O b ∨ b = g ∨ pv.ownBlock = some b) (.slice (some ⟨g, 0, none⟩) (M.length + 1) cap) (M ++ [(t, pv)]) ∧ GrowB B O (fun b => O b ∨ b = g ∨ pv.ownBlock = some b) w (w1.setCell ⟨h, 0, none⟩ (.slice (some ⟨g, 0, none⟩) (M.length + 1) cap)) := by
  have hO0 := H.own
  have hgh : g ≠ h := by
    rcases hl with e | e
    · exact fun e2 => H.ne (by rw [e, e2])
    · have := H.lth; omega
  have hpg : ∀ m ∈ M, ∀ b, m.2.ownBlock = some b → b ≠ g := by
    intro m hm b e e2
    subst e2
    rcases hl with e3 | e3
    · exact H.nr m hm b e e3
    · have := ((H.parts m hm).lt b e).2; omega
  have hpvlt : ∀ b, pv.ownBlock = some b → B ≤ b ∧ b < w.heap.size := fun b e => hp.lt b e
  have hpvO : ∀ b, pv.ownBlock = some b → ¬ O b := fun b e ho => by have := hB b ho; have := (hpvlt b e).1; omega
  have hpvg : ∀ b, pv.ownBlock = some b → b ≠ g := fun b e e2 => by
    subst e2
    rcases hl with e3 | e3
    · exact hpvO b e (hO0.2.1 b e3)
    · have := (hpvlt b e).2; omega
  have hk1 : ∀ b, b < w.heap.size → vt.ownBlock ≠ some b → w1.heap[b]? = w.heap[b]? := fun b hb hne => hg.block b hb (fun e => hne e.symm)
  have hk2 : ∀ b, b ≠ h → (w1.setCell ⟨h, 0, none⟩ (.slice (some ⟨g, 0, none⟩) (M.length + 1) cap)).heap[b]? = w1.heap[b]? := fun b hb => heap_setCell_other _ _ _ _ hb
  have hs1 : (w1.setCell ⟨h, 0, none⟩ (.slice (some ⟨g, 0, none⟩) (M.length + 1) cap)).heap.size = w1.heap.size := by simp [World.setCell]
  refine ⟨⟨?_, ?_, ?_, ?_, ?_, ?_, ?_, ⟨.inl hO0.1, ?_, ?_⟩, ?_⟩, ⟨hg.os, hg.tape, hg.output, by rw [hs1]; exact hg.size, ?_, ?_⟩⟩
  · have e : w1.heap[h]? = some (.cells #[vt] ty (0, 0)) := (hk1 h H.lth H.ne).trans H.blk
    rw [heap_setCell_same w1 h 0 _ _ _ e]
    rfl
  · rw [Hp.thC_append, List.length_append]
    exact ownsRow_setCell_other hown (by simp [Value.ownBlock]; exact hgh) _
  · intro m hm
    rw [List.mem_append, List.mem_singleton] at hm
    rcases hm with hm | rfl
    · have hq := H.parts m hm
      refine own_same hq fun b e => ?_
      rw [hk2 b (fun e2 => H.nh m hm (by rw [e, e2])), hk1 b (hq.lt b e).2 (H.nr m hm b e)]
    · refine own_same (hp.mono (Nat.zero_le _)) fun b e => ?_
      rw [hk2 b (fun e2 => hpvO b e (by rw [e2]; exact hO0.1)), hk1 b (hpvlt b e).2 (fun e2 => hpvO b e (hO0.2.1 b e2))]
  · simp [Value.ownBlock]; exact hgh
  · intro m hm
    rw [List.mem_append, List.mem_singleton] at hm
    rcases hm with hm | rfl
    · exact H.nh m hm
    · exact fun e => hpvO h e hO0.1
  · intro m hm b e
    rw [List.mem_append, List.mem_singleton] at hm
    have : b ≠ g := by
      rcases hm with hm | rfl
      · exact hpg m hm b e
      · exact hpvg b e
    simp [Value.ownBlock]
    exact fun e => this e.symm
  · rw [List.pairwise_append]
    refine ⟨H.apart, List.pairwise_singleton _ _, ?_⟩
    intro a ha b hb k e1 e2
    rw [List.mem_singleton] at hb
    subst hb
    exact hpvO k e2 (hO0.2.2 a ha k e1)
  · intro b e
    simp [Value.ownBlock] at e
    exact .inr (.inl e.symm)
  · intro m hm b e
    rw [List.mem_append, List.mem_singleton] at hm
    rcases hm with hm | rfl
    · exact .inl (hO0.2.2 m hm b e)
    · exact .inr (.inr e)
  · intro b hb
    rw [hs1]
    rcases hb with hb | rfl | hb
    · exact Nat.lt_of_lt_of_le (H.lt b hb) hg.size
    · exact hlt
    · exact Nat.lt_of_lt_of_le (hpvlt b hb).2 hg.size
  · intro b hb ho
    rw [hk2 b (fun e => ho (by rw [e]; exact hO0.1)), hk1 b hb (fun e => ho (hO0.2.1 b e))]
  · intro b hb
    rcases hb with hb | rfl | hb
    · exact .inl hb
    · rcases hl with e | e
      · exact .inl (hO0.2.1 b e)
      · exact .inr (by omega)
    · exact .inr (hpvlt b hb).1
end
end Go.Proofs.Ythbnhneibpoooaa
/- The heap's add. -/
namespace Go.Proofs.Ythbnhneibpoooaa
open Go.RowKit
set_option linter.unusedVariables false
set_option linter.unusedSimpArgs false
theorem infoThing : (Try.prog.info? 54).map (fun i => (i.zero, i.size, i.bytes)) = some (some (.agg #[.int .i64 0, .slice none 0 0]), 2, 32) := by kernel_rfl
/-- Three stores into the result's block. -/
theorem add_end {w w2 : World} {ty h B : Nat} {O O' : Nat → Prop} {vt : Value} {M : List (Hp.Th × Value)} (H : HpAt w2 ty h O' vt M) (G : GrowB B O O' w w2) (hn : ¬ O' w.heap.size) (x y z : Value) :
    HSt (((w2.setCell ⟨w.heap.size, 0, none⟩ x).setCell ⟨w.heap.size, 1, none⟩ y).setCell ⟨w.heap.size, 2, none⟩ z) ty h O' (M.map (·.1)) ∧ GrowB B O O' w (((w2.setCell ⟨w.heap.size, 0, none⟩ x).setCell ⟨w.heap.size, 1, none⟩ y).setCell ⟨w.heap.size, 2, none⟩ z) := by
  have hk : ∀ b, b ≠ w.heap.size → (((w2.setCell ⟨w.heap.size, 0, none⟩ x).setCell ⟨w.heap.size, 1, none⟩ y).setCell ⟨w.heap.size, 2, none⟩ z).heap[b]? = w2.heap[b]? := fun b hb => by
    rw [heap_setCell_other _ _ _ _ hb, heap_setCell_other _ _ _ _ hb, heap_setCell_other _ _ _ _ hb]
  refine ⟨⟨vt, M, H.keep (by simp [World.setCell]) fun b hb => hk b (fun e => hn (e ▸ hb)), rfl⟩, ⟨G.os, G.tape, G.output, by simp [World.setCell]; exact G.size, fun b hb ho => (hk b (by omega)).trans (G.block b hb ho), G.own⟩⟩
def AddPost (ty h B : Nat) (O : Nat → Prop) (T : List Hp.Th) (t : Hp.Th) (w : World) (e : Ending) (w' : World) : Prop :=
  ∃ O', e = .returned (Hp.V.val ⟨8, T.length, ⟨#[]⟩⟩) ∧ HSt w' ty h O' (T ++ [t]) ∧ GrowB B O O' w w'
set_option maxHeartbeats 2000000 in
set_option maxRecDepth 100000 in
theorem add_any (h : Nat) (O : Nat → Prop) (T : List Hp.Th) (B : Nat) (t : Hp.Th) (pv : Value) (w : World) (H : HSt w 65 h O T) (hp : w.ownsRow B 27 3 pv t.parts.length (Hp.flatV t.parts)) (hB : ∀ b, O b → b < B) (hBw : B ≤ w.heap.size) (hT : T.length ≤ 1000000) :
    Calls Try.prog 34 #[.pointer (some ⟨h, 0, none⟩), .int .i64 t.kind, pv] w (AddPost 65 h B O T t w) := by
  obtain ⟨vt, M, H, hM⟩ := H
  subst hM
  rw [List.length_map] at hT
  obtain ⟨a, c, rfl⟩ := H.shape
  obtain ⟨ap, cp, rfl⟩ : ∃ a c, pv = .slice a t.parts.length c := by
    rcases own_shape hp with ⟨e, e2, _⟩ | ⟨g, c, e, _⟩
    · exact ⟨none, 0, by rw [e, e2]⟩
    · exact ⟨_, c, e⟩
  obtain ⟨i0, hi, hz0, hz1, hz2⟩ := info_parts infoThing
  have HI := Lib.hid hi
  have HZ0 := Lib.hid hz0
  have HZ1 := Lib.hid hz1
  have HZ2 := Lib.hid hz2
  have c0 := H.c0
  have f0 := H.fz
  have hh := H.lth
  have HH := Lib.hid H
  have HP := Lib.hid hp
  have HB := Lib.hid hB
  clear hi hz0 hz1 hz2 H hp hB
  unfold AddPost Hp.V.val
  go_enter Try.func34, Try.ntmps34
  go_wp2_with (at_builtin; refine wpList_append_lies _ rfl (.tmp 11) (.tmp 15) 38 rfl 0 54 i0 _ 2 32 Try.underlying38 HI.out HZ0.out HZ1.out HZ2.out rfl (by decide) (.slice a M.length c) M.length (Hp.thC M) rfl ?a2 ⟨w.heap.size + 1, 0, none⟩ 1 1 [.int .i64 t.kind, .slice ap t.parts.length cp] rfl rfl ?a4 ?a5 (by decide) ?a6 ?a7 (Nat.zero_le _) (w.heap.size + 2) ?a8 ?_)
  case a2 => exact (HH.out.row.alloc _).alloc _
  case a4 => exact new_cells _ (heap_new (by simp))
  case a5 => simp [Value.oneCell']
  case a6 => (simp only [maxLen]; omega)
  case a7 => omega
  case a8 => simp
  intro g cap w1 hown hgr hl hlt
  have HB2 := HH.out.below (((Below.refl w.heap.size w).alloc (Nat.le_refl _) (.cells #[.int .i64 0, .int .i64 0, .string ⟨#[]⟩] 27)).alloc (by simp) (.cells #[.int .i64 t.kind, .slice ap t.parts.length cp] 54)) (Nat.le_refl _)
  have P := HB2.push (t := t) ((HP.out.alloc _).alloc _) HB.out (by simp; omega) hown hgr (by simpa using hl) hlt
  have c1 : w1.cell? ⟨h, 0, none⟩ = some (.slice a M.length c) := (World.cell?_of_block (a := ⟨h, 0, none⟩) (hgr.block h HB2.lth (fun e => HH.out.ne e.symm))).trans HB2.c0
  have f1 : w1.frozen? ⟨h, 0, none⟩ = false := (World.frozen?_of_block (a := ⟨h, 0, none⟩) (hgr.block h HB2.lth (fun e => HH.out.ne e.symm))).trans HB2.fz
  have hz : some w.heap.size ≠ (Value.slice a M.length c).ownBlock := fun e => by have := HH.out.lt _ (HH.out.own.2.1 _ e.symm); omega
  have hq : w1.heap[w.heap.size]? = some (.cells #[.int .i64 0, .int .i64 0, .string ⟨#[]⟩] 27 (0, 0)) := by
    rw [hgr.block w.heap.size (by simp; omega) hz, heap_alloc_old _ _ (by simp)]
    exact heap_alloc_new w _
  have q0 := cell_of_row w1 w.heap.size 0 _ _ _ hq
  have q1 := cell_of_row w1 w.heap.size 1 _ _ _ hq
  have q2 := cell_of_row w1 w.heap.size 2 _ _ _ hq
  simp only [List.getElem?_toArray, List.getElem?_cons_zero, List.getElem?_cons_succ] at q0 q1 q2
  have k0 := frozen_of_row w1 w.heap.size 0 _ _ hq
  have k1 := frozen_of_row w1 w.heap.size 1 _ _ hq
  have k2 := frozen_of_row w1 w.heap.size 2 _ _ hq
  have hne : h ≠ w.heap.size := by omega
  have hne2 : w.heap.size ≠ h := by omega
  have hgN : g ≠ w.heap.size := by
    rcases hl with e | e
    · have := HH.out.lt _ (HH.out.own.2.1 _ e); omega
    · omega
  have hn : ¬ (O w.heap.size ∨ w.heap.size = g ∨ (Value.slice ap t.parts.length cp).ownBlock = some w.heap.size) := by
    rintro (e | e | e)
    · have := HH.out.lt _ e; omega
    · exact hgN e.symm
    · have := (HP.out.lt _ e).2; omega
  have E := add_end P.1 (P.2.pre (((Below.refl w.heap.size w).alloc (Nat.le_refl _) _).alloc (by simp) _)) hn (.int .i64 8) (.int .i64 (M.length : Nat)) (.string ⟨#[]⟩)
  have hr3 : (((((w1.setCell ⟨h, 0, none⟩ (.slice (some ⟨g, 0, none⟩) (M.length + 1) cap)).setCell ⟨w.heap.size, 0, none⟩ (.int .i64 8)).setCell ⟨w.heap.size, 1, none⟩ (.int .i64 (M.length : Nat))).setCell ⟨w.heap.size, 2, none⟩ (.string ⟨#[]⟩))).heap[w.heap.size]? = some (.cells #[.int .i64 8, .int .i64 (M.length : Nat), .string ⟨#[]⟩] 27 (0, 0)) := by
    have e0 : (w1.setCell ⟨h, 0, none⟩ (.slice (some ⟨g, 0, none⟩) (M.length + 1) cap)).heap[w.heap.size]? = some (.cells #[.int .i64 0, .int .i64 0, .string ⟨#[]⟩] 27 (0, 0)) := (heap_setCell_other _ _ _ _ hne2).trans hq
    have e1 := heap_setCell_same _ w.heap.size 0 _ _ (.int .i64 8) e0
    have e2 := heap_setCell_same _ w.heap.size 1 _ _ (.int .i64 (M.length : Nat)) e1
    exact heap_setCell_same _ w.heap.size 2 _ _ (.string ⟨#[]⟩) e2
  have HR3 := Lib.hid hr3
  have HE := Lib.hid E
  clear hr3
  clear E P HB2 hown hgr hl hlt hq hn hz hgN
  go_wp2_with fail
  refine bodyPost_ret (res1 rfl _ _ w.heap.size 27 _ (0, 0) rfl HR3.out valD valSize) rfl ?_
  refine ⟨_, ?_, ?_, HE.out.2⟩
  · simp
  · have := HE.out.1
    simpa using this
end Go.Proofs.Ythbnhneibpoooaa
/- The heap's thing. -/
namespace Go.Proofs.Ythbnhneibpoooaa
open Go.RowKit
set_option linter.unusedVariables false
set_option linter.unusedSimpArgs false
theorem alloc_at {w : World} {a : Addr} {u : Value} (o : Obj) (h : w.cell? a = some u) : (w.alloc o).cell? a = some u := by
  have h2 := World.block_lt_of_cell? w _ h
  exact (((Below.refl w.heap.size w).alloc (Nat.le_refl _) o).cell (p := a) h2).trans h
set_option maxHeartbeats 2000000 in
theorem thing_none (h n c : Nat) (a : Option Addr) (v : Hp.V) (ht : v.text.size ≤ maxLen) (w : World) (hc : w.cell? ⟨h, 0, none⟩ = some (.slice a n c)) (hv : v.kind ≠ 8 ∨ Hp.may n v = false) :
    Calls Try.prog 49 #[.pointer (some ⟨h, 0, none⟩), v.val] w fun e w' => e = .returned (.pointer none) ∧ Below w.heap.size w w' := by
  have hh := block_lt_of_cell hc
  dsimp only at hh
  by_cases h8 : v.kind = 8
  · have hm := hv.resolve_left (fun e => e h8)
    have q1 : (v.kind != 8) = false := by rw [h8]; rfl
    have HT := Lib.hid ht
    have HM := Lib.hid (may_any h n c a v HT.out _ (alloc_at (.cells #[.int .i64 v.kind, .int .i64 v.int, .string v.text] 27) hc) (by simp; omega))
    rw [hm] at HM
    clear hm hv h8 ht
    unfold Hp.V.val at *
    go_enter Try.func49, Try.ntmps49
    go_wp2_with fail
    with_reducible refine HM.out.mono ?_
    rintro e w' ⟨rfl, hb⟩
    have HB := Lib.hid hb
    clear hb
    go_wp2_with fail
    go_ret
    exact ⟨rfl, ((Below.refl _ _).alloc (Nat.le_refl _) _).trans (HB.out.mono (by simp))⟩
  · have q1 : (v.kind != 8) = true := by rw [bne_iff_ne]; exact h8
    clear hv h8 ht
    unfold Hp.V.val
    go_enter Try.func49, Try.ntmps49
    go_wp2_with fail
    go_ret
    exact ⟨rfl, (Below.refl _ _).alloc (Nat.le_refl _) _⟩
set_option maxHeartbeats 2000000 in
theorem thing_some (h n c g k : Nat) (hk : k < n) (w : World) (hc : w.cell? ⟨h, 0, none⟩ = some (.slice (some ⟨g, 0, none⟩) n c)) :
    Calls Try.prog 49 #[.pointer (some ⟨h, 0, none⟩), .agg #[.int .i64 8, .int .i64 k, .string ⟨#[]⟩]] w fun e w' => e = .returned (.pointer (some ⟨g, k * 2, none⟩)) ∧ Below w.heap.size w w' := by
  have hh := block_lt_of_cell hc
  dsimp only at hh
  have hm : Hp.may n ⟨8, k, ⟨#[]⟩⟩ = true := by
    show (decide (0 ≤ (k : Int)) && decide ((k : Int) < n)) = true
    simp; omega
  have HM := Lib.hid (may_any h n c (some ⟨g, 0, none⟩) ⟨8, k, ⟨#[]⟩⟩ (Nat.zero_le _) _ (alloc_at (.cells #[.int .i64 8, .int .i64 k, .string ⟨#[]⟩] 27) hc) (by simp; omega))
  rw [hm] at HM
  have hg1 : (0 : Int) ≤ k := by omega
  have hg2 : (k : Int) < n := by omega
  clear hm
  unfold Hp.V.val at *
  go_enter Try.func49, Try.ntmps49
  go_wp2_with fail
  with_reducible refine HM.out.mono ?_
  rintro e w' ⟨rfl, hb⟩
  have HB := Lib.hid hb
  obtain ⟨hcc, hff⟩ := bcellH hb
  have d0 : w'.cell? ⟨h, 0, none⟩ = some (.slice (some ⟨g, 0, none⟩) n c) := by
    rw [hcc h 0 (by simp; omega)]
    exact alloc_at _ hc
  have d1 : w'.cell? ⟨w.heap.size, 1, none⟩ = some (.int .i64 k) := by
    rw [hcc w.heap.size 1 (by simp), World.cell?_alloc_at _ _ _ _ rfl]
    rfl
  clear hb hcc hff
  go_wp2_with fail
  go_quiet (fail)
  go_wp2_with fail
  go_ret
  exact ⟨by simp, below_drewN (((Below.refl _ _).alloc (Nat.le_refl _) _).trans (HB.out.mono (by simp))) _⟩
end Go.Proofs.Ythbnhneibpoooaa
/- The heap's Thing. -/
namespace Go.Proofs.Ythbnhneibpoooaa
open Go.RowKit
set_option linter.unusedVariables false
set_option linter.unusedSimpArgs false
set_option maxHeartbeats 2000000 in
theorem Thing_none (h n c : Nat) (a : Option Addr) (v : Hp.V) (ht : v.text.size ≤ maxLen) (w : World) (hc : w.cell? ⟨h, 0, none⟩ = some (.slice a n c)) (hv : v.kind ≠ 8 ∨ Hp.may n v = false) :
    Calls Try.prog 21 #[.pointer (some ⟨h, 0, none⟩), v.val] w fun e w' => e = .returned (.tuple #[.agg #[.int .i64 0, .slice none 0 0], .bool false]) ∧ Below w.heap.size w w' := by
  have hh := block_lt_of_cell hc
  dsimp only at hh
  have HC := Lib.hid (fun (w1 : World) (hc : w1.cell? ⟨h, 0, none⟩ = some (.slice a n c)) => thing_none h n c a v ht w1 hc hv)
  have HC2 := Lib.hid (alloc_at (.cells #[.int .i64 0, .slice none 0 0] 54) (alloc_at (.cells #[.int .i64 v.kind, .int .i64 v.int, .string v.text] 27) hc))
  clear hv ht
  unfold Hp.V.val at *
  go_enter Try.func21, Try.ntmps21
  go_wp2_with fail
  with_reducible refine (HC.out _ HC2.out).mono ?_
  rintro e w' ⟨rfl, hb⟩
  have HB := Lib.hid hb
  have hz : w'.heap[w.heap.size + 1]? = some (.cells #[.int .i64 0, .slice none 0 0] 54 (0, 0)) := by
    rw [hb.block _ (by simp)]
    exact heap_new (by simp)
  have q0 := cell_of_row w' _ 0 _ _ _ hz
  have q1 := cell_of_row w' _ 1 _ _ _ hz
  simp only [List.getElem?_toArray, List.getElem?_cons_zero, List.getElem?_cons_succ] at q0 q1
  have k0 := frozen_of_row w' _ 0 _ _ hz
  have k1 := frozen_of_row w' _ 1 _ _ hz
  have HZ := Lib.hid hz
  clear hb hz
  go_wp2_with fail
  have e1 := heap_setCell_same _ (w.heap.size + 1) 0 _ _ (.int .i64 0) HZ.out
  have e2 := heap_setCell_same _ (w.heap.size + 1) 1 _ _ (.slice none 0 0) e1
  refine bodyPost_ret (res2 rfl _ _ (w.heap.size + 1) 54 _ (0, 0) rfl e2 thingD thingSize) rfl ?_
  exact ⟨by simp, (((((Below.refl _ _).alloc (Nat.le_refl _) _).alloc (by simp) _).trans (HB.out.mono (by simp; omega))).setCell (by simp) _).setCell (by simp) _⟩
def ThingPost (h : Nat) (t : Hp.Th) (w : World) (e : Ending) (w' : World) : Prop :=
  ∃ a c, e = .returned (.tuple #[.agg #[.int .i64 t.kind, .slice a t.parts.length c], .bool true]) ∧ w'.ownsRow w.heap.size 27 3 (.slice a t.parts.length c) t.parts.length (Hp.flatV t.parts) ∧ Below w.heap.size w w'
set_option maxHeartbeats 4000000 in
set_option maxRecDepth 100000 in
theorem Thing_some {h k ty : Nat} {O : Nat → Prop} {vt : Value} {M : List (Hp.Th × Value)} {m : Hp.Th × Value} (w : World) (H : HpAt w ty h O vt M) (hm : M[k]? = some m) (hl : m.1.parts.length ≤ 1000000) :
    Calls Try.prog 21 #[.pointer (some ⟨h, 0, none⟩), .agg #[.int .i64 8, .int .i64 k, .string ⟨#[]⟩]] w (ThingPost h m.1 w) := by
  have hk : k < M.length := (List.getElem?_eq_some_iff.1 hm).1
  have HH := Lib.hid H
  obtain ⟨g, c, rfl, hg, hgh, d0, d1⟩ := H.at hm
  have c0 := H.c0
  have hh := H.lth
  have HC := Lib.hid (fun (w1 : World) (hc : w1.cell? ⟨h, 0, none⟩ = some (.slice (some ⟨g, 0, none⟩) M.length c)) => thing_some h M.length c g k hk w1 hc)
  have HC2 := Lib.hid (alloc_at (.cells #[.int .i64 0, .slice none 0 0] 54) (alloc_at (.cells #[.int .i64 8, .int .i64 k, .string ⟨#[]⟩] 27) c0))
  have HV := Lib.hid (VSl.own (H.parts m (List.mem_of_getElem? hm)))
  obtain ⟨ap, cp, hap⟩ := H.partLen (List.mem_of_getElem? hm)
  have HL := Lib.hid hl
  obtain ⟨⟨kd, l⟩, pv0⟩ := m
  dsimp only at *
  subst hap
  unfold ThingPost
  clear H hm hl hk
  go_enter Try.func21, Try.ntmps21
  go_wp2_with fail
  with_reducible refine (HC.out _ HC2.out).mono ?_
  rintro e w1 ⟨rfl, hb⟩
  have HB : Hid (Below w.heap.size w w1) := ((((Below.refl _ _).alloc (Nat.le_refl _) _).alloc (by simp) _).trans (hb.mono (by simp; omega)))
  have hz : w1.heap[w.heap.size + 1]? = some (.cells #[.int .i64 0, .slice none 0 0] 54 (0, 0)) := by
    rw [hb.block _ (by simp)]
    exact heap_new (by simp)
  have x0 : w1.cell? ⟨g, k * 2, none⟩ = some (.int .i64 kd) := (HB.out.cell (p := ⟨g, k * 2, none⟩) hg).trans d0
  have x1 : w1.cell? ⟨g, k * 2 + 1, none⟩ = some (.slice ap l.length cp) := (HB.out.cell (p := ⟨g, k * 2 + 1, none⟩) hg).trans d1
  have HX : Hid (w1.cell? ⟨g, k * 2, none⟩ = some (.int .i64 kd) ∧ w1.cell? ⟨g, k * 2 + 1, none⟩ = some (.slice ap l.length cp)) := ⟨x0, x1⟩
  have HZ := Lib.hid hz
  have hs1 : w.heap.size + 2 ≤ w1.heap.size := by have := hb.size; simp at this; omega
  clear hb hz d0 d1 c0
  go_wp2_with fail
  have HVc := Lib.hid (fun (W : World) (hb : Below w1.heap.size w1 W) => clone_any (.slice ap l.length cp) l W ((HV.out.below HB.out (Nat.le_refl _)).below hb (Nat.le_refl _)) HL.out)
  go_region_held3 (fun w' => w'.cell? ⟨g, k * 2, none⟩ = some (.int .i64 kd) ∧ w'.cell? ⟨g, k * 2 + 1, none⟩ = some (.slice ap l.length cp))
    (first | exact HX.out | exact HX2.out | exact ⟨((((Below.refl w.heap.size w2).setCell (p := ⟨w.heap.size + 1, 0, none⟩) (by simp) _).setCell (p := ⟨w.heap.size + 1, 1, none⟩) (by simp) _).cell (p := ⟨g, k * 2, none⟩) hg).trans HX2.out.1, ((((Below.refl w.heap.size w2).setCell (p := ⟨w.heap.size + 1, 0, none⟩) (by simp) _).setCell (p := ⟨w.heap.size + 1, 1, none⟩) (by simp) _).cell (p := ⟨g, k * 2 + 1, none⟩) hg).trans HX2.out.2⟩)
    (first
      | (go_at_call 35; (with_reducible refine (HVc.out _ (Below.refl _ _).drew).mono ?_); rintro e w2 ⟨a2, c2, rfl, hown, hb2⟩; have HO := Lib.hid hown; have HB2 : Hid (Below w1.heap.size w1 w2) := (Below.refl _ _).drew.trans hb2; have HX2 : Hid (w2.cell? ⟨g, k * 2, none⟩ = some (.int .i64 kd) ∧ w2.cell? ⟨g, k * 2 + 1, none⟩ = some (.slice ap l.length cp)) := ⟨(HB2.out.cell (p := ⟨g, k * 2, none⟩) (by show g < _; omega)).trans HX.out.1, (HB2.out.cell (p := ⟨g, k * 2 + 1, none⟩) (by show g < _; omega)).trans HX.out.2⟩; have hz2 := (HB2.out.block (w.heap.size + 1) (by omega)).trans HZ.out; have HZ2 := Lib.hid hz2; have q0 := cell_of_row w2 _ 0 _ _ _ hz2; have q1 := cell_of_row w2 _ 1 _ _ _ hz2; simp only [List.getElem?_toArray, List.getElem?_cons_zero, List.getElem?_cons_succ] at q0 q1; have k0 := frozen_of_row w2 _ 0 _ _ hz2; have k1 := frozen_of_row w2 _ 1 _ _ hz2; clear hown hb2 hz2))
  go_wp2_with fail
  have e1 := heap_setCell_same _ (w.heap.size + 1) 0 _ _ (.int .i64 kd) HZ2.out
  have e2 := heap_setCell_same _ (w.heap.size + 1) 1 _ _ (.slice a2 l.length c2) e1
  refine bodyPost_ret (res2 rfl _ _ (w.heap.size + 1) 54 _ (0, 0) rfl e2 thingD thingSize) rfl ?_
  refine ⟨a2, c2, by simp, ?_, ((HB.out.trans (HB2.out.mono HB.out.size)).setCell (by simp) _).setCell (by simp) _⟩
  have hne : (Value.slice a2 l.length c2).ownBlock ≠ some (w.heap.size + 1) := fun e => by have := (HO.out.lt _ e).1; simp at this; omega
  exact ownsRow_setCell_other (ownsRow_setCell_other (HO.out.mono (by simp; omega)) hne _) hne _
end Go.Proofs.Ythbnhneibpoooaa
/- The heap's part, get, put. -/
namespace Go.Proofs.Ythbnhneibpoooaa
open Go.RowKit
set_option linter.unusedVariables false
set_option linter.unusedSimpArgs false
set_option maxHeartbeats 4000000 in
set_option maxRecDepth 100000 in
theorem part_out {h k ty : Nat} {O : Nat → Prop} {vt : Value} {M : List (Hp.Th × Value)} {m : Hp.Th × Value} (at_ : Hp.V) (w : World) (H : HpAt w ty h O vt M) (hm : M[k]? = some m) (hl : m.1.parts.length ≤ 1000000) (ha : at_.int < 0 ∨ (m.1.parts.length : Int) ≤ at_.int) :
    Calls Try.prog 76 #[.pointer (some ⟨h, 0, none⟩), .agg #[.int .i64 8, .int .i64 k, .string ⟨#[]⟩], at_.val] w fun e w' => e = .returned (.tuple #[.pointer none, .int .i64 83]) ∧ Below w.heap.size w w' := by
  have hk : k < M.length := (List.getElem?_eq_some_iff.1 hm).1
  obtain ⟨g, c, rfl, hg, hgh, d0, d1⟩ := H.at hm
  have c0 := H.c0
  have hh := H.lth
  have HC := Lib.hid (fun (w1 : World) (hc : w1.cell? ⟨h, 0, none⟩ = some (.slice (some ⟨g, 0, none⟩) M.length c)) => thing_some h M.length c g k hk w1 hc)
  have HC2 := Lib.hid (alloc_at (.cells #[.int .i64 at_.kind, .int .i64 at_.int, .string at_.text] 27) (alloc_at (.cells #[.int .i64 8, .int .i64 k, .string ⟨#[]⟩] 27) c0))
  obtain ⟨ap, cp, hap⟩ := H.partLen (List.mem_of_getElem? hm)
  obtain ⟨⟨kd, l⟩, pv0⟩ := m
  obtain ⟨ak, ai, at3⟩ := at_
  dsimp only at *
  subst hap
  unfold Hp.V.val
  dsimp only
  clear H hm hk
  rcases (by omega : ai < 0 ∨ (0 ≤ ai ∧ (l.length : Int) ≤ ai)) with g1 | ⟨g1, g2⟩
  · have z1 : decide (ai < 0) = true := decide_eq_true g1
    go_enter Try.func76, Try.ntmps76
    go_wp2_with fail
    with_reducible refine (HC.out _ HC2.out).mono ?_
    rintro e w1 ⟨rfl, hb⟩
    have HB : Hid (Below w.heap.size w w1) := ((((Below.refl _ _).alloc (Nat.le_refl _) _).alloc (by simp) _).trans (hb.mono (by simp; omega)))
    have y1 : w1.cell? ⟨w.heap.size + 1, 1, none⟩ = some (.int .i64 ai) := by
      rw [hb.cell (p := ⟨w.heap.size + 1, 1, none⟩) (by simp), World.cell?_alloc_at _ _ _ _ (by simp)]
      rfl
    clear hb
    go_wp2_with fail
    go_quiet (fail)
    go_wp2_with fail
    go_ret2
    exact ⟨rfl, below_drewN HB.out _⟩
  · have z1 : decide (ai < 0) = false := decide_eq_false (by omega)
    have z2 : decide ((l.length : Int) ≤ ai) = true := decide_eq_true g2
    go_enter Try.func76, Try.ntmps76
    go_wp2_with fail
    with_reducible refine (HC.out _ HC2.out).mono ?_
    rintro e w1 ⟨rfl, hb⟩
    have HB : Hid (Below w.heap.size w w1) := ((((Below.refl _ _).alloc (Nat.le_refl _) _).alloc (by simp) _).trans (hb.mono (by simp; omega)))
    have y1 : w1.cell? ⟨w.heap.size + 1, 1, none⟩ = some (.int .i64 ai) := by
      rw [hb.cell (p := ⟨w.heap.size + 1, 1, none⟩) (by simp), World.cell?_alloc_at _ _ _ _ (by simp)]
      rfl
    have x0 : w1.cell? ⟨g, k * 2, none⟩ = some (.int .i64 kd) := (HB.out.cell (p := ⟨g, k * 2, none⟩) hg).trans d0
    have x1 : w1.cell? ⟨g, k * 2 + 1, none⟩ = some (.slice ap l.length cp) := (HB.out.cell (p := ⟨g, k * 2 + 1, none⟩) hg).trans d1
    clear hb
    go_wp2_with fail
    go_quiet (fail)
    go_wp2_with fail
    go_ret2
    exact ⟨rfl, below_drewN HB.out _⟩
set_option maxHeartbeats 4000000 in
set_option maxRecDepth 100000 in
theorem part_in {h k ty : Nat} {O : Nat → Prop} {vt : Value} {M : List (Hp.Th × Value)} {m : Hp.Th × Value} (ak : Int) (j : Nat) (at3 : ByteArray) (w : World) (H : HpAt w ty h O vt M) (hm : M[k]? = some m) (hl : m.1.parts.length ≤ 1000000) (hj : j < m.1.parts.length) (pg cp : Nat) (hs : m.2 = .slice (some ⟨pg, 0, none⟩) m.1.parts.length cp) :
    Calls Try.prog 76 #[.pointer (some ⟨h, 0, none⟩), .agg #[.int .i64 8, .int .i64 k, .string ⟨#[]⟩], .agg #[.int .i64 ak, .int .i64 j, .string at3]] w fun e w' => e = .returned (.tuple #[.pointer (some ⟨pg, j * 3, none⟩), .int .i64 0]) ∧ Below w.heap.size w w' := by
  have hk : k < M.length := (List.getElem?_eq_some_iff.1 hm).1
  obtain ⟨g, c, rfl, hg, hgh, d0, d1⟩ := H.at hm
  have c0 := H.c0
  have hh := H.lth
  have HC := Lib.hid (fun (w1 : World) (hc : w1.cell? ⟨h, 0, none⟩ = some (.slice (some ⟨g, 0, none⟩) M.length c)) => thing_some h M.length c g k hk w1 hc)
  have HC2 := Lib.hid (alloc_at (.cells #[.int .i64 ak, .int .i64 j, .string at3] 27) (alloc_at (.cells #[.int .i64 8, .int .i64 k, .string ⟨#[]⟩] 27) c0))
  obtain ⟨⟨kd, l⟩, pv0⟩ := m
  dsimp only at *
  subst hs
  clear H hm hk
  have hg1 : (0 : Int) ≤ j := by omega
  have hg2 : (j : Int) < l.length := by omega
  have z1 : decide ((j : Int) < 0) = false := decide_eq_false (by omega)
  have z2 : decide (l.length ≤ j) = false := decide_eq_false (by omega)
  have z3 : decide ((l.length : Int) ≤ (j : Int)) = false := decide_eq_false (by omega)
  go_enter Try.func76, Try.ntmps76
  go_wp2_with fail
  with_reducible refine (HC.out _ HC2.out).mono ?_
  rintro e w1 ⟨rfl, hb⟩
  have HB : Hid (Below w.heap.size w w1) := ((((Below.refl _ _).alloc (Nat.le_refl _) _).alloc (by simp) _).trans (hb.mono (by simp; omega)))
  have y1 : w1.cell? ⟨w.heap.size + 1, 1, none⟩ = some (.int .i64 j) := by
    rw [hb.cell (p := ⟨w.heap.size + 1, 1, none⟩) (by simp), World.cell?_alloc_at _ _ _ _ (by simp)]
    rfl
  have x0 : w1.cell? ⟨g, k * 2, none⟩ = some (.int .i64 kd) := (HB.out.cell (p := ⟨g, k * 2, none⟩) hg).trans d0
  have x1 : w1.cell? ⟨g, k * 2 + 1, none⟩ = some (.slice (some ⟨pg, 0, none⟩) l.length cp) := (HB.out.cell (p := ⟨g, k * 2 + 1, none⟩) hg).trans d1
  clear hb
  go_wp2_with fail
  go_quiet (fail)
  go_wp2_with fail
  go_quiet (fail)
  go_wp2_with fail
  go_ret2
  exact ⟨by simp, below_drewN (below_drewN HB.out _) _⟩
end Go.Proofs.Ythbnhneibpoooaa
/- The heap's get, put. -/
namespace Go.Proofs.Ythbnhneibpoooaa
open Go.RowKit
set_option linter.unusedVariables false
set_option linter.unusedSimpArgs false
/-- Three stores into a block of three cells. -/
theorem three_set (w : World) (g : Nat) (t : TypeId) (a b c x y z : Value) (h : w.heap[g]? = some (.cells #[a, b, c] t (0, 0))) :
    (((w.setCell ⟨g, 0, none⟩ x).setCell ⟨g, 1, none⟩ y).setCell ⟨g, 2, none⟩ z).heap[g]? = some (.cells #[x, y, z] t (0, 0)) := by
  have e1 := heap_setCell_same _ g 0 _ _ x h
  have e2 := heap_setCell_same _ g 1 _ _ y e1
  exact heap_setCell_same _ g 2 _ _ z e2
theorem below_three {B : Nat} {w w1 : World} {g : Nat} (h : Below B w w1) (hg : B ≤ g) (x y z : Value) : Below B w (((w1.setCell ⟨g, 0, none⟩ x).setCell ⟨g, 1, none⟩ y).setCell ⟨g, 2, none⟩ z) :=
  ((h.setCell (p := ⟨g, 0, none⟩) hg _).setCell (p := ⟨g, 1, none⟩) hg _).setCell (p := ⟨g, 2, none⟩) hg _
set_option maxHeartbeats 4000000 in
set_option maxRecDepth 100000 in
theorem get_out {h k ty : Nat} {O : Nat → Prop} {vt : Value} {M : List (Hp.Th × Value)} {m : Hp.Th × Value} (at_ : Hp.V) (w : World) (H : HpAt w ty h O vt M) (hm : M[k]? = some m) (hl : m.1.parts.length ≤ 1000000) (ha : at_.int < 0 ∨ (m.1.parts.length : Int) ≤ at_.int) :
    Calls Try.prog 58 #[.pointer (some ⟨h, 0, none⟩), .agg #[.int .i64 8, .int .i64 k, .string ⟨#[]⟩], at_.val] w fun e w' => e = .returned (.tuple #[Hp.none.val, .int .i64 83]) ∧ Below w.heap.size w w' := by
  have HP := Lib.hid (fun (w1 : World) (hb : Below w.heap.size w w1) => part_out at_ w1 (H.below hb (Nat.le_refl _)) hm hl ha)
  obtain ⟨ak, ai, at3⟩ := at_
  clear H hm hl ha
  unfold Hp.V.val at *
  dsimp only at *
  go_enter Try.func58, Try.ntmps58
  go_wp2_with fail
  with_reducible refine (HP.out _ ((((Below.refl _ _).alloc (Nat.le_refl _) _).alloc (by simp) _).alloc (by simp; omega) _)).mono ?_
  rintro e w1 ⟨rfl, hb⟩
  have HB : Hid (Below w.heap.size w w1) := (((((Below.refl _ _).alloc (Nat.le_refl _) _).alloc (by simp) _).alloc (by simp; omega) _).trans (hb.mono (by simp; omega)))
  have hz : w1.heap[w.heap.size + 2]? = some (.cells #[.int .i64 0, .int .i64 0, .string ⟨#[]⟩] 27 (0, 0)) := by
    rw [hb.block _ (by simp)]
    exact heap_new (by simp)
  have q0 := cell_of_row w1 _ 0 _ _ _ hz
  have q1 := cell_of_row w1 _ 1 _ _ _ hz
  have q2 := cell_of_row w1 _ 2 _ _ _ hz
  simp only [List.getElem?_toArray, List.getElem?_cons_zero, List.getElem?_cons_succ] at q0 q1 q2
  have k0 := frozen_of_row w1 _ 0 _ _ hz
  have k1 := frozen_of_row w1 _ 1 _ _ hz
  have k2 := frozen_of_row w1 _ 2 _ _ hz
  have HZ := Lib.hid hz
  clear hb hz
  go_wp2_with fail
  refine bodyPost_ret (res2 rfl _ _ (w.heap.size + 2) 27 _ (0, 0) rfl (three_set _ _ _ _ _ _ _ _ _ HZ.out) valD valSize) rfl ?_
  exact ⟨by simp [Hp.none], below_three HB.out (by omega) _ _ _⟩
set_option maxHeartbeats 4000000 in
set_option maxRecDepth 100000 in
theorem get_in {h k ty : Nat} {O : Nat → Prop} {vt : Value} {M : List (Hp.Th × Value)} {m : Hp.Th × Value} (ak : Int) (j : Nat) (at3 : ByteArray) (x : Hp.V) (w : World) (H : HpAt w ty h O vt M) (hm : M[k]? = some m) (hl : m.1.parts.length ≤ 1000000) (hx : m.1.parts[j]? = some x) :
    Calls Try.prog 58 #[.pointer (some ⟨h, 0, none⟩), .agg #[.int .i64 8, .int .i64 k, .string ⟨#[]⟩], .agg #[.int .i64 ak, .int .i64 j, .string at3]] w fun e w' => e = .returned (.tuple #[x.val, .int .i64 0]) ∧ Below w.heap.size w w' := by
  obtain ⟨pg, cp, hs, hpg, hpgh, hpr, d0, d1, d2⟩ := H.part (List.mem_of_getElem? hm) hx
  have hj : j < m.1.parts.length := (List.getElem?_eq_some_iff.1 hx).1
  have HP := Lib.hid (fun (w1 : World) (hb : Below w.heap.size w w1) => part_in ak j at3 w1 (H.below hb (Nat.le_refl _)) hm hl hj pg cp hs)
  obtain ⟨xk, xi, xt⟩ := x
  clear H hm hl hx hs hpr hj
  unfold Hp.V.val at *
  dsimp only at *
  go_enter Try.func58, Try.ntmps58
  go_wp2_with fail
  with_reducible refine (HP.out _ ((((Below.refl _ _).alloc (Nat.le_refl _) _).alloc (by simp) _).alloc (by simp; omega) _)).mono ?_
  rintro e w1 ⟨rfl, hb⟩
  have HB : Hid (Below w.heap.size w w1) := (((((Below.refl _ _).alloc (Nat.le_refl _) _).alloc (by simp) _).alloc (by simp; omega) _).trans (hb.mono (by simp; omega)))
  have hz : w1.heap[w.heap.size + 2]? = some (.cells #[.int .i64 0, .int .i64 0, .string ⟨#[]⟩] 27 (0, 0)) := by
    rw [hb.block _ (by simp)]
    exact heap_new (by simp)
  have q0 := cell_of_row w1 _ 0 _ _ _ hz
  have q1 := cell_of_row w1 _ 1 _ _ _ hz
  have q2 := cell_of_row w1 _ 2 _ _ _ hz
  simp only [List.getElem?_toArray, List.getElem?_cons_zero, List.getElem?_cons_succ] at q0 q1 q2
  have k0 := frozen_of_row w1 _ 0 _ _ hz
  have k1 := frozen_of_row w1 _ 1 _ _ hz
  have k2 := frozen_of_row w1 _ 2 _ _ hz
  have x0 : w1.cell? ⟨pg, j * 3, none⟩ = some (.int .i64 xk) := (HB.out.cell (p := ⟨pg, j * 3, none⟩) hpg).trans d0
  have x1 : w1.cell? ⟨pg, j * 3 + 1, none⟩ = some (.int .i64 xi) := (HB.out.cell (p := ⟨pg, j * 3 + 1, none⟩) hpg).trans d1
  have x2 : w1.cell? ⟨pg, j * 3 + 2, none⟩ = some (.string xt) := (HB.out.cell (p := ⟨pg, j * 3 + 2, none⟩) hpg).trans d2
  have HZ := Lib.hid hz
  clear hb hz d0 d1 d2
  go_wp2_with fail
  refine bodyPost_ret (res2 rfl _ _ (w.heap.size + 2) 27 _ (0, 0) rfl (three_set _ _ _ _ _ _ _ _ _ HZ.out) valD valSize) rfl ?_
  exact ⟨by simp, below_three HB.out (by omega) _ _ _⟩
set_option maxHeartbeats 4000000 in
set_option maxRecDepth 100000 in
theorem put_out {h k ty : Nat} {O : Nat → Prop} {vt : Value} {M : List (Hp.Th × Value)} {m : Hp.Th × Value} (at_ x : Hp.V) (w : World) (H : HpAt w ty h O vt M) (hm : M[k]? = some m) (hl : m.1.parts.length ≤ 1000000) (ha : at_.int < 0 ∨ (m.1.parts.length : Int) ≤ at_.int) :
    Calls Try.prog 59 #[.pointer (some ⟨h, 0, none⟩), .agg #[.int .i64 8, .int .i64 k, .string ⟨#[]⟩], at_.val, x.val] w fun e w' => e = .returned (.tuple #[Hp.none.val, .int .i64 83]) ∧ Below w.heap.size w w' := by
  have HP := Lib.hid (fun (w1 : World) (hb : Below w.heap.size w w1) => part_out at_ w1 (H.below hb (Nat.le_refl _)) hm hl ha)
  obtain ⟨ak, ai, at3⟩ := at_
  obtain ⟨xk, xi, xt⟩ := x
  clear H hm hl ha
  unfold Hp.V.val at *
  dsimp only at *
  go_enter Try.func59, Try.ntmps59
  go_wp2_with fail
  with_reducible refine (HP.out _ (((((Below.refl _ _).alloc (Nat.le_refl _) _).alloc (by simp) _).alloc (by simp; omega) _).alloc (by simp; omega) _)).mono ?_
  rintro e w1 ⟨rfl, hb⟩
  have HB : Hid (Below w.heap.size w w1) := ((((((Below.refl _ _).alloc (Nat.le_refl _) _).alloc (by simp) _).alloc (by simp; omega) _).alloc (by simp; omega) _).trans (hb.mono (by simp; omega)))
  have hz : w1.heap[w.heap.size + 3]? = some (.cells #[.int .i64 0, .int .i64 0, .string ⟨#[]⟩] 27 (0, 0)) := by
    rw [hb.block _ (by simp)]
    exact heap_new (by simp)
  have q0 := cell_of_row w1 _ 0 _ _ _ hz
  have q1 := cell_of_row w1 _ 1 _ _ _ hz
  have q2 := cell_of_row w1 _ 2 _ _ _ hz
  simp only [List.getElem?_toArray, List.getElem?_cons_zero, List.getElem?_cons_succ] at q0 q1 q2
  have k0 := frozen_of_row w1 _ 0 _ _ hz
  have k1 := frozen_of_row w1 _ 1 _ _ hz
  have k2 := frozen_of_row w1 _ 2 _ _ hz
  have HZ := Lib.hid hz
  clear hb hz
  go_wp2_with fail
  refine bodyPost_ret (res2 rfl _ _ (w.heap.size + 3) 27 _ (0, 0) rfl (three_set _ _ _ _ _ _ _ _ _ HZ.out) valD valSize) rfl ?_
  exact ⟨by simp [Hp.none], below_three HB.out (by omega) _ _ _⟩
theorem put_end {w w1 w3 : World} {ty h pg g3 : Nat} {O : Nat → Prop} {vt : Value} {M : List (Hp.Th × Value)} (hA : HpAt w3 ty h O vt M) (hG : w1.grownBy w3 (some pg)) (hO : O pg) (hB : Below w.heap.size w w1) (hlt : ∀ b, O b → b ≠ g3) (hg3 : w.heap.size ≤ g3) (x y z : Value) :
    HSt (((w3.setCell ⟨g3, 0, none⟩ x).setCell ⟨g3, 1, none⟩ y).setCell ⟨g3, 2, none⟩ z) ty h O (M.map (·.1)) ∧ Grow O O w (((w3.setCell ⟨g3, 0, none⟩ x).setCell ⟨g3, 1, none⟩ y).setCell ⟨g3, 2, none⟩ z) := by
  have hk : ∀ b, b ≠ g3 → (((w3.setCell ⟨g3, 0, none⟩ x).setCell ⟨g3, 1, none⟩ y).setCell ⟨g3, 2, none⟩ z).heap[b]? = w3.heap[b]? := fun b hb => by
    rw [heap_setCell_other _ _ _ _ hb, heap_setCell_other _ _ _ _ hb, heap_setCell_other _ _ _ _ hb]
  have hs : (((w3.setCell ⟨g3, 0, none⟩ x).setCell ⟨g3, 1, none⟩ y).setCell ⟨g3, 2, none⟩ z).heap.size = w3.heap.size := by simp [World.setCell]
  refine ⟨⟨vt, M, hA.keep (by rw [hs]; exact Nat.le_refl _) fun b hb => hk b (hlt b hb), rfl⟩, ⟨hG.os.trans hB.os, hG.tape.trans hB.tape, hG.output.trans hB.output, by rw [hs]; exact Nat.le_trans hB.size hG.size, fun b hb hno => ?_, fun b hb => .inl hb⟩⟩
  rw [hk b (by omega), hG.block b (by have := hB.size; omega) (fun e => hno (by cases e; exact hO))]
  exact hB.block b hb
/-- What put leaves. -/
def PutPost (ty h : Nat) (O : Nat → Prop) (T : List Hp.Th) (w : World) (e : Ending) (w' : World) : Prop :=
  e = .returned (.tuple #[Hp.void.val, .int .i64 0]) ∧ HSt w' ty h O T ∧ Grow O O w w'
set_option maxHeartbeats 4000000 in
set_option maxRecDepth 100000 in
theorem put_in {h k ty : Nat} {O : Nat → Prop} {vt : Value} {M : List (Hp.Th × Value)} {m : Hp.Th × Value} (ak : Int) (j : Nat) (at3 : ByteArray) (x : Hp.V) (w : World) (H : HpAt w ty h O vt M) (hm : M[k]? = some m) (hl : m.1.parts.length ≤ 1000000) (hj : j < m.1.parts.length) :
    Calls Try.prog 59 #[.pointer (some ⟨h, 0, none⟩), .agg #[.int .i64 8, .int .i64 k, .string ⟨#[]⟩], .agg #[.int .i64 ak, .int .i64 j, .string at3], x.val] w (PutPost ty h O ((M.map (·.1)).set k ⟨m.1.kind, m.1.parts.set j x⟩) w) := by
  obtain ⟨y, hy⟩ : ∃ y, m.1.parts[j]? = some y := ⟨_, List.getElem?_eq_getElem hj⟩
  obtain ⟨pg, cp, hs, hpg, hpgh, hpr, d0, d1, d2⟩ := H.part (List.mem_of_getElem? hm) hy
  have HP := Lib.hid (fun (w1 : World) (hb : Below w.heap.size w w1) => part_in ak j at3 w1 (H.below hb (Nat.le_refl _)) hm hl hj pg cp hs)
  have HH := Lib.hid H
  have HM := Lib.hid hm
  have HS := Lib.hid hs
  have HJ := Lib.hid hj
  have HF : Hid (∀ o, w.frozen? ⟨pg, o, none⟩ = false) := fun o => by
    have := H.parts m (List.mem_of_getElem? hm)
    rw [hs] at this
    rcases this.2 with ⟨h', _⟩ | ⟨g', cap', cur, h', _, hh, _⟩
    · cases h'
    · cases h'
      exact frozen_of_row w _ o _ _ hh
  obtain ⟨xk, xi, xt⟩ := x
  clear H hm hl hs hpr hj hy
  unfold PutPost Hp.V.val at *
  dsimp only at *
  go_enter Try.func59, Try.ntmps59
  go_wp2_with fail
  with_reducible refine (HP.out _ (((((Below.refl _ _).alloc (Nat.le_refl _) _).alloc (by simp) _).alloc (by simp; omega) _).alloc (by simp; omega) _)).mono ?_
  rintro e w1 ⟨rfl, hb⟩
  have HB : Hid (Below w.heap.size w w1) := ((((((Below.refl _ _).alloc (Nat.le_refl _) _).alloc (by simp) _).alloc (by simp; omega) _).alloc (by simp; omega) _).trans (hb.mono (by simp; omega)))
  have hz : w1.heap[w.heap.size + 1 + 1 + 1]? = some (.cells #[.int .i64 0, .int .i64 0, .string ⟨#[]⟩] 27 (0, 0)) := by
    rw [hb.block _ (by simp)]
    exact heap_new (by simp)
  have hz2 : w1.heap[w.heap.size + 2]? = some (.cells #[.int .i64 xk, .int .i64 xi, .string xt] 27 (0, 0)) := by
    rw [hb.block _ (by simp), heap_alloc_old _ _ (by simp)]
    exact heap_new (by simp)
  have q0 := cell_of_row w1 _ 0 _ _ _ hz
  have q1 := cell_of_row w1 _ 1 _ _ _ hz
  have q2 := cell_of_row w1 _ 2 _ _ _ hz
  have r0 := cell_of_row w1 _ 0 _ _ _ hz2
  have r1 := cell_of_row w1 _ 1 _ _ _ hz2
  have r2 := cell_of_row w1 _ 2 _ _ _ hz2
  simp only [List.getElem?_toArray, List.getElem?_cons_zero, List.getElem?_cons_succ] at q0 q1 q2 r0 r1 r2
  have k0 := frozen_of_row w1 _ 0 _ _ hz
  have k1 := frozen_of_row w1 _ 1 _ _ hz
  have k2 := frozen_of_row w1 _ 2 _ _ hz
  have x0 : w1.cell? ⟨pg, j * 3, none⟩ = some (.int .i64 y.kind) := (HB.out.cell (p := ⟨pg, j * 3, none⟩) hpg).trans d0
  have x1 : w1.cell? ⟨pg, j * 3 + 1, none⟩ = some (.int .i64 y.int) := (HB.out.cell (p := ⟨pg, j * 3 + 1, none⟩) hpg).trans d1
  have x2 : w1.cell? ⟨pg, j * 3 + 2, none⟩ = some (.string y.text) := (HB.out.cell (p := ⟨pg, j * 3 + 2, none⟩) hpg).trans d2
  have f0 : w1.frozen? ⟨pg, j * 3, none⟩ = false := (HB.out.frozen (p := ⟨pg, j * 3, none⟩) hpg).trans (HF.out _)
  have f1 : w1.frozen? ⟨pg, j * 3 + 1, none⟩ = false := (HB.out.frozen (p := ⟨pg, j * 3 + 1, none⟩) hpg).trans (HF.out _)
  have f2 : w1.frozen? ⟨pg, j * 3 + 2, none⟩ = false := (HB.out.frozen (p := ⟨pg, j * 3 + 2, none⟩) hpg).trans (HF.out _)
  have HZ := Lib.hid hz
  have hne : pg ≠ w.heap.size + 1 + 1 + 1 := by omega
  have hne2 : w.heap.size + 1 + 1 + 1 ≠ pg := by omega
  have HPut := Lib.hid ((HH.out.below HB.out (Nat.le_refl _)).put HM.out HJ.out HS.out ⟨xk, xi, xt⟩)
  clear hb hz hz2 d0 d1 d2
  go_wp2_with fail
  obtain ⟨hA, hG, hO⟩ := HPut.out
  have hz2 : (((w1.setCell ⟨pg, j * 3, none⟩ (.int .i64 xk)).setCell ⟨pg, j * 3 + 1, none⟩ (.int .i64 xi)).setCell ⟨pg, j * 3 + 2, none⟩ (.string xt)).heap[w.heap.size + 1 + 1 + 1]? = some (.cells #[.int .i64 0, .int .i64 0, .string ⟨#[]⟩] 27 (0, 0)) := by
    rw [heap_setCell_other _ _ _ _ hne2, heap_setCell_other _ _ _ _ hne2, heap_setCell_other _ _ _ _ hne2]
    exact HZ.out
  refine bodyPost_ret (res2 rfl _ _ (w.heap.size + 1 + 1 + 1) 27 _ (0, 0) rfl (three_set _ _ _ _ _ _ (.int .i64 5) (.int .i64 0) (.string ⟨#[]⟩) hz2) valD valSize) rfl ?_
  have hOlt : ∀ b, O b → b ≠ w.heap.size + 1 + 1 + 1 := fun b hb => by have := HH.out.lt b hb; omega
  have hE := put_end hA hG hO HB.out hOlt (by omega) (.int .i64 5) (.int .i64 0) (.string ⟨#[]⟩)
  rw [List.map_set] at hE
  exact ⟨rfl, hE⟩
end Go.Proofs.Ythbnhneibpoooaa
/- The heap's is, truth, zero. -/
namespace Go.Proofs.Ythbnhneibpoooaa
open Go.RowKit
set_option linter.unusedVariables false
set_option linter.unusedSimpArgs false
namespace Hp
/-- By its letter: of a thing's kind, and the value's own. -/
def isL (kd vk l : Int) : Bool :=
  if l = 105 then vk == 1 else if l = 99 then vk == 2 else if l = 112 then kd == 0 else if l = 118 then kd == 1 else if l = 115 then kd == 2 else if l = 98 then kd == 3 else if l = 114 then kd == 4 else true
def letterOk (l : Int) : Prop := l = 46 ∨ l = 105 ∨ l = 99 ∨ l = 112 ∨ l = 118 ∨ l = 115 ∨ l = 98 ∨ l = 114
end Hp
set_option maxHeartbeats 8000000 in
set_option maxRecDepth 100000 in
theorem is_other (h n c : Nat) (a : Option Addr) (v : Hp.V) (l : Int) (hl : Hp.letterOk l) (ht : v.text.size ≤ maxLen) (w : World) (hc : w.cell? ⟨h, 0, none⟩ = some (.slice a n c)) (hv : v.kind ≠ 8) :
    Calls Try.prog 27 #[.pointer (some ⟨h, 0, none⟩), v.val, .int .u8 l] w fun e w' => e = .returned (.bool (Hp.isL (-1) v.kind l)) ∧ Below w.heap.size w w' := by
  have hh := block_lt_of_cell hc
  dsimp only at hh
  have HC := Lib.hid (fun (w1 : World) (hc : w1.cell? ⟨h, 0, none⟩ = some (.slice a n c)) => thing_none h n c a v ht w1 hc (.inl hv))
  have HC2 := Lib.hid (alloc_at (.cells #[.int .i64 v.kind, .int .i64 v.int, .string v.text] 27) hc)
  obtain ⟨vk, vi, vt⟩ := v
  clear hv ht
  unfold Hp.V.val at *
  dsimp only at *
  unfold Hp.letterOk at hl
  rcases hl with rfl | rfl | rfl | rfl | rfl | rfl | rfl | rfl
  all_goals
    go_enter Try.func27, Try.ntmps27
    go_wp2_with fail
    with_reducible refine (HC.out _ HC2.out).mono ?_
    rintro e w1 ⟨rfl, hb⟩
    have HB : Hid (Below w.heap.size w w1) := ((Below.refl _ _).alloc (Nat.le_refl _) _).trans (hb.mono (by simp))
    have y1 : w1.cell? ⟨w.heap.size, 0, none⟩ = some (.int .i64 vk) := by
      rw [hb.cell (p := ⟨w.heap.size, 0, none⟩) (by simp), World.cell?_alloc_at _ _ _ _ rfl]
      rfl
    clear hb
    go_wp2_with fail
    go_ret
    exact ⟨rfl, HB.out⟩
set_option maxHeartbeats 8000000 in
set_option maxRecDepth 100000 in
theorem is_thing {h k ty : Nat} {O : Nat → Prop} {vt : Value} {M : List (Hp.Th × Value)} {m : Hp.Th × Value} (l : Int) (hl : Hp.letterOk l) (w : World) (H : HpAt w ty h O vt M) (hm : M[k]? = some m) :
    Calls Try.prog 27 #[.pointer (some ⟨h, 0, none⟩), .agg #[.int .i64 8, .int .i64 k, .string ⟨#[]⟩], .int .u8 l] w fun e w' => e = .returned (.bool (Hp.isL m.1.kind 8 l)) ∧ Below w.heap.size w w' := by
  have hk : k < M.length := (List.getElem?_eq_some_iff.1 hm).1
  obtain ⟨g, c, rfl, hg, hgh, d0, d1⟩ := H.at hm
  have c0 := H.c0
  have hh := H.lth
  have HC := Lib.hid (fun (w1 : World) (hc : w1.cell? ⟨h, 0, none⟩ = some (.slice (some ⟨g, 0, none⟩) M.length c)) => thing_some h M.length c g k hk w1 hc)
  have HC2 := Lib.hid (alloc_at (.cells #[.int .i64 8, .int .i64 k, .string ⟨#[]⟩] 27) c0)
  obtain ⟨⟨kd, l0⟩, pv0⟩ := m
  dsimp only at *
  clear H hm hk
  unfold Hp.letterOk at hl
  rcases hl with rfl | rfl | rfl | rfl | rfl | rfl | rfl | rfl
  all_goals
    go_enter Try.func27, Try.ntmps27
    go_wp2_with fail
    with_reducible refine (HC.out _ HC2.out).mono ?_
    rintro e w1 ⟨rfl, hb⟩
    have HB : Hid (Below w.heap.size w w1) := ((Below.refl _ _).alloc (Nat.le_refl _) _).trans (hb.mono (by simp))
    have y1 : w1.cell? ⟨w.heap.size, 0, none⟩ = some (.int .i64 8) := by
      rw [hb.cell (p := ⟨w.heap.size, 0, none⟩) (by simp), World.cell?_alloc_at _ _ _ _ rfl]
      rfl
    have x0 : w1.cell? ⟨g, k * 2, none⟩ = some (.int .i64 kd) := (HB.out.cell (p := ⟨g, k * 2, none⟩) hg).trans d0
    clear hb
    go_wp2_with fail
    go_ret
    exact ⟨rfl, HB.out⟩
set_option maxHeartbeats 4000000 in
theorem truth_any (b : Bool) (w : World) : Calls Try.prog 29 #[.bool b] w fun e w' => e = .returned (Hp.truth b).val ∧ Below w.heap.size w w' := by
  cases b
  all_goals
    go_enter Try.func29, Try.ntmps29
    go_wp2_with fail
    refine bodyPost_ret (res1 rfl _ _ w.heap.size 27 _ (0, 0) rfl (heap_alloc_new w _) valD valSize) rfl ?_
    exact ⟨rfl, (Below.refl _ _).alloc (Nat.le_refl _) _⟩
set_option maxHeartbeats 4000000 in
theorem zero_any (n : Int) (w : World) : Calls Try.prog 57 #[.int .i64 n] w fun e w' => e = .returned (.agg #[.int .i64 1, .int .i64 n, .string ⟨#[]⟩]) ∧ Below w.heap.size w w' := by
  go_enter Try.func57, Try.ntmps57
  go_wp2_with fail
  refine bodyPost_ret (res1 rfl _ _ w.heap.size 27 _ (0, 0) rfl (heap_alloc_new w _) valD valSize) rfl ?_
  exact ⟨rfl, (Below.refl _ _).alloc (Nat.le_refl _) _⟩
end Go.Proofs.Ythbnhneibpoooaa
/- The heap's reckon; the reference's reckoned. -/
namespace Go.Proofs.Ythbnhneibpoooaa
open Go.RowKit
set_option linter.unusedVariables false
set_option linter.unusedSimpArgs false
namespace Hp
def reckF (op x y : Int) : V × Int :=
  if (rk op (8 * x) (8 * y)).2 = 10 then (none, 81) else if (rk op (8 * x) (8 * y)).2 = 11 then (none, 82) else (num ((rk op (8 * x) (8 * y)).1 / 8), 0)
theorem rk_bd (op a b : Int) (a1 : -9223372036854775808 ≤ a) (a2 : a ≤ 9223372036854775807) : -9223372036854775808 ≤ (rk op a b).1 ∧ (rk op a b).1 ≤ 9223372036854775807 := by
  have hN : ∀ n : Int, isN n = true → -9223372036854775808 ≤ 8 * n ∧ 8 * n ≤ 9223372036854775807 := fun n h => by have := isN_iff.1 h; omega
  have hM := tmod_bd (a / 8) (b / 8) (by omega) (by omega)
  unfold rk
  split
  · simp
  split
  · simp
  split
  · split
    · exact hN _ (by assumption)
    · simp
  split
  · split
    · exact hN _ (by assumption)
    · simp
  split
  · split
    · exact hN _ (by assumption)
    · simp
  split
  · simp
  split
  · split
    · exact hN _ (by assumption)
    · simp
  · dsimp only; omega
end Hp
set_option maxHeartbeats 4000000 in
set_option maxRecDepth 100000 in
theorem hreckon_any (op : Int) (a b : Hp.V) (w : World) (ha : isN a.int = true) (hb : isN b.int = true) :
    Calls Try.prog 30 #[.int .i64 op, a.val, b.val] w fun e w' => e = .returned (.tuple #[(Hp.reckF op a.int b.int).1.val, .int .i64 (Hp.reckF op a.int b.int).2]) ∧ Below w.heap.size w w' := by
  obtain ⟨ak, ai, at3⟩ := a
  obtain ⟨bk, bi, bt⟩ := b
  dsimp only at *
  have a1 := isN_iff.1 ha
  have b1 := isN_iff.1 hb
  have HA : Hid (intA ai = (8 * ai, 0)) := by unfold Hid intA; rw [ha]; rfl
  have HB : Hid (intA bi = (8 * bi, 0)) := by unfold Hid intA; rw [hb]; rfl
  obtain ⟨r, hr⟩ : ∃ r, rk op (8 * ai) (8 * bi) = r := ⟨_, rfl⟩
  have HK := Lib.hid (fun w => reckon_any op (8 * ai) (8 * bi) w (by omega) (by omega) (by omega) (by omega))
  rw [hr] at HK
  have HRF : Hid (Hp.reckF op ai bi = if r.2 = 10 then (Hp.none, 81) else if r.2 = 11 then (Hp.none, 82) else (Hp.num (r.1 / 8), 0)) := by unfold Hid Hp.reckF; rw [hr]
  have HI := Lib.hid (int_any ai)
  have HJ := Lib.hid (int_any bi)
  rw [HA.out] at HI
  rw [HB.out] at HJ
  rw [HRF.out]
  obtain ⟨r1, r2⟩ := r
  dsimp only at *
  clear ha hb hr HA HB HRF
  unfold Hp.V.val
  dsimp only
  rcases (by omega : r2 = 10 ∨ r2 = 11 ∨ (r2 ≠ 10 ∧ r2 ≠ 11)) with rfl | rfl | ⟨g1, g2⟩
  · rw [if_pos rfl]
    go_enter Try.func30, Try.ntmps30
    go_wp2_with (first | (go_at_call 54; (with_reducible refine (HK.out _).mono ?_); rintro e w1 ⟨rfl, rfl⟩) | (with_reducible refine (HI.out _).mono ?_; rintro e w1 ⟨rfl, rfl⟩) | (with_reducible refine (HJ.out _).mono ?_; rintro e w1 ⟨rfl, rfl⟩))
    refine bodyPost_ret (res2 rfl _ _ (w.heap.size + 1 + 1) 27 _ (0, 0) rfl (heap_new (by simp)) valD valSize) rfl ?_
    exact ⟨rfl, (((Below.refl _ _).alloc (Nat.le_refl _) _).alloc (by simp) _).alloc (by simp; omega) _⟩
  · rw [if_neg (by decide), if_pos rfl]
    go_enter Try.func30, Try.ntmps30
    go_wp2_with (first | (go_at_call 54; (with_reducible refine (HK.out _).mono ?_); rintro e w1 ⟨rfl, rfl⟩) | (with_reducible refine (HI.out _).mono ?_; rintro e w1 ⟨rfl, rfl⟩) | (with_reducible refine (HJ.out _).mono ?_; rintro e w1 ⟨rfl, rfl⟩))
    refine bodyPost_ret (res2 rfl _ _ (w.heap.size + 1 + 1) 27 _ (0, 0) rfl (heap_new (by simp)) valD valSize) rfl ?_
    exact ⟨rfl, (((Below.refl _ _).alloc (Nat.le_refl _) _).alloc (by simp) _).alloc (by simp; omega) _⟩
  · rw [if_neg g1, if_neg g2]
    have q1 := beq_eq_false_iff_ne.2 g1
    have q2 := beq_eq_false_iff_ne.2 g2
    clear g1 g2
    go_enter Try.func30, Try.ntmps30
    go_wp2_with (first | (go_at_call 54; (with_reducible refine (HK.out _).mono ?_); rintro e w1 ⟨rfl, rfl⟩) | (go_at_call 55; (with_reducible refine (value_any _ _).mono ?_); rintro e w1 ⟨rfl, rfl⟩) | (with_reducible refine (HI.out _).mono ?_; rintro e w1 ⟨rfl, rfl⟩) | (with_reducible refine (HJ.out _).mono ?_; rintro e w1 ⟨rfl, rfl⟩))
    refine bodyPost_ret (res2 rfl _ _ (w.heap.size + 1 + 1) 27 _ (0, 0) rfl (heap_new (by simp)) valD valSize) rfl ?_
    exact ⟨rfl, (((Below.refl _ _).alloc (Nat.le_refl _) _).alloc (by simp) _).alloc (by simp; omega) _⟩
end Go.Proofs.Ythbnhneibpoooaa
