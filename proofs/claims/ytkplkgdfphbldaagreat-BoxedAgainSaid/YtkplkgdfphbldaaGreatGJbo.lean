/- The reference's R2.Make: a new row of the items, behind it the tail. -/
import Derived.Deep.DeepCutAuto
import Derived.Test.YtkplkgdfphbldaaGreatGJat
import Derived.Test.YtkplkgdfphbldaaGreatGJav
import Derived.Deep.RegionHeld3
import Derived.Maps.AppendAt
import Derived.Test.YtkplkgdfphbldaaGreatGJau
import Derived.Test.YtkplkgdfphbldaaGreatGJai
import Derived.Test.YtkplkgdfphbldaaGreatGJbn
import Derived.Test.YtkplkgdfphbldaaGreatGJal
set_option linter.unusedVariables false
set_option linter.unusedSimpArgs false
set_option linter.unnecessarySimpa false
namespace Go.Proofs.YtkplkgdfphbldaaGreat
open Go.RowKit
set_option maxRecDepth 100000
set_option linter.unusedVariables false
set_option linter.unusedSimpArgs false
theorem dt_row {w : World} {S : Nat → Prop} {B n : Nat} {v : Value} {M : List (Dt × Value)} (hrow : w.ownsRow B 25 4 v n (flatD M)) (hn : n = M.length) (hS : ∀ b, v.ownBlock = some b → S b) (hk : ∀ m ∈ M, DtAt w S (m.1.valOf m.2) m.1) (k i : Int) (t : ByteArray) : DtAt w S (.agg #[.int .i64 k, .int .i64 i, .string t, v]) (.mk k i t (M.map (·.1))) := by
  subst hn
  rcases own_shape hrow with ⟨rfl, _, e⟩ | ⟨g, cap, rfl, h0, h1, h2, h3⟩
  · have hl := flatD_length M
    rw [e] at hl
    have : M = [] := List.eq_nil_of_length_eq_zero (by simp at hl; omega)
    subst this
    exact .nil k i t
  · have e : M.length = (M.map (·.1)).length := by simp
    rw [e]
    refine .row k i t g 0 cap _ (fun j => (M[j]?.map (·.2)).getD (.slice none 0 0)) (hS g rfl) h1 (fun j x hx => ?_) (fun j x hx => ?_)
    · rw [List.getElem?_map] at hx
      obtain ⟨m, hm, rfl⟩ : ∃ m, M[j]? = some m ∧ m.1 = x := by simpa using hx
      have hj : j < M.length := (List.getElem?_eq_some_iff.1 hm).1
      obtain ⟨f0, f1, f2, f3⟩ := flatD_at M j m hm
      rw [Nat.zero_add]
      refine ⟨?_, ?_, ?_, ?_⟩
      · rw [hrow.cellAt (j * 4) (by omega)]; exact f0
      · rw [hrow.cellAt (j * 4 + 1) (by omega)]; exact f1
      · rw [hrow.cellAt (j * 4 + 2) (by omega)]; exact f2
      · rw [hrow.cellAt (j * 4 + 3) (by omega), f3, hm]; rfl
    · rw [List.getElem?_map] at hx
      obtain ⟨m, hm, rfl⟩ : ∃ m, M[j]? = some m ∧ m.1 = x := by simpa using hx
      rw [hm]
      exact hk m (List.mem_of_getElem? hm)
structure Rm3 (w w3 : World) (a b c d v : Value) (M : List (Dt × Value)) : Prop where
  row : w3.ownsRow (w.heap.size + 1 + 1) 25 4 v M.length (flatD M)
  below : Below w.heap.size w w3
  res : w3.heap[w.heap.size + 1]? = some (.cells #[.int .i64 0, .int .i64 0, .string ⟨#[]⟩, .slice none 0 0] 25 (0, 0))
  box : Cell4 w.heap.size a b c d w3
  size : w.heap.size + 1 + 1 ≤ w3.heap.size
theorem Rm3.shape {w w3 : World} {a b c d v : Value} {M : List (Dt × Value)} (H : Rm3 w w3 a b c d v M) : ∃ ax c, v = .slice ax M.length c := own_slice H.row
theorem Rm3.first {w w3 : World} {a b c d v : Value} {M : List (Dt × Value)} (t : TypeId)
    (hown : w3.ownsRow (w.heap.size + 1 + 1) 25 4 v (0 + M.length) ([] ++ flatD M)) (hg : (((w.alloc (.cells #[a, b, c, d] t)).alloc (.cells #[.int .i64 0, .int .i64 0, .string ⟨#[]⟩, .slice none 0 0] 25)).alloc (.cells #[] 25)).grownBy w3 (Value.slice (some ⟨w.heap.size + 1 + 1, 0, none⟩) 0 0).ownBlock) : Rm3 w w3 a b c d v M := by
  have hne : ∀ j, j < w.heap.size + 1 + 1 → some j ≠ (Value.slice (some ⟨w.heap.size + 1 + 1, 0, none⟩) 0 0).ownBlock := by
    intro j hj e
    simp [Value.ownBlock] at e
    omega
  rw [Nat.zero_add, List.nil_append] at hown
  have hw : Below w.heap.size w (((w.alloc (.cells #[a, b, c, d] t)).alloc (.cells #[.int .i64 0, .int .i64 0, .string ⟨#[]⟩, .slice none 0 0] 25)).alloc (.cells #[] 25)) := (((Below.refl _ _).alloc (Nat.le_refl _) _).alloc (by simp) _).alloc (by simp; omega) _
  have hs : (((w.alloc (.cells #[a, b, c, d] t)).alloc (.cells #[.int .i64 0, .int .i64 0, .string ⟨#[]⟩, .slice none 0 0] 25)).alloc (.cells #[] 25)).heap.size = w.heap.size + 1 + 1 + 1 := by simp
  refine ⟨hown, ⟨hg.os.trans hw.os, hg.tape.trans hw.tape, hg.output.trans hw.output, Nat.le_trans hw.size hg.size, fun k hk => (hg.block k (by omega) (hne k (by omega))).trans (hw.block k hk)⟩, ?_, ?_, by have := hg.size; omega⟩
  · rw [hg.block _ (by omega) (hne _ (by omega)), heap_alloc_old _ _ (by simp)]
    exact heap_new (by simp)
  · have h0 := new4 w a b c d t
    refine Cell4.same (w := w.alloc (.cells #[a, b, c, d] t)) h0 ?_
    rw [hg.block _ (by omega) (hne _ (by omega)), heap_alloc_old _ _ (by simp; omega), heap_alloc_old _ _ (by simp)]
structure Rm6 (B : Nat) (w w6 : World) (d : Dt) (a b c e vd : Value) : Prop where
  data : DtAt w6 (fun k => (B ≤ k ∧ k < w.heap.size) ∨ w.heap.size + 1 + 1 ≤ k) vd d
  below : Below w.heap.size w w6
  res : w6.heap[w.heap.size + 1]? = some (.cells #[.int .i64 0, .int .i64 0, .string ⟨#[]⟩, .slice none 0 0] 25 (0, 0))
  box : Cell4 w.heap.size a b c e w6
theorem Rm6.mk' {B : Nat} {w w3 w5 w6 : World} {a b c d v : Value} {M N : List (Dt × Value)} {g cap n : Nat} (H : Rm3 w w3 a b c d v M) (h5 : Below w3.heap.size w3 w5) (hM : ∀ m ∈ M, DtAt w (fun k => B ≤ k) (m.1.valOf m.2) m.1) (hN : ∀ m ∈ N, DtAt w (fun k => B ≤ k) (m.1.valOf m.2) m.1) (hn : M.length + N.length = n)
    (hown : w6.ownsRow (w.heap.size + 1 + 1) 25 4 (.slice (some ⟨g, 0, none⟩) n cap) n (flatD M ++ flatD N)) (hg : w5.grownBy w6 v.ownBlock) (k : Int) :
    Rm6 B w w6 (.mk k 0 ⟨#[]⟩ (M.map (·.1) ++ N.map (·.1))) a b c d (.agg #[.int .i64 k, .int .i64 0, .string ⟨#[]⟩, .slice (some ⟨g, 0, none⟩) n cap]) := by
  have hz := H.size
  have hz5 := h5.size
  have hlt : ∀ b, v.ownBlock = some b → w.heap.size + 1 + 1 ≤ b := fun b e => (H.row.lt b e).1
  have hb5 : Below w.heap.size w w5 := H.below.trans (h5.mono (by omega))
  have hb : Below w.heap.size w w6 := hb5.grown hg hb5.size (fun b e => by have := hlt b e; omega)
  rw [← flatD_append] at hown
  refine ⟨?_, hb, (hg.block _ (by omega) (fun e => by have := hlt _ e.symm; omega)).trans ((h5.block _ (by omega)).trans H.res), (H.box.below h5 (by omega)).same (hg.block _ (by omega) (fun e => by have := hlt _ e.symm; omega))⟩
  rw [← List.map_append]
  refine dt_row hown (by rw [List.length_append, hn]) (fun q e => .inr ((hown.lt q e).1)) (fun m hm => ?_) k 0 ⟨#[]⟩
  have h1 : DtAt w (fun k => B ≤ k) (m.1.valOf m.2) m.1 := by
    rcases List.mem_append.1 hm with h | h
    · exact hM m h
    · exact hN m h
  exact h1.same (fun q h2 h3 => .inl ⟨h2, h3⟩) hb.size fun q _ h3 => hb.block q h3
def RmPost (B : Nat) (d : Dt) (w : World) (e : Ending) (w' : World) : Prop := ∃ v, e = .returned v ∧ DtAt w' (fun k => B ≤ k) v d ∧ Below w.heap.size w w'
theorem Rm6.fin {B : Nat} {w w6 : World} {d : Dt} {a b c e vd : Value} (H : Rm6 B w w6 d a b c e vd) (hB : B ≤ w.heap.size) (x y z u : Value) : RmPost B d w (.returned vd) ((((w6.setCell ⟨w.heap.size + 1, 0, none⟩ x).setCell ⟨w.heap.size + 1, 1, none⟩ y).setCell ⟨w.heap.size + 1, 2, none⟩ z).setCell ⟨w.heap.size + 1, 3, none⟩ u) :=
  ⟨vd, rfl, (H.data.four (fun k hk e => by omega) _ _ _ _).mono fun k hk _ => by omega, below_four H.below (by omega) _ _ _ _⟩
theorem Rm3.drew {w w3 : World} {a b c d v : Value} {M : List (Dt × Value)} (H : Rm3 w w3 a b c d v M) : Rm3 w w3.drew a b c d v M := ⟨own_drewN H.row 1, H.below.drew, H.res, H.box, H.size⟩
end Go.Proofs.YtkplkgdfphbldaaGreat
namespace Go.Proofs.YtkplkgdfphbldaaGreat
open Go.RowKit
set_option maxRecDepth 100000
set_option linter.unusedVariables false
set_option linter.unusedSimpArgs false
set_option linter.unnecessarySimpa false
theorem res3 {fn : Func} {p q r : Tmp} {ty : TypeId} (h : fn.results = #[.cell p ty, .tmp q, .tmp r]) (tmps : Array Value) (w : World) (g : Nat) (t : TypeId) (cs : Array Value) (fr : Nat × Nat)
    (hp : tmps.getD p undef = .pointer (some ⟨g, 0, none⟩)) (hg : w.heap[g]? = some (.cells cs t fr)) (hd : ∃ fs, Tryz.prog.underlying ty = some (.struct fs)) (hi : (Tryz.prog.info? ty).map (·.size) = some cs.size) :
    (results fn tmps).run Tryz.prog w = .ok (.tuple #[.agg cs, tmps.getD q undef, tmps.getD r undef]) w := by
  obtain ⟨fs, hu⟩ := hd
  have hp' : tmps[p]?.getD undef = .pointer (some ⟨g, 0, none⟩) := by simpa using hp
  simp [results, h, hp', asAddr, run_loadVar_row w g t ty cs fr _ hg hu rfl hi]
def RTOut (r : Option (Dt × Nat)) (w : World) (e : Ending) (w' : World) : Prop :=
  ∃ (d : Dt) (a : Option Addr) (c : Nat) (ok : Bool) (s : Nat), e = .returned (.tuple #[.agg #[.int .i64 d.kind, .int .i64 d.int, .string d.text, .slice a d.list.length c], .int .i64 s, .bool ok]) ∧ DtAt w' (fun b => w.heap.size ≤ b) (.agg #[.int .i64 d.kind, .int .i64 d.int, .string d.text, .slice a d.list.length c]) d ∧ Below w.heap.size w w' ∧ (ok = true → ∃ left, r = some (d, left) ∧ s + left = 200) ∧ (ok = false → r = none)
theorem rtout_no {w w3 : World} (s : Nat) (hs : Below w.heap.size w w3) : RTOut none w (.returned (.tuple #[.agg #[.int .i64 0, .int .i64 0, .string ⟨#[]⟩, .slice none 0 0], .int .i64 s, .bool false])) w3 :=
  ⟨.mk 0 0 ⟨#[]⟩ [], none, 0, false, s, rfl, .nil _ _ _, hs, fun e => (by cases e), fun _ => rfl⟩
theorem rtout_leaf {w w3 : World} {s left : Nat} (hs : Below w.heap.size w w3) (hl : s + left = 200) (k i : Int) (t : ByteArray) : RTOut (some (.mk k i t [], left)) w (.returned (.tuple #[.agg #[.int .i64 k, .int .i64 i, .string t, .slice none 0 0], .int .i64 s, .bool true])) w3 :=
  ⟨.mk k i t [], none, 0, true, s, rfl, .nil k i t, hs, fun _ => ⟨left, rfl, hl⟩, fun e => by cases e⟩
set_option maxHeartbeats 2000000 in
set_option maxRecDepth 100000 in
theorem rtell_no (T : List Hp.Th) (n h : Nat) (v : Hp.V) (deep left s : Nat) (w : World) (hs : s + left = 200) (hno : left = 0 ∨ 32 < deep) :
    Calls Tryz.prog 76 #[.pointer (some ⟨h, 0, none⟩), v.val, .int .i64 deep, .int .i64 s] w (RTOut (Hp.tellF T n v deep left) w) := by
  have e : Hp.tellF T n v deep left = none := by
    cases n with
    | zero => rfl
    | succ n => rw [Hp.tellF, if_pos hno]
  rw [e]
  have HB : Hid (∀ o p, Below w.heap.size w ((w.alloc o).alloc p)) := fun o p => ((Below.refl _ _).alloc (Nat.le_refl _) _).alloc (by simp) _
  unfold Hp.V.val
  by_cases h0 : left = 0
  · have g1 : decide ((200 : Int) ≤ s) = true := decide_eq_true (by omega)
    clear hno h0 e hs
    go_enter Tryz.func76, Tryz.ntmps76
    go_wp2_with fail
    refine bodyPost_ret (res3 rfl _ _ (w.heap.size + 1) 25 _ (0, 0) rfl (heap_new (by simp)) datumD datumSize) rfl ?_
    exact rtout_no s (HB.out _ _)
  · have g1 : decide ((200 : Int) ≤ s) = false := decide_eq_false (by omega)
    have g2 : decide ((32 : Int) < deep) = true := decide_eq_true (by omega)
    clear hno h0 e hs
    go_enter Tryz.func76, Tryz.ntmps76
    go_wp2_with fail
    refine bodyPost_ret (res3 rfl _ _ (w.heap.size + 1) 25 _ (0, 0) rfl (heap_new (by simp)) datumD datumSize) rfl ?_
    exact rtout_no s (HB.out _ _)
set_option maxHeartbeats 8000000 in
set_option maxRecDepth 100000 in
theorem rtell_leaf (h : Nat) (v : Hp.V) (deep left s : Nat) (w : World) (hs : s + left = 200) (h0 : left ≠ 0) (hd : deep ≤ 32) (hk : (v.kind = 1 ∨ v.kind = 2 ∨ v.kind = 4 ∨ v.kind = 0) ∨ (v.kind = 3 ∨ v.kind = 5 ∨ v.kind = 6 ∨ v.kind = 7)) :
    Calls Tryz.prog 76 #[.pointer (some ⟨h, 0, none⟩), v.val, .int .i64 deep, .int .i64 s] w (RTOut (some (Hp.leafD v, left - 1)) w) := by
  have g1 : decide ((200 : Int) ≤ s) = false := decide_eq_false (by omega)
  have g2 : decide ((32 : Int) < deep) = false := decide_eq_false (by omega)
  have g3 : (0 : Int) ≤ s := by omega
  have g4 : (s : Int) ≤ 200 := by omega
  have g5 : IntKind.i64.wrap ((s : Int) + 1) = s + 1 := by rw [IntKind.wrap_i64]; omega
  have HE : Hid (s + 1 + (left - 1) = 200) := by show _ = _; omega
  have HB : Hid (∀ o p q r, Below w.heap.size w ((((w.alloc o).alloc p).alloc q).alloc r)) := fun o p q r => ((((Below.refl _ _).alloc (Nat.le_refl _) _).alloc (by simp) _).alloc (by simp; omega) _).alloc (by simp; omega) _
  obtain ⟨vk, vi, vt⟩ := v
  clear h0 hd hs
  unfold Hp.V.val
  dsimp only at *
  rcases hk with (rfl | rfl | rfl | rfl) | (rfl | rfl | rfl | rfl)
  all_goals
    go_enter Tryz.func76, Tryz.ntmps76
    go_wp2_with fail
    refine bodyPost_ret (res3 rfl _ _ (w.heap.size + 1) 25 _ (0, 0) rfl ((heap_alloc_old _ _ (by simp)).trans ((heap_alloc_old _ _ (by simp)).trans (heap_new (by simp)))) datumD datumSize) rfl ?_
    exact rtout_leaf (s := s + 1) (HB.out _ _ _ _) HE.out _ _ _
end Go.Proofs.YtkplkgdfphbldaaGreat
namespace Go.Proofs.YtkplkgdfphbldaaGreat
open Go.RowKit
set_option linter.unusedVariables false
set_option linter.unusedSimpArgs false
set_option linter.unnecessarySimpa false
theorem rtell_n {h : Nat} {T : List Hp.Th} (n : Nat) (v : Hp.V) (deep left s : Nat) (w : World) (h2 : s + left = 200) (h4 : Hp.may T.length v = true) (h8 : v.kind ≠ 8) :
    Calls Tryz.prog 76 #[.pointer (some ⟨h, 0, none⟩), v.val, .int .i64 deep, .int .i64 s] w (RTOut (Hp.tellF T (n + 1) v deep left) w) := by
  by_cases hno : left = 0 ∨ 32 < deep
  · exact rtell_no _ (n + 1) h v deep left s w h2 hno
  · have e : Hp.tellF T (n + 1) v deep left = some (Hp.leafD v, left - 1) := by
      rw [Hp.tellF, if_neg hno, if_neg h8]
    rw [e]
    refine rtell_leaf h v deep left s w h2 (fun e => hno (.inl e)) (by omega) ?_
    rcases Hp.may_kinds h4 with hk | hk | hk
    · exact .inl hk
    · exact .inr hk
    · exact absurd hk h8
set_option maxHeartbeats 4000000 in
set_option maxRecDepth 100000 in
theorem RTell_any {h : Nat} {O : Nat → Prop} {T : List Hp.Th} (v : Hp.V) (w : World) (H : HSt w 76 h O T) (h8 : v.kind ≠ 8) (ht : v.text.size ≤ maxLen) :
    Calls Tryz.prog 57 #[.pointer (some ⟨h, 0, none⟩), v.val] w (DtOut (Hp.tellT T v) w) := by
  obtain ⟨vt, M, HA, rfl⟩ := H
  have hhl := HA.lth
  obtain ⟨a, c, rfl⟩ := HA.shape
  have HM : Hid (∀ w1, Below w.heap.size w w1 → Calls Tryz.prog 75 #[.pointer (some ⟨h, 0, none⟩), v.val] w1 fun e w' => e = .returned (.bool (Hp.may M.length v)) ∧ Below w1.heap.size w1 w') := fun w1 hb => rmay_any h M.length c a v ht w1 (HA.below hb (Nat.le_refl _)).c0 (HA.below hb (Nat.le_refl _)).lth
  have HHA := Lib.hid HA
  have HW := Lib.hid h8
  have hb1 := ((Below.refl w.heap.size w).alloc (Nat.le_refl _) (.cells #[.int .i64 v.kind, .int .i64 v.int, .string v.text] 78)).alloc (by simp) (.cells #[.int .i64 0, .int .i64 0, .string ⟨#[]⟩, .slice none 0 0] 25)
  have HB1 := Lib.hid hb1
  clear HA h8 hb1
  cases hm : Hp.may M.length v with
  | false =>
    have e : Hp.tellT (M.map (·.1)) v = none := by rw [Hp.tellT, List.length_map, hm]; rfl
    rw [e]
    rw [hm] at HM
    clear e hm
    unfold Hp.V.val at *
    go_enter Tryz.func57, Tryz.ntmps57
    go_wp2_with fail
    with_reducible refine (HM.out _ HB1.out).mono ?_
    rintro e w3 ⟨rfl, hb3⟩
    have hr3 : w3.heap[w.heap.size + 1]? = some (.cells #[.int .i64 0, .int .i64 0, .string ⟨#[]⟩, .slice none 0 0] 25 (0, 0)) := (hb3.block _ (by simp)).trans (heap_new (by simp))
    obtain ⟨t0, t1, t2, t3, y0, y1, y2, y3⟩ := Blk4.of hr3
    have HR3 := Lib.hid hr3
    have HB3 := Lib.hid (HB1.out.trans (hb3.mono (by simp; omega)))
    clear hr3 hb3
    go_wp2_with fail
    refine bodyPost_ret (res2 rfl _ _ (w.heap.size + 1) 25 _ (0, 0) rfl (four_set _ _ _ _ _ _ _ _ _ _ _ HR3.out) datumD datumSize) rfl ?_
    exact dtout_no (below_four HB3.out (by omega) _ _ _ _)
  | true =>
    have HE : Hid (Hp.tellT (M.map (·.1)) v = (Hp.tellF (M.map (·.1)) 200 v 0 200).map (·.1)) := by show _ = _; rw [Hp.tellT, List.length_map, hm]; rfl
    have HMM := Lib.hid hm
    rw [hm] at HM
    clear hm
    have HT : Hid (∀ (w1 : World), HpAt w1 76 h O (.slice a M.length c) M → Calls Tryz.prog 76 #[.pointer (some ⟨h, 0, none⟩), v.val, .int .i64 0, .int .i64 0] w1 (RTOut (Hp.tellF (M.map (·.1)) 200 v 0 200) w1)) := fun w1 h1 =>
      rtell_n (T := M.map (·.1)) 199 v 0 200 0 w1 (by omega) (by rw [List.length_map]; exact HMM.out) HW.out
    rw [HE.out]
    generalize Hp.tellF (M.map (·.1)) 200 v 0 200 = r at *
    clear HE
    unfold Hp.V.val at *
    go_enter Tryz.func57, Tryz.ntmps57
    go_wp2_with fail
    with_reducible refine (HM.out _ HB1.out).mono ?_
    rintro e w3 ⟨rfl, hb3⟩
    have hr3 : w3.heap[w.heap.size + 1]? = some (.cells #[.int .i64 0, .int .i64 0, .string ⟨#[]⟩, .slice none 0 0] 25 (0, 0)) := (hb3.block _ (by simp)).trans (heap_new (by simp))
    have hx3 : w3.heap[w.heap.size]? = some (.cells #[.int .i64 v.kind, .int .i64 v.int, .string v.text] 78 (0, 0)) := (hb3.block _ (by simp; omega)).trans ((heap_alloc_old _ _ (by simp)).trans (heap_new rfl))
    have hz3 : w.heap.size + 1 < w3.heap.size := by have := hb3.size; simp at this; omega
    have hz3' : w.heap.size < w3.heap.size := by omega
    have q0 := cell_of_row w3 _ 0 _ _ _ hx3
    have q1 := cell_of_row w3 _ 1 _ _ _ hx3
    have q2 := cell_of_row w3 _ 2 _ _ _ hx3
    simp only [List.getElem?_toArray, List.getElem?_cons_zero, List.getElem?_cons_succ] at q0 q1 q2
    have HR3 := Lib.hid hr3
    have HB3 := Lib.hid (HB1.out.trans (hb3.mono (by simp; omega)))
    have HHA3 := Lib.hid (HHA.out.below HB3.out (Nat.le_refl _))
    clear hr3 hb3 hx3
    go_wp2_with fail
    with_reducible refine (HT.out w3 HHA3.out).mono ?_
    rintro e w5 ⟨d, ad, cd, ok, s5, rfl, hd, hb5, h4, h5⟩
    have hr5 : w5.heap[w.heap.size + 1]? = some (.cells #[.int .i64 0, .int .i64 0, .string ⟨#[]⟩, .slice none 0 0] 25 (0, 0)) := (hb5.block _ hz3).trans HR3.out
    have hz5 : w.heap.size + 1 < w5.heap.size := by have := hb5.size; omega
    obtain ⟨t0, t1, t2, t3, y0, y1, y2, y3⟩ := Blk4.of hr5
    have HR5 := Lib.hid hr5
    have HB5 := Lib.hid (HB3.out.trans (hb5.mono (by omega)))
    have HD5 := Lib.hid hd
    cases ok with
    | false =>
      have hn : r = none := h5 rfl
      clear hr5 hd hb5 h4 h5
      subst hn
      go_wp2_with fail
      refine bodyPost_ret (res2 rfl _ _ (w.heap.size + 1) 25 _ (0, 0) rfl ((heap_alloc_old _ _ (by simpa [World.setCell] using hz5)).trans (four_set _ _ _ _ _ _ _ _ _ _ _ HR5.out)) datumD datumSize) rfl ?_
      exact dtout_no ((below_four HB5.out (by omega) _ _ _ _).alloc (by simp [World.setCell]; omega) _)
    | true =>
      obtain ⟨left, hr, _⟩ := h4 rfl
      clear hr5 hd hb5 h4 h5
      subst hr
      go_wp2_with fail
      refine bodyPost_ret (res2 rfl _ _ (w.heap.size + 1) 25 _ (0, 0) rfl ((heap_alloc_old _ _ (by simpa [World.setCell] using hz5)).trans (four_set _ _ _ _ _ _ _ _ _ _ _ HR5.out)) datumD datumSize) rfl ?_
      have hB := below_four HB5.out (g := w.heap.size + 1) (by omega) (.int .i64 d.kind) (.int .i64 d.int) (.string d.text) (.slice ad d.list.length cd)
      have hD := HD5.out.four (g := w.heap.size + 1) (fun b hb => by omega) (.int .i64 d.kind) (.int .i64 d.int) (.string d.text) (.slice ad d.list.length cd)
      exact ⟨d, ad, cd, rfl, (hD.bel ((Below.refl _ _).alloc (Nat.le_refl _) _) (Nat.le_refl _)).mono fun b hb _ => by omega, hB.alloc (by simp [World.setCell]; omega) _, rfl⟩
end Go.Proofs.YtkplkgdfphbldaaGreat
namespace Go.Proofs.YtkplkgdfphbldaaGreat
open Go.RowKit
set_option linter.unusedVariables false
set_option linter.unusedSimpArgs false
set_option maxRecDepth 100000
namespace Rn
theorem outcomeD : ∃ fs, Tryz.prog.underlying 51 = some (.struct fs) := ⟨_, Tryz.underlying51⟩
theorem outcomeSize : (Tryz.prog.info? 51).map (·.size) = some 8 := by kernel_rfl
structure Res8 (w : World) (b : Nat) (a0 a1 a2 a3 a4 a5 a6 a7 : Value) : Prop where
  c0 : w.cell? ⟨b, 0, none⟩ = some a0
  c1 : w.cell? ⟨b, 1, none⟩ = some a1
  c2 : w.cell? ⟨b, 2, none⟩ = some a2
  c3 : w.cell? ⟨b, 3, none⟩ = some a3
  c4 : w.cell? ⟨b, 4, none⟩ = some a4
  c5 : w.cell? ⟨b, 5, none⟩ = some a5
  c6 : w.cell? ⟨b, 6, none⟩ = some a6
  c7 : w.cell? ⟨b, 7, none⟩ = some a7
  f : ∀ i, w.frozen? ⟨b, i, none⟩ = false
theorem Res8.of {w : World} {b : Nat} {a0 a1 a2 a3 a4 a5 a6 a7 : Value} {ty : TypeId} (h : w.heap[b]? = some (.cells #[a0, a1, a2, a3, a4, a5, a6, a7] ty (0, 0))) : Res8 w b a0 a1 a2 a3 a4 a5 a6 a7 :=
  ⟨cell_of_row w _ 0 _ _ _ h, cell_of_row w _ 1 _ _ _ h, cell_of_row w _ 2 _ _ _ h, cell_of_row w _ 3 _ _ _ h, cell_of_row w _ 4 _ _ _ h, cell_of_row w _ 5 _ _ _ h, cell_of_row w _ 6 _ _ _ h, cell_of_row w _ 7 _ _ _ h, fun i => frozen_of_row w _ i _ _ h⟩
theorem out_set (w : World) (g : Nat) (a0 a1 a2 a3 a4 a5 a6 a7 b0 b1 b2 b3 b4 b5 b6 b7 : Value) {t : TypeId} (h : w.heap[g]? = some (.cells #[a0, a1, a2, a3, a4, a5, a6, a7] t (0, 0))) :
    ((((((((w.setCell ⟨g, 0, none⟩ b0).setCell ⟨g, 1, none⟩ b1).setCell ⟨g, 2, none⟩ b2).setCell ⟨g, 3, none⟩ b3).setCell ⟨g, 4, none⟩ b4).setCell ⟨g, 5, none⟩ b5).setCell ⟨g, 6, none⟩ b6).setCell ⟨g, 7, none⟩ b7).heap[g]? = some (.cells #[b0, b1, b2, b3, b4, b5, b6, b7] t (0, 0)) := by
  have h0 : (w.setCell ⟨g, 0, none⟩ b0).heap[g]? = some (.cells #[b0, a1, a2, a3, a4, a5, a6, a7] t (0, 0)) := heap_setCell_same _ g 0 _ _ b0 h
  have h1 : ((w.setCell ⟨g, 0, none⟩ b0).setCell ⟨g, 1, none⟩ b1).heap[g]? = some (.cells #[b0, b1, a2, a3, a4, a5, a6, a7] t (0, 0)) := heap_setCell_same _ g 1 _ _ b1 h0
  have h2 : (((w.setCell ⟨g, 0, none⟩ b0).setCell ⟨g, 1, none⟩ b1).setCell ⟨g, 2, none⟩ b2).heap[g]? = some (.cells #[b0, b1, b2, a3, a4, a5, a6, a7] t (0, 0)) := heap_setCell_same _ g 2 _ _ b2 h1
  have h3 : ((((w.setCell ⟨g, 0, none⟩ b0).setCell ⟨g, 1, none⟩ b1).setCell ⟨g, 2, none⟩ b2).setCell ⟨g, 3, none⟩ b3).heap[g]? = some (.cells #[b0, b1, b2, b3, a4, a5, a6, a7] t (0, 0)) := heap_setCell_same _ g 3 _ _ b3 h2
  have h4 : (((((w.setCell ⟨g, 0, none⟩ b0).setCell ⟨g, 1, none⟩ b1).setCell ⟨g, 2, none⟩ b2).setCell ⟨g, 3, none⟩ b3).setCell ⟨g, 4, none⟩ b4).heap[g]? = some (.cells #[b0, b1, b2, b3, b4, a5, a6, a7] t (0, 0)) := heap_setCell_same _ g 4 _ _ b4 h3
  have h5 : ((((((w.setCell ⟨g, 0, none⟩ b0).setCell ⟨g, 1, none⟩ b1).setCell ⟨g, 2, none⟩ b2).setCell ⟨g, 3, none⟩ b3).setCell ⟨g, 4, none⟩ b4).setCell ⟨g, 5, none⟩ b5).heap[g]? = some (.cells #[b0, b1, b2, b3, b4, b5, a6, a7] t (0, 0)) := heap_setCell_same _ g 5 _ _ b5 h4
  have h6 : (((((((w.setCell ⟨g, 0, none⟩ b0).setCell ⟨g, 1, none⟩ b1).setCell ⟨g, 2, none⟩ b2).setCell ⟨g, 3, none⟩ b3).setCell ⟨g, 4, none⟩ b4).setCell ⟨g, 5, none⟩ b5).setCell ⟨g, 6, none⟩ b6).heap[g]? = some (.cells #[b0, b1, b2, b3, b4, b5, b6, a7] t (0, 0)) := heap_setCell_same _ g 6 _ _ b6 h5
  have h7 : ((((((((w.setCell ⟨g, 0, none⟩ b0).setCell ⟨g, 1, none⟩ b1).setCell ⟨g, 2, none⟩ b2).setCell ⟨g, 3, none⟩ b3).setCell ⟨g, 4, none⟩ b4).setCell ⟨g, 5, none⟩ b5).setCell ⟨g, 6, none⟩ b6).setCell ⟨g, 7, none⟩ b7).heap[g]? = some (.cells #[b0, b1, b2, b3, b4, b5, b6, b7] t (0, 0)) := heap_setCell_same _ g 7 _ _ b7 h6
  exact h7
structure Boxed (w w1 : World) (cs : Array Value) (t : TypeId) : Prop where
  eq : w1 = w.alloc (.cells cs t)
  below : Below w.heap.size w w1
  size : w1.heap.size = w.heap.size + 1
  blk : w1.heap[w.heap.size]? = some (.cells cs t (0, 0))
theorem boxed (w : World) (cs : Array Value) (t : TypeId) : ∃ w1, Boxed w w1 cs t := ⟨_, rfl, (Below.refl _ _).alloc (Nat.le_refl _) _, by simp, heap_alloc_new w _⟩
theorem cell_set_block (w : World) (v : Value) {m b i j : Nat} (h : b ≠ m) : (w.setCell ⟨m, i, none⟩ v).cell? ⟨b, j, none⟩ = w.cell? ⟨b, j, none⟩ := World.cell?_of_block (a := ⟨b, j, none⟩) (heap_setCell_other _ _ _ _ h)
theorem conv_out {w : World} {a : Option Addr} {n cc : Nat} (l : List UInt8) (hn : n = l.length) (h : w.ownsRow 0 5 1 (.slice a n cc) n (l.map fun b => Value.int .u8 b.toNat)) (k : Nat) : (convert 39 9 (.slice a n cc)).run Tryz.prog (w.drewN k) = .ok (.string ⟨l.toArray⟩) (w.drewN k) := by
  subst hn
  have h := own_drewN h k
  rcases own_shape h with ⟨e, e2, e3⟩ | ⟨g, cap, e, h0, h1, h2, h3⟩
  · simp at e
    obtain ⟨rfl, h0, rfl⟩ := e
    have : l = [] := h0
    subst this
    exact run_convert_bytes_nil _ 39 5 Tryz.underlying39 Tryz.underlying5 _ _ 9 Tryz.underlying9
  · simp at e
    obtain ⟨rfl, rfl⟩ := e
    have hmap : (l.map fun b => (b.toNat : Int)).map (fun x => UInt8.ofNat x.toNat) = l := by
      rw [List.map_map]
      conv => rhs; rw [← List.map_id l]
      apply List.map_congr_left
      intro b _
      simp
    have := run_convert_bytes_arg (w.drewN k) 39 5 Tryz.underlying39 Tryz.underlying5 g 0 l.length cc (l.map fun b => (b.toNat : Int)) (by simp) (fun i hi => ?_) 9 Tryz.underlying9
    · rw [this]
      unfold strOfNums
      rw [hmap]
    · rw [Nat.zero_add, h.cellAt i (by omega)]
      simp [List.getD, List.getElem?_eq_getElem hi]
theorem below8 {B : Nat} {w0 w : World} {g : Nat} (h : Below B w0 w) (hg : B ≤ g) (b0 b1 b2 b3 b4 b5 b6 b7 : Value) : Below B w0 ((((((((w.setCell ⟨g, 0, none⟩ b0).setCell ⟨g, 1, none⟩ b1).setCell ⟨g, 2, none⟩ b2).setCell ⟨g, 3, none⟩ b3).setCell ⟨g, 4, none⟩ b4).setCell ⟨g, 5, none⟩ b5).setCell ⟨g, 6, none⟩ b6).setCell ⟨g, 7, none⟩ b7) :=
  (((((((h.setCell (p := ⟨g, 0, none⟩) hg _).setCell (p := ⟨g, 1, none⟩) hg _).setCell (p := ⟨g, 2, none⟩) hg _).setCell (p := ⟨g, 3, none⟩) hg _).setCell (p := ⟨g, 4, none⟩) hg _).setCell (p := ⟨g, 5, none⟩) hg _).setCell (p := ⟨g, 6, none⟩) hg _).setCell (p := ⟨g, 7, none⟩) hg _
theorem drew_at {w : World} {g : Nat} {o : Option Obj} (h : w.heap[g]? = o) : w.drew.heap[g]? = o := h
theorem five_at {w : World} {q g i0 i1 i2 i3 i4 : Nat} {u0 u1 u2 u3 u4 : Value} {o : Option Obj} (hn : g ≠ q) (h : w.heap[g]? = o) : (((((w.setCell ⟨q, i0, none⟩ u0).setCell ⟨q, i1, none⟩ u1).setCell ⟨q, i2, none⟩ u2).setCell ⟨q, i3, none⟩ u3).setCell ⟨q, i4, none⟩ u4).heap[g]? = o := by
  rw [heap_setCell_other _ _ _ _ hn, heap_setCell_other _ _ _ _ hn, heap_setCell_other _ _ _ _ hn, heap_setCell_other _ _ _ _ hn, heap_setCell_other _ _ _ _ hn]
  exact h
def wfB (s : St) : Bool := match s.vals.getLast? with
  | none => false
  | some v => decide (v.kind ≠ 8)
def outR (s : St) : Option Out := if s.err ≠ 0 then some ⟨s.err, s.out, none, s.steps⟩ else if wfB s = false then none else match s.vals.getLast? with | none => none | some v => some ⟨0, s.out, Hp.tellT s.T v, s.steps⟩
def runR (n : Nat) (e : Ex) (input : List UInt8) (most : Nat) : Option Out := (turns most n (start e input)).bind outR
def RunPost (o : Out) (w : World) (e : Ending) (w' : World) : Prop :=
  ∃ (d : Dt) (a : Option Addr) (c : Nat), e = .returned (.agg #[.int .i64 o.err, .string ⟨o.output.toArray⟩, .int .i64 d.kind, .int .i64 d.int, .string d.text, .slice a d.list.length c, .bool o.shown.isSome, .int .i64 o.steps]) ∧ DtAt w' (fun b => w.heap.size ≤ b) (.agg #[.int .i64 d.kind, .int .i64 d.int, .string d.text, .slice a d.list.length c]) d ∧ Below w.heap.size w w' ∧ d = o.shown.getD (.mk 0 0 ⟨#[]⟩ [])
def st0 (input : List UInt8) : St := ⟨[], [], [], input, [], ⟨4, 0, ⟨#[]⟩⟩, 0, [], [], 0⟩
def wh0 (h : Nat) : Wh := ⟨h, .slice none 0 0, .slice none 0 0, .slice none 0 0, .slice none 0 0, .slice none 0 0, [], []⟩
def rho0 (h m : Nat) : Nat → Nat := fun b => if b = m then 1 else if b = h then 5 else 0
theorem RnO.init {w0 W : World} {h m most : Nat} (input : List UInt8) (hB : Below w0.heap.size w0 W) (hh : w0.heap.size ≤ h) (hhm : h < m) (hh1 : W.heap[h]? = some (.cells #[.slice none 0 0] 76 (0, 0))) (hm1 : W.heap[m]? = some (.cells (mCells (st0 input) most (wh0 h)) 83 (0, 0))) :
    RnO w0 W (rho0 h m) m most (st0 input) (wh0 h) := by
  have hl1 := (Array.getElem?_eq_some_iff.1 hh1).1
  have hl2 := (Array.getElem?_eq_some_iff.1 hm1).1
  have hr : ∀ b, rho0 h m b ≠ 0 → b = m ∨ b = h := fun b e => by
    unfold rho0 at e
    split at e
    · exact .inl (by assumption)
    · split at e
      · exact .inr (by assumption)
      · exact absurd rfl e
  have h5 : rho0 h m h = 5 := by unfold rho0; rw [if_neg (by omega), if_pos rfl]
  have hnil : ∀ r ty size, RowR W (rho0 h m) r ty size 0 (.slice none 0 0) [] := fun r ty size => RowR.none W _ r ty size
  refine ⟨⟨⟨.slice none 0 0, [], ⟨hh1, (hnil 0 _ 2).1, (fun m hm => nomatch hm), (by simp [Value.ownBlock]), (fun m hm => nomatch hm), (fun m hm => nomatch hm), List.Pairwise.nil, ⟨h5, (fun b e => by cases e), (fun m hm => nomatch hm)⟩, fun b e => ?_⟩, rfl⟩, hnil _ _ _, hnil _ _ _, hnil _ _ _, hnil _ _ _, hnil _ _ _, rfl, rfl, (fun x hx => nomatch hx), (fun x hx => nomatch hx), by unfold rho0; rw [if_pos rfl], fun b e => ?_, hB⟩, hm1⟩
  · rcases hr b (by rw [e]; decide) with rfl | rfl <;> omega
  · rcases hr b e with rfl | rfl <;> omega
theorem turns_cases {most n : Nat} {s r : St} (h : turns most n s = some r) : ∃ k, n = k + 1 ∧ May most s ∧ ((r = s ∧ (s.err ≠ 0 ∨ (s.err = 0 ∧ s.todo = []))) ∨ (s.err = 0 ∧ s.todo ≠ [] ∧ ∃ s1, next most s = some s1 ∧ turns most k s1 = some r)) := by
  cases n with
  | zero => cases h
  | succ k =>
    refine ⟨k, rfl, ?_⟩
    unfold turns at h
    cases hm : may most s with
    | false => rw [hm, if_pos rfl] at h; cases h
    | true =>
      rw [hm, if_neg (by decide)] at h
      refine ⟨may_of hm, ?_⟩
      split at h
      · rename_i hc
        cases h
        refine .inl ⟨rfl, ?_⟩
        by_cases he : s.err = 0
        · exact .inr ⟨he, hc.resolve_left (fun h => h he)⟩
        · exact .inl he
      · rename_i hc
        obtain ⟨s1, h1, h2⟩ := Option.bind_eq_some_iff.1 h
        exact .inr ⟨by by_cases he : s.err = 0; exact he; exact absurd (.inl he) hc, fun h => hc (.inr h), s1, h1, h2⟩
structure Lp (w wx : World) (m R most : Nat) (r : St) (gk : Nat) : Prop where
  ex : ∃ ρ q s, RnO w wx ρ m most s q ∧ turns most gk s = some r ∧ ρ R = 0 ∧ wx.heap[R]? = some (.cells #[.int .i64 0, .string ⟨#[]⟩, .int .i64 0, .int .i64 0, .string ⟨#[]⟩, .slice none 0 0, .bool false, .int .i64 0] 51 (0, 0))
theorem tc_set {w : World} {m g q i : Nat} {a b v0 v1 v2 u : Value} (h : w.cell? ⟨m, 0, none⟩ = some a ∧ w.cell? ⟨m, 11, none⟩ = some b ∧ w.cell? ⟨g, 0, none⟩ = some v0 ∧ w.cell? ⟨g, 1, none⟩ = some v1 ∧ w.cell? ⟨g, 2, none⟩ = some v2) (h1 : m ≠ q) (h2 : g ≠ q) :
    (w.setCell ⟨q, i, none⟩ u).cell? ⟨m, 0, none⟩ = some a ∧ (w.setCell ⟨q, i, none⟩ u).cell? ⟨m, 11, none⟩ = some b ∧ (w.setCell ⟨q, i, none⟩ u).cell? ⟨g, 0, none⟩ = some v0 ∧ (w.setCell ⟨q, i, none⟩ u).cell? ⟨g, 1, none⟩ = some v1 ∧ (w.setCell ⟨q, i, none⟩ u).cell? ⟨g, 2, none⟩ = some v2 :=
  ⟨(cell_set_block _ _ h1).trans h.1, (cell_set_block _ _ h1).trans h.2.1, (cell_set_block _ _ h2).trans h.2.2.1, (cell_set_block _ _ h2).trans h.2.2.2.1, (cell_set_block _ _ h2).trans h.2.2.2.2⟩
theorem tc_of {w0 w : World} {ρ : Nat → Nat} {m most : Nat} {s : St} {q : Wh} {v : Hp.V} (h : RnO w0 w ρ m most s q) (hv : s.vals.getLast? = some v) : ∃ g c, (w.cell? ⟨m, 0, none⟩ = some (.pointer (some ⟨q.h, 0, none⟩)) ∧ w.cell? ⟨m, 11, none⟩ = some (.slice (some ⟨g, 0, none⟩) s.vals.length c) ∧ w.cell? ⟨g, 0, none⟩ = some (.int .i64 v.kind) ∧ w.cell? ⟨g, 1, none⟩ = some (.int .i64 v.int) ∧ w.cell? ⟨g, 2, none⟩ = some (.string v.text)) ∧ g < w.heap.size ∧ ρ g = 8 ∧ 0 < s.vals.length ∧ q.vv = .slice (some ⟨g, 0, none⟩) s.vals.length c := by
  have hvr : ∃ l, s.vals.reverse = v :: l := by
    rw [List.getLast?_eq_head?_reverse] at hv
    cases h : s.vals.reverse with
    | nil => rw [h] at hv; cases hv
    | cons u l => rw [h] at hv; cases hv; exact ⟨l, rfl⟩
  obtain ⟨l, hl⟩ := hvr
  have hlen : 0 < s.vals.length := by rw [← List.length_reverse, hl]; simp
  have hrow := h.c.vals
  have hrow1 := hrow.1
  rcases own_shape hrow1 with ⟨_, e2, _⟩ | ⟨g, c, e, h0, h1, h2, h3⟩
  · omega
  · rw [e] at hrow1
    rw [hl] at hrow1
    refine ⟨g, c, ⟨h.cell 0, by rw [h.cell 11, ← e]; rfl, ?_, ?_, ?_⟩, h1, hrow.2 g (by rw [e]; rfl), hlen, e⟩
    · rw [hrow1.cellAt 0 (by omega)]; rfl
    · rw [hrow1.cellAt 1 (by omega)]; rfl
    · rw [hrow1.cellAt 2 (by omega)]; rfl
end Rn
end Go.Proofs.YtkplkgdfphbldaaGreat
namespace Go.Proofs.YtkplkgdfphbldaaGreat
open Go.RowKit
set_option linter.unusedVariables false
set_option linter.unusedSimpArgs false
set_option maxRecDepth 100000
namespace Rn
set_option maxHeartbeats 16000000 in
theorem Run_any {w : World} (e : Ex) (nv dl kv : Value) (input : List UInt8) (most n : Nat) (o : Out) (hmost : most ≤ 1000000) (hx : ExAt w (exV e.kind e.name nv e.const dl kv) e) (hrun : runR n e input most = some o)
    (hC : ∀ W, Below w.heap.size w W → Calls Tryz.prog 27 #[.agg #[.int .i64 e.kind, .string e.name, nv, .int .i64 e.const.kind, .int .i64 e.const.int, .string e.const.text, dl, kv]] W fun e w' => e = .returned (.int .i64 0) ∧ Below W.heap.size W w')
    (hF : ∀ W, Below w.heap.size w W → Calls Tryz.prog 30 #[.agg #[.int .i64 e.kind, .string e.name, nv, .int .i64 e.const.kind, .int .i64 e.const.int, .string e.const.text, dl, kv]] W fun e w' => (∃ a c, e = .returned (.slice a 0 c)) ∧ Below W.heap.size W w') :
    Calls Tryz.prog 34 #[.agg #[.int .i64 e.kind, .string e.name, nv, .int .i64 e.const.kind, .int .i64 e.const.int, .string e.const.text, dl, kv], .string ⟨input.toArray⟩, .int .i64 most] w (RunPost o w) := by
  have g1 : decide ((most : Int) < 0) = false := decide_eq_false (by omega)
  have g2 : decide ((1000000 : Int) < most) = false := decide_eq_false (by omega)
  have g2' : decide (1000000 < most) = false := decide_eq_false (by omega)
  obtain ⟨r, hr, ho⟩ := Option.bind_eq_some_iff.1 hrun
  obtain ⟨⟨na, nn, nc, rfl⟩, ⟨da, dn, dc, rfl⟩, ⟨ka, kn, kc, rfl⟩⟩ := ExAt.slices hx
  obtain ⟨w1, B1⟩ := boxed w #[.int .i64 e.kind, .string e.name, .slice na nn nc, .int .i64 e.const.kind, .int .i64 e.const.int, .string e.const.text, .slice da dn dc, .slice ka kn kc] 28
  obtain ⟨w2, B2⟩ := boxed w1 #[.int .i64 0, .string ⟨#[]⟩, .int .i64 0, .int .i64 0, .string ⟨#[]⟩, .slice none 0 0, .bool false, .int .i64 0] 51
  have hs1 := B1.size
  have hs2 := B2.size
  have hB2 : Below w.heap.size w w2 := B1.below.trans (B2.below.mono B1.below.size)
  have HCK := Lib.hid (hC w2 hB2)
  have HFR := Lib.hid hF
  have HE := Lib.hid hx
  have HR := Lib.hid hr
  have HO := Lib.hid ho
  have HB1 := Lib.hid B1
  have HB2 := Lib.hid B2
  have HB := Lib.hid hB2
  have k1 := (B2.below.block w.heap.size (by omega)).trans B1.blk
  have HK1 := Lib.hid k1
  have hl2 : w.heap.size < w2.heap.size := by omega
  have x0 := cell_of_row w2 w.heap.size 0 _ _ _ k1
  have x1 := cell_of_row w2 w.heap.size 1 _ _ _ k1
  have x2 := cell_of_row w2 w.heap.size 2 _ _ _ k1
  have x3 := cell_of_row w2 w.heap.size 3 _ _ _ k1
  have x4 := cell_of_row w2 w.heap.size 4 _ _ _ k1
  have x5 := cell_of_row w2 w.heap.size 5 _ _ _ k1
  have x6 := cell_of_row w2 w.heap.size 6 _ _ _ k1
  have x7 := cell_of_row w2 w.heap.size 7 _ _ _ k1
  simp only [List.getElem?_toArray, List.getElem?_cons_zero, List.getElem?_cons_succ] at x0 x1 x2 x3 x4 x5 x6 x7
  clear B1 B2 hB2 hC hF hx hr ho hrun k1
  go_enter Tryz.func34, Tryz.ntmps34
  go_wp2_with fail
  rw [← HB1.out.eq, ← HB2.out.eq]
  go_wp2_with fail
  with_reducible refine HCK.out.mono ?_
  rintro e2 w3 ⟨rfl, hb3⟩
  have HB3 : Hid (Below w.heap.size w w3) := HB.out.trans (hb3.mono HB.out.size)
  have k1 := (hb3.block w.heap.size hl2).trans HK1.out
  have HK3 := Lib.hid k1
  have hr3 := (hb3.block w1.heap.size (by omega)).trans HB2.out.blk
  have HR3 := Lib.hid hr3
  have hs3 := hb3.size
  have hl3 : w.heap.size < w3.heap.size := by omega
  have x0 := cell_of_row w3 w.heap.size 0 _ _ _ k1
  have x1 := cell_of_row w3 w.heap.size 1 _ _ _ k1
  have x2 := cell_of_row w3 w.heap.size 2 _ _ _ k1
  have x3 := cell_of_row w3 w.heap.size 3 _ _ _ k1
  have x4 := cell_of_row w3 w.heap.size 4 _ _ _ k1
  have x5 := cell_of_row w3 w.heap.size 5 _ _ _ k1
  have x6 := cell_of_row w3 w.heap.size 6 _ _ _ k1
  have x7 := cell_of_row w3 w.heap.size 7 _ _ _ k1
  simp only [List.getElem?_toArray, List.getElem?_cons_zero, List.getElem?_cons_succ] at x0 x1 x2 x3 x4 x5 x6 x7
  clear hb3 k1 hr3
  go_wp2_with fail
  with_reducible refine (HFR.out _ HB3.out).mono ?_
  rintro e2 w4 ⟨⟨fa, fc, rfl⟩, hb4⟩
  have HB4 : Hid (Below w.heap.size w w4) := HB3.out.trans (hb4.mono HB3.out.size)
  have k1 := (hb4.block w.heap.size hl3).trans HK3.out
  have HK4 := Lib.hid k1
  have hr4 := (hb4.block w1.heap.size (by omega)).trans HR3.out
  have HR4 := Lib.hid hr4
  have hs4 := hb4.size
  have hl4 : w.heap.size < w4.heap.size := by omega
  have x0 := cell_of_row w4 w.heap.size 0 _ _ _ k1
  have x1 := cell_of_row w4 w.heap.size 1 _ _ _ k1
  have x2 := cell_of_row w4 w.heap.size 2 _ _ _ k1
  have x3 := cell_of_row w4 w.heap.size 3 _ _ _ k1
  have x4 := cell_of_row w4 w.heap.size 4 _ _ _ k1
  have x5 := cell_of_row w4 w.heap.size 5 _ _ _ k1
  have x6 := cell_of_row w4 w.heap.size 6 _ _ _ k1
  have x7 := cell_of_row w4 w.heap.size 7 _ _ _ k1
  simp only [List.getElem?_toArray, List.getElem?_cons_zero, List.getElem?_cons_succ] at x0 x1 x2 x3 x4 x5 x6 x7
  obtain ⟨w5, B5⟩ := boxed w4 #[.slice none 0 0] 76
  obtain ⟨w6, B6⟩ := boxed w5 #[.pointer (some ⟨w4.heap.size, 0, none⟩), .slice none 0 0, .slice none 0 0, .string ⟨input.toArray⟩, .slice none 0 0, .int .i64 4, .int .i64 0, .string ⟨#[]⟩, .int .i64 0, .int .i64 most, .slice none 0 0, .slice none 0 0, .int .i64 0] 83
  have hs5 := B5.size
  have hs6 := B6.size
  have HB5 := Lib.hid B5
  have HB6 := Lib.hid B6
  have hB6 : Below w4.heap.size w4 w6 := B5.below.trans (B6.below.mono B5.below.size)
  have HX0 : Hid (RnO w w6 (rho0 w4.heap.size w5.heap.size) w5.heap.size most (st0 input) (wh0 w4.heap.size)) := RnO.init input (HB4.out.trans (hB6.mono HB4.out.size)) HB4.out.size (by omega) ((B6.below.block w4.heap.size (by omega)).trans B5.blk) B6.blk
  have k1 := (hB6.block w.heap.size hl4).trans HK4.out
  have hr6 := (hB6.block w1.heap.size (by omega)).trans HR4.out
  have HR6 := Lib.hid hr6
  have hl6 : w.heap.size < w6.heap.size := by omega
  have y0 := cell_of_row w6 w.heap.size 0 _ _ _ k1
  have y1 := cell_of_row w6 w.heap.size 1 _ _ _ k1
  have y2 := cell_of_row w6 w.heap.size 2 _ _ _ k1
  have y3 := cell_of_row w6 w.heap.size 3 _ _ _ k1
  have y4 := cell_of_row w6 w.heap.size 4 _ _ _ k1
  have y5 := cell_of_row w6 w.heap.size 5 _ _ _ k1
  have y6 := cell_of_row w6 w.heap.size 6 _ _ _ k1
  have y7 := cell_of_row w6 w.heap.size 7 _ _ _ k1
  simp only [List.getElem?_toArray, List.getElem?_cons_zero, List.getElem?_cons_succ] at y0 y1 y2 y3 y4 y5 y6 y7
  have HTD : Hid ((st0 input).todo.length ≤ 10000000) := by show 0 ≤ _; omega
  have HNL := Lib.hid (RowR.none w6 (rho0 w4.heap.size w5.heap.size) 6 125 2)
  have hz6 : Hid (rho0 w4.heap.size w5.heap.size (w.heap.size + 1) = 0) := by
    unfold Hid rho0
    rw [if_neg (by omega), if_neg (by omega)]
  clear hb4 k1 hr4 hr6 B5 B6 hB6
  go_wp2_with fail
  rw [← HB5.out.eq, ← HB6.out.eq]
  obtain ⟨R, hR⟩ : ∃ R, R = w.heap.size + 1 := ⟨_, rfl⟩
  have hR6 := HR6.out
  rw [hs1, ← hR] at hR6
  have hz7 := hz6.out
  rw [← hR] at hz7
  have HRR : Hid (w.heap.size ≤ R) := by unfold Hid; omega
  have HPU := Lib.hid (push_v HX0.out 0 0 e [] (.slice na nn nc) (.slice da dn dc) (.slice ka kn kc) (.slice none 0 0) HE.out HNL.out HTD.out)
  rw [← hR, ← hs5]
  have HR7 := Lib.hid hR6
  have HZ7 := Lib.hid hz7
  obtain ⟨m, hm5⟩ : ∃ m, m = w5.heap.size := ⟨_, rfl⟩
  rw [← hm5] at HX0 HPU HZ7 ⊢
  have hR6l : R < w6.heap.size := (Array.getElem?_eq_some_iff.1 hR6).1
  clear x0 x1 x2 x3 x4 x5 x6 x7 y0 y1 y2 y3 y4 y5 y6 y7 hR6 hz7 hz6 HR6 hs6 hs5 hs4 hs3 hs2 hs1 hl2 hl3 hl4 hl6 hR hm5
  with_reducible refine HPU.out.mono ?_
  rintro e2 w7 ⟨rfl, ρ7, q7, o7, m7⟩
  have hL0 : Lp w w7 m R most r n := by
    have hk := m7.keep R hR6l (.inl HZ7.out)
    exact ⟨⟨ρ7, q7, _, o7, HR.out, hk.2.trans HZ7.out, hk.1.trans HR7.out⟩⟩
  have HL0 := Lib.hid hL0
  clear hL0 o7 m7
  go_wp2_with fail
  go_loopg [] n (fun gk wx => Hid (Lp w wx m R most r gk))
  case atStart => exact HL0.out
  case round =>
    obtain ⟨ρ, q, s, X, ht, hzR, hres⟩ := (hrel : Hid _).out.ex
    obtain ⟨k, rfl, hmay, hcs⟩ := turns_cases ht
    have hmr := X.lt
    have c12 : wr.cell? ⟨m, 12, none⟩ = some (.int .i64 s.err) := X.cell 12
    rcases hcs with ⟨hre, he | ⟨hz, htd⟩⟩ | ⟨he, htd, s1, hs1, ht1⟩
    · have HOUT : Hid (⟨s.err, s.out, none, s.steps⟩ = o) := by
        have h := HO.out
        rw [hre] at h
        unfold outR at h
        rw [if_pos he] at h
        exact Option.some.inj h
      have k1 : (s.err == 0) = false := beq_eq_false_iff_ne.2 he
      have hrow := X.c.out.1
      obtain ⟨ao, co, hov⟩ := X.c.out.slice
      rw [hov] at hrow
      have hconv := fun k => conv_out s.out rfl hrow k
      have hconv1 : (convert 39 9 (.slice ao s.out.length co)).run Tryz.prog wr.drew = .ok (.string ⟨s.out.toArray⟩) wr.drew := hconv 1
      have hconv0 : (convert 39 9 (.slice ao s.out.length co)).run Tryz.prog wr = .ok (.string ⟨s.out.toArray⟩) wr := hconv 0
      have hconvA : ∀ o, (convert 39 9 (.slice ao s.out.length co)).run Tryz.prog (wr.alloc o).drew = .ok (.string ⟨s.out.toArray⟩) (wr.alloc o).drew := fun o => conv_out s.out rfl (hrow.alloc o) 1
      have c4 : wr.cell? ⟨m, 4, none⟩ = some (.slice ao s.out.length co) := by rw [X.cell 4, ← hov]; rfl
      have c6 : wr.cell? ⟨m, 8, none⟩ = some (.int .i64 s.steps) := X.cell 8
      have hl7 : R < wr.heap.size := (Array.getElem?_eq_some_iff.1 hres).1
      obtain ⟨z0, z1, z2, z3, z4, z5, z6, z7, zf⟩ := Res8.of hres
      have y0 := zf 0
      have y1 := zf 1
      have y2 := zf 2
      have y3 := zf 3
      have y4 := zf 4
      have y5 := zf 5
      have y6 := zf 6
      have y7 := zf 7
      have HRES := Lib.hid hres
      have HBB := Lib.hid X.c.below
      have HX := Lib.hid X
      have hmR : m ≠ R := fun e => by have := X.c.me; rw [e, hzR] at this; cases this
      obtain ⟨w7, B7⟩ := boxed wr #[.int .i64 s.err, .string ⟨s.out.toArray⟩, .int .i64 0, .int .i64 0, .string ⟨#[]⟩, .slice none 0 0, .bool false, .int .i64 s.steps] 51
      have hs7 := B7.size
      have X7 := HX.out.bel B7.below
      have m12 : w7.cell? ⟨m, 12, none⟩ = some (.int .i64 s.err) := X7.cell 12
      have hm7 := X7.lt
      have hres7 := (B7.below.block R hl7).trans HRES.out
      have hl8 : R < w7.heap.size := by omega
      have hl9 : wr.heap.size < w7.heap.size := by omega
      have hn7 : wr.heap.size ≠ R := by omega
      have hn8 : R ≠ wr.heap.size := by omega
      have HRES7 := Lib.hid hres7
      have HB7 := Lib.hid B7
      obtain ⟨t0, t1, t2, t3, t4, t5, t6, t7, tf⟩ := Res8.of hres7
      have tf0 := tf 0
      have tf1 := tf 1
      have tf2 := tf 2
      have tf3 := tf 3
      have tf4 := tf 4
      have tf5 := tf 5
      have tf6 := tf 6
      have tf7 := tf 7
      obtain ⟨q0, q1, q2, q3, q4, q5, q6, q7, qf⟩ := Res8.of B7.blk
      clear hres7 tf qf B7 X7 X hrow hconv hres zf hov
      go_wp2_with fail
      go_region
      rw [← HB7.out.eq]
      go_wp2_with fail
      refine bodyPost_ret (res1 rfl _ _ R 51 _ (0, 0) rfl (drew_at (out_set _ _ _ _ _ _ _ _ _ _ _ _ _ _ _ _ _ _ HRES7.out)) outcomeD outcomeSize) rfl ?_
      rw [← HOUT.out]
      refine ⟨.mk 0 0 ⟨#[]⟩ [], none, 0, ?_, .nil _ _ _, ?_, ?_⟩
      · rfl
      · exact (below8 (HBB.out.trans (HB7.out.below.mono HBB.out.size)) HRR.out _ _ _ _ _ _ _ _).drew
      · rfl
    · have hmt : q.MT = [] := by
        have := X.c.mt
        rw [htd] at this
        simpa using this
      obtain ⟨ta, tc, htv⟩ := X.c.todo.slice
      rw [hmt] at htv
      have c10 : wr.cell? ⟨m, 10, none⟩ = some (.slice ta 0 tc) := by
        rw [X.cell 10]
        show some q.tv = _
        rw [htv]
        rfl
      have k1 : (s.err == 0) = true := by rw [hz]; rfl
      have hwf : wfB s = true := by
        have h := HO.out
        rw [hre] at h
        unfold outR at h
        rw [if_neg (by simpa using hz)] at h
        split at h
        · cases h
        · rename_i hw
          exact (by simpa using hw)
      obtain ⟨v, hv, HOUT⟩ : ∃ v, s.vals.getLast? = some v ∧ Hid (⟨s.err, s.out, Hp.tellT s.T v, s.steps⟩ = o) := by
        have h := HO.out
        rw [hre] at h
        unfold outR at h
        rw [if_neg (by simpa using hz)] at h
        split at h
        · cases h
        · split at h
          · cases h
          · rename_i v hv
            exact ⟨v, hv, by rw [hz]; exact Option.some.inj h⟩
      have htx : v.text.size ≤ maxLen := hmay.sm.text v (List.mem_of_getLast? hv)
      have hrow := X.c.out.1
      obtain ⟨ao, co, hov⟩ := X.c.out.slice
      rw [hov] at hrow
      have hconv := fun k => conv_out s.out rfl hrow k
      have hconv1 : (convert 39 9 (.slice ao s.out.length co)).run Tryz.prog wr.drew = .ok (.string ⟨s.out.toArray⟩) wr.drew := hconv 1
      have hconv0 : (convert 39 9 (.slice ao s.out.length co)).run Tryz.prog wr = .ok (.string ⟨s.out.toArray⟩) wr := hconv 0
      have hconvA : ∀ o, (convert 39 9 (.slice ao s.out.length co)).run Tryz.prog (wr.alloc o).drew = .ok (.string ⟨s.out.toArray⟩) (wr.alloc o).drew := fun o => conv_out s.out rfl (hrow.alloc o) 1
      have c4 : wr.cell? ⟨m, 4, none⟩ = some (.slice ao s.out.length co) := by rw [X.cell 4, ← hov]; rfl
      have c6 : wr.cell? ⟨m, 8, none⟩ = some (.int .i64 s.steps) := X.cell 8
      have hl7 : R < wr.heap.size := (Array.getElem?_eq_some_iff.1 hres).1
      obtain ⟨z0, z1, z2, z3, z4, z5, z6, z7, zf⟩ := Res8.of hres
      have y0 := zf 0
      have y1 := zf 1
      have y2 := zf 2
      have y3 := zf 3
      have y4 := zf 4
      have y5 := zf 5
      have y6 := zf 6
      have y7 := zf 7
      have HRES := Lib.hid hres
      have HBB := Lib.hid X.c.below
      have HX := Lib.hid X
      have hmR : m ≠ R := fun e => by have := X.c.me; rw [e, hzR] at this; cases this
      obtain ⟨w7, B7⟩ := boxed wr #[.int .i64 s.err, .string ⟨s.out.toArray⟩, .int .i64 0, .int .i64 0, .string ⟨#[]⟩, .slice none 0 0, .bool false, .int .i64 s.steps] 51
      have hs7 := B7.size
      have X7 := HX.out.bel B7.below
      have m12 : w7.cell? ⟨m, 12, none⟩ = some (.int .i64 s.err) := X7.cell 12
      have hm7 := X7.lt
      have hres7 := (B7.below.block R hl7).trans HRES.out
      have hl8 : R < w7.heap.size := by omega
      have hl9 : wr.heap.size < w7.heap.size := by omega
      have hn7 : wr.heap.size ≠ R := by omega
      have hn8 : R ≠ wr.heap.size := by omega
      have HRES7 := Lib.hid hres7
      have HB7 := Lib.hid B7
      obtain ⟨g, vc, hsc, hgl, hg8, hvl, _⟩ := tc_of X7 hv
      have hgn : g ≠ wr.heap.size := fun e => by
        have := (X.c.lo g (by rw [hg8]; decide)).2
        omega
      have hgR : g ≠ R := fun e => by rw [e, hzR] at hg8; cases hg8
      have hmn : m ≠ wr.heap.size := by have := X.lt; omega
      have hvl2 : (0 : Int) < s.vals.length := by omega
      obtain ⟨m0, m11, g0, g1, g2⟩ := id hsc
      have HF7 : Hid (w7.cell? ⟨m, 0, none⟩ = some (.pointer (some ⟨q.h, 0, none⟩)) ∧ w7.cell? ⟨m, 11, none⟩ = some (.slice (some ⟨g, 0, none⟩) s.vals.length vc) ∧ w7.cell? ⟨g, 0, none⟩ = some (.int .i64 v.kind) ∧ w7.cell? ⟨g, 1, none⟩ = some (.int .i64 v.int) ∧ w7.cell? ⟨g, 2, none⟩ = some (.string v.text)) := hsc
      have HF7a : Hid (w7.drew.drew.cell? ⟨m, 0, none⟩ = some (.pointer (some ⟨q.h, 0, none⟩)) ∧ w7.drew.drew.cell? ⟨m, 11, none⟩ = some (.slice (some ⟨g, 0, none⟩) s.vals.length vc) ∧ w7.drew.drew.cell? ⟨g, 0, none⟩ = some (.int .i64 v.kind) ∧ w7.drew.drew.cell? ⟨g, 1, none⟩ = some (.int .i64 v.int) ∧ w7.drew.drew.cell? ⟨g, 2, none⟩ = some (.string v.text)) := hsc
      have HF7b : Hid (w7.drew.cell? ⟨m, 0, none⟩ = some (.pointer (some ⟨q.h, 0, none⟩)) ∧ w7.drew.cell? ⟨m, 11, none⟩ = some (.slice (some ⟨g, 0, none⟩) s.vals.length vc) ∧ w7.drew.cell? ⟨g, 0, none⟩ = some (.int .i64 v.kind) ∧ w7.drew.cell? ⟨g, 1, none⟩ = some (.int .i64 v.int) ∧ w7.drew.cell? ⟨g, 2, none⟩ = some (.string v.text)) := hsc
      have HTL := Lib.hid (RTell_any v w7.drew.drew (X7.bel ((Below.refl _ _).drew.drew)).c.heap (by unfold wfB at hwf; rw [hv] at hwf; simpa using hwf) htx)
      unfold Hp.V.val at HTL
      obtain ⟨q0, q1, q2, q3, q4, q5, q6, q7, qf⟩ := Res8.of B7.blk
      have hbq := B7.blk
      have HBQ := Lib.hid hbq
      have X7L := Lib.hid X7
      have HSC := Lib.hid hsc
      rw [hz] at HB7 m12
      clear X7 B7 hres7 qf hbq X hrow hconv hres zf hov hsc
      go_wp2_with fail
      go_region
      rw [← HB7.out.eq]
      go_wp2_with fail
      go_region_held3 (fun w' => w'.cell? ⟨m, 0, none⟩ = some (.pointer (some ⟨q.h, 0, none⟩)) ∧ w'.cell? ⟨m, 11, none⟩ = some (.slice (some ⟨g, 0, none⟩) s.vals.length vc) ∧ w'.cell? ⟨g, 0, none⟩ = some (.int .i64 v.kind) ∧ w'.cell? ⟨g, 1, none⟩ = some (.int .i64 v.int) ∧ w'.cell? ⟨g, 2, none⟩ = some (.string v.text))
        (first | with_reducible exact HF7a.out | with_reducible exact HF7.out | with_reducible exact HF7b.out | with_reducible exact HF8.out | with_reducible exact HF9.out _ _ _ _ | with_reducible exact HF10.out _ _ _ _ _)
        (first
          | (go_at_call 57; (with_reducible refine HTL.out.mono ?_); rintro e w8 ⟨d, ad, cd, rfl, hdt, hb8, hde⟩; have hb78 : Below w7.heap.size w7 w8 := (((Below.refl _ _).drew).drew).trans hb8; have HDT := Lib.hid hdt; have HDE := Lib.hid hde; have HB78 := Lib.hid hb78; have X8 := X7L.out.bel hb78; have n1 := (hb78.cell (p := ⟨m, 0, none⟩) hm7).trans HSC.out.1; have n2 := (hb78.cell (p := ⟨m, 11, none⟩) hm7).trans HSC.out.2.1; have n3 := (hb78.cell (p := ⟨g, 0, none⟩) hgl).trans HSC.out.2.2.1; have n4 := (hb78.cell (p := ⟨g, 1, none⟩) hgl).trans HSC.out.2.2.2.1; have n5 := (hb78.cell (p := ⟨g, 2, none⟩) hgl).trans HSC.out.2.2.2.2; have HF8 : Hid (w8.cell? ⟨m, 0, none⟩ = some (.pointer (some ⟨q.h, 0, none⟩)) ∧ w8.cell? ⟨m, 11, none⟩ = some (.slice (some ⟨g, 0, none⟩) s.vals.length vc) ∧ w8.cell? ⟨g, 0, none⟩ = some (.int .i64 v.kind) ∧ w8.cell? ⟨g, 1, none⟩ = some (.int .i64 v.int) ∧ w8.cell? ⟨g, 2, none⟩ = some (.string v.text)) := ⟨n1, n2, n3, n4, n5⟩; have HF9 : Hid (∀ u0 u1 u2 u3 : Value, ((((w8.setCell ⟨wr.heap.size, 2, none⟩ u0).setCell ⟨wr.heap.size, 2 + 1, none⟩ u1).setCell ⟨wr.heap.size, 2 + 2, none⟩ u2).setCell ⟨wr.heap.size, 2 + 3, none⟩ u3).cell? ⟨m, 0, none⟩ = some (.pointer (some ⟨q.h, 0, none⟩)) ∧ ((((w8.setCell ⟨wr.heap.size, 2, none⟩ u0).setCell ⟨wr.heap.size, 2 + 1, none⟩ u1).setCell ⟨wr.heap.size, 2 + 2, none⟩ u2).setCell ⟨wr.heap.size, 2 + 3, none⟩ u3).cell? ⟨m, 11, none⟩ = some (.slice (some ⟨g, 0, none⟩) s.vals.length vc) ∧ ((((w8.setCell ⟨wr.heap.size, 2, none⟩ u0).setCell ⟨wr.heap.size, 2 + 1, none⟩ u1).setCell ⟨wr.heap.size, 2 + 2, none⟩ u2).setCell ⟨wr.heap.size, 2 + 3, none⟩ u3).cell? ⟨g, 0, none⟩ = some (.int .i64 v.kind) ∧ ((((w8.setCell ⟨wr.heap.size, 2, none⟩ u0).setCell ⟨wr.heap.size, 2 + 1, none⟩ u1).setCell ⟨wr.heap.size, 2 + 2, none⟩ u2).setCell ⟨wr.heap.size, 2 + 3, none⟩ u3).cell? ⟨g, 1, none⟩ = some (.int .i64 v.int) ∧ ((((w8.setCell ⟨wr.heap.size, 2, none⟩ u0).setCell ⟨wr.heap.size, 2 + 1, none⟩ u1).setCell ⟨wr.heap.size, 2 + 2, none⟩ u2).setCell ⟨wr.heap.size, 2 + 3, none⟩ u3).cell? ⟨g, 2, none⟩ = some (.string v.text)) := fun u0 u1 u2 u3 => tc_set (tc_set (tc_set (tc_set HF8.out hmn hgn) hmn hgn) hmn hgn) hmn hgn; have HF10 : Hid (∀ u0 u1 u2 u3 u4 : Value, (((((w8.setCell ⟨wr.heap.size, 2, none⟩ u0).setCell ⟨wr.heap.size, 2 + 1, none⟩ u1).setCell ⟨wr.heap.size, 2 + 2, none⟩ u2).setCell ⟨wr.heap.size, 2 + 3, none⟩ u3).setCell ⟨wr.heap.size, 6, none⟩ u4).cell? ⟨m, 0, none⟩ = some (.pointer (some ⟨q.h, 0, none⟩)) ∧ (((((w8.setCell ⟨wr.heap.size, 2, none⟩ u0).setCell ⟨wr.heap.size, 2 + 1, none⟩ u1).setCell ⟨wr.heap.size, 2 + 2, none⟩ u2).setCell ⟨wr.heap.size, 2 + 3, none⟩ u3).setCell ⟨wr.heap.size, 6, none⟩ u4).cell? ⟨m, 11, none⟩ = some (.slice (some ⟨g, 0, none⟩) s.vals.length vc) ∧ (((((w8.setCell ⟨wr.heap.size, 2, none⟩ u0).setCell ⟨wr.heap.size, 2 + 1, none⟩ u1).setCell ⟨wr.heap.size, 2 + 2, none⟩ u2).setCell ⟨wr.heap.size, 2 + 3, none⟩ u3).setCell ⟨wr.heap.size, 6, none⟩ u4).cell? ⟨g, 0, none⟩ = some (.int .i64 v.kind) ∧ (((((w8.setCell ⟨wr.heap.size, 2, none⟩ u0).setCell ⟨wr.heap.size, 2 + 1, none⟩ u1).setCell ⟨wr.heap.size, 2 + 2, none⟩ u2).setCell ⟨wr.heap.size, 2 + 3, none⟩ u3).setCell ⟨wr.heap.size, 6, none⟩ u4).cell? ⟨g, 1, none⟩ = some (.int .i64 v.int) ∧ (((((w8.setCell ⟨wr.heap.size, 2, none⟩ u0).setCell ⟨wr.heap.size, 2 + 1, none⟩ u1).setCell ⟨wr.heap.size, 2 + 2, none⟩ u2).setCell ⟨wr.heap.size, 2 + 3, none⟩ u3).setCell ⟨wr.heap.size, 6, none⟩ u4).cell? ⟨g, 2, none⟩ = some (.string v.text)) := fun u0 u1 u2 u3 u4 => tc_set (HF9.out u0 u1 u2 u3) hmn hgn; have hbq8 := (hb78.block wr.heap.size hl9).trans HBQ.out; have HBQ8 := Lib.hid hbq8; obtain ⟨r0, r1, r2, r3, r4, r5, r6, r7, rf⟩ := Res8.of hbq8; have rf2 := rf 2; have rf3 := rf 3; have rf4 := rf 4; have rf5 := rf 5; have rf6 := rf 6; have hres8 := (hb78.block R hl8).trans HRES7.out; have HRES8 := Lib.hid hres8; obtain ⟨t0, t1, t2, t3, t4, t5, t6, t7, tf⟩ := Res8.of hres8; have tf0 := tf 0; have tf1 := tf 1; have tf2 := tf 2; have tf3 := tf 3; have tf4 := tf 4; have tf5 := tf 5; have tf6 := tf 6; have tf7 := tf 7; have hl88 : R < w8.heap.size := Nat.lt_of_lt_of_le hl8 hb78.size; have hl98 : wr.heap.size < w8.heap.size := Nat.lt_of_lt_of_le hl9 hb78.size; have hm8 := X8.lt; have hg8 : g < w8.heap.size := Nat.lt_of_lt_of_le hgl hb78.size; clear hdt hb8 hde hb78 X8 hbq8 rf hres8 tf n1 n2 n3 n4 n5))
      all_goals
        go_wp2_with fail
        refine bodyPost_ret (res1 rfl _ _ R 51 _ (0, 0) rfl (out_set _ _ _ _ _ _ _ _ _ _ _ _ _ _ _ _ _ _ (five_at hn8 HRES8.out)) outcomeD outcomeSize) rfl ?_
        rw [← HOUT.out, hz]
        have hb8 : Below w.heap.size w w8 := (HBB.out.trans (HB7.out.below.mono HBB.out.size)).trans (HB78.out.mono (by have := HBB.out.size; omega))
        have hq : w.heap.size ≤ wr.heap.size := HBB.out.size
        refine ⟨d, ad, cd, ?_, ?_, ?_, HDE.out⟩
        · rfl
        · refine HDT.out.same (fun b h1 h2 => ?_) ?_ fun b h1 h2 => ?_
          · have h3 : w7.heap.size ≤ b := h1
            omega
          · simp [World.setCell]
          · have h3 : w7.heap.size ≤ b := h1
            have e1 : b ≠ wr.heap.size := by omega
            have e2 : b ≠ R := by omega
            rw [heap_setCell_other _ _ _ _ e2, heap_setCell_other _ _ _ _ e2, heap_setCell_other _ _ _ _ e2, heap_setCell_other _ _ _ _ e2, heap_setCell_other _ _ _ _ e2, heap_setCell_other _ _ _ _ e2, heap_setCell_other _ _ _ _ e2, heap_setCell_other _ _ _ _ e2, heap_setCell_other _ _ _ _ e1, heap_setCell_other _ _ _ _ e1, heap_setCell_other _ _ _ _ e1, heap_setCell_other _ _ _ _ e1, heap_setCell_other _ _ _ _ e1]
        · exact below8 (((((hb8.setCell (p := ⟨wr.heap.size, 2, none⟩) hq _).setCell (p := ⟨wr.heap.size, 3, none⟩) hq _).setCell (p := ⟨wr.heap.size, 4, none⟩) hq _).setCell (p := ⟨wr.heap.size, 5, none⟩) hq _).setCell (p := ⟨wr.heap.size, 6, none⟩) hq _) HRR.out _ _ _ _ _ _ _ _
    · have hl : 0 < s.todo.length := List.length_pos_iff.2 htd
      obtain ⟨ta, tc, htv⟩ := X.c.todo.slice
      have hml : q.MT.length = s.todo.length := by
        have := congrArg List.length X.c.mt
        simpa using this
      have c10 : wr.cell? ⟨m, 10, none⟩ = some (.slice ta s.todo.length tc) := by rw [X.cell 10, ← hml, ← htv]; rfl
      have k1 : (s.err == 0) = true := by rw [he]; rfl
      have hl2 : (0 : Int) < s.todo.length := by omega
      have HN := Lib.hid (next_any X hmost hmay.steps hmay.sm hmay.few hs1)
      have HZR := Lib.hid hzR
      have HRES := Lib.hid hres
      have hRl := (Array.getElem?_eq_some_iff.1 hres).1
      have HT1 := Lib.hid ht1
      clear X ht hmay hs1 ht1 hzR hres htv hml htd
      go_wp2_with fail
      with_reducible refine HN.out.mono ?_
      rintro e2 w8 ⟨rfl, ρ8, q8, o8, m8⟩
      have hL : Hid (Lp w w8 m R most r k) := by
        have hk := m8.keep R hRl (.inl HZR.out)
        exact ⟨⟨ρ8, q8, _, o8, HT1.out, hk.2.trans HZR.out, hk.1.trans HRES.out⟩⟩
      clear o8 m8
      go_wp2_with fail
      go_roundg k
      case measure => omega
      case rel => exact hL.out
end Rn
end Go.Proofs.YtkplkgdfphbldaaGreat
