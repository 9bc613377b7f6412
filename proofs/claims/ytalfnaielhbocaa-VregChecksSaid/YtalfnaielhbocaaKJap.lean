/- The heap's add. -/
import Derived.Deep.AppendLies
import Derived.Outline
import Derived.Test.YtalfnaielhbocaaKJao
import Derived.Test.YtalfnaielhbocaaKJak
import Derived.Test.YtalfnaielhbocaaKJal
import Derived.BigQuiet
import Derived.Deep.QuietTactic
set_option linter.unusedVariables false
set_option linter.unusedSimpArgs false
set_option linter.unnecessarySimpa false
namespace Go.Proofs.Ytalfnaielhbocaa
open Go.RowKit
set_option maxRecDepth 100000
set_option linter.unusedVariables false
set_option linter.unusedSimpArgs false
theorem infoThing : (Try.prog.info? 118).map (fun i => (i.zero, i.size, i.bytes)) = some (some (.agg #[.int .i64 0, .slice none 0 0]), 2, 32) := by kernel_rfl
theorem add_end {w w2 : World} {ty h B : Nat} {O O' : Nat → Prop} {vt : Value} {M : List (Hp.Th × Value)} (H : HpAt w2 ty h O' vt M) (G : GrowB B O O' w w2) (hn : ¬ O' w.heap.size) (x y z : Value) :
    HSt (((w2.setCell ⟨w.heap.size, 0, none⟩ x).setCell ⟨w.heap.size, 1, none⟩ y).setCell ⟨w.heap.size, 2, none⟩ z) ty h O' (M.map (·.1)) ∧ GrowB B O O' w (((w2.setCell ⟨w.heap.size, 0, none⟩ x).setCell ⟨w.heap.size, 1, none⟩ y).setCell ⟨w.heap.size, 2, none⟩ z) := by
  have hk : ∀ b, b ≠ w.heap.size → (((w2.setCell ⟨w.heap.size, 0, none⟩ x).setCell ⟨w.heap.size, 1, none⟩ y).setCell ⟨w.heap.size, 2, none⟩ z).heap[b]? = w2.heap[b]? := fun b hb => by
    rw [heap_setCell_other _ _ _ _ hb, heap_setCell_other _ _ _ _ hb, heap_setCell_other _ _ _ _ hb]
  refine ⟨⟨vt, M, H.keep (by simp [World.setCell]) fun b hb => hk b (fun e => hn (e ▸ hb)), rfl⟩, ⟨G.os, G.tape, G.output, by simp [World.setCell]; exact G.size, fun b hb ho => (hk b (by omega)).trans (G.block b hb ho), G.own⟩⟩
def AddPost (ty h B : Nat) (O : Nat → Prop) (T : List Hp.Th) (t : Hp.Th) (w : World) (e : Ending) (w' : World) : Prop :=
  ∃ O', e = .returned (Hp.V.val ⟨8, T.length, ⟨#[]⟩⟩) ∧ HSt w' ty h O' (T ++ [t]) ∧ GrowB B O O' w w'
set_option maxHeartbeats 2000000 in
set_option maxRecDepth 100000 in
theorem add_any (h : Nat) (O : Nat → Prop) (T : List Hp.Th) (B : Nat) (t : Hp.Th) (pv : Value) (w : World) (H : HSt w 83 h O T) (hp : w.ownsRow B 64 3 pv t.parts.length (Hp.flatV t.parts)) (hB : ∀ b, O b → b < B) (hBw : B ≤ w.heap.size) (hT : T.length ≤ 1000000) :
    Calls Try.prog 53 #[.pointer (some ⟨h, 0, none⟩), .int .i64 t.kind, pv] w (AddPost 83 h B O T t w) := by
  obtain ⟨vt, M, H, hM⟩ := H
  subst hM
  rw [List.length_map] at hT
  obtain ⟨a, c, rfl⟩ := H.shape
  obtain ⟨ap, cp, rfl⟩ : ∃ a c, pv = .slice a t.parts.length c := by
    rcases own_shape hp with ⟨e, e2, _⟩ | ⟨g, c, e, _⟩
    · exact ⟨none, 0, by rw [e, e2]⟩
    · exact ⟨_, c, e⟩
  obtain ⟨i0, hi, hz0, hz1, hz2⟩ := info_parts infoThing
  have HI := Lib.hid hi
  have HZ0 := Lib.hid hz0
  have HZ1 := Lib.hid hz1
  have HZ2 := Lib.hid hz2
  have c0 := H.c0
  have f0 := H.fz
  have hh := H.lth
  have HH := Lib.hid H
  have HP := Lib.hid hp
  have HB := Lib.hid hB
  clear hi hz0 hz1 hz2 H hp hB
  unfold AddPost Hp.V.val
  go_enter Try.func53, Try.ntmps53
  go_wp2_with (at_builtin; refine wpList_append_lies _ rfl (.tmp 11) (.tmp 15) 81 rfl 0 118 i0 _ 2 32 Try.underlying81 HI.out HZ0.out HZ1.out HZ2.out rfl (by decide) (.slice a M.length c) M.length (Hp.thC M) rfl ?a2 ⟨w.heap.size + 1, 0, none⟩ 1 1 [.int .i64 t.kind, .slice ap t.parts.length cp] rfl rfl ?a4 ?a5 (by decide) ?a6 ?a7 (Nat.zero_le _) (w.heap.size + 2) ?a8 ?_)
  case a2 => exact (HH.out.row.alloc _).alloc _
  case a4 => exact new_cells _ (heap_new (by simp))
  case a5 => simp [Value.oneCell']
  case a6 => (simp only [maxLen]; omega)
  case a7 => omega
  case a8 => simp
  intro g cap w1 hown hgr hl hlt
  have HB2 := HH.out.below (((Below.refl w.heap.size w).alloc (Nat.le_refl _) (.cells #[.int .i64 0, .int .i64 0, .string ⟨#[]⟩] 64)).alloc (by simp) (.cells #[.int .i64 t.kind, .slice ap t.parts.length cp] 118)) (Nat.le_refl _)
  have P := HB2.push (t := t) ((HP.out.alloc _).alloc _) HB.out (by simp; omega) hown hgr (by simpa using hl) hlt
  have c1 : w1.cell? ⟨h, 0, none⟩ = some (.slice a M.length c) := (World.cell?_of_block (a := ⟨h, 0, none⟩) (hgr.block h HB2.lth (fun e => HH.out.ne e.symm))).trans HB2.c0
  have f1 : w1.frozen? ⟨h, 0, none⟩ = false := (World.frozen?_of_block (a := ⟨h, 0, none⟩) (hgr.block h HB2.lth (fun e => HH.out.ne e.symm))).trans HB2.fz
  have hz : some w.heap.size ≠ (Value.slice a M.length c).ownBlock := fun e => by have := HH.out.lt _ (HH.out.own.2.1 _ e.symm); omega
  have hq : w1.heap[w.heap.size]? = some (.cells #[.int .i64 0, .int .i64 0, .string ⟨#[]⟩] 64 (0, 0)) := by
    rw [hgr.block w.heap.size (by simp; omega) hz, heap_alloc_old _ _ (by simp)]
    exact heap_alloc_new w _
  have q0 := cell_of_row w1 w.heap.size 0 _ _ _ hq
  have q1 := cell_of_row w1 w.heap.size 1 _ _ _ hq
  have q2 := cell_of_row w1 w.heap.size 2 _ _ _ hq
  simp only [List.getElem?_toArray, List.getElem?_cons_zero, List.getElem?_cons_succ] at q0 q1 q2
  have k0 := frozen_of_row w1 w.heap.size 0 _ _ hq
  have k1 := frozen_of_row w1 w.heap.size 1 _ _ hq
  have k2 := frozen_of_row w1 w.heap.size 2 _ _ hq
  have hne : h ≠ w.heap.size := by omega
  have hne2 : w.heap.size ≠ h := by omega
  have hgN : g ≠ w.heap.size := by
    rcases hl with e | e
    · have := HH.out.lt _ (HH.out.own.2.1 _ e); omega
    · omega
  have hn : ¬ (O w.heap.size ∨ w.heap.size = g ∨ (Value.slice ap t.parts.length cp).ownBlock = some w.heap.size) := by
    rintro (e | e | e)
    · have := HH.out.lt _ e; omega
    · exact hgN e.symm
    · have := (HP.out.lt _ e).2; omega
  have E := add_end P.1 (P.2.pre (((Below.refl w.heap.size w).alloc (Nat.le_refl _) _).alloc (by simp) _)) hn (.int .i64 8) (.int .i64 (M.length : Nat)) (.string ⟨#[]⟩)
  have hr3 : (((((w1.setCell ⟨h, 0, none⟩ (.slice (some ⟨g, 0, none⟩) (M.length + 1) cap)).setCell ⟨w.heap.size, 0, none⟩ (.int .i64 8)).setCell ⟨w.heap.size, 1, none⟩ (.int .i64 (M.length : Nat))).setCell ⟨w.heap.size, 2, none⟩ (.string ⟨#[]⟩))).heap[w.heap.size]? = some (.cells #[.int .i64 8, .int .i64 (M.length : Nat), .string ⟨#[]⟩] 64 (0, 0)) := by
    have e0 : (w1.setCell ⟨h, 0, none⟩ (.slice (some ⟨g, 0, none⟩) (M.length + 1) cap)).heap[w.heap.size]? = some (.cells #[.int .i64 0, .int .i64 0, .string ⟨#[]⟩] 64 (0, 0)) := (heap_setCell_other _ _ _ _ hne2).trans hq
    have e1 := heap_setCell_same _ w.heap.size 0 _ _ (.int .i64 8) e0
    have e2 := heap_setCell_same _ w.heap.size 1 _ _ (.int .i64 (M.length : Nat)) e1
    exact heap_setCell_same _ w.heap.size 2 _ _ (.string ⟨#[]⟩) e2
  have HR3 := Lib.hid hr3
  have HE := Lib.hid E
  clear hr3
  clear E P HB2 hown hgr hl hlt hq hn hz hgN
  go_wp2_with fail
  refine bodyPost_ret (res1 rfl _ _ w.heap.size 64 _ (0, 0) rfl HR3.out valD valSize) rfl ?_
  refine ⟨_, ?_, ?_, HE.out.2⟩
  · simp
  · have := HE.out.1
    simpa using this
end Go.Proofs.Ytalfnaielhbocaa
namespace Go.Proofs.Ytalfnaielhbocaa
open Go.RowKit
set_option maxRecDepth 100000
set_option linter.unusedVariables false
set_option linter.unusedSimpArgs false
theorem alloc_at {w : World} {a : Addr} {u : Value} (o : Obj) (h : w.cell? a = some u) : (w.alloc o).cell? a = some u := by
  have h2 := World.block_lt_of_cell? w _ h
  exact (((Below.refl w.heap.size w).alloc (Nat.le_refl _) o).cell (p := a) h2).trans h
set_option maxHeartbeats 2000000 in
theorem thing_none (h n c : Nat) (a : Option Addr) (v : Hp.V) (ht : v.text.size ≤ maxLen) (w : World) (hc : w.cell? ⟨h, 0, none⟩ = some (.slice a n c)) (hv : v.kind ≠ 8 ∨ Hp.may n v = false) :
    Calls Try.prog 91 #[.pointer (some ⟨h, 0, none⟩), v.val] w fun e w' => e = .returned (.pointer none) ∧ Below w.heap.size w w' := by
  have hh := block_lt_of_cell hc
  dsimp only at hh
  by_cases h8 : v.kind = 8
  · have hm := hv.resolve_left (fun e => e h8)
    have q1 : (v.kind != 8) = false := by rw [h8]; rfl
    have HT := Lib.hid ht
    have HM := Lib.hid (may_any h n c a v HT.out _ (alloc_at (.cells #[.int .i64 v.kind, .int .i64 v.int, .string v.text] 64) hc) (by simp; omega))
    rw [hm] at HM
    clear hm hv h8 ht
    unfold Hp.V.val at *
    go_enter Try.func91, Try.ntmps91
    go_wp2_with fail
    with_reducible refine HM.out.mono ?_
    rintro e w' ⟨rfl, hb⟩
    have HB := Lib.hid hb
    clear hb
    go_wp2_with fail
    go_ret
    exact ⟨rfl, ((Below.refl _ _).alloc (Nat.le_refl _) _).trans (HB.out.mono (by simp))⟩
  · have q1 : (v.kind != 8) = true := by rw [bne_iff_ne]; exact h8
    clear hv h8 ht
    unfold Hp.V.val
    go_enter Try.func91, Try.ntmps91
    go_wp2_with fail
    go_ret
    exact ⟨rfl, (Below.refl _ _).alloc (Nat.le_refl _) _⟩
set_option maxHeartbeats 2000000 in
theorem thing_some (h n c g k : Nat) (hk : k < n) (w : World) (hc : w.cell? ⟨h, 0, none⟩ = some (.slice (some ⟨g, 0, none⟩) n c)) :
    Calls Try.prog 91 #[.pointer (some ⟨h, 0, none⟩), .agg #[.int .i64 8, .int .i64 k, .string ⟨#[]⟩]] w fun e w' => e = .returned (.pointer (some ⟨g, k * 2, none⟩)) ∧ Below w.heap.size w w' := by
  have hh := block_lt_of_cell hc
  dsimp only at hh
  have hm : Hp.may n ⟨8, k, ⟨#[]⟩⟩ = true := by
    show (decide (0 ≤ (k : Int)) && decide ((k : Int) < n)) = true
    simp; omega
  have HM := Lib.hid (may_any h n c (some ⟨g, 0, none⟩) ⟨8, k, ⟨#[]⟩⟩ (Nat.zero_le _) _ (alloc_at (.cells #[.int .i64 8, .int .i64 k, .string ⟨#[]⟩] 64) hc) (by simp; omega))
  rw [hm] at HM
  have hg1 : (0 : Int) ≤ k := by omega
  have hg2 : (k : Int) < n := by omega
  clear hm
  unfold Hp.V.val at *
  go_enter Try.func91, Try.ntmps91
  go_wp2_with fail
  with_reducible refine HM.out.mono ?_
  rintro e w' ⟨rfl, hb⟩
  have HB := Lib.hid hb
  obtain ⟨hcc, hff⟩ := bcellH hb
  have d0 : w'.cell? ⟨h, 0, none⟩ = some (.slice (some ⟨g, 0, none⟩) n c) := by
    rw [hcc h 0 (by simp; omega)]
    exact alloc_at _ hc
  have d1 : w'.cell? ⟨w.heap.size, 1, none⟩ = some (.int .i64 k) := by
    rw [hcc w.heap.size 1 (by simp), World.cell?_alloc_at _ _ _ _ rfl]
    rfl
  clear hb hcc hff
  go_wp2_with fail
  go_quiet (fail)
  go_wp2_with fail
  go_ret
  exact ⟨by simp, below_drewN (((Below.refl _ _).alloc (Nat.le_refl _) _).trans (HB.out.mono (by simp))) _⟩
end Go.Proofs.Ytalfnaielhbocaa
