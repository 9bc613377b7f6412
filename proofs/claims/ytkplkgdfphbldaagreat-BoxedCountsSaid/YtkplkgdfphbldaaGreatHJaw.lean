/- The heap's act: cons, box. -/
import Derived.Test.YtkplkgdfphbldaaGreatHJav
import Derived.StillTailTactics
import Derived.Deep.RegionHeld3
import Derived.Test.YtkplkgdfphbldaaGreatHJao
import Derived.Test.YtkplkgdfphbldaaGreatHJar
namespace Go.Proofs.YtkplkgdfphbldaaGreat
open Go.RowKit
open Go.Lib (hid)
set_option linter.unusedVariables false
set_option linter.unusedSimpArgs false
set_option linter.unnecessarySimpa false
set_option maxRecDepth 100000
theorem two_size_eq (w : World) (o p : Obj) : ((w.alloc o).alloc p).drew.heap.size = w.heap.size + 1 + 1 := by
 show ((w.alloc o).alloc p).heap.size = _
 simp
theorem World.heap_size_alloc (w : World) (o : Obj) : (w.alloc o).heap.size = w.heap.size + 1 := by simp
def Cell4 (g : Nat) (a b c d : Value) (w : World) : Prop := w.cell? ⟨g, 0, none⟩ = some a ∧ w.cell? ⟨g, 1, none⟩ = some b ∧ w.cell? ⟨g, 2, none⟩ = some c ∧ w.cell? ⟨g, 3, none⟩ = some d
theorem Cell4.same {g : Nat} {a b c d : Value} {w w' : World} (h : Cell4 g a b c d w) (hs : w'.heap[g]? = w.heap[g]?) : Cell4 g a b c d w' := by
 have e : ∀ o, w'.cell? ⟨g, o, none⟩ = w.cell? ⟨g, o, none⟩ := fun o => World.cell?_of_block (a := ⟨g, o, none⟩) hs
 unfold Cell4 at *
 rw [e, e, e, e]
 exact h
theorem Cell4.below {g N : Nat} {a b c d : Value} {w w' : World} (h : Cell4 g a b c d w) (hb : Below N w w') (hg : g < N) : Cell4 g a b c d w' := h.same (hb.block g hg)
def mkD (l : List Dt) (b : Dt) : Dt := if b.kind = 5 ∨ b.kind = 6 then .mk b.kind 0 ⟨#[]⟩ (l ++ b.list) else .mk 6 0 ⟨#[]⟩ (l ++ [b])
namespace Hp
def okAt (T : List Th) (q : V × Int) : Bool := isL (kindOf T q.1) q.1.kind q.2
def allOk (T : List Th) (l : List V) (ls : List Int) : Bool := (l.zip ls).all (okAt T)
theorem may_thing' {n : Nat} {v : V} (h : may n v = true) (h8 : v.kind = 8) : ∃ k, k < n ∧ v = ⟨8, k, ⟨#[]⟩⟩ := by
 obtain ⟨vk, vi, vt⟩ := v
 dsimp only at h8
 subst h8
 simp [may] at h
 exact ⟨vi.toNat, by omega, by rw [h.1]; congr; omega⟩
end Hp
section
variable {w : World} {h : Nat} {O : Nat → Prop} {T : List Hp.Th}
end
theorem rnum_any (n : Int) (w : World) : Calls Tryz.prog 116 #[.int .i64 n] w fun e w' => e = .returned (.agg #[.int .i64 1, .int .i64 n, .string ⟨#[]⟩]) ∧ Below w.heap.size w w' := by
 go_enter Tryz.func116, Tryz.ntmps116
 go_wp2_with fail
 refine bodyPost_ret (res1 rfl _ _ w.heap.size 78 _ (0, 0) rfl (heap_alloc_new w _) valD valSize) rfl ?_
 exact ⟨rfl, (Below.refl _ _).alloc (Nat.le_refl _) _⟩
set_option maxHeartbeats 2000000 in
theorem rkind_other (hv : Value) (k i : Int) (t : ByteArray) (hk : k ≠ 8) (w : World) : Calls Tryz.prog 95 #[hv, .agg #[.int .i64 k, .int .i64 i, .string t]] w fun e w' => e = .returned (.int .i64 (-1)) ∧ Below w.heap.size w w' := by
 have q : (k != 8) = true := by rw [bne_iff_ne]; exact hk
 clear hk
 go_enter Tryz.func95, Tryz.ntmps95
 go_wp2_with fail
 go_ret
 exact ⟨rfl, (Below.refl _ _).alloc (Nat.le_refl _) _⟩
set_option maxHeartbeats 2000000 in
theorem rkind_thing {h k ty : Nat} {O : Nat → Prop} {vt : Value} {M : List (Hp.Th × Value)} {m : Hp.Th × Value} (t : ByteArray) (w : World) (H : HpAt w ty h O vt M) (hm : M[k]? = some m) :
  Calls Tryz.prog 95 #[.pointer (some ⟨h, 0, none⟩), .agg #[.int .i64 8, .int .i64 k, .string t]] w fun e w' => e = .returned (.int .i64 m.1.kind) ∧ Below w.heap.size w w' := by
 obtain ⟨g, c, rfl, hg, hgh, d0, d1⟩ := H.at hm
 have c0 := H.c0
 have hh := H.lth
 have hkl : k < M.length := (List.getElem?_eq_some_iff.1 hm).1
 have hg1 : (0 : Int) ≤ k := by omega
 have hg2 : (k : Int) < M.length := by omega
 clear H hm
 go_enter Tryz.func95, Tryz.ntmps95
 go_wp2_with fail
 go_quiet (fail)
 go_wp2_with fail
 go_ret
 exact ⟨rfl, below_drewN ((Below.refl _ _).alloc (Nat.le_refl _) _) _⟩
theorem rkind_any {w : World} {ty h : Nat} {O : Nat → Prop} {T : List Hp.Th} (H : HSt w ty h O T) (v : Hp.V) (hm : Hp.may T.length v = true) :
  Calls Tryz.prog 95 #[.pointer (some ⟨h, 0, none⟩), v.val] w fun e w' => e = .returned (.int .i64 (Hp.kindOf T v)) ∧ Below w.heap.size w w' := by
 by_cases h8 : v.kind = 8
 ·obtain ⟨k, hk, rfl⟩ := Hp.may_thing' hm h8
  obtain ⟨t, ht⟩ : ∃ t, T[k]? = some t := ⟨_, List.getElem?_eq_getElem hk⟩
  obtain ⟨vt, M, HA, e⟩ := H
  rw [← e, List.getElem?_map] at ht
  obtain ⟨m, hmm, rfl⟩ : ∃ m, M[k]? = some m ∧ m.1 = t := by simpa using ht
  have e2 : Hp.kindOf T ⟨8, k, ⟨#[]⟩⟩ = m.1.kind := by
   rw [← e]
   simp [Hp.kindOf, List.getElem?_map, hmm]
  rw [e2]
  exact rkind_thing _ w HA hmm
 ·have e2 : Hp.kindOf T v = -1 := by simp [Hp.kindOf, h8]
  rw [e2]
  exact rkind_other _ v.kind v.int v.text h8 w
set_option maxHeartbeats 4000000 in
set_option maxRecDepth 100000 in
theorem rget_out {h k ty : Nat} {O : Nat → Prop} {vt : Value} {M : List (Hp.Th × Value)} {m : Hp.Th × Value} (t : ByteArray) (at_ : Int) (w : World) (H : HpAt w ty h O vt M) (hm : M[k]? = some m) (hl : m.1.parts.length ≤ 1000000) (ha : at_ < 0 ∨ (m.1.parts.length : Int) ≤ at_) :
  Calls Tryz.prog 117 #[.pointer (some ⟨h, 0, none⟩), .agg #[.int .i64 8, .int .i64 k, .string t], .int .i64 at_] w fun e w' => e = .returned (.tuple #[Hp.none.val, .int .i64 83]) ∧ Below w.heap.size w w' := by
 obtain ⟨g, c, rfl, hg, hgh, d0, d1⟩ := H.at hm
 obtain ⟨ap, cp, hs⟩ := H.partLen (List.mem_of_getElem? hm)
 have c0 := H.c0
 have hh := H.lth
 have hkl : k < M.length := (List.getElem?_eq_some_iff.1 hm).1
 have hg1 : (0 : Int) ≤ k := by omega
 have hg2 : (k : Int) < M.length := by omega
 rw [hs] at d1
 obtain ⟨pl, hpl⟩ : ∃ pl, m.1.parts.length = pl := ⟨_, rfl⟩
 rw [hpl] at d1 ha hl
 have h4 : (decide (at_ < 0) = true) ∨ (decide (at_ < 0) = false ∧ decide ((pl : Int) ≤ at_) = true) := by
  simp only [decide_eq_true_eq, decide_eq_false_iff_not]
  omega
 clear H hm hs ha hpl
 rcases h4 with q1 | ⟨q1, q2⟩
 all_goals
  go_enter Tryz.func117, Tryz.ntmps117
  go_wp2_with fail
  go_quiet (fail)
  go_wp2_with fail
  have hz : ((w.alloc (.cells #[.int .i64 8, .int .i64 k, .string t] 78)).alloc (.cells #[.int .i64 0, .int .i64 0, .string ⟨#[]⟩] 78)).heap[w.heap.size + 1]? = some (.cells #[.int .i64 0, .int .i64 0, .string ⟨#[]⟩] 78 (0, 0)) := heap_new (by simp)
  refine bodyPost_ret (res2 rfl _ _ (w.heap.size + 1) 78 _ (0, 0) rfl (three_set _ _ _ _ _ _ (.int .i64 0) (.int .i64 0) (.string ⟨#[]⟩) hz) valD valSize) rfl ?_
  exact ⟨rfl, below_three (below_drewN (((Below.refl _ _).alloc (Nat.le_refl _) _).alloc (by simp) _) _) (by omega) _ _ _⟩
set_option maxHeartbeats 4000000 in
set_option maxRecDepth 100000 in
theorem rget_in {h k ty : Nat} {O : Nat → Prop} {vt : Value} {M : List (Hp.Th × Value)} {m : Hp.Th × Value} (t : ByteArray) (j : Nat) (x : Hp.V) (w : World) (H : HpAt w ty h O vt M) (hm : M[k]? = some m) (hl : m.1.parts.length ≤ 1000000) (hx : m.1.parts[j]? = some x) :
  Calls Tryz.prog 117 #[.pointer (some ⟨h, 0, none⟩), .agg #[.int .i64 8, .int .i64 k, .string t], .int .i64 j] w fun e w' => e = .returned (.tuple #[x.val, .int .i64 0]) ∧ Below w.heap.size w w' := by
 obtain ⟨g, c, rfl, hg, hgh, d0, d1⟩ := H.at hm
 obtain ⟨pg, cp, hs, hpg, hpgh, hpr, e0, e1, e2⟩ := H.part (List.mem_of_getElem? hm) hx
 have c0 := H.c0
 have hh := H.lth
 have hkl : k < M.length := (List.getElem?_eq_some_iff.1 hm).1
 have hg1 : (0 : Int) ≤ k := by omega
 have hg2 : (k : Int) < M.length := by omega
 have hjl : j < m.1.parts.length := (List.getElem?_eq_some_iff.1 hx).1
 rw [hs] at d1
 obtain ⟨pl, hpl⟩ : ∃ pl, m.1.parts.length = pl := ⟨_, rfl⟩
 rw [hpl] at d1 hjl hl
 have q1 : decide ((j : Int) < 0) = false := decide_eq_false (by omega)
 have q2 : decide ((pl : Int) ≤ (j : Int)) = false := decide_eq_false (by omega)
 have q3 : decide (pl ≤ j) = false := decide_eq_false (by omega)
 have hg3 : (0 : Int) ≤ j := by omega
 have hg4 : (j : Int) < pl := by omega
 obtain ⟨xk, xi, xt⟩ := x
 dsimp only at *
 clear H hm hs hx hpr hpl
 unfold Hp.V.val
 go_enter Tryz.func117, Tryz.ntmps117
 go_wp2_with fail
 go_quiet (fail)
 go_wp2_with fail
 have hz : ((w.alloc (.cells #[.int .i64 8, .int .i64 k, .string t] 78)).alloc (.cells #[.int .i64 0, .int .i64 0, .string ⟨#[]⟩] 78)).heap[w.heap.size + 1]? = some (.cells #[.int .i64 0, .int .i64 0, .string ⟨#[]⟩] 78 (0, 0)) := heap_new (by simp)
 refine bodyPost_ret (res2 rfl _ _ (w.heap.size + 1) 78 _ (0, 0) rfl (three_set _ _ _ _ _ _ (.int .i64 xk) (.int .i64 xi) (.string xt) hz) valD valSize) rfl ?_
 exact ⟨rfl, below_three (below_drewN (((Below.refl _ _).alloc (Nat.le_refl _) _).alloc (by simp) _) _) (by omega) _ _ _⟩
set_option maxHeartbeats 4000000 in
set_option maxRecDepth 100000 in
theorem rreckoned_any (op : Int) (a b : Hp.V) (w : World) (ha : isN a.int = true) (hb : isN b.int = true) :
  Calls Tryz.prog 112 #[.int .i64 op, a.val, b.val] w fun e w' => e = .returned (.tuple #[(Hp.reckF op a.int b.int).1.val, .int .i64 (Hp.reckF op a.int b.int).2]) ∧ Below w.heap.size w w' := by
 obtain ⟨ak, ai, at3⟩ := a
 obtain ⟨bk, bi, bt⟩ := b
 dsimp only at *
 have a1 := isN_iff.1 ha
 have b1 := isN_iff.1 hb
 have hbd := Hp.rk_bd op (8 * ai) (8 * bi) (by omega) (by omega)
 obtain ⟨r, hr⟩ : ∃ r, rk op (8 * ai) (8 * bi) = r := ⟨_, rfl⟩
 have HK := hid (fun w => rreckon_any op (8 * ai) (8 * bi) w (by omega) (by omega) (by omega) (by omega))
 rw [hr] at HK hbd
 have HRF : Hid (Hp.reckF op ai bi = if r.2 = 10 then (Hp.none, 81) else if r.2 = 11 then (Hp.none, 82) else (Hp.num (r.1 / 8), 0)) := by unfold Hid Hp.reckF; rw [hr]
 rw [HRF.out]
 obtain ⟨r1, r2⟩ := r
 dsimp only at *
 clear ha hb hr HRF
 unfold Hp.V.val
 dsimp only
 rcases (by omega : r2 = 10 ∨ r2 = 11 ∨ (r2 ≠ 10 ∧ r2 ≠ 11)) with rfl | rfl | ⟨g1, g2⟩
 ·rw [if_pos rfl]
  go_enter Tryz.func112, Tryz.ntmps112
  go_wp2_with fail
  with_reducible refine (HK.out _).mono ?_
  rintro e w1 ⟨rfl, k, rfl⟩
  go_wp2_with fail
  have hz : (((w.alloc (.cells #[.int .i64 ak, .int .i64 ai, .string at3] 78)).alloc (.cells #[.int .i64 bk, .int .i64 bi, .string bt] 78)).alloc (.cells #[.int .i64 0, .int .i64 0, .string ⟨#[]⟩] 78)).heap[w.heap.size + 1 + 1]? = some (.cells #[.int .i64 0, .int .i64 0, .string ⟨#[]⟩] 78 (0, 0)) := heap_new (by simp)
  refine bodyPost_ret (res2 rfl _ _ (w.heap.size + 1 + 1) 78 _ (0, 0) rfl (three_set _ _ _ _ _ _ (.int .i64 0) (.int .i64 0) (.string ⟨#[]⟩) hz) valD valSize) rfl ?_
  exact ⟨rfl, below_three (below_drewN ((((Below.refl _ _).alloc (Nat.le_refl _) _).alloc (by simp) _).alloc (by simp; omega) _) _) (by omega) _ _ _⟩
 ·rw [if_neg (by decide), if_pos rfl]
  go_enter Tryz.func112, Tryz.ntmps112
  go_wp2_with fail
  with_reducible refine (HK.out _).mono ?_
  rintro e w1 ⟨rfl, k, rfl⟩
  go_wp2_with fail
  have hz : (((w.alloc (.cells #[.int .i64 ak, .int .i64 ai, .string at3] 78)).alloc (.cells #[.int .i64 bk, .int .i64 bi, .string bt] 78)).alloc (.cells #[.int .i64 0, .int .i64 0, .string ⟨#[]⟩] 78)).heap[w.heap.size + 1 + 1]? = some (.cells #[.int .i64 0, .int .i64 0, .string ⟨#[]⟩] 78 (0, 0)) := heap_new (by simp)
  refine bodyPost_ret (res2 rfl _ _ (w.heap.size + 1 + 1) 78 _ (0, 0) rfl (three_set _ _ _ _ _ _ (.int .i64 0) (.int .i64 0) (.string ⟨#[]⟩) hz) valD valSize) rfl ?_
  exact ⟨rfl, below_three (below_drewN ((((Below.refl _ _).alloc (Nat.le_refl _) _).alloc (by simp) _).alloc (by simp; omega) _) _) (by omega) _ _ _⟩
 ·rw [if_neg g1, if_neg g2]
  have q1 := beq_eq_false_iff_ne.2 g1
  have q2 := beq_eq_false_iff_ne.2 g2
  clear g1 g2
  go_enter Tryz.func112, Tryz.ntmps112
  go_wp2_with fail
  with_reducible refine (HK.out _).mono ?_
  rintro e w1 ⟨rfl, k, rfl⟩
  go_wp2_with fail
  with_reducible refine (rvalue_any _ _ (by omega) (by omega)).mono ?_
  rintro e w1 ⟨rfl, rfl⟩
  have hb0 : Below w.heap.size w ((((w.alloc (.cells #[.int .i64 ak, .int .i64 ai, .string at3] 78)).alloc (.cells #[.int .i64 bk, .int .i64 bi, .string bt] 78)).alloc (.cells #[.int .i64 0, .int .i64 0, .string ⟨#[]⟩] 78)).drewN k) := below_drewN ((((Below.refl _ _).alloc (Nat.le_refl _) _).alloc (by simp) _).alloc (by simp; omega) _) _
  have hz0 : ((((w.alloc (.cells #[.int .i64 ak, .int .i64 ai, .string at3] 78)).alloc (.cells #[.int .i64 bk, .int .i64 bi, .string bt] 78)).alloc (.cells #[.int .i64 0, .int .i64 0, .string ⟨#[]⟩] 78)).drewN k).heap[w.heap.size + 1 + 1]? = some (.cells #[.int .i64 0, .int .i64 0, .string ⟨#[]⟩] 78 (0, 0)) := heap_new (w := (w.alloc (.cells #[.int .i64 ak, .int .i64 ai, .string at3] 78)).alloc (.cells #[.int .i64 bk, .int .i64 bi, .string bt] 78)) (by simp)
  have HB0 := hid hb0
  have HZ0 := hid hz0
  clear hb0 hz0
  go_wp2_with fail
  with_reducible refine (rnum_any _ _).mono ?_
  rintro e w1 ⟨rfl, hb1⟩
  have hlt := (Array.getElem?_eq_some_iff.1 HZ0.out).1
  have hz1 := (hb1.block _ hlt).trans HZ0.out
  have HB1 := hid (HB0.out.trans (hb1.mono HB0.out.size))
  have q0 := cell_of_row w1 _ 0 _ _ _ hz1
  have q1' := cell_of_row w1 _ 1 _ _ _ hz1
  have q2' := cell_of_row w1 _ 2 _ _ _ hz1
  simp only [List.getElem?_toArray, List.getElem?_cons_zero, List.getElem?_cons_succ] at q0 q1' q2'
  have k0 := frozen_of_row w1 _ 0 _ _ hz1
  have k1 := frozen_of_row w1 _ 1 _ _ hz1
  have k2 := frozen_of_row w1 _ 2 _ _ hz1
  have HZ1 := hid hz1
  clear hz1 hb1 hlt
  go_wp2_with fail
  refine bodyPost_ret (res2 rfl _ _ (w.heap.size + 1 + 1) 78 _ (0, 0) rfl (three_set _ _ _ _ _ _ (.int .i64 1) (.int .i64 (r1 / 8)) (.string ⟨#[]⟩) HZ1.out) valD valSize) rfl ?_
  exact ⟨rfl, below_three HB1.out (by omega) _ _ _⟩
set_option maxHeartbeats 4000000 in
set_option maxRecDepth 100000 in
theorem rput_out {h k ty : Nat} {O : Nat → Prop} {vt : Value} {M : List (Hp.Th × Value)} {m : Hp.Th × Value} (t : ByteArray) (at_ : Int) (x : Hp.V) (w : World) (H : HpAt w ty h O vt M) (hm : M[k]? = some m) (hl : m.1.parts.length ≤ 1000000) (ha : at_ < 0 ∨ (m.1.parts.length : Int) ≤ at_) :
  Calls Tryz.prog 118 #[.pointer (some ⟨h, 0, none⟩), .agg #[.int .i64 8, .int .i64 k, .string t], .int .i64 at_, x.val] w fun e w' => e = .returned (.tuple #[Hp.none.val, .int .i64 83]) ∧ Below w.heap.size w w' := by
 obtain ⟨g, c, rfl, hg, hgh, d0, d1⟩ := H.at hm
 obtain ⟨ap, cp, hs⟩ := H.partLen (List.mem_of_getElem? hm)
 have c0 := H.c0
 have hh := H.lth
 have hkl : k < M.length := (List.getElem?_eq_some_iff.1 hm).1
 have hg1 : (0 : Int) ≤ k := by omega
 have hg2 : (k : Int) < M.length := by omega
 rw [hs] at d1
 obtain ⟨pl, hpl⟩ : ∃ pl, m.1.parts.length = pl := ⟨_, rfl⟩
 rw [hpl] at d1 ha hl
 have h4 : (decide (at_ < 0) = true) ∨ (decide (at_ < 0) = false ∧ decide ((pl : Int) ≤ at_) = true) := by
  simp only [decide_eq_true_eq, decide_eq_false_iff_not]
  omega
 obtain ⟨xk, xi, xt⟩ := x
 clear H hm hs ha hpl
 have hh1 : h < w.heap.size + 1 + 1 := by omega
 have hg3 : g < w.heap.size + 1 + 1 := by omega
 have hh2 : h < w.heap.size + 1 := by omega
 have hg4 : g < w.heap.size + 1 := by omega
 unfold Hp.V.val
 dsimp only
 rcases h4 with q1 | ⟨q1, q2⟩
 all_goals
  go_enter Tryz.func118, Tryz.ntmps118
  go_wp2_with fail
  go_quiet (fail)
  go_wp2_with fail
  have hz : (((w.alloc (.cells #[.int .i64 8, .int .i64 k, .string t] 78)).alloc (.cells #[.int .i64 xk, .int .i64 xi, .string xt] 78)).alloc (.cells #[.int .i64 0, .int .i64 0, .string ⟨#[]⟩] 78)).heap[w.heap.size + 1 + 1]? = some (.cells #[.int .i64 0, .int .i64 0, .string ⟨#[]⟩] 78 (0, 0)) := heap_new (by simp)
  refine bodyPost_ret (res2 rfl _ _ (w.heap.size + 1 + 1) 78 _ (0, 0) rfl (three_set _ _ _ _ _ _ (.int .i64 0) (.int .i64 0) (.string ⟨#[]⟩) hz) valD valSize) rfl ?_
  exact ⟨rfl, below_three (below_drewN ((((Below.refl _ _).alloc (Nat.le_refl _) _).alloc (by simp) _).alloc (by simp; omega) _) _) (by omega) _ _ _⟩
set_option maxHeartbeats 8000000 in
set_option maxRecDepth 100000 in
theorem rput_in {h k ty : Nat} {O : Nat → Prop} {vt : Value} {M : List (Hp.Th × Value)} {m : Hp.Th × Value} (t : ByteArray) (j : Nat) (x : Hp.V) (w : World) (H : HpAt w ty h O vt M) (hm : M[k]? = some m) (hl : m.1.parts.length ≤ 1000000) (hj : j < m.1.parts.length) :
  Calls Tryz.prog 118 #[.pointer (some ⟨h, 0, none⟩), .agg #[.int .i64 8, .int .i64 k, .string t], .int .i64 j, x.val] w (PutPost ty h O ((M.map (·.1)).set k ⟨m.1.kind, m.1.parts.set j x⟩) w) := by
 obtain ⟨y, hy⟩ : ∃ y, m.1.parts[j]? = some y := ⟨_, List.getElem?_eq_getElem hj⟩
 obtain ⟨pg, cp, hs, hpg, hpgh, hpr, e0, e1, e2⟩ := H.part (List.mem_of_getElem? hm) hy
 have HF : Hid (∀ o, w.frozen? ⟨pg, o, none⟩ = false) := fun o => by
  have := H.parts m (List.mem_of_getElem? hm)
  rw [hs] at this
  rcases this.2 with ⟨h', _⟩ | ⟨g', cap', cur, h', _, hh, _⟩
  ·cases h'
  ·cases h'
   exact frozen_of_row w _ o _ _ hh
 have HM := hid hm
 have HS := hid hs
 have HH := hid H
 obtain ⟨g, c, rfl, hg, hgh, d0, d1⟩ := H.at hm
 have c0 := H.c0
 have hh := H.lth
 have hkl : k < M.length := (List.getElem?_eq_some_iff.1 hm).1
 have hg1 : (0 : Int) ≤ k := by omega
 have hg2 : (k : Int) < M.length := by omega
 have f0 := HF.out (j * 3)
 have f1 := HF.out (j * 3 + 1)
 have f2 := HF.out (j * 3 + 2)
 rw [hs] at d1
 obtain ⟨pl, hpl⟩ : ∃ pl, m.1.parts.length = pl := ⟨_, rfl⟩
 have HJ := hid hj
 rw [hpl] at d1 hj hl
 have HPL := hid hpl
 have q1 : decide ((j : Int) < 0) = false := decide_eq_false (by omega)
 have q2 : decide ((pl : Int) ≤ (j : Int)) = false := decide_eq_false (by omega)
 have q3 : decide (pl ≤ j) = false := decide_eq_false (by omega)
 have hg3 : (0 : Int) ≤ j := by omega
 have hg4 : (j : Int) < pl := by omega
 obtain ⟨xk, xi, xt⟩ := x
 have hw1 : Below w.heap.size w (((w.alloc (.cells #[.int .i64 8, .int .i64 k, .string t] 78)).alloc (.cells #[.int .i64 xk, .int .i64 xi, .string xt] 78)).alloc (.cells #[.int .i64 0, .int .i64 0, .string ⟨#[]⟩] 78)) := (((Below.refl _ _).alloc (Nat.le_refl _) _).alloc (by simp) _).alloc (by simp; omega) _
 have hz : (((w.alloc (.cells #[.int .i64 8, .int .i64 k, .string t] 78)).alloc (.cells #[.int .i64 xk, .int .i64 xi, .string xt] 78)).alloc (.cells #[.int .i64 0, .int .i64 0, .string ⟨#[]⟩] 78)).heap[w.heap.size + 1 + 1]? = some (.cells #[.int .i64 0, .int .i64 0, .string ⟨#[]⟩] 78 (0, 0)) := heap_new (by simp)
 have HW1 := hid hw1
 have HZ := hid hz
 clear H hm hs hpr hpl hy hw1 hz
 unfold PutPost Hp.V.val at *
 dsimp only at *
 have hne : pg ≠ w.heap.size + 1 + 1 := by omega
 have hne2 : w.heap.size + 1 + 1 ≠ pg := by omega
 have hne3 : pg ≠ w.heap.size + 1 := by omega
 have hh1 : h < w.heap.size + 1 + 1 := by omega
 have hg5 : g < w.heap.size + 1 + 1 := by omega
 have hh2 : h < w.heap.size + 1 := by omega
 have hg6 : g < w.heap.size + 1 := by omega
 have hp5 : pg < w.heap.size + 1 + 1 := by omega
 have hp6 : pg < w.heap.size + 1 := by omega
 go_enter Tryz.func118, Tryz.ntmps118
 go_wp2_with fail
 go_quiet (fail)
 go_wp2_with fail
 have hP := fun nq => (HH.out.keep (w' := (((w.alloc (.cells #[.int .i64 8, .int .i64 k, .string t] 78)).alloc (.cells #[.int .i64 xk, .int .i64 xi, .string xt] 78)).alloc (.cells #[.int .i64 0, .int .i64 0, .string ⟨#[]⟩] 78)).drewN nq) HW1.out.size (fun b hb => HW1.out.block b (HH.out.lt b hb))).put HM.out HJ.out HS.out ⟨xk, xi, xt⟩
 obtain ⟨hA, hG, hO⟩ := hP nq
 have hz2 : (((((((w.alloc (.cells #[.int .i64 8, .int .i64 k, .string t] 78)).alloc (.cells #[.int .i64 xk, .int .i64 xi, .string xt] 78)).alloc (.cells #[.int .i64 0, .int .i64 0, .string ⟨#[]⟩] 78)).drewN nq).setCell ⟨pg, j * 3, none⟩ (.int .i64 xk)).setCell ⟨pg, j * 3 + 1, none⟩ (.int .i64 xi)).setCell ⟨pg, j * 3 + 2, none⟩ (.string xt)).heap[w.heap.size + 1 + 1]? = some (.cells #[.int .i64 0, .int .i64 0, .string ⟨#[]⟩] 78 (0, 0)) := by
  rw [heap_setCell_other _ _ _ _ hne2, heap_setCell_other _ _ _ _ hne2, heap_setCell_other _ _ _ _ hne2]
  exact HZ.out
 refine bodyPost_ret (res2 rfl _ _ (w.heap.size + 1 + 1) 78 _ (0, 0) rfl (three_set _ _ _ _ _ _ (.int .i64 5) (.int .i64 0) (.string ⟨#[]⟩) hz2) valD valSize) rfl ?_
 have hOlt : ∀ b, O b → b ≠ w.heap.size + 1 + 1 := fun b hb => by have := HH.out.lt b hb; omega
 have hE := put_end hA hG hO (below_drewN HW1.out nq) hOlt (by omega) (.int .i64 5) (.int .i64 0) (.string ⟨#[]⟩)
 rw [List.map_set] at hE
 exact ⟨rfl, hE⟩
theorem step_append_v {P : Program} {w : World} {ops : Array Oper} {o : Oper} {a : Act} {K : Act → World → Prop} {Q : Exit → Act → World → Prop} {E : Prop} (hgd : o.guard = none) (s x : Operand) (t : TypeId)
  (ho : o.op = .call { callee := .builtin .append, args := #[s, x], argTypes := #[t, t] })
  (base : Nat) (e : TypeId) (i : TypeInfo) (z : Value) (size bytes : Nat) (ht : P.underlying t = some (.slice e)) (hi : P.info? e = some i) (hz : i.zero = some z)
  (hsize : i.size = size) (hby : i.bytes = bytes) (hzs : z.cells.size = size) (hsz : 0 < size)
  (v : Value) (n : Nat) (xs : List Value) (hs : a.eval s = v) (hown : w.ownsRow base e size v n xs)
  (ax : Option Addr) (m c : Nat) (news : List Value) (hx : a.eval x = .slice ax m c) (hl : news.length = m * size)
  (hsrc : (ax = none ∧ c = 0 ∧ news = []) ∨ ∃ ad, ax = some ad ∧ ∀ (j : Nat) (u : Value), news[j]? = some u → w.cell? (ad.add j) = some u) (h1 : ∀ u ∈ news, u.oneCell' = true)
  (h63 : n + m ≤ maxLen) (hbytes : (n + m) * bytes ≤ 140737488355328) (hbase : base ≤ w.heap.size) (H : Nat) (hH : w.heap.size = H)
  (h : ∀ (av : Option Addr) (cv : Nat) (w' : World), w'.ownsRow base e size (.slice av (n + m) cv) (n + m) (xs ++ news) → w.grownBy w' v.ownBlock → ((Value.slice av (n + m) cv).ownBlock = v.ownBlock ∨ (Value.slice av (n + m) cv).ownBlock = some H) → K (a.put o.dst (.slice av (n + m) cv)) w') :
  if Region.wanted o (yielded ops a.tmps) = true then Oper.wp P o a w K Q else E := by
 have hw : Region.wanted o (yielded ops a.tmps) = true := by simp [Region.wanted, hgd]
 rw [if_pos hw]
 rcases hsrc with ⟨rfl, rfl, rfl⟩ | ⟨ad, rfl, hn⟩
 ·have hm : m = 0 := by
   have h0 : m * size = 0 := by simpa using hl.symm
   rcases Nat.mul_eq_zero.1 h0 with h | h
   ·exact h
   ·omega
  subst hm
  have hrun := run_append_owned_none (P := P) (w := w) base t o.type e i size ht hi v n xs hown
  obtain ⟨av, cv, rfl⟩ : ∃ av cv, v = .slice av n cv := by
   rcases own_shape hown with ⟨e1, e2, _⟩ | ⟨g, c, e1, _⟩
   ·exact ⟨none, 0, by rw [e1, e2]⟩
   ·exact ⟨_, c, e1⟩
  have h' := h av cv w (by simpa using hown) ⟨rfl, rfl, rfl, Nat.le_refl _, fun _ _ _ => rfl⟩ (.inl rfl)
  unfold Oper.wp
  simp [execOp, ho, resolve, invoke, builtin, hs, hx, hrun, Result.andThen]
  exact h'
 ·obtain ⟨v', w', hr, h2, h3, _, h5⟩ := run_append_own_at (P := P) w base t o.type e i z size bytes ht hi hz hsize hby hzs hsz v n xs hown ad m c news hl hn h1 h63 hbytes hbase
  obtain ⟨av, cv, rfl⟩ : ∃ av cv, v' = .slice av (n + m) cv := by
   rcases own_shape h2 with ⟨e1, e2, _⟩ | ⟨g, c, e1, _⟩
   ·exact ⟨none, 0, by rw [e1, e2]⟩
   ·exact ⟨_, c, e1⟩
  unfold Oper.wp execOp
  simp only [ho, resolve, invoke, builtin, Sem.run_bind, Sem.run_pure, Result.andThen_ok, List.map_toArray, List.map_cons, List.map_nil, hs, hx, hr]
  refine h av cv w' h2 h3 ?_
  rw [← hH]
  exact h5
theorem zero_own (w : World) (t : TypeId) : (w.alloc (.cells #[] t)).ownsRow w.heap.size t 3 (.slice (some ⟨w.heap.size, 0, none⟩) 0 0) 0 [] :=
 ⟨rfl, .inr ⟨w.heap.size, 0, #[], rfl, Nat.le_refl _, heap_alloc_new w _, Nat.le_refl _, by decide, rfl, rfl⟩⟩
theorem src_vsl {w : World} {a : Option Addr} {n c : Nat} {l : List Hp.V} (h : VSl w (.slice a n c) l) : (a = none ∧ c = 0 ∧ Hp.flatV l = []) ∨ ∃ ad, a = some ad ∧ ∀ (j : Nat) (u : Value), (Hp.flatV l)[j]? = some u → w.cell? (ad.add j) = some u := by
 obtain ⟨a', c', e, h⟩ := h
 cases e
 rcases h with ⟨rfl, rfl, rfl⟩ | h
 ·exact .inl ⟨rfl, rfl, rfl⟩
 ·exact .inr h
structure RAdd (ty h : Nat) (O : Nat → Prop) (vt : Value) (M : List (Hp.Th × Value)) (l : List Hp.V) (pv : Value) (w w1 : World) : Prop where
 hp : HpAt w1 ty h O vt M
 own : w1.ownsRow (w.heap.size + 1) 78 3 pv l.length (Hp.flatV l)
 below : Below w.heap.size w w1
 size : w.heap.size + 2 ≤ w1.heap.size
 res : w1.heap[w.heap.size]? = some (.cells #[.int .i64 0, .int .i64 0, .string ⟨#[]⟩] 78 (0, 0))
theorem RAdd.mk' {ty h : Nat} {O : Nat → Prop} {vt : Value} {M : List (Hp.Th × Value)} {l : List Hp.V} {av : Option Addr} {cv : Nat} {w w1 : World} (H : HpAt w ty h O vt M)
  (hown : w1.ownsRow (w.heap.size + 1) 78 3 (.slice av (0 + l.length) cv) (0 + l.length) ([] ++ Hp.flatV l))
  (hg : ((w.alloc (.cells #[.int .i64 0, .int .i64 0, .string ⟨#[]⟩] 78)).alloc (.cells #[] 78)).drew.grownBy w1 (Value.slice (some ⟨w.heap.size + 1, 0, none⟩) 0 0).ownBlock) :
  RAdd ty h O vt M l (.slice av l.length cv) w w1 := by
 have hw : Below w.heap.size w ((w.alloc (.cells #[.int .i64 0, .int .i64 0, .string ⟨#[]⟩] 78)).alloc (.cells #[] 78)).drew := (((Below.refl _ _).alloc (Nat.le_refl _) _).alloc (by simp) _).drew
 have hne : ∀ j, j < w.heap.size + 1 → some j ≠ (Value.slice (some ⟨w.heap.size + 1, 0, none⟩) 0 0).ownBlock := by
  intro j hj e
  simp [Value.ownBlock] at e
  omega
 have hs : ((w.alloc (.cells #[.int .i64 0, .int .i64 0, .string ⟨#[]⟩] 78)).alloc (.cells #[] 78)).drew.heap.size = w.heap.size + 1 + 1 := two_size_eq _ _ _
 have hb : Below w.heap.size w w1 := ⟨hg.os.trans hw.os, hg.tape.trans hw.tape, hg.output.trans hw.output, Nat.le_trans hw.size hg.size, fun b hb => (hg.block b (by rw [hs]; omega) (hne b (by omega))).trans (hw.block b hb)⟩
 rw [Nat.zero_add, List.nil_append] at hown
 refine ⟨H.below hb (Nat.le_refl _), hown, hb, by have := hg.size; rw [hs] at this; omega, ?_⟩
 rw [hg.block w.heap.size (by rw [hs]; omega) (hne _ (by omega))]
 show ((w.alloc (.cells #[.int .i64 0, .int .i64 0, .string ⟨#[]⟩] 78)).alloc (.cells #[] 78)).heap[w.heap.size]? = _
 rw [heap_alloc_old _ _ (by simp)]
 exact heap_alloc_new w _
structure RAdd2 (ty h : Nat) (O : Nat → Prop) (M : List (Hp.Th × Value)) (t : Hp.Th) (pv sv : Value) (w w2 : World) : Prop where
 hp : ∃ O', HpAt (w2.setCell ⟨h, 0, none⟩ sv) ty h O' sv (M ++ [(t, pv)]) ∧ Grow O O' w (w2.setCell ⟨h, 0, none⟩ sv) ∧ ¬ O' w.heap.size
 res : w2.heap[w.heap.size]? = some (.cells #[.int .i64 0, .int .i64 0, .string ⟨#[]⟩] 78 (0, 0))
 cell : ∃ vt, w2.cell? ⟨h, 0, none⟩ = some vt
 fz : w2.frozen? ⟨h, 0, none⟩ = false
 lt : h < w2.heap.size
 le : w.heap.size ≤ w2.heap.size
theorem RAdd2.mk' {ty h : Nat} {O : Nat → Prop} {vt : Value} {M : List (Hp.Th × Value)} {kind : Int} {l : List Hp.V} {pv : Value} {w w1 w2 : World} {o : Obj} {g cap : Nat} (H : RAdd ty h O vt M l pv w w1) (hO : ∀ b, O b → b < w.heap.size)
  (hown : w2.ownsRow 0 128 2 (.slice (some ⟨g, 0, none⟩) (M.length + 1) cap) (M.length + 1) (Hp.thC M ++ [.int .i64 kind, pv])) (hg : (w1.alloc o).grownBy w2 vt.ownBlock) (hl : vt.ownBlock = some g ∨ g = w1.heap.size + 1) (hlt : g < w2.heap.size) :
  RAdd2 ty h O M ⟨kind, l⟩ pv (.slice (some ⟨g, 0, none⟩) (M.length + 1) cap) w w2 := by
 have hA := H.hp.below ((Below.refl w1.heap.size w1).alloc (Nat.le_refl _) o) (Nat.le_refl _)
 have hB : ∀ b, O b → b < w.heap.size + 1 := fun b hb => by have := hO b hb; omega
 have hz := H.size
 obtain ⟨P1, P2⟩ := hA.push (t := ⟨kind, l⟩) (H.own.alloc o) hB (by simp; omega) hown hg (by simpa using hl) hlt
 have hhlt := H.hp.own.1
 have hh0 := hO _ hhlt
 have hne : vt.ownBlock ≠ some h := H.hp.ne
 have hnw : some w.heap.size ≠ vt.ownBlock := fun e => by have := hO _ (H.hp.own.2.1 _ e.symm); omega
 have hgw : w.heap.size ≤ w2.heap.size := by have := hg.size; simp at this; omega
 have hblk : w2.heap[h]? = (w1.alloc o).heap[h]? := hg.block h (by simp; omega) (fun e => hne e.symm)
 refine ⟨⟨_, P1, ?_, ?_⟩, ?_, ⟨vt, ?_⟩, ?_, by omega, hgw⟩
 ·have hb1 : Below w.heap.size w (w1.alloc o) := H.below.alloc (by omega) o
  exact ⟨P2.os.trans hb1.os, P2.tape.trans hb1.tape, P2.output.trans hb1.output, Nat.le_trans hb1.size P2.size, fun b hb ho => (P2.block b (Nat.lt_of_lt_of_le hb hb1.size) ho).trans (hb1.block b hb), fun b hb => (P2.own b hb).imp id fun e => by omega⟩
 ·rintro (e | e | e)
  ·have := hO _ e; omega
  ·rcases hl with e2 | e2
   ·have := hO _ (H.hp.own.2.1 _ e2); omega
   ·omega
  ·have := (H.own.lt _ e).1; omega
 ·rw [hg.block w.heap.size (by simp; omega) hnw, heap_alloc_old _ _ (by omega)]
  exact H.res
 ·exact (World.cell?_of_block (a := ⟨h, 0, none⟩) hblk).trans hA.c0
 ·exact (World.frozen?_of_block (a := ⟨h, 0, none⟩) hblk).trans hA.fz
def RAddPost (ty h : Nat) (O : Nat → Prop) (T : List Hp.Th) (t : Hp.Th) (w : World) (e : Ending) (w' : World) : Prop :=
 ∃ O', e = .returned (Hp.V.val ⟨8, T.length, ⟨#[]⟩⟩) ∧ HSt w' ty h O' (T ++ [t]) ∧ Grow O O' w w'
theorem RAdd2.fin {ty h : Nat} {O : Nat → Prop} {M : List (Hp.Th × Value)} {t : Hp.Th} {pv sv : Value} {w w2 : World} (H : RAdd2 ty h O M t pv sv w w2) (hh : h < w.heap.size) (x y z : Value) :
  (∃ O', HSt ((((w2.setCell ⟨h, 0, none⟩ sv).setCell ⟨w.heap.size, 0, none⟩ x).setCell ⟨w.heap.size, 1, none⟩ y).setCell ⟨w.heap.size, 2, none⟩ z) ty h O' (M.map (·.1) ++ [t]) ∧ Grow O O' w ((((w2.setCell ⟨h, 0, none⟩ sv).setCell ⟨w.heap.size, 0, none⟩ x).setCell ⟨w.heap.size, 1, none⟩ y).setCell ⟨w.heap.size, 2, none⟩ z)) ∧
  ((((w2.setCell ⟨h, 0, none⟩ sv).setCell ⟨w.heap.size, 0, none⟩ x).setCell ⟨w.heap.size, 1, none⟩ y).setCell ⟨w.heap.size, 2, none⟩ z).heap[w.heap.size]? = some (.cells #[x, y, z] 78 (0, 0)) := by
 obtain ⟨O', h1, h2, h3⟩ := H.hp
 have hne : w.heap.size ≠ h := by omega
 refine ⟨⟨O', ret_end ⟨_, _, h1, by simp⟩ h2 h3 (Nat.le_refl _) x y z⟩, three_set _ _ _ _ _ _ x y z ((heap_setCell_other _ _ _ _ hne).trans H.res)⟩
set_option maxHeartbeats 4000000 in
set_option maxRecDepth 100000 in
theorem radd_any (h : Nat) (O : Nat → Prop) (T : List Hp.Th) (kind : Int) (l : List Hp.V) (av : Value) (w : World) (H : HSt w 76 h O T) (hv : VSl w av l) (hT : T.length ≤ 1000000) (hln : l.length ≤ 1000000) :
  Calls Tryz.prog 114 #[.pointer (some ⟨h, 0, none⟩), .int .i64 kind, av] w (RAddPost 76 h O T ⟨kind, l⟩ w) := by
 have hOlt := H.lt
 obtain ⟨vt, M, H, hM⟩ := H
 subst hM
 rw [List.length_map] at hT
 obtain ⟨a, c, rfl⟩ := H.shape
 obtain ⟨ap, cp, rfl⟩ := hv.len
 obtain ⟨i0, hi, hz0, hz1, hz2⟩ := info_parts infoThing
 obtain ⟨i1, hj, hy0, hy1, hy2⟩ := info_parts infoVal
 have HI := hid hi
 have HZ0 := hid hz0
 have HZ1 := hid hz1
 have HZ2 := hid hz2
 have HJ := hid hj
 have HY0 := hid hy0
 have HY1 := hid hy1
 have HY2 := hid hy2
 have c0 := H.c0
 have f0 := H.fz
 have hh := H.lth
 have HH := hid H
 have HV := hid hv
 have HO := hid hOlt
 have HOZ : Hid (((w.alloc (.cells #[.int .i64 0, .int .i64 0, .string ⟨#[]⟩] 78)).alloc (.cells #[] 78)).drew.ownsRow (w.heap.size + 1) 78 3 (.slice (some ⟨w.heap.size + 1, 0, none⟩) 0 0) 0 []) := by
  have h := zero_own (w.alloc (.cells #[.int .i64 0, .int .i64 0, .string ⟨#[]⟩] 78)) 78
  rw [World.heap_size_alloc] at h
  exact own_drewN h 1
 have hw2 : Below w.heap.size w ((w.alloc (.cells #[.int .i64 0, .int .i64 0, .string ⟨#[]⟩] 78)).alloc (.cells #[] 78)).drew := (((Below.refl _ _).alloc (Nat.le_refl _) _).alloc (by simp) _).drew
 have HSR := hid (src_vsl (hv.below hw2 (Nat.le_refl _)))
 have HTE : Hid (((w.alloc (.cells #[.int .i64 0, .int .i64 0, .string ⟨#[]⟩] 78)).alloc (.cells #[] 78)).drew.heap.size = w.heap.size + 1 + 1) := two_size_eq _ _ _
 clear hi hz0 hz1 hz2 hj hy0 hy1 hy2 H hv hOlt hw2
 unfold RAddPost Hp.V.val
 go_enter Tryz.func114, Tryz.ntmps114
 go_wp2_with fail
 go_region_law (first
  | (refine step_append_v (by rfl) (.tmp 13) (.tmp 14) 79 (by rfl) (w.heap.size + 1) 78 i1 _ 3 32 Tryz.underlying79 HJ.out HY0.out HY1.out HY2.out rfl (by decide) (.slice (some ⟨w.heap.size + 1, 0, none⟩) 0 0) 0 [] (by rfl) HOZ.out ap l.length cp (Hp.flatV l) (by rfl) (Hp.flatV_length l) HSR.out (Hp.flatV_one l) (by simp only [maxLen]; omega) (by omega) (by rw [HTE.out]; omega) (w.heap.size + 1 + 1) HTE.out ?_; intro a1 c1 w1 hown hgr hlies; have H1 := hid (RAdd.mk' HH.out hown hgr); have c2 := H1.out.hp.c0; have f2 := H1.out.hp.fz; have hh1 := H1.out.hp.lth; clear hown hgr hlies)
  | (refine step_append_lies _ (by rfl) (.tmp 11) (.tmp 17) 74 (by rfl) 0 128 i0 _ 2 32 Tryz.underlying74 HI.out HZ0.out HZ1.out HZ2.out rfl (by decide) (.slice a M.length c) M.length (Hp.thC M) (by rfl) (H1.out.hp.row.alloc _) ⟨w1.heap.size, 0, none⟩ 1 1 [.int .i64 kind, .slice a1 l.length c1] (by rfl) (by rfl) (new_cells _ (heap_alloc_new w1 _)) (by simp [Value.oneCell']) (by decide) (by simp only [maxLen]; omega) (by omega) (Nat.zero_le _) (w1.heap.size + 1) (by simp) ?_; intro g cap w2 hown hgr hl hlt; have H2 := hid (RAdd2.mk' H1.out HO.out hown hgr hl hlt); obtain ⟨vt2, c3⟩ := H2.out.cell; have f3 := H2.out.fz; have hh2 := H2.out.lt; clear hown hgr hl hlt)
  | fail)
 all_goals
  have hz2 := H2.out.res
  have q0 := cell_of_row w2 w.heap.size 0 _ _ _ hz2
  have q1 := cell_of_row w2 w.heap.size 1 _ _ _ hz2
  have q2 := cell_of_row w2 w.heap.size 2 _ _ _ hz2
  simp only [List.getElem?_toArray, List.getElem?_cons_zero, List.getElem?_cons_succ] at q0 q1 q2
  have k0 := frozen_of_row w2 w.heap.size 0 _ _ hz2
  have k1 := frozen_of_row w2 w.heap.size 1 _ _ hz2
  have k2 := frozen_of_row w2 w.heap.size 2 _ _ hz2
  have hne : h ≠ w.heap.size := by omega
  have hne2 : w.heap.size ≠ h := by omega
  clear hz2
  go_wp2_with fail
  have E := H2.out.fin hh (.int .i64 8) (.int .i64 (M.length : Nat)) (.string ⟨#[]⟩)
  refine bodyPost_ret (res1 rfl _ _ w.heap.size 78 _ (0, 0) rfl E.2 valD valSize) rfl ?_
  obtain ⟨O', E1, E2⟩ := E.1
  exact ⟨O', by simp, E1, E2⟩
def Hp.codeOf (l : Int) : Int := if l = 46 then -1 else if l = 105 then 1 else if l = 99 then 2 else if l = 112 then 10 else if l = 118 then 11 else if l = 115 then 12 else if l = 98 then 13 else 14
def rowObjs (s : Nat) : List Obj := [
 .cells #[.int .i64 1, .int .i64 1] 3,
 .cells #[.int .i64 1, .int .i64 1] 3,
 .cells #[.int .i64 1, .int .i64 1] 3,
 .cells #[.int .i64 1, .int .i64 1] 3,
 .cells #[.int .i64 1, .int .i64 1] 3,
 .cells #[.int .i64 1, .int .i64 1] 3,
 .cells #[.int .i64 1, .int .i64 1] 3,
 .cells #[.int .i64 (-1), .int .i64 (-1)] 3,
 .cells #[.int .i64 (-1)] 3,
 .cells #[.int .i64 (-1)] 3,
 .cells #[.int .i64 (-1)] 3,
 .cells #[.int .i64 (-1)] 3,
 .cells #[.int .i64 (-1)] 3,
 .cells #[.int .i64 (-1)] 3,
 .cells #[.int .i64 (-1)] 3,
 .cells #[.int .i64 (-1)] 3,
 .cells #[.int .i64 (-1)] 3,
 .cells #[.int .i64 (-1)] 3,
 .cells #[.int .i64 (-1), .int .i64 (-1)] 3,
 .cells #[.int .i64 10] 3,
 .cells #[.int .i64 10] 3,
 .cells #[.int .i64 10, .int .i64 (-1)] 3,
 .cells #[.int .i64 10, .int .i64 (-1)] 3,
 .cells #[.int .i64 1, .int .i64 (-1)] 3,
 .cells #[.int .i64 1, .int .i64 2] 3,
 .cells #[.int .i64 11] 3,
 .cells #[.int .i64 12] 3,
 .cells #[.int .i64 11, .int .i64 1] 3,
 .cells #[.int .i64 12, .int .i64 1] 3,
 .cells #[.int .i64 11, .int .i64 1, .int .i64 (-1)] 3,
 .cells #[.int .i64 12, .int .i64 1, .int .i64 2] 3,
 .cells #[.int .i64 2] 3,
 .cells #[.int .i64 1] 3,
 .cells #[.int .i64 (-1)] 3,
 .cells #[.int .i64 13] 3,
 .cells #[.int .i64 13, .int .i64 (-1)] 3,
 .cells (List.toArray (.string ⟨#[43]⟩ :: .slice (some ⟨s + 0, 0, none⟩) 2 2 :: .string ⟨#[45]⟩ :: .slice (some ⟨s + 1, 0, none⟩) 2 2 :: .string ⟨#[42]⟩ :: .slice (some ⟨s + 2, 0, none⟩) 2 2 :: .string ⟨#[113, 117, 111, 116, 105, 101, 110, 116]⟩ :: .slice (some ⟨s + 3, 0, none⟩) 2 2 :: .string ⟨#[114, 101, 109, 97, 105, 110, 100, 101, 114]⟩ :: .slice (some ⟨s + 4, 0, none⟩) 2 2 :: .string ⟨#[60]⟩ :: .slice (some ⟨s + 5, 0, none⟩) 2 2 :: .string ⟨#[61]⟩ :: .slice (some ⟨s + 6, 0, none⟩) 2 2 :: .string ⟨#[101, 113, 63]⟩ :: .slice (some ⟨s + 7, 0, none⟩) 2 2 :: .string ⟨#[110, 117, 108, 108, 63]⟩ :: .slice (some ⟨s + 8, 0, none⟩) 1 1 :: .string ⟨#[115, 121, 109, 98, 111, 108, 63]⟩ :: .slice (some ⟨s + 9, 0, none⟩) 1 1 :: .string ⟨#[99, 104, 97, 114, 63]⟩ :: .slice (some ⟨s + 10, 0, none⟩) 1 1 :: .string ⟨#[105, 110, 116, 101, 103, 101, 114, 63]⟩ :: .slice (some ⟨s + 11, 0, none⟩) 1 1 :: .string ⟨#[98, 111, 111, 108, 101, 97, 110, 63]⟩ :: .slice (some ⟨s + 12, 0, none⟩) 1 1 :: .string ⟨#[101, 111, 102, 45, 111, 98, 106, 101, 99, 116, 63]⟩ :: .slice (some ⟨s + 13, 0, none⟩) 1 1 :: .string ⟨#[112, 97, 105, 114, 63]⟩ :: .slice (some ⟨s + 14, 0, none⟩) 1 1 :: .string ⟨#[118, 101, 99, 116, 111, 114, 63]⟩ :: .slice (some ⟨s + 15, 0, none⟩) 1 1 :: .string ⟨#[115, 116, 114, 105, 110, 103, 63]⟩ :: .slice (some ⟨s + 16, 0, none⟩) 1 1 :: .string ⟨#[112, 114, 111, 99, 101, 100, 117, 114, 101, 63]⟩ :: .slice (some ⟨s + 17, 0, none⟩) 1 1 :: .string ⟨#[99, 111, 110, 115]⟩ :: .slice (some ⟨s + 18, 0, none⟩) 2 2 :: .string ⟨#[99, 97, 114]⟩ :: .slice (some ⟨s + 19, 0, none⟩) 1 1 :: .string ⟨#[99, 100, 114]⟩ :: .slice (some ⟨s + 20, 0, none⟩) 1 1 :: .string ⟨#[115, 101, 116, 45, 99, 97, 114, 33]⟩ :: .slice (some ⟨s + 21, 0, none⟩) 2 2 :: .string ⟨#[115, 101, 116, 45, 99, 100, 114, 33]⟩ :: .slice (some ⟨s + 22, 0, none⟩) 2 2 :: .string ⟨#[109, 97, 107, 101, 45, 118, 101, 99, 116, 111, 114]⟩ :: .slice (some ⟨s + 23, 0, none⟩) 2 2 :: .string ⟨#[109, 97, 107, 101, 45, 115, 116, 114, 105, 110, 103]⟩ :: .slice (some ⟨s + 24, 0, none⟩) 2 2 :: .string ⟨#[118, 101, 99, 116, 111, 114, 45, 108, 101, 110, 103, 116, 104]⟩ :: .slice (some ⟨s + 25, 0, none⟩) 1 1 :: .string ⟨#[115, 116, 114, 105, 110, 103, 45, 108, 101, 110, 103, 116, 104]⟩ :: .slice (some ⟨s + 26, 0, none⟩) 1 1 :: .string ⟨#[118, 101, 99, 116, 111, 114, 45, 114, 101, 102]⟩ :: .slice (some ⟨s + 27, 0, none⟩) 2 2 :: .string ⟨#[115, 116, 114, 105, 110, 103, 45, 114, 101, 102]⟩ :: .slice (some ⟨s + 28, 0, none⟩) 2 2 :: .string ⟨#[118, 101, 99, 116, 111, 114, 45, 115, 101, 116, 33]⟩ :: .slice (some ⟨s + 29, 0, none⟩) 3 3 :: .string ⟨#[115, 116, 114, 105, 110, 103, 45, 115, 101, 116, 33]⟩ :: .slice (some ⟨s + 30, 0, none⟩) 3 3 :: .string ⟨#[99, 104, 97, 114, 45, 62, 105, 110, 116, 101, 103, 101, 114]⟩ :: .slice (some ⟨s + 31, 0, none⟩) 1 1 :: .string ⟨#[105, 110, 116, 101, 103, 101, 114, 45, 62, 99, 104, 97, 114]⟩ :: .slice (some ⟨s + 32, 0, none⟩) 1 1 :: .string ⟨#[37, 98, 111, 120]⟩ :: .slice (some ⟨s + 33, 0, none⟩) 1 1 :: .string ⟨#[37, 117, 110, 98, 111, 120]⟩ :: .slice (some ⟨s + 34, 0, none⟩) 1 1 :: .string ⟨#[37, 115, 101, 116, 45, 98, 111, 120, 33]⟩ :: .slice (some ⟨s + 35, 0, none⟩) 2 2 :: .string ⟨#[118, 111, 105, 100]⟩ :: .slice none 0 0 :: .string ⟨#[37, 117, 110, 115, 101, 116]⟩ :: .slice none 0 0 :: [])) 138]
theorem allocs_size : ∀ (l : List Obj) (w : World), (l.foldl World.alloc w).heap.size = w.heap.size + l.length
 | [], w => rfl
 | o :: l, w => by
  rw [List.foldl_cons, allocs_size l, World.heap_size_alloc, List.length_cons]
  omega
theorem allocs_old : ∀ (l : List Obj) (w : World) (b : Nat), b < w.heap.size → (l.foldl World.alloc w).heap[b]? = w.heap[b]?
 | [], w, b, h => rfl
 | o :: l, w, b, h => by
  rw [List.foldl_cons, allocs_old l _ b (by rw [World.heap_size_alloc]; omega), heap_alloc_old _ _ h]
theorem allocs_get : ∀ (l : List Obj) (w : World) (k : Nat), k < l.length → (l.foldl World.alloc w).heap[w.heap.size + k]? = l[k]?
 | [], w, k, h => by simp at h
 | o :: l, w, 0, h => by
  rw [List.foldl_cons, allocs_old l _ _ (by rw [World.heap_size_alloc]; omega)]
  exact heap_alloc_new w o
 | o :: l, w, k + 1, h => by
  rw [List.foldl_cons]
  have := allocs_get l (w.alloc o) k (by simpa using h)
  rw [World.heap_size_alloc] at this
  rw [show w.heap.size + (k + 1) = w.heap.size + 1 + k by omega, this]
  simp
theorem allocs_below : ∀ (l : List Obj) (w : World), Below w.heap.size w (l.foldl World.alloc w)
 | [], w => Below.refl _ _
 | o :: l, w => by
  rw [List.foldl_cons]
  exact ((Below.refl _ _).alloc (Nat.le_refl _) o).trans ((allocs_below l (w.alloc o)).mono (by simp))
def RTab (w : World) (g : Nat) : Prop :=
 g < w.heap.size ∧ ∀ (i : Nat) (x : Hp.Row), Hp.tab[i]? = some x → w.cell? ⟨g, i * 2, none⟩ = some (.string x.name) ∧ ∃ a c, w.cell? ⟨g, i * 2 + 1, none⟩ = some (.slice a x.letters.length c) ∧ ∀ (j : Nat) (l : Int), x.letters[j]? = some l → ∃ b, a = some ⟨b, 0, none⟩ ∧ b < w.heap.size ∧ w.cell? ⟨b, j, none⟩ = some (.int .i64 (Hp.codeOf l))
theorem RTab.below {w w' : World} {g N : Nat} (h : RTab w g) (hb : Below N w w') (hN : w.heap.size ≤ N) : RTab w' g := by
 refine ⟨Nat.lt_of_lt_of_le h.1 hb.size, fun i x hx => ?_⟩
 obtain ⟨h1, a, c, h2, h3⟩ := h.2 i x hx
 have hg := h.1
 refine ⟨(hb.cell (p := ⟨g, i * 2, none⟩) (by dsimp only; omega)).trans h1, a, c, (hb.cell (p := ⟨g, i * 2 + 1, none⟩) (by dsimp only; omega)).trans h2, fun j l hl => ?_⟩
 obtain ⟨b, e, hlt, hc⟩ := h3 j l hl
 exact ⟨b, e, Nat.lt_of_lt_of_le hlt hb.size, (hb.cell (p := ⟨b, j, none⟩) (by dsimp only; omega)).trans hc⟩
theorem rtab_row {w w' : World} {g : Nat} (x : Hp.Row) (i : Nat) (h1 : w'.cell? ⟨g, i * 2, none⟩ = some (.string x.name)) (k : Nat) (cs : Array Value) (h2 : w'.cell? ⟨g, i * 2 + 1, none⟩ = some (.slice (some ⟨w.heap.size + k, 0, none⟩) x.letters.length x.letters.length))
  (hk : w'.heap[w.heap.size + k]? = some (.cells cs 3 (0, 0))) (hcs : cs = (x.letters.map fun l => Value.int .i64 (Hp.codeOf l)).toArray) :
  w'.cell? ⟨g, i * 2, none⟩ = some (.string x.name) ∧ ∃ a c, w'.cell? ⟨g, i * 2 + 1, none⟩ = some (.slice a x.letters.length c) ∧ ∀ (j : Nat) (l : Int), x.letters[j]? = some l → ∃ b, a = some ⟨b, 0, none⟩ ∧ b < w'.heap.size ∧ w'.cell? ⟨b, j, none⟩ = some (.int .i64 (Hp.codeOf l)) := by
 refine ⟨h1, _, _, h2, fun j l hl => ⟨_, rfl, (Array.getElem?_eq_some_iff.1 hk).1, ?_⟩⟩
 rw [cell_of_row _ _ _ _ _ _ hk, hcs]
 simp [hl]
theorem rtab_nil {w' : World} {g : Nat} (x : Hp.Row) (i : Nat) (h1 : w'.cell? ⟨g, i * 2, none⟩ = some (.string x.name)) (hx : x.letters = []) (h2 : w'.cell? ⟨g, i * 2 + 1, none⟩ = some (.slice none 0 0)) :
  w'.cell? ⟨g, i * 2, none⟩ = some (.string x.name) ∧ ∃ a c, w'.cell? ⟨g, i * 2 + 1, none⟩ = some (.slice a x.letters.length c) ∧ ∀ (j : Nat) (l : Int), x.letters[j]? = some l → ∃ b, a = some ⟨b, 0, none⟩ ∧ b < w'.heap.size ∧ w'.cell? ⟨b, j, none⟩ = some (.int .i64 (Hp.codeOf l)) := by
 refine ⟨h1, none, 0, by rw [hx]; exact h2, fun j l hl => ?_⟩
 rw [hx] at hl
 simp at hl
set_option maxRecDepth 100000 in
set_option maxHeartbeats 8000000 in
theorem rtab_of (w : World) : RTab ((rowObjs w.heap.size).foldl World.alloc w) (w.heap.size + 36) := by
 have hl : ∀ s, (rowObjs s).length = 37 := fun s => rfl
 refine ⟨by rw [allocs_size, hl]; omega, ?_⟩
 have hO : ∀ k, k < 37 → ((rowObjs w.heap.size).foldl World.alloc w).heap[w.heap.size + k]? = (rowObjs w.heap.size)[k]? := fun k hk => allocs_get _ w k (by rw [hl]; exact hk)
 generalize (rowObjs w.heap.size).foldl World.alloc w = w' at hO ⊢
 have hG := fun i => cell_of_row w' (w.heap.size + 36) i _ _ _ (hO 36 (by decide))
 intro i x hx
 match i, hx with
 | 0, hx => cases hx; exact rtab_row _ 0 (hG 0) 0 _ (hG 1) (hO 0 (by decide)) rfl
 | 1, hx => cases hx; exact rtab_row _ 1 (hG 2) 1 _ (hG 3) (hO 1 (by decide)) rfl
 | 2, hx => cases hx; exact rtab_row _ 2 (hG 4) 2 _ (hG 5) (hO 2 (by decide)) rfl
 | 3, hx => cases hx; exact rtab_row _ 3 (hG 6) 3 _ (hG 7) (hO 3 (by decide)) rfl
 | 4, hx => cases hx; exact rtab_row _ 4 (hG 8) 4 _ (hG 9) (hO 4 (by decide)) rfl
 | 5, hx => cases hx; exact rtab_row _ 5 (hG 10) 5 _ (hG 11) (hO 5 (by decide)) rfl
 | 6, hx => cases hx; exact rtab_row _ 6 (hG 12) 6 _ (hG 13) (hO 6 (by decide)) rfl
 | 7, hx => cases hx; exact rtab_row _ 7 (hG 14) 7 _ (hG 15) (hO 7 (by decide)) rfl
 | 8, hx => cases hx; exact rtab_row _ 8 (hG 16) 8 _ (hG 17) (hO 8 (by decide)) rfl
 | 9, hx => cases hx; exact rtab_row _ 9 (hG 18) 9 _ (hG 19) (hO 9 (by decide)) rfl
 | 10, hx => cases hx; exact rtab_row _ 10 (hG 20) 10 _ (hG 21) (hO 10 (by decide)) rfl
 | 11, hx => cases hx; exact rtab_row _ 11 (hG 22) 11 _ (hG 23) (hO 11 (by decide)) rfl
 | 12, hx => cases hx; exact rtab_row _ 12 (hG 24) 12 _ (hG 25) (hO 12 (by decide)) rfl
 | 13, hx => cases hx; exact rtab_row _ 13 (hG 26) 13 _ (hG 27) (hO 13 (by decide)) rfl
 | 14, hx => cases hx; exact rtab_row _ 14 (hG 28) 14 _ (hG 29) (hO 14 (by decide)) rfl
 | 15, hx => cases hx; exact rtab_row _ 15 (hG 30) 15 _ (hG 31) (hO 15 (by decide)) rfl
 | 16, hx => cases hx; exact rtab_row _ 16 (hG 32) 16 _ (hG 33) (hO 16 (by decide)) rfl
 | 17, hx => cases hx; exact rtab_row _ 17 (hG 34) 17 _ (hG 35) (hO 17 (by decide)) rfl
 | 18, hx => cases hx; exact rtab_row _ 18 (hG 36) 18 _ (hG 37) (hO 18 (by decide)) rfl
 | 19, hx => cases hx; exact rtab_row _ 19 (hG 38) 19 _ (hG 39) (hO 19 (by decide)) rfl
 | 20, hx => cases hx; exact rtab_row _ 20 (hG 40) 20 _ (hG 41) (hO 20 (by decide)) rfl
 | 21, hx => cases hx; exact rtab_row _ 21 (hG 42) 21 _ (hG 43) (hO 21 (by decide)) rfl
 | 22, hx => cases hx; exact rtab_row _ 22 (hG 44) 22 _ (hG 45) (hO 22 (by decide)) rfl
 | 23, hx => cases hx; exact rtab_row _ 23 (hG 46) 23 _ (hG 47) (hO 23 (by decide)) rfl
 | 24, hx => cases hx; exact rtab_row _ 24 (hG 48) 24 _ (hG 49) (hO 24 (by decide)) rfl
 | 25, hx => cases hx; exact rtab_row _ 25 (hG 50) 25 _ (hG 51) (hO 25 (by decide)) rfl
 | 26, hx => cases hx; exact rtab_row _ 26 (hG 52) 26 _ (hG 53) (hO 26 (by decide)) rfl
 | 27, hx => cases hx; exact rtab_row _ 27 (hG 54) 27 _ (hG 55) (hO 27 (by decide)) rfl
 | 28, hx => cases hx; exact rtab_row _ 28 (hG 56) 28 _ (hG 57) (hO 28 (by decide)) rfl
 | 29, hx => cases hx; exact rtab_row _ 29 (hG 58) 29 _ (hG 59) (hO 29 (by decide)) rfl
 | 30, hx => cases hx; exact rtab_row _ 30 (hG 60) 30 _ (hG 61) (hO 30 (by decide)) rfl
 | 31, hx => cases hx; exact rtab_row _ 31 (hG 62) 31 _ (hG 63) (hO 31 (by decide)) rfl
 | 32, hx => cases hx; exact rtab_row _ 32 (hG 64) 32 _ (hG 65) (hO 32 (by decide)) rfl
 | 33, hx => cases hx; exact rtab_row _ 33 (hG 66) 33 _ (hG 67) (hO 33 (by decide)) rfl
 | 34, hx => cases hx; exact rtab_row _ 34 (hG 68) 34 _ (hG 69) (hO 34 (by decide)) rfl
 | 35, hx => cases hx; exact rtab_row _ 35 (hG 70) 35 _ (hG 71) (hO 35 (by decide)) rfl
 | 36, hx => cases hx; exact rtab_nil _ 36 (hG 72) rfl (hG 73)
 | 37, hx => cases hx; exact rtab_nil _ 37 (hG 74) rfl (hG 75)
 | i + 38, hx => simp [Hp.tab] at hx
def RowsPost (w : World) (e : Ending) (w' : World) : Prop := ∃ g, e = .returned (.slice (some ⟨g, 0, none⟩) 38 38) ∧ RTab w' g ∧ Below w.heap.size w w'
set_option maxHeartbeats 40000000 in
set_option maxRecDepth 100000 in
theorem rows_any (w : World) : Calls Tryz.prog 111 #[] w (RowsPost w) := by
 have HP : Hid (RowsPost w (.returned (.slice (some ⟨w.heap.size + 36, 0, none⟩) 38 38)) ((rowObjs w.heap.size).foldl World.alloc w)) := ⟨_, rfl, rtab_of w, allocs_below _ w⟩
 go_enter Tryz.func111, Tryz.ntmps111
 go_wp2_with fail
 go_ret
 exact HP.out
namespace Hp
def partsOf (T : List Th) (v : V) : List V := match T[v.int.toNat]? with | some t => t.parts | Option.none => []
def getF (T : List Th) (v : V) (i : Int) : V × Int × List Th :=
 if 0 ≤ i ∧ i < ((partsOf T v).length : Int) then ((partsOf T v).getD i.toNat none, 0, T) else (none, 83, T)
def putF (T : List Th) (v : V) (i : Int) (x : V) : V × Int × List Th :=
 if 0 ≤ i ∧ i < ((partsOf T v).length : Int) then (void, 0, T.set v.int.toNat ⟨kindOf T v, (partsOf T v).set i.toNat x⟩) else (none, 83, T)
def addF (T : List Th) (t : Th) : V × Int × List Th := (⟨8, T.length, ⟨#[]⟩⟩, 0, T ++ [t])
def fillF (T : List Th) (kind n : Int) (v : V) : V × Int × List Th := if n < 0 ∨ 1000 < n then (none, 83, T) else addF T ⟨kind, List.replicate n.toNat v⟩
def sayF (T : List Th) (v : V) : V × Int × List Th := (v, 0, T)
def actF (T : List Th) (i : Nat) (a b c : V) (l : List V) : V × Int × List Th :=
 match i with
 | 0 => ((reckF 0 a.int b.int).1, (reckF 0 a.int b.int).2, T)
 | 1 => ((reckF 1 a.int b.int).1, (reckF 1 a.int b.int).2, T)
 | 2 => ((reckF 2 a.int b.int).1, (reckF 2 a.int b.int).2, T)
 | 3 => ((reckF 3 a.int b.int).1, (reckF 3 a.int b.int).2, T)
 | 4 => ((reckF 4 a.int b.int).1, (reckF 4 a.int b.int).2, T)
 | 5 => sayF T (truth (decide (a.int < b.int)))
 | 6 => sayF T (truth (decide (a = b)))
 | 7 => sayF T (truth (decide (a = b)))
 | 8 => sayF T (truth (decide (a.kind = 4)))
 | 9 => sayF T (truth (decide (a.kind = 3)))
 | 10 => sayF T (truth (decide (a.kind = 2)))
 | 11 => sayF T (truth (decide (a.kind = 1)))
 | 12 => sayF T (truth (decide (a.kind = 0)))
 | 13 => sayF T (truth (decide (a.kind = 6)))
 | 14 => sayF T (truth (decide (kindOf T a = 0)))
 | 15 => sayF T (truth (decide (kindOf T a = 1)))
 | 16 => sayF T (truth (decide (kindOf T a = 2)))
 | 17 => sayF T (truth (decide (kindOf T a = 4)))
 | 18 => addF T ⟨0, l⟩
 | 19 => getF T a 0
 | 20 => getF T a 1
 | 21 => putF T a 0 b
 | 22 => putF T a 1 b
 | 23 => fillF T 1 a.int b
 | 24 => fillF T 2 a.int b
 | 25 => sayF T (num (partsOf T a).length)
 | 26 => sayF T (num (partsOf T a).length)
 | 27 => getF T a b.int
 | 28 => getF T a b.int
 | 29 => putF T a b.int c
 | 30 => putF T a b.int c
 | 31 => sayF T (num a.int)
 | 32 => if a.int < 0 ∨ 255 < a.int then (none, 83, T) else sayF T ⟨2, a.int, ⟨#[]⟩⟩
 | 33 => addF T ⟨3, l⟩
 | 34 => getF T a 0
 | 35 => putF T a 0 b
 | 37 => sayF T ⟨7, 0, ⟨#[]⟩⟩
 | _ => sayF T void
def rat (p : ByteArray) : Nat → Int
 | 0 => -1
 | k + 1 => match tab[k]? with
  | some x => if x.name = p then k else rat p k
  | Option.none => rat p k
def doF (T : List Th) (p : ByteArray) (l : List V) : V × Int × List Th :=
 match tab[(rat p 38).toNat]? with
 | some x =>
  if rat p 38 < 0 ∨ x.letters.length ≠ l.length then (none, 1, T)
  else if l.all (may T.length) = false then (none, 1, T)
  else if allOk T l x.letters = false then (none, 80, T)
  else actF T (rat p 38).toNat (l.getD 0 none) (l.getD 1 none) (l.getD 2 none) l
 | Option.none => (none, 1, T)
theorem rat_bound (p : ByteArray) : ∀ k, -1 ≤ rat p k ∧ rat p k < k
 | 0 => by simp [rat]
 | k + 1 => by
  have := rat_bound p k
  unfold rat
  split
  ·split
   ·omega
   ·omega
  ·omega
theorem rat_step {p : ByteArray} {k : Nat} {x : Row} (hx : tab[k]? = some x) : rat p (k + 1) = if x.name = p then (k : Int) else rat p k := by
 rw [rat, hx]
theorem tab_len : tab.length = 38 := rfl
theorem tab_three : ∀ x ∈ tab, x.letters.length ≤ 3 := by
 have h : ∀ x ∈ tab, decide (x.letters.length ≤ 3) = true := by decide +kernel
 exact fun x hx => by simpa using h x hx
theorem doF_act {T : List Th} {p : ByteArray} {l : List V} {i : Nat} {x : Row} (h : rat p 38 = i) (hx : tab[i]? = some x) (hl : x.letters.length = l.length) (hm : l.all (may T.length) = true) (ho : allOk T l x.letters = true) : doF T p l = actF T i (l.getD 0 none) (l.getD 1 none) (l.getD 2 none) l := by
 unfold doF
 rw [h, Int.toNat_natCast, hx]
 have : ¬ ((i : Int) < 0 ∨ x.letters.length ≠ l.length) := by omega
 dsimp only
 rw [if_neg this, if_neg (by rw [hm]; decide), if_neg (by rw [ho]; decide)]
end Hp
end Go.Proofs.YtkplkgdfphbldaaGreat
