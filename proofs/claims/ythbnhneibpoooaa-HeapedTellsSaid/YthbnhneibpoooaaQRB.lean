/- The reference's truth, num, Kind, get. -/
import Derived.Test.YthbnhneibpoooaaQMJ
set_option linter.unusedVariables false
set_option linter.unusedSimpArgs false
set_option linter.unnecessarySimpa false
namespace Go.Proofs.Ythbnhneibpoooaa
open Go.RowKit
set_option linter.unusedVariables false
set_option linter.unusedSimpArgs false
theorem rtruth_any (b : Bool) (w : World) : Calls Try.prog 41 #[.bool b] w fun e w' => e = .returned (Hp.truth b).val ∧ Below w.heap.size w w' := by
  cases b
  all_goals
    go_enter Try.func41, Try.ntmps41
    go_wp2_with fail
    refine bodyPost_ret (res1 rfl _ _ w.heap.size 27 _ (0, 0) rfl (heap_alloc_new w _) valD valSize) rfl ?_
    exact ⟨rfl, (Below.refl _ _).alloc (Nat.le_refl _) _⟩
theorem rnum_any (n : Int) (w : World) : Calls Try.prog 43 #[.int .i64 n] w fun e w' => e = .returned (.agg #[.int .i64 1, .int .i64 n, .string ⟨#[]⟩]) ∧ Below w.heap.size w w' := by
  go_enter Try.func43, Try.ntmps43
  go_wp2_with fail
  refine bodyPost_ret (res1 rfl _ _ w.heap.size 27 _ (0, 0) rfl (heap_alloc_new w _) valD valSize) rfl ?_
  exact ⟨rfl, (Below.refl _ _).alloc (Nat.le_refl _) _⟩
set_option maxHeartbeats 2000000 in
theorem rkind_other (hv : Value) (k i : Int) (t : ByteArray) (hk : k ≠ 8) (w : World) : Calls Try.prog 39 #[hv, .agg #[.int .i64 k, .int .i64 i, .string t]] w fun e w' => e = .returned (.int .i64 (-1)) ∧ Below w.heap.size w w' := by
  have q : (k != 8) = true := by rw [bne_iff_ne]; exact hk
  clear hk
  go_enter Try.func39, Try.ntmps39
  go_wp2_with fail
  go_ret
  exact ⟨rfl, (Below.refl _ _).alloc (Nat.le_refl _) _⟩
set_option maxHeartbeats 2000000 in
theorem rkind_thing {h k ty : Nat} {O : Nat → Prop} {vt : Value} {M : List (Hp.Th × Value)} {m : Hp.Th × Value} (t : ByteArray) (w : World) (H : HpAt w ty h O vt M) (hm : M[k]? = some m) :
    Calls Try.prog 39 #[.pointer (some ⟨h, 0, none⟩), .agg #[.int .i64 8, .int .i64 k, .string t]] w fun e w' => e = .returned (.int .i64 m.1.kind) ∧ Below w.heap.size w w' := by
  obtain ⟨g, c, rfl, hg, hgh, d0, d1⟩ := H.at hm
  have c0 := H.c0
  have hh := H.lth
  have hkl : k < M.length := (List.getElem?_eq_some_iff.1 hm).1
  have hg1 : (0 : Int) ≤ k := by omega
  have hg2 : (k : Int) < M.length := by omega
  clear H hm
  go_enter Try.func39, Try.ntmps39
  go_wp2_with fail
  go_quiet (fail)
  go_wp2_with fail
  go_ret
  exact ⟨rfl, below_drewN ((Below.refl _ _).alloc (Nat.le_refl _) _) _⟩
theorem rkind_any {w : World} {ty h : Nat} {O : Nat → Prop} {T : List Hp.Th} (H : HSt w ty h O T) (v : Hp.V) (hm : Hp.may T.length v = true) :
    Calls Try.prog 39 #[.pointer (some ⟨h, 0, none⟩), v.val] w fun e w' => e = .returned (.int .i64 (Hp.kindOf T v)) ∧ Below w.heap.size w w' := by
  by_cases h8 : v.kind = 8
  · obtain ⟨k, hk, rfl⟩ := Hp.may_thing' hm h8
    obtain ⟨t, ht⟩ : ∃ t, T[k]? = some t := ⟨_, List.getElem?_eq_getElem hk⟩
    obtain ⟨vt, M, HA, e⟩ := H
    rw [← e, List.getElem?_map] at ht
    obtain ⟨m, hmm, rfl⟩ : ∃ m, M[k]? = some m ∧ m.1 = t := by simpa using ht
    have e2 : Hp.kindOf T ⟨8, k, ⟨#[]⟩⟩ = m.1.kind := by
      rw [← e]
      simp [Hp.kindOf, List.getElem?_map, hmm]
    rw [e2]
    exact rkind_thing _ w HA hmm
  · have e2 : Hp.kindOf T v = -1 := by simp [Hp.kindOf, h8]
    rw [e2]
    exact rkind_other _ v.kind v.int v.text h8 w
set_option maxHeartbeats 4000000 in
set_option maxRecDepth 100000 in
theorem rget_out {h k ty : Nat} {O : Nat → Prop} {vt : Value} {M : List (Hp.Th × Value)} {m : Hp.Th × Value} (t : ByteArray) (at_ : Int) (w : World) (H : HpAt w ty h O vt M) (hm : M[k]? = some m) (hl : m.1.parts.length ≤ 1000000) (ha : at_ < 0 ∨ (m.1.parts.length : Int) ≤ at_) :
    Calls Try.prog 44 #[.pointer (some ⟨h, 0, none⟩), .agg #[.int .i64 8, .int .i64 k, .string t], .int .i64 at_] w fun e w' => e = .returned (.tuple #[Hp.none.val, .int .i64 83]) ∧ Below w.heap.size w w' := by
  obtain ⟨g, c, rfl, hg, hgh, d0, d1⟩ := H.at hm
  obtain ⟨ap, cp, hs⟩ := H.partLen (List.mem_of_getElem? hm)
  have c0 := H.c0
  have hh := H.lth
  have hkl : k < M.length := (List.getElem?_eq_some_iff.1 hm).1
  have hg1 : (0 : Int) ≤ k := by omega
  have hg2 : (k : Int) < M.length := by omega
  rw [hs] at d1
  obtain ⟨pl, hpl⟩ : ∃ pl, m.1.parts.length = pl := ⟨_, rfl⟩
  rw [hpl] at d1 ha hl
  have h4 : (decide (at_ < 0) = true) ∨ (decide (at_ < 0) = false ∧ decide ((pl : Int) ≤ at_) = true) := by
    simp only [decide_eq_true_eq, decide_eq_false_iff_not]
    omega
  clear H hm hs ha hpl
  rcases h4 with q1 | ⟨q1, q2⟩
  all_goals
    go_enter Try.func44, Try.ntmps44
    go_wp2_with fail
    go_quiet (fail)
    go_wp2_with fail
    have hz : ((w.alloc (.cells #[.int .i64 8, .int .i64 k, .string t] 27)).alloc (.cells #[.int .i64 0, .int .i64 0, .string ⟨#[]⟩] 27)).heap[w.heap.size + 1]? = some (.cells #[.int .i64 0, .int .i64 0, .string ⟨#[]⟩] 27 (0, 0)) := heap_new (by simp)
    refine bodyPost_ret (res2 rfl _ _ (w.heap.size + 1) 27 _ (0, 0) rfl (three_set _ _ _ _ _ _ (.int .i64 0) (.int .i64 0) (.string ⟨#[]⟩) hz) valD valSize) rfl ?_
    exact ⟨rfl, below_three (below_drewN (((Below.refl _ _).alloc (Nat.le_refl _) _).alloc (by simp) _) _) (by omega) _ _ _⟩
set_option maxHeartbeats 4000000 in
set_option maxRecDepth 100000 in
theorem rget_in {h k ty : Nat} {O : Nat → Prop} {vt : Value} {M : List (Hp.Th × Value)} {m : Hp.Th × Value} (t : ByteArray) (j : Nat) (x : Hp.V) (w : World) (H : HpAt w ty h O vt M) (hm : M[k]? = some m) (hl : m.1.parts.length ≤ 1000000) (hx : m.1.parts[j]? = some x) :
    Calls Try.prog 44 #[.pointer (some ⟨h, 0, none⟩), .agg #[.int .i64 8, .int .i64 k, .string t], .int .i64 j] w fun e w' => e = .returned (.tuple #[x.val, .int .i64 0]) ∧ Below w.heap.size w w' := by
  obtain ⟨g, c, rfl, hg, hgh, d0, d1⟩ := H.at hm
  obtain ⟨pg, cp, hs, hpg, hpgh, hpr, e0, e1, e2⟩ := H.part (List.mem_of_getElem? hm) hx
  have c0 := H.c0
  have hh := H.lth
  have hkl : k < M.length := (List.getElem?_eq_some_iff.1 hm).1
  have hg1 : (0 : Int) ≤ k := by omega
  have hg2 : (k : Int) < M.length := by omega
  have hjl : j < m.1.parts.length := (List.getElem?_eq_some_iff.1 hx).1
  rw [hs] at d1
  obtain ⟨pl, hpl⟩ : ∃ pl, m.1.parts.length = pl := ⟨_, rfl⟩
  rw [hpl] at d1 hjl hl
  have q1 : decide ((j : Int) < 0) = false := decide_eq_false (by omega)
  have q2 : decide ((pl : Int) ≤ (j : Int)) = false := decide_eq_false (by omega)
  have q3 : decide (pl ≤ j) = false := decide_eq_false (by omega)
  have hg3 : (0 : Int) ≤ j := by omega
  have hg4 : (j : Int) < pl := by omega
  obtain ⟨xk, xi, xt⟩ := x
  dsimp only at *
  clear H hm hs hx hpr hpl
  unfold Hp.V.val
  go_enter Try.func44, Try.ntmps44
  go_wp2_with fail
  go_quiet (fail)
  go_wp2_with fail
  have hz : ((w.alloc (.cells #[.int .i64 8, .int .i64 k, .string t] 27)).alloc (.cells #[.int .i64 0, .int .i64 0, .string ⟨#[]⟩] 27)).heap[w.heap.size + 1]? = some (.cells #[.int .i64 0, .int .i64 0, .string ⟨#[]⟩] 27 (0, 0)) := heap_new (by simp)
  refine bodyPost_ret (res2 rfl _ _ (w.heap.size + 1) 27 _ (0, 0) rfl (three_set _ _ _ _ _ _ (.int .i64 xk) (.int .i64 xi) (.string xt) hz) valD valSize) rfl ?_
  exact ⟨rfl, below_three (below_drewN (((Below.refl _ _).alloc (Nat.le_refl _) _).alloc (by simp) _) _) (by omega) _ _ _⟩
end Go.Proofs.Ythbnhneibpoooaa
/- The reference's reckoned and put. -/
namespace Go.Proofs.Ythbnhneibpoooaa
open Go.RowKit
set_option linter.unusedVariables false
set_option linter.unusedSimpArgs false
set_option maxHeartbeats 4000000 in
set_option maxRecDepth 100000 in
theorem rreckoned_any (op : Int) (a b : Hp.V) (w : World) (ha : isN a.int = true) (hb : isN b.int = true) :
    Calls Try.prog 40 #[.int .i64 op, a.val, b.val] w fun e w' => e = .returned (.tuple #[(Hp.reckF op a.int b.int).1.val, .int .i64 (Hp.reckF op a.int b.int).2]) ∧ Below w.heap.size w w' := by
  obtain ⟨ak, ai, at3⟩ := a
  obtain ⟨bk, bi, bt⟩ := b
  dsimp only at *
  have a1 := isN_iff.1 ha
  have b1 := isN_iff.1 hb
  have hbd := Hp.rk_bd op (8 * ai) (8 * bi) (by omega) (by omega)
  obtain ⟨r, hr⟩ : ∃ r, rk op (8 * ai) (8 * bi) = r := ⟨_, rfl⟩
  have HK := Lib.hid (fun w => rreckon_any op (8 * ai) (8 * bi) w (by omega) (by omega) (by omega) (by omega))
  rw [hr] at HK hbd
  have HRF : Hid (Hp.reckF op ai bi = if r.2 = 10 then (Hp.none, 81) else if r.2 = 11 then (Hp.none, 82) else (Hp.num (r.1 / 8), 0)) := by unfold Hid Hp.reckF; rw [hr]
  rw [HRF.out]
  obtain ⟨r1, r2⟩ := r
  dsimp only at *
  clear ha hb hr HRF
  unfold Hp.V.val
  dsimp only
  rcases (by omega : r2 = 10 ∨ r2 = 11 ∨ (r2 ≠ 10 ∧ r2 ≠ 11)) with rfl | rfl | ⟨g1, g2⟩
  · rw [if_pos rfl]
    go_enter Try.func40, Try.ntmps40
    go_wp2_with fail
    with_reducible refine (HK.out _).mono ?_
    rintro e w1 ⟨rfl, k, rfl⟩
    go_wp2_with fail
    have hz : (((w.alloc (.cells #[.int .i64 ak, .int .i64 ai, .string at3] 27)).alloc (.cells #[.int .i64 bk, .int .i64 bi, .string bt] 27)).alloc (.cells #[.int .i64 0, .int .i64 0, .string ⟨#[]⟩] 27)).heap[w.heap.size + 1 + 1]? = some (.cells #[.int .i64 0, .int .i64 0, .string ⟨#[]⟩] 27 (0, 0)) := heap_new (by simp)
    refine bodyPost_ret (res2 rfl _ _ (w.heap.size + 1 + 1) 27 _ (0, 0) rfl (three_set _ _ _ _ _ _ (.int .i64 0) (.int .i64 0) (.string ⟨#[]⟩) hz) valD valSize) rfl ?_
    exact ⟨rfl, below_three (below_drewN ((((Below.refl _ _).alloc (Nat.le_refl _) _).alloc (by simp) _).alloc (by simp; omega) _) _) (by omega) _ _ _⟩
  · rw [if_neg (by decide), if_pos rfl]
    go_enter Try.func40, Try.ntmps40
    go_wp2_with fail
    with_reducible refine (HK.out _).mono ?_
    rintro e w1 ⟨rfl, k, rfl⟩
    go_wp2_with fail
    have hz : (((w.alloc (.cells #[.int .i64 ak, .int .i64 ai, .string at3] 27)).alloc (.cells #[.int .i64 bk, .int .i64 bi, .string bt] 27)).alloc (.cells #[.int .i64 0, .int .i64 0, .string ⟨#[]⟩] 27)).heap[w.heap.size + 1 + 1]? = some (.cells #[.int .i64 0, .int .i64 0, .string ⟨#[]⟩] 27 (0, 0)) := heap_new (by simp)
    refine bodyPost_ret (res2 rfl _ _ (w.heap.size + 1 + 1) 27 _ (0, 0) rfl (three_set _ _ _ _ _ _ (.int .i64 0) (.int .i64 0) (.string ⟨#[]⟩) hz) valD valSize) rfl ?_
    exact ⟨rfl, below_three (below_drewN ((((Below.refl _ _).alloc (Nat.le_refl _) _).alloc (by simp) _).alloc (by simp; omega) _) _) (by omega) _ _ _⟩
  · rw [if_neg g1, if_neg g2]
    have q1 := beq_eq_false_iff_ne.2 g1
    have q2 := beq_eq_false_iff_ne.2 g2
    clear g1 g2
    go_enter Try.func40, Try.ntmps40
    go_wp2_with fail
    with_reducible refine (HK.out _).mono ?_
    rintro e w1 ⟨rfl, k, rfl⟩
    go_wp2_with fail
    with_reducible refine (rvalue_any _ _ (by omega) (by omega)).mono ?_
    rintro e w1 ⟨rfl, rfl⟩
    have hb0 : Below w.heap.size w ((((w.alloc (.cells #[.int .i64 ak, .int .i64 ai, .string at3] 27)).alloc (.cells #[.int .i64 bk, .int .i64 bi, .string bt] 27)).alloc (.cells #[.int .i64 0, .int .i64 0, .string ⟨#[]⟩] 27)).drewN k) := below_drewN ((((Below.refl _ _).alloc (Nat.le_refl _) _).alloc (by simp) _).alloc (by simp; omega) _) _
    have hz0 : ((((w.alloc (.cells #[.int .i64 ak, .int .i64 ai, .string at3] 27)).alloc (.cells #[.int .i64 bk, .int .i64 bi, .string bt] 27)).alloc (.cells #[.int .i64 0, .int .i64 0, .string ⟨#[]⟩] 27)).drewN k).heap[w.heap.size + 1 + 1]? = some (.cells #[.int .i64 0, .int .i64 0, .string ⟨#[]⟩] 27 (0, 0)) := heap_new (w := (w.alloc (.cells #[.int .i64 ak, .int .i64 ai, .string at3] 27)).alloc (.cells #[.int .i64 bk, .int .i64 bi, .string bt] 27)) (by simp)
    have HB0 := Lib.hid hb0
    have HZ0 := Lib.hid hz0
    clear hb0 hz0
    go_wp2_with fail
    with_reducible refine (rnum_any _ _).mono ?_
    rintro e w1 ⟨rfl, hb1⟩
    have hlt := (Array.getElem?_eq_some_iff.1 HZ0.out).1
    have hz1 := (hb1.block _ hlt).trans HZ0.out
    have HB1 := Lib.hid (HB0.out.trans (hb1.mono HB0.out.size))
    have q0 := cell_of_row w1 _ 0 _ _ _ hz1
    have q1' := cell_of_row w1 _ 1 _ _ _ hz1
    have q2' := cell_of_row w1 _ 2 _ _ _ hz1
    simp only [List.getElem?_toArray, List.getElem?_cons_zero, List.getElem?_cons_succ] at q0 q1' q2'
    have k0 := frozen_of_row w1 _ 0 _ _ hz1
    have k1 := frozen_of_row w1 _ 1 _ _ hz1
    have k2 := frozen_of_row w1 _ 2 _ _ hz1
    have HZ1 := Lib.hid hz1
    clear hz1 hb1 hlt
    go_wp2_with fail
    refine bodyPost_ret (res2 rfl _ _ (w.heap.size + 1 + 1) 27 _ (0, 0) rfl (three_set _ _ _ _ _ _ (.int .i64 1) (.int .i64 (r1 / 8)) (.string ⟨#[]⟩) HZ1.out) valD valSize) rfl ?_
    exact ⟨rfl, below_three HB1.out (by omega) _ _ _⟩
set_option maxHeartbeats 4000000 in
set_option maxRecDepth 100000 in
theorem rput_out {h k ty : Nat} {O : Nat → Prop} {vt : Value} {M : List (Hp.Th × Value)} {m : Hp.Th × Value} (t : ByteArray) (at_ : Int) (x : Hp.V) (w : World) (H : HpAt w ty h O vt M) (hm : M[k]? = some m) (hl : m.1.parts.length ≤ 1000000) (ha : at_ < 0 ∨ (m.1.parts.length : Int) ≤ at_) :
    Calls Try.prog 45 #[.pointer (some ⟨h, 0, none⟩), .agg #[.int .i64 8, .int .i64 k, .string t], .int .i64 at_, x.val] w fun e w' => e = .returned (.tuple #[Hp.none.val, .int .i64 83]) ∧ Below w.heap.size w w' := by
  obtain ⟨g, c, rfl, hg, hgh, d0, d1⟩ := H.at hm
  obtain ⟨ap, cp, hs⟩ := H.partLen (List.mem_of_getElem? hm)
  have c0 := H.c0
  have hh := H.lth
  have hkl : k < M.length := (List.getElem?_eq_some_iff.1 hm).1
  have hg1 : (0 : Int) ≤ k := by omega
  have hg2 : (k : Int) < M.length := by omega
  rw [hs] at d1
  obtain ⟨pl, hpl⟩ : ∃ pl, m.1.parts.length = pl := ⟨_, rfl⟩
  rw [hpl] at d1 ha hl
  have h4 : (decide (at_ < 0) = true) ∨ (decide (at_ < 0) = false ∧ decide ((pl : Int) ≤ at_) = true) := by
    simp only [decide_eq_true_eq, decide_eq_false_iff_not]
    omega
  obtain ⟨xk, xi, xt⟩ := x
  clear H hm hs ha hpl
  have hh1 : h < w.heap.size + 1 + 1 := by omega
  have hg3 : g < w.heap.size + 1 + 1 := by omega
  have hh2 : h < w.heap.size + 1 := by omega
  have hg4 : g < w.heap.size + 1 := by omega
  unfold Hp.V.val
  dsimp only
  rcases h4 with q1 | ⟨q1, q2⟩
  all_goals
    go_enter Try.func45, Try.ntmps45
    go_wp2_with fail
    go_quiet (fail)
    go_wp2_with fail
    have hz : (((w.alloc (.cells #[.int .i64 8, .int .i64 k, .string t] 27)).alloc (.cells #[.int .i64 xk, .int .i64 xi, .string xt] 27)).alloc (.cells #[.int .i64 0, .int .i64 0, .string ⟨#[]⟩] 27)).heap[w.heap.size + 1 + 1]? = some (.cells #[.int .i64 0, .int .i64 0, .string ⟨#[]⟩] 27 (0, 0)) := heap_new (by simp)
    refine bodyPost_ret (res2 rfl _ _ (w.heap.size + 1 + 1) 27 _ (0, 0) rfl (three_set _ _ _ _ _ _ (.int .i64 0) (.int .i64 0) (.string ⟨#[]⟩) hz) valD valSize) rfl ?_
    exact ⟨rfl, below_three (below_drewN ((((Below.refl _ _).alloc (Nat.le_refl _) _).alloc (by simp) _).alloc (by simp; omega) _) _) (by omega) _ _ _⟩
set_option maxHeartbeats 8000000 in
set_option maxRecDepth 100000 in
theorem rput_in {h k ty : Nat} {O : Nat → Prop} {vt : Value} {M : List (Hp.Th × Value)} {m : Hp.Th × Value} (t : ByteArray) (j : Nat) (x : Hp.V) (w : World) (H : HpAt w ty h O vt M) (hm : M[k]? = some m) (hl : m.1.parts.length ≤ 1000000) (hj : j < m.1.parts.length) :
    Calls Try.prog 45 #[.pointer (some ⟨h, 0, none⟩), .agg #[.int .i64 8, .int .i64 k, .string t], .int .i64 j, x.val] w (PutPost ty h O ((M.map (·.1)).set k ⟨m.1.kind, m.1.parts.set j x⟩) w) := by
  obtain ⟨y, hy⟩ : ∃ y, m.1.parts[j]? = some y := ⟨_, List.getElem?_eq_getElem hj⟩
  obtain ⟨pg, cp, hs, hpg, hpgh, hpr, e0, e1, e2⟩ := H.part (List.mem_of_getElem? hm) hy
  have HF : Hid (∀ o, w.frozen? ⟨pg, o, none⟩ = false) := fun o => by
    have := H.parts m (List.mem_of_getElem? hm)
    rw [hs] at this
    rcases this.2 with ⟨h', _⟩ | ⟨g', cap', cur, h', _, hh, _⟩
    · cases h'
    · cases h'
      exact frozen_of_row w _ o _ _ hh
  have HM := Lib.hid hm
  have HS := Lib.hid hs
  have HH := Lib.hid H
  obtain ⟨g, c, rfl, hg, hgh, d0, d1⟩ := H.at hm
  have c0 := H.c0
  have hh := H.lth
  have hkl : k < M.length := (List.getElem?_eq_some_iff.1 hm).1
  have hg1 : (0 : Int) ≤ k := by omega
  have hg2 : (k : Int) < M.length := by omega
  have f0 := HF.out (j * 3)
  have f1 := HF.out (j * 3 + 1)
  have f2 := HF.out (j * 3 + 2)
  rw [hs] at d1
  obtain ⟨pl, hpl⟩ : ∃ pl, m.1.parts.length = pl := ⟨_, rfl⟩
  have HJ := Lib.hid hj
  rw [hpl] at d1 hj hl
  have HPL := Lib.hid hpl
  have q1 : decide ((j : Int) < 0) = false := decide_eq_false (by omega)
  have q2 : decide ((pl : Int) ≤ (j : Int)) = false := decide_eq_false (by omega)
  have q3 : decide (pl ≤ j) = false := decide_eq_false (by omega)
  have hg3 : (0 : Int) ≤ j := by omega
  have hg4 : (j : Int) < pl := by omega
  obtain ⟨xk, xi, xt⟩ := x
  have hw1 : Below w.heap.size w (((w.alloc (.cells #[.int .i64 8, .int .i64 k, .string t] 27)).alloc (.cells #[.int .i64 xk, .int .i64 xi, .string xt] 27)).alloc (.cells #[.int .i64 0, .int .i64 0, .string ⟨#[]⟩] 27)) := (((Below.refl _ _).alloc (Nat.le_refl _) _).alloc (by simp) _).alloc (by simp; omega) _
  have hz : (((w.alloc (.cells #[.int .i64 8, .int .i64 k, .string t] 27)).alloc (.cells #[.int .i64 xk, .int .i64 xi, .string xt] 27)).alloc (.cells #[.int .i64 0, .int .i64 0, .string ⟨#[]⟩] 27)).heap[w.heap.size + 1 + 1]? = some (.cells #[.int .i64 0, .int .i64 0, .string ⟨#[]⟩] 27 (0, 0)) := heap_new (by simp)
  have HW1 := Lib.hid hw1
  have HZ := Lib.hid hz
  clear H hm hs hpr hpl hy hw1 hz
  unfold PutPost Hp.V.val at *
  dsimp only at *
  have hne : pg ≠ w.heap.size + 1 + 1 := by omega
  have hne2 : w.heap.size + 1 + 1 ≠ pg := by omega
  have hne3 : pg ≠ w.heap.size + 1 := by omega
  have hh1 : h < w.heap.size + 1 + 1 := by omega
  have hg5 : g < w.heap.size + 1 + 1 := by omega
  have hh2 : h < w.heap.size + 1 := by omega
  have hg6 : g < w.heap.size + 1 := by omega
  have hp5 : pg < w.heap.size + 1 + 1 := by omega
  have hp6 : pg < w.heap.size + 1 := by omega
  go_enter Try.func45, Try.ntmps45
  go_wp2_with fail
  go_quiet (fail)
  go_wp2_with fail
  have hP := fun nq => (HH.out.keep (w' := (((w.alloc (.cells #[.int .i64 8, .int .i64 k, .string t] 27)).alloc (.cells #[.int .i64 xk, .int .i64 xi, .string xt] 27)).alloc (.cells #[.int .i64 0, .int .i64 0, .string ⟨#[]⟩] 27)).drewN nq) HW1.out.size (fun b hb => HW1.out.block b (HH.out.lt b hb))).put HM.out HJ.out HS.out ⟨xk, xi, xt⟩
  obtain ⟨hA, hG, hO⟩ := hP nq
  have hz2 : (((((((w.alloc (.cells #[.int .i64 8, .int .i64 k, .string t] 27)).alloc (.cells #[.int .i64 xk, .int .i64 xi, .string xt] 27)).alloc (.cells #[.int .i64 0, .int .i64 0, .string ⟨#[]⟩] 27)).drewN nq).setCell ⟨pg, j * 3, none⟩ (.int .i64 xk)).setCell ⟨pg, j * 3 + 1, none⟩ (.int .i64 xi)).setCell ⟨pg, j * 3 + 2, none⟩ (.string xt)).heap[w.heap.size + 1 + 1]? = some (.cells #[.int .i64 0, .int .i64 0, .string ⟨#[]⟩] 27 (0, 0)) := by
    rw [heap_setCell_other _ _ _ _ hne2, heap_setCell_other _ _ _ _ hne2, heap_setCell_other _ _ _ _ hne2]
    exact HZ.out
  refine bodyPost_ret (res2 rfl _ _ (w.heap.size + 1 + 1) 27 _ (0, 0) rfl (three_set _ _ _ _ _ _ (.int .i64 5) (.int .i64 0) (.string ⟨#[]⟩) hz2) valD valSize) rfl ?_
  have hOlt : ∀ b, O b → b ≠ w.heap.size + 1 + 1 := fun b hb => by have := HH.out.lt b hb; omega
  have hE := put_end hA hG hO (below_drewN HW1.out nq) hOlt (by omega) (.int .i64 5) (.int .i64 0) (.string ⟨#[]⟩)
  rw [List.map_set] at hE
  exact ⟨rfl, hE⟩
end Go.Proofs.Ythbnhneibpoooaa
/- The reference's add and filled. -/
namespace Go.Proofs.Ythbnhneibpoooaa
open Go.RowKit
set_option linter.unusedVariables false
set_option linter.unusedSimpArgs false
/-- Append of a slice, nil or not, to a row of the call's own; at a step of a region that draws; nothing may be in the end. -/
theorem step_append_v {P : Program} {w : World} {ops : Array Oper} {o : Oper} {a : Act} {K : Act → World → Prop} {Q : Exit → Act → World → Prop} {E : Prop} (hgd : o.guard = none) (s x : Operand) (t : TypeId)
    (ho : o.op = .call { callee := .builtin .append, args := #[s, x], argTypes := #[t, t] })
    (base : Nat) (e : TypeId) (i : TypeInfo) (z : Value) (size bytes : Nat) (ht : P.underlying t = some (.slice e)) (hi : P.info? e = some i) (hz : i.zero = some z)
    (hsize : i.size = size) (hby : i.bytes = bytes) (hzs : z.cells.size = size) (hsz : 0 < size)
    (v : Value) (n : Nat) (xs : List Value) (hs : a.eval s = v) (hown : w.ownsRow base e size v n xs)
    (ax : Option Addr) (m c : Nat) (news : List Value) (hx : a.eval x = .slice ax m c) (hl : news.length = m * size)
    (hsrc : (ax = none ∧ c = 0 ∧ news = []) ∨ ∃ ad, ax = some ad ∧ ∀ (j : Nat) (u : Value), news[j]? = some u → w.cell? (ad.add j) = some u) (h1 : ∀ u ∈ news, u.oneCell' = true)
    (h63 : n + m ≤ maxLen) (hbytes : (n + m) * bytes ≤ 140737488355328) (hbase : base ≤ w.heap.size) (H : Nat) (hH : w.heap.size = H)
    (h : ∀ (av : Option Addr) (cv : Nat) (w' : World), w'.ownsRow base e size (.slice av (n + m) cv) (n + m) (xs ++ news) → w.grownBy w' v.ownBlock → ((Value.slice av (n + m) cv).ownBlock = v.ownBlock ∨ (Value.slice av (n + m) cv).ownBlock = some H) → K (a.put o.dst (.slice av (n + m) cv)) w') :
    if Region.wanted o (yielded ops a.tmps) = true then Oper.wp P o a w K Q else E := by
  have hw : Region.wanted o (yielded ops a.tmps) = true := by simp [Region.wanted, hgd]
  rw [if_pos hw]
  rcases hsrc with ⟨rfl, rfl, rfl⟩ | ⟨ad, rfl, hn⟩
  · have hm : m = 0 := by
      have h0 : m * size = 0 := by simpa using hl.symm
      rcases Nat.mul_eq_zero.1 h0 with h | h
      · exact h
      · omega
    subst hm
    have hrun := run_append_owned_none (P := P) (w := w) base t o.type e i size ht hi v n xs hown
    obtain ⟨av, cv, rfl⟩ : ∃ av cv, v = .slice av n cv := by
      rcases own_shape hown with ⟨e1, e2, _⟩ | ⟨g, c, e1, _⟩
      · exact ⟨none, 0, by rw [e1, e2]⟩
      · exact ⟨_, c, e1⟩
    have h' := h av cv w (by simpa using hown) ⟨rfl, rfl, rfl, Nat.le_refl _, fun _ _ _ => rfl⟩ (.inl rfl)
    unfold Oper.wp
    simp [execOp, ho, resolve, invoke, builtin, hs, hx, hrun, Result.andThen]
    exact h'
  · obtain ⟨v', w', hr, h2, h3, _, h5⟩ := run_append_own_at (P := P) w base t o.type e i z size bytes ht hi hz hsize hby hzs hsz v n xs hown ad m c news hl hn h1 h63 hbytes hbase
    obtain ⟨av, cv, rfl⟩ : ∃ av cv, v' = .slice av (n + m) cv := by
      rcases own_shape h2 with ⟨e1, e2, _⟩ | ⟨g, c, e1, _⟩
      · exact ⟨none, 0, by rw [e1, e2]⟩
      · exact ⟨_, c, e1⟩
    unfold Oper.wp execOp
    simp only [ho, resolve, invoke, builtin, Sem.run_bind, Sem.run_pure, Result.andThen_ok, List.map_toArray, List.map_cons, List.map_nil, hs, hx, hr]
    refine h av cv w' h2 h3 ?_
    rw [← hH]
    exact h5
theorem zero_own (w : World) (t : TypeId) : (w.alloc (.cells #[] t)).ownsRow w.heap.size t 3 (.slice (some ⟨w.heap.size, 0, none⟩) 0 0) 0 [] :=
  ⟨rfl, .inr ⟨w.heap.size, 0, #[], rfl, Nat.le_refl _, heap_alloc_new w _, Nat.le_refl _, by decide, rfl, rfl⟩⟩
theorem src_vsl {w : World} {a : Option Addr} {n c : Nat} {l : List Hp.V} (h : VSl w (.slice a n c) l) : (a = none ∧ c = 0 ∧ Hp.flatV l = []) ∨ ∃ ad, a = some ad ∧ ∀ (j : Nat) (u : Value), (Hp.flatV l)[j]? = some u → w.cell? (ad.add j) = some u := by
  obtain ⟨a', c', e, h⟩ := h
  cases e
  rcases h with ⟨rfl, rfl, rfl⟩ | h
  · exact .inl ⟨rfl, rfl, rfl⟩
  · exact .inr h
/-- Behind add's copy: the heap, the copy, the result's block. -/
structure RAdd (ty h : Nat) (O : Nat → Prop) (vt : Value) (M : List (Hp.Th × Value)) (l : List Hp.V) (pv : Value) (w w1 : World) : Prop where
  hp : HpAt w1 ty h O vt M
  own : w1.ownsRow (w.heap.size + 1) 27 3 pv l.length (Hp.flatV l)
  below : Below w.heap.size w w1
  size : w.heap.size + 2 ≤ w1.heap.size
  res : w1.heap[w.heap.size]? = some (.cells #[.int .i64 0, .int .i64 0, .string ⟨#[]⟩] 27 (0, 0))
theorem RAdd.mk' {ty h : Nat} {O : Nat → Prop} {vt : Value} {M : List (Hp.Th × Value)} {l : List Hp.V} {av : Option Addr} {cv : Nat} {w w1 : World} (H : HpAt w ty h O vt M)
    (hown : w1.ownsRow (w.heap.size + 1) 27 3 (.slice av (0 + l.length) cv) (0 + l.length) ([] ++ Hp.flatV l))
    (hg : ((w.alloc (.cells #[.int .i64 0, .int .i64 0, .string ⟨#[]⟩] 27)).alloc (.cells #[] 27)).drew.grownBy w1 (Value.slice (some ⟨w.heap.size + 1, 0, none⟩) 0 0).ownBlock) :
    RAdd ty h O vt M l (.slice av l.length cv) w w1 := by
  have hw : Below w.heap.size w ((w.alloc (.cells #[.int .i64 0, .int .i64 0, .string ⟨#[]⟩] 27)).alloc (.cells #[] 27)).drew := (((Below.refl _ _).alloc (Nat.le_refl _) _).alloc (by simp) _).drew
  have hne : ∀ j, j < w.heap.size + 1 → some j ≠ (Value.slice (some ⟨w.heap.size + 1, 0, none⟩) 0 0).ownBlock := by
    intro j hj e
    simp [Value.ownBlock] at e
    omega
  have hs : ((w.alloc (.cells #[.int .i64 0, .int .i64 0, .string ⟨#[]⟩] 27)).alloc (.cells #[] 27)).drew.heap.size = w.heap.size + 1 + 1 := two_size_eq _ _ _
  have hb : Below w.heap.size w w1 := ⟨hg.os.trans hw.os, hg.tape.trans hw.tape, hg.output.trans hw.output, Nat.le_trans hw.size hg.size, fun b hb => (hg.block b (by rw [hs]; omega) (hne b (by omega))).trans (hw.block b hb)⟩
  rw [Nat.zero_add, List.nil_append] at hown
  refine ⟨H.below hb (Nat.le_refl _), hown, hb, by have := hg.size; rw [hs] at this; omega, ?_⟩
  rw [hg.block w.heap.size (by rw [hs]; omega) (hne _ (by omega))]
  show ((w.alloc (.cells #[.int .i64 0, .int .i64 0, .string ⟨#[]⟩] 27)).alloc (.cells #[] 27)).heap[w.heap.size]? = _
  rw [heap_alloc_old _ _ (by simp)]
  exact heap_alloc_new w _
/-- Behind add's own append. -/
structure RAdd2 (ty h : Nat) (O : Nat → Prop) (M : List (Hp.Th × Value)) (t : Hp.Th) (pv sv : Value) (w w2 : World) : Prop where
  hp : ∃ O', HpAt (w2.setCell ⟨h, 0, none⟩ sv) ty h O' sv (M ++ [(t, pv)]) ∧ Grow O O' w (w2.setCell ⟨h, 0, none⟩ sv) ∧ ¬ O' w.heap.size
  res : w2.heap[w.heap.size]? = some (.cells #[.int .i64 0, .int .i64 0, .string ⟨#[]⟩] 27 (0, 0))
  cell : ∃ vt, w2.cell? ⟨h, 0, none⟩ = some vt
  fz : w2.frozen? ⟨h, 0, none⟩ = false
  lt : h < w2.heap.size
  le : w.heap.size ≤ w2.heap.size
theorem RAdd2.mk' {ty h : Nat} {O : Nat → Prop} {vt : Value} {M : List (Hp.Th × Value)} {kind : Int} {l : List Hp.V} {pv : Value} {w w1 w2 : World} {o : Obj} {g cap : Nat} (H : RAdd ty h O vt M l pv w w1) (hO : ∀ b, O b → b < w.heap.size)
    (hown : w2.ownsRow 0 54 2 (.slice (some ⟨g, 0, none⟩) (M.length + 1) cap) (M.length + 1) (Hp.thC M ++ [.int .i64 kind, pv])) (hg : (w1.alloc o).grownBy w2 vt.ownBlock) (hl : vt.ownBlock = some g ∨ g = w1.heap.size + 1) (hlt : g < w2.heap.size) :
    RAdd2 ty h O M ⟨kind, l⟩ pv (.slice (some ⟨g, 0, none⟩) (M.length + 1) cap) w w2 := by
  have hA := H.hp.below ((Below.refl w1.heap.size w1).alloc (Nat.le_refl _) o) (Nat.le_refl _)
  have hB : ∀ b, O b → b < w.heap.size + 1 := fun b hb => by have := hO b hb; omega
  have hz := H.size
  obtain ⟨P1, P2⟩ := hA.push (t := ⟨kind, l⟩) (H.own.alloc o) hB (by simp; omega) hown hg (by simpa using hl) hlt
  have hhlt := H.hp.own.1
  have hh0 := hO _ hhlt
  have hne : vt.ownBlock ≠ some h := H.hp.ne
  have hnw : some w.heap.size ≠ vt.ownBlock := fun e => by have := hO _ (H.hp.own.2.1 _ e.symm); omega
  have hgw : w.heap.size ≤ w2.heap.size := by have := hg.size; simp at this; omega
  have hblk : w2.heap[h]? = (w1.alloc o).heap[h]? := hg.block h (by simp; omega) (fun e => hne e.symm)
  refine ⟨⟨_, P1, ?_, ?_⟩, ?_, ⟨vt, ?_⟩, ?_, by omega, hgw⟩
  · have hb1 : Below w.heap.size w (w1.alloc o) := H.below.alloc (by omega) o
    exact ⟨P2.os.trans hb1.os, P2.tape.trans hb1.tape, P2.output.trans hb1.output, Nat.le_trans hb1.size P2.size, fun b hb ho => (P2.block b (Nat.lt_of_lt_of_le hb hb1.size) ho).trans (hb1.block b hb), fun b hb => (P2.own b hb).imp id fun e => by omega⟩
  · rintro (e | e | e)
    · have := hO _ e; omega
    · rcases hl with e2 | e2
      · have := hO _ (H.hp.own.2.1 _ e2); omega
      · omega
    · have := (H.own.lt _ e).1; omega
  · rw [hg.block w.heap.size (by simp; omega) hnw, heap_alloc_old _ _ (by omega)]
    exact H.res
  · exact (World.cell?_of_block (a := ⟨h, 0, none⟩) hblk).trans hA.c0
  · exact (World.frozen?_of_block (a := ⟨h, 0, none⟩) hblk).trans hA.fz
/-- What add leaves. -/
def RAddPost (ty h : Nat) (O : Nat → Prop) (T : List Hp.Th) (t : Hp.Th) (w : World) (e : Ending) (w' : World) : Prop :=
  ∃ O', e = .returned (Hp.V.val ⟨8, T.length, ⟨#[]⟩⟩) ∧ HSt w' ty h O' (T ++ [t]) ∧ Grow O O' w w'
theorem RAdd2.fin {ty h : Nat} {O : Nat → Prop} {M : List (Hp.Th × Value)} {t : Hp.Th} {pv sv : Value} {w w2 : World} (H : RAdd2 ty h O M t pv sv w w2) (hh : h < w.heap.size) (x y z : Value) :
    (∃ O', HSt ((((w2.setCell ⟨h, 0, none⟩ sv).setCell ⟨w.heap.size, 0, none⟩ x).setCell ⟨w.heap.size, 1, none⟩ y).setCell ⟨w.heap.size, 2, none⟩ z) ty h O' (M.map (·.1) ++ [t]) ∧ Grow O O' w ((((w2.setCell ⟨h, 0, none⟩ sv).setCell ⟨w.heap.size, 0, none⟩ x).setCell ⟨w.heap.size, 1, none⟩ y).setCell ⟨w.heap.size, 2, none⟩ z)) ∧
    ((((w2.setCell ⟨h, 0, none⟩ sv).setCell ⟨w.heap.size, 0, none⟩ x).setCell ⟨w.heap.size, 1, none⟩ y).setCell ⟨w.heap.size, 2, none⟩ z).heap[w.heap.size]? = some (.cells #[x, y, z] 27 (0, 0)) := by
  obtain ⟨O', h1, h2, h3⟩ := H.hp
  have hne : w.heap.size ≠ h := by omega
  refine ⟨⟨O', ret_end ⟨_, _, h1, by simp⟩ h2 h3 (Nat.le_refl _) x y z⟩, three_set _ _ _ _ _ _ x y z ((heap_setCell_other _ _ _ _ hne).trans H.res)⟩
set_option maxHeartbeats 4000000 in
set_option maxRecDepth 100000 in
theorem radd_any (h : Nat) (O : Nat → Prop) (T : List Hp.Th) (kind : Int) (l : List Hp.V) (av : Value) (w : World) (H : HSt w 40 h O T) (hv : VSl w av l) (hT : T.length ≤ 1000000) (hln : l.length ≤ 1000000) :
    Calls Try.prog 37 #[.pointer (some ⟨h, 0, none⟩), .int .i64 kind, av] w (RAddPost 40 h O T ⟨kind, l⟩ w) := by
  have hOlt := H.lt
  obtain ⟨vt, M, H, hM⟩ := H
  subst hM
  rw [List.length_map] at hT
  obtain ⟨a, c, rfl⟩ := H.shape
  obtain ⟨ap, cp, rfl⟩ := hv.len
  obtain ⟨i0, hi, hz0, hz1, hz2⟩ := info_parts infoThing
  obtain ⟨i1, hj, hy0, hy1, hy2⟩ := info_parts infoVal
  have HI := Lib.hid hi
  have HZ0 := Lib.hid hz0
  have HZ1 := Lib.hid hz1
  have HZ2 := Lib.hid hz2
  have HJ := Lib.hid hj
  have HY0 := Lib.hid hy0
  have HY1 := Lib.hid hy1
  have HY2 := Lib.hid hy2
  have c0 := H.c0
  have f0 := H.fz
  have hh := H.lth
  have HH := Lib.hid H
  have HV := Lib.hid hv
  have HO := Lib.hid hOlt
  have HOZ : Hid (((w.alloc (.cells #[.int .i64 0, .int .i64 0, .string ⟨#[]⟩] 27)).alloc (.cells #[] 27)).drew.ownsRow (w.heap.size + 1) 27 3 (.slice (some ⟨w.heap.size + 1, 0, none⟩) 0 0) 0 []) := by
    have h := zero_own (w.alloc (.cells #[.int .i64 0, .int .i64 0, .string ⟨#[]⟩] 27)) 27
    rw [World.heap_size_alloc] at h
    exact own_drewN h 1
  have hw2 : Below w.heap.size w ((w.alloc (.cells #[.int .i64 0, .int .i64 0, .string ⟨#[]⟩] 27)).alloc (.cells #[] 27)).drew := (((Below.refl _ _).alloc (Nat.le_refl _) _).alloc (by simp) _).drew
  have HSR := Lib.hid (src_vsl (hv.below hw2 (Nat.le_refl _)))
  have HTE : Hid (((w.alloc (.cells #[.int .i64 0, .int .i64 0, .string ⟨#[]⟩] 27)).alloc (.cells #[] 27)).drew.heap.size = w.heap.size + 1 + 1) := two_size_eq _ _ _
  clear hi hz0 hz1 hz2 hj hy0 hy1 hy2 H hv hOlt hw2
  unfold RAddPost Hp.V.val
  go_enter Try.func37, Try.ntmps37
  go_wp2_with fail
  go_region_law (first
    | (refine step_append_v (by rfl) (.tmp 13) (.tmp 14) 32 (by rfl) (w.heap.size + 1) 27 i1 _ 3 32 Try.underlying32 HJ.out HY0.out HY1.out HY2.out rfl (by decide) (.slice (some ⟨w.heap.size + 1, 0, none⟩) 0 0) 0 [] (by rfl) HOZ.out ap l.length cp (Hp.flatV l) (by rfl) (Hp.flatV_length l) HSR.out (Hp.flatV_one l) (by simp only [maxLen]; omega) (by omega) (by rw [HTE.out]; omega) (w.heap.size + 1 + 1) HTE.out ?_; intro a1 c1 w1 hown hgr hlies; have H1 := Lib.hid (RAdd.mk' HH.out hown hgr); have c2 := H1.out.hp.c0; have f2 := H1.out.hp.fz; have hh1 := H1.out.hp.lth; clear hown hgr hlies)
    | (refine step_append_lies _ (by rfl) (.tmp 11) (.tmp 17) 38 (by rfl) 0 54 i0 _ 2 32 Try.underlying38 HI.out HZ0.out HZ1.out HZ2.out rfl (by decide) (.slice a M.length c) M.length (Hp.thC M) (by rfl) (H1.out.hp.row.alloc _) ⟨w1.heap.size, 0, none⟩ 1 1 [.int .i64 kind, .slice a1 l.length c1] (by rfl) (by rfl) (new_cells _ (heap_alloc_new w1 _)) (by simp [Value.oneCell']) (by decide) (by simp only [maxLen]; omega) (by omega) (Nat.zero_le _) (w1.heap.size + 1) (by simp) ?_; intro g cap w2 hown hgr hl hlt; have H2 := Lib.hid (RAdd2.mk' H1.out HO.out hown hgr hl hlt); obtain ⟨vt2, c3⟩ := H2.out.cell; have f3 := H2.out.fz; have hh2 := H2.out.lt; clear hown hgr hl hlt)
    | fail)
  all_goals
    have hz2 := H2.out.res
    have q0 := cell_of_row w2 w.heap.size 0 _ _ _ hz2
    have q1 := cell_of_row w2 w.heap.size 1 _ _ _ hz2
    have q2 := cell_of_row w2 w.heap.size 2 _ _ _ hz2
    simp only [List.getElem?_toArray, List.getElem?_cons_zero, List.getElem?_cons_succ] at q0 q1 q2
    have k0 := frozen_of_row w2 w.heap.size 0 _ _ hz2
    have k1 := frozen_of_row w2 w.heap.size 1 _ _ hz2
    have k2 := frozen_of_row w2 w.heap.size 2 _ _ hz2
    have hne : h ≠ w.heap.size := by omega
    have hne2 : w.heap.size ≠ h := by omega
    clear hz2
    go_wp2_with fail
    have E := H2.out.fin hh (.int .i64 8) (.int .i64 (M.length : Nat)) (.string ⟨#[]⟩)
    refine bodyPost_ret (res1 rfl _ _ w.heap.size 27 _ (0, 0) rfl E.2 valD valSize) rfl ?_
    obtain ⟨O', E1, E2⟩ := E.1
    exact ⟨O', by simp, E1, E2⟩
end Go.Proofs.Ythbnhneibpoooaa
/- The reference's filled. -/
namespace Go.Proofs.Ythbnhneibpoooaa
open Go.RowKit
set_option linter.unusedVariables false
set_option linter.unusedSimpArgs false
/-- The row that is filled, so far. -/
structure RFil (v : Hp.V) (w wx : World) (i : Nat) (pv : Value) : Prop where
  own : wx.ownsRow (w.heap.size + 2) 27 3 pv i (Hp.flatV (List.replicate i v))
  below : Below w.heap.size w wx
  box : wx.heap[w.heap.size]? = some (.cells #[.int .i64 v.kind, .int .i64 v.int, .string v.text] 27 (0, 0))
  res : wx.heap[w.heap.size + 1]? = some (.cells #[.int .i64 0, .int .i64 0, .string ⟨#[]⟩] 27 (0, 0))
  size : w.heap.size + 2 ≤ wx.heap.size
theorem RFil.init (v : Hp.V) (w : World) : RFil v w (((w.alloc (.cells #[.int .i64 v.kind, .int .i64 v.int, .string v.text] 27)).alloc (.cells #[.int .i64 0, .int .i64 0, .string ⟨#[]⟩] 27)).alloc (.cells #[] 27)) 0 (.slice (some ⟨w.heap.size + 1 + 1, 0, none⟩) 0 0) := by
  refine ⟨?_, (((Below.refl _ _).alloc (Nat.le_refl _) _).alloc (by simp) _).alloc (by simp; omega) _, ?_, ?_, by simp⟩
  · have h := zero_own ((w.alloc (.cells #[.int .i64 v.kind, .int .i64 v.int, .string v.text] 27)).alloc (.cells #[.int .i64 0, .int .i64 0, .string ⟨#[]⟩] 27)) 27
    rw [two_size_eq'] at h
    exact h
  · rw [heap_alloc_old _ _ (by simp; omega), heap_alloc_old _ _ (by simp)]
    exact heap_alloc_new w _
  · rw [heap_alloc_old _ _ (by simp)]
    exact heap_new (by simp)
theorem RFil.step {v : Hp.V} {w wx w1 : World} {i : Nat} {pv pv' : Value} {o : Obj} (H : RFil v w wx i pv) (hown : w1.ownsRow (w.heap.size + 2) 27 3 pv' (i + 1) (Hp.flatV (List.replicate i v) ++ [.int .i64 v.kind, .int .i64 v.int, .string v.text])) (hg : (wx.alloc o).grownBy w1 pv.ownBlock) : RFil v w w1 (i + 1) pv' := by
  have hne : ∀ j, j < w.heap.size + 2 → some j ≠ pv.ownBlock := own_ne H.own
  have hs := H.size
  have hk : ∀ j, j < w.heap.size + 2 → w1.heap[j]? = wx.heap[j]? := fun j hj => by
    rw [hg.block j (by simp; omega) (hne j hj), heap_alloc_old _ _ (by omega)]
  refine ⟨?_, ⟨hg.os.trans H.below.os, hg.tape.trans H.below.tape, hg.output.trans H.below.output, ?_, fun b hb => (hk b (by omega)).trans (H.below.block b hb)⟩, (hk _ (by omega)).trans H.box, (hk _ (by omega)).trans H.res, ?_⟩
  · rw [List.replicate_succ', Hp.flatV_append]
    exact hown
  · have := hg.size
    simp at this
    omega
  · have := hg.size
    simp at this
    omega
theorem RFil.cells {v : Hp.V} {w wx : World} {i : Nat} {pv : Value} (H : RFil v w wx i pv) : wx.cell? ⟨w.heap.size, 0, none⟩ = some (.int .i64 v.kind) ∧ wx.cell? ⟨w.heap.size, 1, none⟩ = some (.int .i64 v.int) ∧ wx.cell? ⟨w.heap.size, 2, none⟩ = some (.string v.text) ∧ w.heap.size < wx.heap.size :=
  ⟨cell_of_row wx _ 0 _ _ _ H.box, cell_of_row wx _ 1 _ _ _ H.box, cell_of_row wx _ 2 _ _ _ H.box, by have := H.size; omega⟩
set_option maxHeartbeats 4000000 in
set_option maxRecDepth 100000 in
theorem rfilled_out (hv : Value) (kind n : Int) (v : Hp.V) (w : World) (hn : n < 0 ∨ 1000 < n) :
    Calls Try.prog 42 #[hv, .int .i64 kind, .int .i64 n, v.val] w fun e w' => e = .returned (.tuple #[Hp.none.val, .int .i64 83]) ∧ Below w.heap.size w w' := by
  unfold Hp.V.val
  have h4 : (decide (n < 0) = true) ∨ (decide (n < 0) = false ∧ decide (1000 < n) = true) := by
    simp only [decide_eq_true_eq, decide_eq_false_iff_not]
    omega
  clear hn
  rcases h4 with g1 | ⟨g1, g2⟩
  all_goals
    go_enter Try.func42, Try.ntmps42
    go_wp2_with fail
    refine bodyPost_ret (res2 rfl _ _ (w.heap.size + 1) 27 _ (0, 0) rfl (heap_new (by simp)) valD valSize) rfl ?_
    exact ⟨rfl, ((Below.refl _ _).alloc (Nat.le_refl _) _).alloc (by simp) _⟩
set_option maxHeartbeats 8000000 in
set_option maxRecDepth 100000 in
theorem rfilled_in (h : Nat) (O : Nat → Prop) (T : List Hp.Th) (kind : Int) (n : Nat) (v : Hp.V) (w : World) (H : HSt w 40 h O T) (hT : T.length ≤ 1000000) (hn : n ≤ 1000) :
    Calls Try.prog 42 #[.pointer (some ⟨h, 0, none⟩), .int .i64 kind, .int .i64 n, v.val] w (DoPost 40 h O ⟨8, T.length, ⟨#[]⟩⟩ 0 (T ++ [⟨kind, List.replicate n v⟩]) w) := by
  have g1 : decide ((n : Int) < 0) = false := decide_eq_false (by omega)
  have g2 : decide ((1000 : Int) < n) = false := decide_eq_false (by omega)
  have HH := Lib.hid H
  have HOL := Lib.hid H.lt
  have HI0 := Lib.hid (RFil.init v w)
  have HR : Hid (∀ (pv : Value) (w1 : World), RFil v w w1 n pv → Calls Try.prog 37 #[.pointer (some ⟨h, 0, none⟩), .int .i64 kind, pv] w1 (RAddPost 40 h O T ⟨kind, List.replicate n v⟩ w1)) := by
    intro pv w1 h1
    exact radd_any h O T kind _ pv w1 (H.below h1.below (Nat.le_refl _)) (VSl.own (by have := h1.own; exact this)) hT (by simp; omega)
  obtain ⟨i1, hj, hy0, hy1, hy2⟩ := info_parts infoVal
  have HJ := Lib.hid hj
  have HY0 := Lib.hid hy0
  have HY1 := Lib.hid hy1
  have HY2 := Lib.hid hy2
  clear H hj hy0 hy1 hy2
  obtain ⟨vk, vi, vt⟩ := v
  unfold DoPost
  unfold RAddPost at HR
  unfold Hp.V.val at *
  dsimp only at *
  go_enter Try.func42, Try.ntmps42
  go_wp2_with fail
  go_loopg [10, 11] n (fun gk s10 s11 wx => ∃ (i : Nat) (pv : Value), i ≤ n ∧ gk = n - i ∧ s10 = pv ∧ s11 = .int .i64 i ∧ Hid (RFil ⟨vk, vi, vt⟩ w wx i pv))
  case atStart => exact ⟨0, _, Nat.zero_le _, rfl, rfl, rfl, HI0⟩
  case round =>
    obtain ⟨i, pv, hi, rfl, rfl, rfl, HF⟩ := hrel
    by_cases hlt : i < n
    · obtain ⟨b0, b1, b2, b3⟩ := HF.out.cells
      dsimp only at b0 b1 b2
      have hgi : IntKind.i64.wrap ((i : Int) + 1) = i + 1 := by rw [IntKind.wrap_i64]; omega
      go_wp2_with (at_builtin; refine wpList_append_own _ rfl (.tmp 25) (.tmp 27) 32 rfl (w.heap.size + 2) 27 i1 _ 3 32 Try.underlying32 HJ.out HY0.out HY1.out HY2.out rfl (by decide) _ i (Hp.flatV (List.replicate i ⟨vk, vi, vt⟩)) rfl (HF.out.own.alloc _) ⟨wr.heap.size, 0, none⟩ 1 1 [.int .i64 vk, .int .i64 vi, .string vt] rfl rfl (new_cells _ (heap_alloc_new wr _)) (by simp [Value.oneCell']) (by simp only [maxLen]; omega) (by omega) (by have := HF.out.size; simp; omega) ?_; intro v' w1 hown hgr _; have HF1 := Lib.hid (HF.out.step hown hgr); clear hown hgr)
      go_roundg (n - (i + 1))
      case measure => omega
      case rel => exact ⟨i + 1, _, by omega, rfl, rfl, by go_num, HF1⟩
    · obtain rfl : n = i := by omega
      go_wp2_with fail
      with_reducible refine (HR.out _ _ HF.out).mono ?_
      rintro e w2 ⟨O', rfl, hst, hg⟩
      have hlt1 : w.heap.size + 1 < wr.heap.size := by have := HF.out.size; omega
      have hnO : ¬ O (w.heap.size + 1) := fun e => by have := HOL.out _ e; omega
      have hnO' : ¬ O' (w.heap.size + 1) := fun e => by
        rcases hg.own _ e with e | e
        · exact hnO e
        · omega
      have hz2 := (hg.block _ hlt1 hnO).trans HF.out.res
      have hG : Grow O O' w w2 := (Grow.of HF.out.below).trans hg
      have q0 := cell_of_row w2 _ 0 _ _ _ hz2
      have q1 := cell_of_row w2 _ 1 _ _ _ hz2
      have q2 := cell_of_row w2 _ 2 _ _ _ hz2
      simp only [List.getElem?_toArray, List.getElem?_cons_zero, List.getElem?_cons_succ] at q0 q1 q2
      have k0 := frozen_of_row w2 _ 0 _ _ hz2
      have k1 := frozen_of_row w2 _ 1 _ _ hz2
      have k2 := frozen_of_row w2 _ 2 _ _ hz2
      have HZ2 := Lib.hid hz2
      have HE := Lib.hid (fun x y z => ret_end hst hG hnO' (g := w.heap.size + 1) (by omega) x y z)
      clear hg hst hz2 hnO hnO' hG
      go_wp2_with fail
      refine bodyPost_ret (res2 rfl _ _ (w.heap.size + 1) 27 _ (0, 0) rfl (three_set _ _ _ _ _ _ _ _ _ HZ2.out) valD valSize) rfl ?_
      exact ⟨O', by simp, HE.out _ _ _⟩
end Go.Proofs.Ythbnhneibpoooaa
