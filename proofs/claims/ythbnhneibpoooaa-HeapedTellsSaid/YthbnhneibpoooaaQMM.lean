/- The laws' arguments, opened: slices of values. -/
import Derived.Test.YthbnhneibpoooaaQMB
import Derived.Deep.Slices
import Derived.Deep.Fields
import Derived.ChangeSame
import Derived.OpenShut
import Derived.Test.YthbnhneibpoooaaQML
import Derived.BigQuiet
import Derived.Deep.QuietTactic
import Derived.Maps.AppendAt
set_option linter.unusedVariables false
set_option linter.unusedSimpArgs false
set_option linter.unnecessarySimpa false
namespace Go.Proofs.Ythbnhneibpoooaa
open Go.ChangeShapes Go.WideShapes Go.Deep Go.RowKit
set_option linter.unusedVariables false
set_option linter.unusedSimpArgs false
section
variable {H : Type} {enc : TypeId × Value → H} {P : Program} {w : World} {base : Nat} {spare : Nat → Bool} {held : Bool}
theorem open_slice_fields {t e : TypeId} {fs : Array Field} {fuel : Nat} {cs : List Value} {x : DataW H × List MemPlace} (ht : P.underlying t = some (.slice e)) (he : P.underlying e = some (.struct fs))
    (hone : oneCellFields P fs = true) (hC : P.cellsOf e = fs.size) (h : DataW.trod enc P w base spare held fuel t cs = some x) :
    (cs = [.slice none 0 0] ∧ x = (.nil, [])) ∨
    ∃ (a : Addr) (len cap m n : Nat) (D : Nat → DataW H) (Pl : Nat → List MemPlace), cs = [.slice (some a) len cap] ∧ base ≤ a.block ∧ len ≤ cap ∧ cap ≤ maxLen ∧ m = (if spare a.block then cap else len) ∧
      ∀ i, i < m → ∃ (n : Nat), 
        ∀ (j : Nat) (f : Field), fs[j]? = some f → ∃ (v : Value) (y : DataW H × List MemPlace), w.cell? (a.add (i * fs.size + j)) = some v ∧ DataW.trod enc P w base spare held n f.type [v] = some y := by
  rcases open_slice ht h with h0 | ⟨a, len, cap, m, n, D, Pl, hcs, hb, hl, hm, hmm, hx, hi⟩
  · exact .inl h0
  · refine .inr ⟨a, len, cap, m, n, D, Pl, hcs, hb, hl, hm, hmm, fun i him => ?_⟩
    obtain ⟨cs', hc, ht'⟩ := hi i him
    rw [hC] at hc
    obtain ⟨ys, n', hn', hy, hlen, hyl, hf⟩ := DataW.trod_struct he ht'
    obtain ⟨_, hcl, hat⟩ := World.cells?_some hc
    refine ⟨n', fun j f hj => ?_⟩
    obtain ⟨ho, hk⟩ := hone_of hone j f hj
    have hjl : j < fs.size := (Array.getElem?_eq_some_iff.1 hj).1
    have hcell := hat j hjl
    have hv : cs'[j]? = some (cs'[j]'(by omega)) := List.getElem?_eq_getElem (by omega)
    have h1 := hf j f hj
    rw [ho, hk] at h1
    have hone' : (cs'.drop j).take 1 = [cs'[j]'(by omega)] := by
      rw [List.drop_eq_getElem_cons (by omega)]
      rfl
    rw [hone'] at h1
    have hys : ys[j]? = some (ys[j]'(by omega)) := List.getElem?_eq_getElem (by omega)
    refine ⟨_, _, ?_, h1.trans hys⟩
    rw [← Go.Deep.add_add, hcell, hv]
theorem list_upto {α : Type} (d : α) (n : Nat) (q : Nat → α → Prop) (h : ∀ i, i < n → ∃ m, q i m) : ∃ l : List α, l.length = n ∧ ∀ (i : Nat) (x : α), l[i]? = some x → q i x := by
  induction n with
  | zero => exact ⟨[], rfl, fun i x hx => by simp at hx⟩
  | succ n ih =>
    obtain ⟨l, hl, hq⟩ := ih (fun i hi => h i (by omega))
    obtain ⟨m, hm⟩ := h n (by omega)
    refine ⟨l ++ [m], by simp [hl], fun i x hx => ?_⟩
    by_cases hin : i < n
    · rw [List.getElem?_append_left (by omega)] at hx
      exact hq i x hx
    · have hi : i < (l ++ [m]).length := (List.getElem?_eq_some_iff.1 hx).1
      have : i = n := by simp [hl] at hi; omega
      subst this
      rw [List.getElem?_append_right (by omega), hl] at hx
      simp at hx
      rw [← hx]
      exact hm
theorem valOne : ∀ fs, Try.prog.underlying 27 = some (.struct fs) → oneCellFields Try.prog fs = true ∧ Try.prog.cellsOf 27 = fs.size ∧ fs.size = 3 ∧ (fs[0]?.map (·.type)) = some 3 ∧ (fs[1]?.map (·.type)) = some 3 ∧ (fs[2]?.map (·.type)) = some 9 := by
  intro fs h
  rw [Try.underlying27] at h
  injection h with h
  injection h with h
  subst h
  exact ⟨by kernel_rfl, by kernel_rfl, rfl, rfl, rfl, rfl⟩
set_option maxRecDepth 100000 in
/-- A slice of values, at any cell. -/
theorem trod_vals {fuel : Nat} {v : Value} {x : DataW H × List MemPlace} (hv : ∃ a n c, v = .slice a n c) (h : DataW.trod enc Try.prog w base spare held fuel 32 [v] = some x) :
    ∃ l, VSl w v l ∧ (∀ y ∈ l, y.text.size ≤ maxLen) := by
  obtain ⟨a, n, c, rfl⟩ := hv
  have hu := Try.underlying27
  obtain ⟨h1, h2, h3, h4, h5, h6⟩ := valOne _ hu
  rcases open_slice_fields Try.underlying32 hu h1 h2 h with ⟨hcs, _⟩ | ⟨a', len', cap', m, _, D, Pl, hcs, _, hle, hmax, hm, hi⟩
  · simp at hcs
    obtain ⟨rfl, rfl, rfl⟩ := hcs
    exact ⟨[], ⟨none, 0, rfl, .inl ⟨rfl, rfl, rfl⟩⟩, by simp⟩
  · simp at hcs
    obtain ⟨rfl, rfl, rfl⟩ := hcs
    have hml : n ≤ m := by rw [hm]; split <;> omega
    have key : ∀ i, i < n → ∃ q : Hp.V, w.cell? (a'.add (i * 3)) = some (.int .i64 q.kind) ∧ w.cell? (a'.add (i * 3 + 1)) = some (.int .i64 q.int) ∧ w.cell? (a'.add (i * 3 + 2)) = some (.string q.text) ∧ q.text.size ≤ maxLen := by
      intro i hil
      obtain ⟨n', hfl⟩ := hi i (by omega)
      rw [h3] at hfl
      cases e0 : (_ : Array Field)[0]? with
      | none => rw [e0] at h4; simp at h4
      | some f0 =>
        cases e1 : (_ : Array Field)[1]? with
        | none => rw [e1] at h5; simp at h5
        | some f1 =>
          cases e2 : (_ : Array Field)[2]? with
          | none => rw [e2] at h6; simp at h6
          | some f2 =>
            rw [e0] at h4
            rw [e1] at h5
            rw [e2] at h6
            simp at h4 h5 h6
            obtain ⟨v0, y0, c0, t0⟩ := hfl 0 f0 e0
            obtain ⟨v1, y1, c1, t1⟩ := hfl 1 f1 e1
            obtain ⟨v2, y2, c2, t2⟩ := hfl 2 f2 e2
            rw [h4] at t0
            rw [h5] at t1
            rw [h6] at t2
            obtain ⟨n0, g0, _, _⟩ := DataW.trod_int Try.underlying3 t0
            obtain ⟨n1, g1, _, _⟩ := DataW.trod_int Try.underlying3 t1
            obtain ⟨s2, g2, _, hs2⟩ := DataW.trod_string Try.underlying9 t2
            simp at g0 g1 g2
            subst g0 g1 g2
            exact ⟨⟨n0, n1, s2⟩, by simpa using c0, c1, c2, hs2⟩
    obtain ⟨l, hll, hl⟩ := list_upto Hp.none n _ key
    subst hll
    refine ⟨l, ⟨_, _, rfl, .inr ⟨a', rfl, fun j u hu => ?_⟩⟩, fun y hy => ?_⟩
    · have hj := (List.getElem?_eq_some_iff.1 hu).1
      rw [Hp.flatV_length] at hj
      obtain ⟨q, r, rfl, hr⟩ : ∃ q r, j = q * 3 + r ∧ r < 3 := ⟨j / 3, j % 3, by omega, Nat.mod_lt _ (by decide)⟩
      obtain ⟨y, hy⟩ : ∃ y, l[q]? = some y := ⟨_, List.getElem?_eq_getElem (by omega)⟩
      obtain ⟨f0, f1, f2⟩ := Hp.flatV_at l q y hy
      obtain ⟨d0, d1, d2, _⟩ := hl q y hy
      rcases (by omega : r = 0 ∨ r = 1 ∨ r = 2) with rfl | rfl | rfl
      · rw [Nat.add_zero] at hu ⊢
        rw [f0] at hu
        cases hu
        exact d0
      · rw [f1] at hu
        cases hu
        exact d1
      · rw [f2] at hu
        cases hu
        exact d2
    · obtain ⟨q, hq⟩ := List.getElem?_of_mem hy
      exact (hl q y hq).2.2.2
set_option maxRecDepth 100000 in
theorem open_vals {r : Reach} {b0 : Nat} {v : Value} {d : DataW H} {ps : List MemPlace} (hval : Value.okWide Try.prog w r b0 32 v) (h : DataW.Trod enc Try.prog w base spare held 32 v d ps) :
    ∃ a cap l, v = .slice a l.length cap ∧ VSl w (.slice a l.length cap) l ∧ (∀ y ∈ l, y.text.size ≤ maxLen) := by
  obtain ⟨a, len, cap, rfl⟩ := okWide_slice Try.underlying32 hval
  obtain ⟨fuel, hf⟩ := h
  obtain ⟨l, h1, h2⟩ := trod_vals ⟨a, len, cap, rfl⟩ hf
  obtain ⟨a', c', e⟩ := h1.len
  simp at e
  obtain ⟨rfl, rfl, rfl⟩ := e
  exact ⟨_, _, l, rfl, h1, h2⟩
end
end Go.Proofs.Ythbnhneibpoooaa
/- The heap's Make. -/
namespace Go.Proofs.Ythbnhneibpoooaa
open Go.RowKit
set_option linter.unusedVariables false
set_option linter.unusedSimpArgs false
set_option linter.unnecessarySimpa false
namespace Hp
/-- May a thing of this kind be made of these values? -/
def sizeOk (kind : Int) (l : List V) : Bool := if kind = 0 then decide (l.length = 2) else if kind = 3 then decide (l.length = 1) else if kind = 1 then decide (l.length ≤ 1000) else if kind = 2 then decide (l.length ≤ 1000) && !(l.any fun v => decide (v.kind ≠ 2)) else decide (kind = 4)
def makeOk (T : List Th) (kind : Int) (l : List V) : Bool := l.all (may T.length) && sizeOk kind l
end Hp
theorem make1_any (v : Hp.V) (w : World) : Calls Try.prog 33 #[v.val] w fun e w' => e = .returned (.bool (decide (v.kind ≠ 2))) ∧ Below w.heap.size w w' := by
  unfold Hp.V.val
  by_cases h : v.kind = 2
  · have g1 : (v.kind != 2) = false := by simp [h]
    have e : decide (v.kind ≠ 2) = false := by simp [h]
    rw [e]
    clear h e
    go_enter Try.func33, Try.ntmps33
    go_wp2_with fail
    go_ret
    exact ⟨rfl, (Below.refl _ _).alloc (Nat.le_refl _) _⟩
  · have g1 : (v.kind != 2) = true := by simp [h]
    have e : decide (v.kind ≠ 2) = true := by simp [h]
    rw [e]
    clear h e
    go_enter Try.func33, Try.ntmps33
    go_wp2_with fail
    go_ret
    exact ⟨rfl, (Below.refl _ _).alloc (Nat.le_refl _) _⟩
/-- What Make's calls need. -/
structure MakeIn (w : World) (h : Nat) (O : Nat → Prop) (T : List Hp.Th) (av : Value) (l : List Hp.V) : Prop where
  st : HSt w 65 h O T
  vs : VSl w av l
  len : l.length ≤ 1000000
  tx : ∀ x ∈ l, x.text.size ≤ maxLen
theorem MakeIn.bel {w w' : World} {h : Nat} {O : Nat → Prop} {T : List Hp.Th} {av : Value} {l : List Hp.V} (H : MakeIn w h O T av l) (hb : Below w.heap.size w w') : MakeIn w' h O T av l := ⟨H.st.below hb (Nat.le_refl _), H.vs.below hb (Nat.le_refl _), H.len, H.tx⟩
theorem MakeIn.contains {w : World} {h : Nat} {O : Nat → Prop} {T : List Hp.Th} {av : Value} {l : List Hp.V} (H : MakeIn w h O T av l) (b : Bool) (hb : (l.any fun v => decide (v.kind ≠ 2)) = b) : Makes w 32 #[av, .func (.func 33) #[] #[]] (.bool b) := by
  subst hb
  intro w1 hb
  exact contains_any 33 #[] (fun v => decide (v.kind ≠ 2)) (fun _ _ => rfl) av l w1 (H.bel hb).vs H.len fun W x hx _ => by simpa using make1_any x W
/-- The result's block behind a call that makes memory. -/
theorem zer_res {w w1 : World} (hb : Below (w.alloc (.cells #[.int .i64 0, .int .i64 0, .string ⟨#[]⟩] 27)).heap.size (w.alloc (.cells #[.int .i64 0, .int .i64 0, .string ⟨#[]⟩] 27)) w1) : w1.heap[w.heap.size]? = some (.cells #[.int .i64 0, .int .i64 0, .string ⟨#[]⟩] 27 (0, 0)) ∧ Below w.heap.size w w1 ∧ w.heap.size < w1.heap.size := by
  refine ⟨(hb.block _ (by simp)).trans (heap_alloc_new w _), ((Below.refl _ _).alloc (Nat.le_refl _) _).trans (hb.mono (by simp)), ?_⟩
  have := hb.size
  simp at this
  omega
structure Zer3 (w : World) (g : Nat) : Prop where
  c0 : w.cell? ⟨g, 0, none⟩ = some (.int .i64 0)
  c1 : w.cell? ⟨g, 1, none⟩ = some (.int .i64 0)
  c2 : w.cell? ⟨g, 2, none⟩ = some (.string ⟨#[]⟩)
  f0 : w.frozen? ⟨g, 0, none⟩ = false
  f1 : w.frozen? ⟨g, 1, none⟩ = false
  f2 : w.frozen? ⟨g, 2, none⟩ = false
theorem Zer3.of {w : World} {g : Nat} {t : TypeId} (h : w.heap[g]? = some (.cells #[.int .i64 0, .int .i64 0, .string ⟨#[]⟩] t (0, 0))) : Zer3 w g :=
  ⟨cell_of_row w _ 0 _ _ _ h, cell_of_row w _ 1 _ _ _ h, cell_of_row w _ 2 _ _ _ h, frozen_of_row w _ 0 _ _ h, frozen_of_row w _ 1 _ _ h, frozen_of_row w _ 2 _ _ h⟩
def MakeNo (w : World) (e : Ending) (w' : World) : Prop := e = .returned (.tuple #[.agg #[.int .i64 0, .int .i64 0, .string ⟨#[]⟩], .int .i64 1]) ∧ Below w.heap.size w w'
set_option maxHeartbeats 4000000 in
set_option maxRecDepth 100000 in
theorem make_k1 {w : World} {h : Nat} {O : Nat → Prop} {T : List Hp.Th} {av : Value} {l : List Hp.V} (H : MakeIn w h O T av l) (kind : Int) (hk : kind < 0) (hA : l.all (Hp.may T.length) = true) : Calls Try.prog 15 #[.pointer (some ⟨h, 0, none⟩), .int .i64 kind, av] w (MakeNo w) := by
  have HM := Lib.hid H
  have hall := all_st H.st H.vs H.len H.tx
  have HALL := Lib.hid hall
  obtain ⟨a, c, rfl⟩ := H.vs.len
  clear H hall
  rw [hA] at HALL
  have k0 : (kind == 0) = false := beq_eq_false_iff_ne.2 (by omega)
  have k1 : (kind == 3) = false := beq_eq_false_iff_ne.2 (by omega)
  have k2 : (kind == 1) = false := beq_eq_false_iff_ne.2 (by omega)
  have k3 : (kind == 2) = false := beq_eq_false_iff_ne.2 (by omega)
  have k5 : decide (kind < 0) = true := decide_eq_true hk
  clear hA hk
  unfold MakeNo
  unfold Makes at HALL
  go_enter Try.func15, Try.ntmps15
  go_wp2_with fail
  with_reducible refine (HALL.out _ ((Below.refl _ _).alloc (Nat.le_refl _) _)).mono ?_
  rintro e w2 ⟨rfl, hb2⟩
  obtain ⟨hz2, hw2, hs2⟩ := zer_res hb2
  obtain ⟨z0, z1, z2, y0, y1, y2⟩ := Zer3.of hz2
  have HZ2 := Lib.hid hz2
  have HW2 := Lib.hid hw2
  clear hb2 hz2 hw2
  go_wp2_with fail
  refine bodyPost_ret (res2 rfl _ _ w.heap.size 27 _ (0, 0) rfl (three_set _ _ _ _ _ _ _ _ _ HZ2.out) valD valSize) rfl ?_
  exact ⟨rfl, below_three HW2.out (Nat.le_refl _) _ _ _⟩
set_option maxHeartbeats 4000000 in
set_option maxRecDepth 100000 in
theorem make_k2 {w : World} {h : Nat} {O : Nat → Prop} {T : List Hp.Th} {av : Value} {l : List Hp.V} (H : MakeIn w h O T av l) (kind : Int) (hk : 4 < kind) (hA : l.all (Hp.may T.length) = true) : Calls Try.prog 15 #[.pointer (some ⟨h, 0, none⟩), .int .i64 kind, av] w (MakeNo w) := by
  have HM := Lib.hid H
  have hall := all_st H.st H.vs H.len H.tx
  have HALL := Lib.hid hall
  obtain ⟨a, c, rfl⟩ := H.vs.len
  clear H hall
  rw [hA] at HALL
  have k0 : (kind == 0) = false := beq_eq_false_iff_ne.2 (by omega)
  have k1 : (kind == 3) = false := beq_eq_false_iff_ne.2 (by omega)
  have k2 : (kind == 1) = false := beq_eq_false_iff_ne.2 (by omega)
  have k3 : (kind == 2) = false := beq_eq_false_iff_ne.2 (by omega)
  have k5 : decide (kind < 0) = false := decide_eq_false (by omega)
  have k6 : decide (5 ≤ kind) = true := decide_eq_true (by omega)
  clear hA hk
  unfold MakeNo
  unfold Makes at HALL
  go_enter Try.func15, Try.ntmps15
  go_wp2_with fail
  with_reducible refine (HALL.out _ ((Below.refl _ _).alloc (Nat.le_refl _) _)).mono ?_
  rintro e w2 ⟨rfl, hb2⟩
  obtain ⟨hz2, hw2, hs2⟩ := zer_res hb2
  obtain ⟨z0, z1, z2, y0, y1, y2⟩ := Zer3.of hz2
  have HZ2 := Lib.hid hz2
  have HW2 := Lib.hid hw2
  clear hb2 hz2 hw2
  go_wp2_with fail
  refine bodyPost_ret (res2 rfl _ _ w.heap.size 27 _ (0, 0) rfl (three_set _ _ _ _ _ _ _ _ _ HZ2.out) valD valSize) rfl ?_
  exact ⟨rfl, below_three HW2.out (Nat.le_refl _) _ _ _⟩
set_option maxHeartbeats 4000000 in
set_option maxRecDepth 100000 in
theorem make_k3 {w : World} {h : Nat} {O : Nat → Prop} {T : List Hp.Th} {av : Value} {l : List Hp.V} (H : MakeIn w h O T av l) (kind : Int) (hk : kind < 0 ∨ 4 < kind) (hA : l.all (Hp.may T.length) = false) : Calls Try.prog 15 #[.pointer (some ⟨h, 0, none⟩), .int .i64 kind, av] w (MakeNo w) := by
  have HM := Lib.hid H
  have hall := all_st H.st H.vs H.len H.tx
  have HALL := Lib.hid hall
  obtain ⟨a, c, rfl⟩ := H.vs.len
  clear H hall
  rw [hA] at HALL
  have k0 : (kind == 0) = false := beq_eq_false_iff_ne.2 (by omega)
  have k1 : (kind == 3) = false := beq_eq_false_iff_ne.2 (by omega)
  have k2 : (kind == 1) = false := beq_eq_false_iff_ne.2 (by omega)
  have k3 : (kind == 2) = false := beq_eq_false_iff_ne.2 (by omega)
  clear hA hk
  unfold MakeNo
  unfold Makes at HALL
  go_enter Try.func15, Try.ntmps15
  go_wp2_with fail
  with_reducible refine (HALL.out _ ((Below.refl _ _).alloc (Nat.le_refl _) _)).mono ?_
  rintro e w2 ⟨rfl, hb2⟩
  obtain ⟨hz2, hw2, hs2⟩ := zer_res hb2
  obtain ⟨z0, z1, z2, y0, y1, y2⟩ := Zer3.of hz2
  have HZ2 := Lib.hid hz2
  have HW2 := Lib.hid hw2
  clear hb2 hz2 hw2
  go_wp2_with fail
  refine bodyPost_ret (res2 rfl _ _ w.heap.size 27 _ (0, 0) rfl (three_set _ _ _ _ _ _ _ _ _ HZ2.out) valD valSize) rfl ?_
  exact ⟨rfl, below_three HW2.out (Nat.le_refl _) _ _ _⟩
set_option maxHeartbeats 4000000 in
set_option maxRecDepth 100000 in
theorem make_00 {w : World} {h : Nat} {O : Nat → Prop} {T : List Hp.Th} {av : Value} {l : List Hp.V} (H : MakeIn w h O T av l) (hA : l.all (Hp.may T.length) = false) : Calls Try.prog 15 #[.pointer (some ⟨h, 0, none⟩), .int .i64 0, av] w (MakeNo w) := by
  have HM := Lib.hid H
  have hall := all_st H.st H.vs H.len H.tx
  have HALL := Lib.hid hall
  obtain ⟨a, c, rfl⟩ := H.vs.len
  clear H hall
  rw [hA] at HALL
  clear hA
  unfold MakeNo
  unfold Makes at HALL
  go_enter Try.func15, Try.ntmps15
  go_wp2_with fail
  with_reducible refine (HALL.out _ ((Below.refl _ _).alloc (Nat.le_refl _) _)).mono ?_
  rintro e w2 ⟨rfl, hb2⟩
  obtain ⟨hz2, hw2, hs2⟩ := zer_res hb2
  obtain ⟨z0, z1, z2, y0, y1, y2⟩ := Zer3.of hz2
  have HZ2 := Lib.hid hz2
  have HW2 := Lib.hid hw2
  clear hb2 hz2 hw2
  go_wp2_with fail
  refine bodyPost_ret (res2 rfl _ _ w.heap.size 27 _ (0, 0) rfl (three_set _ _ _ _ _ _ _ _ _ HZ2.out) valD valSize) rfl ?_
  exact ⟨rfl, below_three HW2.out (Nat.le_refl _) _ _ _⟩
set_option maxHeartbeats 4000000 in
set_option maxRecDepth 100000 in
theorem make_30 {w : World} {h : Nat} {O : Nat → Prop} {T : List Hp.Th} {av : Value} {l : List Hp.V} (H : MakeIn w h O T av l) (hA : l.all (Hp.may T.length) = false) : Calls Try.prog 15 #[.pointer (some ⟨h, 0, none⟩), .int .i64 3, av] w (MakeNo w) := by
  have HM := Lib.hid H
  have hall := all_st H.st H.vs H.len H.tx
  have HALL := Lib.hid hall
  obtain ⟨a, c, rfl⟩ := H.vs.len
  clear H hall
  rw [hA] at HALL
  clear hA
  unfold MakeNo
  unfold Makes at HALL
  go_enter Try.func15, Try.ntmps15
  go_wp2_with fail
  with_reducible refine (HALL.out _ ((Below.refl _ _).alloc (Nat.le_refl _) _)).mono ?_
  rintro e w2 ⟨rfl, hb2⟩
  obtain ⟨hz2, hw2, hs2⟩ := zer_res hb2
  obtain ⟨z0, z1, z2, y0, y1, y2⟩ := Zer3.of hz2
  have HZ2 := Lib.hid hz2
  have HW2 := Lib.hid hw2
  clear hb2 hz2 hw2
  go_wp2_with fail
  refine bodyPost_ret (res2 rfl _ _ w.heap.size 27 _ (0, 0) rfl (three_set _ _ _ _ _ _ _ _ _ HZ2.out) valD valSize) rfl ?_
  exact ⟨rfl, below_three HW2.out (Nat.le_refl _) _ _ _⟩
set_option maxHeartbeats 4000000 in
set_option maxRecDepth 100000 in
theorem make_10 {w : World} {h : Nat} {O : Nat → Prop} {T : List Hp.Th} {av : Value} {l : List Hp.V} (H : MakeIn w h O T av l) (hA : l.all (Hp.may T.length) = false) : Calls Try.prog 15 #[.pointer (some ⟨h, 0, none⟩), .int .i64 1, av] w (MakeNo w) := by
  have HM := Lib.hid H
  have hall := all_st H.st H.vs H.len H.tx
  have HALL := Lib.hid hall
  obtain ⟨a, c, rfl⟩ := H.vs.len
  clear H hall
  rw [hA] at HALL
  clear hA
  unfold MakeNo
  unfold Makes at HALL
  go_enter Try.func15, Try.ntmps15
  go_wp2_with fail
  with_reducible refine (HALL.out _ ((Below.refl _ _).alloc (Nat.le_refl _) _)).mono ?_
  rintro e w2 ⟨rfl, hb2⟩
  obtain ⟨hz2, hw2, hs2⟩ := zer_res hb2
  obtain ⟨z0, z1, z2, y0, y1, y2⟩ := Zer3.of hz2
  have HZ2 := Lib.hid hz2
  have HW2 := Lib.hid hw2
  clear hb2 hz2 hw2
  go_wp2_with fail
  refine bodyPost_ret (res2 rfl _ _ w.heap.size 27 _ (0, 0) rfl (three_set _ _ _ _ _ _ _ _ _ HZ2.out) valD valSize) rfl ?_
  exact ⟨rfl, below_three HW2.out (Nat.le_refl _) _ _ _⟩
set_option maxHeartbeats 4000000 in
set_option maxRecDepth 100000 in
theorem make_20 {w : World} {h : Nat} {O : Nat → Prop} {T : List Hp.Th} {av : Value} {l : List Hp.V} (H : MakeIn w h O T av l) (hA : l.all (Hp.may T.length) = false) : Calls Try.prog 15 #[.pointer (some ⟨h, 0, none⟩), .int .i64 2, av] w (MakeNo w) := by
  have HM := Lib.hid H
  have hall := all_st H.st H.vs H.len H.tx
  have HALL := Lib.hid hall
  obtain ⟨a, c, rfl⟩ := H.vs.len
  clear H hall
  rw [hA] at HALL
  clear hA
  unfold MakeNo
  unfold Makes at HALL
  go_enter Try.func15, Try.ntmps15
  go_wp2_with fail
  with_reducible refine (HALL.out _ ((Below.refl _ _).alloc (Nat.le_refl _) _)).mono ?_
  rintro e w2 ⟨rfl, hb2⟩
  obtain ⟨hz2, hw2, hs2⟩ := zer_res hb2
  obtain ⟨z0, z1, z2, y0, y1, y2⟩ := Zer3.of hz2
  have HZ2 := Lib.hid hz2
  have HW2 := Lib.hid hw2
  clear hb2 hz2 hw2
  go_wp2_with fail
  refine bodyPost_ret (res2 rfl _ _ w.heap.size 27 _ (0, 0) rfl (three_set _ _ _ _ _ _ _ _ _ HZ2.out) valD valSize) rfl ?_
  exact ⟨rfl, below_three HW2.out (Nat.le_refl _) _ _ _⟩
set_option maxHeartbeats 4000000 in
set_option maxRecDepth 100000 in
theorem make_40 {w : World} {h : Nat} {O : Nat → Prop} {T : List Hp.Th} {av : Value} {l : List Hp.V} (H : MakeIn w h O T av l) (hA : l.all (Hp.may T.length) = false) : Calls Try.prog 15 #[.pointer (some ⟨h, 0, none⟩), .int .i64 4, av] w (MakeNo w) := by
  have HM := Lib.hid H
  have hall := all_st H.st H.vs H.len H.tx
  have HALL := Lib.hid hall
  obtain ⟨a, c, rfl⟩ := H.vs.len
  clear H hall
  rw [hA] at HALL
  clear hA
  unfold MakeNo
  unfold Makes at HALL
  go_enter Try.func15, Try.ntmps15
  go_wp2_with fail
  with_reducible refine (HALL.out _ ((Below.refl _ _).alloc (Nat.le_refl _) _)).mono ?_
  rintro e w2 ⟨rfl, hb2⟩
  obtain ⟨hz2, hw2, hs2⟩ := zer_res hb2
  obtain ⟨z0, z1, z2, y0, y1, y2⟩ := Zer3.of hz2
  have HZ2 := Lib.hid hz2
  have HW2 := Lib.hid hw2
  clear hb2 hz2 hw2
  go_wp2_with fail
  refine bodyPost_ret (res2 rfl _ _ w.heap.size 27 _ (0, 0) rfl (three_set _ _ _ _ _ _ _ _ _ HZ2.out) valD valSize) rfl ?_
  exact ⟨rfl, below_three HW2.out (Nat.le_refl _) _ _ _⟩
set_option maxHeartbeats 4000000 in
set_option maxRecDepth 100000 in
theorem make_01 {w : World} {h : Nat} {O : Nat → Prop} {T : List Hp.Th} {av : Value} {l : List Hp.V} (H : MakeIn w h O T av l) (hA : l.all (Hp.may T.length) = true) (hn : l.length ≠ 2) : Calls Try.prog 15 #[.pointer (some ⟨h, 0, none⟩), .int .i64 0, av] w (MakeNo w) := by
  have HM := Lib.hid H
  have hall := all_st H.st H.vs H.len H.tx
  have HALL := Lib.hid hall
  obtain ⟨a, c, rfl⟩ := H.vs.len
  clear H hall
  rw [hA] at HALL
  have k1 : ((l.length : Int) == 2) = false := beq_eq_false_iff_ne.2 (by omega)
  clear hA hn
  unfold MakeNo
  unfold Makes at HALL
  go_enter Try.func15, Try.ntmps15
  go_wp2_with fail
  with_reducible refine (HALL.out _ ((Below.refl _ _).alloc (Nat.le_refl _) _)).mono ?_
  rintro e w2 ⟨rfl, hb2⟩
  obtain ⟨hz2, hw2, hs2⟩ := zer_res hb2
  obtain ⟨z0, z1, z2, y0, y1, y2⟩ := Zer3.of hz2
  have HZ2 := Lib.hid hz2
  have HW2 := Lib.hid hw2
  clear hb2 hz2 hw2
  go_wp2_with fail
  refine bodyPost_ret (res2 rfl _ _ w.heap.size 27 _ (0, 0) rfl (three_set _ _ _ _ _ _ _ _ _ HZ2.out) valD valSize) rfl ?_
  exact ⟨rfl, below_three HW2.out (Nat.le_refl _) _ _ _⟩
set_option maxHeartbeats 4000000 in
set_option maxRecDepth 100000 in
theorem make_31 {w : World} {h : Nat} {O : Nat → Prop} {T : List Hp.Th} {av : Value} {l : List Hp.V} (H : MakeIn w h O T av l) (hA : l.all (Hp.may T.length) = true) (hn : l.length ≠ 1) : Calls Try.prog 15 #[.pointer (some ⟨h, 0, none⟩), .int .i64 3, av] w (MakeNo w) := by
  have HM := Lib.hid H
  have hall := all_st H.st H.vs H.len H.tx
  have HALL := Lib.hid hall
  obtain ⟨a, c, rfl⟩ := H.vs.len
  clear H hall
  rw [hA] at HALL
  have k1 : ((l.length : Int) == 1) = false := beq_eq_false_iff_ne.2 (by omega)
  clear hA hn
  unfold MakeNo
  unfold Makes at HALL
  go_enter Try.func15, Try.ntmps15
  go_wp2_with fail
  with_reducible refine (HALL.out _ ((Below.refl _ _).alloc (Nat.le_refl _) _)).mono ?_
  rintro e w2 ⟨rfl, hb2⟩
  obtain ⟨hz2, hw2, hs2⟩ := zer_res hb2
  obtain ⟨z0, z1, z2, y0, y1, y2⟩ := Zer3.of hz2
  have HZ2 := Lib.hid hz2
  have HW2 := Lib.hid hw2
  clear hb2 hz2 hw2
  go_wp2_with fail
  refine bodyPost_ret (res2 rfl _ _ w.heap.size 27 _ (0, 0) rfl (three_set _ _ _ _ _ _ _ _ _ HZ2.out) valD valSize) rfl ?_
  exact ⟨rfl, below_three HW2.out (Nat.le_refl _) _ _ _⟩
set_option maxHeartbeats 4000000 in
set_option maxRecDepth 100000 in
theorem make_11 {w : World} {h : Nat} {O : Nat → Prop} {T : List Hp.Th} {av : Value} {l : List Hp.V} (H : MakeIn w h O T av l) (hA : l.all (Hp.may T.length) = true) (hn : 1000 < l.length) : Calls Try.prog 15 #[.pointer (some ⟨h, 0, none⟩), .int .i64 1, av] w (MakeNo w) := by
  have HM := Lib.hid H
  have hall := all_st H.st H.vs H.len H.tx
  have HALL := Lib.hid hall
  obtain ⟨a, c, rfl⟩ := H.vs.len
  clear H hall
  rw [hA] at HALL
  have k1 : decide ((l.length : Int) ≤ 1000) = false := decide_eq_false (by omega)
  clear hA hn
  unfold MakeNo
  unfold Makes at HALL
  go_enter Try.func15, Try.ntmps15
  go_wp2_with fail
  with_reducible refine (HALL.out _ ((Below.refl _ _).alloc (Nat.le_refl _) _)).mono ?_
  rintro e w2 ⟨rfl, hb2⟩
  obtain ⟨hz2, hw2, hs2⟩ := zer_res hb2
  obtain ⟨z0, z1, z2, y0, y1, y2⟩ := Zer3.of hz2
  have HZ2 := Lib.hid hz2
  have HW2 := Lib.hid hw2
  clear hb2 hz2 hw2
  go_wp2_with fail
  refine bodyPost_ret (res2 rfl _ _ w.heap.size 27 _ (0, 0) rfl (three_set _ _ _ _ _ _ _ _ _ HZ2.out) valD valSize) rfl ?_
  exact ⟨rfl, below_three HW2.out (Nat.le_refl _) _ _ _⟩
set_option maxHeartbeats 4000000 in
set_option maxRecDepth 100000 in
theorem make_21 {w : World} {h : Nat} {O : Nat → Prop} {T : List Hp.Th} {av : Value} {l : List Hp.V} (H : MakeIn w h O T av l) (hA : l.all (Hp.may T.length) = true) (hn : 1000 < l.length) : Calls Try.prog 15 #[.pointer (some ⟨h, 0, none⟩), .int .i64 2, av] w (MakeNo w) := by
  have HM := Lib.hid H
  have hall := all_st H.st H.vs H.len H.tx
  have HALL := Lib.hid hall
  obtain ⟨a, c, rfl⟩ := H.vs.len
  clear H hall
  rw [hA] at HALL
  have k1 : decide ((l.length : Int) ≤ 1000) = false := decide_eq_false (by omega)
  clear hA hn
  unfold MakeNo
  unfold Makes at HALL
  go_enter Try.func15, Try.ntmps15
  go_wp2_with fail
  with_reducible refine (HALL.out _ ((Below.refl _ _).alloc (Nat.le_refl _) _)).mono ?_
  rintro e w2 ⟨rfl, hb2⟩
  obtain ⟨hz2, hw2, hs2⟩ := zer_res hb2
  obtain ⟨z0, z1, z2, y0, y1, y2⟩ := Zer3.of hz2
  have HZ2 := Lib.hid hz2
  have HW2 := Lib.hid hw2
  clear hb2 hz2 hw2
  go_wp2_with fail
  refine bodyPost_ret (res2 rfl _ _ w.heap.size 27 _ (0, 0) rfl (three_set _ _ _ _ _ _ _ _ _ HZ2.out) valD valSize) rfl ?_
  exact ⟨rfl, below_three HW2.out (Nat.le_refl _) _ _ _⟩
set_option maxHeartbeats 4000000 in
set_option maxRecDepth 100000 in
theorem make_22 {w : World} {h : Nat} {O : Nat → Prop} {T : List Hp.Th} {av : Value} {l : List Hp.V} (H : MakeIn w h O T av l) (hA : l.all (Hp.may T.length) = true) (hn : l.length ≤ 1000) (hC : (l.any fun v => decide (v.kind ≠ 2)) = true) : Calls Try.prog 15 #[.pointer (some ⟨h, 0, none⟩), .int .i64 2, av] w (MakeNo w) := by
  have HM := Lib.hid H
  have hall := all_st H.st H.vs H.len H.tx
  have HALL := Lib.hid hall
  obtain ⟨a, c, rfl⟩ := H.vs.len
  clear H hall
  rw [hA] at HALL
  have HCT := Lib.hid (HM.out.contains _ hC)
  unfold Makes at HCT
  have k1 : decide ((l.length : Int) ≤ 1000) = true := decide_eq_true (by omega)
  clear hA hn hC
  unfold MakeNo
  unfold Makes at HALL
  go_enter Try.func15, Try.ntmps15
  go_wp2_with fail
  with_reducible refine (HALL.out _ ((Below.refl _ _).alloc (Nat.le_refl _) _)).mono ?_
  rintro e w2 ⟨rfl, hb2⟩
  obtain ⟨hz2, hw2, hs2⟩ := zer_res hb2
  obtain ⟨z0, z1, z2, y0, y1, y2⟩ := Zer3.of hz2
  have HZ2 := Lib.hid hz2
  have HW2 := Lib.hid hw2
  clear hb2 hz2 hw2
  go_wp2_with fail
  with_reducible refine (HCT.out _ HW2.out).mono ?_
  rintro e w3 ⟨rfl, hb3⟩
  have hz3 := (hb3.block w.heap.size hs2).trans HZ2.out
  have hs3 : w.heap.size < w3.heap.size := Nat.lt_of_lt_of_le hs2 hb3.size
  obtain ⟨q0, q1, q2, p0, p1, p2⟩ := Zer3.of hz3
  have HZ3 := Lib.hid hz3
  have HW3 := Lib.hid (HW2.out.trans (hb3.mono (Nat.le_of_lt hs2)))
  clear hb3 hz3
  go_wp2_with fail
  refine bodyPost_ret (res2 rfl _ _ w.heap.size 27 _ (0, 0) rfl (three_set _ _ _ _ _ _ _ _ _ HZ3.out) valD valSize) rfl ?_
  exact ⟨rfl, below_three HW3.out (Nat.le_refl _) _ _ _⟩
set_option maxHeartbeats 4000000 in
set_option maxRecDepth 100000 in
theorem make_y0 {w : World} {h : Nat} {O : Nat → Prop} {T : List Hp.Th} {av : Value} {l : List Hp.V} (H : MakeIn w h O T av l) (hT : T.length ≤ 1000000) (hA : l.all (Hp.may T.length) = true) (hn : l.length = 2) : Calls Try.prog 15 #[.pointer (some ⟨h, 0, none⟩), .int .i64 0, av] w (DoPost 65 h O ⟨8, T.length, ⟨#[]⟩⟩ 0 (T ++ [⟨0, l⟩]) w) := by
  have HM := Lib.hid H
  have hall := all_st H.st H.vs H.len H.tx
  have HALL := Lib.hid hall
  have HCL : Hid (∀ (w1 : World), Below w.heap.size w w1 → Calls Try.prog 35 #[av] w1 (CloneV l w1)) := fun w1 hb => clone_any av l w1 (H.bel hb).vs H.len
  have HADD : Hid (∀ (pv : Value) (B : Nat) (w1 : World), Below w.heap.size w w1 → w1.ownsRow B 27 3 pv l.length (Hp.flatV l) → w.heap.size ≤ B → B ≤ w1.heap.size → Calls Try.prog 34 #[.pointer (some ⟨h, 0, none⟩), .int .i64 0, pv] w1 (AddPost 65 h B O T ⟨0, l⟩ w1)) := by
    intro pv B w1 hb ho hB1 hB2
    exact add_any h O T B ⟨0, l⟩ pv w1 (H.bel hb).st ho (fun b hb => Nat.lt_of_lt_of_le (H.st.lt b hb) hB1) hB2 hT
  have HOL : Hid (∀ b, O b → b < w.heap.size) := fun b e => H.st.lt b e
  obtain ⟨a, c, rfl⟩ := H.vs.len
  clear H hall
  rw [hA] at HALL
  have k1 : ((l.length : Int) == 2) = true := by rw [hn]; rfl
  clear hA hn
  unfold DoPost
  unfold AddPost at HADD
  unfold CloneV at HCL
  unfold Makes at HALL
  unfold Hp.V.val at *
  dsimp only at *
  go_enter Try.func15, Try.ntmps15
  go_wp2_with fail
  with_reducible refine (HALL.out _ ((Below.refl _ _).alloc (Nat.le_refl _) _)).mono ?_
  rintro e w2 ⟨rfl, hb2⟩
  obtain ⟨hz2, hw2, hs2⟩ := zer_res hb2
  obtain ⟨z0, z1, z2, y0, y1, y2⟩ := Zer3.of hz2
  have HZ2 := Lib.hid hz2
  have HW2 := Lib.hid hw2
  clear hb2 hz2 hw2
  go_wp2_with fail
  with_reducible refine (HCL.out _ HW2.out).mono ?_
  rintro e w4 ⟨a4, c4, rfl, hown, hb4⟩
  have HO := Lib.hid hown
  have hz4 := (hb4.block w.heap.size hs2).trans HZ2.out
  have hs4 : w2.heap.size ≤ w4.heap.size := hb4.size
  have HZ4 := Lib.hid hz4
  have HW4 := Lib.hid (HW2.out.trans (hb4.mono (Nat.le_of_lt hs2)))
  clear hown hb4 hz4
  go_wp2_with fail
  with_reducible refine (HADD.out _ w2.heap.size w4 HW4.out HO.out (Nat.le_of_lt hs2) hs4).mono ?_
  rintro e w5 ⟨O', rfl, hst, hg⟩
  have hnO : ¬ O w.heap.size := fun e => by have := HOL.out _ e; omega
  have hnO' : ¬ O' w.heap.size := fun e => by
    rcases hg.own _ e with e | e
    · exact hnO e
    · omega
  have hz5 := (hg.block w.heap.size (by omega) hnO).trans HZ4.out
  obtain ⟨v0, v1, v2, x0, x1, x2⟩ := Zer3.of hz5
  have HZ5 := Lib.hid hz5
  have HE := Lib.hid (fun x y z => ret_end hst ((hg.pre HW4.out).grow (by omega)) hnO' (g := w.heap.size) (Nat.le_refl _) x y z)
  clear hg hst hz5 hnO hnO'
  go_wp2_with fail
  refine bodyPost_ret (res2 rfl _ _ w.heap.size 27 _ (0, 0) rfl (three_set _ _ _ _ _ _ _ _ _ HZ5.out) valD valSize) rfl ?_
  exact ⟨O', by simp, HE.out _ _ _⟩
set_option maxHeartbeats 4000000 in
set_option maxRecDepth 100000 in
theorem make_y3 {w : World} {h : Nat} {O : Nat → Prop} {T : List Hp.Th} {av : Value} {l : List Hp.V} (H : MakeIn w h O T av l) (hT : T.length ≤ 1000000) (hA : l.all (Hp.may T.length) = true) (hn : l.length = 1) : Calls Try.prog 15 #[.pointer (some ⟨h, 0, none⟩), .int .i64 3, av] w (DoPost 65 h O ⟨8, T.length, ⟨#[]⟩⟩ 0 (T ++ [⟨3, l⟩]) w) := by
  have HM := Lib.hid H
  have hall := all_st H.st H.vs H.len H.tx
  have HALL := Lib.hid hall
  have HCL : Hid (∀ (w1 : World), Below w.heap.size w w1 → Calls Try.prog 35 #[av] w1 (CloneV l w1)) := fun w1 hb => clone_any av l w1 (H.bel hb).vs H.len
  have HADD : Hid (∀ (pv : Value) (B : Nat) (w1 : World), Below w.heap.size w w1 → w1.ownsRow B 27 3 pv l.length (Hp.flatV l) → w.heap.size ≤ B → B ≤ w1.heap.size → Calls Try.prog 34 #[.pointer (some ⟨h, 0, none⟩), .int .i64 3, pv] w1 (AddPost 65 h B O T ⟨3, l⟩ w1)) := by
    intro pv B w1 hb ho hB1 hB2
    exact add_any h O T B ⟨3, l⟩ pv w1 (H.bel hb).st ho (fun b hb => Nat.lt_of_lt_of_le (H.st.lt b hb) hB1) hB2 hT
  have HOL : Hid (∀ b, O b → b < w.heap.size) := fun b e => H.st.lt b e
  obtain ⟨a, c, rfl⟩ := H.vs.len
  clear H hall
  rw [hA] at HALL
  have k1 : ((l.length : Int) == 1) = true := by rw [hn]; rfl
  clear hA hn
  unfold DoPost
  unfold AddPost at HADD
  unfold CloneV at HCL
  unfold Makes at HALL
  unfold Hp.V.val at *
  dsimp only at *
  go_enter Try.func15, Try.ntmps15
  go_wp2_with fail
  with_reducible refine (HALL.out _ ((Below.refl _ _).alloc (Nat.le_refl _) _)).mono ?_
  rintro e w2 ⟨rfl, hb2⟩
  obtain ⟨hz2, hw2, hs2⟩ := zer_res hb2
  obtain ⟨z0, z1, z2, y0, y1, y2⟩ := Zer3.of hz2
  have HZ2 := Lib.hid hz2
  have HW2 := Lib.hid hw2
  clear hb2 hz2 hw2
  go_wp2_with fail
  with_reducible refine (HCL.out _ HW2.out).mono ?_
  rintro e w4 ⟨a4, c4, rfl, hown, hb4⟩
  have HO := Lib.hid hown
  have hz4 := (hb4.block w.heap.size hs2).trans HZ2.out
  have hs4 : w2.heap.size ≤ w4.heap.size := hb4.size
  have HZ4 := Lib.hid hz4
  have HW4 := Lib.hid (HW2.out.trans (hb4.mono (Nat.le_of_lt hs2)))
  clear hown hb4 hz4
  go_wp2_with fail
  with_reducible refine (HADD.out _ w2.heap.size w4 HW4.out HO.out (Nat.le_of_lt hs2) hs4).mono ?_
  rintro e w5 ⟨O', rfl, hst, hg⟩
  have hnO : ¬ O w.heap.size := fun e => by have := HOL.out _ e; omega
  have hnO' : ¬ O' w.heap.size := fun e => by
    rcases hg.own _ e with e | e
    · exact hnO e
    · omega
  have hz5 := (hg.block w.heap.size (by omega) hnO).trans HZ4.out
  obtain ⟨v0, v1, v2, x0, x1, x2⟩ := Zer3.of hz5
  have HZ5 := Lib.hid hz5
  have HE := Lib.hid (fun x y z => ret_end hst ((hg.pre HW4.out).grow (by omega)) hnO' (g := w.heap.size) (Nat.le_refl _) x y z)
  clear hg hst hz5 hnO hnO'
  go_wp2_with fail
  refine bodyPost_ret (res2 rfl _ _ w.heap.size 27 _ (0, 0) rfl (three_set _ _ _ _ _ _ _ _ _ HZ5.out) valD valSize) rfl ?_
  exact ⟨O', by simp, HE.out _ _ _⟩
set_option maxHeartbeats 4000000 in
set_option maxRecDepth 100000 in
theorem make_y1 {w : World} {h : Nat} {O : Nat → Prop} {T : List Hp.Th} {av : Value} {l : List Hp.V} (H : MakeIn w h O T av l) (hT : T.length ≤ 1000000) (hA : l.all (Hp.may T.length) = true) (hn : l.length ≤ 1000) : Calls Try.prog 15 #[.pointer (some ⟨h, 0, none⟩), .int .i64 1, av] w (DoPost 65 h O ⟨8, T.length, ⟨#[]⟩⟩ 0 (T ++ [⟨1, l⟩]) w) := by
  have HM := Lib.hid H
  have hall := all_st H.st H.vs H.len H.tx
  have HALL := Lib.hid hall
  have HCL : Hid (∀ (w1 : World), Below w.heap.size w w1 → Calls Try.prog 35 #[av] w1 (CloneV l w1)) := fun w1 hb => clone_any av l w1 (H.bel hb).vs H.len
  have HADD : Hid (∀ (pv : Value) (B : Nat) (w1 : World), Below w.heap.size w w1 → w1.ownsRow B 27 3 pv l.length (Hp.flatV l) → w.heap.size ≤ B → B ≤ w1.heap.size → Calls Try.prog 34 #[.pointer (some ⟨h, 0, none⟩), .int .i64 1, pv] w1 (AddPost 65 h B O T ⟨1, l⟩ w1)) := by
    intro pv B w1 hb ho hB1 hB2
    exact add_any h O T B ⟨1, l⟩ pv w1 (H.bel hb).st ho (fun b hb => Nat.lt_of_lt_of_le (H.st.lt b hb) hB1) hB2 hT
  have HOL : Hid (∀ b, O b → b < w.heap.size) := fun b e => H.st.lt b e
  obtain ⟨a, c, rfl⟩ := H.vs.len
  clear H hall
  rw [hA] at HALL
  have k1 : decide ((l.length : Int) ≤ 1000) = true := decide_eq_true (by omega)
  clear hA hn
  unfold DoPost
  unfold AddPost at HADD
  unfold CloneV at HCL
  unfold Makes at HALL
  unfold Hp.V.val at *
  dsimp only at *
  go_enter Try.func15, Try.ntmps15
  go_wp2_with fail
  with_reducible refine (HALL.out _ ((Below.refl _ _).alloc (Nat.le_refl _) _)).mono ?_
  rintro e w2 ⟨rfl, hb2⟩
  obtain ⟨hz2, hw2, hs2⟩ := zer_res hb2
  obtain ⟨z0, z1, z2, y0, y1, y2⟩ := Zer3.of hz2
  have HZ2 := Lib.hid hz2
  have HW2 := Lib.hid hw2
  clear hb2 hz2 hw2
  go_wp2_with fail
  with_reducible refine (HCL.out _ HW2.out).mono ?_
  rintro e w4 ⟨a4, c4, rfl, hown, hb4⟩
  have HO := Lib.hid hown
  have hz4 := (hb4.block w.heap.size hs2).trans HZ2.out
  have hs4 : w2.heap.size ≤ w4.heap.size := hb4.size
  have HZ4 := Lib.hid hz4
  have HW4 := Lib.hid (HW2.out.trans (hb4.mono (Nat.le_of_lt hs2)))
  clear hown hb4 hz4
  go_wp2_with fail
  with_reducible refine (HADD.out _ w2.heap.size w4 HW4.out HO.out (Nat.le_of_lt hs2) hs4).mono ?_
  rintro e w5 ⟨O', rfl, hst, hg⟩
  have hnO : ¬ O w.heap.size := fun e => by have := HOL.out _ e; omega
  have hnO' : ¬ O' w.heap.size := fun e => by
    rcases hg.own _ e with e | e
    · exact hnO e
    · omega
  have hz5 := (hg.block w.heap.size (by omega) hnO).trans HZ4.out
  obtain ⟨v0, v1, v2, x0, x1, x2⟩ := Zer3.of hz5
  have HZ5 := Lib.hid hz5
  have HE := Lib.hid (fun x y z => ret_end hst ((hg.pre HW4.out).grow (by omega)) hnO' (g := w.heap.size) (Nat.le_refl _) x y z)
  clear hg hst hz5 hnO hnO'
  go_wp2_with fail
  refine bodyPost_ret (res2 rfl _ _ w.heap.size 27 _ (0, 0) rfl (three_set _ _ _ _ _ _ _ _ _ HZ5.out) valD valSize) rfl ?_
  exact ⟨O', by simp, HE.out _ _ _⟩
set_option maxHeartbeats 4000000 in
set_option maxRecDepth 100000 in
theorem make_y2 {w : World} {h : Nat} {O : Nat → Prop} {T : List Hp.Th} {av : Value} {l : List Hp.V} (H : MakeIn w h O T av l) (hT : T.length ≤ 1000000) (hA : l.all (Hp.may T.length) = true) (hn : l.length ≤ 1000) (hC : (l.any fun v => decide (v.kind ≠ 2)) = false) : Calls Try.prog 15 #[.pointer (some ⟨h, 0, none⟩), .int .i64 2, av] w (DoPost 65 h O ⟨8, T.length, ⟨#[]⟩⟩ 0 (T ++ [⟨2, l⟩]) w) := by
  have HM := Lib.hid H
  have hall := all_st H.st H.vs H.len H.tx
  have HALL := Lib.hid hall
  have HCL : Hid (∀ (w1 : World), Below w.heap.size w w1 → Calls Try.prog 35 #[av] w1 (CloneV l w1)) := fun w1 hb => clone_any av l w1 (H.bel hb).vs H.len
  have HADD : Hid (∀ (pv : Value) (B : Nat) (w1 : World), Below w.heap.size w w1 → w1.ownsRow B 27 3 pv l.length (Hp.flatV l) → w.heap.size ≤ B → B ≤ w1.heap.size → Calls Try.prog 34 #[.pointer (some ⟨h, 0, none⟩), .int .i64 2, pv] w1 (AddPost 65 h B O T ⟨2, l⟩ w1)) := by
    intro pv B w1 hb ho hB1 hB2
    exact add_any h O T B ⟨2, l⟩ pv w1 (H.bel hb).st ho (fun b hb => Nat.lt_of_lt_of_le (H.st.lt b hb) hB1) hB2 hT
  have HOL : Hid (∀ b, O b → b < w.heap.size) := fun b e => H.st.lt b e
  obtain ⟨a, c, rfl⟩ := H.vs.len
  clear H hall
  rw [hA] at HALL
  have HCT := Lib.hid (HM.out.contains _ hC)
  unfold Makes at HCT
  have k1 : decide ((l.length : Int) ≤ 1000) = true := decide_eq_true (by omega)
  clear hA hn hC
  unfold DoPost
  unfold AddPost at HADD
  unfold CloneV at HCL
  unfold Makes at HALL
  unfold Hp.V.val at *
  dsimp only at *
  go_enter Try.func15, Try.ntmps15
  go_wp2_with fail
  with_reducible refine (HALL.out _ ((Below.refl _ _).alloc (Nat.le_refl _) _)).mono ?_
  rintro e w2 ⟨rfl, hb2⟩
  obtain ⟨hz2, hw2, hs2⟩ := zer_res hb2
  obtain ⟨z0, z1, z2, y0, y1, y2⟩ := Zer3.of hz2
  have HZ2 := Lib.hid hz2
  have HW2 := Lib.hid hw2
  clear hb2 hz2 hw2
  go_wp2_with fail
  with_reducible refine (HCT.out _ HW2.out).mono ?_
  rintro e w3 ⟨rfl, hb3⟩
  have hz3 := (hb3.block w.heap.size hs2).trans HZ2.out
  have hs3 : w.heap.size < w3.heap.size := Nat.lt_of_lt_of_le hs2 hb3.size
  obtain ⟨q0, q1, q2, p0, p1, p2⟩ := Zer3.of hz3
  have HZ3 := Lib.hid hz3
  have HW3 := Lib.hid (HW2.out.trans (hb3.mono (Nat.le_of_lt hs2)))
  clear hb3 hz3
  go_wp2_with fail
  with_reducible refine (HCL.out _ HW3.out).mono ?_
  rintro e w4 ⟨a4, c4, rfl, hown, hb4⟩
  have HO := Lib.hid hown
  have hz4 := (hb4.block w.heap.size hs3).trans HZ3.out
  have hs4 : w3.heap.size ≤ w4.heap.size := hb4.size
  have HZ4 := Lib.hid hz4
  have HW4 := Lib.hid (HW3.out.trans (hb4.mono (Nat.le_of_lt hs3)))
  clear hown hb4 hz4
  go_wp2_with fail
  with_reducible refine (HADD.out _ w3.heap.size w4 HW4.out HO.out (Nat.le_of_lt hs3) hs4).mono ?_
  rintro e w5 ⟨O', rfl, hst, hg⟩
  have hnO : ¬ O w.heap.size := fun e => by have := HOL.out _ e; omega
  have hnO' : ¬ O' w.heap.size := fun e => by
    rcases hg.own _ e with e | e
    · exact hnO e
    · omega
  have hz5 := (hg.block w.heap.size (by omega) hnO).trans HZ4.out
  obtain ⟨v0, v1, v2, x0, x1, x2⟩ := Zer3.of hz5
  have HZ5 := Lib.hid hz5
  have HE := Lib.hid (fun x y z => ret_end hst ((hg.pre HW4.out).grow (by omega)) hnO' (g := w.heap.size) (Nat.le_refl _) x y z)
  clear hg hst hz5 hnO hnO'
  go_wp2_with fail
  refine bodyPost_ret (res2 rfl _ _ w.heap.size 27 _ (0, 0) rfl (three_set _ _ _ _ _ _ _ _ _ HZ5.out) valD valSize) rfl ?_
  exact ⟨O', by simp, HE.out _ _ _⟩
set_option maxHeartbeats 4000000 in
set_option maxRecDepth 100000 in
theorem make_y4 {w : World} {h : Nat} {O : Nat → Prop} {T : List Hp.Th} {av : Value} {l : List Hp.V} (H : MakeIn w h O T av l) (hT : T.length ≤ 1000000) (hA : l.all (Hp.may T.length) = true)  : Calls Try.prog 15 #[.pointer (some ⟨h, 0, none⟩), .int .i64 4, av] w (DoPost 65 h O ⟨8, T.length, ⟨#[]⟩⟩ 0 (T ++ [⟨4, l⟩]) w) := by
  have HM := Lib.hid H
  have hall := all_st H.st H.vs H.len H.tx
  have HALL := Lib.hid hall
  have HCL : Hid (∀ (w1 : World), Below w.heap.size w w1 → Calls Try.prog 35 #[av] w1 (CloneV l w1)) := fun w1 hb => clone_any av l w1 (H.bel hb).vs H.len
  have HADD : Hid (∀ (pv : Value) (B : Nat) (w1 : World), Below w.heap.size w w1 → w1.ownsRow B 27 3 pv l.length (Hp.flatV l) → w.heap.size ≤ B → B ≤ w1.heap.size → Calls Try.prog 34 #[.pointer (some ⟨h, 0, none⟩), .int .i64 4, pv] w1 (AddPost 65 h B O T ⟨4, l⟩ w1)) := by
    intro pv B w1 hb ho hB1 hB2
    exact add_any h O T B ⟨4, l⟩ pv w1 (H.bel hb).st ho (fun b hb => Nat.lt_of_lt_of_le (H.st.lt b hb) hB1) hB2 hT
  have HOL : Hid (∀ b, O b → b < w.heap.size) := fun b e => H.st.lt b e
  obtain ⟨a, c, rfl⟩ := H.vs.len
  clear H hall
  rw [hA] at HALL
  clear hA 
  unfold DoPost
  unfold AddPost at HADD
  unfold CloneV at HCL
  unfold Makes at HALL
  unfold Hp.V.val at *
  dsimp only at *
  go_enter Try.func15, Try.ntmps15
  go_wp2_with fail
  with_reducible refine (HALL.out _ ((Below.refl _ _).alloc (Nat.le_refl _) _)).mono ?_
  rintro e w2 ⟨rfl, hb2⟩
  obtain ⟨hz2, hw2, hs2⟩ := zer_res hb2
  obtain ⟨z0, z1, z2, y0, y1, y2⟩ := Zer3.of hz2
  have HZ2 := Lib.hid hz2
  have HW2 := Lib.hid hw2
  clear hb2 hz2 hw2
  go_wp2_with fail
  with_reducible refine (HCL.out _ HW2.out).mono ?_
  rintro e w4 ⟨a4, c4, rfl, hown, hb4⟩
  have HO := Lib.hid hown
  have hz4 := (hb4.block w.heap.size hs2).trans HZ2.out
  have hs4 : w2.heap.size ≤ w4.heap.size := hb4.size
  have HZ4 := Lib.hid hz4
  have HW4 := Lib.hid (HW2.out.trans (hb4.mono (Nat.le_of_lt hs2)))
  clear hown hb4 hz4
  go_wp2_with fail
  with_reducible refine (HADD.out _ w2.heap.size w4 HW4.out HO.out (Nat.le_of_lt hs2) hs4).mono ?_
  rintro e w5 ⟨O', rfl, hst, hg⟩
  have hnO : ¬ O w.heap.size := fun e => by have := HOL.out _ e; omega
  have hnO' : ¬ O' w.heap.size := fun e => by
    rcases hg.own _ e with e | e
    · exact hnO e
    · omega
  have hz5 := (hg.block w.heap.size (by omega) hnO).trans HZ4.out
  obtain ⟨v0, v1, v2, x0, x1, x2⟩ := Zer3.of hz5
  have HZ5 := Lib.hid hz5
  have HE := Lib.hid (fun x y z => ret_end hst ((hg.pre HW4.out).grow (by omega)) hnO' (g := w.heap.size) (Nat.le_refl _) x y z)
  clear hg hst hz5 hnO hnO'
  go_wp2_with fail
  refine bodyPost_ret (res2 rfl _ _ w.heap.size 27 _ (0, 0) rfl (three_set _ _ _ _ _ _ _ _ _ HZ5.out) valD valSize) rfl ?_
  exact ⟨O', by simp, HE.out _ _ _⟩
theorem MakeNo.post {w w' : World} {h : Nat} {O : Nat → Prop} {T : List Hp.Th} {e : Ending} (H : HSt w 65 h O T) (hn : MakeNo w e w') : DoPost 65 h O Hp.none 1 T w e w' := DoPost.read H hn.1 hn.2
/-- What Make answers. -/
def Hp.makeF (T : List Hp.Th) (kind : Int) (l : List Hp.V) : Hp.V × Int × List Hp.Th := if Hp.makeOk T kind l = true then (⟨8, T.length, ⟨#[]⟩⟩, 0, T ++ [⟨kind, l⟩]) else (Hp.none, 1, T)
theorem Make_any {w : World} {h : Nat} {O : Nat → Prop} {T : List Hp.Th} {av : Value} {l : List Hp.V} (H : MakeIn w h O T av l) (hT : T.length ≤ 1000000) (kind : Int) :
    Calls Try.prog 15 #[.pointer (some ⟨h, 0, none⟩), .int .i64 kind, av] w (DoPost 65 h O (Hp.makeF T kind l).1 (Hp.makeF T kind l).2.1 (Hp.makeF T kind l).2.2 w) := by
  have hno : ∀ {P : Prop}, Hp.makeOk T kind l = false → Calls Try.prog 15 #[.pointer (some ⟨h, 0, none⟩), .int .i64 kind, av] w (MakeNo w) → Calls Try.prog 15 #[.pointer (some ⟨h, 0, none⟩), .int .i64 kind, av] w (DoPost 65 h O (Hp.makeF T kind l).1 (Hp.makeF T kind l).2.1 (Hp.makeF T kind l).2.2 w) := fun hf hc => by
    have e : Hp.makeF T kind l = (Hp.none, 1, T) := by unfold Hp.makeF; rw [hf]; rfl
    rw [e]
    exact hc.mono fun e w' hn => hn.post H.st
  have hyes : Hp.makeOk T kind l = true → Calls Try.prog 15 #[.pointer (some ⟨h, 0, none⟩), .int .i64 kind, av] w (DoPost 65 h O ⟨8, T.length, ⟨#[]⟩⟩ 0 (T ++ [⟨kind, l⟩]) w) → Calls Try.prog 15 #[.pointer (some ⟨h, 0, none⟩), .int .i64 kind, av] w (DoPost 65 h O (Hp.makeF T kind l).1 (Hp.makeF T kind l).2.1 (Hp.makeF T kind l).2.2 w) := fun hf hc => by
    have e : Hp.makeF T kind l = (⟨8, T.length, ⟨#[]⟩⟩, 0, T ++ [⟨kind, l⟩]) := by unfold Hp.makeF; rw [hf]; rfl
    rw [e]
    exact hc
  cases hA : l.all (Hp.may T.length) with
  | false =>
    have hf : Hp.makeOk T kind l = false := by unfold Hp.makeOk; rw [hA]; rfl
    rcases (by omega : (kind < 0 ∨ 4 < kind) ∨ kind = 0 ∨ kind = 1 ∨ kind = 2 ∨ kind = 3 ∨ kind = 4) with hk | rfl | rfl | rfl | rfl | rfl
    · exact hno (P := True) hf (make_k3 H kind hk hA)
    · exact hno (P := True) hf (make_00 H hA)
    · exact hno (P := True) hf (make_10 H hA)
    · exact hno (P := True) hf (make_20 H hA)
    · exact hno (P := True) hf (make_30 H hA)
    · exact hno (P := True) hf (make_40 H hA)
  | true =>
    rcases (by omega : kind < 0 ∨ 4 < kind ∨ kind = 0 ∨ kind = 1 ∨ kind = 2 ∨ kind = 3 ∨ kind = 4) with hk | hk | rfl | rfl | rfl | rfl | rfl
    · refine hno (P := True) ?_ (make_k1 H kind hk hA)
      have : ¬ kind = 0 ∧ ¬ kind = 3 ∧ ¬ kind = 1 ∧ ¬ kind = 2 ∧ ¬ kind = 4 := by omega
      simp [Hp.makeOk, Hp.sizeOk, this]
    · refine hno (P := True) ?_ (make_k2 H kind hk hA)
      have : ¬ kind = 0 ∧ ¬ kind = 3 ∧ ¬ kind = 1 ∧ ¬ kind = 2 ∧ ¬ kind = 4 := by omega
      simp [Hp.makeOk, Hp.sizeOk, this]
    · by_cases hn : l.length = 2
      · exact hyes (by simp [Hp.makeOk, Hp.sizeOk, hA, hn]) (make_y0 H hT hA hn)
      · exact hno (P := True) (by simp [Hp.makeOk, Hp.sizeOk, hn]) (make_01 H hA hn)
    · by_cases hn : l.length ≤ 1000
      · exact hyes (by simp [Hp.makeOk, Hp.sizeOk, hA, hn]) (make_y1 H hT hA hn)
      · exact hno (P := True) (by simp [Hp.makeOk, Hp.sizeOk, hn]) (make_11 H hA (by omega))
    · by_cases hn : l.length ≤ 1000
      · cases hC : (l.any fun v => decide (v.kind ≠ 2)) with
        | false => exact hyes (by simp only [Hp.makeOk, Hp.sizeOk, hA, hC, hn]; simp) (make_y2 H hT hA hn hC)
        | true => exact hno (P := True) (by simp only [Hp.makeOk, Hp.sizeOk, hA, hC, hn]; simp) (make_22 H hA hn hC)
      · exact hno (P := True) (by simp [Hp.makeOk, Hp.sizeOk, hn]) (make_21 H hA (by omega))
    · by_cases hn : l.length = 1
      · exact hyes (by simp [Hp.makeOk, Hp.sizeOk, hA, hn]) (make_y3 H hT hA hn)
      · exact hno (P := True) (by simp [Hp.makeOk, Hp.sizeOk, hn]) (make_31 H hA hn)
    · exact hyes (by simp [Hp.makeOk, Hp.sizeOk, hA]) (make_y4 H hT hA)
end Go.Proofs.Ythbnhneibpoooaa
/- Are two things the same? -/
namespace Go.Proofs.Ythbnhneibpoooaa
open Go.RowKit
set_option linter.unusedVariables false
set_option linter.unusedSimpArgs false
set_option linter.unnecessarySimpa false
theorem VSl.cells {w : World} {a : Option Addr} {n c : Nat} {l : List Hp.V} (h : VSl w (.slice a n c) l) {k : Nat} {x : Hp.V} (hx : l[k]? = some x) : ∃ b off, a = some ⟨b, off, none⟩ ∧ b < w.heap.size ∧ w.cell? ⟨b, off + k * 3, none⟩ = some (.int .i64 x.kind) ∧ w.cell? ⟨b, off + k * 3 + 1, none⟩ = some (.int .i64 x.int) ∧ w.cell? ⟨b, off + k * 3 + 2, none⟩ = some (.string x.text) := by
  obtain ⟨b, off, e, h1, h2⟩ := h.at (fun e => by rw [e] at hx; simp at hx)
  exact ⟨b, off, e, h1, h2 k x hx⟩
theorem new_two (w : World) (a b c d : Value) {t t2 : TypeId} : (∀ q, (((w.alloc (.cells #[a, b] t)).alloc (.cells #[c, d] t2)).drewN q).cell? ⟨w.heap.size, 1, none⟩ = some b) ∧ ∀ q, (((w.alloc (.cells #[a, b] t)).alloc (.cells #[c, d] t2)).drewN q).cell? ⟨w.heap.size + 1, 1, none⟩ = some d := by
  refine ⟨fun q => ?_, fun q => ?_⟩
  · exact (cell_of_row _ _ _ _ _ _ ((heap_alloc_old _ _ (by simp)).trans (heap_alloc_new w _)))
  · exact (cell_of_row _ _ _ _ _ _ (heap_new (w := w.alloc (.cells #[a, b] t)) (by simp)))
set_option maxHeartbeats 4000000 in
set_option maxRecDepth 100000 in
theorem samet_any (ka kb : Int) (sa sb : Value) (la lb : List Hp.V) (w : World) (ha : VSl w sa la) (hb : VSl w sb lb) (hla : la.length ≤ 1000000) (hlb : lb.length ≤ 1000000) :
    Calls Try.prog 22 #[.agg #[.int .i64 ka, sa], .agg #[.int .i64 kb, sb]] w fun e w' => e = .returned (.bool (decide (ka = kb) && decide (la = lb))) ∧ Below w.heap.size w w' := by
  obtain ⟨aa, ca, rfl⟩ := ha.len
  obtain ⟨ab, cb, rfl⟩ := hb.len
  have HA := Lib.hid ha
  have HB := Lib.hid hb
  have hB0 := ((Below.refl w.heap.size w).alloc (Nat.le_refl _) (.cells #[.int .i64 ka, .slice aa la.length ca] 54)).alloc (by simp) (.cells #[.int .i64 kb, .slice ab lb.length cb] 54)
  have HB0 := Lib.hid hB0
  clear ha hb hB0
  by_cases hk : ka = kb
  · subst hk
    by_cases hl : la.length = lb.length
    · have e : (decide (ka = ka) && decide (la = lb)) = decide (la = lb) := by simp
      rw [e]
      have hq : (((la.length : Nat) : Int) != ((lb.length : Nat) : Int)) = false := by simp [hl]
      have hq2 : (la.length != lb.length) = false := by simp [hl]
      have HL := Lib.hid hl
      clear e hl
      go_enter Try.func22, Try.ntmps22
      go_wp2_with fail
      go_loopg [5] la.length (fun gk i wx => ∃ k : Nat, k ≤ la.length ∧ gk = la.length - k ∧ i = .int .i64 k ∧ Hid (la.take k = lb.take k) ∧ Hid (∃ q, wx = ((w.alloc (.cells #[.int .i64 ka, .slice aa la.length ca] 54)).alloc (.cells #[.int .i64 ka, .slice ab lb.length cb] 54)).drewN q))
      case atStart => exact ⟨0, Nat.zero_le _, rfl, rfl, rfl, 0, rfl⟩
      case round =>
        obtain ⟨k, hk, rfl, rfl, HT, q, rfl⟩ := hrel
        by_cases hlt : k < la.length
        · obtain ⟨x, hx⟩ : ∃ x, la[k]? = some x := ⟨_, List.getElem?_eq_getElem hlt⟩
          obtain ⟨y, hy⟩ : ∃ y, lb[k]? = some y := ⟨_, List.getElem?_eq_getElem (by rw [← HL.out]; exact hlt)⟩
          obtain ⟨b1, o1, rfl, hb1, d0, d1, d2⟩ := HA.out.cells hx
          obtain ⟨b2, o2, rfl, hb2, e0, e1, e2⟩ := HB.out.cells hy
          have hg1 : (0 : Int) ≤ k := by omega
          have hg2 : (k : Int) < la.length := by omega
          have hg3 : (k : Int) < lb.length := by have := HL.out; omega
          have hgw : IntKind.i64.wrap ((k : Int) + 1) = k + 1 := by rw [IntKind.wrap_i64]; omega
          have HX := Lib.hid hx
          have HY := Lib.hid hy
          clear hx hy
          obtain ⟨c0, c1⟩ := new_two (t := 54) (t2 := 54) w (.int .i64 ka) (.slice (some ⟨b1, o1, none⟩) la.length ca) (.int .i64 ka) (.slice (some ⟨b2, o2, none⟩) lb.length cb)
          obtain ⟨xk, xi, xt⟩ := x
          obtain ⟨yk, yi, yt⟩ := y
          dsimp only at *
          have hno : ∀ {P : Prop}, ((⟨xk, xi, xt⟩ : Hp.V) ≠ ⟨yk, yi, yt⟩) → decide (la = lb) = false := fun hne => decide_eq_false fun e => by
            have hx := HX.out
            rw [e, HY.out] at hx
            exact hne (Option.some.inj hx).symm
          by_cases h1 : xk = yk
          · by_cases h2 : xi = yi
            · by_cases h3 : xt = yt
              · subst h1 h2 h3
                have HT2 : Hid (la.take (k + 1) = lb.take (k + 1)) := by
                  show la.take (k + 1) = lb.take (k + 1)
                  rw [List.take_add_one, List.take_add_one, HT.out, HX.out, HY.out]
                clear hno
                go_wp2_with fail
                go_quiet (fail)
                go_wp2_with fail
                go_roundg (la.length - (k + 1))
                case measure => omega
                case rel => exact ⟨k + 1, by omega, rfl, by go_num, HT2.out, _, rfl⟩
              · subst h1 h2
                have HE := Lib.hid (hno (P := True) (by simp [h3]))
                have v2 : (xt.toList == yt.toList) = false := by
                  rw [beq_eq_false_iff_ne]
                  intro e
                  rw [ByteArray.toList_eq, ByteArray.toList_eq] at e
                  exact h3 (by cases xt; cases yt; simp at e; rw [e])
                clear hno h3
                go_wp2_with fail
                go_quiet (fail)
                go_wp2_with fail
                go_ret
                exact ⟨by rw [HE.out]; rfl, below_drewN (below_drewN HB0.out _) _⟩
            · subst h1
              have HE := Lib.hid (hno (P := True) (by simp [h2]))
              have v2 : (xi == yi) = false := beq_eq_false_iff_ne.2 h2
              clear hno h2
              go_wp2_with fail
              go_quiet (fail)
              go_wp2_with fail
              go_ret
              exact ⟨by rw [HE.out]; rfl, below_drewN (below_drewN HB0.out _) _⟩
          · have HE := Lib.hid (hno (P := True) (by simp [h1]))
            have v2 : (xk == yk) = false := beq_eq_false_iff_ne.2 h1
            clear hno h1
            go_wp2_with fail
            go_quiet (fail)
            go_wp2_with fail
            go_ret
            exact ⟨by rw [HE.out]; rfl, below_drewN (below_drewN HB0.out _) _⟩
        · obtain rfl : la.length = k := by omega
          obtain ⟨c0, c1⟩ := new_two (t := 54) (t2 := 54) w (.int .i64 ka) (.slice aa la.length ca) (.int .i64 ka) (.slice ab lb.length cb)
          go_wp2_with fail
          go_ret
          refine ⟨?_, below_drewN HB0.out _⟩
          have h1 := HT.out
          rw [List.take_length, HL.out, List.take_length] at h1
          rw [decide_eq_true h1]
          rfl
    · have hq : (((la.length : Nat) : Int) != ((lb.length : Nat) : Int)) = true := by rw [bne_iff_ne]; omega
      have hq2 : (la.length != lb.length) = true := by simp [hl]
      have e : (decide (ka = ka) && decide (la = lb)) = false := by
        have : la ≠ lb := fun e => hl (by rw [e])
        simp [this]
      rw [e]
      clear e hl
      go_enter Try.func22, Try.ntmps22
      go_wp2_with fail
      go_ret
      exact ⟨rfl, HB0.out⟩
  · have hq : (ka != kb) = true := by simp [hk]
    have e : (decide (ka = kb) && decide (la = lb)) = false := by simp [hk]
    rw [e]
    clear e hk
    go_enter Try.func22, Try.ntmps22
    go_wp2_with fail
    go_ret
    exact ⟨rfl, HB0.out⟩
end Go.Proofs.Ythbnhneibpoooaa
/- HeapedOwn, walked. -/
namespace Go.Proofs.Ythbnhneibpoooaa
open Go.RowKit
set_option linter.unusedVariables false
set_option linter.unusedSimpArgs false
set_option linter.unnecessarySimpa false
/-- Append of a slice, nil or not, to a row of the call's own, and where it lies then. -/
theorem wpList_append_at {P : Program} {w : World} {ops : Array Oper} {rest : List Oper} {o : Oper} {a : Act} {Q : Exit → Act → World → Prop} (hw : Region.wanted o (yielded ops a.tmps) = true) (s x : Operand) (t : TypeId)
    (ho : o.op = .call { callee := .builtin .append, args := #[s, x], argTypes := #[t, t] })
    (base : Nat) (e : TypeId) (i : TypeInfo) (z : Value) (size bytes : Nat) (ht : P.underlying t = some (.slice e)) (hi : P.info? e = some i) (hz : i.zero = some z)
    (hsize : i.size = size) (hby : i.bytes = bytes) (hzs : z.cells.size = size) (hsz : 0 < size)
    (v : Value) (n : Nat) (xs : List Value) (hs : a.eval s = v) (hown : w.ownsRow base e size v n xs)
    (ax : Option Addr) (m c : Nat) (news : List Value) (hx : a.eval x = .slice ax m c) (hl : news.length = m * size)
    (hsrc : (ax = none ∧ c = 0 ∧ news = []) ∨ ∃ ad, ax = some ad ∧ ∀ (j : Nat) (u : Value), news[j]? = some u → w.cell? (ad.add j) = some u) (h1 : ∀ u ∈ news, u.oneCell' = true)
    (h63 : n + m ≤ maxLen) (hbytes : (n + m) * bytes ≤ 140737488355328) (hbase : base ≤ w.heap.size)
    (h : ∀ v' w', w'.ownsRow base e size v' (n + m) (xs ++ news) → w.grownBy w' v.ownBlock → (v'.ownBlock = v.ownBlock ∨ v'.ownBlock = some w.heap.size) → wpList P ops Q rest (a.put o.dst v') w') : wpList P ops Q (o :: rest) a w := by
  unfold wpList
  rw [if_pos hw]
  refine .inl ?_
  rcases hsrc with ⟨rfl, rfl, rfl⟩ | ⟨ad, rfl, hn⟩
  · have hm : m = 0 := by
      have h0 : m * size = 0 := by simpa using hl.symm
      rcases Nat.mul_eq_zero.1 h0 with h | h
      · exact h
      · omega
    subst hm
    have hrun := run_append_owned_none (P := P) (w := w) base t o.type e i size ht hi v n xs hown
    have h' := h v w (by simpa using hown) ⟨rfl, rfl, rfl, Nat.le_refl _, fun _ _ _ => rfl⟩ (.inl rfl)
    unfold Oper.wp
    simp [execOp, ho, resolve, invoke, builtin, hs, hx, hrun, Result.andThen]
    exact h'
  · obtain ⟨v', w', hr, h2, h3, _, h5⟩ := run_append_own_at (P := P) w base t o.type e i z size bytes ht hi hz hsize hby hzs hsz v n xs hown ad m c news hl hn h1 h63 hbytes hbase
    unfold Oper.wp execOp
    simp only [ho, resolve, invoke, builtin, Sem.run_bind, Sem.run_pure, Result.andThen_ok, List.map_toArray, List.map_cons, List.map_nil, hs, hx, hr]
    exact h v' w' h2 h3 h5
/-- A row of the law's own that the law has appended to. -/
theorem Lw.appended {w0 w w' : World} {h s e : Nat} {T : List Hp.Th} {L : List (Nat × Obj)} {o : Obj} {v' : Value} {n : Nat} {xs : List Value} (H : Lw w0 w h T ((s, o) :: L)) (hg : w.grownBy w' (some s)) (hl : v'.ownBlock = some s ∨ v'.ownBlock = some w.heap.size) {B size : Nat} (hown : w'.ownsRow B e size v' n xs) :
    ∃ g c cur, v' = .slice (some ⟨g, 0, none⟩) n c ∧ xs.length ≤ cur.size ∧ (∀ (j : Nat), j < xs.length → cur[j]? = xs[j]?) ∧ Lw w0 w' h T ((g, .cells cur e (0, 0)) :: L) := by
  rcases hown.2 with ⟨rfl, _⟩ | ⟨g, cap, cur, rfl, hB, hh, hn, hcm, hcs, htk⟩
  · simp [Value.ownBlock] at hl
  · obtain ⟨O, H⟩ := H
    have hso := H.loc (s, o) (List.mem_cons_self ..)
    have hslt := (Array.getElem?_eq_some_iff.1 hso.1).1
    have hap := List.pairwise_cons.1 H.apart
    have hxs : xs.length = n * size := hown.1
    have hlt : xs.length ≤ cur.size := by
      have := congrArg List.length htk
      simp at this
      omega
    have hgs : g = s ∨ g = w.heap.size := by simpa [Value.ownBlock] using hl
    refine ⟨g, cap, cur, rfl, hlt, fun j hj => ?_, O, H.st.keep hg.size fun b hb => hg.block b (H.st.lt b hb) fun e => hso.2.1 (by simp at e; exact e ▸ hb), H.lo, H.below.grown hg H.below.size (fun b e => by simp at e; rw [← e]; exact hso.2.2), fun x hx => ?_, List.pairwise_cons.2 ⟨fun x hx e => ?_, hap.2⟩⟩
    · have h2 := htk
      rw [← hxs] at h2
      rw [← h2, List.getElem?_take_of_lt hj]
      simp
    · rcases List.mem_cons.1 hx with rfl | hx
      · refine ⟨hh, fun e => ?_, ?_⟩
        · rcases hgs with rfl | rfl
          · exact hso.2.1 e
          · have := H.st.lt _ e
            omega
        · have := H.below.size
          have := hso.2.2
          show w0.heap.size ≤ g
          omega
      · have hx2 := H.loc x (List.mem_cons_of_mem _ hx)
        exact ⟨(hg.block _ (Array.getElem?_eq_some_iff.1 hx2.1).1 fun e => hap.1 x hx (by simpa using e.symm)).trans hx2.1, hx2.2⟩
    · have hx2 := H.loc x (List.mem_cons_of_mem _ hx)
      have hxl := (Array.getElem?_eq_some_iff.1 hx2.1).1
      dsimp only at e
      rcases hgs with rfl | rfl
      · exact hap.1 x hx e
      · omega
theorem lw_make {w0 w : World} {h : Nat} {T : List Hp.Th} {L : List (Nat × Obj)} (H : Lw w0 w h T L) (hT : T.length ≤ 1000000) (kind : Int) (av : Value) (l : List Hp.V) (hv : VSl w av l) (hlen : l.length ≤ 1000000) (ht : ∀ x ∈ l, x.text.size ≤ maxLen) :
    Calls Try.prog 15 #[.pointer (some ⟨h, 0, none⟩), .int .i64 kind, av] w (LwPost w0 h (Hp.makeF T kind l).2.2 L (Hp.makeF T kind l).1 (Hp.makeF T kind l).2.1 w) := by
  obtain ⟨O, H⟩ := H
  exact (Make_any ⟨H.st, hv, hlen, ht⟩ hT kind).mono fun e w' hp => Lw.post H hp
/-- A row that a call has made for the law, nil or not, ahead of the law's other blocks. -/
def RowL (w0 w : World) (h : Nat) (T : List Hp.Th) (L : List (Nat × Obj)) (a : Option Addr) (n : Nat) : Prop :=
  (n = 0 ∧ Lw w0 w h T L) ∨ ∃ g cur, a = some ⟨g, 0, none⟩ ∧ n * 3 ≤ cur.size ∧ Lw w0 w h T ((g, .cells cur 27 (0, 0)) :: L)
theorem RowL.lw {w0 w : World} {h : Nat} {T : List Hp.Th} {L : List (Nat × Obj)} {a : Option Addr} {n : Nat} (H : RowL w0 w h T L a n) : Lw w0 w h T L := by
  rcases H with ⟨_, H⟩ | ⟨g, cur, _, _, H⟩
  · exact H
  · exact H.tail
theorem RowL.bel {w0 w w' : World} {h : Nat} {T : List Hp.Th} {L : List (Nat × Obj)} {a : Option Addr} {n : Nat} (H : RowL w0 w h T L a n) (hb : Below w.heap.size w w') : RowL w0 w' h T L a n := by
  rcases H with ⟨e, H⟩ | ⟨g, cur, e, hc, H⟩
  · exact .inl ⟨e, H.bel hb⟩
  · exact .inr ⟨g, cur, e, hc, H.bel hb⟩
theorem RowL.new {w0 w : World} {h : Nat} {T : List Hp.Th} {L : List (Nat × Obj)} {a : Option Addr} {n : Nat} (H : RowL w0 w h T L a n) (o : Obj) : RowL w0 (w.alloc o) h T ((w.heap.size, o) :: L) a n := by
  rcases H with ⟨e, H⟩ | ⟨g, cur, e, hc, H⟩
  · exact .inl ⟨e, H.new o rfl⟩
  · exact .inr ⟨g, cur, e, hc, (H.new o rfl).front2⟩
/-- What the law's Thing leaves. -/
def LwThing (w0 : World) (h : Nat) (T : List Hp.Th) (L : List (Nat × Obj)) (t : Hp.Th) (W : World) (e : Ending) (w' : World) : Prop :=
  ∃ a c, e = .returned (.tuple #[.agg #[.int .i64 t.kind, .slice a t.parts.length c], .bool true]) ∧ VSl w' (.slice a t.parts.length c) t.parts ∧ RowL w0 w' h T L a t.parts.length
theorem lw_thing {w0 w : World} {h : Nat} {T : List Hp.Th} {L : List (Nat × Obj)} (H : Lw w0 w h T L) (k : Nat) (kk : Int) (hkk : kk = k) {t : Hp.Th} (hk : T[k]? = some t) (hl : t.parts.length ≤ 1000000) :
    Calls Try.prog 21 #[.pointer (some ⟨h, 0, none⟩), .agg #[.int .i64 8, .int .i64 kk, .string ⟨#[]⟩]] w (LwThing w0 h T L t w) := by
  subst hkk
  obtain ⟨O, H1⟩ := id H
  obtain ⟨vt, M, m, HA, e, hm, rfl⟩ := H1.st.find hk
  refine (Thing_some w HA hm hl).mono ?_
  rintro e w' ⟨a, c, he, ho, hb⟩
  refine ⟨a, c, he, VSl.own ho, ?_⟩
  have hL := H.bel hb
  rcases ho.2 with ⟨e1, e2⟩ | ⟨g, cap, cur, e1, hB, hh, hn, hcm, hcs, htk⟩
  · exact .inl ⟨e2, hL⟩
  · simp at e1
    obtain ⟨rfl, rfl⟩ := e1
    refine .inr ⟨g, cur, rfl, ?_, ?_⟩
    · have h1 := congrArg List.length htk
      rw [Hp.flatV_length] at h1
      simp at h1
      omega
    · have hb2 := H1.st.below hb (Nat.le_refl _)
      have hlt := H1.st.lt
      refine ⟨O, hb2, H1.lo, hL.below, fun x hx => ?_, List.pairwise_cons.2 ⟨fun x hx e => ?_, H1.apart⟩⟩
      · rcases List.mem_cons.1 hx with rfl | hx
        · exact ⟨hh, fun e => by have := hlt g e; omega, Nat.le_trans H1.below.size hB⟩
        · obtain ⟨h1, h2, h3⟩ := H1.loc x hx
          exact ⟨(hb.block _ (Array.getElem?_eq_some_iff.1 h1).1).trans h1, h2, h3⟩
      · obtain ⟨h1, _, _⟩ := H1.loc x hx
        have := (Array.getElem?_eq_some_iff.1 h1).1
        dsimp only at e
        omega
end Go.Proofs.Ythbnhneibpoooaa
