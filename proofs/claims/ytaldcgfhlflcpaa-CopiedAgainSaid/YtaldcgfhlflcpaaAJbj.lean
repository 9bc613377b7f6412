/- The reference's Run: laws of the world around the loop. -/
import Derived.Laws.MakeOwn
import Derived.Laws.CopyOwn
import Derived.Test.YtaldcgfhlflcpaaAJan
set_option linter.unusedVariables false
set_option linter.unusedSimpArgs false
set_option linter.unnecessarySimpa false
namespace Go.Proofs.Ytaldcgfhlflcpaa
open Go.RowKit
set_option maxRecDepth 100000
set_option linter.unusedVariables false
set_option linter.unusedSimpArgs false
theorem four_made (w : World) (c1 c2 c3 c4 : Array Value) (t1 t2 t3 t4 : TypeId) {W : World}
    (h : ((((w.alloc (.cells c1 t1)).alloc (.cells c2 t2)).alloc (.cells c3 t3)).alloc (.cells c4 t4)) = W) :
    W.heap[w.heap.size]? = some (.cells c1 t1 (0, 0)) ∧ W.heap[w.heap.size + 1]? = some (.cells c2 t2 (0, 0)) ∧ W.heap[w.heap.size + 1 + 1]? = some (.cells c3 t3 (0, 0)) ∧ W.heap[w.heap.size + 1 + 1 + 1]? = some (.cells c4 t4 (0, 0)) ∧ W.heap.size = w.heap.size + 4 ∧ Below w.heap.size w W := by
  obtain ⟨a1, a2, a3, a4, a5⟩ := three_made w c1 c2 c3 t1 t2 t3 rfl
  have ho : ∀ k, k < w.heap.size + 3 → ((((w.alloc (.cells c1 t1)).alloc (.cells c2 t2)).alloc (.cells c3 t3)).alloc (.cells c4 t4)).heap[k]? = (((w.alloc (.cells c1 t1)).alloc (.cells c2 t2)).alloc (.cells c3 t3)).heap[k]? := fun k hk => heap_alloc_old _ _ (by rw [a4]; exact hk)
  have hn : ((((w.alloc (.cells c1 t1)).alloc (.cells c2 t2)).alloc (.cells c3 t3)).alloc (.cells c4 t4)).heap[w.heap.size + 1 + 1 + 1]? = some (.cells c4 t4 (0, 0)) := by
    have := heap_alloc_new (((w.alloc (.cells c1 t1)).alloc (.cells c2 t2)).alloc (.cells c3 t3)) (.cells c4 t4)
    rw [a4] at this
    exact this
  subst h
  exact ⟨(ho _ (by omega)).trans a1, (ho _ (by omega)).trans a2, (ho _ (by omega)).trans a3, hn, by simp, a5.alloc (by rw [a4]; omega) _⟩
theorem rmade {W w4 : World} {g T q : Nat} {m0 m1 : Rs.M} {l : List Value} (b2 : W.heap[g]? = some (.cells (Rs.cells 0 m0 (.slice (some ⟨g + 1, 0, none⟩) q q) (.slice none 0 0)).toArray T (0, 0))) (hs : W.heap.size = g + 2)
    (h4 : w4.heap[g + 1]? = some (.cells l.toArray 3 (0, 0))) (hl : l = m1.mem.map (Value.int .i64)) (hq : q = m1.mem.length) (hqm : q ≤ maxLen) (hb : Below (g + 1) W.drew w4) (hok : Rs.Ok m1) (ho : m1.out = []) (hm : m1 = { m0 with mem := m1.mem }) :
    MSt ⟨g, []⟩ w4 g T 0 m1 (.slice (some ⟨g + 1, 0, none⟩) q q) (.slice none 0 0) ∧ Below g W w4 := by
  have hr : m0.regs.length = 32 := by have := hok.regs; rw [hm] at this; exact this
  subst hl hq
  refine ⟨⟨Nat.le_refl _, ?_, ⟨by simp, .inr ⟨g + 1, _, _, rfl, by show g ≤ g + 1; omega, h4, Nat.le_refl _, hqm, by simp, by rw [Nat.mul_one]; exact List.take_of_length_le (by simp)⟩⟩, ?_, by simp [Value.ownBlock], by simp [Value.ownBlock], .inr (by simp [Value.ownBlock]), hok, fun p hp => by cases hp⟩, ?_⟩
  · rw [hb.block g (by omega)]
    have : Rs.cells 0 m1 (.slice (some ⟨g + 1, 0, none⟩) m1.mem.length m1.mem.length) (.slice none 0 0) = Rs.cells 0 m0 (.slice (some ⟨g + 1, 0, none⟩) m1.mem.length m1.mem.length) (.slice none 0 0) := by rw [hm]; rfl
    rw [this]
    exact b2
  · rw [ho]; exact World.ownsRow_nil _ _ _ _
  · exact ((Below.refl g W).drew).trans (hb.mono (by omega))
theorem halt_range_alloc {B : Bd} {g T : Nat} {w : World} {st : Int} {m : Rs.M} {mv ov : Value} (h : MSt B w g T st m mv ov) (o : Obj) : ((w.setCell ⟨g, 2, none⟩ (.string ⟨m.out.toArray⟩)).alloc o).rangeAt g 0 (Rs.halt st m mv) := by
  intro j v hj
  have h1 := halt_range h j v hj
  exact (((Below.refl _ _).alloc (Nat.le_refl _) o).cell (World.block_lt_of_cell? _ _ h1)).trans h1
theorem run_res_alloc {B k t : Nat} {W V : World} {cs : Array Value} {fr : Nat × Nat} (h : W.heap[k]? = some (.cells cs t fr)) (hb : Below B W V) (hk : k < B) {u : Nat} {x : Value} {g : Nat} (hg : k ≠ g) (o : Obj) : ((V.setCell ⟨g, u, none⟩ x).alloc o).heap[k]? = some (.cells cs t fr) := by
  have h1 := run_res h hb hk (u := u) (x := x) hg
  rw [heap_alloc_old _ _ (Array.getElem?_eq_some_iff.1 h1).1]
  exact h1
theorem run_end_alloc {w W V : World} {T : Nat} {st : Int} {m : Rs.M} {mv ov : Value} {cs : Array Value} {s : Value} (h : MSt ⟨w.heap.size + 1 + 1, []⟩ V (w.heap.size + 1 + 1) T st m mv ov) (hw : Below w.heap.size w W) (hb : Below (w.heap.size + 1 + 1) W V) (o : Obj) :
    RunYes (m, st) w (.returned (.agg (Rs.halt st m mv).toArray)) (((V.setCell ⟨w.heap.size + 1 + 1, 2, none⟩ s).alloc o).setRow (w.heap.size + 1) cs) := by
  have hb1 := ((hw.trans (hb.mono (by omega))).setCell (p := ⟨w.heap.size + 1 + 1, 2, none⟩) (by show w.heap.size ≤ w.heap.size + 1 + 1; omega) s)
  refine ⟨mv, rfl, ?_, below_setRow (hb1.alloc hb1.size o) (by omega) _⟩
  have h1 := ownsRow_setCell_other h.mem h.ne1 s (a := ⟨w.heap.size + 1 + 1, 2, none⟩)
  obtain ⟨h2, h3⟩ := h1
  refine ⟨h2, ?_⟩
  rcases h3 with h3 | ⟨g1, cap, cur, hv, hg, hh, r⟩
  · exact .inl h3
  · have hg' : w.heap.size + 1 + 1 ≤ g1 := hg
    exact .inr ⟨g1, cap, cur, hv, by omega, (setRow_other _ _ _ _ (by omega)).trans ((heap_alloc_old _ _ (Array.getElem?_eq_some_iff.1 hh).1).trans hh), r⟩
theorem MSt.rekeep {B : Bd} {w w' : World} {g T : Nat} {st : Int} {m : Rs.M} {mv ov : Value} (h : MSt B w g T st m mv ov) (X : List (Nat × Obj)) (hk : ∀ i, i < w.heap.size → (∀ p ∈ X, i ≠ p.1) → w'.heap[i]? = w.heap[i]?)
    (hX : ∀ p ∈ X, w'.heap[p.1]? = some p.2 ∧ p.1 ≠ g ∧ some p.1 ≠ mv.ownBlock ∧ some p.1 ≠ ov.ownBlock) : MSt ⟨B.n, X⟩ w' g T st m mv ov := by
  have key : ∀ {e size : Nat} {v : Value} {n : Nat} {xs : List Value}, w.ownsRow B.n e size v n xs → (∀ p ∈ X, some p.1 ≠ v.ownBlock) → w'.ownsRow B.n e size v n xs := by
    intro e size v n xs ho hne
    obtain ⟨h1, h2⟩ := ho
    refine ⟨h1, ?_⟩
    rcases h2 with h2 | ⟨g1, cap, cur, hv, hg, hh, r⟩
    · exact Or.inl h2
    · refine Or.inr ⟨g1, cap, cur, hv, hg, (hk g1 (Array.getElem?_eq_some_iff.1 hh).1 (fun p hp e => hne p hp (by rw [hv, ← e]; rfl))).trans hh, r⟩
  exact ⟨h.base, (hk g h.lt (fun p hp e => (hX p hp).2.1 e.symm)).trans h.blk, key h.mem (fun p hp => (hX p hp).2.2.1), key h.out (fun p hp => (hX p hp).2.2.2), h.ne1, h.ne2, h.ne3, h.ok, hX⟩
structure KOk (code : List Int) (KN SN : Array Value) : Prop where
  ks : KN.size = code.length * 5
  ss : SN.size = code.length
  at_ : ∀ i, i < code.length → SN[i]? = some (.bool false) ∨ (SN[i]? = some (.bool true) ∧ Rs.decB (code.getD i 0) = true ∧ KN[i * 5]? = some (.int .i64 (Rs.fO (code.getD i 0))) ∧ KN[i * 5 + 1]? = some (.int .i64 (Rs.fA (code.getD i 0))) ∧
    KN[i * 5 + 2]? = some (.int .i64 (Rs.fB (Rs.fO (code.getD i 0)) (code.getD i 0))) ∧ KN[i * 5 + 3]? = some (.int .i64 (Rs.fC (Rs.fO (code.getD i 0)) (code.getD i 0))) ∧ KN[i * 5 + 4]? = some (.int .i64 (Rs.fN (Rs.fO (code.getD i 0)) (code.getD i 0))))
def setFive (KN : Array Value) (p : Nat) (u0 u1 u2 u3 u4 : Value) : Array Value := ((((KN.setIfInBounds p u0).setIfInBounds (p + 1) u1).setIfInBounds (p + 2) u2).setIfInBounds (p + 3) u3).setIfInBounds (p + 4) u4
theorem setFive_get {KN : Array Value} {p : Nat} {u0 u1 u2 u3 u4 : Value} (h : p + 4 < KN.size) : (setFive KN p u0 u1 u2 u3 u4)[p]? = some u0 ∧ (setFive KN p u0 u1 u2 u3 u4)[p + 1]? = some u1 ∧ (setFive KN p u0 u1 u2 u3 u4)[p + 2]? = some u2 ∧ (setFive KN p u0 u1 u2 u3 u4)[p + 3]? = some u3 ∧ (setFive KN p u0 u1 u2 u3 u4)[p + 4]? = some u4 := by
  unfold setFive
  refine ⟨?_, ?_, ?_, ?_, ?_⟩ <;> (simp only [Array.getElem?_setIfInBounds]; grind)
theorem setFive_other {KN : Array Value} {p i : Nat} {u0 u1 u2 u3 u4 : Value} (h : i < p ∨ p + 5 ≤ i) : (setFive KN p u0 u1 u2 u3 u4)[i]? = KN[i]? := by
  unfold setFive
  simp only [Array.getElem?_setIfInBounds]
  grind
theorem setFive_size {KN : Array Value} {p : Nat} {u0 u1 u2 u3 u4 : Value} : (setFive KN p u0 u1 u2 u3 u4).size = KN.size := by simp [setFive]
theorem KOk.set {code : List Int} {KN SN : Array Value} (h : KOk code KN SN) {p : Nat} (hp : p < code.length) {x : Int} (hx : code.getD p 0 = x) (hd : Rs.decB x = true) :
    KOk code (setFive KN (p * 5) (.int .i64 (Rs.fO x)) (.int .i64 (Rs.fA x)) (.int .i64 (Rs.fB (Rs.fO x) x)) (.int .i64 (Rs.fC (Rs.fO x) x)) (.int .i64 (Rs.fN (Rs.fO x) x))) (SN.setIfInBounds p (.bool true)) := by
  refine ⟨setFive_size.trans h.ks, by simpa using h.ss, fun i hi => ?_⟩
  by_cases hip : i = p
  · subst hip
    obtain ⟨g0, g1, g2, g3, g4⟩ := setFive_get (KN := KN) (p := i * 5) (u0 := .int .i64 (Rs.fO x)) (u1 := .int .i64 (Rs.fA x)) (u2 := .int .i64 (Rs.fB (Rs.fO x) x)) (u3 := .int .i64 (Rs.fC (Rs.fO x) x)) (u4 := .int .i64 (Rs.fN (Rs.fO x) x)) (by have := h.ks; omega)
    rw [hx]
    refine .inr ⟨?_, hd, g0, g1, g2, g3, g4⟩
    rw [Array.getElem?_setIfInBounds]
    have := h.ss
    simp; omega
  · have e : (SN.setIfInBounds p (.bool true))[i]? = SN[i]? := by rw [Array.getElem?_setIfInBounds, if_neg (fun e => hip e.symm)]
    rw [e, setFive_other (by omega), setFive_other (by omega), setFive_other (by omega), setFive_other (by omega), setFive_other (by omega)]
    exact h.at_ i hi
theorem KOk.new {code : List Int} : KOk code (madeCells #[.int .i64 0, .int .i64 0, .int .i64 0, .int .i64 0, .int .i64 0] (code.length * 5)) (madeCells #[.bool false] code.length) := by
  refine ⟨size_madeCells _ _, size_madeCells _ _, fun i hi => .inl ?_⟩
  have hz : i < (madeCells #[Value.bool false] code.length).size := by rw [size_madeCells]; omega
  rw [Array.getElem?_eq_getElem hz]
  simp [madeCells, Nat.mod_one]
theorem MSt.cached {n g T kb sb tk ts : Nat} {KN SN : Array Value} {w : World} {st : Int} {m : Rs.M} {mv ov : Value} (h : MSt ⟨n, [(kb, .cells KN tk (0, 0)), (sb, .cells SN ts (0, 0))]⟩ w g T st m mv ov) (hne : kb ≠ sb) (p q : Nat) (u0 u1 u2 u3 u4 u : Value) :
    MSt ⟨n, [(kb, .cells (setFive KN p u0 u1 u2 u3 u4) tk (0, 0)), (sb, .cells (SN.setIfInBounds q u) ts (0, 0))]⟩ ((((((w.setCell ⟨kb, p, none⟩ u0).setCell ⟨kb, p + 1, none⟩ u1).setCell ⟨kb, p + 2, none⟩ u2).setCell ⟨kb, p + 3, none⟩ u3).setCell ⟨kb, p + 4, none⟩ u4).setCell ⟨sb, q, none⟩ u) g T st m mv ov := by
  obtain ⟨k1, k2⟩ := h.kept (kb, .cells KN tk (0, 0)) (by simp)
  obtain ⟨s1, s2⟩ := h.kept (sb, .cells SN ts (0, 0)) (by simp)
  have c0 := heap_setCell_same w kb p KN tk u0 k1
  have c1 := heap_setCell_same _ kb (p + 1) _ tk u1 c0
  have c2 := heap_setCell_same _ kb (p + 2) _ tk u2 c1
  have c3 := heap_setCell_same _ kb (p + 3) _ tk u3 c2
  have c4 := heap_setCell_same _ kb (p + 4) _ tk u4 c3
  have five : ∀ i, i ≠ kb → (((((w.setCell ⟨kb, p, none⟩ u0).setCell ⟨kb, p + 1, none⟩ u1).setCell ⟨kb, p + 2, none⟩ u2).setCell ⟨kb, p + 3, none⟩ u3).setCell ⟨kb, p + 4, none⟩ u4).heap[i]? = w.heap[i]? := fun i hi => by
    rw [heap_setCell_other _ _ _ _ hi, heap_setCell_other _ _ _ _ hi, heap_setCell_other _ _ _ _ hi, heap_setCell_other _ _ _ _ hi, heap_setCell_other _ _ _ _ hi]
  refine h.rekeep _ (fun i hi hne' => ?_) (fun r hr => ?_)
  · have e1 := hne' (kb, .cells (setFive KN p u0 u1 u2 u3 u4) tk (0, 0)) (by simp)
    have e2 := hne' (sb, .cells (SN.setIfInBounds q u) ts (0, 0)) (by simp)
    rw [heap_setCell_other _ _ _ _ e2]
    exact five i e1
  · simp only [List.mem_cons, List.not_mem_nil, or_false] at hr
    rcases hr with rfl | rfl
    · exact ⟨by rw [heap_setCell_other _ _ _ _ hne]; exact c4, k2⟩
    · exact ⟨heap_setCell_same _ sb q SN ts u ((five sb (fun e => hne e.symm)).trans s1), s2⟩
end Go.Proofs.Ytaldcgfhlflcpaa
