/- The assembler in memory. -/
import Derived.Test.YtbcpflogkniojaaQMA
import Derived.Test.YtbcpflogkniojaaQMaps
import Derived.Laws.OwnMore
import Derived.Laws.Rows
namespace Go.Proofs.Ytbcpflogkniojaa
open Go.RowKit
set_option linter.unusedVariables false
set_option linter.unusedSimpArgs false
def bools (bs : List Bool) : List Value := bs.map Value.bool
def nums (ps : List Nat) : List Value := ps.map fun (p : Nat) => Value.int .i64 (p : Int)
/-- The assembler at block g: its items, its long ones at block lb, its places at block pb, its labels at block mb, its words. -/
structure ASt (B : Nat) (w : World) (g lb pb mb : Nat) (L : List (Int × Value)) (vl vc : Value) (l : List As.It) (bs : List Bool) (ps : List Nat) (code : List Int) : Prop where
  blk : w.heap[g]? = some (.cells #[vl, .map (some mb), .slice (some ⟨lb, 0, none⟩) l.length l.length, .slice (some ⟨pb, 0, none⟩) l.length l.length, vc] 55 (0, 0))
  items : ISl w vl l
  long : w.heap[lb]? = some (.cells (bools bs).toArray 4 (0, 0))
  places : w.heap[pb]? = some (.cells (nums ps).toArray 3 (0, 0))
  code : w.ownsRow B 38 1 vc code.length (code.map (Value.int .u32))
  map : AMap (fun n : Int => Value.int .i64 n) w mb L
  lbs : bs.length = l.length
  lps : ps.length = l.length
  base : B ≤ g ∧ B ≤ lb ∧ B ≤ pb ∧ B ≤ mb
  ne : g ≠ lb ∧ g ≠ pb ∧ g ≠ mb ∧ lb ≠ pb ∧ lb ≠ mb ∧ pb ≠ mb
  ne2 : vc.ownBlock ≠ some g ∧ vc.ownBlock ≠ some lb ∧ vc.ownBlock ≠ some pb ∧ vc.ownBlock ≠ some mb
  low : ∀ (a : Addr) (n c : Nat), vl = .slice (some a) n c → l ≠ [] → a.block < B
section
variable {B : Nat} {w : World} {g lb pb mb : Nat} {L : List (Int × Value)} {vl vc : Value} {l : List As.It} {bs : List Bool} {ps : List Nat} {code : List Int}
theorem ASt.lt (h : ASt B w g lb pb mb L vl vc l bs ps code) : g < w.heap.size ∧ lb < w.heap.size ∧ pb < w.heap.size := ⟨(Array.getElem?_eq_some_iff.1 h.blk).1, (Array.getElem?_eq_some_iff.1 h.long).1, (Array.getElem?_eq_some_iff.1 h.places).1⟩
theorem ASt.c0 (h : ASt B w g lb pb mb L vl vc l bs ps code) : w.cell? ⟨g, 0, none⟩ = some vl := by rw [cell_of_row w g _ _ _ _ h.blk]; rfl
theorem ASt.c1 (h : ASt B w g lb pb mb L vl vc l bs ps code) : w.cell? ⟨g, 1, none⟩ = some (.map (some mb)) := by rw [cell_of_row w g _ _ _ _ h.blk]; rfl
theorem ASt.c2 (h : ASt B w g lb pb mb L vl vc l bs ps code) : w.cell? ⟨g, 2, none⟩ = some (.slice (some ⟨lb, 0, none⟩) l.length l.length) := by rw [cell_of_row w g _ _ _ _ h.blk]; rfl
theorem ASt.c3 (h : ASt B w g lb pb mb L vl vc l bs ps code) : w.cell? ⟨g, 3, none⟩ = some (.slice (some ⟨pb, 0, none⟩) l.length l.length) := by rw [cell_of_row w g _ _ _ _ h.blk]; rfl
theorem ASt.c4 (h : ASt B w g lb pb mb L vl vc l bs ps code) : w.cell? ⟨g, 4, none⟩ = some vc := by rw [cell_of_row w g _ _ _ _ h.blk]; rfl
theorem ASt.fz (h : ASt B w g lb pb mb L vl vc l bs ps code) (j : Nat) : w.frozen? ⟨g, j, none⟩ = false := frozen_of_row w g j _ _ h.blk
theorem ASt.cl (h : ASt B w g lb pb mb L vl vc l bs ps code) {i : Nat} {b : Bool} (hb : bs[i]? = some b) : w.cell? ⟨lb, i, none⟩ = some (.bool b) := by
  rw [cell_of_row w lb _ _ _ _ h.long]
  simp [bools, hb]
theorem ASt.cp (h : ASt B w g lb pb mb L vl vc l bs ps code) {i p : Nat} (hp : ps[i]? = some p) : w.cell? ⟨pb, i, none⟩ = some (.int .i64 p) := by
  rw [cell_of_row w pb _ _ _ _ h.places]
  simp [nums, hp]
theorem ASt.below {w' : World} {N : Nat} (h : ASt B w g lb pb mb L vl vc l bs ps code) (hb : Below N w w') (hN : w.heap.size ≤ N) : ASt B w' g lb pb mb L vl vc l bs ps code := by
  have hr : ∀ k, k < w.heap.size → w'.heap[k]? = w.heap[k]? := fun k hk => hb.block k (by omega)
  obtain ⟨h1, h2, h3⟩ := h.lt
  refine ⟨(hr g h1).trans h.blk, h.items.below hb hN, (hr lb h2).trans h.long, (hr pb h3).trans h.places, ?_, h.map.kept (hr mb h.map.lt), h.lbs, h.lps, h.base, h.ne, h.ne2, h.low⟩
  obtain ⟨a1, a2⟩ := h.code
  refine ⟨a1, ?_⟩
  rcases a2 with a2 | ⟨g1, cap, cur, hv, hg, hh, r⟩
  · exact Or.inl a2
  · exact Or.inr ⟨g1, cap, cur, hv, hg, (hr g1 (Array.getElem?_eq_some_iff.1 hh).1).trans hh, r⟩
end
set_option maxHeartbeats 8000000 in
set_option maxRecDepth 100000 in
theorem size_any {B g lb pb mb : Nat} {L : List (Int × Value)} {al : Option Addr} {cl : Nat} {vc : Value} {l : List As.It} {bs : List Bool} {ps : List Nat} {code : List Int} (w : World) (h : ASt B w g lb pb mb L (.slice al l.length cl) vc l bs ps code) (i : Nat) (x : As.It) (b : Bool) (hx : l[i]? = some x) (hb : bs[i]? = some b) :
    Calls Try.prog 31 #[.pointer (some ⟨g, 0, none⟩), .int .i64 i] w fun e w' => e = .returned (.int .i64 (As.size x b)) ∧ Below w.heap.size w w' := by
  have hi : i < l.length := (List.getElem?_eq_some_iff.1 hx).1
  obtain ⟨bl, off, rfl, hbl, hat⟩ := h.items.at (by intro e; rw [e] at hi; simp at hi)
  obtain ⟨d0, d1, d2, d3, d4, d5, d6, d7⟩ := hat i x hx
  have c0 := h.c0
  have c2 := h.c2
  have cb := h.cl hb
  have hlt := h.lt
  have hg1 : (0 : Int) ≤ i := by omega
  have hg2 : (i : Int) < l.length := by omega
  have hg3 : g < w.heap.size := hlt.1
  have hg4 : lb < w.heap.size := hlt.2.1
  clear hat hx hb h hlt
  obtain ⟨k, op, a, b2, c, n, la, nu⟩ := x
  dsimp only at d0 d1 d2 d3 d4 d5 d6 d7
  rcases (by omega : k = 1 ∨ k = 2 ∨ k = 4 ∨ k = 5 ∨ (k ≠ 1 ∧ k ≠ 2 ∧ k ≠ 4 ∧ k ≠ 5)) with rfl | rfl | rfl | rfl | ⟨k1, k2, k4, k5⟩
  · go_enter Try.func31, Try.ntmps31
    go_wp2_with fail
    go_ret
    exact ⟨rfl, (Below.refl _ _).alloc (Nat.le_refl _) _⟩
  · cases b
    all_goals
      go_enter Try.func31, Try.ntmps31
      go_wp2_with fail
      go_ret
      exact ⟨rfl, (Below.refl _ _).alloc (Nat.le_refl _) _⟩
  · go_enter Try.func31, Try.ntmps31
    go_wp2_with fail
    with_reducible refine (pieces_any nu _).mono ?_
    rintro e w' ⟨rfl, hw⟩
    obtain rfl := hw
    go_wp2_with fail
    go_ret
    exact ⟨rfl, (Below.refl _ _).alloc (Nat.le_refl _) _⟩
  · go_enter Try.func31, Try.ntmps31
    go_wp2_with fail
    go_ret
    exact ⟨rfl, (Below.refl _ _).alloc (Nat.le_refl _) _⟩
  · have q1 := beq_eq_false_iff_ne.2 k1
    have q2 := beq_eq_false_iff_ne.2 k2
    have q4 := beq_eq_false_iff_ne.2 k4
    have q5 := beq_eq_false_iff_ne.2 k5
    have hs : Hid (As.size ⟨k, op, a, b2, c, n, la, nu⟩ b = 1) := by unfold Hid As.size; rw [if_neg k1, if_neg k2, if_neg k4, if_neg k5]
    go_enter Try.func31, Try.ntmps31
    go_wp2_with fail
    go_ret
    rw [hs.out]
    exact ⟨rfl, (Below.refl _ _).alloc (Nat.le_refl _) _⟩
end Go.Proofs.Ytbcpflogkniojaa
