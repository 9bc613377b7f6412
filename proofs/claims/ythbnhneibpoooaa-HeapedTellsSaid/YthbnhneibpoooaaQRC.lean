/- The reference's table. -/
import Derived.Test.YthbnhneibpoooaaQRB
import Derived.Test.YthbnhneibpoooaaQHpDoD
set_option linter.unusedVariables false
set_option linter.unusedSimpArgs false
set_option linter.unnecessarySimpa false
namespace Go.Proofs.Ythbnhneibpoooaa
open Go.RowKit
set_option linter.unusedVariables false
set_option linter.unusedSimpArgs false
/-- What the reference's table says for a letter. -/
def Hp.codeOf (l : Int) : Int := if l = 46 then -1 else if l = 105 then 1 else if l = 99 then 2 else if l = 112 then 10 else if l = 118 then 11 else if l = 115 then 12 else if l = 98 then 13 else 14
def rowObjs (s : Nat) : List Obj := [
  .cells #[.int .i64 1, .int .i64 1] 3,
  .cells #[.int .i64 1, .int .i64 1] 3,
  .cells #[.int .i64 1, .int .i64 1] 3,
  .cells #[.int .i64 1, .int .i64 1] 3,
  .cells #[.int .i64 1, .int .i64 1] 3,
  .cells #[.int .i64 1, .int .i64 1] 3,
  .cells #[.int .i64 1, .int .i64 1] 3,
  .cells #[.int .i64 (-1), .int .i64 (-1)] 3,
  .cells #[.int .i64 (-1)] 3,
  .cells #[.int .i64 (-1)] 3,
  .cells #[.int .i64 (-1)] 3,
  .cells #[.int .i64 (-1)] 3,
  .cells #[.int .i64 (-1)] 3,
  .cells #[.int .i64 (-1)] 3,
  .cells #[.int .i64 (-1)] 3,
  .cells #[.int .i64 (-1)] 3,
  .cells #[.int .i64 (-1)] 3,
  .cells #[.int .i64 (-1)] 3,
  .cells #[.int .i64 (-1), .int .i64 (-1)] 3,
  .cells #[.int .i64 10] 3,
  .cells #[.int .i64 10] 3,
  .cells #[.int .i64 10, .int .i64 (-1)] 3,
  .cells #[.int .i64 10, .int .i64 (-1)] 3,
  .cells #[.int .i64 1, .int .i64 (-1)] 3,
  .cells #[.int .i64 1, .int .i64 2] 3,
  .cells #[.int .i64 11] 3,
  .cells #[.int .i64 12] 3,
  .cells #[.int .i64 11, .int .i64 1] 3,
  .cells #[.int .i64 12, .int .i64 1] 3,
  .cells #[.int .i64 11, .int .i64 1, .int .i64 (-1)] 3,
  .cells #[.int .i64 12, .int .i64 1, .int .i64 2] 3,
  .cells #[.int .i64 2] 3,
  .cells #[.int .i64 1] 3,
  .cells #[.int .i64 (-1)] 3,
  .cells #[.int .i64 13] 3,
  .cells #[.int .i64 13, .int .i64 (-1)] 3,
  .cells (List.toArray (.string ⟨#[43]⟩ :: .slice (some ⟨s + 0, 0, none⟩) 2 2 :: .string ⟨#[45]⟩ :: .slice (some ⟨s + 1, 0, none⟩) 2 2 :: .string ⟨#[42]⟩ :: .slice (some ⟨s + 2, 0, none⟩) 2 2 :: .string ⟨#[113, 117, 111, 116, 105, 101, 110, 116]⟩ :: .slice (some ⟨s + 3, 0, none⟩) 2 2 :: .string ⟨#[114, 101, 109, 97, 105, 110, 100, 101, 114]⟩ :: .slice (some ⟨s + 4, 0, none⟩) 2 2 :: .string ⟨#[60]⟩ :: .slice (some ⟨s + 5, 0, none⟩) 2 2 :: .string ⟨#[61]⟩ :: .slice (some ⟨s + 6, 0, none⟩) 2 2 :: .string ⟨#[101, 113, 63]⟩ :: .slice (some ⟨s + 7, 0, none⟩) 2 2 :: .string ⟨#[110, 117, 108, 108, 63]⟩ :: .slice (some ⟨s + 8, 0, none⟩) 1 1 :: .string ⟨#[115, 121, 109, 98, 111, 108, 63]⟩ :: .slice (some ⟨s + 9, 0, none⟩) 1 1 :: .string ⟨#[99, 104, 97, 114, 63]⟩ :: .slice (some ⟨s + 10, 0, none⟩) 1 1 :: .string ⟨#[105, 110, 116, 101, 103, 101, 114, 63]⟩ :: .slice (some ⟨s + 11, 0, none⟩) 1 1 :: .string ⟨#[98, 111, 111, 108, 101, 97, 110, 63]⟩ :: .slice (some ⟨s + 12, 0, none⟩) 1 1 :: .string ⟨#[101, 111, 102, 45, 111, 98, 106, 101, 99, 116, 63]⟩ :: .slice (some ⟨s + 13, 0, none⟩) 1 1 :: .string ⟨#[112, 97, 105, 114, 63]⟩ :: .slice (some ⟨s + 14, 0, none⟩) 1 1 :: .string ⟨#[118, 101, 99, 116, 111, 114, 63]⟩ :: .slice (some ⟨s + 15, 0, none⟩) 1 1 :: .string ⟨#[115, 116, 114, 105, 110, 103, 63]⟩ :: .slice (some ⟨s + 16, 0, none⟩) 1 1 :: .string ⟨#[112, 114, 111, 99, 101, 100, 117, 114, 101, 63]⟩ :: .slice (some ⟨s + 17, 0, none⟩) 1 1 :: .string ⟨#[99, 111, 110, 115]⟩ :: .slice (some ⟨s + 18, 0, none⟩) 2 2 :: .string ⟨#[99, 97, 114]⟩ :: .slice (some ⟨s + 19, 0, none⟩) 1 1 :: .string ⟨#[99, 100, 114]⟩ :: .slice (some ⟨s + 20, 0, none⟩) 1 1 :: .string ⟨#[115, 101, 116, 45, 99, 97, 114, 33]⟩ :: .slice (some ⟨s + 21, 0, none⟩) 2 2 :: .string ⟨#[115, 101, 116, 45, 99, 100, 114, 33]⟩ :: .slice (some ⟨s + 22, 0, none⟩) 2 2 :: .string ⟨#[109, 97, 107, 101, 45, 118, 101, 99, 116, 111, 114]⟩ :: .slice (some ⟨s + 23, 0, none⟩) 2 2 :: .string ⟨#[109, 97, 107, 101, 45, 115, 116, 114, 105, 110, 103]⟩ :: .slice (some ⟨s + 24, 0, none⟩) 2 2 :: .string ⟨#[118, 101, 99, 116, 111, 114, 45, 108, 101, 110, 103, 116, 104]⟩ :: .slice (some ⟨s + 25, 0, none⟩) 1 1 :: .string ⟨#[115, 116, 114, 105, 110, 103, 45, 108, 101, 110, 103, 116, 104]⟩ :: .slice (some ⟨s + 26, 0, none⟩) 1 1 :: .string ⟨#[118, 101, 99, 116, 111, 114, 45, 114, 101, 102]⟩ :: .slice (some ⟨s + 27, 0, none⟩) 2 2 :: .string ⟨#[115, 116, 114, 105, 110, 103, 45, 114, 101, 102]⟩ :: .slice (some ⟨s + 28, 0, none⟩) 2 2 :: .string ⟨#[118, 101, 99, 116, 111, 114, 45, 115, 101, 116, 33]⟩ :: .slice (some ⟨s + 29, 0, none⟩) 3 3 :: .string ⟨#[115, 116, 114, 105, 110, 103, 45, 115, 101, 116, 33]⟩ :: .slice (some ⟨s + 30, 0, none⟩) 3 3 :: .string ⟨#[99, 104, 97, 114, 45, 62, 105, 110, 116, 101, 103, 101, 114]⟩ :: .slice (some ⟨s + 31, 0, none⟩) 1 1 :: .string ⟨#[105, 110, 116, 101, 103, 101, 114, 45, 62, 99, 104, 97, 114]⟩ :: .slice (some ⟨s + 32, 0, none⟩) 1 1 :: .string ⟨#[37, 98, 111, 120]⟩ :: .slice (some ⟨s + 33, 0, none⟩) 1 1 :: .string ⟨#[37, 117, 110, 98, 111, 120]⟩ :: .slice (some ⟨s + 34, 0, none⟩) 1 1 :: .string ⟨#[37, 115, 101, 116, 45, 98, 111, 120, 33]⟩ :: .slice (some ⟨s + 35, 0, none⟩) 2 2 :: .string ⟨#[118, 111, 105, 100]⟩ :: .slice none 0 0 :: .string ⟨#[37, 117, 110, 115, 101, 116]⟩ :: .slice none 0 0 :: [])) 82]
theorem allocs_size : ∀ (l : List Obj) (w : World), (l.foldl World.alloc w).heap.size = w.heap.size + l.length
  | [], w => rfl
  | o :: l, w => by
    rw [List.foldl_cons, allocs_size l, World.heap_size_alloc, List.length_cons]
    omega
theorem allocs_old : ∀ (l : List Obj) (w : World) (b : Nat), b < w.heap.size → (l.foldl World.alloc w).heap[b]? = w.heap[b]?
  | [], w, b, h => rfl
  | o :: l, w, b, h => by
    rw [List.foldl_cons, allocs_old l _ b (by rw [World.heap_size_alloc]; omega), heap_alloc_old _ _ h]
theorem allocs_get : ∀ (l : List Obj) (w : World) (k : Nat), k < l.length → (l.foldl World.alloc w).heap[w.heap.size + k]? = l[k]?
  | [], w, k, h => by simp at h
  | o :: l, w, 0, h => by
    rw [List.foldl_cons, allocs_old l _ _ (by rw [World.heap_size_alloc]; omega)]
    exact heap_alloc_new w o
  | o :: l, w, k + 1, h => by
    rw [List.foldl_cons]
    have := allocs_get l (w.alloc o) k (by simpa using h)
    rw [World.heap_size_alloc] at this
    rw [show w.heap.size + (k + 1) = w.heap.size + 1 + k by omega, this]
    simp
theorem allocs_below : ∀ (l : List Obj) (w : World), Below w.heap.size w (l.foldl World.alloc w)
  | [], w => Below.refl _ _
  | o :: l, w => by
    rw [List.foldl_cons]
    exact ((Below.refl _ _).alloc (Nat.le_refl _) o).trans ((allocs_below l (w.alloc o)).mono (by simp))
/-- The table at block g. -/
def RTab (w : World) (g : Nat) : Prop :=
  g < w.heap.size ∧ ∀ (i : Nat) (x : Hp.Row), Hp.tab[i]? = some x → w.cell? ⟨g, i * 2, none⟩ = some (.string x.name) ∧ ∃ a c, w.cell? ⟨g, i * 2 + 1, none⟩ = some (.slice a x.letters.length c) ∧ ∀ (j : Nat) (l : Int), x.letters[j]? = some l → ∃ b, a = some ⟨b, 0, none⟩ ∧ b < w.heap.size ∧ w.cell? ⟨b, j, none⟩ = some (.int .i64 (Hp.codeOf l))
theorem RTab.below {w w' : World} {g N : Nat} (h : RTab w g) (hb : Below N w w') (hN : w.heap.size ≤ N) : RTab w' g := by
  refine ⟨Nat.lt_of_lt_of_le h.1 hb.size, fun i x hx => ?_⟩
  obtain ⟨h1, a, c, h2, h3⟩ := h.2 i x hx
  have hg := h.1
  refine ⟨(hb.cell (p := ⟨g, i * 2, none⟩) (by dsimp only; omega)).trans h1, a, c, (hb.cell (p := ⟨g, i * 2 + 1, none⟩) (by dsimp only; omega)).trans h2, fun j l hl => ?_⟩
  obtain ⟨b, e, hlt, hc⟩ := h3 j l hl
  exact ⟨b, e, Nat.lt_of_lt_of_le hlt hb.size, (hb.cell (p := ⟨b, j, none⟩) (by dsimp only; omega)).trans hc⟩
/-- Of one row: its block among the new ones. -/
theorem rtab_row {w w' : World} {g : Nat} (x : Hp.Row) (i : Nat) (h1 : w'.cell? ⟨g, i * 2, none⟩ = some (.string x.name)) (k : Nat) (cs : Array Value) (h2 : w'.cell? ⟨g, i * 2 + 1, none⟩ = some (.slice (some ⟨w.heap.size + k, 0, none⟩) x.letters.length x.letters.length))
    (hk : w'.heap[w.heap.size + k]? = some (.cells cs 3 (0, 0))) (hcs : cs = (x.letters.map fun l => Value.int .i64 (Hp.codeOf l)).toArray) :
    w'.cell? ⟨g, i * 2, none⟩ = some (.string x.name) ∧ ∃ a c, w'.cell? ⟨g, i * 2 + 1, none⟩ = some (.slice a x.letters.length c) ∧ ∀ (j : Nat) (l : Int), x.letters[j]? = some l → ∃ b, a = some ⟨b, 0, none⟩ ∧ b < w'.heap.size ∧ w'.cell? ⟨b, j, none⟩ = some (.int .i64 (Hp.codeOf l)) := by
  refine ⟨h1, _, _, h2, fun j l hl => ⟨_, rfl, (Array.getElem?_eq_some_iff.1 hk).1, ?_⟩⟩
  rw [cell_of_row _ _ _ _ _ _ hk, hcs]
  simp [hl]
theorem rtab_nil {w' : World} {g : Nat} (x : Hp.Row) (i : Nat) (h1 : w'.cell? ⟨g, i * 2, none⟩ = some (.string x.name)) (hx : x.letters = []) (h2 : w'.cell? ⟨g, i * 2 + 1, none⟩ = some (.slice none 0 0)) :
    w'.cell? ⟨g, i * 2, none⟩ = some (.string x.name) ∧ ∃ a c, w'.cell? ⟨g, i * 2 + 1, none⟩ = some (.slice a x.letters.length c) ∧ ∀ (j : Nat) (l : Int), x.letters[j]? = some l → ∃ b, a = some ⟨b, 0, none⟩ ∧ b < w'.heap.size ∧ w'.cell? ⟨b, j, none⟩ = some (.int .i64 (Hp.codeOf l)) := by
  refine ⟨h1, none, 0, by rw [hx]; exact h2, fun j l hl => ?_⟩
  rw [hx] at hl
  simp at hl
set_option maxRecDepth 100000 in
set_option maxHeartbeats 8000000 in
theorem rtab_of (w : World) : RTab ((rowObjs w.heap.size).foldl World.alloc w) (w.heap.size + 36) := by
  have hl : ∀ s, (rowObjs s).length = 37 := fun s => rfl
  refine ⟨by rw [allocs_size, hl]; omega, ?_⟩
  have hO : ∀ k, k < 37 → ((rowObjs w.heap.size).foldl World.alloc w).heap[w.heap.size + k]? = (rowObjs w.heap.size)[k]? := fun k hk => allocs_get _ w k (by rw [hl]; exact hk)
  generalize (rowObjs w.heap.size).foldl World.alloc w = w' at hO ⊢
  have hG := fun i => cell_of_row w' (w.heap.size + 36) i _ _ _ (hO 36 (by decide))
  intro i x hx
  match i, hx with
  | 0, hx => cases hx; exact rtab_row _ 0 (hG 0) 0 _ (hG 1) (hO 0 (by decide)) rfl
  | 1, hx => cases hx; exact rtab_row _ 1 (hG 2) 1 _ (hG 3) (hO 1 (by decide)) rfl
  | 2, hx => cases hx; exact rtab_row _ 2 (hG 4) 2 _ (hG 5) (hO 2 (by decide)) rfl
  | 3, hx => cases hx; exact rtab_row _ 3 (hG 6) 3 _ (hG 7) (hO 3 (by decide)) rfl
  | 4, hx => cases hx; exact rtab_row _ 4 (hG 8) 4 _ (hG 9) (hO 4 (by decide)) rfl
  | 5, hx => cases hx; exact rtab_row _ 5 (hG 10) 5 _ (hG 11) (hO 5 (by decide)) rfl
  | 6, hx => cases hx; exact rtab_row _ 6 (hG 12) 6 _ (hG 13) (hO 6 (by decide)) rfl
  | 7, hx => cases hx; exact rtab_row _ 7 (hG 14) 7 _ (hG 15) (hO 7 (by decide)) rfl
  | 8, hx => cases hx; exact rtab_row _ 8 (hG 16) 8 _ (hG 17) (hO 8 (by decide)) rfl
  | 9, hx => cases hx; exact rtab_row _ 9 (hG 18) 9 _ (hG 19) (hO 9 (by decide)) rfl
  | 10, hx => cases hx; exact rtab_row _ 10 (hG 20) 10 _ (hG 21) (hO 10 (by decide)) rfl
  | 11, hx => cases hx; exact rtab_row _ 11 (hG 22) 11 _ (hG 23) (hO 11 (by decide)) rfl
  | 12, hx => cases hx; exact rtab_row _ 12 (hG 24) 12 _ (hG 25) (hO 12 (by decide)) rfl
  | 13, hx => cases hx; exact rtab_row _ 13 (hG 26) 13 _ (hG 27) (hO 13 (by decide)) rfl
  | 14, hx => cases hx; exact rtab_row _ 14 (hG 28) 14 _ (hG 29) (hO 14 (by decide)) rfl
  | 15, hx => cases hx; exact rtab_row _ 15 (hG 30) 15 _ (hG 31) (hO 15 (by decide)) rfl
  | 16, hx => cases hx; exact rtab_row _ 16 (hG 32) 16 _ (hG 33) (hO 16 (by decide)) rfl
  | 17, hx => cases hx; exact rtab_row _ 17 (hG 34) 17 _ (hG 35) (hO 17 (by decide)) rfl
  | 18, hx => cases hx; exact rtab_row _ 18 (hG 36) 18 _ (hG 37) (hO 18 (by decide)) rfl
  | 19, hx => cases hx; exact rtab_row _ 19 (hG 38) 19 _ (hG 39) (hO 19 (by decide)) rfl
  | 20, hx => cases hx; exact rtab_row _ 20 (hG 40) 20 _ (hG 41) (hO 20 (by decide)) rfl
  | 21, hx => cases hx; exact rtab_row _ 21 (hG 42) 21 _ (hG 43) (hO 21 (by decide)) rfl
  | 22, hx => cases hx; exact rtab_row _ 22 (hG 44) 22 _ (hG 45) (hO 22 (by decide)) rfl
  | 23, hx => cases hx; exact rtab_row _ 23 (hG 46) 23 _ (hG 47) (hO 23 (by decide)) rfl
  | 24, hx => cases hx; exact rtab_row _ 24 (hG 48) 24 _ (hG 49) (hO 24 (by decide)) rfl
  | 25, hx => cases hx; exact rtab_row _ 25 (hG 50) 25 _ (hG 51) (hO 25 (by decide)) rfl
  | 26, hx => cases hx; exact rtab_row _ 26 (hG 52) 26 _ (hG 53) (hO 26 (by decide)) rfl
  | 27, hx => cases hx; exact rtab_row _ 27 (hG 54) 27 _ (hG 55) (hO 27 (by decide)) rfl
  | 28, hx => cases hx; exact rtab_row _ 28 (hG 56) 28 _ (hG 57) (hO 28 (by decide)) rfl
  | 29, hx => cases hx; exact rtab_row _ 29 (hG 58) 29 _ (hG 59) (hO 29 (by decide)) rfl
  | 30, hx => cases hx; exact rtab_row _ 30 (hG 60) 30 _ (hG 61) (hO 30 (by decide)) rfl
  | 31, hx => cases hx; exact rtab_row _ 31 (hG 62) 31 _ (hG 63) (hO 31 (by decide)) rfl
  | 32, hx => cases hx; exact rtab_row _ 32 (hG 64) 32 _ (hG 65) (hO 32 (by decide)) rfl
  | 33, hx => cases hx; exact rtab_row _ 33 (hG 66) 33 _ (hG 67) (hO 33 (by decide)) rfl
  | 34, hx => cases hx; exact rtab_row _ 34 (hG 68) 34 _ (hG 69) (hO 34 (by decide)) rfl
  | 35, hx => cases hx; exact rtab_row _ 35 (hG 70) 35 _ (hG 71) (hO 35 (by decide)) rfl
  | 36, hx => cases hx; exact rtab_nil _ 36 (hG 72) rfl (hG 73)
  | 37, hx => cases hx; exact rtab_nil _ 37 (hG 74) rfl (hG 75)
  | i + 38, hx => simp [Hp.tab] at hx
/-- What Rows makes. -/
def RowsPost (w : World) (e : Ending) (w' : World) : Prop := ∃ g, e = .returned (.slice (some ⟨g, 0, none⟩) 38 38) ∧ RTab w' g ∧ Below w.heap.size w w'
set_option maxHeartbeats 40000000 in
set_option maxRecDepth 100000 in
theorem rows_any (w : World) : Calls Try.prog 38 #[] w (RowsPost w) := by
  have HP : Hid (RowsPost w (.returned (.slice (some ⟨w.heap.size + 36, 0, none⟩) 38 38)) ((rowObjs w.heap.size).foldl World.alloc w)) := ⟨_, rfl, rtab_of w, allocs_below _ w⟩
  go_enter Try.func38, Try.ntmps38
  go_wp2_with fail
  go_ret
  exact HP.out
end Go.Proofs.Ythbnhneibpoooaa
/- What the primitives do, plainly. -/
namespace Go.Proofs.Ythbnhneibpoooaa
open Go.RowKit
set_option linter.unusedVariables false
set_option linter.unusedSimpArgs false
namespace Hp
def partsOf (T : List Th) (v : V) : List V := match T[v.int.toNat]? with | some t => t.parts | Option.none => []
def getF (T : List Th) (v : V) (i : Int) : V × Int × List Th :=
  if 0 ≤ i ∧ i < ((partsOf T v).length : Int) then ((partsOf T v).getD i.toNat none, 0, T) else (none, 83, T)
def putF (T : List Th) (v : V) (i : Int) (x : V) : V × Int × List Th :=
  if 0 ≤ i ∧ i < ((partsOf T v).length : Int) then (void, 0, T.set v.int.toNat ⟨kindOf T v, (partsOf T v).set i.toNat x⟩) else (none, 83, T)
def addF (T : List Th) (t : Th) : V × Int × List Th := (⟨8, T.length, ⟨#[]⟩⟩, 0, T ++ [t])
def fillF (T : List Th) (kind n : Int) (v : V) : V × Int × List Th := if n < 0 ∨ 1000 < n then (none, 83, T) else addF T ⟨kind, List.replicate n.toNat v⟩
def sayF (T : List Th) (v : V) : V × Int × List Th := (v, 0, T)
/-- What the primitive of a place of the table does with its arguments. -/
def actF (T : List Th) (i : Nat) (a b c : V) (l : List V) : V × Int × List Th :=
  match i with
  | 0 => ((reckF 0 a.int b.int).1, (reckF 0 a.int b.int).2, T)
  | 1 => ((reckF 1 a.int b.int).1, (reckF 1 a.int b.int).2, T)
  | 2 => ((reckF 2 a.int b.int).1, (reckF 2 a.int b.int).2, T)
  | 3 => ((reckF 3 a.int b.int).1, (reckF 3 a.int b.int).2, T)
  | 4 => ((reckF 4 a.int b.int).1, (reckF 4 a.int b.int).2, T)
  | 5 => sayF T (truth (decide (a.int < b.int)))
  | 6 => sayF T (truth (decide (a = b)))
  | 7 => sayF T (truth (decide (a = b)))
  | 8 => sayF T (truth (decide (a.kind = 4)))
  | 9 => sayF T (truth (decide (a.kind = 3)))
  | 10 => sayF T (truth (decide (a.kind = 2)))
  | 11 => sayF T (truth (decide (a.kind = 1)))
  | 12 => sayF T (truth (decide (a.kind = 0)))
  | 13 => sayF T (truth (decide (a.kind = 6)))
  | 14 => sayF T (truth (decide (kindOf T a = 0)))
  | 15 => sayF T (truth (decide (kindOf T a = 1)))
  | 16 => sayF T (truth (decide (kindOf T a = 2)))
  | 17 => sayF T (truth (decide (kindOf T a = 4)))
  | 18 => addF T ⟨0, l⟩
  | 19 => getF T a 0
  | 20 => getF T a 1
  | 21 => putF T a 0 b
  | 22 => putF T a 1 b
  | 23 => fillF T 1 a.int b
  | 24 => fillF T 2 a.int b
  | 25 => sayF T (num (partsOf T a).length)
  | 26 => sayF T (num (partsOf T a).length)
  | 27 => getF T a b.int
  | 28 => getF T a b.int
  | 29 => putF T a b.int c
  | 30 => putF T a b.int c
  | 31 => sayF T (num a.int)
  | 32 => if a.int < 0 ∨ 255 < a.int then (none, 83, T) else sayF T ⟨2, a.int, ⟨#[]⟩⟩
  | 33 => addF T ⟨3, l⟩
  | 34 => getF T a 0
  | 35 => putF T a 0 b
  | 37 => sayF T ⟨7, 0, ⟨#[]⟩⟩
  | _ => sayF T void
/-- The place of a primitive among the first so many; -1: nowhere. -/
def rat (p : ByteArray) : Nat → Int
  | 0 => -1
  | k + 1 => match tab[k]? with
    | some x => if x.name = p then k else rat p k
    | Option.none => rat p k
/-- What Do does: a value, an error, the things then. -/
def doF (T : List Th) (p : ByteArray) (l : List V) : V × Int × List Th :=
  match tab[(rat p 38).toNat]? with
  | some x =>
    if rat p 38 < 0 ∨ x.letters.length ≠ l.length then (none, 1, T)
    else if l.all (may T.length) = false then (none, 1, T)
    else if allOk T l x.letters = false then (none, 80, T)
    else actF T (rat p 38).toNat (l.getD 0 none) (l.getD 1 none) (l.getD 2 none) l
  | Option.none => (none, 1, T)
theorem rat_bound (p : ByteArray) : ∀ k, -1 ≤ rat p k ∧ rat p k < k
  | 0 => by simp [rat]
  | k + 1 => by
    have := rat_bound p k
    unfold rat
    split
    · split
      · omega
      · omega
    · omega
theorem rat_some (p : ByteArray) : ∀ k, 0 ≤ rat p k → ∃ x, tab[(rat p k).toNat]? = some x ∧ x.name = p
  | 0, h => by simp [rat] at h
  | k + 1, h => by
    unfold rat at h ⊢
    split at h
    · rename_i x hx
      split at h
      · rename_i e
        rw [if_pos e]
        exact ⟨x, by simpa using hx, e⟩
      · rename_i e
        rw [if_neg e]
        exact rat_some p k h
    · exact rat_some p k h
theorem rat_step {p : ByteArray} {k : Nat} {x : Row} (hx : tab[k]? = some x) : rat p (k + 1) = if x.name = p then (k : Int) else rat p k := by
  rw [rat, hx]
theorem tab_len : tab.length = 38 := rfl
theorem tab_three : ∀ x ∈ tab, x.letters.length ≤ 3 := by
  have h : ∀ x ∈ tab, decide (x.letters.length ≤ 3) = true := by decide +kernel
  exact fun x hx => by simpa using h x hx
theorem doF_none {T : List Th} {p : ByteArray} {l : List V} (h : rat p 38 < 0) : doF T p l = (none, 1, T) := by
  unfold doF
  split
  · rw [if_pos (.inl h)]
  · rfl
theorem doF_len {T : List Th} {p : ByteArray} {l : List V} {i : Nat} {x : Row} (h : rat p 38 = i) (hx : tab[i]? = some x) (hl : x.letters.length ≠ l.length) : doF T p l = (none, 1, T) := by
  unfold doF
  rw [h, Int.toNat_natCast, hx]
  simp [hl]
theorem doF_may {T : List Th} {p : ByteArray} {l : List V} {i : Nat} {x : Row} (h : rat p 38 = i) (hx : tab[i]? = some x) (hl : x.letters.length = l.length) (hm : l.all (may T.length) = false) : doF T p l = (none, 1, T) := by
  unfold doF
  rw [h, Int.toNat_natCast, hx]
  have : ¬ ((i : Int) < 0 ∨ x.letters.length ≠ l.length) := by omega
  dsimp only
  rw [if_neg this, if_pos hm]
theorem doF_type {T : List Th} {p : ByteArray} {l : List V} {i : Nat} {x : Row} (h : rat p 38 = i) (hx : tab[i]? = some x) (hl : x.letters.length = l.length) (hm : l.all (may T.length) = true) (ho : allOk T l x.letters = false) : doF T p l = (none, 80, T) := by
  unfold doF
  rw [h, Int.toNat_natCast, hx]
  have : ¬ ((i : Int) < 0 ∨ x.letters.length ≠ l.length) := by omega
  dsimp only
  rw [if_neg this, if_neg (by rw [hm]; decide), if_pos ho]
theorem doF_act {T : List Th} {p : ByteArray} {l : List V} {i : Nat} {x : Row} (h : rat p 38 = i) (hx : tab[i]? = some x) (hl : x.letters.length = l.length) (hm : l.all (may T.length) = true) (ho : allOk T l x.letters = true) : doF T p l = actF T i (l.getD 0 none) (l.getD 1 none) (l.getD 2 none) l := by
  unfold doF
  rw [h, Int.toNat_natCast, hx]
  have : ¬ ((i : Int) < 0 ∨ x.letters.length ≠ l.length) := by omega
  dsimp only
  rw [if_neg this, if_neg (by rw [hm]; decide), if_neg (by rw [ho]; decide)]
end Hp
end Go.Proofs.Ythbnhneibpoooaa
