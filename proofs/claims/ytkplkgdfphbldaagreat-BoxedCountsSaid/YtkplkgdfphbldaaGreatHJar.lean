/- The heap's get, put. -/
import Derived.Test.YtkplkgdfphbldaaGreatHJaq
import Derived.Deep.RegionHeld3
import Derived.BigQuiet
import Derived.Deep.QuietTactic
import Derived.Test.YtkplkgdfphbldaaGreatHJat
namespace Go.Proofs.YtkplkgdfphbldaaGreat
open Go.RowKit
set_option linter.unusedVariables false
set_option linter.unusedSimpArgs false
set_option linter.unnecessarySimpa false
set_option maxRecDepth 100000
theorem three_set (w : World) (g : Nat) (t : TypeId) (a b c x y z : Value) (h : w.heap[g]? = some (.cells #[a, b, c] t (0, 0))) :
  (((w.setCell ⟨g, 0, none⟩ x).setCell ⟨g, 1, none⟩ y).setCell ⟨g, 2, none⟩ z).heap[g]? = some (.cells #[x, y, z] t (0, 0)) := by
 have e1 := heap_setCell_same _ g 0 _ _ x h
 have e2 := heap_setCell_same _ g 1 _ _ y e1
 exact heap_setCell_same _ g 2 _ _ z e2
theorem below_three {B : Nat} {w w1 : World} {g : Nat} (h : Below B w w1) (hg : B ≤ g) (x y z : Value) : Below B w (((w1.setCell ⟨g, 0, none⟩ x).setCell ⟨g, 1, none⟩ y).setCell ⟨g, 2, none⟩ z) :=
 ((h.setCell (p := ⟨g, 0, none⟩) hg _).setCell (p := ⟨g, 1, none⟩) hg _).setCell (p := ⟨g, 2, none⟩) hg _
theorem put_end {w w1 w3 : World} {ty h pg g3 : Nat} {O : Nat → Prop} {vt : Value} {M : List (Hp.Th × Value)} (hA : HpAt w3 ty h O vt M) (hG : w1.grownBy w3 (some pg)) (hO : O pg) (hB : Below w.heap.size w w1) (hlt : ∀ b, O b → b ≠ g3) (hg3 : w.heap.size ≤ g3) (x y z : Value) :
  HSt (((w3.setCell ⟨g3, 0, none⟩ x).setCell ⟨g3, 1, none⟩ y).setCell ⟨g3, 2, none⟩ z) ty h O (M.map (·.1)) ∧ Grow O O w (((w3.setCell ⟨g3, 0, none⟩ x).setCell ⟨g3, 1, none⟩ y).setCell ⟨g3, 2, none⟩ z) := by
 have hk : ∀ b, b ≠ g3 → (((w3.setCell ⟨g3, 0, none⟩ x).setCell ⟨g3, 1, none⟩ y).setCell ⟨g3, 2, none⟩ z).heap[b]? = w3.heap[b]? := fun b hb => by
  rw [heap_setCell_other _ _ _ _ hb, heap_setCell_other _ _ _ _ hb, heap_setCell_other _ _ _ _ hb]
 have hs : (((w3.setCell ⟨g3, 0, none⟩ x).setCell ⟨g3, 1, none⟩ y).setCell ⟨g3, 2, none⟩ z).heap.size = w3.heap.size := by simp [World.setCell]
 refine ⟨⟨vt, M, hA.keep (by rw [hs]; exact Nat.le_refl _) fun b hb => hk b (hlt b hb), rfl⟩, ⟨hG.os.trans hB.os, hG.tape.trans hB.tape, hG.output.trans hB.output, by rw [hs]; exact Nat.le_trans hB.size hG.size, fun b hb hno => ?_, fun b hb => .inl hb⟩⟩
 rw [hk b (by omega), hG.block b (by have := hB.size; omega) (fun e => hno (by cases e; exact hO))]
 exact hB.block b hb
def PutPost (ty h : Nat) (O : Nat → Prop) (T : List Hp.Th) (w : World) (e : Ending) (w' : World) : Prop :=
 e = .returned (.tuple #[Hp.void.val, .int .i64 0]) ∧ HSt w' ty h O T ∧ Grow O O w w'
namespace Hp
def isL (kd vk l : Int) : Bool :=
 if l = 105 then vk == 1 else if l = 99 then vk == 2 else if l = 112 then kd == 0 else if l = 118 then kd == 1 else if l = 115 then kd == 2 else if l = 98 then kd == 3 else if l = 114 then kd == 4 else true
end Hp
namespace Hp
def reckF (op x y : Int) : V × Int :=
 if (rk op (8 * x) (8 * y)).2 = 10 then (none, 81) else if (rk op (8 * x) (8 * y)).2 = 11 then (none, 82) else (num ((rk op (8 * x) (8 * y)).1 / 8), 0)
theorem rk_bd (op a b : Int) (a1 : -9223372036854775808 ≤ a) (a2 : a ≤ 9223372036854775807) : -9223372036854775808 ≤ (rk op a b).1 ∧ (rk op a b).1 ≤ 9223372036854775807 := by
 have hN : ∀ n : Int, isN n = true → -9223372036854775808 ≤ 8 * n ∧ 8 * n ≤ 9223372036854775807 := fun n h => by have := isN_iff.1 h; omega
 have hM := tmod_bd (a / 8) (b / 8) (by omega) (by omega)
 unfold rk
 split
 ·simp
 split
 ·simp
 split
 ·split
  ·exact hN _ (by assumption)
  ·simp
 split
 ·split
  ·exact hN _ (by assumption)
  ·simp
 split
 ·split
  ·exact hN _ (by assumption)
  ·simp
 split
 ·simp
 split
 ·split
  ·exact hN _ (by assumption)
  ·simp
 ·dsimp only; omega
end Hp
namespace Hp
structure Row where
 name : ByteArray
 letters : List Int
 bytes : ByteArray
 ask : Int
 letter : Int
def tab : List Row := [
 ⟨⟨#[43]⟩, [105, 105], ⟨#[105, 105]⟩, -1, 0⟩,
 ⟨⟨#[45]⟩, [105, 105], ⟨#[105, 105]⟩, -1, 0⟩,
 ⟨⟨#[42]⟩, [105, 105], ⟨#[105, 105]⟩, -1, 0⟩,
 ⟨⟨#[113, 117, 111, 116, 105, 101, 110, 116]⟩, [105, 105], ⟨#[105, 105]⟩, -1, 0⟩,
 ⟨⟨#[114, 101, 109, 97, 105, 110, 100, 101, 114]⟩, [105, 105], ⟨#[105, 105]⟩, -1, 0⟩,
 ⟨⟨#[60]⟩, [105, 105], ⟨#[105, 105]⟩, -1, 0⟩,
 ⟨⟨#[61]⟩, [105, 105], ⟨#[105, 105]⟩, -1, 0⟩,
 ⟨⟨#[101, 113, 63]⟩, [46, 46], ⟨#[46, 46]⟩, -1, 0⟩,
 ⟨⟨#[110, 117, 108, 108, 63]⟩, [46], ⟨#[46]⟩, 4, 0⟩,
 ⟨⟨#[115, 121, 109, 98, 111, 108, 63]⟩, [46], ⟨#[46]⟩, 3, 0⟩,
 ⟨⟨#[99, 104, 97, 114, 63]⟩, [46], ⟨#[46]⟩, 2, 0⟩,
 ⟨⟨#[105, 110, 116, 101, 103, 101, 114, 63]⟩, [46], ⟨#[46]⟩, 1, 0⟩,
 ⟨⟨#[98, 111, 111, 108, 101, 97, 110, 63]⟩, [46], ⟨#[46]⟩, 0, 0⟩,
 ⟨⟨#[101, 111, 102, 45, 111, 98, 106, 101, 99, 116, 63]⟩, [46], ⟨#[46]⟩, 6, 0⟩,
 ⟨⟨#[112, 97, 105, 114, 63]⟩, [46], ⟨#[46]⟩, 0, 112⟩,
 ⟨⟨#[118, 101, 99, 116, 111, 114, 63]⟩, [46], ⟨#[46]⟩, 0, 118⟩,
 ⟨⟨#[115, 116, 114, 105, 110, 103, 63]⟩, [46], ⟨#[46]⟩, 0, 115⟩,
 ⟨⟨#[112, 114, 111, 99, 101, 100, 117, 114, 101, 63]⟩, [46], ⟨#[46]⟩, 0, 114⟩,
 ⟨⟨#[99, 111, 110, 115]⟩, [46, 46], ⟨#[46, 46]⟩, -1, 0⟩,
 ⟨⟨#[99, 97, 114]⟩, [112], ⟨#[112]⟩, -1, 0⟩,
 ⟨⟨#[99, 100, 114]⟩, [112], ⟨#[112]⟩, -1, 0⟩,
 ⟨⟨#[115, 101, 116, 45, 99, 97, 114, 33]⟩, [112, 46], ⟨#[112, 46]⟩, -1, 0⟩,
 ⟨⟨#[115, 101, 116, 45, 99, 100, 114, 33]⟩, [112, 46], ⟨#[112, 46]⟩, -1, 0⟩,
 ⟨⟨#[109, 97, 107, 101, 45, 118, 101, 99, 116, 111, 114]⟩, [105, 46], ⟨#[105, 46]⟩, -1, 0⟩,
 ⟨⟨#[109, 97, 107, 101, 45, 115, 116, 114, 105, 110, 103]⟩, [105, 99], ⟨#[105, 99]⟩, -1, 0⟩,
 ⟨⟨#[118, 101, 99, 116, 111, 114, 45, 108, 101, 110, 103, 116, 104]⟩, [118], ⟨#[118]⟩, -1, 0⟩,
 ⟨⟨#[115, 116, 114, 105, 110, 103, 45, 108, 101, 110, 103, 116, 104]⟩, [115], ⟨#[115]⟩, -1, 0⟩,
 ⟨⟨#[118, 101, 99, 116, 111, 114, 45, 114, 101, 102]⟩, [118, 105], ⟨#[118, 105]⟩, -1, 0⟩,
 ⟨⟨#[115, 116, 114, 105, 110, 103, 45, 114, 101, 102]⟩, [115, 105], ⟨#[115, 105]⟩, -1, 0⟩,
 ⟨⟨#[118, 101, 99, 116, 111, 114, 45, 115, 101, 116, 33]⟩, [118, 105, 46], ⟨#[118, 105, 46]⟩, -1, 0⟩,
 ⟨⟨#[115, 116, 114, 105, 110, 103, 45, 115, 101, 116, 33]⟩, [115, 105, 99], ⟨#[115, 105, 99]⟩, -1, 0⟩,
 ⟨⟨#[99, 104, 97, 114, 45, 62, 105, 110, 116, 101, 103, 101, 114]⟩, [99], ⟨#[99]⟩, -1, 0⟩,
 ⟨⟨#[105, 110, 116, 101, 103, 101, 114, 45, 62, 99, 104, 97, 114]⟩, [105], ⟨#[105]⟩, -1, 0⟩,
 ⟨⟨#[37, 98, 111, 120]⟩, [46], ⟨#[46]⟩, -1, 0⟩,
 ⟨⟨#[37, 117, 110, 98, 111, 120]⟩, [98], ⟨#[98]⟩, -1, 0⟩,
 ⟨⟨#[37, 115, 101, 116, 45, 98, 111, 120, 33]⟩, [98, 46], ⟨#[98, 46]⟩, -1, 0⟩,
 ⟨⟨#[118, 111, 105, 100]⟩, [], ⟨#[]⟩, -1, 0⟩,
 ⟨⟨#[37, 117, 110, 115, 101, 116]⟩, [], ⟨#[]⟩, -1, 0⟩]
end Hp
end Go.Proofs.YtkplkgdfphbldaaGreat
