/- The machine's small methods. -/
import Derived.Deep.QuietTactic
import Derived.BigQuiet
import Derived.StillTailTactics
import Derived.Outline
import Derived.Test.YtaldcgfhlflcpaaAJai
import Derived.Test.YtaldcgfhlflcpaaAJaa
set_option linter.unusedVariables false
set_option linter.unusedSimpArgs false
set_option linter.unnecessarySimpa false
namespace Go.Proofs.Ytaldcgfhlflcpaa
open Go.RowKit
set_option maxRecDepth 100000
set_option linter.unusedSimpArgs false
set_option linter.unusedVariables false

theorem wp_still_tl {P : Program} {id : Nat} {Q : Exit → Act → World → Prop} {a : Act} {w : World} {l : List Oper} (n : Nat) (hm : P.follows .mixedOrders = true) (hB : Region.lexTailB .any l.toArray n = true)
    (h : wpStill P l.toArray w.drew (fun a' => wpList P l.toArray Q (l.drop n) a' w.drew) (l.take n) a) : (Code.region id l.toArray true).wp P Q a w :=
  wp_region_still_tail n hm hB h
theorem MSt.hp {B : Bd} {g T : Nat} {w w' : World} {st : Int} {m : Rs.M} {mv ov : Value} (h : MSt B w g T st m mv ov) (he : w'.heap = w.heap) : MSt B w' g T st m mv ov := by
  have key : ∀ {e size : Nat} {v : Value} {n : Nat} {xs : List Value}, w.ownsRow B e size v n xs → w'.ownsRow B e size v n xs := by
    intro e size v n xs ho
    obtain ⟨h1, h2⟩ := ho
    refine ⟨h1, ?_⟩
    rcases h2 with h2 | ⟨g1, cap, cur, hv, hg, hh, r⟩
    · exact Or.inl h2
    · exact Or.inr ⟨g1, cap, cur, hv, hg, by rw [he]; exact hh, r⟩
  exact ⟨h.base, by rw [he]; exact h.blk, key h.mem, key h.out, h.ne1, h.ne2, h.ne3, h.ok, fun p hp => ⟨by rw [he]; exact (h.kept p hp).1, (h.kept p hp).2⟩⟩
end Go.Proofs.Ytaldcgfhlflcpaa
namespace Go.Proofs.Ytaldcgfhlflcpaa
open Go.RowKit
set_option maxRecDepth 100000
set_option linter.unusedVariables false
set_option linter.unusedSimpArgs false

def StepPost (B : Bd) (g T : Nat) (st : Int) (r : Rs.M × Int) (w : World) (e : Ending) (w' : World) : Prop :=
  e = .returned (.int .i64 r.2) ∧ (∃ mv ov, MSt B w' g T st r.1 mv ov) ∧ Below B w w' ∧ w.heap.size ≤ w'.heap.size

theorem cell_new (w : World) (cs : Array Value) (j : Nat) (v : Value) {t : TypeId} (h : cs[j]? = some v) : (w.alloc (.cells cs t)).cell? ⟨w.heap.size, j, none⟩ = some v := by
  rw [cell_of_row _ w.heap.size j cs t (0, 0) (heap_alloc_new w _)]
  exact h
theorem MSt.adv {B : Bd} {g T : Nat} {w : World} {st : Int} {m : Rs.M} {mv ov : Value} (h : MSt B w g T st m mv ov) (p s : Int) (hs : s = m.steps + 1) :
    MSt B ((w.setCell ⟨g, 4, none⟩ (.int .i64 p)).setCell ⟨g, 3, none⟩ (.int .i64 s)) g T st (Rs.adv m p) mv ov := by
  subst hs
  exact (h.setPc p).setSteps _
end Go.Proofs.Ytaldcgfhlflcpaa
