/- Maps of the call's own as association lists: look up, put, delete, at the model's own operations. -/
import Derived.Maps.OwnSet
import Derived.StillTailTactics
import Derived.Test.YtaldcgfhlflcpaaAJad
set_option linter.unusedVariables false
set_option linter.unusedSimpArgs false
set_option linter.unnecessarySimpa false
namespace Go.Proofs.Ytaldcgfhlflcpaa
set_option linter.unusedVariables false
set_option linter.unusedSimpArgs false
open Go.RowKit
set_option maxRecDepth 100000

section
variable {κ : Type} [DecidableEq κ]

end

section
variable {κ : Type}
def AMap (enc : κ → Value) (w : World) (b : Nat) (L : List (κ × Value)) : Prop :=
  ∃ es clock, w.heap[b]? = some (.map es clock) ∧ es.toList.map (fun e => (e.key, e.val)) = L.map (fun p => (enc p.1, p.2))

variable {P : Program} {K T E : TypeId} {enc : κ → Value} {desc : TypeDesc} {w : World} {b : Nat} {L : List (κ × Value)}

theorem AMap.lt (h : AMap enc w b L) : b < w.heap.size := by
  obtain ⟨es, c, h, _⟩ := h
  exact (Array.getElem?_eq_some_iff.1 h).1

theorem AMap.kept {w' : World} (h : AMap enc w b L) (hb : w'.heap[b]? = w.heap[b]?) : AMap enc w' b L := by
  obtain ⟨es, c, h, r⟩ := h
  exact ⟨es, c, hb.trans h, r⟩
theorem AMap.alloc (h : AMap enc w b L) (o : Obj) : AMap enc (w.alloc o) b L := h.kept (heap_alloc_old w o h.lt)
theorem AMap.drewN (h : AMap enc w b L) (n : Nat) : AMap enc (w.drewN n) b L := h
theorem AMap.drew (h : AMap enc w b L) : AMap enc w.drew b L := h
theorem AMap.setCell (h : AMap enc w b L) {a : Addr} (ha : b ≠ a.block) (u : Value) : AMap enc (w.setCell a u) b L := h.kept (Below.heap_setCell w a u b ha)
theorem AMap.grown {w' : World} {row : Option Nat} (h : AMap enc w b L) (hg : w.grownBy w' row) (hne : some b ≠ row) : AMap enc w' b L := h.kept (hg.block b h.lt hne)
theorem AMap.below {w' : World} {B : Nat} (h : AMap enc w b L) (hg : Below B w w') (hb : b < B) : AMap enc w' b L := h.kept (hg.block b hb)

variable [DecidableEq κ]
end

section
variable {κ : Type} [DecidableEq κ] {P : Program} {K T E : TypeId} {enc : κ → Value} {desc : TypeDesc} {w : World} {b : Nat} {L : List (κ × Value)}
variable {ops : Array Oper} {rest : List Oper} {o : Oper} {a : Act} {Q : Exit → Act → World → Prop}

end

theorem wp_still_tail {P : Program} {id : Nat} {Q : Exit → Act → World → Prop} {a : Act} {w : World} {l : List Oper} (n : Nat) (hm : P.follows .mixedOrders = true) (hB : Region.lexTailB .any l.toArray n = true)
    (h : wpStill P l.toArray w.drew (fun a' => wpList P l.toArray Q (l.drop n) a' w.drew) (l.take n) a) : (Code.region id l.toArray true).wp P Q a w :=
  wp_region_still_tail n hm hB h

end Go.Proofs.Ytaldcgfhlflcpaa
