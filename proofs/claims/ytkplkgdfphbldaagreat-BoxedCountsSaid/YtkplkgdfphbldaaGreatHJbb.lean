/- Append of a slice, nil or not, to a row of the call's own, in a list of operations. -/
import Derived.Laws.AppendOwn
import Derived.Laws.OwnMore
import Derived.Maps.AppendAt
import Derived.Deep.AppendLies
import Derived.Outline
import Derived.Test.YtkplkgdfphbldaaGreatHJab
namespace Go.Proofs.YtkplkgdfphbldaaGreat
open Go.RowKit
set_option linter.unusedVariables false
set_option linter.unusedSimpArgs false
set_option linter.unnecessarySimpa false
set_option maxRecDepth 100000
namespace Rn
theorem wp_append_v {P : Program} {w : World} {o : Oper} {a : Act} {K : Act → World → Prop} {Q : Exit → Act → World → Prop} (s x : Operand) (t : TypeId)
  (ho : o.op = .call { callee := .builtin .append, args := #[s, x], argTypes := #[t, t] })
  (base : Nat) (e : TypeId) (i : TypeInfo) (z : Value) (size bytes : Nat) (ht : P.underlying t = some (.slice e)) (hi : P.info? e = some i) (hz : i.zero = some z)
  (hsize : i.size = size) (hby : i.bytes = bytes) (hzs : z.cells.size = size) (hsz : 0 < size)
  (v : Value) (n : Nat) (xs : List Value) (hs : a.eval s = v) (hown : w.ownsRow base e size v n xs)
  (ax : Option Addr) (m c : Nat) (news : List Value) (hx : a.eval x = .slice ax m c) (hl : news.length = m * size)
  (hsrc : (ax = none ∧ c = 0 ∧ news = []) ∨ ∃ ad, ax = some ad ∧ ∀ (j : Nat) (u : Value), news[j]? = some u → w.cell? (ad.add j) = some u) (h1 : ∀ u ∈ news, u.oneCell' = true)
  (h63 : n + m ≤ maxLen) (hbytes : (n + m) * bytes ≤ 140737488355328) (hbase : base ≤ w.heap.size) (H : Nat) (hH : w.heap.size = H)
  (h : ∀ (av : Option Addr) (cv : Nat) (w' : World), w'.ownsRow base e size (.slice av (n + m) cv) (n + m) (xs ++ news) → w.grownBy w' v.ownBlock → ((Value.slice av (n + m) cv).ownBlock = v.ownBlock ∨ (Value.slice av (n + m) cv).ownBlock = some H) → K (a.put o.dst (.slice av (n + m) cv)) w') :
  Oper.wp P o a w K Q := by
 rcases hsrc with ⟨rfl, rfl, rfl⟩ | ⟨ad, rfl, hn⟩
 ·have hm : m = 0 := by
   have h0 : m * size = 0 := by simpa using hl.symm
   rcases Nat.mul_eq_zero.1 h0 with h | h
   ·exact h
   ·omega
  subst hm
  have hrun := run_append_owned_none (P := P) (w := w) base t o.type e i size ht hi v n xs hown
  obtain ⟨av, cv, rfl⟩ : ∃ av cv, v = .slice av n cv := by
   rcases own_shape hown with ⟨e1, e2, _⟩ | ⟨g, c, e1, _⟩
   ·exact ⟨none, 0, by rw [e1, e2]⟩
   ·exact ⟨_, c, e1⟩
  have h' := h av cv w (by simpa using hown) ⟨rfl, rfl, rfl, Nat.le_refl _, fun _ _ _ => rfl⟩ (.inl rfl)
  unfold Oper.wp
  simp [execOp, ho, resolve, invoke, builtin, hs, hx, hrun, Result.andThen]
  exact h'
 ·obtain ⟨v', w', hr, h2, h3, _, h5⟩ := run_append_own_at (P := P) w base t o.type e i z size bytes ht hi hz hsize hby hzs hsz v n xs hown ad m c news hl hn h1 h63 hbytes hbase
  obtain ⟨av, cv, rfl⟩ : ∃ av cv, v' = .slice av (n + m) cv := by
   rcases own_shape h2 with ⟨e1, e2, _⟩ | ⟨g, c, e1, _⟩
   ·exact ⟨none, 0, by rw [e1, e2]⟩
   ·exact ⟨_, c, e1⟩
  unfold Oper.wp execOp
  simp only [ho, resolve, invoke, builtin, Sem.run_bind, Sem.run_pure, Result.andThen_ok, List.map_toArray, List.map_cons, List.map_nil, hs, hx, hr]
  refine h av cv w' h2 h3 ?_
  rw [← hH]
  exact h5
theorem wpList_append_v {P : Program} {w : World} {ops : Array Oper} {rest : List Oper} {o : Oper} {a : Act} {Q : Exit → Act → World → Prop} (hgd : o.guard = none) (s x : Operand) (t : TypeId)
  (ho : o.op = .call { callee := .builtin .append, args := #[s, x], argTypes := #[t, t] })
  (base : Nat) (e : TypeId) (i : TypeInfo) (z : Value) (size bytes : Nat) (ht : P.underlying t = some (.slice e)) (hi : P.info? e = some i) (hz : i.zero = some z)
  (hsize : i.size = size) (hby : i.bytes = bytes) (hzs : z.cells.size = size) (hsz : 0 < size)
  (v : Value) (n : Nat) (xs : List Value) (hs : a.eval s = v) (hown : w.ownsRow base e size v n xs)
  (ax : Option Addr) (m c : Nat) (news : List Value) (hx : a.eval x = .slice ax m c) (hl : news.length = m * size)
  (hsrc : (ax = none ∧ c = 0 ∧ news = []) ∨ ∃ ad, ax = some ad ∧ ∀ (j : Nat) (u : Value), news[j]? = some u → w.cell? (ad.add j) = some u) (h1 : ∀ u ∈ news, u.oneCell' = true)
  (h63 : n + m ≤ maxLen) (hbytes : (n + m) * bytes ≤ 140737488355328) (hbase : base ≤ w.heap.size) (H : Nat) (hH : w.heap.size = H)
  (h : ∀ (av : Option Addr) (cv : Nat) (w' : World), w'.ownsRow base e size (.slice av (n + m) cv) (n + m) (xs ++ news) → w.grownBy w' v.ownBlock → ((Value.slice av (n + m) cv).ownBlock = v.ownBlock ∨ (Value.slice av (n + m) cv).ownBlock = some H) → wpList P ops Q rest (a.put o.dst (.slice av (n + m) cv)) w') :
  wpList P ops Q (o :: rest) a w :=
 wpList_plain hgd fun K hK => wp_append_v s x t ho base e i z size bytes ht hi hz hsize hby hzs hsz v n xs hs hown ax m c news hx hl hsrc h1 h63 hbytes hbase H hH fun av cv w' p1 p2 p3 => hK _ _ (h av cv w' p1 p2 p3)
end Rn
end Go.Proofs.YtkplkgdfphbldaaGreat
