/- The reference's Image. -/
import Derived.Laws.AppendOwn
import Derived.Laws.OwnMore
import Derived.Test.YtaldcgfhlflcpaaAJav
import Derived.Test.YtaldcgfhlflcpaaAJaw
import Derived.Test.YtaldcgfhlflcpaaAJbi
import Derived.Test.YtaldcgfhlflcpaaAJbk
set_option linter.unusedVariables false
set_option linter.unusedSimpArgs false
set_option linter.unnecessarySimpa false
namespace Go.Proofs.Ytaldcgfhlflcpaa
open Go.RowKit
set_option linter.unusedVariables false
set_option linter.unusedSimpArgs false
set_option maxRecDepth 100000
namespace Sg
theorem wpList_append_g {P : Program} {w : World} {ops : Array Oper} {rest : List Oper} {o : Oper} {a : Act} {Q : Exit → Act → World → Prop} (hw : Region.wanted o (yielded ops a.tmps) = true) (s x : Operand) (t : TypeId)
    (ho : o.op = .call { callee := .builtin .append, args := #[s, x], argTypes := #[t, t] })
    (base : Nat) (e : TypeId) (i : TypeInfo) (z : Value) (size bytes : Nat) (ht : P.underlying t = some (.slice e)) (hi : P.info? e = some i) (hz : i.zero = some z)
    (hsize : i.size = size) (hby : i.bytes = bytes) (hzs : z.cells.size = size) (hsz : 0 < size)
    (v : Value) (n : Nat) (xs : List Value) (hs : a.eval s = v) (hown : w.ownsRow base e size v n xs)
    (ax : Option Addr) (m c : Nat) (news : List Value) (hx : a.eval x = .slice ax m c) (hl : news.length = m * size)
    (hsrc : (ax = none ∧ c = 0 ∧ news = []) ∨ ∃ ad, ax = some ad ∧ ∀ j u, news[j]? = some u → w.cell? (ad.add j) = some u) (h1 : ∀ u ∈ news, u.oneCell' = true)
    (h63 : n + m ≤ maxLen) (hbytes : (n + m) * bytes ≤ 140737488355328) (hbase : base ≤ w.heap.size)
    (h : ∀ v' w', w'.ownsRow base e size v' (n + m) (xs ++ news) → w.grownBy w' v.ownBlock → wpList P ops Q rest (a.put o.dst v') w') : wpList P ops Q (o :: rest) a w := by
  unfold wpList
  rw [if_pos hw]
  refine .inl ?_
  rcases hsrc with ⟨rfl, rfl, rfl⟩ | ⟨ad, rfl, hn⟩
  · have hm : m = 0 := by
      have h0 : m * size = 0 := by simpa using hl.symm
      rcases Nat.mul_eq_zero.1 h0 with h | h
      · exact h
      · omega
    subst hm
    have hrun := run_append_owned_none (P := P) (w := w) base t o.type e i size ht hi v n xs hown
    have h' := h v w (by simpa using hown) ⟨rfl, rfl, rfl, Nat.le_refl _, fun _ _ _ => rfl⟩
    unfold Oper.wp
    simp [execOp, ho, resolve, invoke, builtin, hs, hx, hrun, Result.andThen]
    exact h'
  · exact wp_append_own w s x t ho base e i z size bytes ht hi hz hsize hby hzs hsz v n xs hs hown ad m c news hx hl hn h1 h63 hbytes hbase fun v' w' h2 h3 _ => h v' w' h2 h3
theorem item_one (x : As.It) : ∀ u ∈ x.cells, u.oneCell' = true := by
  intro u hu
  simp only [As.It.cells, List.mem_cons, List.not_mem_nil, or_false] at hu
  rcases hu with rfl | rfl | rfl | rfl | rfl | rfl | rfl | rfl <;> rfl
theorem flat_one (l : List As.It) : ∀ u ∈ As.flat l, u.oneCell' = true := by
  intro u hu
  obtain ⟨x, _, hx⟩ := List.mem_flatMap.1 hu
  exact item_one x u hx
theorem isl_src {w : World} {al : Option Addr} {n cl : Nat} {l : List As.It} (h : ISl w (.slice al n cl) l) (hn : al = none → cl = 0 ∧ l = []) : (al = none ∧ cl = 0 ∧ As.flat l = []) ∨ ∃ ad, al = some ad ∧ ∀ j u, (As.flat l)[j]? = some u → w.cell? (ad.add j) = some u := by
  cases al with
  | none => obtain ⟨h1, h2⟩ := hn rfl; exact .inl ⟨rfl, h1, by rw [h2]; rfl⟩
  | some ad =>
    refine .inr ⟨ad, rfl, fun j u hu => ?_⟩
    have hne : l ≠ [] := by intro e; rw [e] at hu; simp [As.flat] at hu
    obtain ⟨b, off, e, hb, hat⟩ := h.at hne
    injection e with e
    subst e
    have hjl : j < l.length * 8 := by have := (List.getElem?_eq_some_iff.1 hu).1; rw [flat_length] at this; exact this
    obtain ⟨x, hx⟩ : ∃ x, l[j / 8]? = some x := ⟨_, List.getElem?_eq_getElem (by omega)⟩
    obtain ⟨c0, c1, c2, c3, c4, c5, c6, c7⟩ := hat (j / 8) x hx
    have hi : j % 8 < x.cells.length := by show _ < 8; omega
    have hg := flat_get (i := j % 8) (u := x.cells[j % 8]) hx (List.getElem?_eq_getElem hi)
    rw [show j / 8 * 8 + j % 8 = j by omega, hu] at hg
    injection hg with hg
    rw [Go.WideShapes.add_plain, hg]
    have hj : off + j = off + j / 8 * 8 + j % 8 := by omega
    rw [hj]
    have h8 : j % 8 < 8 := by omega
    generalize j % 8 = r at *
    match r, h8 with
    | 0, _ => exact c0
    | 1, _ => exact c1
    | 2, _ => exact c2
    | 3, _ => exact c3
    | 4, _ => exact c4
    | 5, _ => exact c5
    | 6, _ => exact c6
    | 7, _ => exact c7
theorem res2 {fn : Func} {p q : Tmp} {ty : TypeId} (h : fn.results = #[.cell p ty, .tmp q]) (tmps : Array Value) (w : World) (g : Nat) (t : TypeId) (cs : Array Value) (fr : Nat × Nat)
    (hp : tmps.getD p undef = .pointer (some ⟨g, 0, none⟩)) (hg : w.heap[g]? = some (.cells cs t fr)) (hd : ∃ fs, Try.prog.underlying ty = some (.struct fs)) (hi : (Try.prog.info? ty).map (·.size) = some cs.size) :
    (results fn tmps).run Try.prog w = .ok (.tuple #[.agg cs, tmps.getD q undef]) w := by
  obtain ⟨fs, hu⟩ := hd
  have hp' : tmps[p]?.getD undef = .pointer (some ⟨g, 0, none⟩) := by simpa using hp
  simp [results, h, hp', asAddr, run_loadVar_row w g t ty cs fr _ hg hu rfl hi]

open As
def ISrc (w : World) (v : Value) (l : List It) : Prop := ∃ a c, v = .slice a l.length c ∧ ISl w (.slice a l.length c) l ∧ (a = none → c = 0 ∧ l = [])
theorem ISrc.own {w : World} {B : Nat} {v : Value} {l : List It} (h : w.ownsRow B 53 8 v l.length (flat l)) : ISrc w v l := by
  have hs := isl_own h
  rcases own_shape h with ⟨rfl, h0, _⟩ | ⟨g, cap, rfl, _⟩
  · have := List.eq_nil_of_length_eq_zero h0
    subst this
    exact ⟨none, 0, rfl, hs, fun _ => ⟨rfl, rfl⟩⟩
  · exact ⟨_, cap, rfl, hs, fun e => by cases e⟩
theorem ISrc.below {w w' : World} {v : Value} {l : List It} {N : Nat} (h : ISrc w v l) (hb : Below N w w') (hN : w.heap.size ≤ N) : ISrc w' v l := by
  obtain ⟨a, c, e, h, hn⟩ := h
  exact ⟨a, c, e, h.below hb hN, hn⟩
def mem0 (st sz : Nat) (mo : Int) : List Int := (((((List.replicate (33 + st + 2 * sz) (0 : Int)).set 28 (32 + st)).set 29 (32 + st + sz)).set 30 (32 + st + sz)).set 31 (32 + st + 2 * sz)).set (32 + st + 2 * sz) mo
theorem st_row {w : World} {b i : Nat} {m : List Int} {t : TypeId} (h : w.heap[b]? = some (.cells (i64s m).toArray t (0, 0))) (hi : i < m.length) (x : Int) : (∃ u, w.cell? ⟨b, i, none⟩ = some u) ∧ w.frozen? ⟨b, i, none⟩ = false ∧ b < w.heap.size ∧ (w.setCell ⟨b, i, none⟩ (.int .i64 x)).heap[b]? = some (.cells (i64s (m.set i x)).toArray t (0, 0)) := by
  refine ⟨⟨.int .i64 m[i], ?_⟩, frozen_of_row w b i _ t h, (Array.getElem?_eq_some_iff.1 h).1, ?_⟩
  · rw [cell_of_row w b i _ t _ h]
    simp [i64s, hi]
  · rw [heap_setCell_same w b i _ t _ h]
    simp [i64s]
theorem sl_row {w : World} {b : Nat} {m : List Int} {t : TypeId} (h : w.heap[b]? = some (.cells (i64s m).toArray t (0, 0))) : Sl w (.slice (some ⟨b, 0, none⟩) m.length m.length) (i64s m) := by
  refine ⟨_, m.length, by rw [show (i64s m).length = m.length by simp [i64s]], .inr ⟨_, rfl, fun j u hu => ?_⟩⟩
  rw [Go.WideShapes.add_plain, Nat.zero_add, cell_of_row w b j _ t _ h]
  simpa using hu
theorem own_cap_le {w : World} {B e size n : Nat} {a : Option Addr} {n' c : Nat} {xs : List Value} (h : w.ownsRow B e size (.slice a n' c) n xs) : n ≤ c := by
  rcases own_shape h with ⟨e, h0, _⟩ | ⟨g, cap, e, _, _, h, _⟩
  · omega
  · have := (Value.slice.inj e).2.2
    omega
end Sg
end Go.Proofs.Ytaldcgfhlflcpaa
