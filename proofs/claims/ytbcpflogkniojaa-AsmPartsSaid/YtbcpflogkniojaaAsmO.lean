/- A slice of items that came in, opened. -/
import Derived.Test.YtbcpflogkniojaaFrame
import Derived.Test.YtbcpflogkniojaaSl
import Derived.Test.YtbcpflogkniojaaAsmP
import Derived.Deep.Slices
import Derived.Deep.Fields
import Derived.ChangeSame
import Derived.WideShapes
namespace Go.Proofs.Ytbcpflogkniojaa
open Go.ChangeShapes Go.WideShapes Go.Deep Go.RowKit
set_option linter.unusedVariables false
set_option linter.unusedSimpArgs false
/-- The cells of an item at an offset. -/
structure ItAt (w : World) (b o : Nat) (x : As.It) : Prop where
  c0 : w.cell? ⟨b, o, none⟩ = some (.int .i64 x.kind)
  c1 : w.cell? ⟨b, o + 1, none⟩ = some (.int .i64 x.op)
  c2 : w.cell? ⟨b, o + 2, none⟩ = some (.int .i64 x.a)
  c3 : w.cell? ⟨b, o + 3, none⟩ = some (.int .i64 x.b)
  c4 : w.cell? ⟨b, o + 4, none⟩ = some (.int .i64 x.c)
  c5 : w.cell? ⟨b, o + 5, none⟩ = some (.int .i64 x.n)
  c6 : w.cell? ⟨b, o + 6, none⟩ = some (.int .i64 x.label)
  c7 : w.cell? ⟨b, o + 7, none⟩ = some (.int .i64 x.num)
/-- A slice of items. -/
def ISl (w : World) (v : Value) (l : List As.It) : Prop :=
  ∃ a cap, v = .slice a l.length cap ∧ (l = [] ∨ ∃ b off, a = some ⟨b, off, none⟩ ∧ b < w.heap.size ∧ ∀ (j : Nat) (x : As.It), l[j]? = some x → ItAt w b (off + j * 8) x)
theorem ItAt.of {w w' : World} {b o : Nat} {x : As.It} (h : ItAt w b o x) (hc : ∀ j, w'.cell? ⟨b, j, none⟩ = w.cell? ⟨b, j, none⟩) : ItAt w' b o x :=
  ⟨(hc _).trans h.c0, (hc _).trans h.c1, (hc _).trans h.c2, (hc _).trans h.c3, (hc _).trans h.c4, (hc _).trans h.c5, (hc _).trans h.c6, (hc _).trans h.c7⟩
theorem ISl.len {w : World} {v : Value} {l : List As.It} (h : ISl w v l) : ∃ a cap, v = .slice a l.length cap := by
  obtain ⟨a, cap, h, _⟩ := h
  exact ⟨a, cap, h⟩
theorem ISl.below {w w' : World} {v : Value} {l : List As.It} {N : Nat} (h : ISl w v l) (hb : Below N w w') (hN : w.heap.size ≤ N) : ISl w' v l := by
  obtain ⟨a, cap, hv, h | ⟨b, off, h1, h2, h3⟩⟩ := h
  · exact ⟨a, cap, hv, .inl h⟩
  · exact ⟨a, cap, hv, .inr ⟨b, off, h1, by have := hb.size; omega, fun j x hx => (h3 j x hx).of (fun k => hb.cell (p := ⟨b, k, none⟩) (by show b < N; omega))⟩⟩
theorem ISl.drewN {w : World} {v : Value} {l : List As.It} (h : ISl w v l) (n : Nat) : ISl (w.drewN n) v l := by
  obtain ⟨a, cap, hv, h | ⟨b, off, h1, h2, h3⟩⟩ := h
  · exact ⟨a, cap, hv, .inl h⟩
  · exact ⟨a, cap, hv, .inr ⟨b, off, h1, h2, fun j x hx => (h3 j x hx).of (fun _ => rfl)⟩⟩
theorem ISl.at {w : World} {a : Option Addr} {n cap : Nat} {l : List As.It} (h : ISl w (.slice a n cap) l) (hne : l ≠ []) : ∃ b off, a = some ⟨b, off, none⟩ ∧ b < w.heap.size ∧ ∀ (j : Nat) (x : As.It), l[j]? = some x → ItAt w b (off + j * 8) x := by
  obtain ⟨a', cap', hv, h | ⟨b, off, h1, h2, h3⟩⟩ := h
  · exact absurd h hne
  · cases hv
    exact ⟨b, off, h1, h2, h3⟩
theorem itemFields : ∀ fs, Try.prog.underlying 35 = some (.struct fs) → Try.prog.cellsOf 35 = 8 ∧ fs.size = 4 ∧ (fs[0]?.map fun f => (f.type, f.offset)) = some (3, 0) ∧ (fs[1]?.map fun f => (f.type, f.offset)) = some (33, 1) ∧ (fs[2]?.map fun f => (f.type, f.offset)) = some (3, 6) ∧ (fs[3]?.map fun f => (f.type, f.offset)) = some (3, 7) := by
  intro fs h
  rw [Try.underlying35] at h
  injection h with h
  injection h with h
  subst h
  exact ⟨by kernel_rfl, rfl, rfl, rfl, rfl, rfl⟩
theorem instrFields5 : ∀ fs, Try.prog.underlying 33 = some (.struct fs) → Try.prog.cellsOf 33 = 5 ∧ fs.size = 5 ∧ ∀ j, j < 5 → (fs[j]?.map fun f => (f.type, f.offset)) = some (3, j) := by
  intro fs h
  rw [Try.underlying33] at h
  injection h with h
  injection h with h
  subst h
  exact ⟨by kernel_rfl, rfl, by decide⟩
theorem cells_int : Try.prog.cellsOf 3 = 1 := by kernel_rfl
section
variable {H : Type} {enc : TypeId × Value → H} {w : World} {base : Nat} {spare : Nat → Bool} {held : Bool}
theorem got_some {α β : Type} {o : Option α} {f : α → β} {b : β} (h : o.map f = some b) : ∃ a, o = some a ∧ f a = b := by cases o with
  | none => cases h
  | some a => exact ⟨a, rfl, by simpa using h⟩
theorem int_at {n o : Nat} {cs : List Value} {y : Option (DataW H × List MemPlace)} (ho : o < cs.length) (hy : y.isSome = true) (h : DataW.trod enc Try.prog w base spare held n 3 ((cs.drop o).take (Try.prog.cellsOf 3)) = y) : ∃ z : Int, cs[o]? = some (.int .i64 z) ∧ (Lit.int .i64 z).wf = true := by
  rw [cells_int, List.drop_eq_getElem_cons ho] at h
  obtain ⟨y', rfl⟩ := Option.isSome_iff_exists.1 hy
  obtain ⟨z, hz, _, hw⟩ := DataW.trod_int Try.underlying3 h
  have hz2 : cs[o] = .int .i64 z := by have h3 := hz; rw [List.take_succ_cons, List.take_zero] at h3; simpa using h3
  exact ⟨z, by rw [List.getElem?_eq_getElem ho, hz2], hw⟩
theorem open_item {n : Nat} {cs : List Value} {y : DataW H × List MemPlace} (hl : cs.length = 8) (h : DataW.trod enc Try.prog w base spare held n 35 cs = some y) :
    ∃ x : As.It, (∀ j : Nat, cs[j]? = x.cells[j]?) ∧ (Lit.int .i64 x.num).wf = true := by
  have hu := Try.underlying35
  obtain ⟨h1, h2, f0, f1, f2, f3⟩ := itemFields _ hu
  obtain ⟨ys, n', _, _, _, hyl, hf⟩ := DataW.trod_struct hu h
  obtain ⟨g0, e0, p0⟩ := got_some f0
  obtain ⟨g1, e1, p1⟩ := got_some f1
  obtain ⟨g2, e2, p2⟩ := got_some f2
  obtain ⟨g3, e3, p3⟩ := got_some f3
  simp only [Prod.mk.injEq] at p0 p1 p2 p3
  have k0 := hf 0 g0 e0
  have k1 := hf 1 g1 e1
  have k2 := hf 2 g2 e2
  have k3 := hf 3 g3 e3
  rw [p0.1, p0.2] at k0
  rw [p1.1, p1.2] at k1
  rw [p2.1, p2.2] at k2
  rw [p3.1, p3.2] at k3
  have hsome : ∀ i, i < 4 → (ys[i]?).isSome = true := fun i hi => by rw [List.getElem?_eq_getElem (by omega)]; rfl
  obtain ⟨z0, a0, -⟩ := int_at (by omega) (hsome 0 (by omega)) k0
  obtain ⟨z6, a6, -⟩ := int_at (by omega) (hsome 2 (by omega)) k2
  obtain ⟨z7, a7, w7⟩ := int_at (by omega) (hsome 3 (by omega)) k3
  have hv := Try.underlying33
  obtain ⟨q1, q2, q3⟩ := instrFields5 _ hv
  rw [q1] at k1
  obtain ⟨y1, hy1⟩ := Option.isSome_iff_exists.1 (hsome 1 (by omega))
  rw [hy1] at k1
  obtain ⟨zs, n2, _, _, _, hzl, hg⟩ := DataW.trod_struct hv k1
  have hl5 : ((cs.drop 1).take 5).length = 5 := by simp; omega
  have key : ∀ j, j < 5 → ∃ z : Int, cs[1 + j]? = some (.int .i64 z) := by
    intro j hj
    obtain ⟨g, e, p⟩ := got_some (q3 j hj)
    simp only [Prod.mk.injEq] at p
    have k := hg j g e
    rw [p.1, p.2] at k
    obtain ⟨z, hz, -⟩ := int_at (by omega) (by rw [List.getElem?_eq_getElem (by omega)]; rfl) k
    refine ⟨z, ?_⟩
    rw [List.getElem?_take, if_pos hj, List.getElem?_drop] at hz
    exact hz
  obtain ⟨z1, a1⟩ := key 0 (by omega)
  obtain ⟨z2, a2⟩ := key 1 (by omega)
  obtain ⟨z3, a3⟩ := key 2 (by omega)
  obtain ⟨z4, a4⟩ := key 3 (by omega)
  obtain ⟨z5, a5⟩ := key 4 (by omega)
  refine ⟨⟨z0, z1, z2, z3, z4, z5, z6, z7⟩, fun j => ?_, w7⟩
  rcases (by omega : j = 0 ∨ j = 1 ∨ j = 2 ∨ j = 3 ∨ j = 4 ∨ j = 5 ∨ j = 6 ∨ j = 7 ∨ 8 ≤ j) with rfl | rfl | rfl | rfl | rfl | rfl | rfl | rfl | hj
  · exact a0
  · exact a1
  · exact a2
  · exact a3
  · exact a4
  · exact a5
  · exact a6
  · exact a7
  · rw [List.getElem?_eq_none (by omega), List.getElem?_eq_none (by simp [As.It.cells]; omega)]
theorem items_of (n : Nat) (q : Nat → As.It → Prop) (h : ∀ i, i < n → ∃ m, q i m) : ∃ l : List As.It, l.length = n ∧ ∀ (i : Nat) (x : As.It), l[i]? = some x → q i x := by
  induction n with
  | zero => exact ⟨[], rfl, fun i x hx => by simp at hx⟩
  | succ n ih =>
    obtain ⟨l, hl, hq⟩ := ih (fun i hi => h i (by omega))
    obtain ⟨m, hm⟩ := h n (by omega)
    refine ⟨l ++ [m], by simp [hl], fun i x hx => ?_⟩
    by_cases hin : i < n
    · rw [List.getElem?_append_left (by omega)] at hx
      exact hq i x hx
    · have hlt : i < (l ++ [m]).length := (List.getElem?_eq_some_iff.1 hx).1
      simp at hlt
      have : i = n := by omega
      subst this
      rw [List.getElem?_append_right (by omega), hl] at hx
      simp at hx
      rw [← hx]; exact hm
theorem open_items {r : Reach} {b0 : Nat} {v : Value} {d : DataW H} {ps : List MemPlace} (hval : Value.okWide Try.prog w r b0 22 v) (h : DataW.Trod enc Try.prog w base spare held 22 v d ps) :
    ∃ a cap l, v = .slice a l.length cap ∧ ISl w (.slice a l.length cap) l ∧ l.length ≤ 9223372036854775807 ∧ ∀ x ∈ l, -9223372036854775808 ≤ x.num ∧ x.num ≤ 9223372036854775807 := by
  obtain ⟨a, len, cap, rfl⟩ := okWide_slice Try.underlying22 hval
  obtain ⟨fuel, hf⟩ := h
  have hu := Try.underlying35
  obtain ⟨hC, -⟩ := itemFields _ hu
  rcases open_slice Try.underlying22 hf with ⟨hcs, _⟩ | ⟨a', len', cap', m, n, D, Pl, hcs, _, hle, hmax, hm, _, hi⟩
  · simp [Value.cells] at hcs
    obtain ⟨rfl, rfl, rfl⟩ := hcs
    exact ⟨none, 0, [], rfl, ⟨none, 0, rfl, .inl rfl⟩, by simp, by simp⟩
  · simp [Value.cells] at hcs
    obtain ⟨rfl, rfl, rfl⟩ := hcs
    have hml : len ≤ m := by rw [hm]; split <;> omega
    have hcells : ∀ i, i < len → ∃ x : As.It, (∀ j u, x.cells[j]? = some u → w.cell? (a'.add (i * 8 + j)) = some u) ∧ (-9223372036854775808 ≤ x.num ∧ x.num ≤ 9223372036854775807) := by
      intro i hil
      obtain ⟨cs', hc, ht'⟩ := hi i (by omega)
      rw [hC] at hc
      obtain ⟨_, hcl, hat⟩ := World.cells?_some hc
      obtain ⟨x, hx, hw⟩ := open_item hcl ht'
      refine ⟨x, fun j u hu => ?_, ?_⟩
      · have h1 := hx j
        rw [hu] at h1
        have hj : j < 8 := by have := (List.getElem?_eq_some_iff.1 h1).1; omega
        rw [← Go.Deep.add_add, hat j hj, h1]
      · simp only [Lit.wf, Bool.and_eq_true, decide_eq_true_eq] at hw
        exact ⟨hw.1, hw.2⟩
    obtain ⟨l, hl, hq⟩ := items_of len _ hcells
    subst hl
    refine ⟨some a', cap, l, rfl, ⟨some a', cap, rfl, ?_⟩, ?_, fun x hx => ?_⟩
    · by_cases hne : l = []
      · exact .inl hne
      · have hpos : 0 < l.length := List.length_pos_iff.2 hne
        have h0 := (hq 0 l[0] (List.getElem?_eq_getElem hpos)).1 0 _ rfl
        obtain ⟨b, off, spot⟩ := a'
        have hspot : spot = none := by simpa [Addr.add] using World.cell?_spot h0
        subst hspot
        refine .inr ⟨b, off, rfl, ?_, fun j x hx => ?_⟩
        · have := World.block_lt_of_cell? w _ h0
          simpa [Addr.add] using this
        · have hc := (hq j x hx).1
          have get : ∀ i u, x.cells[i]? = some u → w.cell? ⟨b, off + j * 8 + i, none⟩ = some u := by
            intro i u hu
            have := hc i u hu
            rw [Go.WideShapes.add_plain] at this
            rw [Nat.add_assoc]
            exact this
          exact ⟨get 0 _ rfl, get 1 _ rfl, get 2 _ rfl, get 3 _ rfl, get 4 _ rfl, get 5 _ rfl, get 6 _ rfl, get 7 _ rfl⟩
    · simp only [maxLen] at hmax
      omega
    · obtain ⟨i, hi⟩ := List.mem_iff_getElem?.1 hx
      exact (hq i x hi).2
end
end Go.Proofs.Ytbcpflogkniojaa
