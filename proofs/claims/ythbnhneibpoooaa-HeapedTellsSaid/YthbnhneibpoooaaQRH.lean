/- The laws' arguments, opened: calls. -/
import Derived.Test.YthbnhneibpoooaaQMM
import Derived.Test.YthbnhneibpoooaaQMB
import Derived.SizedLaws
import Derived.Test.YthbnhneibpoooaaQRB
set_option linter.unusedVariables false
set_option linter.unusedSimpArgs false
set_option linter.unnecessarySimpa false
namespace Go.Proofs.Ythbnhneibpoooaa
open Go.ChangeShapes Go.WideShapes Go.Deep Go.RowKit
set_option linter.unusedVariables false
set_option linter.unusedSimpArgs false
namespace Hp
/-- A call. -/
structure Op where
  prim : ByteArray
  kind : Int
  vals : List V
  ago : List Int
structure OpOk (o : Op) : Prop where
  prim : o.prim.size ≤ maxLen
  text : ∀ v ∈ o.vals, v.text.size ≤ maxLen
  ago : o.ago.length ≤ 9223372036854775807
  len : o.vals.length ≤ 9223372036854775807
end Hp
/-- A call's cells. -/
def OpC (w : World) (cs : List Value) (o : Hp.Op) : Prop := ∃ va ga, cs = [.string o.prim, .int .i64 o.kind, va, ga] ∧ VSl w va o.vals ∧ Sl w ga (o.ago.map (Value.int .i64))
/-- A slice of calls. -/
def OSl (w : World) (v : Value) (l : List Hp.Op) : Prop :=
  ∃ a cap, v = .slice a l.length cap ∧ ∀ (i : Nat) (o : Hp.Op), l[i]? = some o → ∃ b off va ga, a = some ⟨b, off, none⟩ ∧ b < w.heap.size ∧ w.cell? ⟨b, off + i * 4, none⟩ = some (.string o.prim) ∧ w.cell? ⟨b, off + i * 4 + 1, none⟩ = some (.int .i64 o.kind) ∧ w.cell? ⟨b, off + i * 4 + 2, none⟩ = some va ∧ w.cell? ⟨b, off + i * 4 + 3, none⟩ = some ga ∧ VSl w va o.vals ∧ Sl w ga (o.ago.map (Value.int .i64))
section
variable {H : Type} {enc : TypeId × Value → H} {P : Program} {w : World} {base : Nat} {spare : Nat → Bool} {held : Bool}
theorem opOne : ∀ fs, Try.prog.underlying 44 = some (.struct fs) → oneCellFields Try.prog fs = true ∧ Try.prog.cellsOf 44 = fs.size ∧ fs.size = 4 ∧ (fs[0]?.map (·.type)) = some 9 ∧ (fs[1]?.map (·.type)) = some 3 ∧ (fs[2]?.map (·.type)) = some 32 ∧ (fs[3]?.map (·.type)) = some 42 := by
  intro fs h
  rw [Try.underlying44] at h
  injection h with h
  injection h with h
  subst h
  exact ⟨by kernel_rfl, by kernel_rfl, rfl, rfl, rfl, rfl, rfl⟩
theorem field_in {fs : Array Field} {n : Nat} {cs : List Value} {xs : List (DataW H × List MemPlace)} (hone : oneCellFields P fs = true) (hcs : cs.length = fs.size)
    (hf : ∀ (i : Nat) (f : Field), fs[i]? = some f → DataW.trod enc P w base spare held n f.type ((cs.drop f.offset).take (P.cellsOf f.type)) = xs[i]?) (hl : xs.length = fs.size) {j : Nat} {t : TypeId} (ht : (fs[j]?.map (·.type)) = some t) :
    ∃ v y, cs[j]? = some v ∧ DataW.trod enc P w base spare held n t [v] = some y ∧ xs[j]? = some y := by
  cases hj : fs[j]? with
  | none => rw [hj] at ht; simp at ht
  | some f =>
    rw [hj] at ht
    simp at ht
    obtain ⟨ho, hk⟩ := hone_of hone j f hj
    have hjl : j < fs.size := (Array.getElem?_eq_some_iff.1 hj).1
    have hv : cs[j]? = some (cs[j]'(by omega)) := List.getElem?_eq_getElem (by omega)
    have h1 := hf j f hj
    rw [ho, hk] at h1
    have hone' : (cs.drop j).take 1 = [cs[j]'(by omega)] := by
      rw [List.drop_eq_getElem_cons (by omega)]
      rfl
    rw [hone', ht, List.getElem?_eq_getElem (by omega)] at h1
    exact ⟨_, _, hv, h1, List.getElem?_eq_getElem (by omega)⟩
set_option maxRecDepth 100000 in
/-- A slice of numbers, at any cell. -/
theorem trod_nums {fuel : Nat} {v : Value} {x : DataW H × List MemPlace} (h : DataW.trod enc Try.prog w base spare held fuel 42 [v] = some x) :
    ∃ l : List Int, Sl w v (l.map (Value.int .i64)) ∧ l.length ≤ 9223372036854775807 := by
  have hC1 : Try.prog.cellsOf 3 = 1 := by kernel_rfl
  rcases open_slice Try.underlying42 h with ⟨hcs, _⟩ | ⟨a, n, cap, m, _, D, Pl, hcs, _, hle, hmax, hm, _, hi⟩
  · simp at hcs
    subst hcs
    exact ⟨[], ⟨none, 0, rfl, .inl ⟨rfl, rfl, rfl⟩⟩, by simp⟩
  · simp at hcs
    subst hcs
    have hml : n ≤ m := by rw [hm]; split <;> omega
    have key : ∀ i, i < n → ∃ q : Int, w.cell? (a.add i) = some (.int .i64 q) := by
      intro i hil
      obtain ⟨cs', hc, ht'⟩ := hi i (by omega)
      rw [hC1, Nat.mul_one] at hc
      obtain ⟨_, hcl, hat⟩ := World.cells?_some hc
      obtain ⟨c0, rfl⟩ : ∃ c0, cs' = [c0] := by
        rcases cs' with _ | ⟨c0, _ | ⟨c1, l⟩⟩
        · simp at hcl
        · exact ⟨c0, rfl⟩
        · simp at hcl
      obtain ⟨n0, g0, _, _⟩ := DataW.trod_int Try.underlying3 ht'
      simp at g0
      subst g0
      have e0 := hat 0 (by omega)
      rw [Go.Deep.add_add, Nat.add_zero] at e0
      exact ⟨n0, by simpa using e0⟩
    obtain ⟨l, hll, hl⟩ := list_upto 0 n _ key
    subst hll
    refine ⟨l, ⟨some a, cap, by rw [List.length_map], .inr ⟨a, rfl, fun j u hu => ?_⟩⟩, by unfold maxLen at hmax; omega⟩
    rw [List.getElem?_map] at hu
    obtain ⟨q, hq, rfl⟩ : ∃ q, l[j]? = some q ∧ Value.int .i64 q = u := by simpa using hu
    exact hl j q hq
/-- How long a row of values is, by its datum. -/
theorem vals_datum {fuel : Nat} {a : Option Addr} {n cap : Nat} {x : DataW H × List MemPlace} (h : DataW.trod enc Try.prog w base spare held fuel 32 [.slice a n cap] = some x) :
    n ≤ 9223372036854775807 ∧ (n = 0 ∨ ∃ el sp, x.1 = .slice el sp ∧ el.length = n) := by
  rcases open_slice Try.underlying32 h with ⟨hcs, _⟩ | ⟨a', len', cap', m, _, D, Pl, hcs, _, hle, hmax, hm, hx, hi⟩
  · simp at hcs
    obtain ⟨rfl, rfl, rfl⟩ := hcs
    exact ⟨by simp, .inl rfl⟩
  · simp at hcs
    obtain ⟨rfl, rfl, rfl⟩ := hcs
    refine ⟨by unfold maxLen at hmax; omega, .inr ⟨_, _, by rw [hx], by simp⟩⟩
theorem bytesVal : Try.prog.bytesOf 27 = 32 := by kernel_rfl
/-- A call, at any cells. -/
theorem trod_op {fuel : Nat} {cs : List Value} {x : DataW H × List MemPlace} (h : DataW.trod enc Try.prog w base spare held fuel 44 cs = some x) :
    ∃ o : Hp.Op, OpC w cs o ∧ Hp.OpOk o ∧ ((x.1.weights Try.prog 44).all (· ≤ reachBytes) = true → o.vals.length * 32 ≤ 140737488355328) := by
  have hu := Try.underlying44
  obtain ⟨hone, hC, hsz, h0, h1, h2, h3⟩ := opOne _ hu
  obtain ⟨xs, n, hfu, hx, hcl, hxl, hf⟩ := DataW.trod_struct hu h
  have hcs4 : cs.length = 4 := by rw [hcl, hC, hsz]
  have hcsf := hcl.trans hC
  obtain ⟨v0, y0, c0, t0, x0⟩ := field_in hone hcsf hf hxl h0
  obtain ⟨v1, y1, c1, t1, x1⟩ := field_in hone hcsf hf hxl h1
  obtain ⟨v2, y2, c2, t2, x2⟩ := field_in hone hcsf hf hxl h2
  obtain ⟨v3, y3, c3, t3, x3⟩ := field_in hone hcsf hf hxl h3
  obtain ⟨t, g0, _, hts⟩ := DataW.trod_string Try.underlying9 t0
  obtain ⟨k, g1, _, _⟩ := DataW.trod_int Try.underlying3 t1
  simp at g0 g1
  subst g0 g1
  obtain ⟨u0, u1, u2, u3, rfl⟩ : ∃ a b c d, cs = [a, b, c, d] := by
    rcases cs with _ | ⟨a, _ | ⟨b, _ | ⟨c, _ | ⟨d, _ | ⟨e, cs⟩⟩⟩⟩⟩ <;> simp at hcs4
    exact ⟨a, b, c, d, rfl⟩
  simp at c0 c1 c2 c3
  subst c0 c1 c2 c3
  have hsl : ∃ a n c, u2 = .slice a n c := by
    rcases open_slice Try.underlying32 t2 with ⟨hcs, _⟩ | ⟨a', len', cap', m, _, D, Pl, hcs, _⟩
    · simp at hcs
      exact ⟨_, _, _, hcs⟩
    · simp at hcs
      exact ⟨_, _, _, hcs⟩
  obtain ⟨l, hl, hlt⟩ := trod_vals hsl t2
  obtain ⟨g, hg, hgl⟩ := trod_nums t3
  obtain ⟨a2, cc2, e2⟩ := hl.len
  rw [e2] at t2
  obtain ⟨hmx, hdat⟩ := vals_datum t2
  refine ⟨⟨t, k, l, g⟩, ⟨u2, u3, rfl, hl, hg⟩, ⟨hts, hlt, hgl, hmx⟩, fun hw => ?_⟩
  rcases hdat with h0 | ⟨el, sp, e, hel⟩
  · show l.length * 32 ≤ _
    rw [h0]
    decide
  · show l.length * 32 ≤ _
    rw [hx] at hw
    have hin : (el.length + sp.length) * 32 ∈ DataW.weights Try.prog 44 (.agg (xs.map (·.1))) := by
      have hy : (xs.map (·.1))[2]? = some (DataW.slice el sp) := by rw [List.getElem?_map, x2, ← e]; rfl
      rw [DataW.weights, hu]
      dsimp only
      refine DataW.weights_mem_each (j := 2) (t := 32) (by rfl) hy _ ?_
      rw [DataW.weights, Try.underlying32]
      dsimp only
      rw [bytesVal]
      exact List.mem_cons_self ..
    have h9 : (el.length + sp.length) * 32 ≤ reachBytes := of_decide_eq_true (List.all_eq_true.1 hw _ hin)
    have h8 : reachBytes = 140737488351232 := rfl
    rw [h8] at h9
    rw [← hel]
    omega
set_option maxRecDepth 100000 in
/-- The calls that a law is handed. -/
theorem open_ops {r : Reach} {b0 : Nat} {v : Value} {d : DataW H} {ps : List MemPlace} (hval : Value.okWide Try.prog w r b0 36 v) (h : DataW.Trod enc Try.prog w base spare held 36 v d ps) :
    ∃ l : List Hp.Op, OSl w v l ∧ (∀ o ∈ l, Hp.OpOk o) ∧ l.length ≤ 9223372036854775807 ∧ ((d.weights Try.prog 36).all (· ≤ reachBytes) = true → ∀ o ∈ l, o.vals.length * 32 ≤ 140737488355328) := by
  obtain ⟨a, n, c, rfl⟩ := okWide_slice Try.underlying36 hval
  obtain ⟨fuel, hf⟩ := h
  have hC : Try.prog.cellsOf 44 = 4 := by kernel_rfl
  rcases open_slice Try.underlying36 hf with ⟨hcs, _⟩ | ⟨a', len', cap', m, _, D, Pl, hcs, _, hle, hmax, hm, hx, hi⟩
  · simp [Value.cells] at hcs
    obtain ⟨rfl, rfl, rfl⟩ := hcs
    exact ⟨[], ⟨none, 0, rfl, fun i o ho => by simp at ho⟩, by simp, by simp, fun _ o ho => by simp at ho⟩
  · simp [Value.cells] at hcs
    obtain ⟨rfl, rfl, rfl⟩ := hcs
    have hml : n ≤ m := by rw [hm]; split <;> omega
    by_cases hn0 : n = 0
    · subst hn0
      exact ⟨[], ⟨_, c, rfl, fun i o ho => by simp at ho⟩, by simp, by simp, fun _ o ho => by simp at ho⟩
    obtain ⟨b, off, spot⟩ := a'
    have hsp : spot = none ∧ b < w.heap.size := by
      obtain ⟨cs', hc, ht'⟩ := hi 0 (by omega)
      rw [hC] at hc
      obtain ⟨_, hcl, hat⟩ := World.cells?_some hc
      obtain ⟨o, ⟨va, ga, rfl, _, _⟩, _⟩ := trod_op ht'
      have e0 := hat 0 (by omega)
      rw [Go.Deep.add_add] at e0
      have e9 : w.cell? (⟨b, off, spot⟩ : Addr) = some (.string o.prim) := by simpa [Addr.add] using e0
      exact ⟨World.cell?_spot e9, World.block_lt_of_cell? w _ e9⟩
    obtain ⟨rfl, hlt⟩ := hsp
    have key : ∀ i, i < n → ∃ o : Hp.Op, (∃ va ga, w.cell? ⟨b, off + i * 4, none⟩ = some (.string o.prim) ∧ w.cell? ⟨b, off + i * 4 + 1, none⟩ = some (.int .i64 o.kind) ∧ w.cell? ⟨b, off + i * 4 + 2, none⟩ = some va ∧ w.cell? ⟨b, off + i * 4 + 3, none⟩ = some ga ∧ VSl w va o.vals ∧ Sl w ga (o.ago.map (Value.int .i64))) ∧ Hp.OpOk o ∧ (((D i).weights Try.prog 44).all (· ≤ reachBytes) = true → o.vals.length * 32 ≤ 140737488355328) := by
      intro i hil
      obtain ⟨cs', hc, ht'⟩ := hi i (by omega)
      rw [hC] at hc
      obtain ⟨_, hcl, hat⟩ := World.cells?_some hc
      obtain ⟨o, ⟨va, ga, rfl, hva, hga⟩, hok, hw⟩ := trod_op ht'
      have e0 := hat 0 (by omega)
      have e1 := hat 1 (by omega)
      have e2 := hat 2 (by omega)
      have e3 := hat 3 (by omega)
      rw [Go.Deep.add_add] at e0 e1 e2 e3
      rw [Go.WideShapes.add_plain] at e0 e1 e2 e3
      exact ⟨o, ⟨va, ga, by simpa using e0, by simpa [Nat.add_assoc] using e1, by simpa [Nat.add_assoc] using e2, by simpa [Nat.add_assoc] using e3, hva, hga⟩, hok, hw⟩
    obtain ⟨l, hll, hl⟩ := list_upto ⟨⟨#[]⟩, 0, [], []⟩ n _ key
    subst hll
    refine ⟨l, ⟨_, c, rfl, fun i o ho => ?_⟩, fun o ho => ?_, by unfold maxLen at hmax; omega, fun hw o ho => ?_⟩
    · obtain ⟨⟨va, ga, h⟩, _⟩ := hl i o ho
      exact ⟨b, off, va, ga, rfl, hlt, h⟩
    · obtain ⟨i, hi2⟩ := List.getElem?_of_mem ho
      exact (hl i o hi2).2.1
    · obtain ⟨i, hi2⟩ := List.getElem?_of_mem ho
      have hil := (List.getElem?_eq_some_iff.1 hi2).1
      refine (hl i o hi2).2.2 (List.all_eq_true.2 fun q hq => List.all_eq_true.1 hw q ?_)
      have hd : d = .slice ((List.range l.length).map D) ((List.range (m - l.length)).map fun j => D (l.length + j)) := (Prod.mk.inj hx).1
      rw [hd, DataW.weights, Try.underlying36]
      dsimp only
      refine List.mem_cons_of_mem _ (List.mem_append_left _ ?_)
      have key2 : ∀ (L : List (DataW H)) (y : DataW H), y ∈ L → ∀ q ∈ y.weights Try.prog 44, q ∈ DataW.weightsAll Try.prog 44 L := by
        intro L
        induction L with
        | nil => intro y hy; simp at hy
        | cons z L ih =>
          intro y hy q hq
          rw [DataW.weightsAll]
          rcases List.mem_cons.1 hy with rfl | hy
          · exact List.mem_append_left _ hq
          · exact List.mem_append_right _ (ih y hy q hq)
      exact key2 _ (D i) (List.mem_map.2 ⟨i, List.mem_range.2 hil, rfl⟩) q hq
end
end Go.Proofs.Ythbnhneibpoooaa
/- The law's filled. -/
namespace Go.Proofs.Ythbnhneibpoooaa
open Go.RowKit
set_option linter.unusedVariables false
set_option linter.unusedSimpArgs false
namespace Hp
def fillAt (ago : List Int) (told : List V) (i : Nat) (v : V) : V := match ago[i]? with
  | some g => if 0 < g ∧ g ≤ (told.length : Int) then told.getD (told.length - g.toNat) none else v
  | Option.none => v
/-- The values of a call, the first k filled in. -/
def fillTo (ago : List Int) (told : List V) (k : Nat) (l : List V) : List V := l.mapIdx fun i v => if i < k then fillAt ago told i v else v
theorem fillTo_len (ago : List Int) (told : List V) (k : Nat) (l : List V) : (fillTo ago told k l).length = l.length := by simp [fillTo]
theorem fillTo_zero (ago : List Int) (told : List V) (l : List V) : fillTo ago told 0 l = l := by
  unfold fillTo
  apply List.ext_getElem? 
  intro i
  rw [List.getElem?_mapIdx]
  cases l[i]? <;> simp
theorem fillTo_at {ago : List Int} {told : List V} {k : Nat} {l : List V} {v : V} (hv : l[k]? = some v) : (fillTo ago told k l)[k]? = some v := by
  unfold fillTo
  rw [List.getElem?_mapIdx, hv]
  simp
theorem fillTo_succ {ago : List Int} {told : List V} {k : Nat} {l : List V} {v : V} (hv : l[k]? = some v) : fillTo ago told (k + 1) l = (fillTo ago told k l).set k (fillAt ago told k v) := by
  apply List.ext_getElem?
  intro i
  rw [List.getElem?_set]
  unfold fillTo
  simp only [List.getElem?_mapIdx, List.length_mapIdx]
  by_cases h : k = i
  · subst h
    have := (List.getElem?_eq_some_iff.1 hv).1
    rw [if_pos rfl, if_pos this, hv]
    simp
  · rw [if_neg h]
    cases l[i]? with
    | none => rfl
    | some u =>
      simp only [Option.map_some]
      congr 1
      by_cases h2 : i < k
      · rw [if_pos h2, if_pos (by omega)]
      · rw [if_neg h2, if_neg (by omega)]
theorem fillTo_same {ago : List Int} {told : List V} {k : Nat} {l : List V} {v : V} (hv : l[k]? = some v) (hs : fillAt ago told k v = v) : fillTo ago told (k + 1) l = fillTo ago told k l := by
  rw [fillTo_succ hv, hs]
  apply List.ext_getElem?
  intro i
  rw [List.getElem?_set]
  by_cases h : k = i
  · subst h
    rw [if_pos rfl, fillTo_len, if_pos (List.getElem?_eq_some_iff.1 hv).1, fillTo_at hv]
  · rw [if_neg h]
/-- The values of a call, filled in. -/
def fillO (o : Op) (told : List V) : List V := fillTo o.ago told o.vals.length o.vals
theorem fillTo_end (ago : List Int) (told : List V) (k : Nat) (l : List V) (h : k = l.length ∨ (k ≤ l.length ∧ ago.length ≤ k)) : fillTo ago told k l = fillTo ago told l.length l := by
  rcases h with rfl | ⟨h1, h2⟩
  · rfl
  · unfold fillTo
    apply List.ext_getElem?
    intro i
    rw [List.getElem?_mapIdx, List.getElem?_mapIdx]
    cases hi : l[i]? with
    | none => rfl
    | some u =>
      have := (List.getElem?_eq_some_iff.1 hi).1
      simp only [Option.map_some]
      congr 1
      rw [if_pos this]
      by_cases h3 : i < k
      · rw [if_pos h3]
      · rw [if_neg h3]
        unfold fillAt
        rw [List.getElem?_eq_none (by omega)]
theorem fillAt_mem {ago : List Int} {told : List V} {i : Nat} {v : V} : fillAt ago told i v = v ∨ fillAt ago told i v ∈ told := by
  unfold fillAt
  split
  · split
    · rename_i g _ h
      right
      rw [List.getD_eq_getElem?_getD, List.getElem?_eq_getElem (by omega)]
      exact List.getElem_mem _
    · exact .inl rfl
  · exact .inl rfl
theorem fillO_text {o : Op} {told : List V} (ho : ∀ v ∈ o.vals, v.text.size ≤ maxLen) (ht : ∀ v ∈ told, v.text.size ≤ maxLen) : ∀ v ∈ fillO o told, v.text.size ≤ maxLen := by
  intro v hv
  unfold fillO fillTo at hv
  rw [List.mem_mapIdx] at hv
  obtain ⟨i, hi, rfl⟩ := hv
  show (if i < o.vals.length then fillAt o.ago told i o.vals[i] else o.vals[i]).text.size ≤ maxLen
  rw [if_pos hi]
  rcases fillAt_mem (ago := o.ago) (told := told) (i := i) (v := o.vals[i]) with e | e
  · rw [e]; exact ho _ (List.getElem_mem hi)
  · exact ht _ e
end Hp
/-- While filled fills. -/
structure FSt (o : Hp.Op) (va ga : Value) (told : List Hp.V) (w wx : World) (k : Nat) (pv : Value) : Prop where
  own : wx.ownsRow (w.heap.size + 1) 27 3 pv o.vals.length (Hp.flatV (Hp.fillTo o.ago told k o.vals))
  below : Below w.heap.size w wx
  box : wx.heap[w.heap.size]? = some (.cells #[.string o.prim, .int .i64 o.kind, va, ga] 44 (0, 0))
theorem FSt.cells {o : Hp.Op} {va ga : Value} {told : List Hp.V} {w wx : World} {k : Nat} {pv : Value} (H : FSt o va ga told w wx k pv) : wx.cell? ⟨w.heap.size, 0, none⟩ = some (.string o.prim) ∧ wx.cell? ⟨w.heap.size, 1, none⟩ = some (.int .i64 o.kind) ∧ wx.cell? ⟨w.heap.size, 2, none⟩ = some va ∧ wx.cell? ⟨w.heap.size, 3, none⟩ = some ga ∧ w.heap.size < wx.heap.size :=
  ⟨cell_of_row wx _ 0 _ _ _ H.box, cell_of_row wx _ 1 _ _ _ H.box, cell_of_row wx _ 2 _ _ _ H.box, cell_of_row wx _ 3 _ _ _ H.box, (Array.getElem?_eq_some_iff.1 H.box).1⟩
theorem FSt.shape {o : Hp.Op} {va ga : Value} {told : List Hp.V} {w wx : World} {k : Nat} {pv : Value} (H : FSt o va ga told w wx k pv) : ∃ a c, pv = .slice a o.vals.length c := by
  rcases own_shape H.own with ⟨e, e2, _⟩ | ⟨g, c, e, _⟩
  · exact ⟨none, 0, by rw [e, e2]⟩
  · exact ⟨_, c, e⟩
theorem FSt.put {o : Hp.Op} {va ga : Value} {told : List Hp.V} {w wx : World} {k g c : Nat} {v x : Hp.V} (H : FSt o va ga told w wx k (.slice (some ⟨g, 0, none⟩) o.vals.length c)) (hv : o.vals[k]? = some v) (hx : Hp.fillAt o.ago told k v = x) :
    FSt o va ga told w (((wx.setCell ⟨g, k * 3, none⟩ (.int .i64 x.kind)).setCell ⟨g, k * 3 + 1, none⟩ (.int .i64 x.int)).setCell ⟨g, k * 3 + 2, none⟩ (.string x.text)) (k + 1) (.slice (some ⟨g, 0, none⟩) o.vals.length c) := by
  have hlt := H.own.lt g rfl
  obtain ⟨p1, g1⟩ := H.own.stored (k * 3) (.int .i64 x.kind)
  obtain ⟨p2, g2⟩ := p1.stored (k * 3 + 1) (.int .i64 x.int)
  obtain ⟨p3, g3⟩ := p2.stored (k * 3 + 2) (.string x.text)
  have hk : k < (Hp.fillTo o.ago told k o.vals).length := by rw [Hp.fillTo_len]; exact (List.getElem?_eq_some_iff.1 hv).1
  rw [Hp.flatV_set _ k x hk] at p3
  have ef := Hp.fillTo_succ (ago := o.ago) (told := told) hv
  rw [hx] at ef
  rw [← ef] at p3
  have hne : w.heap.size ≠ g := by omega
  have hgl : w.heap.size ≤ g := by omega
  refine ⟨p3, ((H.below.setCell (p := ⟨g, k * 3, none⟩) hgl _).setCell (p := ⟨g, k * 3 + 1, none⟩) hgl _).setCell (p := ⟨g, k * 3 + 2, none⟩) hgl _, ?_⟩
  rw [heap_setCell_other _ _ _ _ hne, heap_setCell_other _ _ _ _ hne, heap_setCell_other _ _ _ _ hne]
  exact H.box
theorem vsl_src' {w : World} {a : Option Addr} {n c : Nat} {l : List Hp.V} (h : VSl w (.slice a n c) l) : (a = none ∧ c = 0 ∧ Hp.flatV l = []) ∨ ∃ ad, a = some ad ∧ ∀ (j : Nat) (u : Value), (Hp.flatV l)[j]? = some u → w.cell? (ad.add j) = some u := by
  obtain ⟨a', c', e, h⟩ := h
  cases e
  rcases h with ⟨rfl, rfl, rfl⟩ | h
  · exact .inl ⟨rfl, rfl, rfl⟩
  · exact .inr h
theorem FSt.first {o : Hp.Op} {va ga : Value} {told : List Hp.V} {w w2 w1 : World} {pv : Value} (hb : Below w.heap.size w w2) (hbox : w2.heap[w.heap.size]? = some (.cells #[.string o.prim, .int .i64 o.kind, va, ga] 44 (0, 0))) (hs : w2.heap.size = w.heap.size + 1 + 1)
    (hown : w1.ownsRow (w.heap.size + 1) 27 3 pv (0 + o.vals.length) ([] ++ Hp.flatV o.vals)) (hg : w2.grownBy w1 (Value.slice (some ⟨w.heap.size + 1, 0, none⟩) 0 0).ownBlock) : FSt o va ga told w w1 0 pv := by
  have hne : ∀ j, j < w.heap.size + 1 → some j ≠ (Value.slice (some ⟨w.heap.size + 1, 0, none⟩) 0 0).ownBlock := by
    intro j hj e
    simp [Value.ownBlock] at e
    omega
  rw [Nat.zero_add, List.nil_append] at hown
  refine ⟨by rw [Hp.fillTo_zero]; exact hown, ⟨hg.os.trans hb.os, hg.tape.trans hb.tape, hg.output.trans hb.output, Nat.le_trans hb.size hg.size, fun b hlt => (hg.block b (by omega) (hne b (by omega))).trans (hb.block b hlt)⟩, ?_⟩
  rw [hg.block _ (by omega) (hne _ (by omega))]
  exact hbox
def FillPost (o : Hp.Op) (told : List Hp.V) (w : World) (e : Ending) (w' : World) : Prop :=
  ∃ a c, e = .returned (.slice a o.vals.length c) ∧ w'.ownsRow (w.heap.size + 1) 27 3 (.slice a o.vals.length c) o.vals.length (Hp.flatV (Hp.fillO o told)) ∧ Below w.heap.size w w'
set_option maxHeartbeats 8000000 in
set_option maxRecDepth 100000 in
theorem filled_law (o : Hp.Op) (va ga tv : Value) (told : List Hp.V) (w : World) (hok : Hp.OpOk o) (hva : VSl w va o.vals) (hga : Sl w ga (o.ago.map (Value.int .i64))) (ht : VSl w tv told) (hl : o.vals.length * 32 ≤ 140737488355328) (htl : told.length ≤ 1000) :
    Calls Try.prog 14 #[.agg #[.string o.prim, .int .i64 o.kind, va, ga], tv] w (FillPost o told w) := by
  obtain ⟨i1, hj, hy0, hy1, hy2⟩ := info_parts infoVal
  have HJ := Lib.hid hj
  have HY0 := Lib.hid hy0
  have HY1 := Lib.hid hy1
  have HY2 := Lib.hid hy2
  obtain ⟨a1, c1, rfl⟩ := hva.len
  obtain ⟨a2, c2, e2⟩ := hga.len
  rw [List.length_map] at e2
  subst e2
  obtain ⟨a3, c3, rfl⟩ := ht.len
  have HGA := Lib.hid hga
  have HT := Lib.hid ht
  have hago := hok.ago
  have hW2 : Below w.heap.size w ((w.alloc (.cells #[.string o.prim, .int .i64 o.kind, .slice a1 o.vals.length c1, .slice a2 o.ago.length c2] 44)).alloc (.cells #[] 27)) := ((Below.refl _ _).alloc (Nat.le_refl _) _).alloc (by simp) _
  have HW2 := Lib.hid hW2
  have HSRC := Lib.hid (vsl_src' (hva.below hW2 (Nat.le_refl _)))
  have HZO : Hid (((w.alloc (.cells #[.string o.prim, .int .i64 o.kind, .slice a1 o.vals.length c1, .slice a2 o.ago.length c2] 44)).alloc (.cells #[] 27)).ownsRow (w.heap.size + 1) 27 3 (.slice (some ⟨w.heap.size + 1, 0, none⟩) 0 0) 0 []) := by
    have h := zero_own (w.alloc (.cells #[.string o.prim, .int .i64 o.kind, .slice a1 o.vals.length c1, .slice a2 o.ago.length c2] 44)) 27
    rw [World.heap_size_alloc] at h
    exact h
  have HBX : Hid (((w.alloc (.cells #[.string o.prim, .int .i64 o.kind, .slice a1 o.vals.length c1, .slice a2 o.ago.length c2] 44)).alloc (.cells #[] 27)).heap[w.heap.size]? = some (.cells #[.string o.prim, .int .i64 o.kind, .slice a1 o.vals.length c1, .slice a2 o.ago.length c2] 44 (0, 0))) := (heap_alloc_old _ _ (by simp)).trans (heap_alloc_new w _)
  have HTE : Hid (((w.alloc (.cells #[.string o.prim, .int .i64 o.kind, .slice a1 o.vals.length c1, .slice a2 o.ago.length c2] 44)).alloc (.cells #[] 27)).heap.size = w.heap.size + 1 + 1) := two_size_eq' _ _ _
  clear hj hy0 hy1 hy2 hva hga ht hW2
  unfold FillPost
  go_enter Try.func14, Try.ntmps14
  go_wp2_with (at_builtin; refine wpList_append_at (by rfl) (.tmp 7) (.tmp 9) 32 rfl (w.heap.size + 1) 27 i1 _ 3 32 Try.underlying32 HJ.out HY0.out HY1.out HY2.out rfl (by decide) (.slice (some ⟨w.heap.size + 1, 0, none⟩) 0 0) 0 [] rfl HZO.out a1 o.vals.length c1 (Hp.flatV o.vals) rfl (Hp.flatV_length _) HSRC.out (Hp.flatV_one _) (by simp only [maxLen]; omega) (by omega) (by rw [HTE.out]; omega) ?_; intro pv w1 hown hgr hlies; have H1 := Lib.hid (FSt.first (told := told) HW2.out HBX.out HTE.out hown hgr); clear hown hgr hlies)
  obtain ⟨ap, cp, rfl⟩ := H1.out.shape
  have hnl : o.vals.length ≤ 4398046511104 := by omega
  go_loopg [6] o.vals.length (fun gk s6 wx => ∃ k : Nat, k ≤ o.vals.length ∧ gk = o.vals.length - k ∧ s6 = .int .i64 k ∧ Hid (FSt o (.slice a1 o.vals.length c1) (.slice a2 o.ago.length c2) told w wx k (.slice ap o.vals.length cp)))
  case atStart => exact ⟨0, by omega, rfl, rfl, H1⟩
  case round =>
    obtain ⟨k, hk, rfl, rfl, HF⟩ := hrel
    obtain ⟨x0, x1, x2, x3, hxs⟩ := HF.out.cells
    have hk1 : (0 : Int) ≤ k := by omega
    have hgk : IntKind.i64.wrap ((k : Int) + 1) = k + 1 := by rw [IntKind.wrap_i64]; omega
    by_cases hlt : k < o.vals.length
    · have hk2 : (k : Int) < o.vals.length := by omega
      by_cases hla : k < o.ago.length
      · obtain ⟨v, hv⟩ : ∃ v, o.vals[k]? = some v := ⟨_, List.getElem?_eq_getElem hlt⟩
        obtain ⟨g, hg⟩ : ∃ g, o.ago[k]? = some g := ⟨_, List.getElem?_eq_getElem hla⟩
        have hga2 := HGA.out.below HF.out.below (Nat.le_refl _)
        obtain ⟨ab, ao, rfl, hab, hat⟩ := hga2.at (fun e => by rw [List.map_eq_nil_iff] at e; rw [e] at hla; simp at hla)
        have d0 := hat k (by rw [List.length_map]; exact hla)
        rw [List.getD_eq_getElem?_getD, List.getElem?_map, hg] at d0
        simp only [Option.map_some, Option.getD_some] at d0
        have hk3 : (k : Int) < o.ago.length := by omega
        have HVK := Lib.hid hv
        have HGK := Lib.hid hg
        clear hv hg hat hga2
        by_cases hin : 0 < g ∧ g ≤ (told.length : Int)
        · obtain ⟨h1, h2⟩ := hin
          have hx : Hid (Hp.fillAt o.ago told k v = told.getD (told.length - g.toNat) Hp.none) := by
            unfold Hid Hp.fillAt
            rw [HGK.out]
            exact if_pos ⟨h1, h2⟩
          obtain ⟨j, hj⟩ : ∃ j : Nat, (told.length : Int) - g = j := ⟨told.length - g.toNat, by omega⟩
          have hjl : j < told.length := by omega
          have hje : told.length - g.toNat = j := by omega
          obtain ⟨x, hxe⟩ : ∃ x, told[j]? = some x := ⟨_, List.getElem?_eq_getElem hjl⟩
          have HX : Hid (Hp.fillAt o.ago told k v = x) := by
            unfold Hid
            rw [hx.out, hje, List.getD_eq_getElem?_getD, hxe]
            rfl
          have ht2 := HT.out.below HF.out.below (Nat.le_refl _)
          obtain ⟨tb, to, rfl, htb, hat⟩ := ht2.at (fun e => by rw [e] at hjl; simp at hjl)
          obtain ⟨e0, e1, e2⟩ := hat j x hxe
          have hj1 : (0 : Int) ≤ j := by omega
          have hj2 : (j : Int) < told.length := by omega
          have q1 : decide (0 < g) = true := decide_eq_true h1
          have q2 : decide (g ≤ (told.length : Int)) = true := decide_eq_true h2
          obtain ⟨gb, rfl⟩ : ∃ gb, ap = some ⟨gb, 0, none⟩ := by
            rcases own_shape HF.out.own with ⟨_, e, _⟩ | ⟨gb, c, e, _⟩
            · omega
            · cases e
              exact ⟨gb, rfl⟩
          have hpl : (Hp.flatV (Hp.fillTo o.ago told k o.vals)).length = o.vals.length * 3 := by rw [Hp.flatV_length, Hp.fillTo_len]
          obtain ⟨y0, y1, y2⟩ := Hp.flatV_at _ k v (Hp.fillTo_at (ago := o.ago) (told := told) HVK.out)
          have w0 := HF.out.own.cellAt (k * 3) (by omega)
          have w1' := HF.out.own.cellAt (k * 3 + 1) (by omega)
          have w2' := HF.out.own.cellAt (k * 3 + 2) (by omega)
          rw [y0] at w0
          rw [y1] at w1'
          rw [y2] at w2'
          have z0 := HF.out.own.frozenAt (k * 3)
          have z1 := HF.out.own.frozenAt (k * 3 + 1)
          have z2 := HF.out.own.frozenAt (k * 3 + 2)
          have HPUT := Lib.hid (HF.out.put HVK.out HX.out)
          clear hat ht2 hxe hjl hje h1 h2 y0 y1 y2 hpl hx
          go_wp2_with fail
          go_roundg (o.vals.length - (k + 1))
          case measure => omega
          case rel => exact ⟨k + 1, by omega, rfl, by go_num, HPUT⟩
        · have hfx : Hp.fillAt o.ago told k v = v := by
            unfold Hp.fillAt
            rw [HGK.out]
            exact if_neg hin
          have HPUT : Hid (FSt o (.slice a1 o.vals.length c1) (.slice (some ⟨ab, ao, none⟩) o.ago.length c2) told w wr (k + 1) (.slice ap o.vals.length cp)) := by
            refine ⟨?_, HF.out.below, HF.out.box⟩
            rw [Hp.fillTo_same HVK.out hfx]
            exact HF.out.own
          have hor : decide (0 < g) = false ∨ (decide (0 < g) = true ∧ decide (g ≤ (told.length : Int)) = false) := by
            simp only [decide_eq_true_eq, decide_eq_false_iff_not]
            omega
          clear hin hfx
          rcases hor with q1 | ⟨q1, q2⟩
          all_goals
            go_wp2_with fail
            go_roundg (o.vals.length - (k + 1))
            case measure => omega
            case rel => exact ⟨k + 1, by omega, rfl, by go_num, HPUT⟩
      · have q : decide ((k : Int) < o.ago.length) = false := decide_eq_false (by omega)
        have q9 : decide (k < o.ago.length) = false := decide_eq_false hla
        have HE := Lib.hid (Hp.fillTo_end o.ago told k o.vals (.inr ⟨by omega, by omega⟩))
        clear hla
        go_wp2_with fail
        go_ret
        have h := HF.out.own
        rw [HE.out] at h
        exact ⟨_, _, rfl, h, HF.out.below⟩
    · obtain rfl : o.vals.length = k := by omega
      go_wp2_with fail
      go_ret
      exact ⟨_, _, rfl, HF.out.own, HF.out.below⟩
end Go.Proofs.Ythbnhneibpoooaa
