/- The laws' arguments, opened: data. -/
import Derived.Test.YtkplkgdfphbldaaGreatGJbf
import Derived.Test.YtkplkgdfphbldaaGreatGJau
import Derived.Test.YtkplkgdfphbldaaGreatGJav
set_option linter.unusedVariables false
set_option linter.unusedSimpArgs false
set_option linter.unnecessarySimpa false
namespace Go.Proofs.YtkplkgdfphbldaaGreat
open Go.ChangeShapes Go.WideShapes Go.Deep Go.RowKit
set_option linter.unusedVariables false
set_option linter.unusedSimpArgs false
section
variable {H : Type} {enc : TypeId × Value → H} {P : Program} {w : World} {base : Nat} {spare : Nat → Bool} {held : Bool}
theorem datumOne : ∀ fs, Tryz.prog.underlying 25 = some (.struct fs) → oneCellFields Tryz.prog fs = true ∧ Tryz.prog.cellsOf 25 = fs.size ∧ fs.size = 4 ∧ (fs[0]?.map (·.type)) = some 3 ∧ (fs[1]?.map (·.type)) = some 3 ∧ (fs[2]?.map (·.type)) = some 9 ∧ (fs[3]?.map (·.type)) = some 23 := by
  intro fs h
  rw [Tryz.underlying25] at h
  injection h with h
  injection h with h
  subst h
  exact ⟨by kernel_rfl, by kernel_rfl, rfl, rfl, rfl, rfl, rfl⟩
theorem field_at {fs : Array Field} {n : Nat} {cs : List Value} {xs : List (DataW H × List MemPlace)} (hone : oneCellFields P fs = true) (hcs : cs.length = fs.size)
    (hf : ∀ (i : Nat) (f : Field), fs[i]? = some f → DataW.trod enc P w base spare held n f.type ((cs.drop f.offset).take (P.cellsOf f.type)) = xs[i]?) (hl : xs.length = fs.size) {j : Nat} {t : TypeId} (ht : (fs[j]?.map (·.type)) = some t) :
    ∃ v y, cs[j]? = some v ∧ DataW.trod enc P w base spare held n t [v] = some y := by
  cases hj : fs[j]? with
  | none => rw [hj] at ht; simp at ht
  | some f =>
    rw [hj] at ht
    simp at ht
    obtain ⟨ho, hk⟩ := hone_of hone j f hj
    have hjl : j < fs.size := (Array.getElem?_eq_some_iff.1 hj).1
    have hv : cs[j]? = some (cs[j]'(by omega)) := List.getElem?_eq_getElem (by omega)
    have h1 := hf j f hj
    rw [ho, hk] at h1
    have hone' : (cs.drop j).take 1 = [cs[j]'(by omega)] := by
      rw [List.drop_eq_getElem_cons (by omega)]
      rfl
    rw [hone', ht, List.getElem?_eq_getElem (by omega)] at h1
    exact ⟨_, _, hv, h1⟩
set_option maxRecDepth 100000 in
theorem trod_datum : ∀ (fuel : Nat) (cs : List Value) (x : DataW H × List MemPlace), (∀ b, spare b = true) → DataW.trod enc Tryz.prog w base spare held fuel 25 cs = some x →
    ∃ (d : Dt) (lv : Value), cs = [.int .i64 d.kind, .int .i64 d.int, .string d.text, lv] ∧ DtAt w (fun _ => True) (.agg #[.int .i64 d.kind, .int .i64 d.int, .string d.text, lv]) d ∧ Dt.Fit d := by
  intro fuel
  induction fuel using Nat.strongRecOn with
  | ind fuel IH =>
    intro cs x hsp h
    have hu := Tryz.underlying25
    obtain ⟨hone, hC, hsz, h0, h1, h2, h3⟩ := datumOne _ hu
    obtain ⟨xs, n, hfu, hx, hcl, hxl, hf⟩ := DataW.trod_struct hu h
    have hcs4 : cs.length = 4 := by rw [hcl, hC, hsz]
    have hcsf := hcl.trans hC
    obtain ⟨v0, y0, c0, t0⟩ := field_at hone hcsf hf hxl h0
    obtain ⟨v1, y1, c1, t1⟩ := field_at hone hcsf hf hxl h1
    obtain ⟨v2, y2, c2, t2⟩ := field_at hone hcsf hf hxl h2
    obtain ⟨v3, y3, c3, t3⟩ := field_at hone hcsf hf hxl h3
    obtain ⟨k, g0, _, _⟩ := DataW.trod_int Tryz.underlying3 t0
    obtain ⟨i, g1, _, _⟩ := DataW.trod_int Tryz.underlying3 t1
    obtain ⟨t, g2, _, hts⟩ := DataW.trod_string Tryz.underlying9 t2
    simp at g0 g1 g2
    subst g0 g1 g2
    obtain ⟨u0, u1, u2, u3, rfl⟩ : ∃ a b c d, cs = [a, b, c, d] := by
      rcases cs with _ | ⟨a, _ | ⟨b, _ | ⟨c, _ | ⟨d, _ | ⟨e, cs⟩⟩⟩⟩⟩ <;> simp at hcs4
      exact ⟨a, b, c, d, rfl⟩
    simp at c0 c1 c2 c3
    subst c0 c1 c2 c3
    rcases DataW.trod_slice Tryz.underlying23 t3 with ⟨hv, _⟩ | ⟨a, len, cap, elems, rest, n2, hn2, hv, _, _, hle, hmax, hel, hall, hspare, _⟩
    · simp at hv
      subst hv
      exact ⟨.mk k i t [], _, rfl, .nil k i t, .mk k i t [] hts (by simp) (by simp)⟩
    · simp at hv
      subst hv
      obtain ⟨hrl, hrest⟩ := hspare (hsp _)
      have hcell : ∀ j, j < cap → ∃ cs', w.cells? base (a.add (j * 4)) 4 = some cs' ∧ ∃ y, DataW.trod enc Tryz.prog w base spare held n2 25 cs' = some y := by
        intro j hj
        have key : ∃ y, (w.cells? base (a.add (j * Tryz.prog.cellsOf 25)) (Tryz.prog.cellsOf 25)).bind (DataW.trod enc Tryz.prog w base spare held n2 25) = some y := by
          by_cases hjl : j < len
          · exact ⟨_, (hall j hjl).trans (List.getElem?_eq_getElem (by omega))⟩
          · have := hrest (j - len) (by omega)
            rw [show len + (j - len) = j by omega] at this
            exact ⟨_, this.trans (List.getElem?_eq_getElem (by omega))⟩
        obtain ⟨y, hy⟩ := key
        rw [hC, hsz] at hy
        obtain ⟨cs', hc', ht'⟩ := Option.bind_eq_some_iff.1 hy
        exact ⟨cs', hc', y, ht'⟩
      have hone2 : ∀ j, j < cap → ∃ q : Dt × Value, (w.cell? (a.add (j * 4)) = some (.int .i64 q.1.kind) ∧ w.cell? (a.add (j * 4 + 1)) = some (.int .i64 q.1.int) ∧ w.cell? (a.add (j * 4 + 2)) = some (.string q.1.text) ∧ w.cell? (a.add (j * 4 + 3)) = some q.2) ∧ DtAt w (fun _ => True) (.agg #[.int .i64 q.1.kind, .int .i64 q.1.int, .string q.1.text, q.2]) q.1 ∧ Dt.Fit q.1 := by
        intro j hj
        obtain ⟨cs', hc', y, ht'⟩ := hcell j hj
        obtain ⟨d, lv, rfl, hd, hfit⟩ := IH n2 (by omega) cs' y hsp ht'
        obtain ⟨_, _, hat⟩ := World.cells?_some hc'
        have e := fun r (hr : r < 4) => hat r hr
        refine ⟨(d, lv), ⟨?_, ?_, ?_, ?_⟩, hd, hfit⟩
        · have := e 0 (by omega); rw [Go.Deep.add_add] at this; simpa using this
        · have := e 1 (by omega); rw [Go.Deep.add_add] at this; simpa using this
        · have := e 2 (by omega); rw [Go.Deep.add_add] at this; simpa using this
        · have := e 3 (by omega); rw [Go.Deep.add_add] at this; simpa using this
      by_cases hc0 : cap = 0
      · subst hc0
        have : len = 0 := by omega
        subst this
        exact ⟨.mk k i t [], _, rfl, .nil k i t, .mk k i t [] hts (by simp) (by simp)⟩
      · obtain ⟨q0, hq0, _⟩ := hone2 0 (by omega)
        obtain ⟨b, off, spot⟩ := a
        have hspot : spot = none := by simpa [Addr.add] using World.cell?_spot hq0.1
        subst hspot
        have hbl : b < w.heap.size := by
          have := World.block_lt_of_cell? w _ hq0.1
          simpa [Addr.add] using this
        obtain ⟨l, hll, hl⟩ := list_upto (Dt.leaf 0 0 ⟨#[]⟩, Value.slice none 0 0) len _ (fun j hj => hone2 j (by omega))
        subst hll
        have hget : ∀ j (y : Dt), (l.map (·.1))[j]? = some y → ∃ q : Dt × Value, l[j]? = some q ∧ q.1 = y := fun j y hy => by
          rw [List.getElem?_map] at hy
          simpa using hy
        refine ⟨.mk k i t (l.map (·.1)), _, rfl, ?_, ?_⟩
        · have hlen : l.length = (l.map (·.1)).length := by simp
          rw [hlen]
          refine .row k i t b off cap _ (fun j => (l[j]?.map (·.2)).getD (.slice none 0 0)) trivial hbl (fun j y hy => ?_) (fun j y hy => ?_)
          · obtain ⟨q, hq, rfl⟩ := hget j y hy
            obtain ⟨⟨d0, d1, d2, d3⟩, _, _⟩ := hl j q hq
            rw [Go.WideShapes.add_plain] at d0 d1 d2 d3
            rw [hq]
            exact ⟨d0, by rw [Nat.add_assoc]; exact d1, by rw [Nat.add_assoc]; exact d2, by rw [Nat.add_assoc]; exact d3⟩
          · obtain ⟨q, hq, rfl⟩ := hget j y hy
            rw [hq]
            exact (hl j q hq).2.1
        · refine .mk k i t _ hts ?_ fun j y hy => ?_
          · rw [List.length_map]
            simp only [maxLen] at hmax
            omega
          · obtain ⟨q, hq, rfl⟩ := hget j y hy
            exact (hl j q hq).2.2
end
end Go.Proofs.YtkplkgdfphbldaaGreat
namespace Go.Proofs.YtkplkgdfphbldaaGreat
open Go.ChangeShapes Go.WideShapes Go.Deep Go.RowKit
set_option linter.unusedVariables false
set_option linter.unusedSimpArgs false
inductive Ex.Fit : Ex → Prop
  | mk (k : Int) (n : ByteArray) (l : List ByteArray) (c : Dt) (ks : List Ex) (hn : n.size ≤ maxLen) (hl : ∀ s ∈ l, s.size ≤ maxLen) (hll : l.length ≤ maxLen) (hc : Dt.Fit c) (hkl : ks.length ≤ maxLen) (hk : ∀ x ∈ ks, Ex.Fit x) : Ex.Fit (.mk k n l c ks)
section
variable {H : Type} {enc : TypeId × Value → H} {w : World} {base : Nat} {spare : Nat → Bool} {held : Bool}
theorem trod_strs {fuel : Nat} {v : Value} {x : DataW H × List MemPlace} (h : DataW.trod enc Tryz.prog w base spare held fuel 22 [v] = some x) : ∃ l : List ByteArray, Sl w v (strs l) ∧ (∀ s ∈ l, s.size ≤ maxLen) ∧ l.length ≤ maxLen ∧ RoomOk v := by
  have hC : Tryz.prog.cellsOf 9 = 1 := by kernel_rfl
  rcases open_slice Tryz.underlying22 h with ⟨hcs, _⟩ | ⟨a, n, cap, m, _, D, Pl, hcs, _, hle, hmax, hm, hx, hi⟩
  · simp at hcs
    subst hcs
    exact ⟨[], ⟨none, 0, rfl, .inl ⟨rfl, rfl, rfl⟩⟩, by simp, by simp, ⟨_, _, _, rfl, Nat.le_refl _⟩⟩
  · simp at hcs
    subst hcs
    rw [hC] at hi
    have hml : n ≤ m := by rw [hm]; split <;> omega
    have key : ∀ i, i < n → ∃ s : ByteArray, w.cell? (a.add i) = some (.string s) ∧ s.size ≤ maxLen := by
      intro i hil
      obtain ⟨cs', hc, ht'⟩ := hi i (by omega)
      obtain ⟨_, hcl, hat⟩ := World.cells?_some hc
      obtain ⟨s, g, _, hs⟩ := DataW.trod_string Tryz.underlying9 ht'
      subst g
      have e0 := hat 0 (by omega)
      rw [Go.Deep.add_add, Nat.mul_one, Nat.add_zero] at e0
      exact ⟨s, by simpa using e0, hs⟩
    obtain ⟨l, hll, hl⟩ := list_upto (⟨#[]⟩ : ByteArray) n _ key
    subst hll
    refine ⟨l, ⟨_, cap, by simp [strs], .inr ⟨a, rfl, fun j u hu => ?_⟩⟩, fun s hs => ?_, by omega, ⟨_, _, _, rfl, hle⟩⟩
    · unfold strs at hu
      rw [List.getElem?_map] at hu
      obtain ⟨s, hs, rfl⟩ : ∃ s, l[j]? = some s ∧ Value.string s = u := by simpa using hu
      exact (hl j s hs).1
    · obtain ⟨i, hi2⟩ := List.getElem?_of_mem hs
      exact (hl i s hi2).2
set_option maxRecDepth 100000 in
theorem trod_expr : ∀ (fuel : Nat) (cs : List Value) (x : DataW H × List MemPlace), (∀ b, spare b = true) → DataW.trod enc Tryz.prog w base spare held fuel 28 cs = some x →
    ∃ (e : Ex) (nv dl kv : Value), cs = [.int .i64 e.kind, .string e.name, nv, .int .i64 e.const.kind, .int .i64 e.const.int, .string e.const.text, dl, kv] ∧ ExAt w (exV e.kind e.name nv e.const dl kv) e ∧ Ex.Fit e := by
  intro fuel
  induction fuel using Nat.strongRecOn with
  | ind fuel IH =>
    intro cs x hsp h
    have hu := Tryz.underlying28
    have hC : Tryz.prog.cellsOf 28 = 8 := by kernel_rfl
    have hC0 : Tryz.prog.cellsOf 3 = 1 := by kernel_rfl
    have hC1 : Tryz.prog.cellsOf 9 = 1 := by kernel_rfl
    have hC2 : Tryz.prog.cellsOf 22 = 1 := by kernel_rfl
    have hC3 : Tryz.prog.cellsOf 25 = 4 := by kernel_rfl
    have hC4 : Tryz.prog.cellsOf 26 = 1 := by kernel_rfl
    obtain ⟨xs, n, hfu, hx, hcl, hxl, hf⟩ := DataW.trod_struct hu h
    rw [hC] at hcl
    obtain ⟨u0, u1, u2, u3, u4, u5, u6, u7, rfl⟩ : ∃ a b c d e f g k, cs = [a, b, c, d, e, f, g, k] := by
      rcases cs with _ | ⟨a, _ | ⟨b, _ | ⟨c, _ | ⟨d, _ | ⟨e, _ | ⟨f, _ | ⟨g, _ | ⟨k, _ | ⟨i, cs⟩⟩⟩⟩⟩⟩⟩⟩⟩ <;> simp at hcl
      exact ⟨a, b, c, d, e, f, g, k, rfl⟩
    obtain ⟨y0, y1, y2, y3, y4, rfl⟩ : ∃ a b c d e, xs = [a, b, c, d, e] := by
      rcases xs with _ | ⟨a, _ | ⟨b, _ | ⟨c, _ | ⟨d, _ | ⟨e, _ | ⟨f, xs⟩⟩⟩⟩⟩⟩ <;> simp at hxl
      exact ⟨a, b, c, d, e, rfl⟩
    have t0 : DataW.trod enc Tryz.prog w base spare held n 3 (([u0, u1, u2, u3, u4, u5, u6, u7].drop 0).take (Tryz.prog.cellsOf 3)) = some y0 := hf 0 _ rfl
    have t1 : DataW.trod enc Tryz.prog w base spare held n 9 (([u0, u1, u2, u3, u4, u5, u6, u7].drop 1).take (Tryz.prog.cellsOf 9)) = some y1 := hf 1 _ rfl
    have t2 : DataW.trod enc Tryz.prog w base spare held n 22 (([u0, u1, u2, u3, u4, u5, u6, u7].drop 2).take (Tryz.prog.cellsOf 22)) = some y2 := hf 2 _ rfl
    have t3 : DataW.trod enc Tryz.prog w base spare held n 25 (([u0, u1, u2, u3, u4, u5, u6, u7].drop 3).take (Tryz.prog.cellsOf 25)) = some y3 := hf 3 _ rfl
    have t4 : DataW.trod enc Tryz.prog w base spare held n 26 (([u0, u1, u2, u3, u4, u5, u6, u7].drop 7).take (Tryz.prog.cellsOf 26)) = some y4 := hf 4 _ rfl
    rw [hC0] at t0
    rw [hC1] at t1
    rw [hC2] at t2
    rw [hC3] at t3
    rw [hC4] at t4
    simp only [List.drop_zero, List.drop_succ_cons, List.take_succ_cons, List.take_zero] at t0 t1 t2 t3 t4
    obtain ⟨k, g0, _, _⟩ := DataW.trod_int Tryz.underlying3 t0
    obtain ⟨nm, g1, _, hnm⟩ := DataW.trod_string Tryz.underlying9 t1
    simp at g0 g1
    subst g0 g1
    obtain ⟨l, hsl, hls, hll, hroom⟩ := trod_strs t2
    obtain ⟨c, lv, hd, hdt, hfit⟩ := trod_datum n _ _ hsp t3
    simp at hd
    obtain ⟨rfl, rfl, rfl, rfl⟩ := hd
    have hnl : n < fuel := by omega
    rcases DataW.trod_slice Tryz.underlying26 t4 with ⟨hv, _⟩ | ⟨a, len, cap, elems, rest, n2, hn2, hv, _, _, hle, hmax, hel, hall, hspare, _⟩
    · simp at hv
      subst hv
      exact ⟨.mk k nm l c [], _, _, _, rfl, .nil k nm l c u2 u6 hsl hdt hroom, .mk k nm l c [] hnm hls hll hfit (by simp) (by simp)⟩
    · simp at hv
      subst hv
      have hcell : ∀ j, j < len → ∃ cs', w.cells? base (a.add (j * 8)) 8 = some cs' ∧ ∃ y, DataW.trod enc Tryz.prog w base spare held n2 28 cs' = some y := by
        intro j hjl
        have hy := (hall j hjl).trans (List.getElem?_eq_getElem (by omega))
        rw [hC] at hy
        obtain ⟨cs', hc', ht'⟩ := Option.bind_eq_some_iff.1 hy
        exact ⟨cs', hc', _, ht'⟩
      have hone2 : ∀ j, j < len → ∃ q : Ex × Value × Value × Value, (∀ r, r < 8 → w.cell? (a.add (j * 8 + r)) = [Value.int .i64 q.1.kind, .string q.1.name, q.2.1, .int .i64 q.1.const.kind, .int .i64 q.1.const.int, .string q.1.const.text, q.2.2.1, q.2.2.2][r]?) ∧ ExAt w (exV q.1.kind q.1.name q.2.1 q.1.const q.2.2.1 q.2.2.2) q.1 ∧ Ex.Fit q.1 := by
        intro j hj
        obtain ⟨cs', hc', y, ht'⟩ := hcell j hj
        obtain ⟨e, nv, dl, kv, rfl, he, hfe⟩ := IH n2 (by omega) cs' y hsp ht'
        obtain ⟨_, _, hat⟩ := World.cells?_some hc'
        refine ⟨(e, nv, dl, kv), fun r hr => ?_, he, hfe⟩
        have := hat r hr
        rw [Go.Deep.add_add] at this
        exact this
      by_cases hc0 : len = 0
      · subst hc0
        exact ⟨.mk k nm l c [], _, _, _, rfl, .nil k nm l c u2 u6 hsl hdt hroom, .mk k nm l c [] hnm hls hll hfit (by simp) (by simp)⟩
      · obtain ⟨q0, hq0, _⟩ := hone2 0 (by omega)
        obtain ⟨b, off, spot⟩ := a
        have hq00 := hq0 0 (by omega)
        simp only [List.getElem?_cons_zero] at hq00
        have hspot : spot = none := by simpa [Addr.add] using World.cell?_spot hq00
        subst hspot
        have hbl : b < w.heap.size := by
          have := World.block_lt_of_cell? w _ hq00
          simpa [Addr.add] using this
        obtain ⟨L, hLl, hL⟩ := list_upto ((Ex.zero, undef, undef, undef) : Ex × Value × Value × Value) len _ (fun j hj => hone2 j hj)
        subst hLl
        have hget : ∀ j (y : Ex), (L.map (·.1))[j]? = some y → ∃ q : Ex × Value × Value × Value, L[j]? = some q ∧ q.1 = y := fun j y hy => by
          rw [List.getElem?_map] at hy
          simpa using hy
        refine ⟨.mk k nm l c (L.map (·.1)), u2, u6, _, rfl, ?_, ?_⟩
        · have hlen : L.length = (L.map (·.1)).length := by simp
          rw [hlen]
          refine ExAt.of hsl hdt hroom (by rw [List.length_map]; exact hle) (.inr ⟨b, off, rfl, hbl, fun j y hy => ?_⟩)
          obtain ⟨q, hq, rfl⟩ := hget j y hy
          obtain ⟨d0, d1, _⟩ := hL j q hq
          refine ⟨q.2.1, q.2.2.1, q.2.2.2, ?_, ?_, ?_, ?_, ?_, ?_, ?_, ?_, d1⟩
          all_goals first
            | exact (show _ from by have := d0 0 (by omega); rw [Go.WideShapes.add_plain] at this; exact this)
            | exact (show _ from by have := d0 1 (by omega); rw [Go.WideShapes.add_plain, ← Nat.add_assoc] at this; exact this)
            | exact (show _ from by have := d0 2 (by omega); rw [Go.WideShapes.add_plain, ← Nat.add_assoc] at this; exact this)
            | exact (show _ from by have := d0 3 (by omega); rw [Go.WideShapes.add_plain, ← Nat.add_assoc] at this; exact this)
            | exact (show _ from by have := d0 4 (by omega); rw [Go.WideShapes.add_plain, ← Nat.add_assoc] at this; exact this)
            | exact (show _ from by have := d0 5 (by omega); rw [Go.WideShapes.add_plain, ← Nat.add_assoc] at this; exact this)
            | exact (show _ from by have := d0 6 (by omega); rw [Go.WideShapes.add_plain, ← Nat.add_assoc] at this; exact this)
            | exact (show _ from by have := d0 7 (by omega); rw [Go.WideShapes.add_plain, ← Nat.add_assoc] at this; exact this)
            | fail
        · refine .mk k nm l c _ hnm hls hll hfit ?_ fun y hy => ?_
          · rw [List.length_map]
            omega
          · obtain ⟨i, hi2⟩ := List.getElem?_of_mem hy
            obtain ⟨q, hq, rfl⟩ := hget i y hi2
            exact (hL i q hq).2.2
set_option maxRecDepth 100000 in
theorem open_expr {r : Reach} {b0 : Nat} {v : Value} {d : DataW H} {ps : List MemPlace} (hval : Value.okWide Tryz.prog w r b0 28 v) (h : DataW.Trod enc Tryz.prog w base (fun _ => true) held 28 v d ps) :
    ∃ (e : Ex) (nv dl kv : Value), v = exV e.kind e.name nv e.const dl kv ∧ ExAt w (exV e.kind e.name nv e.const dl kv) e ∧ Ex.Fit e := by
  obtain ⟨cs, rfl, hsz⟩ := okWide_struct Tryz.underlying28 hval
  obtain ⟨fuel, hf⟩ := h
  obtain ⟨e, nv, dl, kv, hcs, h1, h2⟩ := trod_expr fuel _ _ (fun _ => rfl) hf
  have : cs = #[.int .i64 e.kind, .string e.name, nv, .int .i64 e.const.kind, .int .i64 e.const.int, .string e.const.text, dl, kv] := by
    apply Array.toList_inj.1
    exact hcs
  subst this
  exact ⟨e, nv, dl, kv, rfl, h1, h2⟩
end
end Go.Proofs.YtkplkgdfphbldaaGreat
