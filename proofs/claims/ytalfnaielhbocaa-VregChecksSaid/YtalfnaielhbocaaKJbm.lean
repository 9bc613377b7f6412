/- The laws' arguments, opened: codes. -/
import Derived.SizedLaws
import Derived.Test.YtalfnaielhbocaaKJbj
import Derived.Test.YtalfnaielhbocaaKJbl
import Derived.Deep.RegionHeld3
set_option linter.unusedVariables false
set_option linter.unusedSimpArgs false
set_option linter.unnecessarySimpa false
namespace Go.Proofs.Ytalfnaielhbocaa
open Go.ChangeShapes Go.WideShapes Go.Deep Go.RowKit
set_option linter.unusedVariables false
set_option linter.unusedSimpArgs false
namespace Vm
section
variable {H : Type} {enc : TypeId × Value → H} {w : World} {base : Nat} {spare : Nat → Bool} {held : Bool}
def Light (t : TypeId) (d : DataW H) : Prop := (d.weights Try.prog t).all (· ≤ reachBytes) = true
theorem light_field {t : TypeId} {fs : Array Field} {ds : List (DataW H)} (hu : Try.prog.underlying t = some (.struct fs)) (h : Light t (.agg ds)) {j : Nat} {u : TypeId} {d : DataW H} (hj : (fs.toList.map (·.type))[j]? = some u) (hd : ds[j]? = some d) : Light u d := by
  unfold Light at h ⊢
  refine List.all_eq_true.2 fun n hn => List.all_eq_true.1 h n ?_
  rw [DataW.weights, hu]
  exact DataW.weights_mem_each hj hd n hn
theorem light_all {e : TypeId} {L : List (DataW H)} {y : DataW H} (hy : y ∈ L) {q : Nat} (hq : q ∈ y.weights Try.prog e) : q ∈ DataW.weightsAll Try.prog e L := by
  induction L with
  | nil => simp at hy
  | cons z L ih =>
    rw [DataW.weightsAll]
    rcases List.mem_cons.1 hy with rfl | hy
    · exact List.mem_append_left _ hq
    · exact List.mem_append_right _ (ih hy)
theorem light_elem {t e : TypeId} {el sp : List (DataW H)} (hu : Try.prog.underlying t = some (.slice e)) (h : Light t (.slice el sp)) {d : DataW H} (hd : d ∈ el) : Light e d := by
  unfold Light at h ⊢
  refine List.all_eq_true.2 fun n hn => List.all_eq_true.1 h n ?_
  rw [DataW.weights, hu]
  exact List.mem_cons_of_mem _ (List.mem_append_left _ (light_all hd hn))
theorem light_len {t e : TypeId} {el sp : List (DataW H)} (hu : Try.prog.underlying t = some (.slice e)) (h : Light t (.slice el sp)) : (el.length + sp.length) * Try.prog.bytesOf e ≤ 140737488351232 := by
  unfold Light at h
  have := List.all_eq_true.1 h ((el.length + sp.length) * Try.prog.bytesOf e) (by rw [DataW.weights, hu]; exact List.mem_cons_self ..)
  exact of_decide_eq_true this
theorem trod_row {α : Type} (d0 : α) {t e : TypeId} {size B : Nat} {fuel : Nat} {v : Value} {x : DataW H × List MemPlace} {R : α → Nat → Nat → Prop} {F : α → Prop} (ht : Try.prog.underlying t = some (.slice e)) (hC : Try.prog.cellsOf e = size) (hs : 0 < size) (hB : Try.prog.bytesOf e = B)
    (hel : ∀ n cs y, DataW.trod enc Try.prog w base spare held n e cs = some y → Light e y.1 → ∃ a : α, F a ∧ ∀ b off, b < w.heap.size → (∀ i, i < size → w.cell? ⟨b, off + i, none⟩ = cs[i]?) → R a b off)
    (h : DataW.trod enc Try.prog w base spare held fuel t [v] = some x) (hl : Light t x.1) : ∃ l : List α, Row w v size l R ∧ (∀ a ∈ l, F a) ∧ l.length * B ≤ 140737488351232 := by
  rcases open_slice ht h with ⟨hcs, _⟩ | ⟨a', n, cap, m, _, D, Pl, hcs, _, hle, hmax, hm, hx, hi⟩
  · simp at hcs
    subst hcs
    exact ⟨[], ⟨none, 0, rfl, .inl rfl⟩, by simp, by simp⟩
  · simp at hcs
    subst hcs
    rw [hC] at hi
    have hml : n ≤ m := by rw [hm]; split <;> omega
    have hlen := light_len ht (by rw [hx] at hl; exact hl)
    rw [hB] at hlen
    simp only [List.length_map, List.length_range] at hlen
    by_cases hn0 : n = 0
    · subst hn0
      exact ⟨[], ⟨_, cap, rfl, .inl rfl⟩, by simp, by simp⟩
    obtain ⟨b, off, spot⟩ := a'
    have hsp : spot = none ∧ b < w.heap.size := by
      obtain ⟨cs', hc, ht'⟩ := hi 0 (by omega)
      obtain ⟨_, hcl, hat⟩ := World.cells?_some hc
      have e0 := hat 0 (by omega)
      rw [Go.Deep.add_add, List.getElem?_eq_getElem (by omega)] at e0
      have e9 : w.cell? (⟨b, off, spot⟩ : Addr) = some (cs'[0]'(by omega)) := by simpa [Addr.add] using e0
      exact ⟨World.cell?_spot e9, World.block_lt_of_cell? w _ e9⟩
    obtain ⟨rfl, hlt⟩ := hsp
    have key : ∀ i, i < n → ∃ a : α, R a b (off + i * size) ∧ F a := by
      intro i hil
      obtain ⟨cs', hc, ht'⟩ := hi i (by omega)
      obtain ⟨_, hcl, hat⟩ := World.cells?_some hc
      have hLi : Light e (D i) := by
        rw [hx] at hl
        exact light_elem ht hl (List.mem_map.2 ⟨i, List.mem_range.2 hil, rfl⟩)
      obtain ⟨a, hF, hR⟩ := hel _ cs' _ ht' hLi
      refine ⟨a, hR b _ hlt fun j hj => ?_, hF⟩
      have ej := hat j hj
      rw [Go.Deep.add_add, Go.WideShapes.add_plain] at ej
      rw [Nat.add_assoc]
      exact ej
    obtain ⟨l, hll, hl2⟩ := list_upto d0 n _ key
    subst hll
    refine ⟨l, ⟨_, cap, rfl, .inr ⟨b, off, rfl, hlt, fun j y hy => (hl2 j y hy).1⟩⟩, fun o ho => ?_, Nat.le_trans (Nat.mul_le_mul_right B (by omega)) hlen⟩
    obtain ⟨i, hi2⟩ := List.getElem?_of_mem ho
    exact (hl2 i o hi2).2
theorem trod_nums {fuel : Nat} {v : Value} {x : DataW H × List MemPlace} (h : DataW.trod enc Try.prog w base spare held fuel 43 [v] = some x) (hl : Light 43 x.1) :
    ∃ l : List Int, Sl w v (ints l) ∧ l.length ≤ 1000000000000000 := by
  have hshape : v = .slice none 0 0 ∨ ∃ a n c, v = .slice (some a) n c := by
    rcases open_slice Try.underlying43 h with ⟨hcs, _⟩ | ⟨a', n, cap, m, _, D, Pl, hcs, _⟩
    · exact .inl (by simpa using hcs)
    · exact .inr ⟨a', n, cap, by simpa using hcs⟩
  obtain ⟨l, ⟨a, cap, hv, hr⟩, _, hlen⟩ := trod_row (0 : Int) (B := 8) (size := 1) (F := fun _ => True) (R := fun q b o => w.cell? ⟨b, o, none⟩ = some (.int .i64 q)) Try.underlying43 (by kernel_rfl) (by decide) (by kernel_rfl)
    (fun n cs y h _ => by
      obtain ⟨q, g, _, _⟩ := DataW.trod_int Try.underlying3 h
      subst g
      exact ⟨q, trivial, fun b off _ hc => hc 0 (by omega)⟩) h hl
  subst hv
  refine ⟨l, ⟨a, cap, by simp [ints], ?_⟩, by omega⟩
  rcases hr with rfl | ⟨b, off, rfl, hb, hr⟩
  · rcases hshape with h0 | ⟨a', n, c, h0⟩
    · cases h0
      exact .inl ⟨rfl, rfl, rfl⟩
    · cases h0
      exact .inr ⟨a', rfl, fun j u hu => by simp [ints] at hu⟩
  · refine .inr ⟨_, rfl, fun j u hu => ?_⟩
    unfold ints at hu
    rw [List.getElem?_map] at hu
    obtain ⟨q, hq, rfl⟩ : ∃ q, l[j]? = some q ∧ Value.int .i64 q = u := by simpa using hu
    have := hr j q hq
    rw [Nat.mul_one] at this
    rw [Go.WideShapes.add_plain]
    exact this
theorem codeOf_ins : Try.prog.cellsOf 55 = 8 := by kernel_rfl
theorem codeOf_end : Try.prog.cellsOf 45 = 6 := by kernel_rfl
theorem codeOf_blk : Try.prog.cellsOf 48 = 7 := by kernel_rfl
theorem codeOf_prc : Try.prog.cellsOf 40 = 4 := by kernel_rfl
theorem codeOf_dat : Try.prog.cellsOf 31 = 4 := by kernel_rfl
theorem codeOf_int : Try.prog.cellsOf 3 = 1 := by kernel_rfl
theorem codeOf_str : Try.prog.cellsOf 9 = 1 := by kernel_rfl
theorem codeOf_ints : Try.prog.cellsOf 43 = 1 := by kernel_rfl
theorem codeOf_inss : Try.prog.cellsOf 46 = 1 := by kernel_rfl
theorem codeOf_blks : Try.prog.cellsOf 38 = 1 := by kernel_rfl
set_option maxRecDepth 100000 in
theorem trod_ins {fuel : Nat} {cs : List Value} {x : DataW H × List MemPlace} (hsp : ∀ b, spare b = true) (h : DataW.trod enc Try.prog w base spare held fuel 55 cs = some x) (hl : Light 55 x.1) :
    ∃ i : Ins, (i.args.length ≤ 9223372036854775807 ∧ Dt.Fit i.const) ∧ ∀ b off, b < w.heap.size → (∀ j, j < 8 → w.cell? ⟨b, off + j, none⟩ = cs[j]?) → InsC w i b off := by
  have hu := Try.underlying55
  obtain ⟨xs, n, hfu, hx, hcl, hxl, hf⟩ := DataW.trod_struct hu h
  rw [codeOf_ins] at hcl
  obtain ⟨u0, u1, u2, u3, u4, u5, u6, u7, rfl⟩ : ∃ a b c d e f g k, cs = [a, b, c, d, e, f, g, k] := by
    rcases cs with _ | ⟨a, _ | ⟨b, _ | ⟨c, _ | ⟨d, _ | ⟨e, _ | ⟨f, _ | ⟨g, _ | ⟨k, _ | ⟨i, cs⟩⟩⟩⟩⟩⟩⟩⟩⟩ <;> simp at hcl
    exact ⟨a, b, c, d, e, f, g, k, rfl⟩
  obtain ⟨y0, y1, y2, y3, y4, rfl⟩ : ∃ a b c d e, xs = [a, b, c, d, e] := by
    rcases xs with _ | ⟨a, _ | ⟨b, _ | ⟨c, _ | ⟨d, _ | ⟨e, _ | ⟨f, xs⟩⟩⟩⟩⟩⟩ <;> simp at hxl
    exact ⟨a, b, c, d, e, rfl⟩
  have t0 : DataW.trod enc Try.prog w base spare held n 9 (([u0, u1, u2, u3, u4, u5, u6, u7].drop 0).take (Try.prog.cellsOf 9)) = some y0 := hf 0 _ rfl
  have t1 : DataW.trod enc Try.prog w base spare held n 3 (([u0, u1, u2, u3, u4, u5, u6, u7].drop 1).take (Try.prog.cellsOf 3)) = some y1 := hf 1 _ rfl
  have t2 : DataW.trod enc Try.prog w base spare held n 43 (([u0, u1, u2, u3, u4, u5, u6, u7].drop 2).take (Try.prog.cellsOf 43)) = some y2 := hf 2 _ rfl
  have t3 : DataW.trod enc Try.prog w base spare held n 31 (([u0, u1, u2, u3, u4, u5, u6, u7].drop 3).take (Try.prog.cellsOf 31)) = some y3 := hf 3 _ rfl
  have t4 : DataW.trod enc Try.prog w base spare held n 3 (([u0, u1, u2, u3, u4, u5, u6, u7].drop 7).take (Try.prog.cellsOf 3)) = some y4 := hf 4 _ rfl
  rw [codeOf_str] at t0
  rw [codeOf_int] at t1 t4
  rw [codeOf_ints] at t2
  rw [codeOf_dat] at t3
  simp only [List.drop_zero, List.drop_succ_cons, List.take_succ_cons, List.take_zero, List.getElem?_cons_zero, List.getElem?_cons_succ] at t0 t1 t2 t3 t4
  obtain ⟨op, g0, _, _⟩ := DataW.trod_string Try.underlying9 t0
  obtain ⟨xt, g1, _, _⟩ := DataW.trod_int Try.underlying3 t1
  obtain ⟨num, g4, _, _⟩ := DataW.trod_int Try.underlying3 t4
  simp at g0 g1 g4
  subst g0 g1 g4
  have hl2 : Light 43 y2.1 := light_field hu (by rw [hx] at hl; exact hl) (j := 2) rfl rfl
  obtain ⟨args, hargs, halen⟩ := trod_nums t2 hl2
  obtain ⟨d, lv, hd, hdt, hfit⟩ := trod_datum n _ _ hsp t3
  simp at hd
  obtain ⟨rfl, rfl, rfl, rfl⟩ := hd
  refine ⟨⟨op, xt, args, d, num⟩, ⟨by show args.length ≤ _; omega, hfit⟩, fun b off hb hc => ?_⟩
  have c0 := hc 0 (by omega)
  have c1 := hc 1 (by omega)
  have c2 := hc 2 (by omega)
  have c3 := hc 3 (by omega)
  have c4 := hc 4 (by omega)
  have c5 := hc 5 (by omega)
  have c6 := hc 6 (by omega)
  have c7 := hc 7 (by omega)
  simp only [List.getElem?_cons_zero, List.getElem?_cons_succ, Nat.add_zero] at c0 c1 c2 c3 c4 c5 c6 c7
  exact ⟨c0, c1, ⟨_, c2, hargs⟩, c3, c4, c5, ⟨_, c6, hdt⟩, c7⟩
set_option maxRecDepth 100000 in
theorem trod_blk {fuel : Nat} {cs : List Value} {x : DataW H × List MemPlace} (hsp : ∀ b, spare b = true) (h : DataW.trod enc Try.prog w base spare held fuel 48 cs = some x) (hl : Light 48 x.1) :
    ∃ k : Blk, BlkFit k ∧ ∀ b off, b < w.heap.size → (∀ j, j < 7 → w.cell? ⟨b, off + j, none⟩ = cs[j]?) → BlkC w k b off := by
  have hu := Try.underlying48
  obtain ⟨xs, n, hfu, hx, hcl, hxl, hf⟩ := DataW.trod_struct hu h
  rw [codeOf_blk] at hcl
  obtain ⟨u0, u1, u2, u3, u4, u5, u6, rfl⟩ : ∃ a b c d e f g, cs = [a, b, c, d, e, f, g] := by
    rcases cs with _ | ⟨a, _ | ⟨b, _ | ⟨c, _ | ⟨d, _ | ⟨e, _ | ⟨f, _ | ⟨g, _ | ⟨h, cs⟩⟩⟩⟩⟩⟩⟩⟩ <;> simp at hcl
    exact ⟨a, b, c, d, e, f, g, rfl⟩
  obtain ⟨y0, y1, rfl⟩ : ∃ a b, xs = [a, b] := by
    rcases xs with _ | ⟨a, _ | ⟨b, _ | ⟨c, xs⟩⟩⟩ <;> simp at hxl
    exact ⟨a, b, rfl⟩
  have t0 : DataW.trod enc Try.prog w base spare held n 46 (([u0, u1, u2, u3, u4, u5, u6].drop 0).take (Try.prog.cellsOf 46)) = some y0 := hf 0 _ rfl
  have t1 : DataW.trod enc Try.prog w base spare held n 45 (([u0, u1, u2, u3, u4, u5, u6].drop 1).take (Try.prog.cellsOf 45)) = some y1 := hf 1 _ rfl
  rw [codeOf_inss] at t0
  rw [codeOf_end] at t1
  simp only [List.drop_zero, List.drop_succ_cons, List.take_succ_cons, List.take_zero, List.getElem?_cons_zero, List.getElem?_cons_succ] at t0 t1
  rw [hx] at hl
  have hl0 : Light 46 y0.1 := light_field hu hl (j := 0) rfl rfl
  have hl1 : Light 45 y1.1 := light_field hu hl (j := 1) rfl rfl
  obtain ⟨ins, hins, hfit, hlen⟩ := trod_row (⟨⟨#[]⟩, 0, [], Dt.leaf 0 0 ⟨#[]⟩, 0⟩ : Ins) (B := 112) Try.underlying46 codeOf_ins (by decide) (by kernel_rfl) (fun n cs y h hl => trod_ins hsp h hl) t0 hl0
  have hu1 := Try.underlying45
  obtain ⟨zs, n1, hfu1, hz, hcl1, hzl, hf1⟩ := DataW.trod_struct hu1 t1
  obtain ⟨z0, z1, z2, z3, z4, z5, rfl⟩ : ∃ a b c d e f, zs = [a, b, c, d, e, f] := by
    rcases zs with _ | ⟨a, _ | ⟨b, _ | ⟨c, _ | ⟨d, _ | ⟨e, _ | ⟨f, _ | ⟨g, xs⟩⟩⟩⟩⟩⟩⟩ <;> simp at hzl
    exact ⟨a, b, c, d, e, f, rfl⟩
  have s0 : DataW.trod enc Try.prog w base spare held n1 3 (([u1, u2, u3, u4, u5, u6].drop 0).take (Try.prog.cellsOf 3)) = some z0 := hf1 0 _ rfl
  have s1 : DataW.trod enc Try.prog w base spare held n1 3 (([u1, u2, u3, u4, u5, u6].drop 1).take (Try.prog.cellsOf 3)) = some z1 := hf1 1 _ rfl
  have s2 : DataW.trod enc Try.prog w base spare held n1 43 (([u1, u2, u3, u4, u5, u6].drop 2).take (Try.prog.cellsOf 43)) = some z2 := hf1 2 _ rfl
  have s3 : DataW.trod enc Try.prog w base spare held n1 3 (([u1, u2, u3, u4, u5, u6].drop 3).take (Try.prog.cellsOf 3)) = some z3 := hf1 3 _ rfl
  have s4 : DataW.trod enc Try.prog w base spare held n1 3 (([u1, u2, u3, u4, u5, u6].drop 4).take (Try.prog.cellsOf 3)) = some z4 := hf1 4 _ rfl
  have s5 : DataW.trod enc Try.prog w base spare held n1 3 (([u1, u2, u3, u4, u5, u6].drop 5).take (Try.prog.cellsOf 3)) = some z5 := hf1 5 _ rfl
  rw [codeOf_int] at s0 s1 s3 s4 s5
  rw [codeOf_ints] at s2
  simp only [List.drop_zero, List.drop_succ_cons, List.take_succ_cons, List.take_zero, List.getElem?_cons_zero, List.getElem?_cons_succ] at s0 s1 s2 s3 s4 s5
  obtain ⟨kind, g0, _, _⟩ := DataW.trod_int Try.underlying3 s0
  obtain ⟨reg, g1, _, _⟩ := DataW.trod_int Try.underlying3 s1
  obtain ⟨xt, g3, _, _⟩ := DataW.trod_int Try.underlying3 s3
  obtain ⟨next, g4, _, _⟩ := DataW.trod_int Try.underlying3 s4
  obtain ⟨els, g5, _, _⟩ := DataW.trod_int Try.underlying3 s5
  simp at g0 g1 g3 g4 g5
  subst g0 g1 g3 g4 g5
  rw [hz] at hl1
  have hl2 : Light 43 z2.1 := light_field hu1 hl1 (j := 2) rfl rfl
  obtain ⟨args, hargs, halen⟩ := trod_nums s2 hl2
  refine ⟨⟨ins, ⟨kind, reg, args, xt, next, els⟩⟩, ⟨by show ins.length ≤ _; omega, by show args.length ≤ _; omega, hfit⟩, fun b off hb hc => ?_⟩
  have c0 := hc 0 (by omega)
  have c1 := hc 1 (by omega)
  have c2 := hc 2 (by omega)
  have c3 := hc 3 (by omega)
  have c4 := hc 4 (by omega)
  have c5 := hc 5 (by omega)
  have c6 := hc 6 (by omega)
  simp only [List.getElem?_cons_zero, List.getElem?_cons_succ, Nat.add_zero] at c0 c1 c2 c3 c4 c5 c6
  exact ⟨⟨_, c0, hins⟩, c1, c2, ⟨_, c3, hargs⟩, c4, c5, c6⟩
set_option maxRecDepth 100000 in
theorem trod_prc {fuel : Nat} {cs : List Value} {x : DataW H × List MemPlace} (hsp : ∀ b, spare b = true) (h : DataW.trod enc Try.prog w base spare held fuel 40 cs = some x) (hl : Light 40 x.1) :
    ∃ p : Prc, PrcFit p ∧ ∀ b off, b < w.heap.size → (∀ j, j < 4 → w.cell? ⟨b, off + j, none⟩ = cs[j]?) → PrcC w p b off := by
  have hu := Try.underlying40
  obtain ⟨xs, n, hfu, hx, hcl, hxl, hf⟩ := DataW.trod_struct hu h
  rw [codeOf_prc] at hcl
  obtain ⟨u0, u1, u2, u3, rfl⟩ : ∃ a b c d, cs = [a, b, c, d] := by
    rcases cs with _ | ⟨a, _ | ⟨b, _ | ⟨c, _ | ⟨d, _ | ⟨e, cs⟩⟩⟩⟩⟩ <;> simp at hcl
    exact ⟨a, b, c, d, rfl⟩
  obtain ⟨y0, y1, y2, y3, rfl⟩ : ∃ a b c d, xs = [a, b, c, d] := by
    rcases xs with _ | ⟨a, _ | ⟨b, _ | ⟨c, _ | ⟨d, _ | ⟨e, xs⟩⟩⟩⟩⟩ <;> simp at hxl
    exact ⟨a, b, c, d, rfl⟩
  have t0 : DataW.trod enc Try.prog w base spare held n 3 (([u0, u1, u2, u3].drop 0).take (Try.prog.cellsOf 3)) = some y0 := hf 0 _ rfl
  have t1 : DataW.trod enc Try.prog w base spare held n 3 (([u0, u1, u2, u3].drop 1).take (Try.prog.cellsOf 3)) = some y1 := hf 1 _ rfl
  have t2 : DataW.trod enc Try.prog w base spare held n 3 (([u0, u1, u2, u3].drop 2).take (Try.prog.cellsOf 3)) = some y2 := hf 2 _ rfl
  have t3 : DataW.trod enc Try.prog w base spare held n 38 (([u0, u1, u2, u3].drop 3).take (Try.prog.cellsOf 38)) = some y3 := hf 3 _ rfl
  rw [codeOf_int] at t0 t1 t2
  rw [codeOf_blks] at t3
  simp only [List.drop_zero, List.drop_succ_cons, List.take_succ_cons, List.take_zero, List.getElem?_cons_zero, List.getElem?_cons_succ] at t0 t1 t2 t3
  obtain ⟨params, g0, _, _⟩ := DataW.trod_int Try.underlying3 t0
  obtain ⟨holds, g1, _, _⟩ := DataW.trod_int Try.underlying3 t1
  obtain ⟨regs, g2, _, _⟩ := DataW.trod_int Try.underlying3 t2
  simp at g0 g1 g2
  subst g0 g1 g2
  rw [hx] at hl
  have hl3 : Light 38 y3.1 := light_field hu hl (j := 3) rfl rfl
  obtain ⟨bs, hbs, hfit, hlen⟩ := trod_row (⟨[], ⟨0, 0, [], 0, 0, 0⟩⟩ : Blk) (B := 88) Try.underlying38 codeOf_blk (by decide) (by kernel_rfl) (fun n cs y h hl => trod_blk hsp h hl) t3 hl3
  refine ⟨⟨params, holds, regs, bs⟩, ⟨by show bs.length ≤ _; omega, hfit⟩, fun b off hb hc => ?_⟩
  have c0 := hc 0 (by omega)
  have c1 := hc 1 (by omega)
  have c2 := hc 2 (by omega)
  have c3 := hc 3 (by omega)
  simp only [List.getElem?_cons_zero, List.getElem?_cons_succ, Nat.add_zero] at c0 c1 c2 c3
  exact ⟨c0, c1, c2, ⟨_, c3, hbs⟩⟩
set_option maxRecDepth 100000 in
theorem open_code {r : Reach} {b0 : Nat} {v : Value} {d : DataW H} {ps : List MemPlace} (hval : Value.okWide Try.prog w r b0 24 v) (h : DataW.Trod enc Try.prog w base (fun _ => true) held 24 v d ps) :
    ∃ (a : Option Addr) (n cap : Nat), v = .agg #[.slice a n cap] ∧ (Light 24 d → ∃ c : Code, c.length = n ∧ CodeAt w (.slice a c.length cap) c ∧ c.length ≤ 1000000000000000 ∧ ∀ p ∈ c, PrcFit p) := by
  have hu := Try.underlying24
  obtain ⟨cs, rfl, hsz⟩ := okWide_struct hu hval
  obtain ⟨fuel, hf⟩ := h
  obtain ⟨xs, n, hfu, hx, hcl, hxl, hf1⟩ := DataW.trod_struct hu hf
  have hC : Try.prog.cellsOf 24 = 1 := by kernel_rfl
  have hC2 : Try.prog.cellsOf 22 = 1 := by kernel_rfl
  rw [hC] at hcl
  obtain ⟨u0, hcs⟩ : ∃ a, cs.toList = [a] := by
    have hcl2 : cs.toList.length = 1 := hcl
    rcases hL : cs.toList with _ | ⟨a, _ | ⟨b, l⟩⟩ <;> rw [hL] at hcl2 <;> simp at hcl2
    exact ⟨a, rfl⟩
  have hcs2 : cs = #[u0] := Array.toList_inj.1 hcs
  subst hcs2
  obtain ⟨y0, rfl⟩ : ∃ a, xs = [a] := by
    rcases xs with _ | ⟨a, _ | ⟨b, l⟩⟩ <;> simp at hxl
    exact ⟨a, rfl⟩
  have t0 : DataW.trod enc Try.prog w base (fun _ => true) held n 22 (([u0].drop 0).take (Try.prog.cellsOf 22)) = some y0 := hf1 0 _ rfl
  rw [hC2] at t0
  have t0' : DataW.trod enc Try.prog w base (fun _ => true) held n 22 [u0] = some y0 := t0
  have hshape : ∃ a n c, u0 = .slice a n c := by
    rcases open_slice Try.underlying22 t0' with ⟨hcs, _⟩ | ⟨a', n, cap, m, _, D, Pl, hcs, _⟩
    · exact ⟨_, _, _, by simpa using hcs⟩
    · exact ⟨_, _, _, by simpa using hcs⟩
  obtain ⟨a, m, cap, rfl⟩ := hshape
  refine ⟨a, m, cap, rfl, fun hl => ?_⟩
  have hd : d = .agg [y0.1] := (Prod.mk.inj hx).1
  rw [hd] at hl
  have hl0 : Light 22 y0.1 := light_field hu hl (j := 0) rfl rfl
  obtain ⟨c, hc, hfit, hlen⟩ := trod_row (⟨0, 0, 0, []⟩ : Prc) (B := 48) Try.underlying22 codeOf_prc (by decide) (by kernel_rfl) (fun n cs y h hl => trod_prc (fun _ => rfl) h hl) t0' hl0
  obtain ⟨a', cap', e, hr⟩ := hc
  cases e
  exact ⟨c, rfl, ⟨_, _, rfl, hr⟩, by omega, hfit⟩
end
end Vm
end Go.Proofs.Ytalfnaielhbocaa
namespace Go.Proofs.Ytalfnaielhbocaa
open Go.ChangeShapes Go.WideShapes Go.RowKit
set_option linter.unusedVariables false
set_option linter.unusedSimpArgs false
theorem reach_of {H : Type} {P : Program} {ts : List TypeId} {ds : List (DataW H)} (hs : (DataW.weightsEach P ts ds).all (· ≤ reachBytes) = true) {j : Nat} {t : TypeId} {d : DataW H} (ht : ts[j]? = some t) (hd : ds[j]? = some d) : (d.weights P t).all (· ≤ reachBytes) = true :=
  List.all_eq_true.2 fun n hn => List.all_eq_true.1 hs n (DataW.weights_mem_each ht hd n hn)
end Go.Proofs.Ytalfnaielhbocaa
namespace Go.Proofs.Ytalfnaielhbocaa
open Go.RowKit
set_option linter.unusedVariables false
set_option linter.unusedSimpArgs false
set_option maxRecDepth 100000
namespace Vm
set_option maxHeartbeats 8000000 in
theorem checks_walk (al : Option Addr) (n cl : Nat) (W : World) (h : ∃ c : Code, c.length = n ∧ CodeAt W (.slice al c.length cl) c ∧ c.length ≤ 1000000000000000 ∧ ∀ p ∈ c, PrcFit p) :
    Calls Try.prog 3 #[.agg #[.slice al n cl]] W fun e w' => e = .returned (.bool true) ∧ Below W.heap.size W w' := by
  obtain ⟨c, rfl, h1, h2, h3⟩ := h
  have HC1 : Hid (∀ w1 : World, Below W.heap.size W w1 → Calls Try.prog 9 #[.agg #[.slice al c.length cl]] w1 fun e w' => e = .returned (.int .i64 (chk c)) ∧ Below w1.heap.size w1 w') := fun w1 hb => Check_any al cl (h1.bel hb) h2 h3
  have HC2 : Hid (∀ w1 : World, Below W.heap.size W w1 → Calls Try.prog 10 #[.agg #[.slice al c.length cl]] w1 fun e w' => e = .returned (.int .i64 (chk c)) ∧ Below w1.heap.size w1 w') := fun w1 hb => rCheck_any al cl (h1.bel hb) h2 h3
  have HFX : Hid (∀ w1 : World, Calls Try.prog 8 #[] w1 fun e w' => e = .returned (.bool true) ∧ Below w1.heap.size w1 w') := fixed_any
  clear h1 h2 h3
  obtain ⟨w1, B1⟩ := boxed W #[.slice al c.length cl] 24
  have c0 := cell_of_row w1 W.heap.size 0 _ _ _ B1.blk
  simp only [List.getElem?_toArray, List.getElem?_cons_zero] at c0
  have HE1 := Lib.hid B1
  have hl1 : W.heap.size < w1.heap.size := by have := B1.size; omega
  have HB1 : Hid (Below W.heap.size W w1.drew) := B1.below.drew
  have HS1 : Hid (w1.cell? ⟨W.heap.size, 0, none⟩ = some (.slice al c.length cl)) := c0
  obtain ⟨k, hk⟩ : ∃ k, k = chk c := ⟨_, rfl⟩
  rw [← hk] at HC1 HC2
  have hkk : (k == k) = true := beq_self_eq_true k
  clear B1 c0 hk
  go_enter Try.func3, Try.ntmps3
  go_wp2_with fail
  rw [← HE1.out.eq]
  go_region_held3 (fun w' => w'.cell? ⟨W.heap.size, 0, none⟩ = some (.slice al c.length cl))
    (first | exact HS1.out | exact HSA.out | exact HSB.out | exact HSC.out)
    (first
      | (go_at_call 8; (with_reducible refine (HFX.out _).mono ?_); rintro e wa ⟨rfl, hb⟩; have HBA : Hid (Below W.heap.size W wa) := HB1.out.trans (hb.mono HB1.out.size); have HSA : Hid (wa.cell? ⟨W.heap.size, 0, none⟩ = some (.slice al c.length cl)) := (cell_bel hb hl1).trans HS1.out; have HBAl : W.heap.size < wa.heap.size := Nat.lt_of_lt_of_le hl1 hb.size; clear hb)
      | (go_at_call 9; (with_reducible refine (HC1.out wa HBA.out).mono ?_); rintro e wb ⟨rfl, hb⟩; have HBB : Hid (Below W.heap.size W wb) := HBA.out.trans (hb.mono HBA.out.size); have HSB : Hid (wb.cell? ⟨W.heap.size, 0, none⟩ = some (.slice al c.length cl)) := (cell_bel hb HBAl).trans HSA.out; have HBBl : W.heap.size < wb.heap.size := Nat.lt_of_lt_of_le HBAl hb.size; clear hb)
      | (go_at_call 10; (with_reducible refine (HC2.out wa HBA.out).mono ?_); rintro e wb ⟨rfl, hb⟩; have HBB : Hid (Below W.heap.size W wb) := HBA.out.trans (hb.mono HBA.out.size); have HSB : Hid (wb.cell? ⟨W.heap.size, 0, none⟩ = some (.slice al c.length cl)) := (cell_bel hb HBAl).trans HSA.out; have HBBl : W.heap.size < wb.heap.size := Nat.lt_of_lt_of_le HBAl hb.size; clear hb)
      | (go_at_call 9; (with_reducible refine (HC1.out wb HBB.out).mono ?_); rintro e wc ⟨rfl, hb⟩; have HBC : Hid (Below W.heap.size W wc) := HBB.out.trans (hb.mono HBB.out.size); have HSC : Hid (wc.cell? ⟨W.heap.size, 0, none⟩ = some (.slice al c.length cl)) := (cell_bel hb HBBl).trans HSB.out; have HBCl : W.heap.size < wc.heap.size := Nat.lt_of_lt_of_le HBBl hb.size; clear hb)
      | (go_at_call 10; (with_reducible refine (HC2.out wb HBB.out).mono ?_); rintro e wc ⟨rfl, hb⟩; have HBC : Hid (Below W.heap.size W wc) := HBB.out.trans (hb.mono HBB.out.size); have HSC : Hid (wc.cell? ⟨W.heap.size, 0, none⟩ = some (.slice al c.length cl)) := (cell_bel hb HBBl).trans HSB.out; have HBCl : W.heap.size < wc.heap.size := Nat.lt_of_lt_of_le HBBl hb.size; clear hb))
  all_goals
    go_wp2_with fail
    go_ret
    exact ⟨by first | rfl | simp, HBC.out⟩
end Vm
end Go.Proofs.Ytalfnaielhbocaa
