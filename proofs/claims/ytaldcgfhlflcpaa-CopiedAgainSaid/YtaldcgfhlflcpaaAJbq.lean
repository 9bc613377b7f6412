/- The laws' argument, opened: a world. -/
import Derived.OpenShut
import Derived.Deep.Slices
import Derived.WideShapes
import Derived.SizedLaws
import Derived.Test.YtaldcgfhlflcpaaAJbn
import Derived.Test.YtaldcgfhlflcpaaAJbp
set_option linter.unusedVariables false
set_option linter.unusedSimpArgs false
set_option linter.unnecessarySimpa false
namespace Go.Proofs.Ytaldcgfhlflcpaa
open Go.ChangeShapes Go.WideShapes Go.Deep Go.RowKit
set_option linter.unusedVariables false
set_option linter.unusedSimpArgs false
namespace Gc
theorem list_up {α : Type} (n : Nat) (q : Nat → α → Prop) (h : ∀ i, i < n → ∃ m, q i m) : ∃ l : List α, l.length = n ∧ ∀ (i : Nat) (x : α), l[i]? = some x → q i x := by
  induction n with
  | zero => exact ⟨[], rfl, fun i x hx => by simp at hx⟩
  | succ n ih =>
    obtain ⟨l, hl, hq⟩ := ih (fun i hi => h i (by omega))
    obtain ⟨m, hm⟩ := h n (by omega)
    refine ⟨l ++ [m], by simp [hl], fun i x hx => ?_⟩
    by_cases hin : i < n
    · rw [List.getElem?_append_left (by omega)] at hx
      exact hq i x hx
    · have hi : i < (l ++ [m]).length := (List.getElem?_eq_some_iff.1 hx).1
      have : i = n := by simp [hl] at hi; omega
      subst this
      rw [List.getElem?_append_right (by omega), hl] at hx
      simp at hx
      rw [← hx]
      exact hm
section
variable {H : Type} {enc : TypeId × Value → H} {w : World} {base : Nat} {spare : Nat → Bool} {held : Bool}
def Light (t : TypeId) (d : DataW H) : Prop := (d.weights Try.prog t).all (· ≤ reachBytes) = true
theorem light_field {t : TypeId} {fs : Array Field} {ds : List (DataW H)} (hu : Try.prog.underlying t = some (.struct fs)) (h : Light t (.agg ds)) {j : Nat} {u : TypeId} {d : DataW H} (hj : (fs.toList.map (·.type))[j]? = some u) (hd : ds[j]? = some d) : Light u d := by
  unfold Light at h ⊢
  refine List.all_eq_true.2 fun n hn => List.all_eq_true.1 h n ?_
  rw [DataW.weights, hu]
  exact DataW.weights_mem_each hj hd n hn
theorem light_all {e : TypeId} {L : List (DataW H)} {y : DataW H} (hy : y ∈ L) {q : Nat} (hq : q ∈ y.weights Try.prog e) : q ∈ DataW.weightsAll Try.prog e L := by
  induction L with
  | nil => simp at hy
  | cons z L ih =>
    rw [DataW.weightsAll]
    rcases List.mem_cons.1 hy with rfl | hy
    · exact List.mem_append_left _ hq
    · exact List.mem_append_right _ (ih hy)
theorem light_elem {t e : TypeId} {el sp : List (DataW H)} (hu : Try.prog.underlying t = some (.slice e)) (h : Light t (.slice el sp)) {d : DataW H} (hd : d ∈ el) : Light e d := by
  unfold Light at h ⊢
  refine List.all_eq_true.2 fun n hn => List.all_eq_true.1 h n ?_
  rw [DataW.weights, hu]
  exact List.mem_cons_of_mem _ (List.mem_append_left _ (light_all hd hn))
theorem light_len {t e : TypeId} {el sp : List (DataW H)} (hu : Try.prog.underlying t = some (.slice e)) (h : Light t (.slice el sp)) : (el.length + sp.length) * Try.prog.bytesOf e ≤ 140737488351232 := by
  unfold Light at h
  have := List.all_eq_true.1 h ((el.length + sp.length) * Try.prog.bytesOf e) (by rw [DataW.weights, hu]; exact List.mem_cons_self ..)
  exact of_decide_eq_true this
theorem trod_row {α : Type} {t e : TypeId} {fuel : Nat} {v : Value} {x : DataW H × List MemPlace} {R : α → Nat → Nat → Prop} (ht : Try.prog.underlying t = some (.slice e)) (hC : Try.prog.cellsOf e = 2) {B : Nat} (hB : Try.prog.bytesOf e = B)
    (hel : ∀ n cs y, DataW.trod enc Try.prog w base spare held n e cs = some y → Light e y.1 → ∃ a : α, ∀ b off, b < w.heap.size → (∀ i, i < 2 → w.cell? ⟨b, off + i, none⟩ = cs[i]?) → R a b off)
    (h : DataW.trod enc Try.prog w base spare held fuel t [v] = some x) (hl : Light t x.1) : ∃ l : List α, (∃ a cap, v = .slice a l.length cap ∧ (l = [] ∨ ∃ b off, a = some ⟨b, off, none⟩ ∧ b < w.heap.size ∧ ∀ j y, l[j]? = some y → R y b (off + j * 2))) ∧ l.length * B ≤ 140737488351232 := by
  rcases open_slice ht h with ⟨hcs, _⟩ | ⟨a', n, cap, m, _, D, Pl, hcs, _, hle, hmax, hm, hx, hi⟩
  · simp at hcs
    subst hcs
    exact ⟨[], ⟨none, 0, rfl, .inl rfl⟩, by simp⟩
  · simp at hcs
    subst hcs
    rw [hC] at hi
    have hml : n ≤ m := by rw [hm]; split <;> omega
    have hlen := light_len ht (by rw [hx] at hl; exact hl)
    rw [hB] at hlen
    simp only [List.length_map, List.length_range] at hlen
    by_cases hn0 : n = 0
    · subst hn0
      exact ⟨[], ⟨_, cap, rfl, .inl rfl⟩, by simp⟩
    obtain ⟨b, off, spot⟩ := a'
    have hsp : spot = none ∧ b < w.heap.size := by
      obtain ⟨cs', hc, ht'⟩ := hi 0 (by omega)
      obtain ⟨_, hcl, hat⟩ := World.cells?_some hc
      have e0 := hat 0 (by omega)
      rw [Go.Deep.add_add, List.getElem?_eq_getElem (by omega)] at e0
      have e9 : w.cell? (⟨b, off, spot⟩ : Addr) = some (cs'[0]'(by omega)) := by simpa [Addr.add] using e0
      exact ⟨World.cell?_spot e9, World.block_lt_of_cell? w _ e9⟩
    obtain ⟨rfl, hlt⟩ := hsp
    have key : ∀ i, i < n → ∃ a : α, R a b (off + i * 2) := by
      intro i hil
      obtain ⟨cs', hc, ht'⟩ := hi i (by omega)
      obtain ⟨_, hcl, hat⟩ := World.cells?_some hc
      have hLi : Light e (D i) := by
        rw [hx] at hl
        exact light_elem ht hl (List.mem_map.2 ⟨i, List.mem_range.2 hil, rfl⟩)
      obtain ⟨a, hR⟩ := hel _ cs' _ ht' hLi
      refine ⟨a, hR b _ hlt fun j hj => ?_⟩
      have ej := hat j hj
      rw [Go.Deep.add_add, Go.WideShapes.add_plain] at ej
      rw [Nat.add_assoc]
      exact ej
    obtain ⟨l, hll, hl2⟩ := list_up n _ key
    subst hll
    exact ⟨l, ⟨_, cap, rfl, .inr ⟨b, off, rfl, hlt, fun j y hy => hl2 j y hy⟩⟩, Nat.le_trans (Nat.mul_le_mul_right B (by omega)) hlen⟩
theorem cellsWord : Try.prog.cellsOf 24 = 2 := by kernel_rfl
theorem cellsThing : Try.prog.cellsOf 46 = 2 := by kernel_rfl
theorem cellsInt : Try.prog.cellsOf 3 = 1 := by kernel_rfl
theorem cellsBool : Try.prog.cellsOf 4 = 1 := by kernel_rfl
theorem cellsWords : Try.prog.cellsOf 26 = 1 := by kernel_rfl
theorem cellsThings : Try.prog.cellsOf 22 = 1 := by kernel_rfl
theorem cellsRoots : Try.prog.cellsOf 25 = 54 := by kernel_rfl
theorem cellsWorld : Try.prog.cellsOf 28 = 59 := by kernel_rfl
theorem trod_word {fuel : Nat} {cs : List Value} {x : DataW H × List MemPlace} (h : DataW.trod enc Try.prog w base spare held fuel 24 cs = some x) : ∃ p : Int × Int, cs = [.int .i64 p.1, .int .i64 p.2] := by
  have hu := Try.underlying24
  obtain ⟨xs, n, hfu, hx, hcl, hxl, hf⟩ := DataW.trod_struct hu h
  rw [cellsWord] at hcl
  obtain ⟨u0, u1, rfl⟩ : ∃ a b, cs = [a, b] := by
    rcases cs with _ | ⟨a, _ | ⟨b, _ | ⟨c, cs⟩⟩⟩ <;> simp at hcl
    exact ⟨a, b, rfl⟩
  obtain ⟨y0, y1, rfl⟩ : ∃ a b, xs = [a, b] := by
    rcases xs with _ | ⟨a, _ | ⟨b, _ | ⟨c, xs⟩⟩⟩ <;> simp at hxl
    exact ⟨a, b, rfl⟩
  have t0 : DataW.trod enc Try.prog w base spare held n 3 (([u0, u1].drop 0).take (Try.prog.cellsOf 3)) = some y0 := hf 0 _ rfl
  have t1 : DataW.trod enc Try.prog w base spare held n 3 (([u0, u1].drop 1).take (Try.prog.cellsOf 3)) = some y1 := hf 1 _ rfl
  rw [cellsInt] at t0 t1
  obtain ⟨p, g0, _⟩ := DataW.trod_int Try.underlying3 t0
  obtain ⟨q, g1, _⟩ := DataW.trod_int Try.underlying3 t1
  simp at g0 g1
  subst g0 g1
  exact ⟨(p, q), rfl⟩
theorem trod_words {fuel : Nat} {v : Value} {x : DataW H × List MemPlace} (h : DataW.trod enc Try.prog w base spare held fuel 26 [v] = some x) (hl : Light 26 x.1) : ∃ l : List (Int × Int), WoAt w v l := by
  obtain ⟨l, ⟨a, cap, e, hr⟩, hlen⟩ := trod_row (B := 16) (R := fun (p : Int × Int) b o => w.cell? ⟨b, o, none⟩ = some (.int .i64 p.1) ∧ w.cell? ⟨b, o + 1, none⟩ = some (.int .i64 p.2)) Try.underlying26 cellsWord (by kernel_rfl)
    (fun n cs y h _ => by
      obtain ⟨p, rfl⟩ := trod_word h
      exact ⟨p, fun b off _ hc => ⟨hc 0 (by omega), hc 1 (by omega)⟩⟩) h hl
  exact ⟨l, a, cap, e, by omega, hr⟩
theorem trod_thing {fuel : Nat} {cs : List Value} {x : DataW H × List MemPlace} (h : DataW.trod enc Try.prog w base spare held fuel 46 cs = some x) (hl : Light 46 x.1) : ∃ t : Int × List (Int × Int), ∃ v, cs = [.int .i64 t.1, v] ∧ WoAt w v t.2 := by
  have hu := Try.underlying46
  obtain ⟨xs, n, hfu, hx, hcl, hxl, hf⟩ := DataW.trod_struct hu h
  rw [cellsThing] at hcl
  obtain ⟨u0, u1, rfl⟩ : ∃ a b, cs = [a, b] := by
    rcases cs with _ | ⟨a, _ | ⟨b, _ | ⟨c, cs⟩⟩⟩ <;> simp at hcl
    exact ⟨a, b, rfl⟩
  obtain ⟨y0, y1, rfl⟩ : ∃ a b, xs = [a, b] := by
    rcases xs with _ | ⟨a, _ | ⟨b, _ | ⟨c, xs⟩⟩⟩ <;> simp at hxl
    exact ⟨a, b, rfl⟩
  have t0 : DataW.trod enc Try.prog w base spare held n 3 (([u0, u1].drop 0).take (Try.prog.cellsOf 3)) = some y0 := hf 0 _ rfl
  have t1 : DataW.trod enc Try.prog w base spare held n 26 (([u0, u1].drop 1).take (Try.prog.cellsOf 26)) = some y1 := hf 1 _ rfl
  rw [cellsInt] at t0
  rw [cellsWords] at t1
  have t1' : DataW.trod enc Try.prog w base spare held n 26 [u1] = some y1 := t1
  obtain ⟨p, g0, _⟩ := DataW.trod_int Try.underlying3 t0
  simp at g0
  subst g0
  rw [hx] at hl
  have hl1 : Light 26 y1.1 := light_field hu hl (j := 1) rfl rfl
  obtain ⟨l, hw⟩ := trod_words t1' hl1
  exact ⟨(p, l), u1, rfl, hw⟩
theorem trod_things {fuel : Nat} {v : Value} {x : DataW H × List MemPlace} (h : DataW.trod enc Try.prog w base spare held fuel 22 [v] = some x) (hl : Light 22 x.1) : ∃ l : List (Int × List (Int × Int)), ThAt w v l := by
  obtain ⟨l, ⟨a, cap, e, hr⟩, hlen⟩ := trod_row (B := 32) (R := fun (t : Int × List (Int × Int)) b o => w.cell? ⟨b, o, none⟩ = some (.int .i64 t.1) ∧ ∃ v', w.cell? ⟨b, o + 1, none⟩ = some v' ∧ WoAt w v' t.2) Try.underlying22 cellsThing (by kernel_rfl)
    (fun n cs y h hl => by
      obtain ⟨t, v, rfl, hw⟩ := trod_thing h hl
      exact ⟨t, fun b off _ hc => ⟨hc 0 (by omega), v, hc 1 (by omega), hw⟩⟩) h hl
  exact ⟨l, a, cap, e, hr⟩
theorem trod_roots {fuel : Nat} {cs : List Value} {x : DataW H × List MemPlace} (h : DataW.trod enc Try.prog w base spare held fuel 25 cs = some x) : ∃ l : List (Int × Int), l.length = 27 ∧ cs = wordsC l := by
  obtain ⟨xs, m, -, -, hcl, hxl, hf⟩ := DataW.trod_array Try.underlying25 h
  rw [cellsRoots] at hcl
  rw [cellsWord] at hf
  obtain ⟨l, hl, hq⟩ := list_up 27 (fun i (p : Int × Int) => (cs.drop (i * 2)).take 2 = [.int .i64 p.1, .int .i64 p.2]) fun i hi => by
    have := hf i hi
    rw [List.getElem?_eq_getElem (by omega)] at this
    exact trod_word this
  refine ⟨l, hl, List.ext_getElem? fun k => ?_⟩
  by_cases hk : k < 54
  · obtain ⟨p, hp⟩ : ∃ p, l[k / 2]? = some p := ⟨_, List.getElem?_eq_getElem (by omega)⟩
    have h1 := hq _ _ hp
    obtain ⟨w1, w2⟩ := wordsC_get l (k / 2) p hp
    have g : ∀ r, r < 2 → cs[k / 2 * 2 + r]? = ([Value.int .i64 p.1, .int .i64 p.2] : List Value)[r]? := fun r hr => by
      rw [← h1, List.getElem?_take, if_pos hr, List.getElem?_drop]
    by_cases h2 : k % 2 = 0
    · have e : k = 2 * (k / 2) := by omega
      have := g 0 (by omega)
      rw [show k / 2 * 2 + 0 = k by omega] at this
      rw [this, e]
      exact w1.symm
    · have e : k = 2 * (k / 2) + 1 := by omega
      have := g 1 (by omega)
      rw [show k / 2 * 2 + 1 = k by omega] at this
      rw [this, e]
      exact w2.symm
  · rw [List.getElem?_eq_none (by omega), List.getElem?_eq_none (by rw [wordsC_length]; omega)]
theorem cut59 (C : List Value) (h : C.length = 59) : C = (C.drop 0).take 1 ++ ((C.drop 1).take 1 ++ ((C.drop 2).take 54 ++ ((C.drop 56).take 1 ++ ((C.drop 57).take 1 ++ (C.drop 58).take 1)))) := by
  have e : ∀ k n, C.drop k = (C.drop k).take n ++ C.drop (k + n) := fun k n => by
    rw [← List.drop_drop, List.take_append_drop]
  have e5 : C.drop 58 = (C.drop 58).take 1 := by rw [List.take_of_length_le (by rw [List.length_drop]; omega)]
  have e0 : C = C.drop 0 := rfl
  calc C = C.drop 0 := rfl
    _ = (C.drop 0).take 1 ++ C.drop 1 := e 0 1
    _ = (C.drop 0).take 1 ++ ((C.drop 1).take 1 ++ C.drop 2) := by rw [← e 1 1]
    _ = (C.drop 0).take 1 ++ ((C.drop 1).take 1 ++ ((C.drop 2).take 54 ++ C.drop 56)) := by rw [← e 2 54]
    _ = (C.drop 0).take 1 ++ ((C.drop 1).take 1 ++ ((C.drop 2).take 54 ++ ((C.drop 56).take 1 ++ C.drop 57))) := by rw [← e 56 1]
    _ = (C.drop 0).take 1 ++ ((C.drop 1).take 1 ++ ((C.drop 2).take 54 ++ ((C.drop 56).take 1 ++ ((C.drop 57).take 1 ++ C.drop 58)))) := by rw [← e 57 1]
    _ = _ := by rw [← e5]
set_option maxRecDepth 100000 in
theorem open_world {r : Go.Reach} {b0 : Nat} {v : Value} {d : DataW H} {ps : List MemPlace} (hval : Value.okWide Try.prog w r b0 28 v) (h : DataW.Trod enc Try.prog w base (fun _ => true) held 28 v d ps) :
    ∃ C : List Value, v = .agg C.toArray ∧ (Light 28 d → ∃ (x : Wd) (tv sv : Value), C = x.cells tv sv ∧ x.roots.length = 27 ∧ ThAt w tv x.things ∧ WoAt w sv x.stack) := by
  have hu := Try.underlying28
  obtain ⟨cs, rfl, hsz⟩ := okWide_struct hu hval
  obtain ⟨fuel, hf⟩ := h
  refine ⟨cs.toList, rfl, fun hl => ?_⟩
  obtain ⟨xs, n, hfu, hx, hcl, hxl, hf1⟩ := DataW.trod_struct hu hf
  rw [cellsWorld] at hcl
  generalize hC : cs.toList = C at *
  have hcl0 : cs.toList.length = 59 := hcl
  have hcl' : C.length = 59 := by rw [← hC]; exact hcl0
  obtain ⟨y0, y1, y2, y3, y4, y5, rfl⟩ : ∃ a b c d e f, xs = [a, b, c, d, e, f] := by
    rcases xs with _ | ⟨a, _ | ⟨b, _ | ⟨c, _ | ⟨d, _ | ⟨e, _ | ⟨f, _ | ⟨g, xs⟩⟩⟩⟩⟩⟩⟩ <;> simp at hxl
    exact ⟨a, b, c, d, e, f, rfl⟩
  have hCC : ∀ k m, ((Value.agg cs).cells.toList.drop k).take m = (C.drop k).take m := fun k m => by rw [← hC]; rfl
  have t0 : DataW.trod enc Try.prog w base (fun _ => true) held n 3 ((C.drop 0).take (Try.prog.cellsOf 3)) = some y0 := by rw [← hCC]; exact hf1 0 _ rfl
  have t1 : DataW.trod enc Try.prog w base (fun _ => true) held n 22 ((C.drop 1).take (Try.prog.cellsOf 22)) = some y1 := by rw [← hCC]; exact hf1 1 _ rfl
  have t2 : DataW.trod enc Try.prog w base (fun _ => true) held n 25 ((C.drop 2).take (Try.prog.cellsOf 25)) = some y2 := by rw [← hCC]; exact hf1 2 _ rfl
  have t3 : DataW.trod enc Try.prog w base (fun _ => true) held n 26 ((C.drop 56).take (Try.prog.cellsOf 26)) = some y3 := by rw [← hCC]; exact hf1 3 _ rfl
  have t4 : DataW.trod enc Try.prog w base (fun _ => true) held n 3 ((C.drop 57).take (Try.prog.cellsOf 3)) = some y4 := by rw [← hCC]; exact hf1 4 _ rfl
  have t5 : DataW.trod enc Try.prog w base (fun _ => true) held n 4 ((C.drop 58).take (Try.prog.cellsOf 4)) = some y5 := by rw [← hCC]; exact hf1 5 _ rfl
  rw [cellsInt] at t0 t4
  rw [cellsThings] at t1
  rw [cellsRoots] at t2
  rw [cellsWords] at t3
  rw [cellsBool] at t5
  have one : ∀ k, k < 59 → ∃ u, (C.drop k).take 1 = [u] := fun k hk => by
    have hl : ((C.drop k).take 1).length = 1 := by rw [List.length_take, List.length_drop]; omega
    rcases hL : (C.drop k).take 1 with _ | ⟨a, _ | ⟨b, l⟩⟩ <;> rw [hL] at hl <;> simp at hl
    exact ⟨a, rfl⟩
  obtain ⟨size, g0, _⟩ := DataW.trod_int Try.underlying3 t0
  obtain ⟨wanted, g4, _⟩ := DataW.trod_int Try.underlying3 t4
  obtain ⟨turned, g5, _⟩ := DataW.trod_bool Try.underlying4 t5
  obtain ⟨tv, g1⟩ := one 1 (by omega)
  obtain ⟨sv, g3⟩ := one 56 (by omega)
  rw [g1] at t1
  rw [g3] at t3
  have hd : d = .agg [y0.1, y1.1, y2.1, y3.1, y4.1, y5.1] := (Prod.mk.inj hx).1
  rw [hd] at hl
  have hl1 : Light 22 y1.1 := light_field hu hl (j := 1) rfl rfl
  have hl3 : Light 26 y3.1 := light_field hu hl (j := 3) rfl rfl
  obtain ⟨things, hth⟩ := trod_things t1 hl1
  obtain ⟨stack, hst⟩ := trod_words t3 hl3
  obtain ⟨roots, h27, g2⟩ := trod_roots t2
  refine ⟨⟨size, things, roots, stack, wanted, turned⟩, tv, sv, ?_, h27, hth, hst⟩
  rw [cut59 C hcl', g0, g1, g2, g3, g4, g5]
  rfl
end
end Gc
end Go.Proofs.Ytaldcgfhlflcpaa
namespace Go.Proofs.Ytaldcgfhlflcpaa
open Go.RowKit
theorem reach_of {H : Type} {P : Program} {ts : List TypeId} {ds : List (DataW H)} (hs : (DataW.weightsEach P ts ds).all (· ≤ reachBytes) = true) {j : Nat} {t : TypeId} {d : DataW H} (ht : ts[j]? = some t) (hd : ds[j]? = some d) : (d.weights P t).all (· ≤ reachBytes) = true :=
  List.all_eq_true.2 fun n hn => List.all_eq_true.1 hs n (DataW.weights_mem_each ht hd n hn)
namespace Gc
theorem steps_open (C : List Value) (W : World) (h : ∃ (x : Wd) (tv sv : Value), C = x.cells tv sv ∧ x.roots.length = 27 ∧ ThAt W tv x.things ∧ WoAt W sv x.stack) : Calls Try.prog 4 #[.agg C.toArray] W fun e w' => e = .returned (.bool true) ∧ Below W.heap.size W w' := by
  obtain ⟨x, tv, sv, rfl, h27, ht, hs⟩ := h
  exact steps_walk x tv sv W h27 ht hs
end Gc
end Go.Proofs.Ytaldcgfhlflcpaa
