/- The reference's R2.Make: a new row of the items, behind it the tail. -/
import Derived.Test.YthbnhneibpoooaaQMN
import Derived.Test.YthbnhneibpoooaaQHpOwnW
import Derived.Test.YthbnhneibpoooaaQRB
import Derived.Deep.DeepCutAuto
import Derived.Test.YthbnhneibpoooaaQMK
set_option linter.unusedVariables false
set_option linter.unusedSimpArgs false
set_option linter.unnecessarySimpa false
namespace Go.Proofs.Ythbnhneibpoooaa
open Go.RowKit
set_option linter.unusedVariables false
set_option linter.unusedSimpArgs false
/-- A row of data as it lies: its data with their lists' values. -/
theorem DtAt.pairs {w : World} {S : Nat → Prop} {d : Dt} {k i : Int} {t : ByteArray} {a : Option Addr} {n c : Nat} (h : DtAt w S (.agg #[.int .i64 k, .int .i64 i, .string t, .slice a n c]) d) :
    ∃ M : List (Dt × Value), M.map (·.1) = d.list ∧ n = M.length ∧ ((a = none ∧ c = 0 ∧ flatD M = []) ∨ ∃ ad, a = some ad ∧ ∀ (w' : World), (∀ k, k < w.heap.size → w'.heap[k]? = w.heap[k]?) → ∀ (j : Nat) (u : Value), (flatD M)[j]? = some u → w'.cell? (ad.add j) = some u) ∧ ∀ m ∈ M, DtAt w S (m.1.valOf m.2) m.1 := by
  cases h with
  | nil =>
    refine ⟨[], rfl, rfl, ?_, by simp⟩
    cases a with
    | none => exact .inl ⟨rfl, rfl, rfl⟩
    | some ad => exact .inr ⟨ad, rfl, fun w' hw j u h => by simp [flatD] at h⟩
  | row k i t b off c l lv hS hb hc hd =>
    have hq : ∀ (q : Nat) (m : Dt × Value), (l.zipIdx.map fun x => (x.1, lv x.2))[q]? = some m → ∃ x, l[q]? = some x ∧ m = (x, lv q) := by
      intro q m hm
      rw [List.getElem?_map, List.getElem?_zipIdx] at hm
      cases e : l[q]? with
      | none => rw [e] at hm; simp at hm
      | some x =>
        rw [e] at hm
        simp at hm
        exact ⟨x, rfl, hm.symm⟩
    refine ⟨l.zipIdx.map fun x => (x.1, lv x.2), ?_, by simp, .inr ⟨_, rfl, fun w' hw j u hu => ?_⟩, fun m hm => ?_⟩
    · rw [List.map_map]
      show List.map Prod.fst l.zipIdx = l
      simp
    · have hj := (List.getElem?_eq_some_iff.1 hu).1
      rw [flatD_length] at hj
      obtain ⟨m, hm⟩ : ∃ m, (l.zipIdx.map fun x => (x.1, lv x.2))[j / 4]? = some m := ⟨_, List.getElem?_eq_getElem (by omega)⟩
      obtain ⟨x, hx, rfl⟩ := hq _ _ hm
      obtain ⟨f0, f1, f2, f3⟩ := flatD_at _ _ _ hm
      obtain ⟨c0, c1, c2, c3⟩ := hc _ _ hx
      have e : ∀ o, w'.cell? ⟨b, o, none⟩ = w.cell? ⟨b, o, none⟩ := fun o => World.cell?_of_block (a := ⟨b, o, none⟩) (hw b hb)
      rw [Addr.add_mid, e]
      clear e
      rcases (by omega : j = j / 4 * 4 ∨ j = j / 4 * 4 + 1 ∨ j = j / 4 * 4 + 2 ∨ j = j / 4 * 4 + 3) with e | e | e | e
      · rw [e] at hu ⊢
        have e2 : (j / 4 * 4) / 4 = j / 4 := by omega
        rw [hu] at f0
        rw [c0, f0]
      · rw [e] at hu ⊢
        rw [hu] at f1
        rw [← Nat.add_assoc, c1, f1]
      · rw [e] at hu ⊢
        rw [hu] at f2
        rw [← Nat.add_assoc, c2, f2]
      · rw [e] at hu ⊢
        rw [hu] at f3
        rw [← Nat.add_assoc, c3, f3]
    · obtain ⟨q, hq1, hq2⟩ := List.getElem_of_mem hm
      obtain ⟨x, hx, rfl⟩ := hq q m (by rw [List.getElem?_eq_getElem hq1, hq2])
      exact hd q x hx
theorem pairs_one {w : World} {S : Nat → Prop} {M : List (Dt × Value)} (h : ∀ m ∈ M, DtAt w S (m.1.valOf m.2) m.1) : ∀ u ∈ flatD M, u.oneCell' = true := by
  refine flatD_one M fun m hm => ?_
  obtain ⟨a, c, e⟩ := (show DtAt w _ (.agg #[.int .i64 m.1.kind, .int .i64 m.1.int, .string m.1.text, m.2]) m.1 from h m hm).slice
  rw [e]
  rfl
/-- A row of the call's own reads as data; what its data hold may be older. -/
theorem dt_row {w : World} {S : Nat → Prop} {B n : Nat} {v : Value} {M : List (Dt × Value)} (hrow : w.ownsRow B 48 4 v n (flatD M)) (hn : n = M.length) (hS : ∀ b, v.ownBlock = some b → S b) (hk : ∀ m ∈ M, DtAt w S (m.1.valOf m.2) m.1) (k i : Int) (t : ByteArray) : DtAt w S (.agg #[.int .i64 k, .int .i64 i, .string t, v]) (.mk k i t (M.map (·.1))) := by
  subst hn
  rcases own_shape hrow with ⟨rfl, _, e⟩ | ⟨g, cap, rfl, h0, h1, h2, h3⟩
  · have hl := flatD_length M
    rw [e] at hl
    have : M = [] := List.eq_nil_of_length_eq_zero (by simp at hl; omega)
    subst this
    exact .nil k i t
  · have e : M.length = (M.map (·.1)).length := by simp
    rw [e]
    refine .row k i t g 0 cap _ (fun j => (M[j]?.map (·.2)).getD (.slice none 0 0)) (hS g rfl) h1 (fun j x hx => ?_) (fun j x hx => ?_)
    · rw [List.getElem?_map] at hx
      obtain ⟨m, hm, rfl⟩ : ∃ m, M[j]? = some m ∧ m.1 = x := by simpa using hx
      have hj : j < M.length := (List.getElem?_eq_some_iff.1 hm).1
      obtain ⟨f0, f1, f2, f3⟩ := flatD_at M j m hm
      rw [Nat.zero_add]
      refine ⟨?_, ?_, ?_, ?_⟩
      · rw [hrow.cellAt (j * 4) (by omega)]; exact f0
      · rw [hrow.cellAt (j * 4 + 1) (by omega)]; exact f1
      · rw [hrow.cellAt (j * 4 + 2) (by omega)]; exact f2
      · rw [hrow.cellAt (j * 4 + 3) (by omega), f3, hm]; rfl
    · rw [List.getElem?_map] at hx
      obtain ⟨m, hm, rfl⟩ : ∃ m, M[j]? = some m ∧ m.1 = x := by simpa using hx
      rw [hm]
      exact hk m (List.mem_of_getElem? hm)
/-- Behind the first append: the items' row, the tail's box, the result's block. -/
structure Rm3 (w w3 : World) (a b c d v : Value) (M : List (Dt × Value)) : Prop where
  row : w3.ownsRow (w.heap.size + 1 + 1) 48 4 v M.length (flatD M)
  below : Below w.heap.size w w3
  res : w3.heap[w.heap.size + 1]? = some (.cells #[.int .i64 0, .int .i64 0, .string ⟨#[]⟩, .slice none 0 0] 48 (0, 0))
  box : Cell4 w.heap.size a b c d w3
  size : w.heap.size + 1 + 1 ≤ w3.heap.size
theorem Rm3.shape {w w3 : World} {a b c d v : Value} {M : List (Dt × Value)} (H : Rm3 w w3 a b c d v M) : ∃ ax c, v = .slice ax M.length c := own_slice H.row
theorem Rm3.first {w w3 : World} {a b c d v : Value} {M : List (Dt × Value)} (t : TypeId)
    (hown : w3.ownsRow (w.heap.size + 1 + 1) 48 4 v (0 + M.length) ([] ++ flatD M)) (hg : (((w.alloc (.cells #[a, b, c, d] t)).alloc (.cells #[.int .i64 0, .int .i64 0, .string ⟨#[]⟩, .slice none 0 0] 48)).alloc (.cells #[] 48)).grownBy w3 (Value.slice (some ⟨w.heap.size + 1 + 1, 0, none⟩) 0 0).ownBlock) : Rm3 w w3 a b c d v M := by
  have hne : ∀ j, j < w.heap.size + 1 + 1 → some j ≠ (Value.slice (some ⟨w.heap.size + 1 + 1, 0, none⟩) 0 0).ownBlock := by
    intro j hj e
    simp [Value.ownBlock] at e
    omega
  rw [Nat.zero_add, List.nil_append] at hown
  have hw : Below w.heap.size w (((w.alloc (.cells #[a, b, c, d] t)).alloc (.cells #[.int .i64 0, .int .i64 0, .string ⟨#[]⟩, .slice none 0 0] 48)).alloc (.cells #[] 48)) := (((Below.refl _ _).alloc (Nat.le_refl _) _).alloc (by simp) _).alloc (by simp; omega) _
  have hs : (((w.alloc (.cells #[a, b, c, d] t)).alloc (.cells #[.int .i64 0, .int .i64 0, .string ⟨#[]⟩, .slice none 0 0] 48)).alloc (.cells #[] 48)).heap.size = w.heap.size + 1 + 1 + 1 := by simp
  refine ⟨hown, ⟨hg.os.trans hw.os, hg.tape.trans hw.tape, hg.output.trans hw.output, Nat.le_trans hw.size hg.size, fun k hk => (hg.block k (by omega) (hne k (by omega))).trans (hw.block k hk)⟩, ?_, ?_, by have := hg.size; omega⟩
  · rw [hg.block _ (by omega) (hne _ (by omega)), heap_alloc_old _ _ (by simp)]
    exact heap_new (by simp)
  · have h0 := new4 w a b c d t
    refine Cell4.same (w := w.alloc (.cells #[a, b, c, d] t)) h0 ?_
    rw [hg.block _ (by omega) (hne _ (by omega)), heap_alloc_old _ _ (by simp; omega), heap_alloc_old _ _ (by simp)]
/-- What Make answers, once the whole row lies. -/
structure Rm6 (B : Nat) (w w6 : World) (d : Dt) (a b c e vd : Value) : Prop where
  data : DtAt w6 (fun k => (B ≤ k ∧ k < w.heap.size) ∨ w.heap.size + 1 + 1 ≤ k) vd d
  below : Below w.heap.size w w6
  res : w6.heap[w.heap.size + 1]? = some (.cells #[.int .i64 0, .int .i64 0, .string ⟨#[]⟩, .slice none 0 0] 48 (0, 0))
  box : Cell4 w.heap.size a b c e w6
theorem Rm6.mk' {B : Nat} {w w3 w5 w6 : World} {a b c d v : Value} {M N : List (Dt × Value)} {g cap n : Nat} (H : Rm3 w w3 a b c d v M) (h5 : Below w3.heap.size w3 w5) (hM : ∀ m ∈ M, DtAt w (fun k => B ≤ k) (m.1.valOf m.2) m.1) (hN : ∀ m ∈ N, DtAt w (fun k => B ≤ k) (m.1.valOf m.2) m.1) (hn : M.length + N.length = n)
    (hown : w6.ownsRow (w.heap.size + 1 + 1) 48 4 (.slice (some ⟨g, 0, none⟩) n cap) n (flatD M ++ flatD N)) (hg : w5.grownBy w6 v.ownBlock) (k : Int) :
    Rm6 B w w6 (.mk k 0 ⟨#[]⟩ (M.map (·.1) ++ N.map (·.1))) a b c d (.agg #[.int .i64 k, .int .i64 0, .string ⟨#[]⟩, .slice (some ⟨g, 0, none⟩) n cap]) := by
  have hz := H.size
  have hz5 := h5.size
  have hlt : ∀ b, v.ownBlock = some b → w.heap.size + 1 + 1 ≤ b := fun b e => (H.row.lt b e).1
  have hb5 : Below w.heap.size w w5 := H.below.trans (h5.mono (by omega))
  have hb : Below w.heap.size w w6 := hb5.grown hg hb5.size (fun b e => by have := hlt b e; omega)
  rw [← flatD_append] at hown
  refine ⟨?_, hb, (hg.block _ (by omega) (fun e => by have := hlt _ e.symm; omega)).trans ((h5.block _ (by omega)).trans H.res), (H.box.below h5 (by omega)).same (hg.block _ (by omega) (fun e => by have := hlt _ e.symm; omega))⟩
  rw [← List.map_append]
  refine dt_row hown (by rw [List.length_append, hn]) (fun q e => .inr ((hown.lt q e).1)) (fun m hm => ?_) k 0 ⟨#[]⟩
  have h1 : DtAt w (fun k => B ≤ k) (m.1.valOf m.2) m.1 := by
    rcases List.mem_append.1 hm with h | h
    · exact hM m h
    · exact hN m h
  exact h1.same (fun q h2 h3 => .inl ⟨h2, h3⟩) hb.size fun q _ h3 => hb.block q h3
def RmPost (B : Nat) (d : Dt) (w : World) (e : Ending) (w' : World) : Prop := ∃ v, e = .returned v ∧ DtAt w' (fun k => B ≤ k) v d ∧ Below w.heap.size w w'
theorem Rm6.fin {B : Nat} {w w6 : World} {d : Dt} {a b c e vd : Value} (H : Rm6 B w w6 d a b c e vd) (hB : B ≤ w.heap.size) (x y z u : Value) : RmPost B d w (.returned vd) ((((w6.setCell ⟨w.heap.size + 1, 0, none⟩ x).setCell ⟨w.heap.size + 1, 1, none⟩ y).setCell ⟨w.heap.size + 1, 2, none⟩ z).setCell ⟨w.heap.size + 1, 3, none⟩ u) :=
  ⟨vd, rfl, (H.data.four (fun k hk e => by omega) _ _ _ _).mono fun k hk _ => by omega, below_four H.below (by omega) _ _ _ _⟩
theorem Rm3.drew {w w3 : World} {a b c d v : Value} {M : List (Dt × Value)} (H : Rm3 w w3 a b c d v M) : Rm3 w w3.drew a b c d v M := ⟨own_drewN H.row 1, H.below.drew, H.res, H.box, H.size⟩
set_option maxHeartbeats 8000000 in
set_option maxRecDepth 100000 in
theorem rmk_any (B : Nat) (l : List Dt) (b : Dt) (lv vb : Value) (w : World) (hB : B ≤ w.heap.size) (hl0 : l ≠ []) (hl1 : l.length ≤ 100000) (hb1 : b.list.length ≤ 100000)
    (hl : DtAt w (fun k => B ≤ k) (.agg #[.int .i64 0, .int .i64 0, .string ⟨#[]⟩, lv]) (.mk 0 0 ⟨#[]⟩ l)) (hb : DtAt w (fun k => B ≤ k) vb b) :
    Calls Try.prog 68 #[lv, vb] w (RmPost B (mkD l b) w) := by
  obtain ⟨a, c, rfl⟩ := hl.slice
  obtain ⟨ab, cb, rfl, _⟩ := hb.inv
  obtain ⟨bk, bi, bt, bl⟩ := b
  simp only [Dt.kind_mk, Dt.int_mk, Dt.text_mk, Dt.list_mk] at *
  obtain ⟨M, hM, hMn, hMs, hMk⟩ := hl.pairs
  obtain ⟨N, hN, hNn, hNs, hNk⟩ := hb.pairs
  simp only [Dt.list_mk] at hM hN
  have HBK : Hid (∀ m ∈ [((.mk bk bi bt bl : Dt), Value.slice ab bl.length cb)], DtAt w (fun k => B ≤ k) (m.1.valOf m.2) m.1) := fun m hm => by
    rw [List.mem_singleton] at hm
    subst hm
    exact hb
  have HMO := Lib.hid (pairs_one hMk)
  have HNO := Lib.hid (pairs_one hNk)
  obtain ⟨i0, hi, hz0, hz1, hz2⟩ := info_parts infoDatum
  have HI := Lib.hid hi
  have HZ0 := Lib.hid hz0
  have HZ1 := Lib.hid hz1
  have HZ2 := Lib.hid hz2
  have hlp : 0 < M.length := by rw [← hMn]; exact List.length_pos_iff.2 hl0
  rw [hMn] at hl1
  rw [hNn] at hb1
  have hg0 : ¬ (M.length : Int) = 0 := by omega
  have hg1 := beq_eq_false_iff_ne.2 hg0
  have HMK := Lib.hid hMk
  have HNK := Lib.hid hNk
  have HM := Lib.hid hM
  have HN := Lib.hid hN
  rw [hNn] at HBK
  rw [hMn, hNn]
  have hb2 : Below w.heap.size w (((w.alloc (.cells #[.int .i64 bk, .int .i64 bi, .string bt, .slice ab N.length cb] 48)).alloc (.cells #[.int .i64 0, .int .i64 0, .string ⟨#[]⟩, .slice none 0 0] 48)).alloc (.cells #[] 48)) := (((Below.refl _ _).alloc (Nat.le_refl _) _).alloc (by simp) _).alloc (by simp; omega) _
  have HS1 : Hid ((a = none ∧ c = 0 ∧ flatD M = []) ∨ ∃ ad, a = some ad ∧ ∀ (j : Nat) (u : Value), (flatD M)[j]? = some u → (((w.alloc (.cells #[.int .i64 bk, .int .i64 bi, .string bt, .slice ab N.length cb] 48)).alloc (.cells #[.int .i64 0, .int .i64 0, .string ⟨#[]⟩, .slice none 0 0] 48)).alloc (.cells #[] 48)).cell? (ad.add j) = some u) := by
    rcases hMs with h | ⟨ad, e, h⟩
    · exact .inl h
    · exact .inr ⟨ad, e, h _ hb2.block⟩
  have HS2 : Hid (∀ w3, Below w.heap.size w w3 → (ab = none ∧ cb = 0 ∧ flatD N = []) ∨ ∃ ad, ab = some ad ∧ ∀ (j : Nat) (u : Value), (flatD N)[j]? = some u → w3.cell? (ad.add j) = some u) := by
    intro w3 h3
    rcases hNs with h | ⟨ad, e, h⟩
    · exact .inl h
    · exact .inr ⟨ad, e, h _ h3.block⟩
  have HZO : Hid ((((w.alloc (.cells #[.int .i64 bk, .int .i64 bi, .string bt, .slice ab N.length cb] 48)).alloc (.cells #[.int .i64 0, .int .i64 0, .string ⟨#[]⟩, .slice none 0 0] 48)).alloc (.cells #[] 48)).ownsRow (w.heap.size + 1 + 1) 48 4 (.slice (some ⟨w.heap.size + 1 + 1, 0, none⟩) 0 0) 0 []) := by
    refine ⟨rfl, .inr ⟨w.heap.size + 1 + 1, 0, #[], rfl, Nat.le_refl _, heap_new (by simp), Nat.le_refl _, by decide, rfl, rfl⟩⟩
  have HTE : Hid ((((w.alloc (.cells #[.int .i64 bk, .int .i64 bi, .string bt, .slice ab N.length cb] 48)).alloc (.cells #[.int .i64 0, .int .i64 0, .string ⟨#[]⟩, .slice none 0 0] 48)).alloc (.cells #[] 48)).heap.size = w.heap.size + 1 + 1 + 1) := by show _ = _; simp
  clear hi hz0 hz1 hz2 hl hb hMs hNs hMk hNk hM hN hb2 hMn hNn hl0
  by_cases hk : bk = 5 ∨ bk = 6
  · have HE : Hid (mkD l (.mk bk bi bt bl) = .mk bk 0 ⟨#[]⟩ (M.map (·.1) ++ N.map (·.1))) := by
      unfold Hid mkD
      rw [HM.out, HN.out]
      exact if_pos hk
    rw [HE.out]
    rcases hk with rfl | rfl
    all_goals
      clear HE
      go_enter Try.func68, Try.ntmps68
      go_wp2_with (at_builtin; refine wpList_append_at (by rfl) (.tmp 10) (.tmp 11) 46 rfl (w.heap.size + 1 + 1) 48 i0 _ 4 56 Try.underlying46 HI.out HZ0.out HZ1.out HZ2.out rfl (by decide) (.slice (some ⟨w.heap.size + 1 + 1, 0, none⟩) 0 0) 0 [] rfl HZO.out a M.length c (flatD M) rfl (flatD_length _) HS1.out HMO.out (by simp only [maxLen]; omega) (by omega) (by rw [HTE.out]; omega) ?_; intro pv w3 hown hgr hlies; have H3 := Lib.hid (Rm3.first _ hown hgr); obtain ⟨b0, b1, b2, b3⟩ := H3.out.box; obtain ⟨a3, c3, rfl⟩ := H3.out.shape; clear hown hgr hlies)
      have HD3 := Lib.hid H3.out.drew
      go_region_law (first
        | (refine step_append_any (by rfl) (.tmp 23) (.tmp 25) 46 (by rfl) (w.heap.size + 1 + 1) 48 i0 _ 4 56 Try.underlying46 HI.out HZ0.out HZ1.out HZ2.out rfl (by decide) (.slice a3 M.length c3) M.length (flatD M) (by rfl) HD3.out.row ab N.length cb (flatD N) (by rfl) (flatD_length N) (HS2.out _ HD3.out.below) HNO.out (by omega) (by simp only [maxLen]; omega) (by omega) HD3.out.size w3.heap.size (by rfl) ?_; intro g cap w6 hown hgr hlies; have H6 := Lib.hid (fun (k : Int) => Rm6.mk' HD3.out (Below.refl _ _) HMK.out HNK.out rfl hown hgr k); obtain ⟨r0, r1, r2, r3, m0, m1, m2, m3⟩ := Blk4.of (H6.out 0).res; obtain ⟨s0, s1, s2, s3⟩ := (H6.out 0).box; clear hown hgr hlies)
        | fail)
      all_goals go_wp2_with fail
      all_goals
        refine bodyPost_ret (res1 rfl _ _ (w.heap.size + 1) 48 _ (0, 0) rfl (four_set _ _ _ _ _ _ _ _ _ _ _ (H6.out 0).res) datumD datumSize) rfl ?_
        exact (H6.out _).fin hB _ _ _ _
  · have HE : Hid (mkD l (.mk bk bi bt bl) = .mk 6 0 ⟨#[]⟩ (M.map (·.1) ++ [.mk bk bi bt bl])) := by
      unfold Hid mkD
      rw [HM.out]
      exact if_neg hk
    rw [HE.out]
    have hk5 : ¬ bk = 5 := fun e => hk (.inl e)
    have hk6 : ¬ bk = 6 := fun e => hk (.inr e)
    have hg3 := beq_eq_false_iff_ne.2 hk5
    have hg4 := beq_eq_false_iff_ne.2 hk6
    clear HE hk
    go_enter Try.func68, Try.ntmps68
    go_wp2_with (first
      | (at_builtin; refine wpList_append_at (by rfl) (.tmp 10) (.tmp 11) 46 rfl (w.heap.size + 1 + 1) 48 i0 _ 4 56 Try.underlying46 HI.out HZ0.out HZ1.out HZ2.out rfl (by decide) (.slice (some ⟨w.heap.size + 1 + 1, 0, none⟩) 0 0) 0 [] rfl HZO.out a M.length c (flatD M) rfl (flatD_length _) HS1.out HMO.out (by simp only [maxLen]; omega) (by omega) (by rw [HTE.out]; omega) ?_; intro pv w3 hown hgr hlies; have H3 := Lib.hid (Rm3.first _ hown hgr); obtain ⟨b0, b1, b2, b3⟩ := H3.out.box; obtain ⟨a3, c3, rfl⟩ := H3.out.shape; clear hown hgr hlies)
      | (at_builtin; refine wpList_append_lies _ rfl (.tmp 28) (.tmp 30) 46 rfl (w.heap.size + 1 + 1) 48 i0 _ 4 56 Try.underlying46 HI.out HZ0.out HZ1.out HZ2.out rfl (by decide) (.slice a3 M.length c3) M.length (flatD M) rfl (H3.out.row.alloc _) ⟨w3.heap.size, 0, none⟩ 1 1 [.int .i64 bk, .int .i64 bi, .string bt, .slice ab N.length cb] rfl rfl (new_cells4 _ _ _ _ _ _) (by simp [Value.oneCell']) (by decide) (by simp only [maxLen]; omega) (by omega) (by have := H3.out.size; simp; omega) (w3.heap.size + 1) (by simp) ?_; intro g cap w6 hown hgr hlies hlt6; have H6 := Lib.hid (Rm6.mk' (N := [(.mk bk bi bt bl, .slice ab N.length cb)]) H3.out ((Below.refl _ _).alloc (Nat.le_refl _) _) HMK.out HBK.out rfl hown hgr 6); obtain ⟨r0, r1, r2, r3, m0, m1, m2, m3⟩ := Blk4.of H6.out.res; clear hown hgr hlies hlt6))
    refine bodyPost_ret (res1 rfl _ _ (w.heap.size + 1) 48 _ (0, 0) rfl (four_set _ _ _ _ _ _ _ _ _ _ _ H6.out.res) datumD datumSize) rfl ?_
    exact H6.out.fin hB _ _ _ _
end Go.Proofs.Ythbnhneibpoooaa
/- The reference's tell: too much, and values that are no things. -/
namespace Go.Proofs.Ythbnhneibpoooaa
open Go.RowKit
set_option linter.unusedVariables false
set_option linter.unusedSimpArgs false
set_option linter.unnecessarySimpa false
theorem res3 {fn : Func} {p q r : Tmp} {ty : TypeId} (h : fn.results = #[.cell p ty, .tmp q, .tmp r]) (tmps : Array Value) (w : World) (g : Nat) (t : TypeId) (cs : Array Value) (fr : Nat × Nat)
    (hp : tmps.getD p undef = .pointer (some ⟨g, 0, none⟩)) (hg : w.heap[g]? = some (.cells cs t fr)) (hd : ∃ fs, Try.prog.underlying ty = some (.struct fs)) (hi : (Try.prog.info? ty).map (·.size) = some cs.size) :
    (results fn tmps).run Try.prog w = .ok (.tuple #[.agg cs, tmps.getD q undef, tmps.getD r undef]) w := by
  obtain ⟨fs, hu⟩ := hd
  have hp' : tmps[p]?.getD undef = .pointer (some ⟨g, 0, none⟩) := by simpa using hp
  simp [results, h, hp', asAddr, run_loadVar_row w g t ty cs fr _ hg hu rfl hi]
/-- What the reference's tell leaves. -/
def RTOut (r : Option (Dt × Nat)) (w : World) (e : Ending) (w' : World) : Prop :=
  ∃ (d : Dt) (a : Option Addr) (c : Nat) (ok : Bool) (s : Nat), e = .returned (.tuple #[.agg #[.int .i64 d.kind, .int .i64 d.int, .string d.text, .slice a d.list.length c], .int .i64 s, .bool ok]) ∧ DtAt w' (fun b => w.heap.size ≤ b) (.agg #[.int .i64 d.kind, .int .i64 d.int, .string d.text, .slice a d.list.length c]) d ∧ Below w.heap.size w w' ∧ (ok = true → ∃ left, r = some (d, left) ∧ s + left = 200) ∧ (ok = false → r = none)
theorem rtout_no {w w3 : World} (s : Nat) (hs : Below w.heap.size w w3) : RTOut none w (.returned (.tuple #[.agg #[.int .i64 0, .int .i64 0, .string ⟨#[]⟩, .slice none 0 0], .int .i64 s, .bool false])) w3 :=
  ⟨.mk 0 0 ⟨#[]⟩ [], none, 0, false, s, rfl, .nil _ _ _, hs, fun e => (by cases e), fun _ => rfl⟩
theorem rtout_leaf {w w3 : World} {s left : Nat} (hs : Below w.heap.size w w3) (hl : s + left = 200) (k i : Int) (t : ByteArray) : RTOut (some (.mk k i t [], left)) w (.returned (.tuple #[.agg #[.int .i64 k, .int .i64 i, .string t, .slice none 0 0], .int .i64 s, .bool true])) w3 :=
  ⟨.mk k i t [], none, 0, true, s, rfl, .nil k i t, hs, fun _ => ⟨left, rfl, hl⟩, fun e => by cases e⟩
set_option maxHeartbeats 2000000 in
set_option maxRecDepth 100000 in
theorem rtell_no (T : List Hp.Th) (n h : Nat) (v : Hp.V) (deep left s : Nat) (w : World) (hs : s + left = 200) (hno : left = 0 ∨ 32 < deep) :
    Calls Try.prog 48 #[.pointer (some ⟨h, 0, none⟩), v.val, .int .i64 deep, .int .i64 s] w (RTOut (Hp.tellF T n v deep left) w) := by
  have e : Hp.tellF T n v deep left = none := by
    cases n with
    | zero => rfl
    | succ n => rw [Hp.tellF, if_pos hno]
  rw [e]
  have HB : Hid (∀ o p, Below w.heap.size w ((w.alloc o).alloc p)) := fun o p => ((Below.refl _ _).alloc (Nat.le_refl _) _).alloc (by simp) _
  unfold Hp.V.val
  by_cases h0 : left = 0
  · have g1 : decide ((200 : Int) ≤ s) = true := decide_eq_true (by omega)
    clear hno h0 e hs
    go_enter Try.func48, Try.ntmps48
    go_wp2_with fail
    refine bodyPost_ret (res3 rfl _ _ (w.heap.size + 1) 48 _ (0, 0) rfl (heap_new (by simp)) datumD datumSize) rfl ?_
    exact rtout_no s (HB.out _ _)
  · have g1 : decide ((200 : Int) ≤ s) = false := decide_eq_false (by omega)
    have g2 : decide ((32 : Int) < deep) = true := decide_eq_true (by omega)
    clear hno h0 e hs
    go_enter Try.func48, Try.ntmps48
    go_wp2_with fail
    refine bodyPost_ret (res3 rfl _ _ (w.heap.size + 1) 48 _ (0, 0) rfl (heap_new (by simp)) datumD datumSize) rfl ?_
    exact rtout_no s (HB.out _ _)
set_option maxHeartbeats 8000000 in
set_option maxRecDepth 100000 in
theorem rtell_leaf (h : Nat) (v : Hp.V) (deep left s : Nat) (w : World) (hs : s + left = 200) (h0 : left ≠ 0) (hd : deep ≤ 32) (hk : (v.kind = 1 ∨ v.kind = 2 ∨ v.kind = 4 ∨ v.kind = 0) ∨ (v.kind = 3 ∨ v.kind = 5 ∨ v.kind = 6 ∨ v.kind = 7)) :
    Calls Try.prog 48 #[.pointer (some ⟨h, 0, none⟩), v.val, .int .i64 deep, .int .i64 s] w (RTOut (some (Hp.leafD v, left - 1)) w) := by
  have g1 : decide ((200 : Int) ≤ s) = false := decide_eq_false (by omega)
  have g2 : decide ((32 : Int) < deep) = false := decide_eq_false (by omega)
  have g3 : (0 : Int) ≤ s := by omega
  have g4 : (s : Int) ≤ 200 := by omega
  have g5 : IntKind.i64.wrap ((s : Int) + 1) = s + 1 := by rw [IntKind.wrap_i64]; omega
  have HE : Hid (s + 1 + (left - 1) = 200) := by show _ = _; omega
  have HB : Hid (∀ o p q r, Below w.heap.size w ((((w.alloc o).alloc p).alloc q).alloc r)) := fun o p q r => ((((Below.refl _ _).alloc (Nat.le_refl _) _).alloc (by simp) _).alloc (by simp; omega) _).alloc (by simp; omega) _
  obtain ⟨vk, vi, vt⟩ := v
  clear h0 hd hs
  unfold Hp.V.val
  dsimp only at *
  rcases hk with (rfl | rfl | rfl | rfl) | (rfl | rfl | rfl | rfl)
  all_goals
    go_enter Try.func48, Try.ntmps48
    go_wp2_with fail
    refine bodyPost_ret (res3 rfl _ _ (w.heap.size + 1) 48 _ (0, 0) rfl ((heap_alloc_old _ _ (by simp)).trans ((heap_alloc_old _ _ (by simp)).trans (heap_new (by simp)))) datumD datumSize) rfl ?_
    exact rtout_leaf (s := s + 1) (HB.out _ _ _ _) HE.out _ _ _
end Go.Proofs.Ythbnhneibpoooaa
/- The reference's tell: things. -/
namespace Go.Proofs.Ythbnhneibpoooaa
open Go.RowKit
set_option linter.unusedVariables false
set_option linter.unusedSimpArgs false
set_option linter.unnecessarySimpa false
/-- The blocks that tell makes before it looks at a thing. -/
def rtW (w : World) (k : Nat) : World := ((((w.alloc (.cells #[.int .i64 8, .int .i64 k, .string ⟨#[]⟩] 27)).alloc (.cells #[.int .i64 0, .int .i64 0, .string ⟨#[]⟩, .slice none 0 0] 48)).alloc (.cells #[.int .i64 0, .int .i64 k, .string ⟨#[]⟩, .slice none 0 0] 48)).alloc (.cells #[.string ⟨#[]⟩, .string ⟨#[]⟩, .string ⟨#[]⟩, .string ⟨#[]⟩, .string ⟨#[]⟩, .string ⟨#[118, 111, 105, 100]⟩, .string ⟨#[101, 111, 102]⟩, .string ⟨#[117, 110, 115, 101, 116]⟩] 9))
/-- While the reference's tell looks at a thing: the heap, the thing's block, the result's. -/
structure Rt (w wx : World) (h : Nat) (O : Nat → Prop) (vt : Value) (M : List (Hp.Th × Value)) (kd : Int) (pv : Value) : Prop where
  hp : HpAt wx 40 h O vt M
  below : Below w.heap.size w wx
  res : wx.heap[w.heap.size + 1]? = some (.cells #[.int .i64 0, .int .i64 0, .string ⟨#[]⟩, .slice none 0 0] 48 (0, 0))
  th : wx.heap[w.heap.size + 4]? = some (.cells #[.int .i64 kd, pv] 54 (0, 0))
  size : w.heap.size + 5 ≤ wx.heap.size
theorem rtW_size (w : World) (k : Nat) : (rtW w k).drew.heap.size = w.heap.size + 4 := by
  show (rtW w k).heap.size = _
  simp [rtW]
theorem rtW_below (w : World) (k : Nat) : Below w.heap.size w (rtW w k).drew := (((((Below.refl _ _).alloc (Nat.le_refl _) _).alloc (by simp) _).alloc (by simp; omega) _).alloc (by simp; omega) _).drew
theorem rtW_box (w : World) (k : Nat) : (rtW w k).drew.heap[w.heap.size]? = some (.cells #[.int .i64 8, .int .i64 k, .string ⟨#[]⟩] 27 (0, 0)) := by
  show (rtW w k).heap[w.heap.size]? = _
  unfold rtW
  rw [heap_alloc_old _ _ (by simp; omega), heap_alloc_old _ _ (by simp; omega), heap_alloc_old _ _ (by simp)]
  exact heap_alloc_new w _
theorem rtW_res (w : World) (k : Nat) : (rtW w k).drew.heap[w.heap.size + 1]? = some (.cells #[.int .i64 0, .int .i64 0, .string ⟨#[]⟩, .slice none 0 0] 48 (0, 0)) := by
  show (rtW w k).heap[w.heap.size + 1]? = _
  unfold rtW
  rw [heap_alloc_old _ _ (by simp), heap_alloc_old _ _ (by simp)]
  exact heap_new (by simp)
theorem Rt.first {w : World} {h : Nat} {O : Nat → Prop} {vt : Value} {M : List (Hp.Th × Value)} (HA : HpAt w 40 h O vt M) (k : Nat) (kd : Int) (pv : Value) : Rt w ((rtW w k).alloc (.cells #[.int .i64 kd, pv] 54)).drew h O vt M kd pv := by
  have hs := rtW_size w k
  have hb := (rtW_below w k).alloc (by omega) (.cells #[.int .i64 kd, pv] 54)
  have H : Rt w ((rtW w k).drew.alloc (.cells #[.int .i64 kd, pv] 54)) h O vt M kd pv := ⟨HA.below hb (Nat.le_refl _), hb, (heap_alloc_old _ _ (by omega)).trans (rtW_res w k), heap_new hs.symm, by rw [World.heap_size_alloc, hs]; exact Nat.le_refl _⟩
  exact H
theorem Rt.cells {w wx : World} {h : Nat} {O : Nat → Prop} {vt : Value} {M : List (Hp.Th × Value)} {kd : Int} {pv : Value} (H : Rt w wx h O vt M kd pv) : wx.cell? ⟨w.heap.size + 4, 0, none⟩ = some (.int .i64 kd) ∧ wx.cell? ⟨w.heap.size + 4, 1, none⟩ = some pv ∧ w.heap.size + 4 < wx.heap.size ∧ w.heap.size + 1 < wx.heap.size :=
  ⟨cell_of_row wx _ 0 _ _ _ H.th, cell_of_row wx _ 1 _ _ _ H.th, by have := H.size; omega, by have := H.size; omega⟩
theorem Rt.bel {w wx wy : World} {h : Nat} {O : Nat → Prop} {vt : Value} {M : List (Hp.Th × Value)} {kd : Int} {pv : Value} (H : Rt w wx h O vt M kd pv) (hO : ∀ b, O b → b < w.heap.size) {N : Nat} (hN : w.heap.size + 5 ≤ N) (hb : Below N wx wy) : Rt w wy h O vt M kd pv :=
  ⟨H.hp.keep hb.size fun b e => hb.block b (by have := hO b e; omega), H.below.trans (hb.mono (by omega)), (hb.block _ (by omega)).trans H.res, (hb.block _ (by omega)).trans H.th, Nat.le_trans H.size hb.size⟩
theorem Rt.leaf {w wx : World} {h : Nat} {O : Nat → Prop} {vt : Value} {M : List (Hp.Th × Value)} {kd : Int} {pv : Value} (H : Rt w wx h O vt M kd pv) {s left : Nat} (hl : s + left = 200) (k i : Int) (t : ByteArray) (x y z u : Value) :
    RTOut (some (.mk k i t [], left)) w (.returned (.tuple #[.agg #[.int .i64 k, .int .i64 i, .string t, .slice none 0 0], .int .i64 s, .bool true])) ((((wx.setCell ⟨w.heap.size + 1, 0, none⟩ x).setCell ⟨w.heap.size + 1, 1, none⟩ y).setCell ⟨w.heap.size + 1, 2, none⟩ z).setCell ⟨w.heap.size + 1, 3, none⟩ u) :=
  rtout_leaf (below_four H.below (by omega) _ _ _ _) hl _ _ _
/-- What the region that reads the thing finds. -/
structure Rh (w w4 : World) (h g k : Nat) (sv : Value) (kd : Int) (pv : Value) : Prop where
  c0 : w4.cell? ⟨h, 0, none⟩ = some sv
  d0 : w4.cell? ⟨g, k * 2, none⟩ = some (.int .i64 kd)
  d1 : w4.cell? ⟨g, k * 2 + 1, none⟩ = some pv
  b1 : w4.cell? ⟨w.heap.size, 1, none⟩ = some (.int .i64 k)
  size : w4.heap.size = w.heap.size + 4
  lt : g < w4.heap.size
theorem rh_of {w : World} {h : Nat} {O : Nat → Prop} {vt : Value} {M : List (Hp.Th × Value)} (HA : HpAt w 40 h O vt M) {k : Nat} {m : Hp.Th × Value} (hm : M[k]? = some m) : ∃ g c a cp, vt = .slice (some ⟨g, 0, none⟩) M.length c ∧ m.2 = .slice a m.1.parts.length cp ∧ Rh w (rtW w k).drew h g k (.slice (some ⟨g, 0, none⟩) M.length c) m.1.kind m.2 := by
  have HB := HA.below (rtW_below w k) (Nat.le_refl _)
  obtain ⟨a, cp, hap⟩ := HB.partLen (List.mem_of_getElem? hm)
  obtain ⟨g, c, rfl, hg, hgh, d0, d1⟩ := HB.at hm
  exact ⟨g, c, a, cp, rfl, hap, HB.c0, d0, d1, cell_of_row _ _ 1 _ _ _ (rtW_box w k), rtW_size w k, hg⟩
set_option maxHeartbeats 4000000 in
set_option maxRecDepth 100000 in
theorem rtell_box {h : Nat} {O : Nat → Prop} {vt : Value} {M : List (Hp.Th × Value)} (f : Hp.V → Nat → Nat → Option (Dt × Nat)) (k : Nat) (deep left s : Nat) (w : World) (HA : HpAt w 40 h O vt M) (hs : s + left = 200) (h0 : left ≠ 0) (hd : deep ≤ 32) {m : Hp.Th × Value} (hm : M[k]? = some m) (hk : m.1.kind = 3 ∨ m.1.kind = 4) :
    Calls Try.prog 48 #[.pointer (some ⟨h, 0, none⟩), .agg #[.int .i64 8, .int .i64 k, .string ⟨#[]⟩], .int .i64 deep, .int .i64 s] w (RTOut (Hp.thingF f m.1 deep (left - 1)) w) := by
  have hkl : k < M.length := (List.getElem?_eq_some_iff.1 hm).1
  obtain ⟨g, c, a, cp, rfl, hap, HR⟩ := rh_of HA hm
  have g1 : decide ((200 : Int) ≤ s) = false := decide_eq_false (by omega)
  have g2 : decide ((32 : Int) < deep) = false := decide_eq_false (by omega)
  have g3 : (0 : Int) ≤ s := by omega
  have g4 : (s : Int) ≤ 200 := by omega
  have g5 : IntKind.i64.wrap ((s : Int) + 1) = s + 1 := by rw [IntKind.wrap_i64]; omega
  have g6 : (0 : Int) ≤ k := by omega
  have g7 : (k : Int) < M.length := by omega
  have HE : Hid (s + 1 + (left - 1) = 200) := by show _ = _; omega
  obtain ⟨⟨kd, l⟩, pv⟩ := m
  dsimp only at *
  subst hap
  have HI := Lib.hid (Rt.first HA k kd (.slice a l.length cp))
  obtain ⟨c0, d0, d1, b1, hz, hg⟩ := HR
  generalize hW4 : rtW w k = W4 at *
  have HZ : Hid (W4.heap.size = w.heap.size + 4) := hz
  have sz1 : w.heap.size < W4.heap.size := by rw [HZ.out]; omega
  have sz2 : h < W4.heap.size := by rw [HZ.out]; have := HA.lth; omega
  have sz3 : g < W4.heap.size := hg
  have c0' : W4.cell? ⟨h, 0, none⟩ = _ := c0
  have d0' : W4.cell? ⟨g, k * 2, none⟩ = _ := d0
  have d1' : W4.cell? ⟨g, k * 2 + 1, none⟩ = _ := d1
  have b1' : W4.cell? ⟨w.heap.size, 1, none⟩ = _ := b1
  unfold rtW at hW4
  have HW4 := Lib.hid hW4
  clear hW4 hz hg h0 hd hs HA hm
  rcases hk with rfl | rfl
  all_goals
    go_enter Try.func48, Try.ntmps48
    go_wp2_with fail
    rw [HW4.out]
    go_region
    clear c0 d0 d1 b1 c0' d0' d1' b1' sz1 sz2 sz3 HW4
    rw [HZ.out]
    generalize (W4.alloc (.cells #[.int .i64 _, .slice a l.length cp] 54)).drew = wx at HI ⊢
    obtain ⟨q0, q1, q2, q3⟩ := HI.out.cells
    obtain ⟨r0, r1, r2, r3, m0, m1, m2, m3⟩ := Blk4.of HI.out.res
    go_wp2_with fail
    refine bodyPost_ret (res3 rfl _ _ (w.heap.size + 1) 48 _ (0, 0) rfl (four_set _ _ _ _ _ _ _ _ _ _ _ HI.out.res) datumD datumSize) rfl ?_
    exact HI.out.leaf (s := s + 1) HE.out _ _ _ _ _ _ _
end Go.Proofs.Ythbnhneibpoooaa
/- The reference's tell: strings. -/
namespace Go.Proofs.Ythbnhneibpoooaa
open Go.RowKit
set_option linter.unusedVariables false
set_option linter.unusedSimpArgs false
set_option linter.unnecessarySimpa false
theorem zero_own1 (w : World) (t : TypeId) : (w.alloc (.cells #[] t)).ownsRow w.heap.size t 1 (.slice (some ⟨w.heap.size, 0, none⟩) 0 0) 0 [] :=
  ⟨rfl, .inr ⟨w.heap.size, 0, #[], rfl, Nat.le_refl _, heap_alloc_new w _, Nat.le_refl _, by decide, rfl, rfl⟩⟩
set_option maxHeartbeats 8000000 in
set_option maxRecDepth 100000 in
theorem rtell_str {h : Nat} {O : Nat → Prop} {vt : Value} {M : List (Hp.Th × Value)} (f : Hp.V → Nat → Nat → Option (Dt × Nat)) (k : Nat) (deep left s : Nat) (w : World) (HA : HpAt w 40 h O vt M) (hs : s + left = 200) (h0 : left ≠ 0) (hd : deep ≤ 32) {m : Hp.Th × Value} (hm : M[k]? = some m) (hk : m.1.kind = 2) (hlen : m.1.parts.length ≤ 1000000) :
    Calls Try.prog 48 #[.pointer (some ⟨h, 0, none⟩), .agg #[.int .i64 8, .int .i64 k, .string ⟨#[]⟩], .int .i64 deep, .int .i64 s] w (RTOut (Hp.thingF f m.1 deep (left - 1)) w) := by
  have hkl : k < M.length := (List.getElem?_eq_some_iff.1 hm).1
  obtain ⟨g, c, a, cp, rfl, hap, HR⟩ := rh_of HA hm
  have g1 : decide ((200 : Int) ≤ s) = false := decide_eq_false (by omega)
  have g2 : decide ((32 : Int) < deep) = false := decide_eq_false (by omega)
  have g3 : (0 : Int) ≤ s := by omega
  have g4 : (s : Int) ≤ 200 := by omega
  have g5 : IntKind.i64.wrap ((s : Int) + 1) = s + 1 := by rw [IntKind.wrap_i64]; omega
  have g6 : (0 : Int) ≤ k := by omega
  have g7 : (k : Int) < M.length := by omega
  have HE : Hid (s + 1 + (left - 1) = 200) := by show _ = _; omega
  have hmm := List.mem_of_getElem? hm
  obtain ⟨⟨kd, l⟩, pv⟩ := m
  dsimp only at *
  subst hap
  subst hk
  obtain ⟨i0, hi, hz0, hz1, hz2⟩ := info_parts infoByte
  have HDI := Lib.hid hi
  have HZ0 := Lib.hid hz0
  have HZ1 := Lib.hid hz1
  have HZ2 := Lib.hid hz2
  have HOL : Hid (∀ b, O b → b < w.heap.size) := fun b e => HA.lt b e
  have HC : Hid (∀ (w1 : World) (k : Nat) (v : Hp.V), HpAt w1 40 h O (.slice (some ⟨g, 0, none⟩) M.length c) M → l[k]? = some v → ∃ g, a = some ⟨g, 0, none⟩ ∧ g < w.heap.size ∧ w1.cell? ⟨g, k * 3, none⟩ = some (.int .i64 v.kind) ∧ w1.cell? ⟨g, k * 3 + 1, none⟩ = some (.int .i64 v.int) ∧ w1.cell? ⟨g, k * 3 + 2, none⟩ = some (.string v.text)) := fun w1 k v h1 hv => by
    obtain ⟨g, c, e, hg, _⟩ := HA.part hmm (j := k) (v := v) hv
    dsimp only at e
    simp at e
    obtain ⟨rfl, _⟩ := e
    obtain ⟨_, h2, h3, h4⟩ := h1.part3 hmm rfl (j := k) (v := v) hv
    exact ⟨g, rfl, hg, h2, h3, h4⟩
  clear hi hz0 hz1 hz2
  have HI := Lib.hid (Rt.first HA k 2 (.slice a l.length cp))
  obtain ⟨c0, d0, d1, b1, hz, hg⟩ := HR
  generalize hW4 : rtW w k = W4 at *
  have HZ : Hid (W4.heap.size = w.heap.size + 4) := hz
  have sz1 : w.heap.size < W4.heap.size := by rw [HZ.out]; omega
  have sz2 : h < W4.heap.size := by rw [HZ.out]; have := HA.lth; omega
  have sz3 : g < W4.heap.size := hg
  have c0' : W4.cell? ⟨h, 0, none⟩ = _ := c0
  have d0' : W4.cell? ⟨g, k * 2, none⟩ = _ := d0
  have d1' : W4.cell? ⟨g, k * 2 + 1, none⟩ = _ := d1
  have b1' : W4.cell? ⟨w.heap.size, 1, none⟩ = _ := b1
  unfold rtW at hW4
  have HW4 := Lib.hid hW4
  clear hW4 hz hg h0 hd hs HA hm hmm
  have eT : Hp.thingF f ⟨2, l⟩ deep (left - 1) = some (.mk 3 0 (Hp.textOf l) [], left - 1) := rfl
  rw [eT]
  go_enter Try.func48, Try.ntmps48
  go_wp2_with fail
  rw [HW4.out]
  go_region
  clear c0 d0 d1 b1 c0' d0' d1' b1' sz1 sz2 sz3 HW4
  rw [HZ.out]
  generalize (W4.alloc (.cells #[.int .i64 _, .slice a l.length cp] 54)).drew = wx at HI ⊢
  obtain ⟨q0, q1, q2, q3⟩ := HI.out.cells
  go_wp2_with fail
  go_loopg [14, 15] l.length (fun gk s14 s15 wx => ∃ (k : Nat) (a1 : Option Addr) (c1 : Nat), k ≤ l.length ∧ gk = l.length - k ∧ s15 = .int .i64 k ∧ s14 = .slice a1 k c1 ∧ Hid (Rt w wx h O (.slice (some ⟨g, 0, none⟩) M.length c) M 2 (.slice a l.length cp)) ∧ Hid (wx.ownsRow (w.heap.size + 5) 5 1 (.slice a1 k c1) k (bytesC (l.take k))))
  case atStart => exact ⟨0, _, _, Nat.zero_le _, rfl, rfl, rfl, HI.out.bel HOL.out HI.out.size ((Below.refl _ _).alloc (Nat.le_refl _) _), (zero_own1 _ _).mono HI.out.size⟩
  case round =>
    obtain ⟨k, a1, c1, hk, rfl, rfl, rfl, HS, HR⟩ := hrel
    clear q0 q1 q2 q3
    obtain ⟨q0, q1, q2, q3⟩ := HS.out.cells
    by_cases hlt2 : k < l.length
    · obtain ⟨v, hv⟩ : ∃ v, l[k]? = some v := ⟨_, List.getElem?_eq_getElem hlt2⟩
      obtain ⟨gp, rfl, hgp, p0, p1, p2⟩ := HC.out wr k v HS.out.hp hv
      have hgw : gp < wr.heap.size := by omega
      have hg1 : (0 : Int) ≤ k := by omega
      have hg2 : (k : Int) < l.length := by omega
      have hgk : IntKind.i64.wrap ((k : Int) + 1) = k + 1 := by rw [IntKind.wrap_i64]; omega
      have HV := Lib.hid hv
      have hbB := (Below.refl wr.heap.size wr).alloc (Nat.le_refl _) (.cells #[.int .u8 (v.int % 256)] 5)
      have HB9 := Lib.hid hbB
      have HR9 := Lib.hid (own_same HR.out (fun b e => hbB.block b (by have := (HR.out.lt b e).2; omega)))
      have hs9 := HS.out.size
      clear hv hbB
      go_wp2_with (at_builtin; refine wpList_append_lies _ rfl (.tmp 99) (.tmp 107) 108 rfl (w.heap.size + 5) 5 i0 _ 1 1 Try.underlying108 HDI.out HZ0.out HZ1.out HZ2.out rfl (by decide) (.slice a1 k c1) k (bytesC (l.take k)) rfl ?a2 ⟨wr.heap.size, 0, none⟩ 1 1 [.int .u8 (v.int % 256)] rfl rfl ?a4 ?a5 (by decide) ?a6 ?a7 ?a9 (wr.heap.size + 1) ?a8 ?_; (case a2 => exact HR9.out); (case a4 => exact new_cell1 rfl); (case a5 => simp [Value.oneCell']); (case a6 => (simp only [maxLen]; omega)); (case a7 => omega); (case a9 => (simp; omega)); (case a8 => simp); intro g9 cap w9 hown hgr hlies hlt9; rw [← bytesC_snoc HV.out] at hown; have HOWN := Lib.hid hown; have HS9 := Lib.hid (HS.out.bel HOL.out (Nat.le_refl _) ((HB9.out.mono hs9).grown hgr (by have := HB9.out.size; omega) fun b e => (HR.out.lt b e).1)); clear hown hgr hlies hlt9)
      go_wp2_with fail
      go_roundg (l.length - (k + 1))
      case measure => omega
      case rel => exact ⟨k + 1, _, _, by omega, rfl, by go_num, rfl, HS9.out, HOWN.out⟩
    · obtain rfl : k = l.length := by omega
      have hr := HR.out
      rw [List.take_length] at hr
      have hconv := conv_bytes l hr
      obtain ⟨t0, t1, t2, t3, y0, y1, y2, y3⟩ := Blk4.of HS.out.res
      clear hr
      go_wp2_with fail
      refine bodyPost_ret (res3 rfl _ _ (w.heap.size + 1) 48 _ (0, 0) rfl (four_set _ _ _ _ _ _ _ _ _ _ _ HS.out.res) datumD datumSize) rfl ?_
      exact HS.out.leaf (s := s + 1) HE.out _ _ _ _ _ _ _
end Go.Proofs.Ythbnhneibpoooaa
