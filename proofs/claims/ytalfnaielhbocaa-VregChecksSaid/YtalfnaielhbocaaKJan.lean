/- data.all, data.copied, data.Make. -/
import Derived.Deep.AppendLies
import Derived.Outline
import Derived.Test.YtalfnaielhbocaaKJam
set_option linter.unusedVariables false
set_option linter.unusedSimpArgs false
set_option linter.unnecessarySimpa false
namespace Go.Proofs.Ytalfnaielhbocaa
open Go.RowKit
set_option maxRecDepth 100000
set_option linter.unusedVariables false
set_option linter.unusedSimpArgs false
theorem infoDatum : (Try.prog.info? 31).map (fun i => (i.zero, i.size, i.bytes)) = some (some (.agg #[.int .i64 0, .int .i64 0, .string ⟨#[]⟩, .slice none 0 0]), 4, 56) := by kernel_rfl
theorem datumD : ∃ fs, Try.prog.underlying 31 = some (.struct fs) := ⟨_, Try.underlying31⟩
theorem datumSize : (Try.prog.info? 31).map (·.size) = some 4 := by kernel_rfl
def flatD (M : List (Dt × Value)) : List Value := M.flatMap fun m => [.int .i64 m.1.kind, .int .i64 m.1.int, .string m.1.text, m.2]
theorem flatD_append (M N : List (Dt × Value)) : flatD (M ++ N) = flatD M ++ flatD N := by simp [flatD]
theorem flatD_length : ∀ M : List (Dt × Value), (flatD M).length = M.length * 4
  | [] => rfl
  | m :: M => by
    have e : flatD (m :: M) = [.int .i64 m.1.kind, .int .i64 m.1.int, .string m.1.text, m.2] ++ flatD M := rfl
    rw [e, List.length_append, flatD_length M]
    simp; omega
theorem flatD_at : ∀ (M : List (Dt × Value)) (i : Nat) (m : Dt × Value), M[i]? = some m → (flatD M)[i * 4]? = some (.int .i64 m.1.kind) ∧ (flatD M)[i * 4 + 1]? = some (.int .i64 m.1.int) ∧ (flatD M)[i * 4 + 2]? = some (.string m.1.text) ∧ (flatD M)[i * 4 + 3]? = some m.2
  | [], i, m, h => by simp at h
  | x :: M, 0, m, h => by
    simp at h
    subst h
    exact ⟨rfl, rfl, rfl, rfl⟩
  | x :: M, i + 1, m, h => by
    have e : flatD (x :: M) = .int .i64 x.1.kind :: .int .i64 x.1.int :: .string x.1.text :: x.2 :: flatD M := rfl
    have h2 : M[i]? = some m := by simpa using h
    have := flatD_at M i m h2
    rw [e, show (i + 1) * 4 = i * 4 + 1 + 1 + 1 + 1 by omega]
    simpa using this
def Dt.valOf (d : Dt) (lv : Value) : Value := .agg #[.int .i64 d.kind, .int .i64 d.int, .string d.text, lv]
structure OwnD (w : World) (B : Nat) (v : Value) (M : List (Dt × Value)) : Prop where
  row : w.ownsRow B 31 4 v M.length (flatD M)
  kids : ∀ m ∈ M, DtAt w (fun b => B ≤ b ∧ v.ownBlock ≠ some b) (m.1.valOf m.2) m.1
theorem OwnD.nil (w : World) (B : Nat) : OwnD w B (.slice none 0 0) [] := ⟨World.ownsRow_nil _ _ _ _, by simp⟩
theorem OwnD.bel {w w' : World} {B N : Nat} {v : Value} {M : List (Dt × Value)} (h : OwnD w B v M) (hb : Below N w w') (hN : w.heap.size ≤ N) : OwnD w' B v M :=
  ⟨own_same h.row fun b e => hb.block b (Nat.lt_of_lt_of_le (h.row.lt b e).2 hN), fun m hm => (h.kids m hm).bel hb hN⟩
theorem OwnD.data {w : World} {B : Nat} {v : Value} {M : List (Dt × Value)} (h : OwnD w B v M) (k i : Int) (t : ByteArray) : DtAt w (fun b => B ≤ b) (.agg #[.int .i64 k, .int .i64 i, .string t, v]) (.mk k i t (M.map (·.1))) := by
  rcases own_shape h.row with ⟨rfl, _, e⟩ | ⟨g, cap, rfl, h0, h1, h2, h3⟩
  · have hl := flatD_length M
    rw [e] at hl
    have : M = [] := List.eq_nil_of_length_eq_zero (by simp at hl; omega)
    subst this
    exact .nil k i t
  · have hrow := h.row
    have e : M.length = (M.map (·.1)).length := by simp
    rw [e]
    refine .row k i t g 0 cap _ (fun j => (M[j]?.map (·.2)).getD (.slice none 0 0)) h0 h1 (fun j x hx => ?_) (fun j x hx => ?_)
    · rw [List.getElem?_map] at hx
      obtain ⟨m, hm, rfl⟩ : ∃ m, M[j]? = some m ∧ m.1 = x := by simpa using hx
      have hj : j < M.length := (List.getElem?_eq_some_iff.1 hm).1
      obtain ⟨f0, f1, f2, f3⟩ := flatD_at M j m hm
      rw [Nat.zero_add]
      refine ⟨?_, ?_, ?_, ?_⟩
      · rw [hrow.cellAt (j * 4) (by omega)]; exact f0
      · rw [hrow.cellAt (j * 4 + 1) (by omega)]; exact f1
      · rw [hrow.cellAt (j * 4 + 2) (by omega)]; exact f2
      · rw [hrow.cellAt (j * 4 + 3) (by omega), f3, hm]; rfl
    · rw [List.getElem?_map] at hx
      obtain ⟨m, hm, rfl⟩ : ∃ m, M[j]? = some m ∧ m.1 = x := by simpa using hx
      rw [hm]
      exact (h.kids m (List.mem_of_getElem? hm)).mono fun b hb _ => hb.1
theorem OwnD.snoc {w w' : World} {B : Nat} {v : Value} {M : List (Dt × Value)} (h : OwnD w B v M) {x : Dt} {lv : Value} {S : Nat → Prop} (hx : DtAt w S (x.valOf lv) x) (hS : ∀ b, S b → b < w.heap.size → B ≤ b ∧ v.ownBlock ≠ some b) {g cap : Nat} (hown : w'.ownsRow B 31 4 (.slice (some ⟨g, 0, none⟩) (M.length + 1) cap) (M.length + 1) (flatD M ++ [.int .i64 x.kind, .int .i64 x.int, .string x.text, lv])) (hg : w.grownBy w' v.ownBlock) (hl : v.ownBlock = some g ∨ g = w.heap.size) :
    OwnD w' B (.slice (some ⟨g, 0, none⟩) (M.length + 1) cap) (M ++ [(x, lv)]) := by
  have key : ∀ (y : Dt) (ly : Value) (S' : Nat → Prop), DtAt w S' (y.valOf ly) y → (∀ b, S' b → b < w.heap.size → B ≤ b ∧ v.ownBlock ≠ some b) → DtAt w' (fun b => B ≤ b ∧ (Value.slice (some ⟨g, 0, none⟩) (M.length + 1) cap).ownBlock ≠ some b) (y.valOf ly) y := by
    intro y ly S' hy hS'
    refine hy.same (fun b hb hlt => ⟨(hS' b hb hlt).1, fun e => ?_⟩) hg.size (fun b hb hlt => hg.block b hlt (fun e => (hS' b hb hlt).2 e.symm))
    simp [Value.ownBlock] at e
    rcases hl with hl | hl
    · exact (hS' b hb hlt).2 (by rw [hl, e])
    · omega
  refine ⟨?_, fun m hm => ?_⟩
  · rw [List.length_append, flatD_append]
    exact hown
  · rw [List.mem_append, List.mem_singleton] at hm
    rcases hm with hm | rfl
    · exact key m.1 m.2 _ (h.kids m hm) fun b hb _ => hb
    · exact key x lv S hx hS
theorem DtAt.slice {w : World} {S : Nat → Prop} {k i : Int} {t : ByteArray} {lv : Value} {d : Dt} (h : DtAt w S (.agg #[.int .i64 k, .int .i64 i, .string t, lv]) d) : ∃ a c, lv = .slice a d.list.length c := by
  obtain ⟨a, c, e, _⟩ := h.inv
  exact ⟨a, c, by simp at e; exact e.2.2.2⟩
def CopyPost (x : Dt) (w : World) (e : Ending) (w' : World) : Prop := ∃ lv, e = .returned (x.valOf lv) ∧ DtAt w' (fun b => w.heap.size ≤ b) (x.valOf lv) x ∧ Below w.heap.size w w'
def AllPost (l : List Dt) (w : World) (e : Ending) (w' : World) : Prop := ∃ (v : Value) (M : List (Dt × Value)), e = .returned v ∧ OwnD w' w.heap.size v M ∧ M.map (·.1) = l ∧ Below w.heap.size w w'
theorem new4 (w : World) (a b c d : Value) (t : TypeId) : (w.alloc (.cells #[a, b, c, d] t)).cell? ⟨w.heap.size, 0, none⟩ = some a ∧ (w.alloc (.cells #[a, b, c, d] t)).cell? ⟨w.heap.size, 1, none⟩ = some b ∧ (w.alloc (.cells #[a, b, c, d] t)).cell? ⟨w.heap.size, 2, none⟩ = some c ∧ (w.alloc (.cells #[a, b, c, d] t)).cell? ⟨w.heap.size, 3, none⟩ = some d := by
  refine ⟨?_, ?_, ?_, ?_⟩ <;> rw [World.cell?_alloc_at _ _ _ _ rfl] <;> rfl
theorem new_cells4 (w : World) (a b c d : Value) (t : TypeId) : ∀ (j : Nat) (u : Value), [a, b, c, d][j]? = some u → (w.alloc (.cells #[a, b, c, d] t)).cell? ((⟨w.heap.size, 0, none⟩ : Addr).add j) = some u := by
  intro j u hu
  rw [Addr.add_mid, Nat.zero_add, cell_of_row _ _ _ _ _ _ (heap_alloc_new w _)]
  simpa using hu
set_option maxHeartbeats 4000000 in
set_option maxRecDepth 100000 in
theorem dall_step (l : List Dt) (lv : Value) (w : World) (hl : DtAt w (fun _ => True) (.agg #[.int .i64 0, .int .i64 0, .string ⟨#[]⟩, lv]) (.mk 0 0 ⟨#[]⟩ l)) (hlen : l.length ≤ 1000000)
    (IH : ∀ x ∈ l, ∀ (vx : Value) (w1 : World), DtAt w1 (fun _ => True) vx x → Calls Try.prog 86 #[vx] w1 (CopyPost x w1)) :
    Calls Try.prog 87 #[lv] w (AllPost l w) := by
  obtain ⟨a, c, hv, hat⟩ := hl.inv
  simp only [Dt.kind_mk, Dt.int_mk, Dt.text_mk, Dt.list_mk] at hv hat
  obtain rfl : lv = .slice a l.length c := by simpa using hv
  obtain ⟨i0, hi, hz0, hz1, hz2⟩ := info_parts infoDatum
  have HI := Lib.hid hi
  have HZ0 := Lib.hid hz0
  have HZ1 := Lib.hid hz1
  have HZ2 := Lib.hid hz2
  have HAT := Lib.hid hat
  have HIH := Lib.hid IH
  clear hi hz0 hz1 hz2 hat IH hl hv
  unfold AllPost
  unfold CopyPost Dt.valOf at HIH
  go_enter Try.func87, Try.ntmps87
  go_wp2_with fail
  go_loopg [3, 8] l.length (fun gk s3 i wx => ∃ (k : Nat) (M : List (Dt × Value)) (a3 : Option Addr) (c3 : Nat), k ≤ l.length ∧ gk = l.length - k ∧ i = .int .i64 k ∧ s3 = .slice a3 k c3 ∧ Hid (OwnD wx w.heap.size (.slice a3 k c3) M) ∧ Hid (M.map (·.1) = l.take k) ∧ Hid (Below w.heap.size w wx))
  case atStart => exact ⟨0, [], none, 0, Nat.zero_le _, rfl, rfl, rfl, OwnD.nil _ _, rfl, Below.refl _ _⟩
  case round =>
    obtain ⟨k, M, a3, c3, hk, rfl, rfl, rfl, HM, HT, HB⟩ := hrel
    by_cases hlt : k < l.length
    · obtain ⟨x, hx⟩ : ∃ x, l[k]? = some x := ⟨_, List.getElem?_eq_getElem hlt⟩
      rcases HAT.out with ⟨_, _, e⟩ | ⟨b1, o1, rfl, hb1, _, hat1⟩
      · rw [e] at hx; simp at hx
      obtain ⟨lx, p0, p1, p2, p3, hdx⟩ := hat1 k x hx
      obtain ⟨al, cl, rfl⟩ := hdx.slice
      have d0 := (HB.out.cell (p := ⟨b1, o1 + k * 4, none⟩) hb1).trans p0
      have d1 := (HB.out.cell (p := ⟨b1, o1 + k * 4 + 1, none⟩) hb1).trans p1
      have d2 := (HB.out.cell (p := ⟨b1, o1 + k * 4 + 2, none⟩) hb1).trans p2
      have d3 := (HB.out.cell (p := ⟨b1, o1 + k * 4 + 3, none⟩) hb1).trans p3
      have HC := Lib.hid (fun w1 hb => HIH.out x (List.mem_of_getElem? hx) _ w1 ((hdx.bel HB.out (Nat.le_refl _)).bel (N := wr.heap.size) (w' := w1) hb (Nat.le_refl _)))
      have HX := Lib.hid hx
      have hMl : M.length = k := by
        have := congrArg List.length HT.out
        simpa [Nat.min_eq_left hk] using this
      have HML := Lib.hid hMl
      have hg1 : (0 : Int) ≤ k := by omega
      have hg2 : (k : Int) < l.length := by omega
      have hgw : IntKind.i64.wrap ((k : Int) + 1) = k + 1 := by rw [IntKind.wrap_i64]; omega
      clear hat1 p0 p1 p2 p3 hdx hx hMl
      go_wp2_with fail
      with_reducible refine (HC.out _ ((Below.refl _ _).alloc (Nat.le_refl _) _)).mono ?_
      rintro e w5 ⟨ly, rfl, hdy, hb5⟩
      obtain ⟨ay, cy, rfl⟩ := hdy.slice
      have HDY := Lib.hid hdy
      have HB5 := Lib.hid hb5
      clear hdy hb5
      have HM5 : Hid (OwnD (w5.alloc (.cells #[.int .i64 x.kind, .int .i64 x.int, .string x.text, .slice ay x.list.length cy] 31)) w.heap.size (.slice a3 k c3) M) := (HM.out.bel (w' := w5) (N := wr.heap.size) (((Below.refl _ _).alloc (Nat.le_refl _) _).trans (HB5.out.mono (by simp))) (Nat.le_refl _)).bel ((Below.refl _ _).alloc (Nat.le_refl _) _) (Nat.le_refl _)
      have HB6 : Hid (Below w.heap.size w (w5.alloc (.cells #[.int .i64 x.kind, .int .i64 x.int, .string x.text, .slice ay x.list.length cy] 31))) := (HB.out.trans ((((Below.refl _ _).alloc (Nat.le_refl _) _).trans (HB5.out.mono (by simp))).mono HB.out.size)).alloc (Nat.le_trans HB.out.size (Nat.le_trans (by simp) HB5.out.size)) _
      have HBL : Hid (∀ b, (Value.slice a3 k c3).ownBlock = some b → w.heap.size ≤ b ∧ b < wr.heap.size) := fun b e => HM.out.row.lt b e
      have HDY6 : Hid (DtAt (w5.alloc (.cells #[.int .i64 x.kind, .int .i64 x.int, .string x.text, .slice ay x.list.length cy] 31)) (fun b => wr.heap.size + 1 ≤ b) (.agg #[.int .i64 x.kind, .int .i64 x.int, .string x.text, .slice ay x.list.length cy]) x) := (HDY.out.bel ((Below.refl _ _).alloc (Nat.le_refl _) _) (Nat.le_refl _)).mono fun b hb _ => by simpa using hb
      have hrow := HM5.out.row
      rw [HML.out] at hrow
      have HROW := Lib.hid hrow
      have hwr := HB.out.size
      clear hrow
      go_wp2_with (at_builtin; refine wpList_append_lies _ rfl (.tmp 12) (.tmp 15) 29 rfl w.heap.size 31 i0 _ 4 56 Try.underlying29 HI.out HZ0.out HZ1.out HZ2.out rfl (by decide) (.slice a3 k c3) k (flatD M) rfl ?a2 ⟨w5.heap.size, 0, none⟩ 1 1 [.int .i64 x.kind, .int .i64 x.int, .string x.text, .slice ay x.list.length cy] rfl rfl ?a4 ?a5 (by decide) ?a6 ?a7 HB6.out.size (w5.heap.size + 1) ?a8 ?_; (case a2 => exact HROW.out); (case a4 => exact new_cells4 _ _ _ _ _ _); (case a5 => simp [Value.oneCell']); (case a6 => (simp only [maxLen]; omega)); (case a7 => omega); (case a8 => simp); intro g cap w6 hown hgr hlies hlt6)
      have hM6 : OwnD w6 w.heap.size (.slice (some ⟨g, 0, none⟩) (k + 1) cap) (M ++ [(x, .slice ay x.list.length cy)]) := by
        have h := HM5.out.snoc (x := x) (lv := .slice ay x.list.length cy) HDY6.out (fun b hb _ => ⟨by omega, fun e => by have := HBL.out b e; omega⟩) (by rw [HML.out]; exact hown) hgr (by simpa using hlies)
        rw [HML.out] at h
        exact h
      have hB7 : Below w.heap.size w w6 := HB6.out.grown hgr HB6.out.size (fun b e => (HBL.out b e).1)
      have HM6 := Lib.hid hM6
      have HB7 := Lib.hid hB7
      clear hM6 hB7 hown hgr hlies hlt6
      go_wp2_with fail
      go_roundg (l.length - (k + 1))
      case measure => omega
      case rel => exact ⟨k + 1, _, _, _, by omega, rfl, by go_num, rfl, HM6.out, by rw [List.map_append, HT.out, List.take_add_one, HX.out]; rfl, HB7.out⟩
    · obtain rfl : k = l.length := by omega
      go_wp2_with fail
      go_ret
      refine ⟨_, M, rfl, HM.out, ?_, HB.out⟩
      rw [HT.out, List.take_length]
end Go.Proofs.Ytalfnaielhbocaa
namespace Go.Proofs.Ytalfnaielhbocaa
open Go.RowKit
set_option maxRecDepth 100000
set_option linter.unusedVariables false
set_option linter.unusedSimpArgs false
theorem OwnD.shape {w : World} {B : Nat} {v : Value} {M : List (Dt × Value)} (h : OwnD w B v M) : ∃ a c, v = .slice a M.length c := own_slice h.row
structure Blk4 (w : World) (g : Nat) (a b c d : Value) : Prop where
  c0 : w.cell? ⟨g, 0, none⟩ = some a
  c1 : w.cell? ⟨g, 1, none⟩ = some b
  c2 : w.cell? ⟨g, 2, none⟩ = some c
  c3 : w.cell? ⟨g, 3, none⟩ = some d
  f0 : w.frozen? ⟨g, 0, none⟩ = false
  f1 : w.frozen? ⟨g, 1, none⟩ = false
  f2 : w.frozen? ⟨g, 2, none⟩ = false
  f3 : w.frozen? ⟨g, 3, none⟩ = false
theorem Blk4.of {w : World} {g : Nat} {a b c d : Value} {t : TypeId} (h : w.heap[g]? = some (.cells #[a, b, c, d] t (0, 0))) : Blk4 w g a b c d := by
  have q0 := cell_of_row w _ 0 _ _ _ h
  have q1 := cell_of_row w _ 1 _ _ _ h
  have q2 := cell_of_row w _ 2 _ _ _ h
  have q3 := cell_of_row w _ 3 _ _ _ h
  simp only [List.getElem?_toArray, List.getElem?_cons_zero, List.getElem?_cons_succ] at q0 q1 q2 q3
  exact ⟨q0, q1, q2, q3, frozen_of_row w _ 0 _ _ h, frozen_of_row w _ 1 _ _ h, frozen_of_row w _ 2 _ _ h, frozen_of_row w _ 3 _ _ h⟩
theorem four_set (w : World) (g : Nat) (t : TypeId) (a b c d x y z u : Value) (h : w.heap[g]? = some (.cells #[a, b, c, d] t (0, 0))) :
    ((((w.setCell ⟨g, 0, none⟩ x).setCell ⟨g, 1, none⟩ y).setCell ⟨g, 2, none⟩ z).setCell ⟨g, 3, none⟩ u).heap[g]? = some (.cells #[x, y, z, u] t (0, 0)) := by
  have e1 := heap_setCell_same _ g 0 _ _ x h
  have e2 := heap_setCell_same _ g 1 _ _ y e1
  have e3 := heap_setCell_same _ g 2 _ _ z e2
  exact heap_setCell_same _ g 3 _ _ u e3
theorem below_four {B : Nat} {w w1 : World} {g : Nat} (h : Below B w w1) (hg : B ≤ g) (x y z u : Value) : Below B w ((((w1.setCell ⟨g, 0, none⟩ x).setCell ⟨g, 1, none⟩ y).setCell ⟨g, 2, none⟩ z).setCell ⟨g, 3, none⟩ u) :=
  (((h.setCell (p := ⟨g, 0, none⟩) hg _).setCell (p := ⟨g, 1, none⟩) hg _).setCell (p := ⟨g, 2, none⟩) hg _).setCell (p := ⟨g, 3, none⟩) hg _
theorem four_other (w1 : World) (g : Nat) (x y z u : Value) (b : Nat) (hb : b ≠ g) : ((((w1.setCell ⟨g, 0, none⟩ x).setCell ⟨g, 1, none⟩ y).setCell ⟨g, 2, none⟩ z).setCell ⟨g, 3, none⟩ u).heap[b]? = w1.heap[b]? := by
  rw [heap_setCell_other _ _ _ _ hb, heap_setCell_other _ _ _ _ hb, heap_setCell_other _ _ _ _ hb, heap_setCell_other _ _ _ _ hb]
theorem DtAt.four {w1 : World} {S : Nat → Prop} {v : Value} {d : Dt} (h : DtAt w1 S v d) {g : Nat} (hg : ∀ b, S b → b ≠ g) (x y z u : Value) : DtAt ((((w1.setCell ⟨g, 0, none⟩ x).setCell ⟨g, 1, none⟩ y).setCell ⟨g, 2, none⟩ z).setCell ⟨g, 3, none⟩ u) S v d :=
  h.same (fun _ h _ => h) (by simp [World.setCell]) fun b hb _ => four_other _ _ _ _ _ _ _ (hg b hb)
theorem DtAt.head {w : World} {S : Nat → Prop} {k i k' i' : Int} {t t' : ByteArray} {v : Value} {l : List Dt} (h : DtAt w S (.agg #[.int .i64 k, .int .i64 i, .string t, v]) (.mk k i t l)) : DtAt w S (.agg #[.int .i64 k', .int .i64 i', .string t', v]) (.mk k' i' t' l) := by
  cases h with
  | nil => exact .nil _ _ _
  | row k i t b off c l lv hS hb hc hd => exact .row _ _ _ b off c l lv hS hb hc hd
set_option maxHeartbeats 4000000 in
set_option maxRecDepth 100000 in
theorem copied_step (d : Dt) (vd : Value) (w : World) (hd : DtAt w (fun _ => True) vd d)
    (HALL : ∀ (lv : Value) (w1 : World), DtAt w1 (fun _ => True) (.agg #[.int .i64 0, .int .i64 0, .string ⟨#[]⟩, lv]) (.mk 0 0 ⟨#[]⟩ d.list) → Calls Try.prog 87 #[lv] w1 (AllPost d.list w1)) :
    Calls Try.prog 86 #[vd] w (CopyPost d w) := by
  obtain ⟨a, c, rfl, _⟩ := hd.inv
  obtain ⟨dk, di, dt, dl⟩ := d
  simp only [Dt.kind_mk, Dt.int_mk, Dt.text_mk, Dt.list_mk] at *
  have HC := Lib.hid (fun (w1 : World) (hb : Below w.heap.size w w1) => HALL (.slice a dl.length c) w1 (hd.bel hb (Nat.le_refl _)).head)
  clear HALL hd
  unfold CopyPost Dt.valOf
  unfold AllPost at HC
  simp only [Dt.kind_mk, Dt.int_mk, Dt.text_mk]
  go_enter Try.func86, Try.ntmps86
  go_wp2_with fail
  with_reducible refine (HC.out _ (((Below.refl _ _).alloc (Nat.le_refl _) _).alloc (by simp) _)).mono ?_
  rintro e w3 ⟨v, M, rfl, hM, hMl, hb⟩
  obtain ⟨av, cv, rfl⟩ := hM.shape
  have hz1 : w3.heap[w.heap.size]? = some (.cells #[.int .i64 dk, .int .i64 di, .string dt, .slice a dl.length c] 31 (0, 0)) := by
    rw [hb.block _ (by simp; omega), heap_alloc_old _ _ (by simp)]
    exact heap_new (by simp)
  have hz2 : w3.heap[w.heap.size + 1]? = some (.cells #[.int .i64 0, .int .i64 0, .string ⟨#[]⟩, .slice none 0 0] 31 (0, 0)) := by
    rw [hb.block _ (by simp)]
    exact heap_new (by simp)
  obtain ⟨q0, q1, q2, q3, k0, k1, k2, k3⟩ := Blk4.of hz1
  obtain ⟨r0, r1, r2, r3, m0, m1, m2, m3⟩ := Blk4.of hz2
  have HM := Lib.hid hM
  have HML := Lib.hid hMl
  have HB : Hid (Below w.heap.size w w3) := (((Below.refl _ _).alloc (Nat.le_refl _) _).alloc (by simp) _).trans (hb.mono (by simp; omega))
  have HZ2 := Lib.hid hz2
  clear hM hMl hb hz1 hz2
  go_wp2_with fail
  have hz3 : (w3.setCell ⟨w.heap.size, 3, none⟩ (.slice av M.length cv)).heap[w.heap.size + 1]? = some (.cells #[.int .i64 0, .int .i64 0, .string ⟨#[]⟩, .slice none 0 0] 31 (0, 0)) := by
    rw [heap_setCell_other _ _ _ _ (by show w.heap.size + 1 ≠ w.heap.size; omega)]
    exact HZ2.out
  refine bodyPost_ret (res1 rfl _ _ (w.heap.size + 1) 31 _ (0, 0) rfl (four_set _ _ _ _ _ _ _ _ _ _ _ hz3) datumD datumSize) rfl ?_
  have hD := HM.out.data dk di dt
  rw [HML.out] at hD
  refine ⟨_, rfl, ?_, below_four (HB.out.setCell (p := ⟨w.heap.size, 3, none⟩) (Nat.le_refl _) _) (by omega) _ _ _ _⟩
  refine hD.same (fun b hb _ => by simp at hb; omega) (by simp [World.setCell]) fun b hb _ => ?_
  simp at hb
  rw [four_other _ _ _ _ _ _ _ (by omega), heap_setCell_other _ _ _ _ (by show b ≠ w.heap.size; omega)]
theorem copied_n : ∀ (n : Nat) (d : Dt) (vd : Value) (w : World), d.depth ≤ n → Dt.Short d → DtAt w (fun _ => True) vd d → Calls Try.prog 86 #[vd] w (CopyPost d w)
  | 0, d, vd, w, hn, hs, hd => by
    rw [Dt.depth_list] at hn
    omega
  | n + 1, d, vd, w, hn, hs, hd => by
    rw [Dt.depth_list] at hn
    refine copied_step d vd w hd fun lv w1 h1 => dall_step d.list lv w1 h1 hs.len fun x hx vx w2 h2 => copied_n n x vx w2 ?_ (hs.of hx) h2
    have := Dt.depth_mem _ x hx
    omega
theorem copied_any (d : Dt) (vd : Value) (w : World) (hs : Dt.Short d) (hd : DtAt w (fun _ => True) vd d) : Calls Try.prog 86 #[vd] w (CopyPost d w) := copied_n d.depth d vd w (Nat.le_refl _) hs hd
theorem dall_any (l : List Dt) (lv : Value) (w : World) (hs : Dt.Short (.mk 0 0 ⟨#[]⟩ l)) (hd : DtAt w (fun _ => True) (.agg #[.int .i64 0, .int .i64 0, .string ⟨#[]⟩, lv]) (.mk 0 0 ⟨#[]⟩ l)) : Calls Try.prog 87 #[lv] w (AllPost l w) :=
  dall_step l lv w hd hs.len fun x hx vx w1 h1 => copied_any x vx w1 (hs.of hx) h1
end Go.Proofs.Ytalfnaielhbocaa
