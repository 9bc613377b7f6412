/- The reference's machine of expressions: what Run needs. -/
import Derived.Deep.RegionHeld3
import Derived.Deep.DeepCutAuto
import Derived.Test.YtkplkgdfphbldaaGreatFJbj
import Derived.Test.YtkplkgdfphbldaaGreatFJak
import Derived.Test.YtkplkgdfphbldaaGreatFJay
import Derived.Test.YtkplkgdfphbldaaGreatFJat
import Derived.Test.YtkplkgdfphbldaaGreatFJal
set_option linter.unusedVariables false
set_option linter.unusedSimpArgs false
set_option linter.unnecessarySimpa false
namespace Go.Proofs.YtkplkgdfphbldaaGreat
open Go.RowKit
set_option linter.unusedVariables false
set_option linter.unusedSimpArgs false
set_option maxRecDepth 100000
namespace Rn
theorem outcomeD : ∃ fs, Tryz.prog.underlying 51 = some (.struct fs) := ⟨_, Tryz.underlying51⟩
theorem outcomeSize : (Tryz.prog.info? 51).map (·.size) = some 8 := by kernel_rfl
structure Res8 (w : World) (b : Nat) (a0 a1 a2 a3 a4 a5 a6 a7 : Value) : Prop where
  c0 : w.cell? ⟨b, 0, none⟩ = some a0
  c1 : w.cell? ⟨b, 1, none⟩ = some a1
  c2 : w.cell? ⟨b, 2, none⟩ = some a2
  c3 : w.cell? ⟨b, 3, none⟩ = some a3
  c4 : w.cell? ⟨b, 4, none⟩ = some a4
  c5 : w.cell? ⟨b, 5, none⟩ = some a5
  c6 : w.cell? ⟨b, 6, none⟩ = some a6
  c7 : w.cell? ⟨b, 7, none⟩ = some a7
  f : ∀ i, w.frozen? ⟨b, i, none⟩ = false
theorem Res8.of {w : World} {b : Nat} {a0 a1 a2 a3 a4 a5 a6 a7 : Value} {ty : TypeId} (h : w.heap[b]? = some (.cells #[a0, a1, a2, a3, a4, a5, a6, a7] ty (0, 0))) : Res8 w b a0 a1 a2 a3 a4 a5 a6 a7 :=
  ⟨cell_of_row w _ 0 _ _ _ h, cell_of_row w _ 1 _ _ _ h, cell_of_row w _ 2 _ _ _ h, cell_of_row w _ 3 _ _ _ h, cell_of_row w _ 4 _ _ _ h, cell_of_row w _ 5 _ _ _ h, cell_of_row w _ 6 _ _ _ h, cell_of_row w _ 7 _ _ _ h, fun i => frozen_of_row w _ i _ _ h⟩
theorem out_set (w : World) (g : Nat) (a0 a1 a2 a3 a4 a5 a6 a7 b0 b1 b2 b3 b4 b5 b6 b7 : Value) {t : TypeId} (h : w.heap[g]? = some (.cells #[a0, a1, a2, a3, a4, a5, a6, a7] t (0, 0))) :
    ((((((((w.setCell ⟨g, 0, none⟩ b0).setCell ⟨g, 1, none⟩ b1).setCell ⟨g, 2, none⟩ b2).setCell ⟨g, 3, none⟩ b3).setCell ⟨g, 4, none⟩ b4).setCell ⟨g, 5, none⟩ b5).setCell ⟨g, 6, none⟩ b6).setCell ⟨g, 7, none⟩ b7).heap[g]? = some (.cells #[b0, b1, b2, b3, b4, b5, b6, b7] t (0, 0)) := by
  have h0 : (w.setCell ⟨g, 0, none⟩ b0).heap[g]? = some (.cells #[b0, a1, a2, a3, a4, a5, a6, a7] t (0, 0)) := heap_setCell_same _ g 0 _ _ b0 h
  have h1 : ((w.setCell ⟨g, 0, none⟩ b0).setCell ⟨g, 1, none⟩ b1).heap[g]? = some (.cells #[b0, b1, a2, a3, a4, a5, a6, a7] t (0, 0)) := heap_setCell_same _ g 1 _ _ b1 h0
  have h2 : (((w.setCell ⟨g, 0, none⟩ b0).setCell ⟨g, 1, none⟩ b1).setCell ⟨g, 2, none⟩ b2).heap[g]? = some (.cells #[b0, b1, b2, a3, a4, a5, a6, a7] t (0, 0)) := heap_setCell_same _ g 2 _ _ b2 h1
  have h3 : ((((w.setCell ⟨g, 0, none⟩ b0).setCell ⟨g, 1, none⟩ b1).setCell ⟨g, 2, none⟩ b2).setCell ⟨g, 3, none⟩ b3).heap[g]? = some (.cells #[b0, b1, b2, b3, a4, a5, a6, a7] t (0, 0)) := heap_setCell_same _ g 3 _ _ b3 h2
  have h4 : (((((w.setCell ⟨g, 0, none⟩ b0).setCell ⟨g, 1, none⟩ b1).setCell ⟨g, 2, none⟩ b2).setCell ⟨g, 3, none⟩ b3).setCell ⟨g, 4, none⟩ b4).heap[g]? = some (.cells #[b0, b1, b2, b3, b4, a5, a6, a7] t (0, 0)) := heap_setCell_same _ g 4 _ _ b4 h3
  have h5 : ((((((w.setCell ⟨g, 0, none⟩ b0).setCell ⟨g, 1, none⟩ b1).setCell ⟨g, 2, none⟩ b2).setCell ⟨g, 3, none⟩ b3).setCell ⟨g, 4, none⟩ b4).setCell ⟨g, 5, none⟩ b5).heap[g]? = some (.cells #[b0, b1, b2, b3, b4, b5, a6, a7] t (0, 0)) := heap_setCell_same _ g 5 _ _ b5 h4
  have h6 : (((((((w.setCell ⟨g, 0, none⟩ b0).setCell ⟨g, 1, none⟩ b1).setCell ⟨g, 2, none⟩ b2).setCell ⟨g, 3, none⟩ b3).setCell ⟨g, 4, none⟩ b4).setCell ⟨g, 5, none⟩ b5).setCell ⟨g, 6, none⟩ b6).heap[g]? = some (.cells #[b0, b1, b2, b3, b4, b5, b6, a7] t (0, 0)) := heap_setCell_same _ g 6 _ _ b6 h5
  have h7 : ((((((((w.setCell ⟨g, 0, none⟩ b0).setCell ⟨g, 1, none⟩ b1).setCell ⟨g, 2, none⟩ b2).setCell ⟨g, 3, none⟩ b3).setCell ⟨g, 4, none⟩ b4).setCell ⟨g, 5, none⟩ b5).setCell ⟨g, 6, none⟩ b6).setCell ⟨g, 7, none⟩ b7).heap[g]? = some (.cells #[b0, b1, b2, b3, b4, b5, b6, b7] t (0, 0)) := heap_setCell_same _ g 7 _ _ b7 h6
  exact h7
structure Boxed (w w1 : World) (cs : Array Value) (t : TypeId) : Prop where
  eq : w1 = w.alloc (.cells cs t)
  below : Below w.heap.size w w1
  size : w1.heap.size = w.heap.size + 1
  blk : w1.heap[w.heap.size]? = some (.cells cs t (0, 0))
theorem boxed (w : World) (cs : Array Value) (t : TypeId) : ∃ w1, Boxed w w1 cs t := ⟨_, rfl, (Below.refl _ _).alloc (Nat.le_refl _) _, by simp, heap_alloc_new w _⟩
theorem cell_set_block (w : World) (v : Value) {m b i j : Nat} (h : b ≠ m) : (w.setCell ⟨m, i, none⟩ v).cell? ⟨b, j, none⟩ = w.cell? ⟨b, j, none⟩ := World.cell?_of_block (a := ⟨b, j, none⟩) (heap_setCell_other _ _ _ _ h)
theorem conv_out {w : World} {a : Option Addr} {n cc : Nat} (l : List UInt8) (hn : n = l.length) (h : w.ownsRow 0 5 1 (.slice a n cc) n (l.map fun b => Value.int .u8 b.toNat)) (k : Nat) : (convert 39 9 (.slice a n cc)).run Tryz.prog (w.drewN k) = .ok (.string ⟨l.toArray⟩) (w.drewN k) := by
  subst hn
  have h := own_drewN h k
  rcases own_shape h with ⟨e, e2, e3⟩ | ⟨g, cap, e, h0, h1, h2, h3⟩
  · simp at e
    obtain ⟨rfl, h0, rfl⟩ := e
    have : l = [] := h0
    subst this
    exact run_convert_bytes_nil _ 39 5 Tryz.underlying39 Tryz.underlying5 _ _ 9 Tryz.underlying9
  · simp at e
    obtain ⟨rfl, rfl⟩ := e
    have hmap : (l.map fun b => (b.toNat : Int)).map (fun x => UInt8.ofNat x.toNat) = l := by
      rw [List.map_map]
      conv => rhs; rw [← List.map_id l]
      apply List.map_congr_left
      intro b _
      simp
    have := run_convert_bytes_arg (w.drewN k) 39 5 Tryz.underlying39 Tryz.underlying5 g 0 l.length cc (l.map fun b => (b.toNat : Int)) (by simp) (fun i hi => ?_) 9 Tryz.underlying9
    · rw [this]
      unfold strOfNums
      rw [hmap]
    · rw [Nat.zero_add, h.cellAt i (by omega)]
      simp [List.getD, List.getElem?_eq_getElem hi]
theorem below8 {B : Nat} {w0 w : World} {g : Nat} (h : Below B w0 w) (hg : B ≤ g) (b0 b1 b2 b3 b4 b5 b6 b7 : Value) : Below B w0 ((((((((w.setCell ⟨g, 0, none⟩ b0).setCell ⟨g, 1, none⟩ b1).setCell ⟨g, 2, none⟩ b2).setCell ⟨g, 3, none⟩ b3).setCell ⟨g, 4, none⟩ b4).setCell ⟨g, 5, none⟩ b5).setCell ⟨g, 6, none⟩ b6).setCell ⟨g, 7, none⟩ b7) :=
  (((((((h.setCell (p := ⟨g, 0, none⟩) hg _).setCell (p := ⟨g, 1, none⟩) hg _).setCell (p := ⟨g, 2, none⟩) hg _).setCell (p := ⟨g, 3, none⟩) hg _).setCell (p := ⟨g, 4, none⟩) hg _).setCell (p := ⟨g, 5, none⟩) hg _).setCell (p := ⟨g, 6, none⟩) hg _).setCell (p := ⟨g, 7, none⟩) hg _
theorem drew_at {w : World} {g : Nat} {o : Option Obj} (h : w.heap[g]? = o) : w.drew.heap[g]? = o := h
theorem five_at {w : World} {q g i0 i1 i2 i3 i4 : Nat} {u0 u1 u2 u3 u4 : Value} {o : Option Obj} (hn : g ≠ q) (h : w.heap[g]? = o) : (((((w.setCell ⟨q, i0, none⟩ u0).setCell ⟨q, i1, none⟩ u1).setCell ⟨q, i2, none⟩ u2).setCell ⟨q, i3, none⟩ u3).setCell ⟨q, i4, none⟩ u4).heap[g]? = o := by
  rw [heap_setCell_other _ _ _ _ hn, heap_setCell_other _ _ _ _ hn, heap_setCell_other _ _ _ _ hn, heap_setCell_other _ _ _ _ hn, heap_setCell_other _ _ _ _ hn]
  exact h
def wfB (s : St) : Bool := match s.vals.getLast? with
  | none => false
  | some v => decide (v.kind ≠ 8)
def outR (s : St) : Option Out := if s.err ≠ 0 then some ⟨s.err, s.out, none, s.steps⟩ else if wfB s = false then none else match s.vals.getLast? with | none => none | some v => some ⟨0, s.out, Hp.tellT s.T v, s.steps⟩
def runR (n : Nat) (e : Ex) (input : List UInt8) (most : Nat) : Option Out := (turns most n (start e input)).bind outR
def RunPost (o : Out) (w : World) (e : Ending) (w' : World) : Prop :=
  ∃ (d : Dt) (a : Option Addr) (c : Nat), e = .returned (.agg #[.int .i64 o.err, .string ⟨o.output.toArray⟩, .int .i64 d.kind, .int .i64 d.int, .string d.text, .slice a d.list.length c, .bool o.shown.isSome, .int .i64 o.steps]) ∧ DtAt w' (fun b => w.heap.size ≤ b) (.agg #[.int .i64 d.kind, .int .i64 d.int, .string d.text, .slice a d.list.length c]) d ∧ Below w.heap.size w w' ∧ d = o.shown.getD (.mk 0 0 ⟨#[]⟩ [])
def st0 (input : List UInt8) : St := ⟨[], [], [], input, [], ⟨4, 0, ⟨#[]⟩⟩, 0, [], [], 0⟩
def wh0 (h : Nat) : Wh := ⟨h, .slice none 0 0, .slice none 0 0, .slice none 0 0, .slice none 0 0, .slice none 0 0, [], []⟩
def rho0 (h m : Nat) : Nat → Nat := fun b => if b = m then 1 else if b = h then 5 else 0
theorem RnO.init {w0 W : World} {h m most : Nat} (input : List UInt8) (hB : Below w0.heap.size w0 W) (hh : w0.heap.size ≤ h) (hhm : h < m) (hh1 : W.heap[h]? = some (.cells #[.slice none 0 0] 76 (0, 0))) (hm1 : W.heap[m]? = some (.cells (mCells (st0 input) most (wh0 h)) 83 (0, 0))) :
    RnO w0 W (rho0 h m) m most (st0 input) (wh0 h) := by
  have hl1 := (Array.getElem?_eq_some_iff.1 hh1).1
  have hl2 := (Array.getElem?_eq_some_iff.1 hm1).1
  have hr : ∀ b, rho0 h m b ≠ 0 → b = m ∨ b = h := fun b e => by
    unfold rho0 at e
    split at e
    · exact .inl (by assumption)
    · split at e
      · exact .inr (by assumption)
      · exact absurd rfl e
  have h5 : rho0 h m h = 5 := by unfold rho0; rw [if_neg (by omega), if_pos rfl]
  have hnil : ∀ r ty size, RowR W (rho0 h m) r ty size 0 (.slice none 0 0) [] := fun r ty size => RowR.none W _ r ty size
  refine ⟨⟨⟨.slice none 0 0, [], ⟨hh1, (hnil 0 _ 2).1, (fun m hm => nomatch hm), (by simp [Value.ownBlock]), (fun m hm => nomatch hm), (fun m hm => nomatch hm), List.Pairwise.nil, ⟨h5, (fun b e => by cases e), (fun m hm => nomatch hm)⟩, fun b e => ?_⟩, rfl⟩, hnil _ _ _, hnil _ _ _, hnil _ _ _, hnil _ _ _, hnil _ _ _, rfl, rfl, (fun x hx => nomatch hx), (fun x hx => nomatch hx), by unfold rho0; rw [if_pos rfl], fun b e => ?_, hB⟩, hm1⟩
  · rcases hr b (by rw [e]; decide) with rfl | rfl <;> omega
  · rcases hr b e with rfl | rfl <;> omega
theorem turns_cases {most n : Nat} {s r : St} (h : turns most n s = some r) : ∃ k, n = k + 1 ∧ May most s ∧ ((r = s ∧ (s.err ≠ 0 ∨ (s.err = 0 ∧ s.todo = []))) ∨ (s.err = 0 ∧ s.todo ≠ [] ∧ ∃ s1, next most s = some s1 ∧ turns most k s1 = some r)) := by
  cases n with
  | zero => cases h
  | succ k =>
    refine ⟨k, rfl, ?_⟩
    unfold turns at h
    cases hm : may most s with
    | false => rw [hm, if_pos rfl] at h; cases h
    | true =>
      rw [hm, if_neg (by decide)] at h
      refine ⟨may_of hm, ?_⟩
      split at h
      · rename_i hc
        cases h
        refine .inl ⟨rfl, ?_⟩
        by_cases he : s.err = 0
        · exact .inr ⟨he, hc.resolve_left (fun h => h he)⟩
        · exact .inl he
      · rename_i hc
        obtain ⟨s1, h1, h2⟩ := Option.bind_eq_some_iff.1 h
        exact .inr ⟨by by_cases he : s.err = 0; exact he; exact absurd (.inl he) hc, fun h => hc (.inr h), s1, h1, h2⟩
structure Lp (w wx : World) (m R most : Nat) (r : St) (gk : Nat) : Prop where
  ex : ∃ ρ q s, RnO w wx ρ m most s q ∧ turns most gk s = some r ∧ ρ R = 0 ∧ wx.heap[R]? = some (.cells #[.int .i64 0, .string ⟨#[]⟩, .int .i64 0, .int .i64 0, .string ⟨#[]⟩, .slice none 0 0, .bool false, .int .i64 0] 51 (0, 0))
theorem tc_set {w : World} {m g q i : Nat} {a b v0 v1 v2 u : Value} (h : w.cell? ⟨m, 0, none⟩ = some a ∧ w.cell? ⟨m, 11, none⟩ = some b ∧ w.cell? ⟨g, 0, none⟩ = some v0 ∧ w.cell? ⟨g, 1, none⟩ = some v1 ∧ w.cell? ⟨g, 2, none⟩ = some v2) (h1 : m ≠ q) (h2 : g ≠ q) :
    (w.setCell ⟨q, i, none⟩ u).cell? ⟨m, 0, none⟩ = some a ∧ (w.setCell ⟨q, i, none⟩ u).cell? ⟨m, 11, none⟩ = some b ∧ (w.setCell ⟨q, i, none⟩ u).cell? ⟨g, 0, none⟩ = some v0 ∧ (w.setCell ⟨q, i, none⟩ u).cell? ⟨g, 1, none⟩ = some v1 ∧ (w.setCell ⟨q, i, none⟩ u).cell? ⟨g, 2, none⟩ = some v2 :=
  ⟨(cell_set_block _ _ h1).trans h.1, (cell_set_block _ _ h1).trans h.2.1, (cell_set_block _ _ h2).trans h.2.2.1, (cell_set_block _ _ h2).trans h.2.2.2.1, (cell_set_block _ _ h2).trans h.2.2.2.2⟩
theorem tc_of {w0 w : World} {ρ : Nat → Nat} {m most : Nat} {s : St} {q : Wh} {v : Hp.V} (h : RnO w0 w ρ m most s q) (hv : s.vals.getLast? = some v) : ∃ g c, (w.cell? ⟨m, 0, none⟩ = some (.pointer (some ⟨q.h, 0, none⟩)) ∧ w.cell? ⟨m, 11, none⟩ = some (.slice (some ⟨g, 0, none⟩) s.vals.length c) ∧ w.cell? ⟨g, 0, none⟩ = some (.int .i64 v.kind) ∧ w.cell? ⟨g, 1, none⟩ = some (.int .i64 v.int) ∧ w.cell? ⟨g, 2, none⟩ = some (.string v.text)) ∧ g < w.heap.size ∧ ρ g = 8 ∧ 0 < s.vals.length ∧ q.vv = .slice (some ⟨g, 0, none⟩) s.vals.length c := by
  have hvr : ∃ l, s.vals.reverse = v :: l := by
    rw [List.getLast?_eq_head?_reverse] at hv
    cases h : s.vals.reverse with
    | nil => rw [h] at hv; cases hv
    | cons u l => rw [h] at hv; cases hv; exact ⟨l, rfl⟩
  obtain ⟨l, hl⟩ := hvr
  have hlen : 0 < s.vals.length := by rw [← List.length_reverse, hl]; simp
  have hrow := h.c.vals
  have hrow1 := hrow.1
  rcases own_shape hrow1 with ⟨_, e2, _⟩ | ⟨g, c, e, h0, h1, h2, h3⟩
  · omega
  · rw [e] at hrow1
    rw [hl] at hrow1
    refine ⟨g, c, ⟨h.cell 0, by rw [h.cell 11, ← e]; rfl, ?_, ?_, ?_⟩, h1, hrow.2 g (by rw [e]; rfl), hlen, e⟩
    · rw [hrow1.cellAt 0 (by omega)]; rfl
    · rw [hrow1.cellAt 1 (by omega)]; rfl
    · rw [hrow1.cellAt 2 (by omega)]; rfl
end Rn
end Go.Proofs.YtkplkgdfphbldaaGreat
namespace Go.Proofs.YtkplkgdfphbldaaGreat
open Go.RowKit
set_option linter.unusedVariables false
set_option linter.unusedSimpArgs false
set_option maxRecDepth 100000
namespace Rn
set_option maxHeartbeats 16000000 in
theorem Run_any {w : World} (e : Ex) (nv dl kv : Value) (input : List UInt8) (most n : Nat) (o : Out) (hmost : most ≤ 1000000) (hx : ExAt w (exV e.kind e.name nv e.const dl kv) e) (hrun : runR n e input most = some o)
    (hC : ∀ W, Below w.heap.size w W → Calls Tryz.prog 27 #[.agg #[.int .i64 e.kind, .string e.name, nv, .int .i64 e.const.kind, .int .i64 e.const.int, .string e.const.text, dl, kv]] W fun e w' => e = .returned (.int .i64 0) ∧ Below W.heap.size W w')
    (hF : ∀ W, Below w.heap.size w W → Calls Tryz.prog 30 #[.agg #[.int .i64 e.kind, .string e.name, nv, .int .i64 e.const.kind, .int .i64 e.const.int, .string e.const.text, dl, kv]] W fun e w' => (∃ a c, e = .returned (.slice a 0 c)) ∧ Below W.heap.size W w') :
    Calls Tryz.prog 34 #[.agg #[.int .i64 e.kind, .string e.name, nv, .int .i64 e.const.kind, .int .i64 e.const.int, .string e.const.text, dl, kv], .string ⟨input.toArray⟩, .int .i64 most] w (RunPost o w) := by
  have g1 : decide ((most : Int) < 0) = false := decide_eq_false (by omega)
  have g2 : decide ((1000000 : Int) < most) = false := decide_eq_false (by omega)
  have g2' : decide (1000000 < most) = false := decide_eq_false (by omega)
  obtain ⟨r, hr, ho⟩ := Option.bind_eq_some_iff.1 hrun
  obtain ⟨⟨na, nn, nc, rfl⟩, ⟨da, dn, dc, rfl⟩, ⟨ka, kn, kc, rfl⟩⟩ := ExAt.slices hx
  obtain ⟨w1, B1⟩ := boxed w #[.int .i64 e.kind, .string e.name, .slice na nn nc, .int .i64 e.const.kind, .int .i64 e.const.int, .string e.const.text, .slice da dn dc, .slice ka kn kc] 28
  obtain ⟨w2, B2⟩ := boxed w1 #[.int .i64 0, .string ⟨#[]⟩, .int .i64 0, .int .i64 0, .string ⟨#[]⟩, .slice none 0 0, .bool false, .int .i64 0] 51
  have hs1 := B1.size
  have hs2 := B2.size
  have hB2 : Below w.heap.size w w2 := B1.below.trans (B2.below.mono B1.below.size)
  have HCK := Lib.hid (hC w2 hB2)
  have HFR := Lib.hid hF
  have HE := Lib.hid hx
  have HR := Lib.hid hr
  have HO := Lib.hid ho
  have HB1 := Lib.hid B1
  have HB2 := Lib.hid B2
  have HB := Lib.hid hB2
  have k1 := (B2.below.block w.heap.size (by omega)).trans B1.blk
  have HK1 := Lib.hid k1
  have hl2 : w.heap.size < w2.heap.size := by omega
  have x0 := cell_of_row w2 w.heap.size 0 _ _ _ k1
  have x1 := cell_of_row w2 w.heap.size 1 _ _ _ k1
  have x2 := cell_of_row w2 w.heap.size 2 _ _ _ k1
  have x3 := cell_of_row w2 w.heap.size 3 _ _ _ k1
  have x4 := cell_of_row w2 w.heap.size 4 _ _ _ k1
  have x5 := cell_of_row w2 w.heap.size 5 _ _ _ k1
  have x6 := cell_of_row w2 w.heap.size 6 _ _ _ k1
  have x7 := cell_of_row w2 w.heap.size 7 _ _ _ k1
  simp only [List.getElem?_toArray, List.getElem?_cons_zero, List.getElem?_cons_succ] at x0 x1 x2 x3 x4 x5 x6 x7
  clear B1 B2 hB2 hC hF hx hr ho hrun k1
  go_enter Tryz.func34, Tryz.ntmps34
  go_wp2_with fail
  rw [← HB1.out.eq, ← HB2.out.eq]
  go_wp2_with fail
  with_reducible refine HCK.out.mono ?_
  rintro e2 w3 ⟨rfl, hb3⟩
  have HB3 : Hid (Below w.heap.size w w3) := HB.out.trans (hb3.mono HB.out.size)
  have k1 := (hb3.block w.heap.size hl2).trans HK1.out
  have HK3 := Lib.hid k1
  have hr3 := (hb3.block w1.heap.size (by omega)).trans HB2.out.blk
  have HR3 := Lib.hid hr3
  have hs3 := hb3.size
  have hl3 : w.heap.size < w3.heap.size := by omega
  have x0 := cell_of_row w3 w.heap.size 0 _ _ _ k1
  have x1 := cell_of_row w3 w.heap.size 1 _ _ _ k1
  have x2 := cell_of_row w3 w.heap.size 2 _ _ _ k1
  have x3 := cell_of_row w3 w.heap.size 3 _ _ _ k1
  have x4 := cell_of_row w3 w.heap.size 4 _ _ _ k1
  have x5 := cell_of_row w3 w.heap.size 5 _ _ _ k1
  have x6 := cell_of_row w3 w.heap.size 6 _ _ _ k1
  have x7 := cell_of_row w3 w.heap.size 7 _ _ _ k1
  simp only [List.getElem?_toArray, List.getElem?_cons_zero, List.getElem?_cons_succ] at x0 x1 x2 x3 x4 x5 x6 x7
  clear hb3 k1 hr3
  go_wp2_with fail
  with_reducible refine (HFR.out _ HB3.out).mono ?_
  rintro e2 w4 ⟨⟨fa, fc, rfl⟩, hb4⟩
  have HB4 : Hid (Below w.heap.size w w4) := HB3.out.trans (hb4.mono HB3.out.size)
  have k1 := (hb4.block w.heap.size hl3).trans HK3.out
  have HK4 := Lib.hid k1
  have hr4 := (hb4.block w1.heap.size (by omega)).trans HR3.out
  have HR4 := Lib.hid hr4
  have hs4 := hb4.size
  have hl4 : w.heap.size < w4.heap.size := by omega
  have x0 := cell_of_row w4 w.heap.size 0 _ _ _ k1
  have x1 := cell_of_row w4 w.heap.size 1 _ _ _ k1
  have x2 := cell_of_row w4 w.heap.size 2 _ _ _ k1
  have x3 := cell_of_row w4 w.heap.size 3 _ _ _ k1
  have x4 := cell_of_row w4 w.heap.size 4 _ _ _ k1
  have x5 := cell_of_row w4 w.heap.size 5 _ _ _ k1
  have x6 := cell_of_row w4 w.heap.size 6 _ _ _ k1
  have x7 := cell_of_row w4 w.heap.size 7 _ _ _ k1
  simp only [List.getElem?_toArray, List.getElem?_cons_zero, List.getElem?_cons_succ] at x0 x1 x2 x3 x4 x5 x6 x7
  obtain ⟨w5, B5⟩ := boxed w4 #[.slice none 0 0] 76
  obtain ⟨w6, B6⟩ := boxed w5 #[.pointer (some ⟨w4.heap.size, 0, none⟩), .slice none 0 0, .slice none 0 0, .string ⟨input.toArray⟩, .slice none 0 0, .int .i64 4, .int .i64 0, .string ⟨#[]⟩, .int .i64 0, .int .i64 most, .slice none 0 0, .slice none 0 0, .int .i64 0] 83
  have hs5 := B5.size
  have hs6 := B6.size
  have HB5 := Lib.hid B5
  have HB6 := Lib.hid B6
  have hB6 : Below w4.heap.size w4 w6 := B5.below.trans (B6.below.mono B5.below.size)
  have HX0 : Hid (RnO w w6 (rho0 w4.heap.size w5.heap.size) w5.heap.size most (st0 input) (wh0 w4.heap.size)) := RnO.init input (HB4.out.trans (hB6.mono HB4.out.size)) HB4.out.size (by omega) ((B6.below.block w4.heap.size (by omega)).trans B5.blk) B6.blk
  have k1 := (hB6.block w.heap.size hl4).trans HK4.out
  have hr6 := (hB6.block w1.heap.size (by omega)).trans HR4.out
  have HR6 := Lib.hid hr6
  have hl6 : w.heap.size < w6.heap.size := by omega
  have y0 := cell_of_row w6 w.heap.size 0 _ _ _ k1
  have y1 := cell_of_row w6 w.heap.size 1 _ _ _ k1
  have y2 := cell_of_row w6 w.heap.size 2 _ _ _ k1
  have y3 := cell_of_row w6 w.heap.size 3 _ _ _ k1
  have y4 := cell_of_row w6 w.heap.size 4 _ _ _ k1
  have y5 := cell_of_row w6 w.heap.size 5 _ _ _ k1
  have y6 := cell_of_row w6 w.heap.size 6 _ _ _ k1
  have y7 := cell_of_row w6 w.heap.size 7 _ _ _ k1
  simp only [List.getElem?_toArray, List.getElem?_cons_zero, List.getElem?_cons_succ] at y0 y1 y2 y3 y4 y5 y6 y7
  have HTD : Hid ((st0 input).todo.length ≤ 10000000) := by show 0 ≤ _; omega
  have HNL := Lib.hid (RowR.none w6 (rho0 w4.heap.size w5.heap.size) 6 125 2)
  have hz6 : Hid (rho0 w4.heap.size w5.heap.size (w.heap.size + 1) = 0) := by
    unfold Hid rho0
    rw [if_neg (by omega), if_neg (by omega)]
  clear hb4 k1 hr4 hr6 B5 B6 hB6
  go_wp2_with fail
  rw [← HB5.out.eq, ← HB6.out.eq]
  obtain ⟨R, hR⟩ : ∃ R, R = w.heap.size + 1 := ⟨_, rfl⟩
  have hR6 := HR6.out
  rw [hs1, ← hR] at hR6
  have hz7 := hz6.out
  rw [← hR] at hz7
  have HRR : Hid (w.heap.size ≤ R) := by unfold Hid; omega
  have HPU := Lib.hid (push_v HX0.out 0 0 e [] (.slice na nn nc) (.slice da dn dc) (.slice ka kn kc) (.slice none 0 0) HE.out HNL.out HTD.out)
  rw [← hR, ← hs5]
  have HR7 := Lib.hid hR6
  have HZ7 := Lib.hid hz7
  obtain ⟨m, hm5⟩ : ∃ m, m = w5.heap.size := ⟨_, rfl⟩
  rw [← hm5] at HX0 HPU HZ7 ⊢
  have hR6l : R < w6.heap.size := (Array.getElem?_eq_some_iff.1 hR6).1
  clear x0 x1 x2 x3 x4 x5 x6 x7 y0 y1 y2 y3 y4 y5 y6 y7 hR6 hz7 hz6 HR6 hs6 hs5 hs4 hs3 hs2 hs1 hl2 hl3 hl4 hl6 hR hm5
  with_reducible refine HPU.out.mono ?_
  rintro e2 w7 ⟨rfl, ρ7, q7, o7, m7⟩
  have hL0 : Lp w w7 m R most r n := by
    have hk := m7.keep R hR6l (.inl HZ7.out)
    exact ⟨⟨ρ7, q7, _, o7, HR.out, hk.2.trans HZ7.out, hk.1.trans HR7.out⟩⟩
  have HL0 := Lib.hid hL0
  clear hL0 o7 m7
  go_wp2_with fail
  go_loopg [] n (fun gk wx => Hid (Lp w wx m R most r gk))
  case atStart => exact HL0.out
  case round =>
    obtain ⟨ρ, q, s, X, ht, hzR, hres⟩ := (hrel : Hid _).out.ex
    obtain ⟨k, rfl, hmay, hcs⟩ := turns_cases ht
    have hmr := X.lt
    have c12 : wr.cell? ⟨m, 12, none⟩ = some (.int .i64 s.err) := X.cell 12
    rcases hcs with ⟨hre, he | ⟨hz, htd⟩⟩ | ⟨he, htd, s1, hs1, ht1⟩
    · have HOUT : Hid (⟨s.err, s.out, none, s.steps⟩ = o) := by
        have h := HO.out
        rw [hre] at h
        unfold outR at h
        rw [if_pos he] at h
        exact Option.some.inj h
      have k1 : (s.err == 0) = false := beq_eq_false_iff_ne.2 he
      have hrow := X.c.out.1
      obtain ⟨ao, co, hov⟩ := X.c.out.slice
      rw [hov] at hrow
      have hconv := fun k => conv_out s.out rfl hrow k
      have hconv1 : (convert 39 9 (.slice ao s.out.length co)).run Tryz.prog wr.drew = .ok (.string ⟨s.out.toArray⟩) wr.drew := hconv 1
      have hconv0 : (convert 39 9 (.slice ao s.out.length co)).run Tryz.prog wr = .ok (.string ⟨s.out.toArray⟩) wr := hconv 0
      have hconvA : ∀ o, (convert 39 9 (.slice ao s.out.length co)).run Tryz.prog (wr.alloc o).drew = .ok (.string ⟨s.out.toArray⟩) (wr.alloc o).drew := fun o => conv_out s.out rfl (hrow.alloc o) 1
      have c4 : wr.cell? ⟨m, 4, none⟩ = some (.slice ao s.out.length co) := by rw [X.cell 4, ← hov]; rfl
      have c6 : wr.cell? ⟨m, 8, none⟩ = some (.int .i64 s.steps) := X.cell 8
      have hl7 : R < wr.heap.size := (Array.getElem?_eq_some_iff.1 hres).1
      obtain ⟨z0, z1, z2, z3, z4, z5, z6, z7, zf⟩ := Res8.of hres
      have y0 := zf 0
      have y1 := zf 1
      have y2 := zf 2
      have y3 := zf 3
      have y4 := zf 4
      have y5 := zf 5
      have y6 := zf 6
      have y7 := zf 7
      have HRES := Lib.hid hres
      have HBB := Lib.hid X.c.below
      have HX := Lib.hid X
      have hmR : m ≠ R := fun e => by have := X.c.me; rw [e, hzR] at this; cases this
      obtain ⟨w7, B7⟩ := boxed wr #[.int .i64 s.err, .string ⟨s.out.toArray⟩, .int .i64 0, .int .i64 0, .string ⟨#[]⟩, .slice none 0 0, .bool false, .int .i64 s.steps] 51
      have hs7 := B7.size
      have X7 := HX.out.bel B7.below
      have m12 : w7.cell? ⟨m, 12, none⟩ = some (.int .i64 s.err) := X7.cell 12
      have hm7 := X7.lt
      have hres7 := (B7.below.block R hl7).trans HRES.out
      have hl8 : R < w7.heap.size := by omega
      have hl9 : wr.heap.size < w7.heap.size := by omega
      have hn7 : wr.heap.size ≠ R := by omega
      have hn8 : R ≠ wr.heap.size := by omega
      have HRES7 := Lib.hid hres7
      have HB7 := Lib.hid B7
      obtain ⟨t0, t1, t2, t3, t4, t5, t6, t7, tf⟩ := Res8.of hres7
      have tf0 := tf 0
      have tf1 := tf 1
      have tf2 := tf 2
      have tf3 := tf 3
      have tf4 := tf 4
      have tf5 := tf 5
      have tf6 := tf 6
      have tf7 := tf 7
      obtain ⟨q0, q1, q2, q3, q4, q5, q6, q7, qf⟩ := Res8.of B7.blk
      clear hres7 tf qf B7 X7 X hrow hconv hres zf hov
      go_wp2_with fail
      go_region
      rw [← HB7.out.eq]
      go_wp2_with fail
      refine bodyPost_ret (res1 rfl _ _ R 51 _ (0, 0) rfl (drew_at (out_set _ _ _ _ _ _ _ _ _ _ _ _ _ _ _ _ _ _ HRES7.out)) outcomeD outcomeSize) rfl ?_
      rw [← HOUT.out]
      refine ⟨.mk 0 0 ⟨#[]⟩ [], none, 0, ?_, .nil _ _ _, ?_, ?_⟩
      · rfl
      · exact (below8 (HBB.out.trans (HB7.out.below.mono HBB.out.size)) HRR.out _ _ _ _ _ _ _ _).drew
      · rfl
    · have hmt : q.MT = [] := by
        have := X.c.mt
        rw [htd] at this
        simpa using this
      obtain ⟨ta, tc, htv⟩ := X.c.todo.slice
      rw [hmt] at htv
      have c10 : wr.cell? ⟨m, 10, none⟩ = some (.slice ta 0 tc) := by
        rw [X.cell 10]
        show some q.tv = _
        rw [htv]
        rfl
      have k1 : (s.err == 0) = true := by rw [hz]; rfl
      have hwf : wfB s = true := by
        have h := HO.out
        rw [hre] at h
        unfold outR at h
        rw [if_neg (by simpa using hz)] at h
        split at h
        · cases h
        · rename_i hw
          exact (by simpa using hw)
      obtain ⟨v, hv, HOUT⟩ : ∃ v, s.vals.getLast? = some v ∧ Hid (⟨s.err, s.out, Hp.tellT s.T v, s.steps⟩ = o) := by
        have h := HO.out
        rw [hre] at h
        unfold outR at h
        rw [if_neg (by simpa using hz)] at h
        split at h
        · cases h
        · split at h
          · cases h
          · rename_i v hv
            exact ⟨v, hv, by rw [hz]; exact Option.some.inj h⟩
      have htx : v.text.size ≤ maxLen := hmay.sm.text v (List.mem_of_getLast? hv)
      have hrow := X.c.out.1
      obtain ⟨ao, co, hov⟩ := X.c.out.slice
      rw [hov] at hrow
      have hconv := fun k => conv_out s.out rfl hrow k
      have hconv1 : (convert 39 9 (.slice ao s.out.length co)).run Tryz.prog wr.drew = .ok (.string ⟨s.out.toArray⟩) wr.drew := hconv 1
      have hconv0 : (convert 39 9 (.slice ao s.out.length co)).run Tryz.prog wr = .ok (.string ⟨s.out.toArray⟩) wr := hconv 0
      have hconvA : ∀ o, (convert 39 9 (.slice ao s.out.length co)).run Tryz.prog (wr.alloc o).drew = .ok (.string ⟨s.out.toArray⟩) (wr.alloc o).drew := fun o => conv_out s.out rfl (hrow.alloc o) 1
      have c4 : wr.cell? ⟨m, 4, none⟩ = some (.slice ao s.out.length co) := by rw [X.cell 4, ← hov]; rfl
      have c6 : wr.cell? ⟨m, 8, none⟩ = some (.int .i64 s.steps) := X.cell 8
      have hl7 : R < wr.heap.size := (Array.getElem?_eq_some_iff.1 hres).1
      obtain ⟨z0, z1, z2, z3, z4, z5, z6, z7, zf⟩ := Res8.of hres
      have y0 := zf 0
      have y1 := zf 1
      have y2 := zf 2
      have y3 := zf 3
      have y4 := zf 4
      have y5 := zf 5
      have y6 := zf 6
      have y7 := zf 7
      have HRES := Lib.hid hres
      have HBB := Lib.hid X.c.below
      have HX := Lib.hid X
      have hmR : m ≠ R := fun e => by have := X.c.me; rw [e, hzR] at this; cases this
      obtain ⟨w7, B7⟩ := boxed wr #[.int .i64 s.err, .string ⟨s.out.toArray⟩, .int .i64 0, .int .i64 0, .string ⟨#[]⟩, .slice none 0 0, .bool false, .int .i64 s.steps] 51
      have hs7 := B7.size
      have X7 := HX.out.bel B7.below
      have m12 : w7.cell? ⟨m, 12, none⟩ = some (.int .i64 s.err) := X7.cell 12
      have hm7 := X7.lt
      have hres7 := (B7.below.block R hl7).trans HRES.out
      have hl8 : R < w7.heap.size := by omega
      have hl9 : wr.heap.size < w7.heap.size := by omega
      have hn7 : wr.heap.size ≠ R := by omega
      have hn8 : R ≠ wr.heap.size := by omega
      have HRES7 := Lib.hid hres7
      have HB7 := Lib.hid B7
      obtain ⟨g, vc, hsc, hgl, hg8, hvl, _⟩ := tc_of X7 hv
      have hgn : g ≠ wr.heap.size := fun e => by
        have := (X.c.lo g (by rw [hg8]; decide)).2
        omega
      have hgR : g ≠ R := fun e => by rw [e, hzR] at hg8; cases hg8
      have hmn : m ≠ wr.heap.size := by have := X.lt; omega
      have hvl2 : (0 : Int) < s.vals.length := by omega
      obtain ⟨m0, m11, g0, g1, g2⟩ := id hsc
      have HF7 : Hid (w7.cell? ⟨m, 0, none⟩ = some (.pointer (some ⟨q.h, 0, none⟩)) ∧ w7.cell? ⟨m, 11, none⟩ = some (.slice (some ⟨g, 0, none⟩) s.vals.length vc) ∧ w7.cell? ⟨g, 0, none⟩ = some (.int .i64 v.kind) ∧ w7.cell? ⟨g, 1, none⟩ = some (.int .i64 v.int) ∧ w7.cell? ⟨g, 2, none⟩ = some (.string v.text)) := hsc
      have HF7a : Hid (w7.drew.drew.cell? ⟨m, 0, none⟩ = some (.pointer (some ⟨q.h, 0, none⟩)) ∧ w7.drew.drew.cell? ⟨m, 11, none⟩ = some (.slice (some ⟨g, 0, none⟩) s.vals.length vc) ∧ w7.drew.drew.cell? ⟨g, 0, none⟩ = some (.int .i64 v.kind) ∧ w7.drew.drew.cell? ⟨g, 1, none⟩ = some (.int .i64 v.int) ∧ w7.drew.drew.cell? ⟨g, 2, none⟩ = some (.string v.text)) := hsc
      have HF7b : Hid (w7.drew.cell? ⟨m, 0, none⟩ = some (.pointer (some ⟨q.h, 0, none⟩)) ∧ w7.drew.cell? ⟨m, 11, none⟩ = some (.slice (some ⟨g, 0, none⟩) s.vals.length vc) ∧ w7.drew.cell? ⟨g, 0, none⟩ = some (.int .i64 v.kind) ∧ w7.drew.cell? ⟨g, 1, none⟩ = some (.int .i64 v.int) ∧ w7.drew.cell? ⟨g, 2, none⟩ = some (.string v.text)) := hsc
      have HTL := Lib.hid (RTell_any v w7.drew.drew (X7.bel ((Below.refl _ _).drew.drew)).c.heap (by unfold wfB at hwf; rw [hv] at hwf; simpa using hwf) htx)
      unfold Hp.V.val at HTL
      obtain ⟨q0, q1, q2, q3, q4, q5, q6, q7, qf⟩ := Res8.of B7.blk
      have hbq := B7.blk
      have HBQ := Lib.hid hbq
      have X7L := Lib.hid X7
      have HSC := Lib.hid hsc
      rw [hz] at HB7 m12
      clear X7 B7 hres7 qf hbq X hrow hconv hres zf hov hsc
      go_wp2_with fail
      go_region
      rw [← HB7.out.eq]
      go_wp2_with fail
      go_region_held3 (fun w' => w'.cell? ⟨m, 0, none⟩ = some (.pointer (some ⟨q.h, 0, none⟩)) ∧ w'.cell? ⟨m, 11, none⟩ = some (.slice (some ⟨g, 0, none⟩) s.vals.length vc) ∧ w'.cell? ⟨g, 0, none⟩ = some (.int .i64 v.kind) ∧ w'.cell? ⟨g, 1, none⟩ = some (.int .i64 v.int) ∧ w'.cell? ⟨g, 2, none⟩ = some (.string v.text))
        (first | with_reducible exact HF7a.out | with_reducible exact HF7.out | with_reducible exact HF7b.out | with_reducible exact HF8.out | with_reducible exact HF9.out _ _ _ _ | with_reducible exact HF10.out _ _ _ _ _)
        (first
          | (go_at_call 57; (with_reducible refine HTL.out.mono ?_); rintro e w8 ⟨d, ad, cd, rfl, hdt, hb8, hde⟩; have hb78 : Below w7.heap.size w7 w8 := (((Below.refl _ _).drew).drew).trans hb8; have HDT := Lib.hid hdt; have HDE := Lib.hid hde; have HB78 := Lib.hid hb78; have X8 := X7L.out.bel hb78; have n1 := (hb78.cell (p := ⟨m, 0, none⟩) hm7).trans HSC.out.1; have n2 := (hb78.cell (p := ⟨m, 11, none⟩) hm7).trans HSC.out.2.1; have n3 := (hb78.cell (p := ⟨g, 0, none⟩) hgl).trans HSC.out.2.2.1; have n4 := (hb78.cell (p := ⟨g, 1, none⟩) hgl).trans HSC.out.2.2.2.1; have n5 := (hb78.cell (p := ⟨g, 2, none⟩) hgl).trans HSC.out.2.2.2.2; have HF8 : Hid (w8.cell? ⟨m, 0, none⟩ = some (.pointer (some ⟨q.h, 0, none⟩)) ∧ w8.cell? ⟨m, 11, none⟩ = some (.slice (some ⟨g, 0, none⟩) s.vals.length vc) ∧ w8.cell? ⟨g, 0, none⟩ = some (.int .i64 v.kind) ∧ w8.cell? ⟨g, 1, none⟩ = some (.int .i64 v.int) ∧ w8.cell? ⟨g, 2, none⟩ = some (.string v.text)) := ⟨n1, n2, n3, n4, n5⟩; have HF9 : Hid (∀ u0 u1 u2 u3 : Value, ((((w8.setCell ⟨wr.heap.size, 2, none⟩ u0).setCell ⟨wr.heap.size, 2 + 1, none⟩ u1).setCell ⟨wr.heap.size, 2 + 2, none⟩ u2).setCell ⟨wr.heap.size, 2 + 3, none⟩ u3).cell? ⟨m, 0, none⟩ = some (.pointer (some ⟨q.h, 0, none⟩)) ∧ ((((w8.setCell ⟨wr.heap.size, 2, none⟩ u0).setCell ⟨wr.heap.size, 2 + 1, none⟩ u1).setCell ⟨wr.heap.size, 2 + 2, none⟩ u2).setCell ⟨wr.heap.size, 2 + 3, none⟩ u3).cell? ⟨m, 11, none⟩ = some (.slice (some ⟨g, 0, none⟩) s.vals.length vc) ∧ ((((w8.setCell ⟨wr.heap.size, 2, none⟩ u0).setCell ⟨wr.heap.size, 2 + 1, none⟩ u1).setCell ⟨wr.heap.size, 2 + 2, none⟩ u2).setCell ⟨wr.heap.size, 2 + 3, none⟩ u3).cell? ⟨g, 0, none⟩ = some (.int .i64 v.kind) ∧ ((((w8.setCell ⟨wr.heap.size, 2, none⟩ u0).setCell ⟨wr.heap.size, 2 + 1, none⟩ u1).setCell ⟨wr.heap.size, 2 + 2, none⟩ u2).setCell ⟨wr.heap.size, 2 + 3, none⟩ u3).cell? ⟨g, 1, none⟩ = some (.int .i64 v.int) ∧ ((((w8.setCell ⟨wr.heap.size, 2, none⟩ u0).setCell ⟨wr.heap.size, 2 + 1, none⟩ u1).setCell ⟨wr.heap.size, 2 + 2, none⟩ u2).setCell ⟨wr.heap.size, 2 + 3, none⟩ u3).cell? ⟨g, 2, none⟩ = some (.string v.text)) := fun u0 u1 u2 u3 => tc_set (tc_set (tc_set (tc_set HF8.out hmn hgn) hmn hgn) hmn hgn) hmn hgn; have HF10 : Hid (∀ u0 u1 u2 u3 u4 : Value, (((((w8.setCell ⟨wr.heap.size, 2, none⟩ u0).setCell ⟨wr.heap.size, 2 + 1, none⟩ u1).setCell ⟨wr.heap.size, 2 + 2, none⟩ u2).setCell ⟨wr.heap.size, 2 + 3, none⟩ u3).setCell ⟨wr.heap.size, 6, none⟩ u4).cell? ⟨m, 0, none⟩ = some (.pointer (some ⟨q.h, 0, none⟩)) ∧ (((((w8.setCell ⟨wr.heap.size, 2, none⟩ u0).setCell ⟨wr.heap.size, 2 + 1, none⟩ u1).setCell ⟨wr.heap.size, 2 + 2, none⟩ u2).setCell ⟨wr.heap.size, 2 + 3, none⟩ u3).setCell ⟨wr.heap.size, 6, none⟩ u4).cell? ⟨m, 11, none⟩ = some (.slice (some ⟨g, 0, none⟩) s.vals.length vc) ∧ (((((w8.setCell ⟨wr.heap.size, 2, none⟩ u0).setCell ⟨wr.heap.size, 2 + 1, none⟩ u1).setCell ⟨wr.heap.size, 2 + 2, none⟩ u2).setCell ⟨wr.heap.size, 2 + 3, none⟩ u3).setCell ⟨wr.heap.size, 6, none⟩ u4).cell? ⟨g, 0, none⟩ = some (.int .i64 v.kind) ∧ (((((w8.setCell ⟨wr.heap.size, 2, none⟩ u0).setCell ⟨wr.heap.size, 2 + 1, none⟩ u1).setCell ⟨wr.heap.size, 2 + 2, none⟩ u2).setCell ⟨wr.heap.size, 2 + 3, none⟩ u3).setCell ⟨wr.heap.size, 6, none⟩ u4).cell? ⟨g, 1, none⟩ = some (.int .i64 v.int) ∧ (((((w8.setCell ⟨wr.heap.size, 2, none⟩ u0).setCell ⟨wr.heap.size, 2 + 1, none⟩ u1).setCell ⟨wr.heap.size, 2 + 2, none⟩ u2).setCell ⟨wr.heap.size, 2 + 3, none⟩ u3).setCell ⟨wr.heap.size, 6, none⟩ u4).cell? ⟨g, 2, none⟩ = some (.string v.text)) := fun u0 u1 u2 u3 u4 => tc_set (HF9.out u0 u1 u2 u3) hmn hgn; have hbq8 := (hb78.block wr.heap.size hl9).trans HBQ.out; have HBQ8 := Lib.hid hbq8; obtain ⟨r0, r1, r2, r3, r4, r5, r6, r7, rf⟩ := Res8.of hbq8; have rf2 := rf 2; have rf3 := rf 3; have rf4 := rf 4; have rf5 := rf 5; have rf6 := rf 6; have hres8 := (hb78.block R hl8).trans HRES7.out; have HRES8 := Lib.hid hres8; obtain ⟨t0, t1, t2, t3, t4, t5, t6, t7, tf⟩ := Res8.of hres8; have tf0 := tf 0; have tf1 := tf 1; have tf2 := tf 2; have tf3 := tf 3; have tf4 := tf 4; have tf5 := tf 5; have tf6 := tf 6; have tf7 := tf 7; have hl88 : R < w8.heap.size := Nat.lt_of_lt_of_le hl8 hb78.size; have hl98 : wr.heap.size < w8.heap.size := Nat.lt_of_lt_of_le hl9 hb78.size; have hm8 := X8.lt; have hg8 : g < w8.heap.size := Nat.lt_of_lt_of_le hgl hb78.size; clear hdt hb8 hde hb78 X8 hbq8 rf hres8 tf n1 n2 n3 n4 n5))
      all_goals
        go_wp2_with fail
        refine bodyPost_ret (res1 rfl _ _ R 51 _ (0, 0) rfl (out_set _ _ _ _ _ _ _ _ _ _ _ _ _ _ _ _ _ _ (five_at hn8 HRES8.out)) outcomeD outcomeSize) rfl ?_
        rw [← HOUT.out, hz]
        have hb8 : Below w.heap.size w w8 := (HBB.out.trans (HB7.out.below.mono HBB.out.size)).trans (HB78.out.mono (by have := HBB.out.size; omega))
        have hq : w.heap.size ≤ wr.heap.size := HBB.out.size
        refine ⟨d, ad, cd, ?_, ?_, ?_, HDE.out⟩
        · rfl
        · refine HDT.out.same (fun b h1 h2 => ?_) ?_ fun b h1 h2 => ?_
          · have h3 : w7.heap.size ≤ b := h1
            omega
          · simp [World.setCell]
          · have h3 : w7.heap.size ≤ b := h1
            have e1 : b ≠ wr.heap.size := by omega
            have e2 : b ≠ R := by omega
            rw [heap_setCell_other _ _ _ _ e2, heap_setCell_other _ _ _ _ e2, heap_setCell_other _ _ _ _ e2, heap_setCell_other _ _ _ _ e2, heap_setCell_other _ _ _ _ e2, heap_setCell_other _ _ _ _ e2, heap_setCell_other _ _ _ _ e2, heap_setCell_other _ _ _ _ e2, heap_setCell_other _ _ _ _ e1, heap_setCell_other _ _ _ _ e1, heap_setCell_other _ _ _ _ e1, heap_setCell_other _ _ _ _ e1, heap_setCell_other _ _ _ _ e1]
        · exact below8 (((((hb8.setCell (p := ⟨wr.heap.size, 2, none⟩) hq _).setCell (p := ⟨wr.heap.size, 3, none⟩) hq _).setCell (p := ⟨wr.heap.size, 4, none⟩) hq _).setCell (p := ⟨wr.heap.size, 5, none⟩) hq _).setCell (p := ⟨wr.heap.size, 6, none⟩) hq _) HRR.out _ _ _ _ _ _ _ _
    · have hl : 0 < s.todo.length := List.length_pos_iff.2 htd
      obtain ⟨ta, tc, htv⟩ := X.c.todo.slice
      have hml : q.MT.length = s.todo.length := by
        have := congrArg List.length X.c.mt
        simpa using this
      have c10 : wr.cell? ⟨m, 10, none⟩ = some (.slice ta s.todo.length tc) := by rw [X.cell 10, ← hml, ← htv]; rfl
      have k1 : (s.err == 0) = true := by rw [he]; rfl
      have hl2 : (0 : Int) < s.todo.length := by omega
      have HN := Lib.hid (next_any X hmost hmay.steps hmay.sm hmay.few hs1)
      have HZR := Lib.hid hzR
      have HRES := Lib.hid hres
      have hRl := (Array.getElem?_eq_some_iff.1 hres).1
      have HT1 := Lib.hid ht1
      clear X ht hmay hs1 ht1 hzR hres htv hml htd
      go_wp2_with fail
      with_reducible refine HN.out.mono ?_
      rintro e2 w8 ⟨rfl, ρ8, q8, o8, m8⟩
      have hL : Hid (Lp w w8 m R most r k) := by
        have hk := m8.keep R hRl (.inl HZR.out)
        exact ⟨⟨ρ8, q8, _, o8, HT1.out, hk.2.trans HZR.out, hk.1.trans HRES.out⟩⟩
      clear o8 m8
      go_wp2_with fail
      go_roundg k
      case measure => omega
      case rel => exact hL.out
end Rn
end Go.Proofs.YtkplkgdfphbldaaGreat
namespace Go.Proofs.YtkplkgdfphbldaaGreat
open Go.RowKit
set_option linter.unusedVariables false
set_option linter.unusedSimpArgs false
set_option maxRecDepth 100000
namespace Ew
open Rn
set_option maxHeartbeats 8000000 in
theorem rhas_any (q : Int) (e : Ex) : ∀ {w : World} {na : Option Addr} {nc : Nat} {da : Option Addr} {dn dc : Nat} {ka : Option Addr} {kc : Nat}, e.size ≤ 100000 → Op w e na nc da dn dc ka kc →
    Calls Tryz.prog 12 #[.agg #[.int .i64 e.kind, .string e.name, .slice na e.names.length nc, .int .i64 e.const.kind, .int .i64 e.const.int, .string e.const.text, .slice da dn dc, .slice ka e.kids.length kc], .int .i64 q] w (Says (.bool (Ex.has q e)) w) := by
  induction e using Ex.byKids with
  | h e ih =>
  intro w na nc da dn dc ka kc hsz ho
  obtain ⟨w1, B1⟩ := boxed w #[.int .i64 e.kind, .string e.name, .slice na e.names.length nc, .int .i64 e.const.kind, .int .i64 e.const.int, .string e.const.text, .slice da dn dc, .slice ka e.kids.length kc] 28
  have hR := Row.of B1.blk
  have HO := Lib.hid ho
  have HB := Lib.hid B1
  have HR := Lib.hid hR
  have HIH := Lib.hid ih
  have HL := Ex.sizes_len e.kids
  have HS := Ex.size_eq e
  have hl : e.kids.length ≤ 100000 := by omega
  have HSZ := Lib.hid hsz
  obtain ⟨x0, _, _, _, _, _, _, x7, hbl⟩ := hR
  clear B1 ho ih HL HS hsz
  by_cases hq : e.kind = q
  · have hq2 : (e.kind == q) = true := by rw [hq]; exact beq_self_eq_true _
    have hh : Ex.has q e = true := (Ex.has_iff q e).2 (.inl hq)
    rw [hh]
    clear hq hh
    go_enter Tryz.func12, Tryz.ntmps12
    go_upto_region 1 with fail
    rw [← HB.out.eq]
    go_wp2_with fail
    go_ret
    exact ⟨rfl, HB.out.below⟩
  · have hq2 : (e.kind == q) = false := beq_eq_false_iff_ne.2 hq
    have HQ := Lib.hid hq
    clear hq
    go_enter Tryz.func12, Tryz.ntmps12
    go_upto_region 1 with fail
    rw [← HB.out.eq]
    go_wp2_with fail
    go_loopg [5] e.kids.length (fun g i wr => ∃ j : Nat, j ≤ e.kids.length ∧ g = e.kids.length - j ∧ i = .int .i64 j ∧ Below w1.heap.size w1 wr ∧ ∀ y ∈ e.kids.take j, Ex.has q y = false)
    case atStart => exact ⟨0, Nat.zero_le _, rfl, rfl, Below.refl _ _, fun y hy => by simp at hy⟩
    case round =>
      obtain ⟨j, hj, rfl, rfl, hb, hall⟩ := hrel
      have HB2 := Lib.hid hb
      have HA := Lib.hid hall
      have hR2 := HR.out.bel hb
      obtain ⟨y0, _, _, _, _, _, _, y7, ybl⟩ := hR2
      clear hb hall
      by_cases hlt : j < e.kids.length
      · obtain ⟨x, hx⟩ : ∃ x, e.kids[j]? = some x := ⟨_, List.getElem?_eq_getElem hlt⟩
        have hxm := List.mem_of_getElem? hx
        have HSX := Ex.size_mem _ _ hxm
        have HSE := Ex.size_eq e
        obtain ⟨kb, koff, na2, nc2, da2, dn2, dc2, ya2, yc2, hk⟩ := ((HO.out.bel HB.out.below).bel HB2.out).kid hx
        have hcall := HIH.out x hxm (by have := HSZ.out; omega) hk.op
        have HC := Lib.hid hcall
        have HX := Lib.hid hx
        obtain ⟨rfl, hkb, ⟨g1, g2⟩, _, c0, c1, c2, c3, c4, c5, c6, c7⟩ := hk
        have gw : IntKind.i64.wrap ((j : Int) + 1) = ((j + 1 : Nat) : Int) := by rw [IntKind.wrap_i64]; omega
        clear hcall hx hxm HSX HSE
        go_wp2_with fail
        with_reducible refine HC.out.mono ?_
        rintro e2 w2 ⟨rfl, hb2⟩
        have HB3 : Hid (Below w1.heap.size w1 w2) := HB2.out.trans (hb2.mono HB2.out.size)
        clear hb2
        cases hh : Ex.has q x with
        | true =>
          have hh2 : Ex.has q e = true := (Ex.has_iff q e).2 (.inr ⟨x, List.mem_of_getElem? HX.out, hh⟩)
          have HH2 := Lib.hid hh2
          clear hh2
          go_wp2_with fail
          go_ret
          exact ⟨by rw [HH2.out]; rfl, HB.out.below.trans (HB3.out.mono HB.out.below.size)⟩
        | false =>
          have HH := Lib.hid hh
          clear hh
          go_wp2_with fail
          go_roundg (e.kids.length - (j + 1))
          case measure => omega
          case rel =>
            refine ⟨j + 1, by omega, rfl, by go_num, HB3.out, fun y hy => ?_⟩
            rw [List.take_add_one, HX.out] at hy
            simp at hy
            rcases hy with hy | rfl
            · exact HA.out y hy
            · exact HH.out
      · have hje : j = e.kids.length := by omega
        have hh2 : Ex.has q e = false := by
          rw [Bool.eq_false_iff]
          intro h
          rcases (Ex.has_iff q e).1 h with h | ⟨x, hx, h⟩
          · exact HQ.out h
          · have := HA.out x (by rw [hje, List.take_length]; exact hx)
            rw [this] at h
            cases h
        have hge : (e.kids.length : Int) ≤ j := by omega
        have HH2 := Lib.hid hh2
        clear hh2
        go_wp2_with fail
        go_ret
        exact ⟨by rw [HH2.out]; rfl, HB.out.below.trans (HB2.out.mono HB.out.below.size)⟩
end Ew
end Go.Proofs.YtkplkgdfphbldaaGreat
namespace Go.Proofs.YtkplkgdfphbldaaGreat
open Go.RowKit
set_option linter.unusedVariables false
set_option linter.unusedSimpArgs false
set_option maxRecDepth 100000
namespace Ew
open Rn
set_option maxHeartbeats 8000000 in
theorem sametexts_any (l m : List ByteArray) {w : World} {la : Option Addr} {lc : Nat} {ma : Option Addr} {mc : Nat} (hl : Sl w (.slice la l.length lc) (strs l)) (hm : Sl w (.slice ma m.length mc) (strs m)) (hll : l.length ≤ 10000000000) :
    Calls Tryz.prog 29 #[.slice la l.length lc, .slice ma m.length mc] w (Says (.bool (decide (l = m))) w) := by
  have HL := Lib.hid hl
  have HM := Lib.hid hm
  clear hl hm
  by_cases hlen : l.length = m.length
  · have k1 : ((l.length : Int) != (m.length : Int)) = false := by rw [hlen]; simp
    have HLEN := Lib.hid hlen
    clear hlen
    go_enter Tryz.func29, Tryz.ntmps29
    go_wp2_with fail
    go_loopg [5] l.length (fun g i wr => ∃ j : Nat, j ≤ l.length ∧ g = l.length - j ∧ i = .int .i64 j ∧ Below w.heap.size w wr ∧ l.take j = m.take j)
    case atStart => exact ⟨0, Nat.zero_le _, rfl, rfl, Below.refl _ _, rfl⟩
    case round =>
      obtain ⟨j, hj, rfl, rfl, hb, hall⟩ := hrel
      have HB2 := Lib.hid hb
      have HA := Lib.hid hall
      clear hb hall
      by_cases hlt : j < l.length
      · obtain ⟨x, hx⟩ : ∃ x, l[j]? = some x := ⟨_, List.getElem?_eq_getElem hlt⟩
        obtain ⟨y, hy⟩ : ∃ y, m[j]? = some y := ⟨_, List.getElem?_eq_getElem (by have := HLEN.out; omega)⟩
        obtain ⟨b, off, rfl, hbl, hc⟩ := text_at (sl_bel HL.out HB2.out) hx
        obtain ⟨b2, off2, rfl, hbl2, hc2⟩ := text_at (sl_bel HM.out HB2.out) hy
        have HX := Lib.hid hx
        have HY := Lib.hid hy
        have g1 : (0 : Int) ≤ j := by omega
        have g2 : (j : Int) < l.length := by omega
        have g3 : (j : Int) < m.length := by have := HLEN.out; omega
        have gw : IntKind.i64.wrap ((j : Int) + 1) = ((j + 1 : Nat) : Int) := by rw [IntKind.wrap_i64]; omega
        clear hx hy
        by_cases hs : x = y
        · have hs2 : (x.toList == y.toList) = true := by rw [hs]; exact beq_self_eq_true _
          have hs3 : (x.toList != y.toList) = false := by rw [hs]; simp
          have HS := Lib.hid hs
          clear hs
          go_wp2_with fail
          go_quiet (fail)
          go_wp2_with fail
          go_roundg (l.length - (j + 1))
          case measure => omega
          case rel =>
            refine ⟨j + 1, by omega, rfl, by go_num, below_drewN HB2.out _, ?_⟩
            rw [List.take_add_one, HX.out, List.take_add_one, HY.out, HA.out, HS.out]
        · have hs2 : (x.toList == y.toList) = false := beq_eq_false_iff_ne.2 fun h => hs (toList_inj' h)
          have hs3 : (x.toList != y.toList) = true := by rw [bne_iff_ne]; exact fun h => hs (toList_inj' h)
          have HH : Hid (decide (l = m) = false) := by
            apply decide_eq_false
            intro e
            have h1 := HX.out
            rw [e, HY.out] at h1
            exact hs (Option.some.inj h1).symm
          clear hs
          go_wp2_with fail
          go_quiet (fail)
          go_wp2_with fail
          go_ret
          exact ⟨by rw [HH.out]; rfl, below_drewN HB2.out _⟩
      · have hje : j = l.length := by omega
        have HH : Hid (decide (l = m) = true) := by
          apply decide_eq_true
          have h := HA.out
          rw [hje, List.take_length, HLEN.out, List.take_length] at h
          exact h
        have hge : (l.length : Int) ≤ j := by omega
        go_wp2_with fail
        go_ret
        exact ⟨by rw [HH.out]; rfl, HB2.out⟩
  · have k1 : ((l.length : Int) != (m.length : Int)) = true := by rw [bne_iff_ne]; omega
    have HH : Hid (decide (l = m) = false) := decide_eq_false fun e => hlen (by rw [e])
    clear hlen
    go_enter Tryz.func29, Tryz.ntmps29
    go_wp2_with fail
    go_ret
    exact ⟨by rw [HH.out]; rfl, Below.refl _ _⟩
set_option maxHeartbeats 8000000 in
theorem rfixset_any (e : Ex) : ∀ {w : World} {na : Option Addr} {nc : Nat} {da : Option Addr} {dn dc : Nat} {ka : Option Addr} {kc : Nat}, Few e → Op w e na nc da dn dc ka kc →
    Calls Tryz.prog 13 #[.agg #[.int .i64 e.kind, .string e.name, .slice na e.names.length nc, .int .i64 e.const.kind, .int .i64 e.const.int, .string e.const.text, .slice da dn dc, .slice ka e.kids.length kc]] w (Says (.bool (Ex.fixSet e)) w) := by
  induction e using Ex.byKids with
  | h e ih =>
  intro w na nc da dn dc ka kc hsz ho
  obtain ⟨w1, B1⟩ := boxed w #[.int .i64 e.kind, .string e.name, .slice na e.names.length nc, .int .i64 e.const.kind, .int .i64 e.const.int, .string e.const.text, .slice da dn dc, .slice ka e.kids.length kc] 28
  have hR := Row.of B1.blk
  have HO := Lib.hid (ho.bel B1.below)
  have HB := Lib.hid B1
  have HR := Lib.hid hR
  have HIH := Lib.hid ih
  clear ih
  have hl := hsz.len
  have HSZ := Lib.hid hsz
  obtain ⟨x0, x1, x2, x3, x4, x5, x6, x7, hbl⟩ := hR
  clear B1 ho hsz
  have hnl : e.names.length ≤ 1000000 := HSZ.out.nl
  go_enter Tryz.func13, Tryz.ntmps13
  go_upto_region 1 with fail
  rw [← HB.out.eq]
  go_wp2_with fail
  go_loopg [3] e.names.length (fun g i wr => ∃ j : Nat, j ≤ e.names.length ∧ g = e.names.length - j ∧ i = .int .i64 j ∧ Below w1.heap.size w1 wr ∧ (e.kind = 10 ∨ j = 0) ∧ ∀ s ∈ e.names.take j, Ex.assigned e s = false)
  case atStart => exact ⟨0, Nat.zero_le _, rfl, rfl, Below.refl _ _, .inr rfl, fun s hs => by simp at hs⟩
  case round =>
    obtain ⟨j, hj, rfl, rfl, hb, hk, hall⟩ := hrel
    have HBW := Lib.hid hb
    have HA := Lib.hid hall
    obtain ⟨y0, y1, y2, y3, y4, y5, y6, y7, ybl⟩ := HR.out.bel hb
    clear hb hall
    have hcase : (j < e.names.length ∧ e.kind = 10) ∨ (j < e.names.length ∧ e.kind ≠ 10) ∨ j = e.names.length := by omega
    have HK := Lib.hid hk
    clear hk
    rcases hcase with ⟨hlt, hk⟩ | hcase
    · have k1 : (e.kind == 10) = true := by rw [hk]; rfl
      have HK10 := Lib.hid hk
      obtain ⟨s, hs⟩ : ∃ s, e.names[j]? = some s := ⟨_, List.getElem?_eq_getElem hlt⟩
      obtain ⟨b, off, rfl, hbl, hc⟩ := text_at (HO.out.bel HBW.out).names hs
      have HS := Lib.hid hs
      have g1 : (0 : Int) ≤ j := by omega
      have g2 : (j : Int) < e.names.length := by omega
      have gw : IntKind.i64.wrap ((j : Int) + 1) = ((j + 1 : Nat) : Int) := by rw [IntKind.wrap_i64]; omega
      have HDR : Hid (Below w1.heap.size w1 wr.drew) := HBW.out.drew
      have HC := Lib.hid (rasg_any s e HSZ.out (HO.out.bel HDR.out))
      clear hs hk
      go_upto_region 4 with fail
      go_still_tail 6, (by kernel_rfl)
      show wpList _ _ _ _ _ _
      go_wp2_with fail
      with_reducible refine HC.out.mono ?_
      rintro e2 w2 ⟨rfl, hb2⟩
      have HB3 : Hid (Below w1.heap.size w1 w2) := HDR.out.trans (hb2.mono HDR.out.size)
      clear hb2
      cases hh : Ex.assigned e s with
      | true =>
        have HH : Hid (Ex.fixSet e = true) := (Ex.fixSet_iff e).2 (.inl ⟨HK10.out, s, List.mem_of_getElem? HS.out, hh⟩)
        clear hh
        go_wp2_with fail
        go_ret
        exact ⟨by rw [HH.out]; rfl, HB.out.below.trans (HB3.out.mono HB.out.below.size)⟩
      | false =>
        have HH := Lib.hid hh
        clear hh
        go_wp2_with fail
        go_roundg (e.names.length - (j + 1))
        case measure => omega
        case rel =>
          refine ⟨j + 1, by omega, rfl, by go_num, HB3.out, .inl HK10.out, fun y hy => ?_⟩
          rw [List.take_add_one, HS.out] at hy
          simp at hy
          rcases hy with hy | rfl
          · exact HA.out y hy
          · exact HH.out
    · have HN : Hid (¬ (e.kind = 10 ∧ ∃ s ∈ e.names, Ex.assigned e s = true)) := by
        rintro ⟨h10, s, hs, h⟩
        rcases hcase with ⟨_, h1⟩ | h1
        · exact h1 h10
        · have := HA.out s (by rw [h1, List.take_length]; exact hs)
          rw [this] at h
          cases h
      rcases hcase with ⟨hlt, hk⟩ | hje
      · have k1 : (e.kind == 10) = false := beq_eq_false_iff_ne.2 hk
        have g2 : (j : Int) < e.names.length := by omega
        clear hk
        go_wp2_with fail
        go_loopg [4] e.kids.length (fun g i wx => ∃ k : Nat, k ≤ e.kids.length ∧ g = e.kids.length - k ∧ i = .int .i64 k ∧ Below w1.heap.size w1 wx ∧ ∀ y ∈ e.kids.take k, Ex.fixSet y = false)
        case atStart => exact ⟨0, Nat.zero_le _, rfl, rfl, HBW.out, fun y hy => by simp at hy⟩
        case round =>
          obtain ⟨k, hj2, rfl, rfl, hb, hall⟩ := hrel
          have HBW := Lib.hid hb
          have HA2 := Lib.hid hall
          obtain ⟨y0, y1, y2, y3, y4, y5, y6, y7, ybl⟩ := HR.out.bel hb
          clear hb hall
          by_cases hlt2 : k < e.kids.length
          · obtain ⟨x, hx⟩ : ∃ x, e.kids[k]? = some x := ⟨_, List.getElem?_eq_getElem hlt2⟩
            have HX := Lib.hid hx
            obtain ⟨kb, koff, na2, nc2, da2, dn2, dc2, ya2, yc2, hk⟩ := (HO.out.bel HBW.out).kid hx
            have HKO := Lib.hid hk.op
            obtain ⟨e1, hkb, ⟨g1, g2⟩, _, c0, c1, c2, c3, c4, c5, c6, c7⟩ := hk
            subst e1
            have gw : IntKind.i64.wrap ((k : Int) + 1) = ((k + 1 : Nat) : Int) := by rw [IntKind.wrap_i64]; omega
            have HC := Lib.hid (HIH.out x (List.mem_of_getElem? HX.out) (HSZ.out.kid (List.mem_of_getElem? HX.out)) HKO.out)
            clear hx
            go_wp2_with fail
            with_reducible refine HC.out.mono ?_
            rintro e2 w2 ⟨rfl, hb2⟩
            have HB3 : Hid (Below w1.heap.size w1 w2) := HBW.out.trans (hb2.mono HBW.out.size)
            clear hb2
            cases hh : Ex.fixSet x with
            | true =>
              have HH : Hid (Ex.fixSet e = true) := (Ex.fixSet_iff e).2 (.inr ⟨x, List.mem_of_getElem? HX.out, hh⟩)
              clear hh
              go_wp2_with fail
              go_ret
              exact ⟨by rw [HH.out]; rfl, HB.out.below.trans (HB3.out.mono HB.out.below.size)⟩
            | false =>
              have HH := Lib.hid hh
              clear hh
              go_wp2_with fail
              go_roundg (e.kids.length - (k + 1))
              case measure => omega
              case rel =>
                refine ⟨k + 1, by omega, rfl, by go_num, HB3.out, fun y hy => ?_⟩
                rw [List.take_add_one, HX.out] at hy
                simp at hy
                rcases hy with hy | rfl
                · exact HA2.out y hy
                · exact HH.out
          · have hje2 : k = e.kids.length := by omega
            have HH : Hid (Ex.fixSet e = false) := by
              unfold Hid
              rw [Bool.eq_false_iff]
              intro h
              rcases (Ex.fixSet_iff e).1 h with h | ⟨x, hx, h⟩
              · exact HN.out h
              · have := HA2.out x (by rw [hje2, List.take_length]; exact hx)
                rw [this] at h
                cases h
            have hge2 : (e.kids.length : Int) ≤ k := by omega
            go_wp2_with fail
            go_ret
            exact ⟨by rw [HH.out]; rfl, HB.out.below.trans (HBW.out.mono HB.out.below.size)⟩
      · have hge : (e.names.length : Int) ≤ j := by omega
        clear hje
        go_wp2_with fail
        go_loopg [4] e.kids.length (fun g i wx => ∃ k : Nat, k ≤ e.kids.length ∧ g = e.kids.length - k ∧ i = .int .i64 k ∧ Below w1.heap.size w1 wx ∧ ∀ y ∈ e.kids.take k, Ex.fixSet y = false)
        case atStart => exact ⟨0, Nat.zero_le _, rfl, rfl, HBW.out, fun y hy => by simp at hy⟩
        case round =>
          obtain ⟨k, hj2, rfl, rfl, hb, hall⟩ := hrel
          have HBW := Lib.hid hb
          have HA2 := Lib.hid hall
          obtain ⟨y0, y1, y2, y3, y4, y5, y6, y7, ybl⟩ := HR.out.bel hb
          clear hb hall
          by_cases hlt2 : k < e.kids.length
          · obtain ⟨x, hx⟩ : ∃ x, e.kids[k]? = some x := ⟨_, List.getElem?_eq_getElem hlt2⟩
            have HX := Lib.hid hx
            obtain ⟨kb, koff, na2, nc2, da2, dn2, dc2, ya2, yc2, hk⟩ := (HO.out.bel HBW.out).kid hx
            have HKO := Lib.hid hk.op
            obtain ⟨e1, hkb, ⟨g1, g2⟩, _, c0, c1, c2, c3, c4, c5, c6, c7⟩ := hk
            subst e1
            have gw : IntKind.i64.wrap ((k : Int) + 1) = ((k + 1 : Nat) : Int) := by rw [IntKind.wrap_i64]; omega
            have HC := Lib.hid (HIH.out x (List.mem_of_getElem? HX.out) (HSZ.out.kid (List.mem_of_getElem? HX.out)) HKO.out)
            clear hx
            go_wp2_with fail
            with_reducible refine HC.out.mono ?_
            rintro e2 w2 ⟨rfl, hb2⟩
            have HB3 : Hid (Below w1.heap.size w1 w2) := HBW.out.trans (hb2.mono HBW.out.size)
            clear hb2
            cases hh : Ex.fixSet x with
            | true =>
              have HH : Hid (Ex.fixSet e = true) := (Ex.fixSet_iff e).2 (.inr ⟨x, List.mem_of_getElem? HX.out, hh⟩)
              clear hh
              go_wp2_with fail
              go_ret
              exact ⟨by rw [HH.out]; rfl, HB.out.below.trans (HB3.out.mono HB.out.below.size)⟩
            | false =>
              have HH := Lib.hid hh
              clear hh
              go_wp2_with fail
              go_roundg (e.kids.length - (k + 1))
              case measure => omega
              case rel =>
                refine ⟨k + 1, by omega, rfl, by go_num, HB3.out, fun y hy => ?_⟩
                rw [List.take_add_one, HX.out] at hy
                simp at hy
                rcases hy with hy | rfl
                · exact HA2.out y hy
                · exact HH.out
          · have hje2 : k = e.kids.length := by omega
            have HH : Hid (Ex.fixSet e = false) := by
              unfold Hid
              rw [Bool.eq_false_iff]
              intro h
              rcases (Ex.fixSet_iff e).1 h with h | ⟨x, hx, h⟩
              · exact HN.out h
              · have := HA2.out x (by rw [hje2, List.take_length]; exact hx)
                rw [this] at h
                cases h
            have hge2 : (e.kids.length : Int) ≤ k := by omega
            go_wp2_with fail
            go_ret
            exact ⟨by rw [HH.out]; rfl, HB.out.below.trans (HBW.out.mono HB.out.below.size)⟩
end Ew
end Go.Proofs.YtkplkgdfphbldaaGreat
namespace Go.Proofs.YtkplkgdfphbldaaGreat
open Go.RowKit
set_option linter.unusedVariables false
set_option linter.unusedSimpArgs false
set_option maxRecDepth 100000
namespace Ew
open Rn
theorem Few.short {e : Ex} (h : Few e) : Dt.Short e.const := by
  have h1 := h.cl
  cases hc : e.const with
  | mk k i t l =>
    rw [hc] at h1
    have : l = [] := h1
    subst this
    exact .mk k i t [] (by simp) (fun j x hx => by simp at hx)
set_option maxHeartbeats 16000000 in
theorem r6same_any (e : Ex) : ∀ (f : Ex) {w : World} {ana : Option Addr} {anc : Nat} {ada : Option Addr} {adn adc : Nat} {aka : Option Addr} {akc : Nat} {bna : Option Addr} {bnc : Nat} {bda : Option Addr} {bdn bdc : Nat} {bka : Option Addr} {bkc : Nat}, Few e → Few f → Op w e ana anc ada adn adc aka akc → Op w f bna bnc bda bdn bdc bka bkc →
    Calls Tryz.prog 14 #[.agg #[.int .i64 e.kind, .string e.name, .slice ana e.names.length anc, .int .i64 e.const.kind, .int .i64 e.const.int, .string e.const.text, .slice ada adn adc, .slice aka e.kids.length akc], .agg #[.int .i64 f.kind, .string f.name, .slice bna f.names.length bnc, .int .i64 f.const.kind, .int .i64 f.const.int, .string f.const.text, .slice bda bdn bdc, .slice bka f.kids.length bkc]] w (Says (.bool (Ex.same e f)) w) := by
  induction e using Ex.byKids with
  | h e ih =>
  intro f w ana anc ada adn adc aka akc bna bnc bda bdn bdc bka bkc he hf ha hb
  obtain ⟨w1, B1⟩ := boxed w #[.int .i64 e.kind, .string e.name, .slice ana e.names.length anc, .int .i64 e.const.kind, .int .i64 e.const.int, .string e.const.text, .slice ada adn adc, .slice aka e.kids.length akc] 28
  obtain ⟨w2, B2⟩ := boxed w1 #[.int .i64 f.kind, .string f.name, .slice bna f.names.length bnc, .int .i64 f.const.kind, .int .i64 f.const.int, .string f.const.text, .slice bda bdn bdc, .slice bka f.kids.length bkc] 28
  have hB : Below w.heap.size w w2 := B1.below.trans (B2.below.mono B1.below.size)
  have hra := (Row.of B1.blk).bel B2.below
  have hrb := Row.of B2.blk
  have hs1 := B1.size
  rw [hs1] at hrb
  have HA := Lib.hid (ha.bel hB)
  have HBO := Lib.hid (hb.bel hB)
  have HB := Lib.hid hB
  have HB1 := Lib.hid B1
  have HB2 := Lib.hid B2
  have HRA := Lib.hid hra
  have HRB := Lib.hid hrb
  have HIH := Lib.hid ih
  have HFE := Lib.hid he
  have HFF := Lib.hid hf
  have hl := he.len
  have HBW : Hid (Below w2.heap.size w2 w2) := Below.refl _ _
  have HST : Hid (∀ W, Below w2.heap.size w2 W → Calls Tryz.prog 29 #[.slice ana e.names.length anc, .slice bna f.names.length bnc] W (Says (.bool (decide (e.names = f.names))) W)) := fun W hb => sametexts_any _ _ (HA.out.bel hb).names (HBO.out.bel hb).names (by have := HFE.out.nl; omega)
  have HSC : Hid (∀ W, Below w2.heap.size w2 W → Calls Tryz.prog 32 #[.agg #[.int .i64 e.const.kind, .int .i64 e.const.int, .string e.const.text, .slice ada adn adc], .agg #[.int .i64 f.const.kind, .int .i64 f.const.int, .string f.const.text, .slice bda bdn bdc]] W (Says (.bool (Dt.same e.const f.const)) W)) := fun W hb => same_any _ _ _ _ W HFE.out.short HFF.out.short (HA.out.bel hb).const (HBO.out.bel hb).const
  obtain ⟨x0, x1, x2, x3, x4, x5, x6, x7, xbl⟩ := hra
  obtain ⟨v0, v1, v2, v3, v4, v5, v6, v7, vbl⟩ := hrb
  clear B1 B2 ih ha hb hB he hf hs1
  by_cases hk : e.kind = f.kind
  · have k1 : (e.kind != f.kind) = false := by rw [hk]; simp
    have HK := Lib.hid hk
    clear hk
    by_cases hn : e.name = f.name
    · have k2 : (e.name.toList != f.name.toList) = false := by rw [hn]; simp
      have k3 : (e.name.toList == f.name.toList) = true := by rw [hn]; simp
      have HN := Lib.hid hn
      clear hn
      cases hns : decide (e.names = f.names) with
      | false =>
        rw [hns] at HST
        have HH : Hid (Ex.same e f = false) := by unfold Hid; rw [Ex.same_iff]; rw [hns]; simp
        clear hns
        go_enter Tryz.func14, Tryz.ntmps14
        go_upto_region 1 with fail
        rw [← HB1.out.eq, ← HB2.out.eq]
        go_wp2_with fail
        with_reducible refine (HST.out _ HBW.out).mono ?_
        rintro e2 w3 ⟨rfl, hb2⟩
        have HBW : Hid (Below w2.heap.size w2 w3) := HBW.out.trans (hb2.mono HBW.out.size)
        clear hb2
        obtain ⟨y0, y1, y2, y3, y4, y5, y6, y7, ybl⟩ := HRA.out.bel HBW.out
        obtain ⟨z0, z1, z2, z3, z4, z5, z6, z7, zbl⟩ := HRB.out.bel HBW.out
        go_wp2_with fail
        go_ret
        exact ⟨by rw [HH.out]; rfl, HB.out.trans (HBW.out.mono HB.out.size)⟩
      | true =>
        rw [hns] at HST
        have HNS := Lib.hid hns
        clear hns
        cases hcs : Dt.same e.const f.const with
        | false =>
          rw [hcs] at HSC
          have HH : Hid (Ex.same e f = false) := by unfold Hid; rw [Ex.same_iff]; rw [hcs]; simp
          clear hcs
          go_enter Tryz.func14, Tryz.ntmps14
          go_upto_region 1 with fail
          rw [← HB1.out.eq, ← HB2.out.eq]
          go_wp2_with fail
          with_reducible refine (HST.out _ HBW.out).mono ?_
          rintro e2 w3 ⟨rfl, hb2⟩
          have HBW : Hid (Below w2.heap.size w2 w3) := HBW.out.trans (hb2.mono HBW.out.size)
          clear hb2
          obtain ⟨y0, y1, y2, y3, y4, y5, y6, y7, ybl⟩ := HRA.out.bel HBW.out
          obtain ⟨z0, z1, z2, z3, z4, z5, z6, z7, zbl⟩ := HRB.out.bel HBW.out
          go_wp2_with fail
          with_reducible refine (HSC.out _ HBW.out).mono ?_
          rintro e2 w4 ⟨rfl, hb2⟩
          have HBW : Hid (Below w2.heap.size w2 w4) := HBW.out.trans (hb2.mono HBW.out.size)
          clear hb2
          obtain ⟨y0, y1, y2, y3, y4, y5, y6, y7, ybl⟩ := HRA.out.bel HBW.out
          obtain ⟨z0, z1, z2, z3, z4, z5, z6, z7, zbl⟩ := HRB.out.bel HBW.out
          go_wp2_with fail
          go_ret
          exact ⟨by rw [HH.out]; rfl, HB.out.trans (HBW.out.mono HB.out.size)⟩
        | true =>
          rw [hcs] at HSC
          have HCS := Lib.hid hcs
          clear hcs
          have HALL : Hid (Ex.same e f = Ex.sames e.kids f.kids) := by unfold Hid; rw [Ex.same_iff, HNS.out, HCS.out, decide_eq_true HK.out, decide_eq_true HN.out]; simp
          by_cases hlen : e.kids.length = f.kids.length
          · have k4 : ((e.kids.length : Int) != (f.kids.length : Int)) = false := by rw [hlen]; simp
            have HLEN := Lib.hid hlen
            clear hlen
            go_enter Tryz.func14, Tryz.ntmps14
            go_upto_region 1 with fail
            rw [← HB1.out.eq, ← HB2.out.eq]
            go_wp2_with fail
            with_reducible refine (HST.out _ HBW.out).mono ?_
            rintro e2 w3 ⟨rfl, hb2⟩
            have HBW : Hid (Below w2.heap.size w2 w3) := HBW.out.trans (hb2.mono HBW.out.size)
            clear hb2
            obtain ⟨y0, y1, y2, y3, y4, y5, y6, y7, ybl⟩ := HRA.out.bel HBW.out
            obtain ⟨z0, z1, z2, z3, z4, z5, z6, z7, zbl⟩ := HRB.out.bel HBW.out
            go_wp2_with fail
            with_reducible refine (HSC.out _ HBW.out).mono ?_
            rintro e2 w4 ⟨rfl, hb2⟩
            have HBW : Hid (Below w2.heap.size w2 w4) := HBW.out.trans (hb2.mono HBW.out.size)
            clear hb2
            obtain ⟨y0, y1, y2, y3, y4, y5, y6, y7, ybl⟩ := HRA.out.bel HBW.out
            obtain ⟨z0, z1, z2, z3, z4, z5, z6, z7, zbl⟩ := HRB.out.bel HBW.out
            go_wp2_with fail
            go_loopg [5] e.kids.length (fun g i wr => ∃ j : Nat, j ≤ e.kids.length ∧ g = e.kids.length - j ∧ i = .int .i64 j ∧ Below w2.heap.size w2 wr ∧ ∀ (i : Nat) (x y : Ex), i < j → e.kids[i]? = some x → f.kids[i]? = some y → Ex.same x y = true)
            case atStart => exact ⟨0, Nat.zero_le _, rfl, rfl, HBW.out, fun i x y hi => absurd hi (Nat.not_lt_zero _)⟩
            case round =>
              obtain ⟨j, hj, rfl, rfl, hb, hall⟩ := hrel
              have HBW := Lib.hid hb
              have HAL := Lib.hid hall
              clear hb hall
              obtain ⟨y0, y1, y2, y3, y4, y5, y6, y7, ybl⟩ := HRA.out.bel HBW.out
              obtain ⟨z0, z1, z2, z3, z4, z5, z6, z7, zbl⟩ := HRB.out.bel HBW.out
              by_cases hlt : j < e.kids.length
              · obtain ⟨x, hx⟩ : ∃ x, e.kids[j]? = some x := ⟨_, List.getElem?_eq_getElem hlt⟩
                obtain ⟨y, hy⟩ : ∃ y, f.kids[j]? = some y := ⟨_, List.getElem?_eq_getElem (by have := HLEN.out; omega)⟩
                have HX := Lib.hid hx
                have HY := Lib.hid hy
                have HDR : Hid (Below w2.heap.size w2 wr.drew) := HBW.out.drew
                obtain ⟨kb, koff, na2, nc2, da2, dn2, dc2, ya2, yc2, hk⟩ := (HA.out.bel HDR.out).kid hx
                obtain ⟨kb3, koff3, na3, nc3, da3, dn3, dc3, ya3, yc3, hk3⟩ := (HBO.out.bel HDR.out).kid hy
                have HC := Lib.hid (HIH.out x (List.mem_of_getElem? hx) y (HFE.out.kid (List.mem_of_getElem? hx)) (HFF.out.kid (List.mem_of_getElem? hy)) hk.op hk3.op)
                obtain ⟨e1, hkb, ⟨g1, g2⟩, _, c0, c1, c2, c3, c4, c5, c6, c7⟩ := hk
                obtain ⟨e3, hkb3, ⟨g3, g4⟩, _, d0, d1, d2, d3, d4, d5, d6, d7⟩ := hk3
                subst e1 e3
                have gw : IntKind.i64.wrap ((j : Int) + 1) = ((j + 1 : Nat) : Int) := by rw [IntKind.wrap_i64]; omega
                clear hx hy
                change wr.cell? _ = _ at c0 c1 c2 c3 c4 c5 c6 c7 d0 d1 d2 d3 d4 d5 d6 d7
                go_upto_region 6 with fail
                go_still_tail 10, (by kernel_rfl)
                show wpList _ _ _ _ _ _
                go_wp2_with fail
                with_reducible refine HC.out.mono ?_
                rintro e2 w5 ⟨rfl, hb5⟩
                have HB5 : Hid (Below w2.heap.size w2 w5) := HDR.out.trans (hb5.mono HDR.out.size)
                clear hb5
                cases hsm : Ex.same x y with
                | false =>
                  have HH : Hid (Ex.same e f = false) := by
                    unfold Hid
                    rw [HALL.out, Bool.eq_false_iff]
                    intro h
                    rw [((Ex.sames_iff _ _).1 h).2 j x y HX.out HY.out] at hsm
                    cases hsm
                  clear hsm
                  go_wp2_with fail
                  go_ret
                  exact ⟨by rw [HH.out]; rfl, HB.out.trans (HB5.out.mono HB.out.size)⟩
                | true =>
                  have HSM := Lib.hid hsm
                  clear hsm
                  go_wp2_with fail
                  go_roundg (e.kids.length - (j + 1))
                  case measure => omega
                  case rel =>
                    refine ⟨j + 1, by omega, rfl, by go_num, HB5.out, fun i x' y' hi hx hy => ?_⟩
                    by_cases hij : i = j
                    · subst hij
                      rw [HX.out] at hx
                      rw [HY.out] at hy
                      cases hx
                      cases hy
                      exact HSM.out
                    · exact HAL.out i x' y' (by omega) hx hy
              · have hje : j = e.kids.length := by omega
                have HH : Hid (Ex.same e f = true) := by
                  unfold Hid
                  rw [HALL.out, Ex.sames_iff]
                  exact ⟨HLEN.out, fun i x y hx hy => HAL.out i x y (by have := (List.getElem?_eq_some_iff.1 hx).1; omega) hx hy⟩
                have hge : (e.kids.length : Int) ≤ j := by omega
                clear hje
                go_wp2_with fail
                go_ret
                exact ⟨by rw [HH.out]; rfl, HB.out.trans (HBW.out.mono HB.out.size)⟩
          · have k4 : ((e.kids.length : Int) != (f.kids.length : Int)) = true := by rw [bne_iff_ne]; omega
            have HH : Hid (Ex.same e f = false) := by
              unfold Hid
              rw [HALL.out, Bool.eq_false_iff]
              intro h
              exact hlen ((Ex.sames_iff _ _).1 h).1
            clear hlen
            go_enter Tryz.func14, Tryz.ntmps14
            go_upto_region 1 with fail
            rw [← HB1.out.eq, ← HB2.out.eq]
            go_wp2_with fail
            with_reducible refine (HST.out _ HBW.out).mono ?_
            rintro e2 w3 ⟨rfl, hb2⟩
            have HBW : Hid (Below w2.heap.size w2 w3) := HBW.out.trans (hb2.mono HBW.out.size)
            clear hb2
            obtain ⟨y0, y1, y2, y3, y4, y5, y6, y7, ybl⟩ := HRA.out.bel HBW.out
            obtain ⟨z0, z1, z2, z3, z4, z5, z6, z7, zbl⟩ := HRB.out.bel HBW.out
            go_wp2_with fail
            with_reducible refine (HSC.out _ HBW.out).mono ?_
            rintro e2 w4 ⟨rfl, hb2⟩
            have HBW : Hid (Below w2.heap.size w2 w4) := HBW.out.trans (hb2.mono HBW.out.size)
            clear hb2
            obtain ⟨y0, y1, y2, y3, y4, y5, y6, y7, ybl⟩ := HRA.out.bel HBW.out
            obtain ⟨z0, z1, z2, z3, z4, z5, z6, z7, zbl⟩ := HRB.out.bel HBW.out
            go_wp2_with fail
            go_ret
            exact ⟨by rw [HH.out]; rfl, HB.out.trans (HBW.out.mono HB.out.size)⟩
    · have k2 : (e.name.toList != f.name.toList) = true := by rw [bne_iff_ne]; exact fun h => hn (toList_inj' h)
      have k3 : (e.name.toList == f.name.toList) = false := beq_eq_false_iff_ne.2 fun h => hn (toList_inj' h)
      have HH : Hid (Ex.same e f = false) := by unfold Hid; rw [Ex.same_iff]; rw [decide_eq_false hn]; simp
      clear hn
      go_enter Tryz.func14, Tryz.ntmps14
      go_upto_region 1 with fail
      rw [← HB1.out.eq, ← HB2.out.eq]
      go_wp2_with fail
      go_ret
      exact ⟨by rw [HH.out]; rfl, HB.out.trans (HBW.out.mono HB.out.size)⟩
  · have k1 : (e.kind != f.kind) = true := by rw [bne_iff_ne]; exact hk
    have HH : Hid (Ex.same e f = false) := by unfold Hid; rw [Ex.same_iff]; rw [decide_eq_false hk]; simp
    clear hk
    go_enter Tryz.func14, Tryz.ntmps14
    go_upto_region 1 with fail
    rw [← HB1.out.eq, ← HB2.out.eq]
    go_wp2_with fail
    go_ret
    exact ⟨by rw [HH.out]; rfl, HB.out.trans (HBW.out.mono HB.out.size)⟩
end Ew
end Go.Proofs.YtkplkgdfphbldaaGreat
namespace Go.Proofs.YtkplkgdfphbldaaGreat
open Go.RowKit
set_option linter.unusedVariables false
set_option linter.unusedSimpArgs false
set_option maxRecDepth 100000
namespace Ew
open Rn
set_option maxHeartbeats 8000000 in
theorem rsize_any (e : Ex) : ∀ {w : World} {na : Option Addr} {nc : Nat} {da : Option Addr} {dn dc : Nat} {ka : Option Addr} {kc : Nat}, e.size ≤ 100000 → Op w e na nc da dn dc ka kc →
    Calls Tryz.prog 49 #[.agg #[.int .i64 e.kind, .string e.name, .slice na e.names.length nc, .int .i64 e.const.kind, .int .i64 e.const.int, .string e.const.text, .slice da dn dc, .slice ka e.kids.length kc]] w (Says (.int .i64 e.size) w) := by
  induction e using Ex.byKids with
  | h e ih =>
  intro w na nc da dn dc ka kc hsz ho
  obtain ⟨w1, B1⟩ := boxed w #[.int .i64 e.kind, .string e.name, .slice na e.names.length nc, .int .i64 e.const.kind, .int .i64 e.const.int, .string e.const.text, .slice da dn dc, .slice ka e.kids.length kc] 28
  have hR := Row.of B1.blk
  have HO := Lib.hid (ho.bel B1.below)
  have HB := Lib.hid B1
  have HR := Lib.hid hR
  have HIH := Lib.hid ih
  clear ih
  have hl : e.kids.length ≤ 100000 := by have := Ex.sizes_len e.kids; have := Ex.size_eq e; omega
  have HSZ := Lib.hid hsz
  obtain ⟨x0, x1, x2, x3, x4, x5, x6, x7, hbl⟩ := hR
  clear B1 ho hsz
  go_enter Tryz.func49, Tryz.ntmps49
  go_upto_region 1 with fail
  rw [← HB.out.eq]
  go_wp2_with fail
  go_loopg [3, 4] e.kids.length (fun g n i wr => ∃ j : Nat, j ≤ e.kids.length ∧ g = e.kids.length - j ∧ i = .int .i64 j ∧ n = .int .i64 ((Ex.sizes (e.kids.take j) + 1 : Nat) : Int) ∧ Below w1.heap.size w1 wr)
  case atStart => exact ⟨0, Nat.zero_le _, rfl, rfl, rfl, Below.refl _ _⟩
  case round =>
    obtain ⟨j, hj, rfl, rfl, rfl, hb⟩ := hrel
    have HB2 := Lib.hid hb
    obtain ⟨y0, _, _, _, _, _, _, y7, ybl⟩ := HR.out.bel hb
    clear hb
    obtain ⟨S, hS⟩ : ∃ S, S = Ex.sizes (e.kids.take j) + 1 := ⟨_, rfl⟩
    rw [← hS]
    by_cases hlt : j < e.kids.length
    · obtain ⟨x, hx⟩ : ∃ x, e.kids[j]? = some x := ⟨_, List.getElem?_eq_getElem hlt⟩
      have hxm := List.mem_of_getElem? hx
      have HSX := Ex.size_mem _ _ hxm
      have HSE := Ex.size_eq e
      obtain ⟨kb, koff, na2, nc2, da2, dn2, dc2, ya2, yc2, hk⟩ := (HO.out.bel HB2.out).kid hx
      have HKO := Lib.hid hk.op
      have HXS : Hid (x.size ≤ 100000) := by have := HSZ.out; unfold Hid; omega
      have HX := Lib.hid hx
      have HXM := Lib.hid hxm
      obtain ⟨rfl, hkb, ⟨g1, g2⟩, _, c0, c1, c2, c3, c4, c5, c6, c7⟩ := hk
      have gw : IntKind.i64.wrap ((j : Int) + 1) = ((j + 1 : Nat) : Int) := by rw [IntKind.wrap_i64]; omega
      clear hx hxm HSX HSE
      have HC := Lib.hid (HIH.out x HXM.out HXS.out HKO.out)
      have hS2 : S + x.size = Ex.sizes (e.kids.take (j + 1)) + 1 := by
        rw [hS, List.take_add_one, HX.out, Ex.sizes_app]
        show _ = Ex.sizes (e.kids.take j) + (x.size + 0) + 1
        omega
      have hS3 : S ≤ 100000 := by
        have h1 := HSZ.out
        have h2 := Ex.size_eq e
        have h3 : Ex.sizes (e.kids.take j) + Ex.sizes (e.kids.drop j) = Ex.sizes e.kids := by rw [← Ex.sizes_app, List.take_append_drop]
        omega
      have gs : IntKind.i64.wrap ((S : Int) + (x.size : Int)) = (S : Int) + (x.size : Int) := by have := HXS.out; rw [IntKind.wrap_i64]; omega
      have HS2 : Hid ((S : Int) + (x.size : Int) = ((Ex.sizes (e.kids.take (j + 1)) + 1 : Nat) : Int)) := by unfold Hid; omega
      clear hS hS2
      go_wp2_with fail
      with_reducible refine HC.out.mono ?_
      rintro e2 w2 ⟨rfl, hb2⟩
      have HB3 : Hid (Below w1.heap.size w1 w2) := HB2.out.trans (hb2.mono HB2.out.size)
      clear hb2
      go_wp2_with fail
      go_roundg (e.kids.length - (j + 1))
      case measure => omega
      case rel => exact ⟨j + 1, by omega, rfl, by go_num, by rw [HS2.out], HB3.out⟩
    · have hje : j = e.kids.length := by omega
      have HE : Hid ((S : Int) = (e.size : Int)) := by
        have := Ex.size_eq e
        rw [hje, List.take_length] at hS
        unfold Hid
        omega
      have hge : (e.kids.length : Int) ≤ j := by omega
      clear hS
      go_wp2_with fail
      go_ret
      exact ⟨by rw [← HE.out]; rfl, HB.out.below.trans (HB2.out.mono HB.out.below.size)⟩
theorem deeps_app : ∀ l r : List Ex, Ex.deeps (l ++ r) = max (Ex.deeps l) (Ex.deeps r)
  | [], r => by simp [Ex.deeps]
  | x :: l, r => by
    show max x.deep (Ex.deeps (l ++ r)) = max (max x.deep (Ex.deeps l)) (Ex.deeps r)
    rw [deeps_app l r]
    omega
theorem deeps_le_sizes (e : Ex) : e.deep ≤ e.size := by
  induction e using Ex.byKids with
  | h e ih =>
    rw [Ex.deep_eq, Ex.size_eq]
    have : Ex.deeps e.kids ≤ Ex.sizes e.kids := Ex.deeps_le fun x hx => Nat.le_trans (ih x hx) (Ex.size_mem _ _ hx)
    omega
set_option maxHeartbeats 8000000 in
theorem rdeep_any (e : Ex) : ∀ {w : World} {na : Option Addr} {nc : Nat} {da : Option Addr} {dn dc : Nat} {ka : Option Addr} {kc : Nat}, e.size ≤ 100000 → Op w e na nc da dn dc ka kc →
    Calls Tryz.prog 50 #[.agg #[.int .i64 e.kind, .string e.name, .slice na e.names.length nc, .int .i64 e.const.kind, .int .i64 e.const.int, .string e.const.text, .slice da dn dc, .slice ka e.kids.length kc]] w (Says (.int .i64 e.deep) w) := by
  induction e using Ex.byKids with
  | h e ih =>
  intro w na nc da dn dc ka kc hsz ho
  obtain ⟨w1, B1⟩ := boxed w #[.int .i64 e.kind, .string e.name, .slice na e.names.length nc, .int .i64 e.const.kind, .int .i64 e.const.int, .string e.const.text, .slice da dn dc, .slice ka e.kids.length kc] 28
  have hR := Row.of B1.blk
  have HO := Lib.hid (ho.bel B1.below)
  have HB := Lib.hid B1
  have HR := Lib.hid hR
  have HIH := Lib.hid ih
  clear ih
  have hl : e.kids.length ≤ 100000 := by have := Ex.sizes_len e.kids; have := Ex.size_eq e; omega
  have HSZ := Lib.hid hsz
  obtain ⟨x0, x1, x2, x3, x4, x5, x6, x7, hbl⟩ := hR
  clear B1 ho hsz
  go_enter Tryz.func50, Tryz.ntmps50
  go_upto_region 1 with fail
  rw [← HB.out.eq]
  go_wp2_with fail
  go_loopg [3, 4] e.kids.length (fun g n i wr => ∃ j : Nat, j ≤ e.kids.length ∧ g = e.kids.length - j ∧ i = .int .i64 j ∧ n = .int .i64 ((Ex.deeps (e.kids.take j) : Nat) : Int) ∧ Below w1.heap.size w1 wr)
  case atStart => exact ⟨0, Nat.zero_le _, rfl, rfl, rfl, Below.refl _ _⟩
  case round =>
    obtain ⟨j, hj, rfl, rfl, rfl, hb⟩ := hrel
    have HB2 := Lib.hid hb
    obtain ⟨y0, _, _, _, _, _, _, y7, ybl⟩ := HR.out.bel hb
    clear hb
    obtain ⟨S, hS⟩ : ∃ S, S = Ex.deeps (e.kids.take j) := ⟨_, rfl⟩
    rw [← hS]
    by_cases hlt : j < e.kids.length
    · obtain ⟨x, hx⟩ : ∃ x, e.kids[j]? = some x := ⟨_, List.getElem?_eq_getElem hlt⟩
      have hxm := List.mem_of_getElem? hx
      have HSX := Ex.size_mem _ _ hxm
      have HSE := Ex.size_eq e
      obtain ⟨kb, koff, na2, nc2, da2, dn2, dc2, ya2, yc2, hk⟩ := (HO.out.bel HB2.out).kid hx
      have HKO := Lib.hid hk.op
      have HXS : Hid (x.size ≤ 100000) := by have := HSZ.out; unfold Hid; omega
      have HX := Lib.hid hx
      have HXM := Lib.hid hxm
      obtain ⟨rfl, hkb, ⟨g1, g2⟩, _, c0, c1, c2, c3, c4, c5, c6, c7⟩ := hk
      have gw : IntKind.i64.wrap ((j : Int) + 1) = ((j + 1 : Nat) : Int) := by rw [IntKind.wrap_i64]; omega
      clear hx hxm HSX HSE
      have HC := Lib.hid (HIH.out x HXM.out HXS.out HKO.out)
      have hS2 : max S x.deep = Ex.deeps (e.kids.take (j + 1)) := by
        rw [hS, List.take_add_one, HX.out, deeps_app]
        show _ = max (Ex.deeps (e.kids.take j)) (max x.deep 0)
        omega
      have HS2 : Hid (max (S : Int) (x.deep : Int) = ((Ex.deeps (e.kids.take (j + 1)) : Nat) : Int)) := by unfold Hid; omega
      clear hS hS2
      go_wp2_with fail
      with_reducible refine HC.out.mono ?_
      rintro e2 w2 ⟨rfl, hb2⟩
      have HB3 : Hid (Below w1.heap.size w1 w2) := HB2.out.trans (hb2.mono HB2.out.size)
      clear hb2
      go_wp2_with fail
      go_roundg (e.kids.length - (j + 1))
      case measure => omega
      case rel => exact ⟨j + 1, by omega, rfl, by go_num, by rw [← HS2.out], HB3.out⟩
    · have hje : j = e.kids.length := by omega
      have HE : Hid ((S : Int) + 1 = (e.deep : Int)) := by
        have := Ex.deep_eq e
        rw [hje, List.take_length] at hS
        unfold Hid
        omega
      have hS3 : S ≤ 100000 := by
        have := deeps_le_sizes e
        have := HSZ.out
        have := HE.out
        omega
      have gs : IntKind.i64.wrap ((S : Int) + 1) = (S : Int) + 1 := by rw [IntKind.wrap_i64]; omega
      have hge : (e.kids.length : Int) ≤ j := by omega
      clear hS
      go_wp2_with fail
      go_ret
      exact ⟨by rw [← HE.out]; rfl, HB.out.below.trans (HB2.out.mono HB.out.below.size)⟩
set_option maxHeartbeats 8000000 in
theorem rsmall_any (e : Ex) : ∀ {w : World} {na : Option Addr} {nc : Nat} {da : Option Addr} {dn dc : Nat} {ka : Option Addr} {kc : Nat}, e.size ≤ 100000 → Op w e na nc da dn dc ka kc →
    Calls Tryz.prog 28 #[.agg #[.int .i64 e.kind, .string e.name, .slice na e.names.length nc, .int .i64 e.const.kind, .int .i64 e.const.int, .string e.const.text, .slice da dn dc, .slice ka e.kids.length kc]] w (Says (.bool (decide (e.size ≤ 400) && decide (e.deep ≤ 25))) w) := by
  intro w na nc da dn dc ka kc hsz ho
  obtain ⟨w1, B1⟩ := boxed w #[.int .i64 e.kind, .string e.name, .slice na e.names.length nc, .int .i64 e.const.kind, .int .i64 e.const.int, .string e.const.text, .slice da dn dc, .slice ka e.kids.length kc] 28
  have hR := Row.of B1.blk
  have HO := Lib.hid (ho.bel B1.below)
  have HB := Lib.hid B1
  have HR := Lib.hid hR
  have hl : e.kids.length ≤ 100000 := by have := Ex.sizes_len e.kids; have := Ex.size_eq e; omega
  have HSZ := Lib.hid hsz
  obtain ⟨x0, x1, x2, x3, x4, x5, x6, x7, hbl⟩ := hR
  clear B1 ho hsz
  have HC1 := Lib.hid (rsize_any e HSZ.out HO.out)
  by_cases hs : e.size ≤ 400
  · have k1 : decide ((e.size : Int) ≤ 400) = true := by rw [decide_eq_true_eq]; omega
    have HS1 : Hid (decide (e.size ≤ 400) = true) := by unfold Hid; simp; omega
    clear hs
    go_enter Tryz.func28, Tryz.ntmps28
    go_upto_region 1 with fail
    rw [← HB.out.eq]
    go_wp2_with fail
    with_reducible refine HC1.out.mono ?_
    rintro e2 w2 ⟨rfl, hb2⟩
    have HB2 := Lib.hid hb2
    obtain ⟨y0, y1, y2, y3, y4, y5, y6, y7, ybl⟩ := HR.out.bel hb2
    clear hb2
    go_wp2_with fail
    with_reducible refine (rdeep_any e HSZ.out (HO.out.bel HB2.out)).mono ?_
    rintro e2 w3 ⟨rfl, hb3⟩
    have HB3 := Lib.hid hb3
    clear hb3
    go_wp2_with fail
    go_ret
    refine ⟨?_, HB.out.below.trans ((HB2.out.trans (HB3.out.mono HB2.out.size)).mono HB.out.below.size)⟩
    rw [HS1.out]
    show Ending.returned (.bool (decide ((e.deep : Int) ≤ 25))) = _
    congr 2
    simp
    omega
  · have k1 : decide ((e.size : Int) ≤ 400) = false := by rw [decide_eq_false_iff_not]; omega
    have HS1 : Hid (decide (e.size ≤ 400) = false) := by unfold Hid; simp; omega
    clear hs
    go_enter Tryz.func28, Tryz.ntmps28
    go_upto_region 1 with fail
    rw [← HB.out.eq]
    go_wp2_with fail
    with_reducible refine HC1.out.mono ?_
    rintro e2 w2 ⟨rfl, hb2⟩
    have HB2 := Lib.hid hb2
    clear hb2
    go_wp2_with fail
    go_ret
    exact ⟨by rw [HS1.out]; rfl, HB.out.below.trans (HB2.out.mono HB.out.below.size)⟩
end Ew
end Go.Proofs.YtkplkgdfphbldaaGreat
