/- The reference's tell of pairs and vectors: plainly, and its loop's state. -/
import Derived.Test.YthbnhneibpoooaaQRK
import Derived.Test.YthbnhneibpoooaaQRA
set_option linter.unusedVariables false
set_option linter.unusedSimpArgs false
set_option linter.unnecessarySimpa false
namespace Go.Proofs.Ythbnhneibpoooaa
open Go.RowKit
set_option linter.unusedVariables false
set_option linter.unusedSimpArgs false
set_option linter.unnecessarySimpa false
namespace Hp
/-- What the first parts show, each as deep as dp says. -/
def gather (f : V → Nat → Nat → Option (Dt × Nat)) (dp : Nat → Nat) (l : List V) : Nat → Nat → Option (List Dt × Nat)
  | 0, left => some ([], left)
  | k + 1, left => (gather f dp l k left).bind fun m => (l[k]?).bind fun v => (f v (dp k) m.2).map fun x => (m.1 ++ [x.1], x.2)
section
variable {f : V → Nat → Nat → Option (Dt × Nat)} {dp : Nat → Nat} {l : List V}
theorem gather_step {k left lk l' : Nat} {v : V} {m : List Dt} {x : Dt} (hv : l[k]? = some v) (h : gather f dp l k left = some (m, lk)) (hx : f v (dp k) lk = some (x, l')) : gather f dp l (k + 1) left = some (m ++ [x], l') := by
  simp [gather, h, hv, hx]
theorem gather_stop {k left lk : Nat} {v : V} {m : List Dt} (hv : l[k]? = some v) (h : gather f dp l k left = some (m, lk)) (hx : f v (dp k) lk = Option.none) : ∀ n, k < n → gather f dp l n left = Option.none
  | 0, hn => by omega
  | n + 1, hn => by
    by_cases e : k = n
    · subst e
      simp [gather, h, hv, hx]
    · rw [gather, gather_stop hv h hx n (by omega)]
      rfl
theorem gather_len : ∀ (k left : Nat) (m : List Dt × Nat), gather f dp l k left = some m → m.1.length = k
  | 0, left, m, h => by simp [gather] at h; subst h; rfl
  | k + 1, left, m, h => by
    simp only [gather, Option.bind_eq_some_iff, Option.map_eq_some_iff] at h
    obtain ⟨m1, h1, v, hv, x, hx, rfl⟩ := h
    simp [gather_len k left m1 h1]
theorem gather_fits (hf : Fits f) : ∀ (k left : Nat) (m : List Dt × Nat), gather f dp l k left = some m → Dt.nodess m.1 + m.2 ≤ left
  | 0, left, m, h => by simp [gather] at h; subst h; simp [Dt.nodess]
  | k + 1, left, m, h => by
    simp only [gather, Option.bind_eq_some_iff, Option.map_eq_some_iff] at h
    obtain ⟨m1, h1, v, hv, x, hx, rfl⟩ := h
    have h2 := gather_fits hf k left m1 h1
    have h3 := hf v (dp k) m1.2 x hx
    rw [Dt.nodess_app, Dt.nodess, Dt.nodess]
    omega
theorem gather_list {d : Nat} (hd : ∀ i, dp i = d) : ∀ (k left : Nat), k ≤ l.length → gather f dp l k left = listF f d (l.take k) left
  | 0, left, h => by simp [gather, listF]
  | k + 1, left, h => by
    have hv : l[k]? = some l[k] := List.getElem?_eq_getElem (by omega)
    rw [gather, gather_list hd k left (by omega), List.take_add_one, hv, Option.toList_some, listF_app]
    cases listF f d (l.take k) left with
    | none => rfl
    | some m =>
      simp only [Option.bind_some, listF, hd]
      cases f l[k] d m.2 with
      | none => rfl
      | some x => simp
end
/-- How deep a part lies. -/
def downF (kd : Int) (deep i : Nat) : Nat := if kd = 0 ∧ i = 1 then deep else deep + 1
theorem thing_vecG (f : V → Nat → Nat → Option (Dt × Nat)) (l : List V) (deep left : Nat) : thingF f ⟨1, l⟩ deep left = (gather f (downF 1 deep) l l.length left).map fun m => (.mk 7 0 ⟨#[]⟩ m.1, m.2) := by
  rw [gather_list (d := deep + 1) (fun i => by simp [downF]) l.length left (Nat.le_refl _), List.take_length]
  rfl
theorem thing_pairG (f : V → Nat → Nat → Option (Dt × Nat)) (a b : V) (deep left : Nat) : thingF f ⟨0, [a, b]⟩ deep left = (gather f (downF 0 deep) [a, b] 2 left).bind fun m => match m.1 with | [x, y] => some (mkD [x] y, m.2) | _ => Option.none := by
  have e : thingF f ⟨0, [a, b]⟩ deep left = (f a (deep + 1) left).bind fun x => (f b deep x.2).map fun y => (mkD [x.1] y.1, y.2) := rfl
  rw [e]
  simp only [gather, downF, Option.bind_some, List.getElem?_cons_zero, List.getElem?_cons_succ]
  simp
  cases f a (deep + 1) left with
  | none => rfl
  | some x =>
    simp
    cases f b deep x.2 with
    | none => rfl
    | some y => simp
end Hp
/-- A row of data of the call's own beside a block that is written. -/
structure OwnP (w : World) (B : Nat) (v : Value) (M : List (Dt × Value)) : Prop where
  row : w.ownsRow B 48 4 v M.length (flatD M)
  ne : v.ownBlock ≠ some (B + 1)
  kids : ∀ m ∈ M, DtAt w (fun b => B + 2 ≤ b ∧ v.ownBlock ≠ some b) (m.1.valOf m.2) m.1
theorem OwnP.bel {w w' : World} {B N : Nat} {v : Value} {M : List (Dt × Value)} (h : OwnP w B v M) (hb : Below N w w') (hN : w.heap.size ≤ N) : OwnP w' B v M :=
  ⟨own_same h.row fun b e => hb.block b (Nat.lt_of_lt_of_le (h.row.lt b e).2 hN), h.ne, fun m hm => (h.kids m hm).bel hb hN⟩
theorem OwnP.four {w : World} {B : Nat} {v : Value} {M : List (Dt × Value)} (h : OwnP w B v M) (x y z u : Value) : OwnP ((((w.setCell ⟨B + 1, 0, none⟩ x).setCell ⟨B + 1, 1, none⟩ y).setCell ⟨B + 1, 2, none⟩ z).setCell ⟨B + 1, 3, none⟩ u) B v M :=
  ⟨own_same h.row fun b e => four_other _ _ _ _ _ _ _ (fun e2 => h.ne (e2 ▸ e)), h.ne, fun m hm => (h.kids m hm).four (fun b hb => by omega) _ _ _ _⟩
theorem OwnP.snoc {w w' : World} {B : Nat} {v : Value} {M : List (Dt × Value)} (h : OwnP w B v M) {x : Dt} {lv : Value} {S : Nat → Prop} (hx : DtAt w S (x.valOf lv) x) (hS : ∀ b, S b → b < w.heap.size → B + 2 ≤ b ∧ v.ownBlock ≠ some b) (hB : B + 2 ≤ w.heap.size) {g cap : Nat} (hown : w'.ownsRow B 48 4 (.slice (some ⟨g, 0, none⟩) (M.length + 1) cap) (M.length + 1) (flatD M ++ [.int .i64 x.kind, .int .i64 x.int, .string x.text, lv])) (hg : w.grownBy w' v.ownBlock) (hl : v.ownBlock = some g ∨ g = w.heap.size) :
    OwnP w' B (.slice (some ⟨g, 0, none⟩) (M.length + 1) cap) (M ++ [(x, lv)]) := by
  have key : ∀ (y : Dt) (ly : Value) (S' : Nat → Prop), DtAt w S' (y.valOf ly) y → (∀ b, S' b → b < w.heap.size → B + 2 ≤ b ∧ v.ownBlock ≠ some b) → DtAt w' (fun b => B + 2 ≤ b ∧ (Value.slice (some ⟨g, 0, none⟩) (M.length + 1) cap).ownBlock ≠ some b) (y.valOf ly) y := by
    intro y ly S' hy hS'
    refine hy.same (fun b hb hlt => ⟨(hS' b hb hlt).1, fun e => ?_⟩) hg.size (fun b hb hlt => hg.block b hlt (fun e => (hS' b hb hlt).2 e.symm))
    simp [Value.ownBlock] at e
    rcases hl with hl | hl
    · exact (hS' b hb hlt).2 (by rw [hl, e])
    · omega
  refine ⟨?_, fun e => ?_, fun m hm => ?_⟩
  · rw [List.length_append, flatD_append]
    exact hown
  · simp [Value.ownBlock] at e
    rcases hl with hl | hl
    · exact h.ne (by rw [hl, e])
    · omega
  · rw [List.mem_append, List.mem_singleton] at hm
    rcases hm with hm | rfl
    · exact key m.1 m.2 _ (h.kids m hm) fun b hb _ => hb
    · exact key x lv S hx hS
/-- It reads as data; so do its first so many. -/
theorem OwnP.data {w : World} {B : Nat} {v : Value} {M : List (Dt × Value)} (h : OwnP w B v M) (k i : Int) (t : ByteArray) : DtAt w (fun b => B ≤ b) (.agg #[.int .i64 k, .int .i64 i, .string t, v]) (.mk k i t (M.map (·.1))) :=
  dt_row h.row rfl (fun b e => (h.row.lt b e).1) (fun m hm => (h.kids m hm).mono fun b hb _ => by omega) k i t
theorem OwnP.pair {w : World} {B : Nat} {a : Option Addr} {c : Nat} {x y : Dt × Value} (h : OwnP w B (.slice a 2 c) [x, y]) (c' : Nat) : DtAt w (fun b => B ≤ b) (.agg #[.int .i64 0, .int .i64 0, .string ⟨#[]⟩, .slice a 1 c']) (.mk 0 0 ⟨#[]⟩ [x.1]) ∧ DtAt w (fun b => B ≤ b) (.agg #[.int .i64 y.1.kind, .int .i64 y.1.int, .string y.1.text, y.2]) y.1 ∧
    ∃ g, a = some ⟨g, 0, none⟩ ∧ w.cell? ⟨g, 4, none⟩ = some (.int .i64 y.1.kind) ∧ w.cell? ⟨g, 5, none⟩ = some (.int .i64 y.1.int) ∧ w.cell? ⟨g, 6, none⟩ = some (.string y.1.text) ∧ w.cell? ⟨g, 7, none⟩ = some y.2 ∧ g < w.heap.size ∧ 2 ≤ c := by
  have hr := h.row
  have hk := h.kids
  obtain ⟨g, cap, e, h0, h1, h2⟩ : ∃ g cap, Value.slice a 2 c = .slice (some ⟨g, 0, none⟩) 2 cap ∧ B ≤ g ∧ g < w.heap.size ∧ 2 ≤ cap := by
    rcases own_shape hr with ⟨_, e, _⟩ | ⟨g, cap, e, h0, h1, h2, _⟩
    · simp at e
    · exact ⟨g, cap, e, h0, h1, h2⟩
  simp only [Value.slice.injEq] at e
  obtain ⟨rfl, _, rfl⟩ := e
  have c0 := hr.cellAt 0 (by simp)
  have c1 := hr.cellAt 1 (by simp)
  have c2 := hr.cellAt 2 (by simp)
  have c3 := hr.cellAt 3 (by simp)
  have c4 := hr.cellAt 4 (by simp)
  have c5 := hr.cellAt 5 (by simp)
  have c6 := hr.cellAt 6 (by simp)
  have c7 := hr.cellAt 7 (by simp)
  simp [flatD] at c0 c1 c2 c3 c4 c5 c6 c7
  refine ⟨?_, (hk y (by simp)).mono fun b hb _ => by omega, g, rfl, c4, c5, c6, c7, h1, h2⟩
  refine .row 0 0 ⟨#[]⟩ g 0 c' [x.1] (fun _ => x.2) h0 h1 (fun j z hz => ?_) (fun j z hz => ?_)
  · cases j with
    | zero =>
      simp at hz
      subst hz
      exact ⟨by simpa using c0, by simpa using c1, by simpa using c2, by simpa using c3⟩
    | succ j => simp at hz
  · cases j with
    | zero =>
      simp at hz
      subst hz
      exact (hk x (by simp)).mono fun b hb _ => by omega
    | succ j => simp at hz
end Go.Proofs.Ythbnhneibpoooaa
/- The reference's tell: pairs and vectors. -/
namespace Go.Proofs.Ythbnhneibpoooaa
open Go.RowKit
set_option linter.unusedVariables false
set_option linter.unusedSimpArgs false
set_option linter.unnecessarySimpa false
/-- The state of the loop over a thing's parts. -/
structure Rl (w wx : World) (B h : Nat) (O : Nat → Prop) (vt : Value) (M : List (Hp.Th × Value)) (kd : Int) (pv : Value) (f : Hp.V → Nat → Nat → Option (Dt × Nat)) (dp : Nat → Nat) (left0 : Nat) (l : List Hp.V) (k : Nat) (a1 : Option Addr) (c1 lk : Nat) (N : List (Dt × Value)) : Prop where
  rt : Rt w wx h O vt M kd pv
  own : OwnP wx B (.slice a1 k c1) N
  told : Hp.gather f dp l k left0 = some (N.map (·.1), lk)
  xr : ∃ x y z u, wx.heap[B + 1]? = some (.cells #[x, y, z, u] 48 (0, 0))
  size : B + 2 ≤ wx.heap.size
  hB : w.heap.size + 5 ≤ B
section
variable {w wx w7 w9 : World} {B h : Nat} {O : Nat → Prop} {vt : Value} {M : List (Hp.Th × Value)} {kd : Int} {pv : Value} {f : Hp.V → Nat → Nat → Option (Dt × Nat)} {dp : Nat → Nat} {left0 : Nat} {l : List Hp.V} {k : Nat} {a1 : Option Addr} {c1 lk : Nat} {N : List (Dt × Value)}
theorem Rl.len (H : Rl w wx B h O vt M kd pv f dp left0 l k a1 c1 lk N) : N.length = k := by
  have := Hp.gather_len _ _ _ H.told
  simpa using this
theorem Rl.bel (H : Rl w wx B h O vt M kd pv f dp left0 l k a1 c1 lk N) (hO : ∀ b, O b → b < w.heap.size) (hb : Below wx.heap.size wx w7) : Rl w w7 B h O vt M kd pv f dp left0 l k a1 c1 lk N := by
  obtain ⟨x, y, z, u, hx⟩ := H.xr
  exact ⟨H.rt.bel hO H.rt.size hb, H.own.bel hb (Nat.le_refl _), H.told, ⟨x, y, z, u, (hb.block _ (by have := H.size; omega)).trans hx⟩, Nat.le_trans H.size hb.size, H.hB⟩
theorem Rl.four (H : Rl w wx B h O vt M kd pv f dp left0 l k a1 c1 lk N) (hO : ∀ b, O b → b < w.heap.size) (x y z u : Value) : Rl w ((((wx.setCell ⟨B + 1, 0, none⟩ x).setCell ⟨B + 1, 1, none⟩ y).setCell ⟨B + 1, 2, none⟩ z).setCell ⟨B + 1, 3, none⟩ u) B h O vt M kd pv f dp left0 l k a1 c1 lk N := by
  obtain ⟨x', y', z', u', hx⟩ := H.xr
  have hB := H.hB
  exact ⟨H.rt.bel hO (N := B + 1) (by omega) (below_four (Below.refl _ _) (Nat.le_refl _) _ _ _ _), H.own.four _ _ _ _, H.told, ⟨x, y, z, u, four_set _ _ _ _ _ _ _ _ _ _ _ hx⟩, by simpa [World.setCell] using H.size, hB⟩
theorem new_cells4' {W : World} {s : Nat} (hs : W.heap.size = s) (a b c d : Value) (t : TypeId) : ∀ (j : Nat) (u : Value), [a, b, c, d][j]? = some u → (W.alloc (.cells #[a, b, c, d] t)).cell? ((⟨s, 0, none⟩ : Addr).add j) = some u := by
  subst hs
  exact new_cells4 W a b c d t
/-- Behind the append. -/
theorem Rl.next {v : Hp.V} {d : Dt} {lv : Value} {g cap left7 p : Nat} {o : Obj} (H : Rl w w7 B h O vt M kd pv f dp left0 l k a1 c1 lk N) (hO : ∀ b, O b → b < w.heap.size) (hv : l[k]? = some v) (hx : f v (dp k) lk = some (d, left7)) (hd : DtAt w7 (fun b => p ≤ b) (d.valOf lv) d) (hp : B + 2 ≤ p) (hpo : ∀ b, (Value.slice a1 k c1).ownBlock = some b → b < p)
    (hown : w9.ownsRow B 48 4 (.slice (some ⟨g, 0, none⟩) (k + 1) cap) (k + 1) (flatD N ++ [.int .i64 d.kind, .int .i64 d.int, .string d.text, lv])) (hg : (w7.alloc o).grownBy w9 (Value.slice a1 k c1).ownBlock) (hl : (Value.slice a1 k c1).ownBlock = some g ∨ g = w7.heap.size + 1) :
    Rl w w9 B h O vt M kd pv f dp left0 l (k + 1) (some ⟨g, 0, none⟩) cap left7 (N ++ [(d, lv)]) := by
  have hlen := H.len
  have hb : Below w7.heap.size w7 (w7.alloc o) := (Below.refl _ _).alloc (Nat.le_refl _) _
  have HA := H.bel hO hb
  have hsz := H.size
  have hB := H.hB
  obtain ⟨x, y, z, u, hxr⟩ := HA.xr
  have hb9 : Below B (w7.alloc o) w9 := (Below.refl _ _).grown hg (by rw [World.heap_size_alloc]; omega) fun b e => (HA.own.row.lt b e).1
  refine ⟨HA.rt.bel hO hB hb9, ?_, ?_, ⟨x, y, z, u, ?_⟩, by have := hg.size; simp at this; omega, hB⟩
  · have := HA.own.snoc (x := d) (lv := lv) (hd.bel hb (Nat.le_refl _)) (fun b h1 _ => ⟨by omega, fun e => by have := hpo b e; omega⟩) (by simp; omega) (by rw [hlen]; exact hown) hg (by simpa using hl)
    rw [hlen] at this
    exact this
  · rw [List.map_append]
    exact Hp.gather_step hv H.told hx
  · rw [hg.block _ (by simp; omega) (fun e => HA.own.ne e.symm)]
    exact hxr
theorem Rt.on {s left : Nat} {d : Dt} {a : Option Addr} {c : Nat} (H : Rt w wx h O vt M kd pv) (hd : DtAt wx (fun b => B ≤ b) (.agg #[.int .i64 d.kind, .int .i64 d.int, .string d.text, .slice a d.list.length c]) d) (hB : w.heap.size + 5 ≤ B) (hs : s + left = 200) (x y z u : Value) :
    RTOut (some (d, left)) w (.returned (.tuple #[.agg #[.int .i64 d.kind, .int .i64 d.int, .string d.text, .slice a d.list.length c], .int .i64 s, .bool true])) ((((wx.setCell ⟨w.heap.size + 1, 0, none⟩ x).setCell ⟨w.heap.size + 1, 1, none⟩ y).setCell ⟨w.heap.size + 1, 2, none⟩ z).setCell ⟨w.heap.size + 1, 3, none⟩ u) :=
  ⟨d, a, c, true, s, rfl, (hd.four (fun b hb => by omega) _ _ _ _).mono fun b hb _ => by omega, below_four H.below (by omega) _ _ _ _, fun _ => ⟨left, rfl, hs⟩, fun e => by cases e⟩
theorem Rl.first (H : Rt w wx h O vt M kd pv) (hO : ∀ b, O b → b < w.heap.size) (f : Hp.V → Nat → Nat → Option (Dt × Nat)) (dp : Nat → Nat) (left0 : Nat) (l : List Hp.V) : Rl w ((wx.alloc (.cells #[] 48)).alloc (.cells #[.int .i64 0, .int .i64 0, .string ⟨#[]⟩, .slice none 0 0] 48)) wx.heap.size h O vt M kd pv f dp left0 l 0 (some ⟨wx.heap.size, 0, none⟩) 0 left0 [] := by
  have hs := H.size
  have hb := ((Below.refl wx.heap.size wx).alloc (Nat.le_refl _) (.cells #[] 48)).alloc (by simp) (.cells #[.int .i64 0, .int .i64 0, .string ⟨#[]⟩, .slice none 0 0] 48)
  refine ⟨H.bel hO hs hb, ⟨⟨rfl, .inr ⟨wx.heap.size, 0, #[], rfl, Nat.le_refl _, ?_, Nat.le_refl _, by decide, rfl, rfl⟩⟩, fun e => by simp [Value.ownBlock] at e, by simp⟩, rfl, ⟨_, _, _, _, heap_new (by simp)⟩, by simp, hs⟩
  rw [heap_alloc_old _ _ (by simp)]
  exact heap_alloc_new wx _
end
set_option maxHeartbeats 16000000 in
set_option maxRecDepth 100000 in
theorem rtell_list {h : Nat} {O : Nat → Prop} {vt : Value} {M : List (Hp.Th × Value)} (f : Hp.V → Nat → Nat → Option (Dt × Nat)) (hf : Hp.Fits f) (k : Nat) (deep left s : Nat) (w : World) (HA : HpAt w 40 h O vt M) (hs : s + left = 200) (h0 : left ≠ 0) (hd : deep ≤ 32) {m : Hp.Th × Value} (hm : M[k]? = some m) (hk : m.1.kind = 0 ∧ m.1.parts.length = 2 ∨ m.1.kind = 1) (hlen : m.1.parts.length ≤ 1000000)
    (HT : ∀ (v : Hp.V) (dp lf s1 : Nat) (w1 : World), dp ≤ deep + 1 → v ∈ m.1.parts → lf ≤ left - 1 → s1 + lf = 200 → HpAt w1 40 h O vt M → Calls Try.prog 48 #[.pointer (some ⟨h, 0, none⟩), v.val, .int .i64 dp, .int .i64 s1] w1 (RTOut (f v dp lf) w1)) :
    Calls Try.prog 48 #[.pointer (some ⟨h, 0, none⟩), .agg #[.int .i64 8, .int .i64 k, .string ⟨#[]⟩], .int .i64 deep, .int .i64 s] w (RTOut (Hp.thingF f m.1 deep (left - 1)) w) := by
  have hkl : k < M.length := (List.getElem?_eq_some_iff.1 hm).1
  obtain ⟨g, c, a, cp, rfl, hap, HR⟩ := rh_of HA hm
  have g1 : decide ((200 : Int) ≤ s) = false := decide_eq_false (by omega)
  have g2 : decide ((32 : Int) < deep) = false := decide_eq_false (by omega)
  have g3 : (0 : Int) ≤ s := by omega
  have g4 : (s : Int) ≤ 200 := by omega
  have g5 : IntKind.i64.wrap ((s : Int) + 1) = s + 1 := by rw [IntKind.wrap_i64]; omega
  have g6 : (0 : Int) ≤ k := by omega
  have g7 : (k : Int) < M.length := by omega
  have HE : Hid (s + 1 + (left - 1) = 200) := by show _ = _; omega
  have hmm := List.mem_of_getElem? hm
  obtain ⟨⟨kd, l⟩, pv⟩ := m
  dsimp only at *
  subst hap
  obtain ⟨i0, hi, hz0, hz1, hz2⟩ := info_parts infoDatum
  have HDI := Lib.hid hi
  have HZ0 := Lib.hid hz0
  have HZ1 := Lib.hid hz1
  have HZ2 := Lib.hid hz2
  have HF := Lib.hid hf
  have HOL : Hid (∀ b, O b → b < w.heap.size) := fun b e => HA.lt b e
  have HC : Hid (∀ (w1 : World) (k : Nat) (v : Hp.V), HpAt w1 40 h O (.slice (some ⟨g, 0, none⟩) M.length c) M → l[k]? = some v → ∃ g, a = some ⟨g, 0, none⟩ ∧ g < w.heap.size ∧ w1.cell? ⟨g, k * 3, none⟩ = some (.int .i64 v.kind) ∧ w1.cell? ⟨g, k * 3 + 1, none⟩ = some (.int .i64 v.int) ∧ w1.cell? ⟨g, k * 3 + 2, none⟩ = some (.string v.text)) := fun w1 k v h1 hv => by
    obtain ⟨g, c, e, hg, _⟩ := HA.part hmm (j := k) (v := v) hv
    dsimp only at e
    simp at e
    obtain ⟨rfl, _⟩ := e
    obtain ⟨_, h2, h3, h4⟩ := h1.part3 hmm rfl (j := k) (v := v) hv
    exact ⟨g, rfl, hg, h2, h3, h4⟩
  have HT2 : Hid (∀ (v : Hp.V) (i lf s1 : Nat) (dpi : Int) (w1 : World), dpi = (Hp.downF kd deep i : Nat) → v ∈ l → lf ≤ left - 1 → s1 + lf = 200 → HpAt w1 40 h O (.slice (some ⟨g, 0, none⟩) M.length c) M → Calls Try.prog 48 #[.pointer (some ⟨h, 0, none⟩), .agg #[.int .i64 v.kind, .int .i64 v.int, .string v.text], .int .i64 dpi, .int .i64 s1] w1 (RTOut (f v (Hp.downF kd deep i) lf) w1)) := by
    intro v i lf s1 dpi w1 e h1 h2 h3 h4
    subst e
    exact HT v (Hp.downF kd deep i) lf s1 w1 (by unfold Hp.downF; split <;> omega) h1 h2 h3 h4
  have HGN : Hid (Hp.gather f (Hp.downF kd deep) l l.length (left - 1) = none → Hp.thingF f ⟨kd, l⟩ deep (left - 1) = none) := by
    intro h1
    rcases hk with ⟨rfl, h2⟩ | rfl
    · obtain ⟨x, y, rfl⟩ : ∃ x y, l = [x, y] := by
        rcases l with _ | ⟨a, _ | ⟨b, _ | ⟨c, l⟩⟩⟩
        · simp at h2
        · simp at h2
        · exact ⟨a, b, rfl⟩
        · simp at h2
      rw [Hp.thing_pairG]
      exact (congrArg (fun r => Option.bind r _) h1)
    · rw [Hp.thing_vecG, h1]
      rfl
  have HGP : Hid (kd = 0 → l.length = 2 ∧ ∀ x y lk, Hp.gather f (Hp.downF kd deep) l l.length (left - 1) = some ([x, y], lk) → Hp.thingF f ⟨kd, l⟩ deep (left - 1) = some (mkD [x] y, lk)) := by
    rintro rfl
    rcases hk with ⟨_, h2⟩ | hk
    · obtain ⟨p, q, rfl⟩ : ∃ x y, l = [x, y] := by
        rcases l with _ | ⟨a, _ | ⟨b, _ | ⟨c, l⟩⟩⟩
        · simp at h2
        · simp at h2
        · exact ⟨a, b, rfl⟩
        · simp at h2
      refine ⟨rfl, fun x y lk h1 => ?_⟩
      rw [Hp.thing_pairG]
      exact (congrArg (fun r => Option.bind r _) h1)
    · omega
  have HGV : Hid (¬ kd = 0 → ∀ ml lk, Hp.gather f (Hp.downF kd deep) l l.length (left - 1) = some (ml, lk) → Hp.thingF f ⟨kd, l⟩ deep (left - 1) = some (.mk 7 0 ⟨#[]⟩ ml, lk)) := by
    intro hk0 ml lk h1
    rcases hk with ⟨h2, _⟩ | rfl
    · exact absurd h2 hk0
    · rw [Hp.thing_vecG, h1]
      rfl
  have k3 : (kd == 3) = false := beq_eq_false_iff_ne.2 (by omega)
  have k4 : (kd == 4) = false := beq_eq_false_iff_ne.2 (by omega)
  have k2 : (kd == 2) = false := beq_eq_false_iff_ne.2 (by omega)
  have gd1 : IntKind.i64.wrap ((deep : Int) + 1) = deep + 1 := by rw [IntKind.wrap_i64]; omega
  have HSL0 : Hid (left ≤ 200) := by show left ≤ 200; omega
  have HHH : Hid (h < w.heap.size) := HA.lth
  clear hi hz0 hz1 hz2 HT hf hk
  have HI := Lib.hid (Rt.first HA k kd (.slice a l.length cp))
  obtain ⟨c0, d0, d1, b1, hz, hg⟩ := HR
  generalize hW4 : rtW w k = W4 at *
  have HZ : Hid (W4.heap.size = w.heap.size + 4) := hz
  have sz1 : w.heap.size < W4.heap.size := by rw [HZ.out]; omega
  have sz2 : h < W4.heap.size := by rw [HZ.out]; have := HA.lth; omega
  have sz3 : g < W4.heap.size := hg
  have c0' : W4.cell? ⟨h, 0, none⟩ = _ := c0
  have d0' : W4.cell? ⟨g, k * 2, none⟩ = _ := d0
  have d1' : W4.cell? ⟨g, k * 2 + 1, none⟩ = _ := d1
  have b1' : W4.cell? ⟨w.heap.size, 1, none⟩ = _ := b1
  unfold rtW at hW4
  have HW4 := Lib.hid hW4
  clear hW4 hz hg h0 hd hs HA hm hmm
  generalize hr : Hp.thingF f ⟨kd, l⟩ deep (left - 1) = r at *
  clear hr
  go_enter Try.func48, Try.ntmps48
  go_wp2_with fail
  rw [HW4.out]
  go_region
  clear c0 d0 d1 b1 c0' d0' d1' b1' sz1 sz2 sz3 HW4
  rw [HZ.out]
  generalize (W4.alloc (.cells #[.int .i64 _, .slice a l.length cp] 54)).drew = wx at HI ⊢
  obtain ⟨q0, q1, q2, q3⟩ := HI.out.cells
  have HL0 := Lib.hid (Rl.first HI.out HOL.out f (Hp.downF kd deep) (left - 1) l)
  go_wp2_with fail
  obtain ⟨B, hB⟩ : ∃ B, wx.heap.size = B := ⟨_, rfl⟩
  rw [hB] at HL0 ⊢
  clear hB
  go_loopg [3, 16, 19] l.length (fun gk s3 s16 s19 wx => ∃ (k : Nat) (N : List (Dt × Value)) (a1 : Option Addr) (c1 lk s1 : Nat), k ≤ l.length ∧ gk = l.length - k ∧ s19 = .int .i64 k ∧ s3 = .int .i64 s1 ∧ s16 = .slice a1 k c1 ∧ Hid (s1 + lk = 200) ∧ Hid (Rl w wx B h O (.slice (some ⟨g, 0, none⟩) M.length c) M kd (.slice a l.length cp) f (Hp.downF kd deep) (left - 1) l k a1 c1 lk N))
  case atStart => exact ⟨0, [], _, _, left - 1, s + 1, Nat.zero_le _, rfl, rfl, rfl, rfl, HE, HL0⟩
  case round =>
    obtain ⟨k, N, a1, c1, lk, s1, hk, rfl, rfl, rfl, rfl, HSL, HS⟩ := hrel
    clear q0 q1 q2 q3
    obtain ⟨q0, q1, q2, q3⟩ := HS.out.rt.cells
    have hsz := HS.out.size
    have hBw := HS.out.hB
    by_cases hlt2 : k < l.length
    · obtain ⟨v, hv⟩ : ∃ v, l[k]? = some v := ⟨_, List.getElem?_eq_getElem hlt2⟩
      obtain ⟨gp, rfl, hgp, p0, p1, p2⟩ := HC.out wr k v HS.out.rt.hp hv
      have hgw : gp < wr.heap.size := by omega
      have hg1 : (0 : Int) ≤ k := by omega
      have hg2 : (k : Int) < l.length := by omega
      have hgk : IntKind.i64.wrap ((k : Int) + 1) = k + 1 := by rw [IntKind.wrap_i64]; omega
      have HV := Lib.hid hv
      have HLK : Hid (lk ≤ left - 1) := by
        have := Hp.gather_fits HF.out _ _ _ HS.out.told
        show lk ≤ left - 1
        omega
      generalize hfv : f v (Hp.downF kd deep k) lk = rv
      have HFV := Lib.hid hfv
      have HTC : Hid (∀ dpi : Int, dpi = (Hp.downF kd deep k : Nat) → Calls Try.prog 48 #[.pointer (some ⟨h, 0, none⟩), .agg #[.int .i64 v.kind, .int .i64 v.int, .string v.text], .int .i64 dpi, .int .i64 s1] wr (RTOut rv wr)) := fun dpi e => hfv ▸ HT2.out v k lk s1 dpi wr e (List.mem_of_getElem? hv) HLK.out HSL.out HS.out.rt.hp
      clear hfv hv
      have key : ((kd == 0) = true ∧ ((k : Int) == 1) = true ∧ Hp.downF kd deep k = deep) ∨ ((kd == 0) = true ∧ ((k : Int) == 1) = false ∧ Hp.downF kd deep k = deep + 1) ∨ ((kd == 0) = false ∧ Hp.downF kd deep k = deep + 1) := by
        unfold Hp.downF
        by_cases e0 : kd = 0
        · by_cases e1 : k = 1
          · exact .inl ⟨beq_iff_eq.2 e0, beq_iff_eq.2 (by omega), if_pos ⟨e0, e1⟩⟩
          · exact .inr (.inl ⟨beq_iff_eq.2 e0, beq_eq_false_iff_ne.2 (by omega), if_neg (fun e => e1 e.2)⟩)
        · exact .inr (.inr ⟨beq_eq_false_iff_ne.2 e0, if_neg (fun e => e0 e.1)⟩)
      rcases key with ⟨e0, e1, e2⟩ | ⟨e0, e1, e2⟩ | ⟨e0, e2⟩
      · have HTD := Lib.hid (HTC.out deep (by rw [e2]))
        clear HTC e2
        go_wp2_with fail
        with_reducible refine (HTD.out).mono ?_
        rintro e w7 ⟨d7, a7, c7, ok7, s7, rfl, hd7, hb7, h47, h57⟩
        have HS7 := Lib.hid (HS.out.bel HOL.out hb7)
        have hz7 := HS7.out.size
        obtain ⟨xx, xy, xz, xu, hxr⟩ := HS7.out.xr
        obtain ⟨x0, x1, x2, x3, y0, y1, y2, y3⟩ := Blk4.of hxr
        have HXR := Lib.hid hxr
        clear hxr
        cases ok7 with
        | false =>
          have HN : Hid (r = none) := HGN.out (Hp.gather_stop HV.out HS.out.told (HFV.out.trans (h57 rfl)) _ hlt2)
          obtain ⟨t0, t1, t2, t3, m0, m1, m2, m3⟩ := Blk4.of HS7.out.rt.res
          have HD7 := Lib.hid hd7
          clear h47 h57 hd7 hb7
          have hn1 : w.heap.size + 1 ≠ B + 1 := by omega
          have hn2 : B + 1 ≠ w.heap.size + 1 := by omega
          go_wp2_with fail
          have HS8 := HS7.out.four HOL.out (.int .i64 d7.kind) (.int .i64 d7.int) (.string d7.text) (.slice a7 d7.list.length c7)
          refine bodyPost_ret (res3 rfl _ _ (w.heap.size + 1) 48 _ (0, 0) rfl (four_set _ _ _ _ _ _ _ _ _ _ _ HS8.rt.res) datumD datumSize) rfl ?_
          rw [HN.out]
          exact rtout_no s7 (below_four HS8.rt.below (by omega) _ _ _ _)
        | true =>
          obtain ⟨left7, hr7, hs7⟩ := h47 rfl
          have HF7 := Lib.hid (HFV.out.trans hr7)
          have HSL7 := Lib.hid hs7
          have HD7 : Hid (DtAt w7 (fun b => wr.heap.size ≤ b) (d7.valOf (.slice a7 d7.list.length c7)) d7) := hd7
          have HS8 := Lib.hid (HS7.out.four HOL.out (.int .i64 d7.kind) (.int .i64 d7.int) (.string d7.text) (.slice a7 d7.list.length c7))
          have HD8 : Hid (DtAt ((((w7.setCell ⟨B + 1, 0, none⟩ (.int .i64 d7.kind)).setCell ⟨B + 1, 1, none⟩ (.int .i64 d7.int)).setCell ⟨B + 1, 2, none⟩ (.string d7.text)).setCell ⟨B + 1, 3, none⟩ (.slice a7 d7.list.length c7)) (fun b => wr.heap.size ≤ b) (d7.valOf (.slice a7 d7.list.length c7)) d7) := HD7.out.four (fun b hb => by omega) _ _ _ _
          have HZ8 : Hid (((((w7.setCell ⟨B + 1, 0, none⟩ (.int .i64 d7.kind)).setCell ⟨B + 1, 1, none⟩ (.int .i64 d7.int)).setCell ⟨B + 1, 2, none⟩ (.string d7.text)).setCell ⟨B + 1, 3, none⟩ (.slice a7 d7.list.length c7)).heap.size = w7.heap.size) := by show _ = _; simp [World.setCell]
          have HLN := Lib.hid HS.out.len
          have HPO : Hid (∀ b, (Value.slice a1 k c1).ownBlock = some b → b < wr.heap.size) := fun b e => (HS.out.own.row.lt b e).2
          clear h47 h57 hd7 hb7 hr7 hs7
          have HRW := HS8.out.own.row
          rw [HLN.out] at HRW
          have HR8 := Lib.hid HRW
          clear HRW
          go_wp2_with (at_builtin; refine wpList_append_lies _ rfl (.tmp 149) (.tmp 151) 46 rfl B 48 i0 _ 4 56 Try.underlying46 HDI.out HZ0.out HZ1.out HZ2.out rfl (by decide) (.slice a1 k c1) k (flatD N) rfl ?a2 ⟨w7.heap.size, 0, none⟩ 1 1 [.int .i64 d7.kind, .int .i64 d7.int, .string d7.text, .slice a7 d7.list.length c7] rfl rfl ?a4 ?a5 (by decide) ?a6 ?a7 ?a9 (w7.heap.size + 1) ?a8 ?_; (case a2 => exact HR8.out.alloc _); (case a4 => exact new_cells4' HZ8.out _ _ _ _ _); (case a5 => simp [Value.oneCell']); (case a6 => (simp only [maxLen]; omega)); (case a7 => omega); (case a9 => (rw [World.heap_size_alloc, HZ8.out]; omega)); (case a8 => rw [World.heap_size_alloc, HZ8.out]); intro g9 cap w9 hown hgr hlies hlt9; have HX := Lib.hid (HS8.out.next HOL.out HV.out HF7.out HD8.out hsz HPO.out hown hgr (by rw [HZ8.out]; exact hlies)); clear hown hgr hlies hlt9)
          go_wp2_with fail
          go_roundg (l.length - (k + 1))
          case measure => omega
          case rel => exact ⟨k + 1, _, _, _, _, _, by omega, rfl, by go_num, rfl, rfl, HSL7.out, HX.out⟩
      · have HTD := Lib.hid (HTC.out ((deep : Int) + 1) (by rw [e2]; omega))
        clear HTC e2
        go_wp2_with fail
        with_reducible refine (HTD.out).mono ?_
        rintro e w7 ⟨d7, a7, c7, ok7, s7, rfl, hd7, hb7, h47, h57⟩
        have HS7 := Lib.hid (HS.out.bel HOL.out hb7)
        have hz7 := HS7.out.size
        obtain ⟨xx, xy, xz, xu, hxr⟩ := HS7.out.xr
        obtain ⟨x0, x1, x2, x3, y0, y1, y2, y3⟩ := Blk4.of hxr
        have HXR := Lib.hid hxr
        clear hxr
        cases ok7 with
        | false =>
          have HN : Hid (r = none) := HGN.out (Hp.gather_stop HV.out HS.out.told (HFV.out.trans (h57 rfl)) _ hlt2)
          obtain ⟨t0, t1, t2, t3, m0, m1, m2, m3⟩ := Blk4.of HS7.out.rt.res
          have HD7 := Lib.hid hd7
          clear h47 h57 hd7 hb7
          have hn1 : w.heap.size + 1 ≠ B + 1 := by omega
          have hn2 : B + 1 ≠ w.heap.size + 1 := by omega
          go_wp2_with fail
          have HS8 := HS7.out.four HOL.out (.int .i64 d7.kind) (.int .i64 d7.int) (.string d7.text) (.slice a7 d7.list.length c7)
          refine bodyPost_ret (res3 rfl _ _ (w.heap.size + 1) 48 _ (0, 0) rfl (four_set _ _ _ _ _ _ _ _ _ _ _ HS8.rt.res) datumD datumSize) rfl ?_
          rw [HN.out]
          exact rtout_no s7 (below_four HS8.rt.below (by omega) _ _ _ _)
        | true =>
          obtain ⟨left7, hr7, hs7⟩ := h47 rfl
          have HF7 := Lib.hid (HFV.out.trans hr7)
          have HSL7 := Lib.hid hs7
          have HD7 : Hid (DtAt w7 (fun b => wr.heap.size ≤ b) (d7.valOf (.slice a7 d7.list.length c7)) d7) := hd7
          have HS8 := Lib.hid (HS7.out.four HOL.out (.int .i64 d7.kind) (.int .i64 d7.int) (.string d7.text) (.slice a7 d7.list.length c7))
          have HD8 : Hid (DtAt ((((w7.setCell ⟨B + 1, 0, none⟩ (.int .i64 d7.kind)).setCell ⟨B + 1, 1, none⟩ (.int .i64 d7.int)).setCell ⟨B + 1, 2, none⟩ (.string d7.text)).setCell ⟨B + 1, 3, none⟩ (.slice a7 d7.list.length c7)) (fun b => wr.heap.size ≤ b) (d7.valOf (.slice a7 d7.list.length c7)) d7) := HD7.out.four (fun b hb => by omega) _ _ _ _
          have HZ8 : Hid (((((w7.setCell ⟨B + 1, 0, none⟩ (.int .i64 d7.kind)).setCell ⟨B + 1, 1, none⟩ (.int .i64 d7.int)).setCell ⟨B + 1, 2, none⟩ (.string d7.text)).setCell ⟨B + 1, 3, none⟩ (.slice a7 d7.list.length c7)).heap.size = w7.heap.size) := by show _ = _; simp [World.setCell]
          have HLN := Lib.hid HS.out.len
          have HPO : Hid (∀ b, (Value.slice a1 k c1).ownBlock = some b → b < wr.heap.size) := fun b e => (HS.out.own.row.lt b e).2
          clear h47 h57 hd7 hb7 hr7 hs7
          have HRW := HS8.out.own.row
          rw [HLN.out] at HRW
          have HR8 := Lib.hid HRW
          clear HRW
          go_wp2_with (at_builtin; refine wpList_append_lies _ rfl (.tmp 149) (.tmp 151) 46 rfl B 48 i0 _ 4 56 Try.underlying46 HDI.out HZ0.out HZ1.out HZ2.out rfl (by decide) (.slice a1 k c1) k (flatD N) rfl ?a2 ⟨w7.heap.size, 0, none⟩ 1 1 [.int .i64 d7.kind, .int .i64 d7.int, .string d7.text, .slice a7 d7.list.length c7] rfl rfl ?a4 ?a5 (by decide) ?a6 ?a7 ?a9 (w7.heap.size + 1) ?a8 ?_; (case a2 => exact HR8.out.alloc _); (case a4 => exact new_cells4' HZ8.out _ _ _ _ _); (case a5 => simp [Value.oneCell']); (case a6 => (simp only [maxLen]; omega)); (case a7 => omega); (case a9 => (rw [World.heap_size_alloc, HZ8.out]; omega)); (case a8 => rw [World.heap_size_alloc, HZ8.out]); intro g9 cap w9 hown hgr hlies hlt9; have HX := Lib.hid (HS8.out.next HOL.out HV.out HF7.out HD8.out hsz HPO.out hown hgr (by rw [HZ8.out]; exact hlies)); clear hown hgr hlies hlt9)
          go_wp2_with fail
          go_roundg (l.length - (k + 1))
          case measure => omega
          case rel => exact ⟨k + 1, _, _, _, _, _, by omega, rfl, by go_num, rfl, rfl, HSL7.out, HX.out⟩
      · have HTD := Lib.hid (HTC.out ((deep : Int) + 1) (by rw [e2]; omega))
        clear HTC e2
        go_wp2_with fail
        with_reducible refine (HTD.out).mono ?_
        rintro e w7 ⟨d7, a7, c7, ok7, s7, rfl, hd7, hb7, h47, h57⟩
        have HS7 := Lib.hid (HS.out.bel HOL.out hb7)
        have hz7 := HS7.out.size
        obtain ⟨xx, xy, xz, xu, hxr⟩ := HS7.out.xr
        obtain ⟨x0, x1, x2, x3, y0, y1, y2, y3⟩ := Blk4.of hxr
        have HXR := Lib.hid hxr
        clear hxr
        cases ok7 with
        | false =>
          have HN : Hid (r = none) := HGN.out (Hp.gather_stop HV.out HS.out.told (HFV.out.trans (h57 rfl)) _ hlt2)
          obtain ⟨t0, t1, t2, t3, m0, m1, m2, m3⟩ := Blk4.of HS7.out.rt.res
          have HD7 := Lib.hid hd7
          clear h47 h57 hd7 hb7
          have hn1 : w.heap.size + 1 ≠ B + 1 := by omega
          have hn2 : B + 1 ≠ w.heap.size + 1 := by omega
          go_wp2_with fail
          have HS8 := HS7.out.four HOL.out (.int .i64 d7.kind) (.int .i64 d7.int) (.string d7.text) (.slice a7 d7.list.length c7)
          refine bodyPost_ret (res3 rfl _ _ (w.heap.size + 1) 48 _ (0, 0) rfl (four_set _ _ _ _ _ _ _ _ _ _ _ HS8.rt.res) datumD datumSize) rfl ?_
          rw [HN.out]
          exact rtout_no s7 (below_four HS8.rt.below (by omega) _ _ _ _)
        | true =>
          obtain ⟨left7, hr7, hs7⟩ := h47 rfl
          have HF7 := Lib.hid (HFV.out.trans hr7)
          have HSL7 := Lib.hid hs7
          have HD7 : Hid (DtAt w7 (fun b => wr.heap.size ≤ b) (d7.valOf (.slice a7 d7.list.length c7)) d7) := hd7
          have HS8 := Lib.hid (HS7.out.four HOL.out (.int .i64 d7.kind) (.int .i64 d7.int) (.string d7.text) (.slice a7 d7.list.length c7))
          have HD8 : Hid (DtAt ((((w7.setCell ⟨B + 1, 0, none⟩ (.int .i64 d7.kind)).setCell ⟨B + 1, 1, none⟩ (.int .i64 d7.int)).setCell ⟨B + 1, 2, none⟩ (.string d7.text)).setCell ⟨B + 1, 3, none⟩ (.slice a7 d7.list.length c7)) (fun b => wr.heap.size ≤ b) (d7.valOf (.slice a7 d7.list.length c7)) d7) := HD7.out.four (fun b hb => by omega) _ _ _ _
          have HZ8 : Hid (((((w7.setCell ⟨B + 1, 0, none⟩ (.int .i64 d7.kind)).setCell ⟨B + 1, 1, none⟩ (.int .i64 d7.int)).setCell ⟨B + 1, 2, none⟩ (.string d7.text)).setCell ⟨B + 1, 3, none⟩ (.slice a7 d7.list.length c7)).heap.size = w7.heap.size) := by show _ = _; simp [World.setCell]
          have HLN := Lib.hid HS.out.len
          have HPO : Hid (∀ b, (Value.slice a1 k c1).ownBlock = some b → b < wr.heap.size) := fun b e => (HS.out.own.row.lt b e).2
          clear h47 h57 hd7 hb7 hr7 hs7
          have HRW := HS8.out.own.row
          rw [HLN.out] at HRW
          have HR8 := Lib.hid HRW
          clear HRW
          go_wp2_with (at_builtin; refine wpList_append_lies _ rfl (.tmp 149) (.tmp 151) 46 rfl B 48 i0 _ 4 56 Try.underlying46 HDI.out HZ0.out HZ1.out HZ2.out rfl (by decide) (.slice a1 k c1) k (flatD N) rfl ?a2 ⟨w7.heap.size, 0, none⟩ 1 1 [.int .i64 d7.kind, .int .i64 d7.int, .string d7.text, .slice a7 d7.list.length c7] rfl rfl ?a4 ?a5 (by decide) ?a6 ?a7 ?a9 (w7.heap.size + 1) ?a8 ?_; (case a2 => exact HR8.out.alloc _); (case a4 => exact new_cells4' HZ8.out _ _ _ _ _); (case a5 => simp [Value.oneCell']); (case a6 => (simp only [maxLen]; omega)); (case a7 => omega); (case a9 => (rw [World.heap_size_alloc, HZ8.out]; omega)); (case a8 => rw [World.heap_size_alloc, HZ8.out]); intro g9 cap w9 hown hgr hlies hlt9; have HX := Lib.hid (HS8.out.next HOL.out HV.out HF7.out HD8.out hsz HPO.out hown hgr (by rw [HZ8.out]; exact hlies)); clear hown hgr hlies hlt9)
          go_wp2_with fail
          go_roundg (l.length - (k + 1))
          case measure => omega
          case rel => exact ⟨k + 1, _, _, _, _, _, by omega, rfl, by go_num, rfl, rfl, HSL7.out, HX.out⟩
    · obtain rfl : k = l.length := by omega
      have hN := HS.out.len
      by_cases hk0 : kd = 0
      · obtain ⟨hl2, hgp⟩ := HGP.out hk0
        have e0 : (kd == 0) = true := beq_iff_eq.2 hk0
        obtain ⟨x, y, rfl⟩ : ∃ x y, N = [x, y] := by
          rw [hl2] at hN
          rcases N with _ | ⟨n1, _ | ⟨n2, _ | ⟨n3, N⟩⟩⟩
          · simp at hN
          · simp at hN
          · exact ⟨n1, n2, rfl⟩
          · simp at hN
        have hown2 : OwnP wr B (.slice a1 2 c1) [x, y] := hl2 ▸ HS.out.own
        obtain ⟨hdx, hdy, g2, rfl, v4, v5, v6, v7, hg2, hc2⟩ := hown2.pair c1
        have HR : Hid (r = some (mkD [x.1] y.1, lk)) := hgp _ _ _ HS.out.told
        have hnd : y.1.list.length ≤ 100000 := by
          have h1 := Hp.gather_fits HF.out _ _ _ HS.out.told
          have h2 := Dt.nodes_list y.1
          have h3 := Dt.nodess_len y.1.list
          have h4 := HSL0.out
          simp [Dt.nodess] at h1
          omega
        obtain ⟨ay, cy, hy⟩ := hdy.slice
        obtain ⟨yd, ly⟩ := y
        dsimp only at hdx hdy hy v4 v5 v6 v7 HR hnd
        subst hy
        have HMK : Hid (Calls Try.prog 68 #[.slice (some ⟨g2, 0, none⟩) 1 c1, .agg #[.int .i64 yd.kind, .int .i64 yd.int, .string yd.text, .slice ay yd.list.length cy]] wr.drew (RmPost B (mkD [x.1] yd) wr.drew)) :=
          rmk_any B [x.1] yd _ _ wr.drew (by show B ≤ wr.heap.size; omega) (by simp) (by simp) hnd (hdx.bel (Below.drew_self wr) (Nat.le_refl _)) (hdy.bel (Below.drew_self wr) (Nat.le_refl _))
        unfold RmPost at HMK
        have v4' : wr.drew.cell? ⟨g2, 4, none⟩ = _ := v4
        have v5' : wr.drew.cell? ⟨g2, 5, none⟩ = _ := v5
        have v6' : wr.drew.cell? ⟨g2, 6, none⟩ = _ := v6
        have v7' : wr.drew.cell? ⟨g2, 7, none⟩ = _ := v7
        have hl3 : (1 : Int) < l.length := by omega
        have hl4 : 1 < l.length := by omega
        have hl5 : 1 ≤ l.length := by omega
        have hc3 : 1 ≤ c1 := by omega
        have hc4 : (1 : Int) ≤ c1 := by omega
        have HK0 := Lib.hid hk0
        have HL2 := Lib.hid hl2
        clear hgp hown2 hdx hdy hnd hN hk0 hl2
        go_wp2_with fail
        go_region_law (go_simp; go_wp2_with (first
          | (go_at_call 68; (with_reducible refine (HMK.out).mono ?_); rintro e w9 ⟨vd, rfl, hd9, hb9⟩; obtain ⟨a9, c9, rfl, _⟩ := hd9.inv; have HR9 := Lib.hid (HS.out.rt.bel HOL.out HS.out.rt.size ((Below.drew_self wr).trans hb9)); obtain ⟨t0, t1, t2, t3, m0, m1, m2, m3⟩ := Blk4.of HR9.out.res; have HD9 := Lib.hid hd9; clear hd9 hb9)
          | fail))
        all_goals go_wp2_with fail
        all_goals
          refine bodyPost_ret (res3 rfl _ _ (w.heap.size + 1) 48 _ (0, 0) rfl (four_set _ _ _ _ _ _ _ _ _ _ _ HR9.out.res) datumD datumSize) rfl ?_
          rw [HR.out]
          exact HR9.out.on HD9.out hBw HSL.out _ _ _ _
      · have e0 : (kd == 0) = false := beq_eq_false_iff_ne.2 hk0
        have HR : Hid (r = some (.mk 7 0 ⟨#[]⟩ (N.map (·.1)), lk)) := HGV.out hk0 _ _ HS.out.told
        have HE7 := Lib.hid (HS.out.own.data 7 0 ⟨#[]⟩)
        have HNL := Lib.hid hN
        obtain ⟨t0, t1, t2, t3, m0, m1, m2, m3⟩ := Blk4.of HS.out.rt.res
        clear hN hk0
        go_wp2_with fail
        refine bodyPost_ret (res3 rfl _ _ (w.heap.size + 1) 48 _ (0, 0) rfl (four_set _ _ _ _ _ _ _ _ _ _ _ HS.out.rt.res) datumD datumSize) rfl ?_
        have e : (N.map (·.1)).length = l.length := by rw [List.length_map, HNL.out]
        have hE := HE7.out
        have := HS.out.rt.on (d := .mk 7 0 ⟨#[]⟩ (N.map (·.1))) (a := a1) (c := c1) (show DtAt wr _ (.agg #[.int .i64 7, .int .i64 0, .string ⟨#[]⟩, .slice a1 (N.map (·.1)).length c1]) _ from e ▸ hE) hBw HSL.out
        simp only [Dt.kind_mk, Dt.int_mk, Dt.text_mk, Dt.list_mk, e] at this
        rw [HR.out]
        exact this _ _ _ _
end Go.Proofs.Ythbnhneibpoooaa
/- The reference's tell, all of it; its Tell. -/
namespace Go.Proofs.Ythbnhneibpoooaa
open Go.RowKit
set_option linter.unusedVariables false
set_option linter.unusedSimpArgs false
set_option linter.unnecessarySimpa false
theorem rtell_n {h : Nat} {O : Nat → Prop} {vt : Value} {M : List (Hp.Th × Value)} (hW : Hp.WfT (M.map (·.1))) : ∀ (n : Nat) (v : Hp.V) (deep left s : Nat) (w : World), left ≤ n → s + left = 200 → deep ≤ 33 → Hp.may M.length v = true → HpAt w 40 h O vt M →
    Calls Try.prog 48 #[.pointer (some ⟨h, 0, none⟩), v.val, .int .i64 deep, .int .i64 s] w (RTOut (Hp.tellF (M.map (·.1)) n v deep left) w)
  | 0, v, deep, left, s, w, h1, h2, h3, h4, h5 => rtell_no _ 0 h v deep left s w h2 (.inl (by omega))
  | n + 1, v, deep, left, s, w, h1, h2, h3, h4, h5 => by
    by_cases hno : left = 0 ∨ 32 < deep
    · exact rtell_no _ (n + 1) h v deep left s w h2 hno
    · have hl0 : left ≠ 0 := fun e => hno (.inl e)
      have hd : deep ≤ 32 := by omega
      have hleaf : ¬ v.kind = 8 → (v.kind = 1 ∨ v.kind = 2 ∨ v.kind = 4 ∨ v.kind = 0) ∨ (v.kind = 3 ∨ v.kind = 5 ∨ v.kind = 6 ∨ v.kind = 7) → Calls Try.prog 48 #[.pointer (some ⟨h, 0, none⟩), v.val, .int .i64 deep, .int .i64 s] w (RTOut (Hp.tellF (M.map (·.1)) (n + 1) v deep left) w) := fun hk hk2 => by
        have e : Hp.tellF (M.map (·.1)) (n + 1) v deep left = some (Hp.leafD v, left - 1) := by
          rw [Hp.tellF, if_neg hno, if_neg hk]
        rw [e]
        exact rtell_leaf h v deep left s w h2 hl0 hd hk2
      rcases Hp.may_kinds h4 with hk | hk | hk
      · exact hleaf (by omega) (.inl hk)
      · exact hleaf (by omega) (.inr hk)
      · obtain ⟨k, hkl, rfl⟩ := Hp.may_thing' h4 hk
        obtain ⟨m, hm⟩ : ∃ m, M[k]? = some m := ⟨_, List.getElem?_eq_getElem hkl⟩
        have hmm := List.mem_of_getElem? hm
        have hmT : m.1 ∈ M.map (·.1) := List.mem_map.2 ⟨m, hmm, rfl⟩
        have e : Hp.tellF (M.map (·.1)) (n + 1) ⟨8, k, ⟨#[]⟩⟩ deep left = Hp.thingF (Hp.tellF (M.map (·.1)) n) m.1 deep (left - 1) := by
          rw [Hp.tellF, if_neg hno, if_pos rfl]
          simp [List.getElem?_map, hm]
        rw [e]
        have hlen : m.1.parts.length ≤ 1000000 := Nat.le_trans (hW.len _ hmT) (by decide)
        have hF := Hp.tellF_fits (M.map (·.1)) n
        have hIH : ∀ (v : Hp.V) (dp lf s1 : Nat) (w2 : World), dp ≤ deep + 1 → v ∈ m.1.parts → lf ≤ left - 1 → s1 + lf = 200 → HpAt w2 40 h O vt M → Calls Try.prog 48 #[.pointer (some ⟨h, 0, none⟩), v.val, .int .i64 dp, .int .i64 s1] w2 (RTOut (Hp.tellF (M.map (·.1)) n v dp lf) w2) := fun v dp lf s1 w2 hdp hv hlf hs1 i5 =>
          rtell_n hW n v dp lf s1 w2 (by omega) hs1 (by omega) (by have := hW.may _ hmT v hv; simpa using this) i5
        have hpair := hW.pair _ hmT
        have hkd := hW.kind _ hmT
        rcases hkd with e0 | e1 | e2 | e3 | e4
        · exact rtell_list _ hF k deep left s w h5 h2 hl0 hd hm (.inl ⟨e0, hpair e0⟩) hlen hIH
        · exact rtell_list _ hF k deep left s w h5 h2 hl0 hd hm (.inr e1) hlen hIH
        · exact rtell_str _ k deep left s w h5 h2 hl0 hd hm e2 hlen
        · exact rtell_box _ k deep left s w h5 h2 hl0 hd hm (.inl e3)
        · exact rtell_box _ k deep left s w h5 h2 hl0 hd hm (.inr e4)
set_option maxHeartbeats 4000000 in
set_option maxRecDepth 100000 in
theorem RTell_any {h : Nat} {O : Nat → Prop} {T : List Hp.Th} (v : Hp.V) (w : World) (H : HSt w 40 h O T) (hW : Hp.WfT T) (ht : v.text.size ≤ maxLen) :
    Calls Try.prog 19 #[.pointer (some ⟨h, 0, none⟩), v.val] w (DtOut (Hp.tellT T v) w) := by
  obtain ⟨vt, M, HA, rfl⟩ := H
  have hhl := HA.lth
  obtain ⟨a, c, rfl⟩ := HA.shape
  have HM : Hid (∀ w1, Below w.heap.size w w1 → Calls Try.prog 36 #[.pointer (some ⟨h, 0, none⟩), v.val] w1 fun e w' => e = .returned (.bool (Hp.may M.length v)) ∧ Below w1.heap.size w1 w') := fun w1 hb => rmay_any h M.length c a v ht w1 (HA.below hb (Nat.le_refl _)).c0 (HA.below hb (Nat.le_refl _)).lth
  have HHA := Lib.hid HA
  have HW := Lib.hid hW
  have hb1 := ((Below.refl w.heap.size w).alloc (Nat.le_refl _) (.cells #[.int .i64 v.kind, .int .i64 v.int, .string v.text] 27)).alloc (by simp) (.cells #[.int .i64 0, .int .i64 0, .string ⟨#[]⟩, .slice none 0 0] 48)
  have HB1 := Lib.hid hb1
  clear HA hW hb1
  cases hm : Hp.may M.length v with
  | false =>
    have e : Hp.tellT (M.map (·.1)) v = none := by rw [Hp.tellT, List.length_map, hm]; rfl
    rw [e]
    rw [hm] at HM
    clear e hm
    unfold Hp.V.val at *
    go_enter Try.func19, Try.ntmps19
    go_wp2_with fail
    with_reducible refine (HM.out _ HB1.out).mono ?_
    rintro e w3 ⟨rfl, hb3⟩
    have hr3 : w3.heap[w.heap.size + 1]? = some (.cells #[.int .i64 0, .int .i64 0, .string ⟨#[]⟩, .slice none 0 0] 48 (0, 0)) := (hb3.block _ (by simp)).trans (heap_new (by simp))
    obtain ⟨t0, t1, t2, t3, y0, y1, y2, y3⟩ := Blk4.of hr3
    have HR3 := Lib.hid hr3
    have HB3 := Lib.hid (HB1.out.trans (hb3.mono (by simp; omega)))
    clear hr3 hb3
    go_wp2_with fail
    refine bodyPost_ret (res2 rfl _ _ (w.heap.size + 1) 48 _ (0, 0) rfl (four_set _ _ _ _ _ _ _ _ _ _ _ HR3.out) datumD datumSize) rfl ?_
    exact dtout_no (below_four HB3.out (by omega) _ _ _ _)
  | true =>
    have HE : Hid (Hp.tellT (M.map (·.1)) v = (Hp.tellF (M.map (·.1)) 200 v 0 200).map (·.1)) := by show _ = _; rw [Hp.tellT, List.length_map, hm]; rfl
    have HMM := Lib.hid hm
    rw [hm] at HM
    clear hm
    have HT : Hid (∀ (w1 : World), HpAt w1 40 h O (.slice a M.length c) M → Calls Try.prog 48 #[.pointer (some ⟨h, 0, none⟩), v.val, .int .i64 0, .int .i64 0] w1 (RTOut (Hp.tellF (M.map (·.1)) 200 v 0 200) w1)) := fun w1 h1 =>
      rtell_n HW.out 200 v 0 200 0 w1 (Nat.le_refl _) (by omega) (by omega) HMM.out h1
    rw [HE.out]
    generalize Hp.tellF (M.map (·.1)) 200 v 0 200 = r at *
    clear HE
    unfold Hp.V.val at *
    go_enter Try.func19, Try.ntmps19
    go_wp2_with fail
    with_reducible refine (HM.out _ HB1.out).mono ?_
    rintro e w3 ⟨rfl, hb3⟩
    have hr3 : w3.heap[w.heap.size + 1]? = some (.cells #[.int .i64 0, .int .i64 0, .string ⟨#[]⟩, .slice none 0 0] 48 (0, 0)) := (hb3.block _ (by simp)).trans (heap_new (by simp))
    have hx3 : w3.heap[w.heap.size]? = some (.cells #[.int .i64 v.kind, .int .i64 v.int, .string v.text] 27 (0, 0)) := (hb3.block _ (by simp; omega)).trans ((heap_alloc_old _ _ (by simp)).trans (heap_new rfl))
    have hz3 : w.heap.size + 1 < w3.heap.size := by have := hb3.size; simp at this; omega
    have hz3' : w.heap.size < w3.heap.size := by omega
    have q0 := cell_of_row w3 _ 0 _ _ _ hx3
    have q1 := cell_of_row w3 _ 1 _ _ _ hx3
    have q2 := cell_of_row w3 _ 2 _ _ _ hx3
    simp only [List.getElem?_toArray, List.getElem?_cons_zero, List.getElem?_cons_succ] at q0 q1 q2
    have HR3 := Lib.hid hr3
    have HB3 := Lib.hid (HB1.out.trans (hb3.mono (by simp; omega)))
    have HHA3 := Lib.hid (HHA.out.below HB3.out (Nat.le_refl _))
    clear hr3 hb3 hx3
    go_wp2_with fail
    with_reducible refine (HT.out w3 HHA3.out).mono ?_
    rintro e w5 ⟨d, ad, cd, ok, s5, rfl, hd, hb5, h4, h5⟩
    have hr5 : w5.heap[w.heap.size + 1]? = some (.cells #[.int .i64 0, .int .i64 0, .string ⟨#[]⟩, .slice none 0 0] 48 (0, 0)) := (hb5.block _ hz3).trans HR3.out
    have hz5 : w.heap.size + 1 < w5.heap.size := by have := hb5.size; omega
    obtain ⟨t0, t1, t2, t3, y0, y1, y2, y3⟩ := Blk4.of hr5
    have HR5 := Lib.hid hr5
    have HB5 := Lib.hid (HB3.out.trans (hb5.mono (by omega)))
    have HD5 := Lib.hid hd
    cases ok with
    | false =>
      have hn : r = none := h5 rfl
      clear hr5 hd hb5 h4 h5
      subst hn
      go_wp2_with fail
      refine bodyPost_ret (res2 rfl _ _ (w.heap.size + 1) 48 _ (0, 0) rfl ((heap_alloc_old _ _ (by simpa [World.setCell] using hz5)).trans (four_set _ _ _ _ _ _ _ _ _ _ _ HR5.out)) datumD datumSize) rfl ?_
      exact dtout_no ((below_four HB5.out (by omega) _ _ _ _).alloc (by simp [World.setCell]; omega) _)
    | true =>
      obtain ⟨left, hr, _⟩ := h4 rfl
      clear hr5 hd hb5 h4 h5
      subst hr
      go_wp2_with fail
      refine bodyPost_ret (res2 rfl _ _ (w.heap.size + 1) 48 _ (0, 0) rfl ((heap_alloc_old _ _ (by simpa [World.setCell] using hz5)).trans (four_set _ _ _ _ _ _ _ _ _ _ _ HR5.out)) datumD datumSize) rfl ?_
      have hB := below_four HB5.out (g := w.heap.size + 1) (by omega) (.int .i64 d.kind) (.int .i64 d.int) (.string d.text) (.slice ad d.list.length cd)
      have hD := HD5.out.four (g := w.heap.size + 1) (fun b hb => by omega) (.int .i64 d.kind) (.int .i64 d.int) (.string d.text) (.slice ad d.list.length cd)
      exact ⟨d, ad, cd, rfl, (hD.bel ((Below.refl _ _).alloc (Nat.le_refl _) _) (Nat.le_refl _)).mono fun b hb _ => by omega, hB.alloc (by simp [World.setCell]; omega) _, rfl⟩
end Go.Proofs.Ythbnhneibpoooaa
