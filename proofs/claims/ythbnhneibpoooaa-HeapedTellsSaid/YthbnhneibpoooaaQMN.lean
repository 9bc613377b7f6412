/- data.Make behind a tail that is no list. -/
import Derived.Test.YthbnhneibpoooaaQMC
import Derived.Test.YthbnhneibpoooaaQMG
set_option linter.unusedVariables false
set_option linter.unusedSimpArgs false
set_option linter.unnecessarySimpa false
namespace Go.Proofs.Ythbnhneibpoooaa
open Go.RowKit
set_option linter.unusedVariables false
set_option linter.unusedSimpArgs false
def DPost (d : Dt) (w : World) (e : Ending) (w' : World) : Prop := ∃ v, e = .returned v ∧ DtAt w' (fun b => w.heap.size ≤ b) v d ∧ Below w.heap.size w w'
theorem Below.drew_self (w : World) : Below w.heap.size w w.drew := (Below.refl _ _).drew
/-- Four cells. -/
def Cell4 (g : Nat) (a b c d : Value) (w : World) : Prop := w.cell? ⟨g, 0, none⟩ = some a ∧ w.cell? ⟨g, 1, none⟩ = some b ∧ w.cell? ⟨g, 2, none⟩ = some c ∧ w.cell? ⟨g, 3, none⟩ = some d
theorem Cell4.same {g : Nat} {a b c d : Value} {w w' : World} (h : Cell4 g a b c d w) (hs : w'.heap[g]? = w.heap[g]?) : Cell4 g a b c d w' := by
  have e : ∀ o, w'.cell? ⟨g, o, none⟩ = w.cell? ⟨g, o, none⟩ := fun o => World.cell?_of_block (a := ⟨g, o, none⟩) hs
  unfold Cell4 at *
  rw [e, e, e, e]
  exact h
theorem Cell4.below {g N : Nat} {a b c d : Value} {w w' : World} (h : Cell4 g a b c d w) (hb : Below N w w') (hg : g < N) : Cell4 g a b c d w' := h.same (hb.block g hg)
theorem Cell4.four {g g' : Nat} {a b c d : Value} {w : World} (h : Cell4 g a b c d w) (hg : g ≠ g') (x y z u : Value) : Cell4 g a b c d ((((w.setCell ⟨g', 0, none⟩ x).setCell ⟨g', 1, none⟩ y).setCell ⟨g', 2, none⟩ z).setCell ⟨g', 3, none⟩ u) := h.same (four_other _ _ _ _ _ _ _ hg)
theorem app_bound {M : List (Dt × Value)} {l : List Dt} (h : M.map (·.1) = l) (hl : l.length ≤ 100000) : M.length + 1 ≤ maxLen ∧ (M.length + 1) * 56 ≤ 140737488355328 := by
  have : M.length = l.length := by rw [← h, List.length_map]
  constructor
  · simp only [maxLen]; omega
  · omega
/-- The data behind Make's append. -/
theorem make_end {w w3 w5 w6 : World} {o : Obj} {M : List (Dt × Value)} {l : List Dt} {b : Dt} {v lv : Value} {g cap : Nat} (hM : OwnD (w5.alloc o) (w.heap.size + 1 + 1) v M) (hy : DtAt (w5.alloc o) (fun b => w3.heap.size ≤ b) (.agg #[.int .i64 b.kind, .int .i64 b.int, .string b.text, lv]) b) (hMl : M.map (·.1) = l)
    (hown : w6.ownsRow (w.heap.size + 1 + 1) 48 4 (.slice (some ⟨g, 0, none⟩) (M.length + 1) cap) (M.length + 1) (flatD M ++ [.int .i64 b.kind, .int .i64 b.int, .string b.text, lv])) (hg : (w5.alloc o).grownBy w6 v.ownBlock) (hl : v.ownBlock = some g ∨ g = w5.heap.size + 1)
    (h3 : w.heap.size + 1 + 1 ≤ w3.heap.size) (h5 : w3.heap.size ≤ w5.heap.size) (hW5 : Below w.heap.size w (w5.alloc o)) (hv3 : ∀ b, v.ownBlock = some b → b < w3.heap.size) :
    DtAt w6 (fun b => w.heap.size + 1 + 1 ≤ b) (.agg #[.int .i64 6, .int .i64 0, .string ⟨#[]⟩, .slice (some ⟨g, 0, none⟩) (M.length + 1) cap]) (.mk 6 0 ⟨#[]⟩ (l ++ [b])) ∧ Below w.heap.size w w6 := by
  have h := hM.snoc (x := b) (lv := lv) hy (fun k hk _ => ⟨by omega, fun e => by have := hv3 k e; omega⟩) hown hg (by simpa using hl)
  have hd := h.data 6 0 ⟨#[]⟩
  rw [List.map_append, hMl] at hd
  refine ⟨hd, hW5.grown hg hW5.size (fun k e => by have := (hM.row.lt k e).1; omega)⟩
/-- What is known behind Make's first call. -/
structure Mk3 (w w1 w3 : World) (l : List Dt) (a b c d : Value) (v : Value) (M : List (Dt × Value)) : Prop where
  own : OwnD w3 (w.heap.size + 1 + 1) v M
  map : M.map (·.1) = l
  below : Below w.heap.size w w3
  res : w3.heap[w.heap.size + 1]? = some (.cells #[.int .i64 0, .int .i64 0, .string ⟨#[]⟩, .slice none 0 0] 48 (0, 0))
  box : Cell4 w.heap.size a b c d w3
  size : w.heap.size + 1 + 1 ≤ w3.heap.size
theorem mk3 {w w1 w3 : World} {l : List Dt} {a b c d v : Value} {M : List (Dt × Value)} (hs : w1.heap.size = w.heap.size + 1 + 1) (h1 : Below w.heap.size w w1) (hr : w1.heap[w.heap.size + 1]? = some (.cells #[.int .i64 0, .int .i64 0, .string ⟨#[]⟩, .slice none 0 0] 48 (0, 0))) (hc : Cell4 w.heap.size a b c d w1) (hM : OwnD w3 w1.heap.size v M) (hMl : M.map (·.1) = l) (hb : Below w1.heap.size w1 w3) : Mk3 w w1 w3 l a b c d v M := by
  rw [hs] at hM hb
  refine ⟨hM, hMl, h1.trans (hb.mono (by omega)), (hb.block _ (by omega)).trans hr, hc.below hb (by omega), ?_⟩
  have := hb.size
  omega
/-- What is known behind its second one, and the item's row. -/
structure Mk5 (w w3 w5 : World) (l : List Dt) (a b c d : Value) (v : Value) (M : List (Dt × Value)) (y : Dt) (ly : Value) : Prop where
  own : OwnD (w5.alloc (.cells #[.int .i64 y.kind, .int .i64 y.int, .string y.text, ly] 48)) (w.heap.size + 1 + 1) v M
  dy : DtAt (w5.alloc (.cells #[.int .i64 y.kind, .int .i64 y.int, .string y.text, ly] 48)) (fun b => w3.heap.size ≤ b) (.agg #[.int .i64 y.kind, .int .i64 y.int, .string y.text, ly]) y
  below : Below w.heap.size w (w5.alloc (.cells #[.int .i64 y.kind, .int .i64 y.int, .string y.text, ly] 48))
  res : (w5.alloc (.cells #[.int .i64 y.kind, .int .i64 y.int, .string y.text, ly] 48)).heap[w.heap.size + 1]? = some (.cells #[.int .i64 0, .int .i64 0, .string ⟨#[]⟩, .slice none 0 0] 48 (0, 0))
  box : Cell4 w.heap.size a b c d w5
  box2 : Cell4 w.heap.size a b c d (w5.alloc (.cells #[.int .i64 y.kind, .int .i64 y.int, .string y.text, ly] 48))
  size : w3.heap.size ≤ w5.heap.size
  size2 : w.heap.size + 1 + 1 ≤ (w5.alloc (.cells #[.int .i64 y.kind, .int .i64 y.int, .string y.text, ly] 48)).heap.size
theorem mk5 {w w1 w3 w5 : World} {l : List Dt} {a b c d v ly : Value} {M : List (Dt × Value)} {y : Dt} (h : Mk3 w w1 w3 l a b c d v M) (hd : DtAt w5 (fun b => w3.heap.size ≤ b) (.agg #[.int .i64 y.kind, .int .i64 y.int, .string y.text, ly]) y) (hb : Below w3.heap.size w3 w5) : Mk5 w w3 w5 l a b c d v M y ly := by
  have hs := h.size
  have hs5 := hb.size
  have hA : Below w5.heap.size w5 (w5.alloc (.cells #[.int .i64 y.kind, .int .i64 y.int, .string y.text, ly] 48)) := (Below.refl _ _).alloc (Nat.le_refl _) _
  have hbx := h.box.below hb (by omega)
  refine ⟨(h.own.bel hb (Nat.le_refl _)).bel hA (Nat.le_refl _), hd.bel hA (Nat.le_refl _), h.below.trans ((hb.trans (hA.mono hs5)).mono (by omega)), (hA.block _ (by omega)).trans ((hb.block _ (by omega)).trans h.res), hbx, hbx.below hA (by omega), hs5, ?_⟩
  have := hA.size
  omega
/-- What is known behind its append. -/
structure Mk6 (w w6 : World) (l : List Dt) (y : Dt) (a b c d : Value) (v : Value) : Prop where
  data : DtAt w6 (fun b => w.heap.size + 1 + 1 ≤ b) (.agg #[.int .i64 6, .int .i64 0, .string ⟨#[]⟩, v]) (.mk 6 0 ⟨#[]⟩ (l ++ [y]))
  below : Below w.heap.size w w6
  res : w6.heap[w.heap.size + 1]? = some (.cells #[.int .i64 0, .int .i64 0, .string ⟨#[]⟩, .slice none 0 0] 48 (0, 0))
  box : Cell4 w.heap.size a b c d w6
theorem mk6 {w w1 w3 w5 w6 : World} {l : List Dt} {a b c d v ly : Value} {M : List (Dt × Value)} {y : Dt} {g cap : Nat} (h3 : Mk3 w w1 w3 l a b c d v M) (h : Mk5 w w3 w5 l a b c d v M y ly)
    (hown : w6.ownsRow (w.heap.size + 1 + 1) 48 4 (.slice (some ⟨g, 0, none⟩) (M.length + 1) cap) (M.length + 1) (flatD M ++ [.int .i64 y.kind, .int .i64 y.int, .string y.text, ly])) (hg : (w5.alloc (.cells #[.int .i64 y.kind, .int .i64 y.int, .string y.text, ly] 48)).grownBy w6 v.ownBlock) (hl : v.ownBlock = some g ∨ g = w5.heap.size + 1) : Mk6 w w6 l y a b c d (.slice (some ⟨g, 0, none⟩) (M.length + 1) cap) := by
  have hE := make_end h.own h.dy h3.map hown hg hl h3.size h.size h.below (fun k e => (h3.own.row.lt k e).2)
  have hs := h.size2
  refine ⟨hE.1, hE.2, (hg.block _ (by omega) (fun e => by have := (h3.own.row.lt _ e.symm).1; omega)).trans h.res, h.box2.same (hg.block _ (by omega) (fun e => by have := (h3.own.row.lt _ e.symm).1; omega))⟩
set_option maxHeartbeats 4000000 in
set_option maxRecDepth 100000 in
theorem make_dotted (l : List Dt) (b : Dt) (lv vb : Value) (w : World) (hl0 : l ≠ []) (hl1 : l.length ≤ 100000) (hs : Dt.Short (.mk 0 0 ⟨#[]⟩ l)) (hsb : Dt.Short b) (hk : b.kind ≠ 5 ∧ b.kind ≠ 6)
    (hl : DtAt w (fun _ => True) (.agg #[.int .i64 0, .int .i64 0, .string ⟨#[]⟩, lv]) (.mk 0 0 ⟨#[]⟩ l)) (hb : DtAt w (fun _ => True) vb b) :
    Calls Try.prog 83 #[lv, vb] w (DPost (.mk 6 0 ⟨#[]⟩ (l ++ [b])) w) := by
  obtain ⟨a, c, rfl⟩ := hl.slice
  simp only [Dt.list_mk] at *
  obtain ⟨ab, cb, rfl, _⟩ := hb.inv
  obtain ⟨i0, hi, hz0, hz1, hz2⟩ := info_parts infoDatum
  have HI := Lib.hid hi
  have HZ0 := Lib.hid hz0
  have HZ1 := Lib.hid hz1
  have HZ2 := Lib.hid hz2
  have HA := Lib.hid (fun (w1 : World) (hB : Below w.heap.size w w1) => dall_any l _ w1 hs (hl.bel hB (Nat.le_refl _)))
  have HC := Lib.hid (fun (w1 : World) (hB : Below w.heap.size w w1) => copied_any b _ w1 hsb (hb.bel hB (Nat.le_refl _)))
  have hlp : 0 < l.length := List.length_pos_iff.2 hl0
  have hg0 : ¬ (l.length : Int) = 0 := by omega
  have hg1 := beq_eq_false_iff_ne.2 hg0
  have hg2 : ¬ l.length = 0 := by omega
  have hg3 := beq_eq_false_iff_ne.2 hk.1
  have hg4 := beq_eq_false_iff_ne.2 hk.2
  clear hi hz0 hz1 hz2 hl hb hk hs hsb
  unfold CopyPost Dt.valOf at HC
  unfold AllPost at HA
  unfold DPost
  go_enter Try.func83, Try.ntmps83
  go_wp2_with fail
  have HW1 : Hid (Below w.heap.size w ((w.alloc (.cells #[.int .i64 b.kind, .int .i64 b.int, .string b.text, .slice ab b.list.length cb] 48)).alloc (.cells #[.int .i64 0, .int .i64 0, .string ⟨#[]⟩, .slice none 0 0] 48)).drew) := (((Below.refl _ _).alloc (Nat.le_refl _) _).alloc (by simp) _).drew
  have HZ1' : Hid ((((w.alloc (.cells #[.int .i64 b.kind, .int .i64 b.int, .string b.text, .slice ab b.list.length cb] 48)).alloc (.cells #[.int .i64 0, .int .i64 0, .string ⟨#[]⟩, .slice none 0 0] 48)).drew).heap[w.heap.size + 1]? = some (.cells #[.int .i64 0, .int .i64 0, .string ⟨#[]⟩, .slice none 0 0] 48 (0, 0))) := heap_new (w := w.alloc (.cells #[.int .i64 b.kind, .int .i64 b.int, .string b.text, .slice ab b.list.length cb] 48)) (by simp)
  have HS : Hid (Cell4 w.heap.size (.int .i64 b.kind) (.int .i64 b.int) (.string b.text) (.slice ab b.list.length cb) ((w.alloc (.cells #[.int .i64 b.kind, .int .i64 b.int, .string b.text, .slice ab b.list.length cb] 48)).alloc (.cells #[.int .i64 0, .int .i64 0, .string ⟨#[]⟩, .slice none 0 0] 48)).drew) := by
    have h := new4 w (.int .i64 b.kind) (.int .i64 b.int) (.string b.text) (.slice ab b.list.length cb) 48
    exact Cell4.same (w := w.alloc (.cells #[.int .i64 b.kind, .int .i64 b.int, .string b.text, .slice ab b.list.length cb] 48)) h (heap_alloc_old _ _ (by simp))
  obtain ⟨a0, a1, a2, a3⟩ := HS.out
  go_region_law (first
      | (refine step_append_lies _ rfl (.tmp 28) (.tmp 31) 46 rfl (w.heap.size + 1 + 1) 48 i0 _ 4 56 Try.underlying46 HI.out HZ0.out HZ1.out HZ2.out rfl (by decide) (.slice a3 M.length c3) M.length (flatD M) (by rfl) H5.out.own.row ⟨w5.heap.size, 0, none⟩ 1 1 [.int .i64 b.kind, .int .i64 b.int, .string b.text, .slice ay b.list.length cy] (by rfl) (by rfl) (new_cells4 _ _ _ _ _ _) (by simp [Value.oneCell']) (by decide) (app_bound H3.out.map hl1).1 (app_bound H3.out.map hl1).2 H5.out.size2 (w5.heap.size + 1) (by simp) ?_; intro g cap w6 hown hgr hlies hlt6; have H6 := Lib.hid (mk6 H3.out H5.out hown hgr hlies); obtain ⟨r0, r1, r2, r3, m0, m1, m2, m3⟩ := Blk4.of H6.out.res; clear hown hgr hlies hlt6)
      | (go_simp; go_wp2_with (first
        | (go_at_call 94; (with_reducible refine (HA.out _ HW1.out).mono ?_); rintro e w3 ⟨v3, M, rfl, hM, hMl, hb3⟩; obtain ⟨a3, c3, rfl⟩ := hM.shape; have H3 := Lib.hid (mk3 (two_size_eq _ _ _) HW1.out HZ1'.out HS.out hM hMl hb3); obtain ⟨b0, b1, b2, b3⟩ := H3.out.box; clear hM hMl hb3)
        | (go_at_call 93; (with_reducible refine (HC.out _ H3.out.below).mono ?_); rintro e w5 ⟨ly, rfl, hdy, hb5⟩; obtain ⟨ay, cy, rfl⟩ := hdy.slice; have H5 := Lib.hid (mk5 H3.out hdy hb5); clear hdy hb5)
        | fail))
      | fail)
  all_goals go_wp2_with fail
  all_goals
    refine bodyPost_ret (res1 rfl _ _ (w.heap.size + 1) 48 _ (0, 0) rfl (four_set _ _ _ _ _ _ _ _ _ _ _ H6.out.res) datumD datumSize) rfl ?_
    exact ⟨_, rfl, (H6.out.data.four (fun k hk e => by omega) _ _ _ _).mono fun k hk _ => by omega, below_four H6.out.below (by omega) _ _ _ _⟩
end Go.Proofs.Ythbnhneibpoooaa
/- data.Make behind a list, and of nothing; all of it. -/
namespace Go.Proofs.Ythbnhneibpoooaa
open Go.RowKit
set_option linter.unusedVariables false
set_option linter.unusedSimpArgs false
/-- Append of a slice, nil or not, to a row of the call's own, where something is in the end; at a step of a region that draws. -/
theorem step_append_any {P : Program} {w : World} {ops : Array Oper} {o : Oper} {a : Act} {K : Act → World → Prop} {Q : Exit → Act → World → Prop} {E : Prop} (hgd : o.guard = none) (s x : Operand) (t : TypeId)
    (ho : o.op = .call { callee := .builtin .append, args := #[s, x], argTypes := #[t, t] })
    (base : Nat) (e : TypeId) (i : TypeInfo) (z : Value) (size bytes : Nat) (ht : P.underlying t = some (.slice e)) (hi : P.info? e = some i) (hz : i.zero = some z)
    (hsize : i.size = size) (hby : i.bytes = bytes) (hzs : z.cells.size = size) (hsz : 0 < size)
    (v : Value) (n : Nat) (xs : List Value) (hs : a.eval s = v) (hown : w.ownsRow base e size v n xs)
    (ax : Option Addr) (m c : Nat) (news : List Value) (hx : a.eval x = .slice ax m c) (hl : news.length = m * size)
    (hsrc : (ax = none ∧ c = 0 ∧ news = []) ∨ ∃ ad, ax = some ad ∧ ∀ (j : Nat) (u : Value), news[j]? = some u → w.cell? (ad.add j) = some u) (h1 : ∀ u ∈ news, u.oneCell' = true)
    (hnm : 0 < n + m) (h63 : n + m ≤ maxLen) (hbytes : (n + m) * bytes ≤ 140737488355328) (hbase : base ≤ w.heap.size) (H : Nat) (hH : w.heap.size = H)
    (h : ∀ g cap w', w'.ownsRow base e size (.slice (some ⟨g, 0, none⟩) (n + m) cap) (n + m) (xs ++ news) → w.grownBy w' v.ownBlock → (v.ownBlock = some g ∨ g = H) → K (a.put o.dst (.slice (some ⟨g, 0, none⟩) (n + m) cap)) w') :
    if Region.wanted o (yielded ops a.tmps) = true then Oper.wp P o a w K Q else E := by
  have hw : Region.wanted o (yielded ops a.tmps) = true := by simp [Region.wanted, hgd]
  rw [if_pos hw]
  rcases hsrc with ⟨rfl, rfl, rfl⟩ | ⟨ad, rfl, hn⟩
  · have hm : m = 0 := by
      have h0 : m * size = 0 := by simpa using hl.symm
      rcases Nat.mul_eq_zero.1 h0 with h | h
      · exact h
      · omega
    subst hm
    have hrun := run_append_owned_none (P := P) (w := w) base t o.type e i size ht hi v n xs hown
    obtain ⟨g, cap, rfl, _, _⟩ := hown.form (by omega)
    have h' := h g cap w (by simpa using hown) ⟨rfl, rfl, rfl, Nat.le_refl _, fun _ _ _ => rfl⟩ (.inl rfl)
    unfold Oper.wp
    simp [execOp, ho, resolve, invoke, builtin, hs, hx, hrun, Result.andThen]
    exact h'
  · obtain ⟨v', w', hr, h2, h3, _, h5⟩ := run_append_own_at (P := P) w base t o.type e i z size bytes ht hi hz hsize hby hzs hsz v n xs hown ad m c news hl hn h1 h63 hbytes hbase
    obtain ⟨g, cap, rfl, _, hlt⟩ := h2.form hnm
    unfold Oper.wp execOp
    simp only [ho, resolve, invoke, builtin, Sem.run_bind, Sem.run_pure, Result.andThen_ok, List.map_toArray, List.map_cons, List.map_nil, hs, hx, hr]
    refine h g cap w' h2 h3 ?_
    rcases h5 with h5 | h5
    · exact .inl (by rw [← h5]; rfl)
    · right
      have : g = w.heap.size := by simpa [Value.ownBlock] using h5
      rw [this, hH]
/-- Two rows of the call's own, one behind the other. -/
theorem OwnD.app {w w' : World} {B : Nat} {v v2 : Value} {M N : List (Dt × Value)} (h : OwnD w B v M) {B2 : Nat} (h2 : OwnD w B2 v2 N) (hB : B ≤ B2) (hv : ∀ b, v.ownBlock = some b → b < B2) {g cap : Nat} (hown : w'.ownsRow B 48 4 (.slice (some ⟨g, 0, none⟩) (M.length + N.length) cap) (M.length + N.length) (flatD M ++ flatD N)) (hg : w.grownBy w' v.ownBlock) (hl : v.ownBlock = some g ∨ g = w.heap.size) :
    OwnD w' B (.slice (some ⟨g, 0, none⟩) (M.length + N.length) cap) (M ++ N) := by
  have key : ∀ (y : Dt) (ly : Value) (S' : Nat → Prop), DtAt w S' (y.valOf ly) y → (∀ b, S' b → b < w.heap.size → B ≤ b ∧ v.ownBlock ≠ some b) → DtAt w' (fun b => B ≤ b ∧ (Value.slice (some ⟨g, 0, none⟩) (M.length + N.length) cap).ownBlock ≠ some b) (y.valOf ly) y := by
    intro y ly S' hy hS'
    refine hy.same (fun b hb hlt => ⟨(hS' b hb hlt).1, fun e => ?_⟩) hg.size (fun b hb hlt => hg.block b hlt (fun e => (hS' b hb hlt).2 e.symm))
    simp [Value.ownBlock] at e
    rcases hl with hl | hl
    · exact (hS' b hb hlt).2 (by rw [hl, e])
    · omega
  refine ⟨?_, fun m hm => ?_⟩
  · rw [List.length_append, flatD_append]
    exact hown
  · rw [List.mem_append] at hm
    rcases hm with hm | hm
    · exact key m.1 m.2 _ (h.kids m hm) fun b hb _ => hb
    · exact key m.1 m.2 _ (h2.kids m hm) fun b hb _ => ⟨by omega, fun e => by have := hv b e; omega⟩
theorem flatD_one (M : List (Dt × Value)) (hv : ∀ m ∈ M, m.2.oneCell' = true) : ∀ u ∈ flatD M, u.oneCell' = true := by
  intro u hu
  obtain ⟨m, hm, hu⟩ := List.mem_flatMap.1 hu
  simp only [List.mem_cons, List.not_mem_nil, or_false] at hu
  rcases hu with rfl | rfl | rfl | rfl
  · rfl
  · rfl
  · rfl
  · exact hv m hm
theorem OwnD.one {w : World} {B : Nat} {v : Value} {M : List (Dt × Value)} (h : OwnD w B v M) : ∀ u ∈ flatD M, u.oneCell' = true := by
  refine flatD_one M fun m hm => ?_
  obtain ⟨a, c, e⟩ := (show DtAt w _ (.agg #[.int .i64 m.1.kind, .int .i64 m.1.int, .string m.1.text, m.2]) m.1 from h.kids m hm).slice
  rw [e]
  rfl
/-- Its cells, from its block's. -/
theorem OwnD.cells {w : World} {B : Nat} {v : Value} {M : List (Dt × Value)} (h : OwnD w B v M) : ∃ ax c, v = .slice ax M.length c ∧ ((ax = none ∧ c = 0 ∧ flatD M = []) ∨ ∃ ad, ax = some ad ∧ ∀ (j : Nat) (u : Value), (flatD M)[j]? = some u → w.cell? (ad.add j) = some u) := by
  rcases own_shape h.row with ⟨rfl, e0, e⟩ | ⟨g, cap, rfl, h0, h1, h2, h3⟩
  · exact ⟨none, 0, by rw [e0], .inl ⟨rfl, rfl, e⟩⟩
  · refine ⟨_, cap, rfl, .inr ⟨_, rfl, fun j u hu => ?_⟩⟩
    have hj := (List.getElem?_eq_some_iff.1 hu).1
    rw [flatD_length] at hj
    rw [Addr.add_mid, Nat.zero_add, h.row.cellAt j (by omega)]
    exact hu
/-- What is known behind the second row that is made, of a tail that is a list. -/
structure Mk7 (w w3 w5 : World) (l m : List Dt) (a b c d : Value) (v : Value) (M : List (Dt × Value)) (v2 : Value) (N : List (Dt × Value)) : Prop where
  own : OwnD w5 (w.heap.size + 1 + 1) v M
  own2 : OwnD w5 w3.heap.size v2 N
  map2 : N.map (·.1) = m
  below : Below w.heap.size w w5
  res : w5.heap[w.heap.size + 1]? = some (.cells #[.int .i64 0, .int .i64 0, .string ⟨#[]⟩, .slice none 0 0] 48 (0, 0))
  box : Cell4 w.heap.size a b c d w5
  size : w3.heap.size ≤ w5.heap.size
theorem mk7 {w w1 w3 w5 : World} {l m : List Dt} {a b c d v v2 : Value} {M N : List (Dt × Value)} (h : Mk3 w w1 w3 l a b c d v M) (hN : OwnD w5 w3.heap.size v2 N) (hNm : N.map (·.1) = m) (hb : Below w3.heap.size w3 w5) : Mk7 w w3 w5 l m a b c d v M v2 N := by
  have hs := h.size
  exact ⟨h.own.bel hb (Nat.le_refl _), hN, hNm, h.below.trans (hb.mono (by omega)), (hb.block _ (by omega)).trans h.res, h.box.below hb (by omega), hb.size⟩
/-- What is known behind its append. -/
structure Mk8 (w w6 : World) (k : Int) (l m : List Dt) (a b c d : Value) (v : Value) : Prop where
  data : DtAt w6 (fun b => w.heap.size + 1 + 1 ≤ b) (.agg #[.int .i64 k, .int .i64 0, .string ⟨#[]⟩, v]) (.mk k 0 ⟨#[]⟩ (l ++ m))
  below : Below w.heap.size w w6
  res : w6.heap[w.heap.size + 1]? = some (.cells #[.int .i64 0, .int .i64 0, .string ⟨#[]⟩, .slice none 0 0] 48 (0, 0))
  box : Cell4 w.heap.size a b c d w6
theorem mk8 {w w1 w3 w5 w6 : World} {k : Int} {l m : List Dt} {a b c d v v2 : Value} {M N : List (Dt × Value)} {g cap : Nat} (h3 : Mk3 w w1 w3 l a b c d v M) (h : Mk7 w w3 w5 l m a b c d v M v2 N)
    (hown : w6.ownsRow (w.heap.size + 1 + 1) 48 4 (.slice (some ⟨g, 0, none⟩) (M.length + N.length) cap) (M.length + N.length) (flatD M ++ flatD N)) (hg : w5.grownBy w6 v.ownBlock) (hl : v.ownBlock = some g ∨ g = w5.heap.size) : Mk8 w w6 k l m a b c d (.slice (some ⟨g, 0, none⟩) (M.length + N.length) cap) := by
  have hs := h.size
  have hs3 := h3.size
  have hA := h.own.app h.own2 hs3 (fun b e => (h3.own.row.lt b e).2) hown hg hl
  have hD := hA.data k 0 ⟨#[]⟩
  rw [List.map_append, h3.map, h.map2] at hD
  have hlt : ∀ b, v.ownBlock = some b → w.heap.size + 1 + 1 ≤ b := fun b e => (h.own.row.lt b e).1
  refine ⟨hD, h.below.grown hg h.below.size (fun b e => by have := hlt b e; omega), (hg.block _ (by omega) (fun e => by have := hlt _ e.symm; omega)).trans h.res, h.box.same (hg.block _ (by omega) (fun e => by have := hlt _ e.symm; omega))⟩
theorem app_bound2 {M N : List (Dt × Value)} {l m : List Dt} (h : M.map (·.1) = l) (h2 : N.map (·.1) = m) (hl : l.length ≤ 100000) (hm : m.length ≤ 100000) : M.length + N.length ≤ maxLen ∧ (M.length + N.length) * 56 ≤ 140737488355328 := by
  have : M.length = l.length := by rw [← h, List.length_map]
  have : N.length = m.length := by rw [← h2, List.length_map]
  constructor
  · simp only [maxLen]; omega
  · omega
theorem nm_pos {M : List (Dt × Value)} {l : List Dt} (h : M.map (·.1) = l) (hl : 0 < l.length) {n : Nat} : 0 < M.length + n := by
  have : M.length = l.length := by rw [← h, List.length_map]
  omega
set_option maxHeartbeats 4000000 in
set_option maxRecDepth 100000 in
theorem make_list (l : List Dt) (k i : Int) (t : ByteArray) (m : List Dt) (lv vb : Value) (w : World) (hl0 : l ≠ []) (hl1 : l.length ≤ 100000) (hm1 : m.length ≤ 100000) (hs : Dt.Short (.mk 0 0 ⟨#[]⟩ l)) (hsb : Dt.Short (.mk k i t m)) (hk : k = 5 ∨ k = 6)
    (hl : DtAt w (fun _ => True) (.agg #[.int .i64 0, .int .i64 0, .string ⟨#[]⟩, lv]) (.mk 0 0 ⟨#[]⟩ l)) (hb : DtAt w (fun _ => True) vb (.mk k i t m)) :
    Calls Try.prog 83 #[lv, vb] w (DPost (.mk k 0 ⟨#[]⟩ (l ++ m)) w) := by
  obtain ⟨a, c, rfl⟩ := hl.slice
  obtain ⟨ab, cb, rfl, _⟩ := hb.inv
  simp only [Dt.list_mk, Dt.kind_mk, Dt.int_mk, Dt.text_mk] at *
  obtain ⟨i0, hi, hz0, hz1, hz2⟩ := info_parts infoDatum
  have HI := Lib.hid hi
  have HZ0 := Lib.hid hz0
  have HZ1 := Lib.hid hz1
  have HZ2 := Lib.hid hz2
  have HA := Lib.hid (fun (w1 : World) (hB : Below w.heap.size w w1) => dall_any l _ w1 hs (hl.bel hB (Nat.le_refl _)))
  have HC := Lib.hid (fun (w1 : World) (hB : Below w.heap.size w w1) => dall_any m (.slice ab m.length cb) w1 (by cases hsb with | mk _ _ _ _ h1 h2 => exact .mk _ _ _ _ h1 h2) ((hb.bel hB (Nat.le_refl _)).head))
  have hlp : 0 < l.length := List.length_pos_iff.2 hl0
  have hg0 : ¬ (l.length : Int) = 0 := by omega
  have hg1 := beq_eq_false_iff_ne.2 hg0
  have hg2 : ¬ l.length = 0 := by omega
  have HK := Lib.hid hk
  have HL0 := Lib.hid hlp
  clear hi hz0 hz1 hz2 hl hb hk hs hsb
  unfold AllPost at HA HC
  unfold DPost
  rcases HK.out with hk | hk
  all_goals
    subst hk
    go_enter Try.func83, Try.ntmps83
    go_wp2_with fail
  · have HW1 : Hid (Below w.heap.size w ((w.alloc (.cells #[.int .i64 5, .int .i64 i, .string t, .slice ab m.length cb] 48)).alloc (.cells #[.int .i64 0, .int .i64 0, .string ⟨#[]⟩, .slice none 0 0] 48)).drew) := (((Below.refl _ _).alloc (Nat.le_refl _) _).alloc (by simp) _).drew
    have HZ1' : Hid ((((w.alloc (.cells #[.int .i64 5, .int .i64 i, .string t, .slice ab m.length cb] 48)).alloc (.cells #[.int .i64 0, .int .i64 0, .string ⟨#[]⟩, .slice none 0 0] 48)).drew).heap[w.heap.size + 1]? = some (.cells #[.int .i64 0, .int .i64 0, .string ⟨#[]⟩, .slice none 0 0] 48 (0, 0))) := heap_new (w := w.alloc (.cells #[.int .i64 5, .int .i64 i, .string t, .slice ab m.length cb] 48)) (by simp)
    have HS : Hid (Cell4 w.heap.size (.int .i64 5) (.int .i64 i) (.string t) (.slice ab m.length cb) ((w.alloc (.cells #[.int .i64 5, .int .i64 i, .string t, .slice ab m.length cb] 48)).alloc (.cells #[.int .i64 0, .int .i64 0, .string ⟨#[]⟩, .slice none 0 0] 48)).drew) := by
      have h := new4 w (.int .i64 5) (.int .i64 i) (.string t) (.slice ab m.length cb) 48
      exact Cell4.same (w := w.alloc (.cells #[.int .i64 5, .int .i64 i, .string t, .slice ab m.length cb] 48)) h (heap_alloc_old _ _ (by simp))
    obtain ⟨a0, a1, a2, a3⟩ := HS.out
    go_region_law (first
      | (refine step_append_any rfl (.tmp 21) (.tmp 24) 46 rfl (w.heap.size + 1 + 1) 48 i0 _ 4 56 Try.underlying46 HI.out HZ0.out HZ1.out HZ2.out rfl (by decide) (.slice a3 M.length c3) M.length (flatD M) (by rfl) H5.out.own.row ax5 N.length c5 (flatD N) (by rfl) (flatD_length N) HCE.out H5.out.own2.one (nm_pos H3.out.map HL0.out) (app_bound2 H3.out.map H5.out.map2 hl1 hm1).1 (app_bound2 H3.out.map H5.out.map2 hl1 hm1).2 (Nat.le_trans H3.out.size H5.out.size) w5.heap.size rfl ?_; intro g cap w6 hown hgr hlies; have H6 := Lib.hid (mk8 (k := 5) H3.out H5.out hown hgr hlies); obtain ⟨r0, r1, r2, r3, m0, m1, m2, m3⟩ := Blk4.of H6.out.res; obtain ⟨s0, s1, s2, s3⟩ := H6.out.box; clear hown hgr hlies)
      | (go_simp; go_wp2_with (first
        | (go_at_call 94; (with_reducible refine (HA.out _ HW1.out).mono ?_); rintro e w3 ⟨v3, M, rfl, hM, hMl, hb3⟩; obtain ⟨a3, c3, rfl⟩ := hM.shape; have H3 := Lib.hid (mk3 (two_size_eq _ _ _) HW1.out HZ1'.out HS.out hM hMl hb3); obtain ⟨b0, b1, b2, b3⟩ := H3.out.box; clear hM hMl hb3)
        | (go_at_call 94; (with_reducible refine (HC.out _ H3.out.below).mono ?_); rintro e w5 ⟨v5, N, rfl, hN, hNl, hb5⟩; obtain ⟨ax5, c5, rfl, hcells⟩ := hN.cells; have H5 := Lib.hid (mk7 H3.out hN hNl hb5); have HCE := Lib.hid hcells; obtain ⟨e0, e1, e2, e3⟩ := H5.out.box; clear hN hNl hb5 hcells)
        | fail))
      | fail)
    all_goals go_wp2_with fail
    all_goals
      refine bodyPost_ret (res1 rfl _ _ (w.heap.size + 1) 48 _ (0, 0) rfl (four_set _ _ _ _ _ _ _ _ _ _ _ H6.out.res) datumD datumSize) rfl ?_
      exact ⟨_, rfl, (H6.out.data.four (fun k hk e => by omega) _ _ _ _).mono fun k hk _ => by omega, below_four H6.out.below (by omega) _ _ _ _⟩
  · have HW1 : Hid (Below w.heap.size w ((w.alloc (.cells #[.int .i64 6, .int .i64 i, .string t, .slice ab m.length cb] 48)).alloc (.cells #[.int .i64 0, .int .i64 0, .string ⟨#[]⟩, .slice none 0 0] 48)).drew) := (((Below.refl _ _).alloc (Nat.le_refl _) _).alloc (by simp) _).drew
    have HZ1' : Hid ((((w.alloc (.cells #[.int .i64 6, .int .i64 i, .string t, .slice ab m.length cb] 48)).alloc (.cells #[.int .i64 0, .int .i64 0, .string ⟨#[]⟩, .slice none 0 0] 48)).drew).heap[w.heap.size + 1]? = some (.cells #[.int .i64 0, .int .i64 0, .string ⟨#[]⟩, .slice none 0 0] 48 (0, 0))) := heap_new (w := w.alloc (.cells #[.int .i64 6, .int .i64 i, .string t, .slice ab m.length cb] 48)) (by simp)
    have HS : Hid (Cell4 w.heap.size (.int .i64 6) (.int .i64 i) (.string t) (.slice ab m.length cb) ((w.alloc (.cells #[.int .i64 6, .int .i64 i, .string t, .slice ab m.length cb] 48)).alloc (.cells #[.int .i64 0, .int .i64 0, .string ⟨#[]⟩, .slice none 0 0] 48)).drew) := by
      have h := new4 w (.int .i64 6) (.int .i64 i) (.string t) (.slice ab m.length cb) 48
      exact Cell4.same (w := w.alloc (.cells #[.int .i64 6, .int .i64 i, .string t, .slice ab m.length cb] 48)) h (heap_alloc_old _ _ (by simp))
    obtain ⟨a0, a1, a2, a3⟩ := HS.out
    go_region_law (first
      | (refine step_append_any rfl (.tmp 21) (.tmp 24) 46 rfl (w.heap.size + 1 + 1) 48 i0 _ 4 56 Try.underlying46 HI.out HZ0.out HZ1.out HZ2.out rfl (by decide) (.slice a3 M.length c3) M.length (flatD M) (by rfl) H5.out.own.row ax5 N.length c5 (flatD N) (by rfl) (flatD_length N) HCE.out H5.out.own2.one (nm_pos H3.out.map HL0.out) (app_bound2 H3.out.map H5.out.map2 hl1 hm1).1 (app_bound2 H3.out.map H5.out.map2 hl1 hm1).2 (Nat.le_trans H3.out.size H5.out.size) w5.heap.size rfl ?_; intro g cap w6 hown hgr hlies; have H6 := Lib.hid (mk8 (k := 6) H3.out H5.out hown hgr hlies); obtain ⟨r0, r1, r2, r3, m0, m1, m2, m3⟩ := Blk4.of H6.out.res; obtain ⟨s0, s1, s2, s3⟩ := H6.out.box; clear hown hgr hlies)
      | (go_simp; go_wp2_with (first
        | (go_at_call 94; (with_reducible refine (HA.out _ HW1.out).mono ?_); rintro e w3 ⟨v3, M, rfl, hM, hMl, hb3⟩; obtain ⟨a3, c3, rfl⟩ := hM.shape; have H3 := Lib.hid (mk3 (two_size_eq _ _ _) HW1.out HZ1'.out HS.out hM hMl hb3); obtain ⟨b0, b1, b2, b3⟩ := H3.out.box; clear hM hMl hb3)
        | (go_at_call 94; (with_reducible refine (HC.out _ H3.out.below).mono ?_); rintro e w5 ⟨v5, N, rfl, hN, hNl, hb5⟩; obtain ⟨ax5, c5, rfl, hcells⟩ := hN.cells; have H5 := Lib.hid (mk7 H3.out hN hNl hb5); have HCE := Lib.hid hcells; obtain ⟨e0, e1, e2, e3⟩ := H5.out.box; clear hN hNl hb5 hcells)
        | fail))
      | fail)
    all_goals go_wp2_with fail
    all_goals
      refine bodyPost_ret (res1 rfl _ _ (w.heap.size + 1) 48 _ (0, 0) rfl (four_set _ _ _ _ _ _ _ _ _ _ _ H6.out.res) datumD datumSize) rfl ?_
      exact ⟨_, rfl, (H6.out.data.four (fun k hk e => by omega) _ _ _ _).mono fun k hk _ => by omega, below_four H6.out.below (by omega) _ _ _ _⟩
/-- What Make makes. -/
def mkD (l : List Dt) (b : Dt) : Dt := if b.kind = 5 ∨ b.kind = 6 then .mk b.kind 0 ⟨#[]⟩ (l ++ b.list) else .mk 6 0 ⟨#[]⟩ (l ++ [b])
theorem make_any (l : List Dt) (b : Dt) (lv vb : Value) (w : World) (hl0 : l ≠ []) (hl1 : l.length ≤ 100000) (hb1 : b.list.length ≤ 100000) (hs : Dt.Short (.mk 0 0 ⟨#[]⟩ l)) (hsb : Dt.Short b)
    (hl : DtAt w (fun _ => True) (.agg #[.int .i64 0, .int .i64 0, .string ⟨#[]⟩, lv]) (.mk 0 0 ⟨#[]⟩ l)) (hb : DtAt w (fun _ => True) vb b) :
    Calls Try.prog 83 #[lv, vb] w (DPost (mkD l b) w) := by
  unfold mkD
  by_cases hk : b.kind = 5 ∨ b.kind = 6
  · rw [if_pos hk]
    obtain ⟨k, i, t, m⟩ := b
    exact make_list l k i t m lv vb w hl0 hl1 hb1 hs hsb hk hl hb
  · rw [if_neg hk]
    exact make_dotted l b lv vb w hl0 hl1 hs hsb ⟨fun e => hk (.inl e), fun e => hk (.inr e)⟩ hl hb
end Go.Proofs.Ythbnhneibpoooaa
