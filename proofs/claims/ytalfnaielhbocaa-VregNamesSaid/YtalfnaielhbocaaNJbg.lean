/- Check: ends. -/
import Derived.Test.YtalfnaielhbocaaNJbf
import Derived.Test.YtalfnaielhbocaaNJbe
import Derived.StillTailTactics
set_option linter.unusedVariables false
set_option linter.unusedSimpArgs false
set_option linter.unnecessarySimpa false
namespace Go.Proofs.Ytalfnaielhbocaa
open Go.RowKit
set_option linter.unusedVariables false
set_option linter.unusedSimpArgs false
set_option maxRecDepth 100000
namespace Vm
theorem sl_one' {w : World} (n : Int) (t : TypeId) : Sl (w.alloc (.cells #[.int .i64 n] t)) (.slice (some ⟨w.heap.size, 0, none⟩) 1 1) (ints [n]) := ⟨_, 1, rfl, .inr ⟨_, rfl, new_cell1 (w := w) rfl⟩⟩
theorem sl_two' {w : World} (n k : Int) (t : TypeId) : Sl (w.alloc (.cells #[.int .i64 n, .int .i64 k] t)) (.slice (some ⟨w.heap.size, 0, none⟩) 2 2) (ints [n, k]) := ⟨_, 2, rfl, .inr ⟨_, rfl, new_cells _ (heap_alloc_new w _)⟩⟩
structure EndC (w : World) (p : Prc) (bv : Value) (x : Fin) (lv : Value) : Prop where
  bvl : ∃ a n, bv = .slice a p.blocks.length n
  args : Sl w lv (ints x.args)
  few : x.args.length ≤ 9223372036854775807
structure EndB (w wk : World) (p : Prc) (bv : Value) (x : Fin) (lv : Value) : Prop where
  below : Below w.heap.size w wk
  size : w.heap.size + 1 < wk.heap.size
  bp : wk.heap[w.heap.size]? = some (.cells #[.int .i64 p.params, .int .i64 p.holds, .int .i64 p.regs, bv] 40 (0, 0))
  bx : wk.heap[w.heap.size + 1]? = some (.cells #[.int .i64 x.kind, .int .i64 x.reg, lv, .int .i64 x.to, .int .i64 x.next, .int .i64 x.els] 45 (0, 0))
theorem EndB.of (w : World) (p : Prc) (bv : Value) (x : Fin) (lv : Value) : ∃ w2, w2 = (w.alloc (.cells #[.int .i64 p.params, .int .i64 p.holds, .int .i64 p.regs, bv] 40)).alloc (.cells #[.int .i64 x.kind, .int .i64 x.reg, lv, .int .i64 x.to, .int .i64 x.next, .int .i64 x.els] 45) ∧ EndB w w2 p bv x lv ∧ w2.heap.size = w.heap.size + 1 + 1 :=
  ⟨_, rfl, ⟨((Below.refl _ _).alloc (Nat.le_refl _) _).alloc (by simp) _, by simp, (heap_alloc_old _ _ (by simp)).trans (heap_new rfl), heap_new (by simp)⟩, by simp⟩
theorem EndB.more {w wk wl : World} {p : Prc} {bv lv : Value} {x : Fin} (h : EndB w wk p bv x lv) (hb : Below wk.heap.size wk wl) : EndB w wl p bv x lv :=
  ⟨h.below.trans (hb.mono h.below.size), Nat.lt_of_lt_of_le h.size hb.size, (hb.block _ (by have := h.size; omega)).trans h.bp, (hb.block _ h.size).trans h.bx⟩
theorem below_alloc {wk wl : World} {o : Obj} (hb : Below (wk.alloc o).heap.size (wk.alloc o) wl) : Below wk.heap.size wk wl := ((Below.refl _ _).alloc (Nat.le_refl _) _).trans (hb.mono (by simp))
theorem EndB.cells {w wk : World} {p : Prc} {bv lv : Value} {x : Fin} (h : EndB w wk p bv x lv) :
    wk.cell? ⟨w.heap.size, 0, none⟩ = some (.int .i64 p.params) ∧ wk.cell? ⟨w.heap.size, 1, none⟩ = some (.int .i64 p.holds) ∧ wk.cell? ⟨w.heap.size, 2, none⟩ = some (.int .i64 p.regs) ∧ wk.cell? ⟨w.heap.size, 3, none⟩ = some bv ∧
    wk.cell? ⟨w.heap.size + 1, 0, none⟩ = some (.int .i64 x.kind) ∧ wk.cell? ⟨w.heap.size + 1, 1, none⟩ = some (.int .i64 x.reg) ∧ wk.cell? ⟨w.heap.size + 1, 2, none⟩ = some lv ∧ wk.cell? ⟨w.heap.size + 1, 3, none⟩ = some (.int .i64 x.to) ∧ wk.cell? ⟨w.heap.size + 1, 4, none⟩ = some (.int .i64 x.next) ∧ wk.cell? ⟨w.heap.size + 1, 5, none⟩ = some (.int .i64 x.els) ∧
    w.heap.size + 1 < wk.heap.size ∧ w.heap.size < wk.heap.size :=
  ⟨cell_of_row wk _ 0 _ _ _ h.bp, cell_of_row wk _ 1 _ _ _ h.bp, cell_of_row wk _ 2 _ _ _ h.bp, cell_of_row wk _ 3 _ _ _ h.bp, cell_of_row wk _ 0 _ _ _ h.bx, cell_of_row wk _ 1 _ _ _ h.bx, cell_of_row wk _ 2 _ _ _ h.bx, cell_of_row wk _ 3 _ _ _ h.bx, cell_of_row wk _ 4 _ _ _ h.bx, cell_of_row wk _ 5 _ _ _ h.bx, h.size, Nat.lt_of_succ_lt h.size⟩
theorem all1 {α : Type} (f : α → Bool) (a : α) : List.all [a] f = f a := by simp
section
variable {w : World} {bv lv : Value} {p : Prc} {x : Fin}
set_option maxHeartbeats 16000000 in
theorem endc_0 (I : EndC w p bv x lv) {nx ba r0 t0 e0 : Bool} (hkk : x.kind = 0) (hnx : List.all [x.next] (blockB p) = nx) (hba : ((x.args.length : Int) == 0) = ba) (hr0 : (x.reg == 0) = r0) (ht0 : (x.to == 0) = t0) (he0 : (x.els == 0) = e0) (hE : finB p x = (nx && ba && r0 && t0 && e0)) :
    Calls Try.prog 29 #[procV p bv, finV x lv] w fun e w' => e = .returned (.bool (finB p x)) ∧ Below w.heap.size w w' := by
  obtain ⟨w2, hw2, A, hs2⟩ := EndB.of w p bv x lv
  have HS2 := Lib.hid hs2
  clear hs2
  obtain ⟨ab, cb, rfl⟩ := I.bvl
  obtain ⟨al, cl, hlv⟩ := I.args.len
  subst hlv
  have hil : (ints x.args).length = x.args.length := by simp [ints]
  have hargs := I.args
  rw [hil] at hargs A hw2 ⊢
  have HI := Lib.hid I
  have A2 := Lib.hid A
  have HW2 := Lib.hid hw2
  have HARGS := Lib.hid hargs
  have HE := Lib.hid hE
  clear I A hw2 hargs hE
  obtain ⟨kind, reg, args, xt, next, els⟩ := x
  dsimp only at *
  subst hkk
  have HHNX := Lib.hid hnx
  clear hnx
  unfold procV finV
  dsimp only
  obtain ⟨p0, p1, p2, p3, x0, x1, x2, x3, x4, x5, hl1, hl0⟩ := A2.out.cells
  dsimp only at x0 x1 x2 x3 x4 x5
  have hra0 := regs_any p (.slice ab p.blocks.length cb) ⟨_, _, _, rfl⟩ (.slice al args.length cl) args w2 (HARGS.out.below A2.out.below (Nat.le_refl _)) HI.out.few
  have HRA := Lib.hid hra0
  unfold procV at HRA
  clear hra0
  go_enter Try.func29, Try.ntmps29
  cases h6 : decide (args.length ≤ 6)
  case' true =>
    have h6i : decide ((args.length : Int) ≤ 6) = true := by rw [← h6]; rw [decide_eq_decide]; omega
    go_wp2_with fail
    rw [← HW2.out]
    with_reducible refine HRA.out.mono ?_
    rintro e w3 ⟨rfl, hb2⟩
    have A3 := Lib.hid (A2.out.more hb2)
    clear hb2 HRA p0 p1 p2 p3 x0 x1 x2 x3 x4 x5 hl0 hl1
    obtain ⟨p0, p1, p2, p3, x0, x1, x2, x3, x4, x5, hl1, hl0⟩ := A3.out.cells
    dsimp only at x0 x1 x2 x3 x4 x5
    have hc3 := blocks_any p (.slice ab p.blocks.length cb) ⟨_, _, rfl⟩ (.slice (some ⟨w3.heap.size, 0, none⟩) 1 1) [next] (w3.alloc (.cells #[.int .i64 next] 3)) (sl_one' next _) (by simp)
    rw [HHNX.out] at hc3
    have HC3 := Lib.hid hc3
    unfold procV at HC3
    clear hc3
    go_wp2_with fail
    with_reducible refine HC3.out.mono ?_
    rintro e w4 ⟨rfl, hb3⟩
    have A4 := Lib.hid (A3.out.more (below_alloc hb3))
    clear hb3 p0 p1 p2 p3 x0 x1 x2 x3 x4 x5 hl0 hl1
    obtain ⟨p0, p1, p2, p3, x0, x1, x2, x3, x4, x5, hl1, hl0⟩ := A4.out.cells
    dsimp only at x0 x1 x2 x3 x4 x5
  case' false =>
    have h6i : decide ((args.length : Int) ≤ 6) = false := by rw [← h6]; rw [decide_eq_decide]; omega
    clear HRA
    go_wp2_with fail
    rw [← HW2.out]
    have hc2 := blocks_any p (.slice ab p.blocks.length cb) ⟨_, _, rfl⟩ (.slice (some ⟨w2.heap.size, 0, none⟩) 1 1) [next] (w2.alloc (.cells #[.int .i64 next] 3)) (sl_one' next _) (by simp)
    rw [HS2.out] at hc2
    rw [HHNX.out] at hc2
    have HC2 := Lib.hid hc2
    unfold procV at HC2
    clear hc2
    go_wp2_with fail
    with_reducible refine HC2.out.mono ?_
    rintro e w4 ⟨rfl, hb2⟩
    have A4 := Lib.hid (A2.out.more (below_alloc hb2))
    clear hb2 p0 p1 p2 p3 x0 x1 x2 x3 x4 x5 hl0 hl1
    obtain ⟨p0, p1, p2, p3, x0, x1, x2, x3, x4, x5, hl1, hl0⟩ := A4.out.cells
    dsimp only at x0 x1 x2 x3 x4 x5
  all_goals
    cases nx
    · go_wp2_with fail
      go_ret
      rw [HE.out]
      exact ⟨by first | rfl | (simp [h6]; done) | (simp; done), A4.out.below⟩
    · cases ba
      · go_wp2_with fail
        go_ret
        rw [HE.out]
        exact ⟨by first | rfl | (simp [h6]; done) | (simp; done), A4.out.below⟩
      · cases r0
        · go_wp2_with fail
          go_ret
          rw [HE.out]
          exact ⟨by first | rfl | (simp [h6]; done) | (simp; done), A4.out.below⟩
        · cases t0
          · go_wp2_with fail
            go_ret
            rw [HE.out]
            exact ⟨by first | rfl | (simp [h6]; done) | (simp; done), A4.out.below⟩
          · go_wp2_with fail
            go_ret
            rw [HE.out]
            exact ⟨by first | rfl | (simp [h6]; done) | (simp; done), A4.out.below⟩
set_option maxHeartbeats 16000000 in
theorem endc_1 (I : EndC w p bv x lv) {nx ba rr kb t0 : Bool} (hkk : x.kind = 1) (hnx : List.all [x.next] (blockB p) = nx) (hba : ((x.args.length : Int) == 0) = ba) (hrr : regsB p [x.reg] = rr) (hkb : List.all [x.els] (blockB p) = kb) (ht0 : (x.to == 0) = t0) (hE : finB p x = (nx && ba && rr && kb && t0)) :
    Calls Try.prog 29 #[procV p bv, finV x lv] w fun e w' => e = .returned (.bool (finB p x)) ∧ Below w.heap.size w w' := by
  obtain ⟨w2, hw2, A, hs2⟩ := EndB.of w p bv x lv
  have HS2 := Lib.hid hs2
  clear hs2
  obtain ⟨ab, cb, rfl⟩ := I.bvl
  obtain ⟨al, cl, hlv⟩ := I.args.len
  subst hlv
  have hil : (ints x.args).length = x.args.length := by simp [ints]
  have hargs := I.args
  rw [hil] at hargs A hw2 ⊢
  have HI := Lib.hid I
  have A2 := Lib.hid A
  have HW2 := Lib.hid hw2
  have HARGS := Lib.hid hargs
  have HE := Lib.hid hE
  clear I A hw2 hargs hE
  obtain ⟨kind, reg, args, xt, next, els⟩ := x
  dsimp only at *
  subst hkk
  have HHNX := Lib.hid hnx
  clear hnx
  have HHRR := Lib.hid hrr
  clear hrr
  have HHKB := Lib.hid hkb
  clear hkb
  unfold procV finV
  dsimp only
  obtain ⟨p0, p1, p2, p3, x0, x1, x2, x3, x4, x5, hl1, hl0⟩ := A2.out.cells
  dsimp only at x0 x1 x2 x3 x4 x5
  have hra0 := regs_any p (.slice ab p.blocks.length cb) ⟨_, _, _, rfl⟩ (.slice al args.length cl) args w2 (HARGS.out.below A2.out.below (Nat.le_refl _)) HI.out.few
  have HRA := Lib.hid hra0
  unfold procV at HRA
  clear hra0
  go_enter Try.func29, Try.ntmps29
  cases h6 : decide (args.length ≤ 6)
  case' true =>
    have h6i : decide ((args.length : Int) ≤ 6) = true := by rw [← h6]; rw [decide_eq_decide]; omega
    go_wp2_with fail
    rw [← HW2.out]
    with_reducible refine HRA.out.mono ?_
    rintro e w3 ⟨rfl, hb2⟩
    have A3 := Lib.hid (A2.out.more hb2)
    clear hb2 HRA p0 p1 p2 p3 x0 x1 x2 x3 x4 x5 hl0 hl1
    obtain ⟨p0, p1, p2, p3, x0, x1, x2, x3, x4, x5, hl1, hl0⟩ := A3.out.cells
    dsimp only at x0 x1 x2 x3 x4 x5
    have hc3 := blocks_any p (.slice ab p.blocks.length cb) ⟨_, _, rfl⟩ (.slice (some ⟨w3.heap.size, 0, none⟩) 1 1) [next] (w3.alloc (.cells #[.int .i64 next] 3)) (sl_one' next _) (by simp)
    rw [HHNX.out] at hc3
    have HC3 := Lib.hid hc3
    unfold procV at HC3
    clear hc3
    go_wp2_with fail
    with_reducible refine HC3.out.mono ?_
    rintro e w4 ⟨rfl, hb3⟩
    have A4 := Lib.hid (A3.out.more (below_alloc hb3))
    clear hb3 p0 p1 p2 p3 x0 x1 x2 x3 x4 x5 hl0 hl1
    obtain ⟨p0, p1, p2, p3, x0, x1, x2, x3, x4, x5, hl1, hl0⟩ := A4.out.cells
    dsimp only at x0 x1 x2 x3 x4 x5
  case' false =>
    have h6i : decide ((args.length : Int) ≤ 6) = false := by rw [← h6]; rw [decide_eq_decide]; omega
    clear HRA
    go_wp2_with fail
    rw [← HW2.out]
    have hc2 := blocks_any p (.slice ab p.blocks.length cb) ⟨_, _, rfl⟩ (.slice (some ⟨w2.heap.size, 0, none⟩) 1 1) [next] (w2.alloc (.cells #[.int .i64 next] 3)) (sl_one' next _) (by simp)
    rw [HS2.out] at hc2
    rw [HHNX.out] at hc2
    have HC2 := Lib.hid hc2
    unfold procV at HC2
    clear hc2
    go_wp2_with fail
    with_reducible refine HC2.out.mono ?_
    rintro e w4 ⟨rfl, hb2⟩
    have A4 := Lib.hid (A2.out.more (below_alloc hb2))
    clear hb2 p0 p1 p2 p3 x0 x1 x2 x3 x4 x5 hl0 hl1
    obtain ⟨p0, p1, p2, p3, x0, x1, x2, x3, x4, x5, hl1, hl0⟩ := A4.out.cells
    dsimp only at x0 x1 x2 x3 x4 x5
  all_goals
    cases nx
    · go_wp2_with fail
      go_ret
      rw [HE.out]
      exact ⟨by first | rfl | (simp [h6]; done) | (simp; done), A4.out.below⟩
    · cases ba
      · go_wp2_with fail
        go_ret
        rw [HE.out]
        exact ⟨by first | rfl | (simp [h6]; done) | (simp; done), A4.out.below⟩
      · have hc4 := regs_any p (.slice ab p.blocks.length cb) ⟨_, _, _, rfl⟩ (.slice (some ⟨w4.heap.size, 0, none⟩) 1 1) [reg] (w4.alloc (.cells #[.int .i64 reg] 3)) (sl_one' reg _) (by simp)
        rw [HHRR.out] at hc4
        have HC4 := Lib.hid hc4
        unfold procV at HC4
        clear hc4
        go_wp2_with fail
        with_reducible refine HC4.out.mono ?_
        rintro e w5 ⟨rfl, hb4⟩
        have A5 := Lib.hid (A4.out.more (below_alloc hb4))
        clear hb4 p0 p1 p2 p3 x0 x1 x2 x3 x4 x5 hl0 hl1
        obtain ⟨p0, p1, p2, p3, x0, x1, x2, x3, x4, x5, hl1, hl0⟩ := A5.out.cells
        dsimp only at x0 x1 x2 x3 x4 x5
        cases rr
        · go_wp2_with fail
          go_ret
          rw [HE.out]
          exact ⟨by first | rfl | (simp [h6]; done) | (simp; done), A5.out.below⟩
        · have hc5 := blocks_any p (.slice ab p.blocks.length cb) ⟨_, _, rfl⟩ (.slice (some ⟨w5.heap.size, 0, none⟩) 1 1) [els] (w5.alloc (.cells #[.int .i64 els] 3)) (sl_one' els _) (by simp)
          rw [HHKB.out] at hc5
          have HC5 := Lib.hid hc5
          unfold procV at HC5
          clear hc5
          go_wp2_with fail
          with_reducible refine HC5.out.mono ?_
          rintro e w6 ⟨rfl, hb5⟩
          have A6 := Lib.hid (A5.out.more (below_alloc hb5))
          clear hb5 p0 p1 p2 p3 x0 x1 x2 x3 x4 x5 hl0 hl1
          obtain ⟨p0, p1, p2, p3, x0, x1, x2, x3, x4, x5, hl1, hl0⟩ := A6.out.cells
          dsimp only at x0 x1 x2 x3 x4 x5
          cases kb
          · go_wp2_with fail
            go_ret
            rw [HE.out]
            exact ⟨by first | rfl | (simp [h6]; done) | (simp; done), A6.out.below⟩
          · go_wp2_with fail
            go_ret
            rw [HE.out]
            exact ⟨by first | rfl | (simp [h6]; done) | (simp; done), A6.out.below⟩
set_option maxHeartbeats 16000000 in
theorem endc_2 (I : EndC w p bv x lv) {rr ba t0 n0 e0 : Bool} (hkk : x.kind = 2) (hrr : regsB p [x.reg] = rr) (hba : ((x.args.length : Int) == 0) = ba) (ht0 : (x.to == 0) = t0) (hn0 : (x.next == 0) = n0) (he0 : (x.els == 0) = e0) (hE : finB p x = (rr && ba && t0 && n0 && e0)) :
    Calls Try.prog 29 #[procV p bv, finV x lv] w fun e w' => e = .returned (.bool (finB p x)) ∧ Below w.heap.size w w' := by
  obtain ⟨w2, hw2, A, hs2⟩ := EndB.of w p bv x lv
  have HS2 := Lib.hid hs2
  clear hs2
  obtain ⟨ab, cb, rfl⟩ := I.bvl
  obtain ⟨al, cl, hlv⟩ := I.args.len
  subst hlv
  have hil : (ints x.args).length = x.args.length := by simp [ints]
  have hargs := I.args
  rw [hil] at hargs A hw2 ⊢
  have HI := Lib.hid I
  have A2 := Lib.hid A
  have HW2 := Lib.hid hw2
  have HARGS := Lib.hid hargs
  have HE := Lib.hid hE
  clear I A hw2 hargs hE
  obtain ⟨kind, reg, args, xt, next, els⟩ := x
  dsimp only at *
  subst hkk
  have HHRR := Lib.hid hrr
  clear hrr
  unfold procV finV
  dsimp only
  obtain ⟨p0, p1, p2, p3, x0, x1, x2, x3, x4, x5, hl1, hl0⟩ := A2.out.cells
  dsimp only at x0 x1 x2 x3 x4 x5
  have hra0 := regs_any p (.slice ab p.blocks.length cb) ⟨_, _, _, rfl⟩ (.slice al args.length cl) args w2 (HARGS.out.below A2.out.below (Nat.le_refl _)) HI.out.few
  have HRA := Lib.hid hra0
  unfold procV at HRA
  clear hra0
  go_enter Try.func29, Try.ntmps29
  cases h6 : decide (args.length ≤ 6)
  case' true =>
    have h6i : decide ((args.length : Int) ≤ 6) = true := by rw [← h6]; rw [decide_eq_decide]; omega
    go_wp2_with fail
    rw [← HW2.out]
    with_reducible refine HRA.out.mono ?_
    rintro e w3 ⟨rfl, hb2⟩
    have A3 := Lib.hid (A2.out.more hb2)
    clear hb2 HRA p0 p1 p2 p3 x0 x1 x2 x3 x4 x5 hl0 hl1
    obtain ⟨p0, p1, p2, p3, x0, x1, x2, x3, x4, x5, hl1, hl0⟩ := A3.out.cells
    dsimp only at x0 x1 x2 x3 x4 x5
    have hc3 := blocks_any p (.slice ab p.blocks.length cb) ⟨_, _, rfl⟩ (.slice (some ⟨w3.heap.size, 0, none⟩) 1 1) [next] (w3.alloc (.cells #[.int .i64 next] 3)) (sl_one' next _) (by simp)
    have HC3 := Lib.hid hc3
    unfold procV at HC3
    clear hc3
    go_wp2_with fail
    with_reducible refine HC3.out.mono ?_
    rintro e w4 ⟨rfl, hb3⟩
    have A4 := Lib.hid (A3.out.more (below_alloc hb3))
    clear hb3 p0 p1 p2 p3 x0 x1 x2 x3 x4 x5 hl0 hl1
    obtain ⟨p0, p1, p2, p3, x0, x1, x2, x3, x4, x5, hl1, hl0⟩ := A4.out.cells
    dsimp only at x0 x1 x2 x3 x4 x5
  case' false =>
    have h6i : decide ((args.length : Int) ≤ 6) = false := by rw [← h6]; rw [decide_eq_decide]; omega
    clear HRA
    go_wp2_with fail
    rw [← HW2.out]
    have hc2 := blocks_any p (.slice ab p.blocks.length cb) ⟨_, _, rfl⟩ (.slice (some ⟨w2.heap.size, 0, none⟩) 1 1) [next] (w2.alloc (.cells #[.int .i64 next] 3)) (sl_one' next _) (by simp)
    rw [HS2.out] at hc2
    have HC2 := Lib.hid hc2
    unfold procV at HC2
    clear hc2
    go_wp2_with fail
    with_reducible refine HC2.out.mono ?_
    rintro e w4 ⟨rfl, hb2⟩
    have A4 := Lib.hid (A2.out.more (below_alloc hb2))
    clear hb2 p0 p1 p2 p3 x0 x1 x2 x3 x4 x5 hl0 hl1
    obtain ⟨p0, p1, p2, p3, x0, x1, x2, x3, x4, x5, hl1, hl0⟩ := A4.out.cells
    dsimp only at x0 x1 x2 x3 x4 x5
  all_goals
    have hc4 := regs_any p (.slice ab p.blocks.length cb) ⟨_, _, _, rfl⟩ (.slice (some ⟨w4.heap.size, 0, none⟩) 1 1) [reg] (w4.alloc (.cells #[.int .i64 reg] 3)) (sl_one' reg _) (by simp)
    rw [HHRR.out] at hc4
    have HC4 := Lib.hid hc4
    unfold procV at HC4
    clear hc4
    go_wp2_with fail
    with_reducible refine HC4.out.mono ?_
    rintro e w5 ⟨rfl, hb4⟩
    have A5 := Lib.hid (A4.out.more (below_alloc hb4))
    clear hb4 p0 p1 p2 p3 x0 x1 x2 x3 x4 x5 hl0 hl1
    obtain ⟨p0, p1, p2, p3, x0, x1, x2, x3, x4, x5, hl1, hl0⟩ := A5.out.cells
    dsimp only at x0 x1 x2 x3 x4 x5
    cases rr
    · go_wp2_with fail
      go_ret
      rw [HE.out]
      exact ⟨by first | rfl | (simp [h6]; done) | (simp; done), A5.out.below⟩
    · cases ba
      · go_wp2_with fail
        go_ret
        rw [HE.out]
        exact ⟨by first | rfl | (simp [h6]; done) | (simp; done), A5.out.below⟩
      · cases t0
        · go_wp2_with fail
          go_ret
          rw [HE.out]
          exact ⟨by first | rfl | (simp [h6]; done) | (simp; done), A5.out.below⟩
        · cases n0
          · go_wp2_with fail
            go_ret
            rw [HE.out]
            exact ⟨by first | rfl | (simp [h6]; done) | (simp; done), A5.out.below⟩
          · go_wp2_with fail
            go_ret
            rw [HE.out]
            exact ⟨by first | rfl | (simp [h6]; done) | (simp; done), A5.out.below⟩
set_option maxHeartbeats 16000000 in
theorem endc_5 (I : EndC w p bv x lv) {rr ba t0 n0 e0 : Bool} (hkk : x.kind = 5) (hrr : regsB p [x.reg] = rr) (hba : ((x.args.length : Int) == 0) = ba) (ht0 : (x.to == 0) = t0) (hn0 : (x.next == 0) = n0) (he0 : (x.els == 0) = e0) (hE : finB p x = (rr && ba && t0 && n0 && e0)) :
    Calls Try.prog 29 #[procV p bv, finV x lv] w fun e w' => e = .returned (.bool (finB p x)) ∧ Below w.heap.size w w' := by
  obtain ⟨w2, hw2, A, hs2⟩ := EndB.of w p bv x lv
  have HS2 := Lib.hid hs2
  clear hs2
  obtain ⟨ab, cb, rfl⟩ := I.bvl
  obtain ⟨al, cl, hlv⟩ := I.args.len
  subst hlv
  have hil : (ints x.args).length = x.args.length := by simp [ints]
  have hargs := I.args
  rw [hil] at hargs A hw2 ⊢
  have HI := Lib.hid I
  have A2 := Lib.hid A
  have HW2 := Lib.hid hw2
  have HARGS := Lib.hid hargs
  have HE := Lib.hid hE
  clear I A hw2 hargs hE
  obtain ⟨kind, reg, args, xt, next, els⟩ := x
  dsimp only at *
  subst hkk
  have HHRR := Lib.hid hrr
  clear hrr
  unfold procV finV
  dsimp only
  obtain ⟨p0, p1, p2, p3, x0, x1, x2, x3, x4, x5, hl1, hl0⟩ := A2.out.cells
  dsimp only at x0 x1 x2 x3 x4 x5
  have hra0 := regs_any p (.slice ab p.blocks.length cb) ⟨_, _, _, rfl⟩ (.slice al args.length cl) args w2 (HARGS.out.below A2.out.below (Nat.le_refl _)) HI.out.few
  have HRA := Lib.hid hra0
  unfold procV at HRA
  clear hra0
  go_enter Try.func29, Try.ntmps29
  cases h6 : decide (args.length ≤ 6)
  case' true =>
    have h6i : decide ((args.length : Int) ≤ 6) = true := by rw [← h6]; rw [decide_eq_decide]; omega
    go_wp2_with fail
    rw [← HW2.out]
    with_reducible refine HRA.out.mono ?_
    rintro e w3 ⟨rfl, hb2⟩
    have A3 := Lib.hid (A2.out.more hb2)
    clear hb2 HRA p0 p1 p2 p3 x0 x1 x2 x3 x4 x5 hl0 hl1
    obtain ⟨p0, p1, p2, p3, x0, x1, x2, x3, x4, x5, hl1, hl0⟩ := A3.out.cells
    dsimp only at x0 x1 x2 x3 x4 x5
    have hc3 := blocks_any p (.slice ab p.blocks.length cb) ⟨_, _, rfl⟩ (.slice (some ⟨w3.heap.size, 0, none⟩) 1 1) [next] (w3.alloc (.cells #[.int .i64 next] 3)) (sl_one' next _) (by simp)
    have HC3 := Lib.hid hc3
    unfold procV at HC3
    clear hc3
    go_wp2_with fail
    with_reducible refine HC3.out.mono ?_
    rintro e w4 ⟨rfl, hb3⟩
    have A4 := Lib.hid (A3.out.more (below_alloc hb3))
    clear hb3 p0 p1 p2 p3 x0 x1 x2 x3 x4 x5 hl0 hl1
    obtain ⟨p0, p1, p2, p3, x0, x1, x2, x3, x4, x5, hl1, hl0⟩ := A4.out.cells
    dsimp only at x0 x1 x2 x3 x4 x5
  case' false =>
    have h6i : decide ((args.length : Int) ≤ 6) = false := by rw [← h6]; rw [decide_eq_decide]; omega
    clear HRA
    go_wp2_with fail
    rw [← HW2.out]
    have hc2 := blocks_any p (.slice ab p.blocks.length cb) ⟨_, _, rfl⟩ (.slice (some ⟨w2.heap.size, 0, none⟩) 1 1) [next] (w2.alloc (.cells #[.int .i64 next] 3)) (sl_one' next _) (by simp)
    rw [HS2.out] at hc2
    have HC2 := Lib.hid hc2
    unfold procV at HC2
    clear hc2
    go_wp2_with fail
    with_reducible refine HC2.out.mono ?_
    rintro e w4 ⟨rfl, hb2⟩
    have A4 := Lib.hid (A2.out.more (below_alloc hb2))
    clear hb2 p0 p1 p2 p3 x0 x1 x2 x3 x4 x5 hl0 hl1
    obtain ⟨p0, p1, p2, p3, x0, x1, x2, x3, x4, x5, hl1, hl0⟩ := A4.out.cells
    dsimp only at x0 x1 x2 x3 x4 x5
  all_goals
    have hc4 := regs_any p (.slice ab p.blocks.length cb) ⟨_, _, _, rfl⟩ (.slice (some ⟨w4.heap.size, 0, none⟩) 1 1) [reg] (w4.alloc (.cells #[.int .i64 reg] 3)) (sl_one' reg _) (by simp)
    rw [HHRR.out] at hc4
    have HC4 := Lib.hid hc4
    unfold procV at HC4
    clear hc4
    go_wp2_with fail
    with_reducible refine HC4.out.mono ?_
    rintro e w5 ⟨rfl, hb4⟩
    have A5 := Lib.hid (A4.out.more (below_alloc hb4))
    clear hb4 p0 p1 p2 p3 x0 x1 x2 x3 x4 x5 hl0 hl1
    obtain ⟨p0, p1, p2, p3, x0, x1, x2, x3, x4, x5, hl1, hl0⟩ := A5.out.cells
    dsimp only at x0 x1 x2 x3 x4 x5
    cases rr
    · go_wp2_with fail
      go_ret
      rw [HE.out]
      exact ⟨by first | rfl | (simp [h6]; done) | (simp; done), A5.out.below⟩
    · cases ba
      · go_wp2_with fail
        go_ret
        rw [HE.out]
        exact ⟨by first | rfl | (simp [h6]; done) | (simp; done), A5.out.below⟩
      · cases t0
        · go_wp2_with fail
          go_ret
          rw [HE.out]
          exact ⟨by first | rfl | (simp [h6]; done) | (simp; done), A5.out.below⟩
        · cases n0
          · go_wp2_with fail
            go_ret
            rw [HE.out]
            exact ⟨by first | rfl | (simp [h6]; done) | (simp; done), A5.out.below⟩
          · go_wp2_with fail
            go_ret
            rw [HE.out]
            exact ⟨by first | rfl | (simp [h6]; done) | (simp; done), A5.out.below⟩
set_option maxHeartbeats 16000000 in
theorem endc_3 (I : EndC w p bv x lv) {rr ra t0 n0 e0 : Bool} (hkk : x.kind = 3) (hrr : regsB p [x.reg] = rr) (hra : regsB p x.args = ra) (ht0 : (x.to == 0) = t0) (hn0 : (x.next == 0) = n0) (he0 : (x.els == 0) = e0) (hE : finB p x = (rr && (decide (x.args.length ≤ 6) && ra) && t0 && n0 && e0)) :
    Calls Try.prog 29 #[procV p bv, finV x lv] w fun e w' => e = .returned (.bool (finB p x)) ∧ Below w.heap.size w w' := by
  obtain ⟨w2, hw2, A, hs2⟩ := EndB.of w p bv x lv
  have HS2 := Lib.hid hs2
  clear hs2
  obtain ⟨ab, cb, rfl⟩ := I.bvl
  obtain ⟨al, cl, hlv⟩ := I.args.len
  subst hlv
  have hil : (ints x.args).length = x.args.length := by simp [ints]
  have hargs := I.args
  rw [hil] at hargs A hw2 ⊢
  have HI := Lib.hid I
  have A2 := Lib.hid A
  have HW2 := Lib.hid hw2
  have HARGS := Lib.hid hargs
  have HE := Lib.hid hE
  clear I A hw2 hargs hE
  obtain ⟨kind, reg, args, xt, next, els⟩ := x
  dsimp only at *
  subst hkk
  have HHRR := Lib.hid hrr
  clear hrr
  have HHRA := Lib.hid hra
  clear hra
  unfold procV finV
  dsimp only
  obtain ⟨p0, p1, p2, p3, x0, x1, x2, x3, x4, x5, hl1, hl0⟩ := A2.out.cells
  dsimp only at x0 x1 x2 x3 x4 x5
  have hra0 := regs_any p (.slice ab p.blocks.length cb) ⟨_, _, _, rfl⟩ (.slice al args.length cl) args w2 (HARGS.out.below A2.out.below (Nat.le_refl _)) HI.out.few
  rw [HHRA.out] at hra0
  have HRA := Lib.hid hra0
  unfold procV at HRA
  clear hra0
  go_enter Try.func29, Try.ntmps29
  cases h6 : decide (args.length ≤ 6)
  case' true =>
    have h6i : decide ((args.length : Int) ≤ 6) = true := by rw [← h6]; rw [decide_eq_decide]; omega
    go_wp2_with fail
    rw [← HW2.out]
    with_reducible refine HRA.out.mono ?_
    rintro e w3 ⟨rfl, hb2⟩
    have A3 := Lib.hid (A2.out.more hb2)
    clear hb2 HRA p0 p1 p2 p3 x0 x1 x2 x3 x4 x5 hl0 hl1
    obtain ⟨p0, p1, p2, p3, x0, x1, x2, x3, x4, x5, hl1, hl0⟩ := A3.out.cells
    dsimp only at x0 x1 x2 x3 x4 x5
    have hc3 := blocks_any p (.slice ab p.blocks.length cb) ⟨_, _, rfl⟩ (.slice (some ⟨w3.heap.size, 0, none⟩) 1 1) [next] (w3.alloc (.cells #[.int .i64 next] 3)) (sl_one' next _) (by simp)
    have HC3 := Lib.hid hc3
    unfold procV at HC3
    clear hc3
    go_wp2_with fail
    with_reducible refine HC3.out.mono ?_
    rintro e w4 ⟨rfl, hb3⟩
    have A4 := Lib.hid (A3.out.more (below_alloc hb3))
    clear hb3 p0 p1 p2 p3 x0 x1 x2 x3 x4 x5 hl0 hl1
    obtain ⟨p0, p1, p2, p3, x0, x1, x2, x3, x4, x5, hl1, hl0⟩ := A4.out.cells
    dsimp only at x0 x1 x2 x3 x4 x5
  case' false =>
    have h6i : decide ((args.length : Int) ≤ 6) = false := by rw [← h6]; rw [decide_eq_decide]; omega
    clear HRA
    go_wp2_with fail
    rw [← HW2.out]
    have hc2 := blocks_any p (.slice ab p.blocks.length cb) ⟨_, _, rfl⟩ (.slice (some ⟨w2.heap.size, 0, none⟩) 1 1) [next] (w2.alloc (.cells #[.int .i64 next] 3)) (sl_one' next _) (by simp)
    rw [HS2.out] at hc2
    have HC2 := Lib.hid hc2
    unfold procV at HC2
    clear hc2
    go_wp2_with fail
    with_reducible refine HC2.out.mono ?_
    rintro e w4 ⟨rfl, hb2⟩
    have A4 := Lib.hid (A2.out.more (below_alloc hb2))
    clear hb2 p0 p1 p2 p3 x0 x1 x2 x3 x4 x5 hl0 hl1
    obtain ⟨p0, p1, p2, p3, x0, x1, x2, x3, x4, x5, hl1, hl0⟩ := A4.out.cells
    dsimp only at x0 x1 x2 x3 x4 x5
  all_goals
    have hc4 := regs_any p (.slice ab p.blocks.length cb) ⟨_, _, _, rfl⟩ (.slice (some ⟨w4.heap.size, 0, none⟩) 1 1) [reg] (w4.alloc (.cells #[.int .i64 reg] 3)) (sl_one' reg _) (by simp)
    rw [HHRR.out] at hc4
    have HC4 := Lib.hid hc4
    unfold procV at HC4
    clear hc4
    go_wp2_with fail
    with_reducible refine HC4.out.mono ?_
    rintro e w5 ⟨rfl, hb4⟩
    have A5 := Lib.hid (A4.out.more (below_alloc hb4))
    clear hb4 p0 p1 p2 p3 x0 x1 x2 x3 x4 x5 hl0 hl1
    obtain ⟨p0, p1, p2, p3, x0, x1, x2, x3, x4, x5, hl1, hl0⟩ := A5.out.cells
    dsimp only at x0 x1 x2 x3 x4 x5
    cases rr
    · go_wp2_with fail
      go_ret
      rw [HE.out]
      exact ⟨by first | rfl | (simp [h6]; done) | (simp; done), A5.out.below⟩
    · cases ra
      · go_wp2_with fail
        go_ret
        rw [HE.out]
        exact ⟨by first | rfl | (simp [h6]; done) | (simp; done), A5.out.below⟩
      · cases t0
        · go_wp2_with fail
          go_ret
          rw [HE.out]
          exact ⟨by first | rfl | (simp [h6]; done) | (simp; done), A5.out.below⟩
        · cases n0
          · go_wp2_with fail
            go_ret
            rw [HE.out]
            exact ⟨by first | rfl | (simp [h6]; done) | (simp; done), A5.out.below⟩
          · go_wp2_with fail
            go_ret
            rw [HE.out]
            exact ⟨by first | rfl | (simp [h6]; done) | (simp; done), A5.out.below⟩
set_option maxHeartbeats 16000000 in
theorem endc_4 (I : EndC w p bv x lv) {rr ra nx e0 : Bool} (hkk : x.kind = 4) (hrr : regsB p [x.reg, x.to] = rr) (hra : regsB p x.args = ra) (hnx : List.all [x.next] (blockB p) = nx) (he0 : (x.els == 0) = e0) (hE : finB p x = (rr && (decide (x.args.length ≤ 6) && ra) && nx && e0)) :
    Calls Try.prog 29 #[procV p bv, finV x lv] w fun e w' => e = .returned (.bool (finB p x)) ∧ Below w.heap.size w w' := by
  obtain ⟨w2, hw2, A, hs2⟩ := EndB.of w p bv x lv
  have HS2 := Lib.hid hs2
  clear hs2
  obtain ⟨ab, cb, rfl⟩ := I.bvl
  obtain ⟨al, cl, hlv⟩ := I.args.len
  subst hlv
  have hil : (ints x.args).length = x.args.length := by simp [ints]
  have hargs := I.args
  rw [hil] at hargs A hw2 ⊢
  have HI := Lib.hid I
  have A2 := Lib.hid A
  have HW2 := Lib.hid hw2
  have HARGS := Lib.hid hargs
  have HE := Lib.hid hE
  clear I A hw2 hargs hE
  obtain ⟨kind, reg, args, xt, next, els⟩ := x
  dsimp only at *
  subst hkk
  have HHNX := Lib.hid hnx
  clear hnx
  have HHRR := Lib.hid hrr
  clear hrr
  have HHRA := Lib.hid hra
  clear hra
  unfold procV finV
  dsimp only
  obtain ⟨p0, p1, p2, p3, x0, x1, x2, x3, x4, x5, hl1, hl0⟩ := A2.out.cells
  dsimp only at x0 x1 x2 x3 x4 x5
  have hra0 := regs_any p (.slice ab p.blocks.length cb) ⟨_, _, _, rfl⟩ (.slice al args.length cl) args w2 (HARGS.out.below A2.out.below (Nat.le_refl _)) HI.out.few
  rw [HHRA.out] at hra0
  have HRA := Lib.hid hra0
  unfold procV at HRA
  clear hra0
  go_enter Try.func29, Try.ntmps29
  cases h6 : decide (args.length ≤ 6)
  case' true =>
    have h6i : decide ((args.length : Int) ≤ 6) = true := by rw [← h6]; rw [decide_eq_decide]; omega
    go_wp2_with fail
    rw [← HW2.out]
    with_reducible refine HRA.out.mono ?_
    rintro e w3 ⟨rfl, hb2⟩
    have A3 := Lib.hid (A2.out.more hb2)
    clear hb2 HRA p0 p1 p2 p3 x0 x1 x2 x3 x4 x5 hl0 hl1
    obtain ⟨p0, p1, p2, p3, x0, x1, x2, x3, x4, x5, hl1, hl0⟩ := A3.out.cells
    dsimp only at x0 x1 x2 x3 x4 x5
    have hc3 := blocks_any p (.slice ab p.blocks.length cb) ⟨_, _, rfl⟩ (.slice (some ⟨w3.heap.size, 0, none⟩) 1 1) [next] (w3.alloc (.cells #[.int .i64 next] 3)) (sl_one' next _) (by simp)
    rw [HHNX.out] at hc3
    have HC3 := Lib.hid hc3
    unfold procV at HC3
    clear hc3
    go_wp2_with fail
    with_reducible refine HC3.out.mono ?_
    rintro e w4 ⟨rfl, hb3⟩
    have A4 := Lib.hid (A3.out.more (below_alloc hb3))
    clear hb3 p0 p1 p2 p3 x0 x1 x2 x3 x4 x5 hl0 hl1
    obtain ⟨p0, p1, p2, p3, x0, x1, x2, x3, x4, x5, hl1, hl0⟩ := A4.out.cells
    dsimp only at x0 x1 x2 x3 x4 x5
  case' false =>
    have h6i : decide ((args.length : Int) ≤ 6) = false := by rw [← h6]; rw [decide_eq_decide]; omega
    clear HRA
    go_wp2_with fail
    rw [← HW2.out]
    have hc2 := blocks_any p (.slice ab p.blocks.length cb) ⟨_, _, rfl⟩ (.slice (some ⟨w2.heap.size, 0, none⟩) 1 1) [next] (w2.alloc (.cells #[.int .i64 next] 3)) (sl_one' next _) (by simp)
    rw [HS2.out] at hc2
    rw [HHNX.out] at hc2
    have HC2 := Lib.hid hc2
    unfold procV at HC2
    clear hc2
    go_wp2_with fail
    with_reducible refine HC2.out.mono ?_
    rintro e w4 ⟨rfl, hb2⟩
    have A4 := Lib.hid (A2.out.more (below_alloc hb2))
    clear hb2 p0 p1 p2 p3 x0 x1 x2 x3 x4 x5 hl0 hl1
    obtain ⟨p0, p1, p2, p3, x0, x1, x2, x3, x4, x5, hl1, hl0⟩ := A4.out.cells
    dsimp only at x0 x1 x2 x3 x4 x5
  all_goals
    have hc4 := regs_any p (.slice ab p.blocks.length cb) ⟨_, _, _, rfl⟩ (.slice (some ⟨w4.heap.size, 0, none⟩) 2 2) [reg, xt] (w4.alloc (.cells #[.int .i64 reg, .int .i64 xt] 3)) (sl_two' reg xt _) (by simp)
    rw [HHRR.out] at hc4
    have HC4 := Lib.hid hc4
    unfold procV at HC4
    clear hc4
    go_wp2_with fail
    with_reducible refine HC4.out.mono ?_
    rintro e w5 ⟨rfl, hb4⟩
    have A5 := Lib.hid (A4.out.more (below_alloc hb4))
    clear hb4 p0 p1 p2 p3 x0 x1 x2 x3 x4 x5 hl0 hl1
    obtain ⟨p0, p1, p2, p3, x0, x1, x2, x3, x4, x5, hl1, hl0⟩ := A5.out.cells
    dsimp only at x0 x1 x2 x3 x4 x5
    cases rr
    · go_wp2_with fail
      go_ret
      rw [HE.out]
      exact ⟨by first | rfl | (simp [h6]; done) | (simp; done), A5.out.below⟩
    · cases ra
      · go_wp2_with fail
        go_ret
        rw [HE.out]
        exact ⟨by first | rfl | (simp [h6]; done) | (simp; done), A5.out.below⟩
      · cases nx
        · go_wp2_with fail
          go_ret
          rw [HE.out]
          exact ⟨by first | rfl | (simp [h6]; done) | (simp; done), A5.out.below⟩
        · go_wp2_with fail
          go_ret
          rw [HE.out]
          exact ⟨by first | rfl | (simp [h6]; done) | (simp; done), A5.out.below⟩
set_option maxHeartbeats 16000000 in
theorem endc_6 (I : EndC w p bv x lv) {rr ba nx e0 : Bool} (hkk : x.kind = 6) (hrr : regsB p [x.reg, x.to] = rr) (hba : ((x.args.length : Int) == 0) = ba) (hnx : List.all [x.next] (blockB p) = nx) (he0 : (x.els == 0) = e0) (hE : finB p x = (rr && ba && nx && e0)) :
    Calls Try.prog 29 #[procV p bv, finV x lv] w fun e w' => e = .returned (.bool (finB p x)) ∧ Below w.heap.size w w' := by
  obtain ⟨w2, hw2, A, hs2⟩ := EndB.of w p bv x lv
  have HS2 := Lib.hid hs2
  clear hs2
  obtain ⟨ab, cb, rfl⟩ := I.bvl
  obtain ⟨al, cl, hlv⟩ := I.args.len
  subst hlv
  have hil : (ints x.args).length = x.args.length := by simp [ints]
  have hargs := I.args
  rw [hil] at hargs A hw2 ⊢
  have HI := Lib.hid I
  have A2 := Lib.hid A
  have HW2 := Lib.hid hw2
  have HARGS := Lib.hid hargs
  have HE := Lib.hid hE
  clear I A hw2 hargs hE
  obtain ⟨kind, reg, args, xt, next, els⟩ := x
  dsimp only at *
  subst hkk
  have HHNX := Lib.hid hnx
  clear hnx
  have HHRR := Lib.hid hrr
  clear hrr
  unfold procV finV
  dsimp only
  obtain ⟨p0, p1, p2, p3, x0, x1, x2, x3, x4, x5, hl1, hl0⟩ := A2.out.cells
  dsimp only at x0 x1 x2 x3 x4 x5
  have hra0 := regs_any p (.slice ab p.blocks.length cb) ⟨_, _, _, rfl⟩ (.slice al args.length cl) args w2 (HARGS.out.below A2.out.below (Nat.le_refl _)) HI.out.few
  have HRA := Lib.hid hra0
  unfold procV at HRA
  clear hra0
  go_enter Try.func29, Try.ntmps29
  cases h6 : decide (args.length ≤ 6)
  case' true =>
    have h6i : decide ((args.length : Int) ≤ 6) = true := by rw [← h6]; rw [decide_eq_decide]; omega
    go_wp2_with fail
    rw [← HW2.out]
    with_reducible refine HRA.out.mono ?_
    rintro e w3 ⟨rfl, hb2⟩
    have A3 := Lib.hid (A2.out.more hb2)
    clear hb2 HRA p0 p1 p2 p3 x0 x1 x2 x3 x4 x5 hl0 hl1
    obtain ⟨p0, p1, p2, p3, x0, x1, x2, x3, x4, x5, hl1, hl0⟩ := A3.out.cells
    dsimp only at x0 x1 x2 x3 x4 x5
    have hc3 := blocks_any p (.slice ab p.blocks.length cb) ⟨_, _, rfl⟩ (.slice (some ⟨w3.heap.size, 0, none⟩) 1 1) [next] (w3.alloc (.cells #[.int .i64 next] 3)) (sl_one' next _) (by simp)
    rw [HHNX.out] at hc3
    have HC3 := Lib.hid hc3
    unfold procV at HC3
    clear hc3
    go_wp2_with fail
    with_reducible refine HC3.out.mono ?_
    rintro e w4 ⟨rfl, hb3⟩
    have A4 := Lib.hid (A3.out.more (below_alloc hb3))
    clear hb3 p0 p1 p2 p3 x0 x1 x2 x3 x4 x5 hl0 hl1
    obtain ⟨p0, p1, p2, p3, x0, x1, x2, x3, x4, x5, hl1, hl0⟩ := A4.out.cells
    dsimp only at x0 x1 x2 x3 x4 x5
  case' false =>
    have h6i : decide ((args.length : Int) ≤ 6) = false := by rw [← h6]; rw [decide_eq_decide]; omega
    clear HRA
    go_wp2_with fail
    rw [← HW2.out]
    have hc2 := blocks_any p (.slice ab p.blocks.length cb) ⟨_, _, rfl⟩ (.slice (some ⟨w2.heap.size, 0, none⟩) 1 1) [next] (w2.alloc (.cells #[.int .i64 next] 3)) (sl_one' next _) (by simp)
    rw [HS2.out] at hc2
    rw [HHNX.out] at hc2
    have HC2 := Lib.hid hc2
    unfold procV at HC2
    clear hc2
    go_wp2_with fail
    with_reducible refine HC2.out.mono ?_
    rintro e w4 ⟨rfl, hb2⟩
    have A4 := Lib.hid (A2.out.more (below_alloc hb2))
    clear hb2 p0 p1 p2 p3 x0 x1 x2 x3 x4 x5 hl0 hl1
    obtain ⟨p0, p1, p2, p3, x0, x1, x2, x3, x4, x5, hl1, hl0⟩ := A4.out.cells
    dsimp only at x0 x1 x2 x3 x4 x5
  all_goals
    have hc4 := regs_any p (.slice ab p.blocks.length cb) ⟨_, _, _, rfl⟩ (.slice (some ⟨w4.heap.size, 0, none⟩) 2 2) [reg, xt] (w4.alloc (.cells #[.int .i64 reg, .int .i64 xt] 3)) (sl_two' reg xt _) (by simp)
    rw [HHRR.out] at hc4
    have HC4 := Lib.hid hc4
    unfold procV at HC4
    clear hc4
    go_wp2_with fail
    with_reducible refine HC4.out.mono ?_
    rintro e w5 ⟨rfl, hb4⟩
    have A5 := Lib.hid (A4.out.more (below_alloc hb4))
    clear hb4 p0 p1 p2 p3 x0 x1 x2 x3 x4 x5 hl0 hl1
    obtain ⟨p0, p1, p2, p3, x0, x1, x2, x3, x4, x5, hl1, hl0⟩ := A5.out.cells
    dsimp only at x0 x1 x2 x3 x4 x5
    cases rr
    · go_wp2_with fail
      go_ret
      rw [HE.out]
      exact ⟨by first | rfl | (simp [h6]; done) | (simp; done), A5.out.below⟩
    · cases ba
      · go_wp2_with fail
        go_ret
        rw [HE.out]
        exact ⟨by first | rfl | (simp [h6]; done) | (simp; done), A5.out.below⟩
      · cases nx
        · go_wp2_with fail
          go_ret
          rw [HE.out]
          exact ⟨by first | rfl | (simp [h6]; done) | (simp; done), A5.out.below⟩
        · go_wp2_with fail
          go_ret
          rw [HE.out]
          exact ⟨by first | rfl | (simp [h6]; done) | (simp; done), A5.out.below⟩
set_option maxHeartbeats 16000000 in
theorem endc_no (I : EndC w p bv x lv) (hk0 : (x.kind == 0) = false) (hk1 : (x.kind == 1) = false) (hk2 : (x.kind == 2) = false) (hk3 : (x.kind == 3) = false) (hk4 : (x.kind == 4) = false) (hk5 : (x.kind == 5) = false) (hk6 : (x.kind == 6) = false) (hE : finB p x = false) :
    Calls Try.prog 29 #[procV p bv, finV x lv] w fun e w' => e = .returned (.bool (finB p x)) ∧ Below w.heap.size w w' := by
  obtain ⟨w2, hw2, A, hs2⟩ := EndB.of w p bv x lv
  have HS2 := Lib.hid hs2
  clear hs2
  obtain ⟨ab, cb, rfl⟩ := I.bvl
  obtain ⟨al, cl, hlv⟩ := I.args.len
  subst hlv
  have hil : (ints x.args).length = x.args.length := by simp [ints]
  have hargs := I.args
  rw [hil] at hargs A hw2 ⊢
  have HI := Lib.hid I
  have A2 := Lib.hid A
  have HW2 := Lib.hid hw2
  have HARGS := Lib.hid hargs
  have HE := Lib.hid hE
  clear I A hw2 hargs hE
  obtain ⟨kind, reg, args, xt, next, els⟩ := x
  dsimp only at *
  unfold procV finV
  dsimp only
  obtain ⟨p0, p1, p2, p3, x0, x1, x2, x3, x4, x5, hl1, hl0⟩ := A2.out.cells
  dsimp only at x0 x1 x2 x3 x4 x5
  have hra0 := regs_any p (.slice ab p.blocks.length cb) ⟨_, _, _, rfl⟩ (.slice al args.length cl) args w2 (HARGS.out.below A2.out.below (Nat.le_refl _)) HI.out.few
  have HRA := Lib.hid hra0
  unfold procV at HRA
  clear hra0
  go_enter Try.func29, Try.ntmps29
  cases h6 : decide (args.length ≤ 6)
  case' true =>
    have h6i : decide ((args.length : Int) ≤ 6) = true := by rw [← h6]; rw [decide_eq_decide]; omega
    go_wp2_with fail
    rw [← HW2.out]
    with_reducible refine HRA.out.mono ?_
    rintro e w3 ⟨rfl, hb2⟩
    have A3 := Lib.hid (A2.out.more hb2)
    clear hb2 HRA p0 p1 p2 p3 x0 x1 x2 x3 x4 x5 hl0 hl1
    obtain ⟨p0, p1, p2, p3, x0, x1, x2, x3, x4, x5, hl1, hl0⟩ := A3.out.cells
    dsimp only at x0 x1 x2 x3 x4 x5
    have hc3 := blocks_any p (.slice ab p.blocks.length cb) ⟨_, _, rfl⟩ (.slice (some ⟨w3.heap.size, 0, none⟩) 1 1) [next] (w3.alloc (.cells #[.int .i64 next] 3)) (sl_one' next _) (by simp)
    have HC3 := Lib.hid hc3
    unfold procV at HC3
    clear hc3
    go_wp2_with fail
    with_reducible refine HC3.out.mono ?_
    rintro e w4 ⟨rfl, hb3⟩
    have A4 := Lib.hid (A3.out.more (below_alloc hb3))
    clear hb3 p0 p1 p2 p3 x0 x1 x2 x3 x4 x5 hl0 hl1
    obtain ⟨p0, p1, p2, p3, x0, x1, x2, x3, x4, x5, hl1, hl0⟩ := A4.out.cells
    dsimp only at x0 x1 x2 x3 x4 x5
  case' false =>
    have h6i : decide ((args.length : Int) ≤ 6) = false := by rw [← h6]; rw [decide_eq_decide]; omega
    clear HRA
    go_wp2_with fail
    rw [← HW2.out]
    have hc2 := blocks_any p (.slice ab p.blocks.length cb) ⟨_, _, rfl⟩ (.slice (some ⟨w2.heap.size, 0, none⟩) 1 1) [next] (w2.alloc (.cells #[.int .i64 next] 3)) (sl_one' next _) (by simp)
    rw [HS2.out] at hc2
    have HC2 := Lib.hid hc2
    unfold procV at HC2
    clear hc2
    go_wp2_with fail
    with_reducible refine HC2.out.mono ?_
    rintro e w4 ⟨rfl, hb2⟩
    have A4 := Lib.hid (A2.out.more (below_alloc hb2))
    clear hb2 p0 p1 p2 p3 x0 x1 x2 x3 x4 x5 hl0 hl1
    obtain ⟨p0, p1, p2, p3, x0, x1, x2, x3, x4, x5, hl1, hl0⟩ := A4.out.cells
    dsimp only at x0 x1 x2 x3 x4 x5
  all_goals
    go_wp2_with fail
    go_ret
    rw [HE.out]
    exact ⟨by first | rfl | (simp [h6]; done) | (simp; done), A4.out.below⟩
theorem endc_any (I : EndC w p bv x lv) : Calls Try.prog 29 #[procV p bv, finV x lv] w fun e w' => e = .returned (.bool (finB p x)) ∧ Below w.heap.size w w' := by
  by_cases k0 : x.kind = 0
  · exact endc_0 I k0 rfl rfl rfl rfl rfl (by unfold finB; rw [if_pos k0, len_dec, all1]; rfl)
  by_cases k1 : x.kind = 1
  · exact endc_1 I k1 rfl rfl rfl rfl rfl (by unfold finB; rw [if_neg k0, if_pos k1, len_dec, all1, all1]; rfl)
  by_cases k25 : x.kind = 2 ∨ x.kind = 5
  · rcases k25 with k2 | k2
    · exact endc_2 I k2 rfl rfl rfl rfl rfl (by unfold finB; rw [if_neg k0, if_neg k1, if_pos (.inl k2), len_dec]; rfl)
    · exact endc_5 I k2 rfl rfl rfl rfl rfl (by unfold finB; rw [if_neg k0, if_neg k1, if_pos (.inr k2), len_dec]; rfl)
  by_cases k3 : x.kind = 3
  · exact endc_3 I k3 rfl rfl rfl rfl rfl (by unfold finB; rw [if_neg k0, if_neg k1, if_neg k25, if_pos k3]; rfl)
  by_cases k4 : x.kind = 4
  · exact endc_4 I k4 rfl rfl rfl rfl (by unfold finB; rw [if_neg k0, if_neg k1, if_neg k25, if_neg k3, if_pos k4, all1]; rfl)
  by_cases k6 : x.kind = 6
  · exact endc_6 I k6 rfl rfl rfl rfl (by unfold finB; rw [if_neg k0, if_neg k1, if_neg k25, if_neg k3, if_neg k4, if_pos k6, len_dec, all1]; rfl)
  have k2 : x.kind ≠ 2 := fun e => k25 (.inl e)
  have k5 : x.kind ≠ 5 := fun e => k25 (.inr e)
  exact endc_no I (beq_eq_false_iff_ne.2 k0) (beq_eq_false_iff_ne.2 k1) (beq_eq_false_iff_ne.2 k2) (beq_eq_false_iff_ne.2 k3) (beq_eq_false_iff_ne.2 k4) (beq_eq_false_iff_ne.2 k5) (beq_eq_false_iff_ne.2 k6) (by unfold finB; rw [if_neg k0, if_neg k1, if_neg k25, if_neg k3, if_neg k4, if_neg k6])
end
end Vm
end Go.Proofs.Ytalfnaielhbocaa
namespace Go.Proofs.Ytalfnaielhbocaa
open Go.RowKit
set_option linter.unusedVariables false
set_option linter.unusedSimpArgs false
set_option maxRecDepth 100000
namespace Vm
structure BlkFit (b : Blk) : Prop where
  ins : b.ins.length ≤ 1000000000000000
  args : b.fin.args.length ≤ 9223372036854775807
  each : ∀ x ∈ b.ins, x.args.length ≤ 9223372036854775807 ∧ Dt.Fit x.const
structure PrcFit (p : Prc) : Prop where
  blocks : p.blocks.length ≤ 9223372036854775807
  each : ∀ b ∈ p.blocks, BlkFit b
theorem all_take {α : Type} {f : α → Bool} {l : List α} {k : Nat} {x : α} (h : (l.take k).all f = true) (hx : l[k]? = some x) (hf : f x = true) : (l.take (k + 1)).all f = true := by
  rw [List.take_add_one, hx, List.all_append, h]
  simp [hf]
theorem all_false {α : Type} {f : α → Bool} {l : List α} {k : Nat} {x : α} (hx : l[k]? = some x) (hf : f x = false) : l.all f = false := by
  rw [List.all_eq_false]
  exact ⟨x, List.mem_of_getElem? hx, by rw [hf]; decide⟩
def headB (p : Prc) : Bool := decide (0 ≤ p.params) && decide (p.params ≤ 6) && decide (0 ≤ p.holds) && decide (p.holds ≤ 1000) && decide (p.params ≤ p.regs) && decide (0 < p.blocks.length)
theorem prcB_eq (c : Code) (p : Prc) : prcB c p = (headB p && p.blocks.all (blkB c p)) := rfl
section
variable {w : World} {c : Code} {p : Prc}
set_option maxHeartbeats 4000000 in
theorem proc_head (acv : Option Addr) (ncv : Nat) (ab : Option Addr) (cb : Nat) (hh : headB p = false) :
    Calls Try.prog 18 #[.agg #[.slice acv c.length ncv], procV p (.slice ab p.blocks.length cb)] w fun e w' => e = .returned (.bool false) ∧ Below w.heap.size w w' := by
  have HW : Hid (Below w.heap.size w ((w.alloc (.cells #[.slice acv c.length ncv] 24)).alloc (.cells #[.int .i64 p.params, .int .i64 p.holds, .int .i64 p.regs, .slice ab p.blocks.length cb] 40))) := ((Below.refl _ _).alloc (Nat.le_refl _) _).alloc (by simp) _
  have hcase : (decide (p.params < 0) = true) ∨ (decide (p.params < 0) = false ∧ decide (6 < p.params) = true) ∨ (decide (p.params < 0) = false ∧ decide (6 < p.params) = false ∧ decide (p.holds < 0) = true) ∨ (decide (p.params < 0) = false ∧ decide (6 < p.params) = false ∧ decide (p.holds < 0) = false ∧ decide (1000 < p.holds) = true) ∨
      (decide (p.params < 0) = false ∧ decide (6 < p.params) = false ∧ decide (p.holds < 0) = false ∧ decide (1000 < p.holds) = false ∧ decide (p.regs < p.params) = true) ∨ (decide (p.params < 0) = false ∧ decide (6 < p.params) = false ∧ decide (p.holds < 0) = false ∧ decide (1000 < p.holds) = false ∧ decide (p.regs < p.params) = false ∧ ((p.blocks.length : Int) == 0) = true) := by
    unfold headB at hh
    simp only [Bool.and_eq_false_iff, decide_eq_false_iff_not] at hh
    simp only [decide_eq_true_eq, decide_eq_false_iff_not, beq_iff_eq]
    omega
  clear hh
  unfold procV
  rcases hcase with g1 | ⟨g1, g2⟩ | ⟨g1, g2, g3⟩ | ⟨g1, g2, g3, g4⟩ | ⟨g1, g2, g3, g4, g5⟩ | ⟨g1, g2, g3, g4, g5, g6⟩
  all_goals
    go_enter Try.func18, Try.ntmps18
    go_wp2_with fail
    go_ret
    exact ⟨rfl, HW.out⟩
end
end Vm
end Go.Proofs.Ytalfnaielhbocaa
namespace Go.Proofs.Ytalfnaielhbocaa
open Go.RowKit
set_option linter.unusedVariables false
set_option linter.unusedSimpArgs false
set_option maxRecDepth 100000
namespace Vm
section
variable {w : World} {c : Code} {p : Prc}
structure PrM (w wx : World) (cv : Value) (p : Prc) (bv : Value) : Prop where
  below : Below w.heap.size w wx
  size : w.heap.size + 1 + 1 ≤ wx.heap.size
  b0 : wx.cell? ⟨w.heap.size, 0, none⟩ = some cv
  p0 : wx.cell? ⟨w.heap.size + 1, 0, none⟩ = some (.int .i64 p.params)
  p1 : wx.cell? ⟨w.heap.size + 1, 1, none⟩ = some (.int .i64 p.holds)
  p2 : wx.cell? ⟨w.heap.size + 1, 2, none⟩ = some (.int .i64 p.regs)
  p3 : wx.cell? ⟨w.heap.size + 1, 3, none⟩ = some bv
theorem PrM.bel {w wx wy : World} {cv bv : Value} {p : Prc} (h : PrM w wx cv p bv) (hb : Below wx.heap.size wx wy) : PrM w wy cv p bv :=
  ⟨h.below.trans (hb.mono h.below.size), Nat.le_trans h.size hb.size, (cell_bel hb (by have := h.size; omega)).trans h.b0, (cell_bel hb (by have := h.size; omega)).trans h.p0, (cell_bel hb (by have := h.size; omega)).trans h.p1,
    (cell_bel hb (by have := h.size; omega)).trans h.p2, (cell_bel hb (by have := h.size; omega)).trans h.p3⟩
theorem PrM.of (w : World) (cv : Value) (p : Prc) (bv : Value) : ∃ w1, w1 = (w.alloc (.cells #[cv] 24)).alloc (.cells #[.int .i64 p.params, .int .i64 p.holds, .int .i64 p.regs, bv] 40) ∧ PrM w w1 cv p bv := by
  refine ⟨_, rfl, ((Below.refl _ _).alloc (Nat.le_refl _) _).alloc (by simp) _, by simp, ?_, ?_, ?_, ?_, ?_⟩
  · exact cell_of_row _ _ 0 _ _ _ ((heap_alloc_old _ _ (by simp)).trans (heap_new rfl))
  · exact cell_of_row _ _ 0 _ _ _ (heap_new (by simp))
  · exact cell_of_row _ _ 1 _ _ _ (heap_new (by simp))
  · exact cell_of_row _ _ 2 _ _ _ (heap_new (by simp))
  · exact cell_of_row _ _ 3 _ _ _ (heap_new (by simp))
set_option maxHeartbeats 8000000 in
theorem proc_body (acv : Option Addr) (ncv : Nat) (ab : Option Addr) (cb : Nat) (hcode : CodeAt w (.slice acv c.length ncv) c) (hrow : Row w (.slice ab p.blocks.length cb) 7 p.blocks (BlkC w)) (hfit : PrcFit p) (hh : headB p = true) :
    Calls Try.prog 18 #[.agg #[.slice acv c.length ncv], procV p (.slice ab p.blocks.length cb)] w fun e w' => e = .returned (.bool (prcB c p)) ∧ Below w.heap.size w w' := by
  obtain ⟨w1, hw1, hM⟩ := PrM.of w (.slice acv c.length ncv) p (.slice ab p.blocks.length cb)
  have HW1 := Lib.hid hw1
  have HM := Lib.hid hM
  have HROW := Lib.hid hrow
  have HCODE := Lib.hid hcode
  have HFIT := Lib.hid hfit
  have HE := Lib.hid (prcB_eq c p)
  have g1 : decide (p.params < 0) = false := by unfold headB at hh; simp at hh ⊢; omega
  have g2 : decide (6 < p.params) = false := by unfold headB at hh; simp at hh ⊢; omega
  have g3 : decide (p.holds < 0) = false := by unfold headB at hh; simp at hh ⊢; omega
  have g4 : decide (1000 < p.holds) = false := by unfold headB at hh; simp at hh ⊢; omega
  have g5 : decide (p.regs < p.params) = false := by unfold headB at hh; simp at hh ⊢; omega
  have g6 : ((p.blocks.length : Int) == 0) = false := by
    unfold headB at hh
    simp only [Bool.and_eq_true, decide_eq_true_eq] at hh
    rw [beq_eq_false_iff_ne]
    omega
  have HH := Lib.hid hh
  have hbm := hfit.blocks
  have HBM := Lib.hid hbm
  clear hw1 hM hrow hcode hfit hh hbm
  unfold procV
  go_enter Try.func18, Try.ntmps18
  go_wp2_with fail
  rw [← HW1.out]
  go_loopg [6, 43] p.blocks.length (fun gk s6 s43 wx => ∃ k : Nat, k ≤ p.blocks.length ∧ gk = p.blocks.length - k ∧ s43 = .int .i64 k ∧ Hid (PrM w wx (.slice acv c.length ncv) p (.slice ab p.blocks.length cb)) ∧ Hid ((p.blocks.take k).all (blkB c p) = true))
  case atStart => exact ⟨0, Nat.zero_le _, rfl, rfl, HM.out, rfl⟩
  case round =>
    obtain ⟨k, hk, rfl, rfl, HB, HA⟩ := hrel
    have hbw := HB.out.below
    by_cases hlt : k < p.blocks.length
    · obtain ⟨b, hb⟩ : ∃ b, p.blocks[k]? = some b := ⟨_, List.getElem?_eq_getElem hlt⟩
      obtain ⟨_, bb, bo, rfl, hbb, hBC⟩ := HROW.out.at hb
      obtain ⟨⟨iv, i0, hIR⟩, i1, i2, ⟨av, i3, hSA⟩, i4, i5, i6⟩ := hBC
      obtain ⟨ai, capi, hiv⟩ := hIR.len
      subst hiv
      obtain ⟨aa, ca, rfl⟩ := hSA.len
      rw [← cell_bel hbw hbb] at i0 i1 i2 i3 i4 i5 i6
      have hbbw : bb < wr.heap.size := Nat.lt_of_lt_of_le hbb hbw.size
      have hg1 : (0 : Int) ≤ k := by omega
      have hg2 : (k : Int) < p.blocks.length := by omega
      have hgk : IntKind.i64.wrap ((k : Int) + 1) = k + 1 := by have := HBM.out; rw [IntKind.wrap_i64]; omega
      obtain ⟨w2, B⟩ := boxed wr #[.slice ai b.ins.length capi, .int .i64 b.fin.kind, .int .i64 b.fin.reg, .slice aa (ints b.fin.args).length ca, .int .i64 b.fin.to, .int .i64 b.fin.next, .int .i64 b.fin.els] 48
      have HB2 := Lib.hid (HB.out.bel B.below)
      have hbx := B.blk
      have HBX := Lib.hid hbx
      have hs2 := B.size
      have hbx0 := cell_of_row w2 wr.heap.size 0 _ _ _ hbx
      simp only [List.getElem?_toArray, List.getElem?_cons_zero] at hbx0
      have hq2 : wr.heap.size < w2.heap.size := by omega
      have HBQ := Lib.hid B
      have HIR := Lib.hid hIR
      have HSA := Lib.hid hSA
      have HBK := Lib.hid hb
      have hfb := HFIT.out.each b (List.mem_of_getElem? hb)
      have HFB := Lib.hid hfb
      have hil := hfb.ins
      have HIL := Lib.hid hil
      have hwl := HB.out.size
      obtain ⟨q, hq⟩ : ∃ q, q = wr.heap.size := ⟨_, rfl⟩
      rw [← hq] at HBX hq2 hs2 hwl hbx0
      have HQ := Lib.hid hq
      clear hbx B hIR hSA hb hfb hil hq
      go_wp2_with fail
      rw [← HBQ.out.eq, ← HQ.out]
      go_loopg [8, 50] b.ins.length (fun gj s8 s50 wx => ∃ j : Nat, j ≤ b.ins.length ∧ gj = b.ins.length - j ∧ s50 = .int .i64 j ∧ Hid (Below w2.heap.size w2 wx) ∧ Hid ((b.ins.take j).all (insB c p) = true))
      case atStart => exact ⟨0, Nat.zero_le _, rfl, rfl, Below.refl _ _, rfl⟩
      case round =>
        obtain ⟨j, hj, rfl, rfl, HC, HD⟩ := hrel
        have hcw := HC.out.size
        by_cases hltj : j < b.ins.length
        · obtain ⟨x, hx⟩ : ∃ x, b.ins[j]? = some x := ⟨_, List.getElem?_eq_getElem hltj⟩
          obtain ⟨_, ib, io, rfl, hib, hIC⟩ := HIR.out.at hx
          obtain ⟨x0, x1, ⟨lv, x2, hSL⟩, x3, x4, x5, ⟨dl, x6, hDT⟩, x7⟩ := hIC
          obtain ⟨al, cl, rfl⟩ := hSL.len
          obtain ⟨da, dc, hdl, hdnil⟩ := hDT.inv
          have hdl2 : dl = .slice da x.const.list.length dc := by simpa using hdl
          subst hdl2
          clear hdl hdnil
          have HBr := HB2.out.bel HC.out
          rw [← cell_bel HBr.below hib] at x0 x1 x2 x3 x4 x5 x6 x7
          have hibw : ib < wr.heap.size := Nat.lt_of_lt_of_le hib HBr.below.size
          have hh1 : (0 : Int) ≤ j := by omega
          have hh2 : (j : Int) < b.ins.length := by omega
          have hjk : IntKind.i64.wrap ((j : Int) + 1) = j + 1 := by have := HIL.out; rw [IntKind.wrap_i64]; omega
          obtain ⟨w3, B3⟩ := boxed wr #[.string x.op, .int .i64 x.to, .slice al (ints x.args).length cl, .int .i64 x.const.kind, .int .i64 x.const.int, .string x.const.text, .slice da x.const.list.length dc, .int .i64 x.num] 55
          have hs3 := B3.size
          have hr3 : wr.heap.size < w3.heap.size := by omega
          have HB3 := HBr.bel B3.below
          have hb3 := HB3.below
          have y0 := HBr.b0
          have y1 := HBr.p0
          have y2 := HBr.p1
          have y3 := HBr.p2
          have y4 := HBr.p3
          have hy := HBr.size
          have hy1 : w.heap.size < wr.heap.size := by omega
          have hy2 : w.heap.size + 1 < wr.heap.size := by omega
          have HMR := Lib.hid HB3
          have HBX3 := Lib.hid B3
          have HINS := Lib.hid (ins_any (w := w3) (cv := .slice acv c.length ncv) (c := c) (p := p) (bv := .slice (some ⟨bb, bo, none⟩) p.blocks.length cb) (x := x) (lv := .slice al (ints x.args).length cl) (dl := .slice da x.const.list.length dc)
            ⟨⟨acv, ncv, rfl⟩, HCODE.out.bel hb3, ⟨_, cb, rfl⟩, hSL.below hb3 (Nat.le_refl _), (HFB.out.each x (List.mem_of_getElem? hx)).1, hDT.bel hb3 (Nat.le_refl _), (HFB.out.each x (List.mem_of_getElem? hx)).2⟩)
          unfold procV insV at HINS
          have HCW := Lib.hid (HC.out.trans (B3.below.mono hcw))
          have hB3 := Lib.hid hb3
          have HXJ := Lib.hid hx
          clear hSL hDT B3 HBr HB3 hx hb3
          go_wp2_with fail
          rw [← HBX3.out.eq]
          with_reducible refine HINS.out.mono ?_
          rintro e w4 ⟨rfl, hb4⟩
          have hb4' := hB3.out.trans (hb4.mono hB3.out.size)
          have hc4' := HCW.out.trans (hb4.mono HCW.out.size)
          have HB4 := Lib.hid hb4'
          have HC4 := Lib.hid hc4'
          clear hb4 hb4' hc4'
          cases hI : insB c p x with
          | false =>
            have hall : prcB c p = false := by
              rw [HE.out, all_false HBK.out (by unfold blkB; rw [all_false HXJ.out hI]; rfl), Bool.and_false]
            have HALL := Lib.hid hall
            clear hall
            go_wp2_with fail
            go_ret
            exact ⟨by rw [HALL.out]; rfl, HB4.out⟩
          | true =>
            have HI := Lib.hid hI
            clear hI
            go_wp2_with fail
            go_roundg (b.ins.length - (j + 1))
            case measure => omega
            case rel => exact ⟨j + 1, by omega, rfl, by go_num, HC4.out, all_take HD.out HXJ.out HI.out⟩
        · obtain rfl : j = b.ins.length := by omega
          have HBr := HB2.out.bel HC.out
          have hbox := (HC.out.block q (by omega)).trans HBX.out
          have z1 := cell_of_row wr q 1 _ _ _ hbox
          have z2 := cell_of_row wr q 2 _ _ _ hbox
          have z3 := cell_of_row wr q 3 _ _ _ hbox
          have z4 := cell_of_row wr q 4 _ _ _ hbox
          have z5 := cell_of_row wr q 5 _ _ _ hbox
          have z6 := cell_of_row wr q 6 _ _ _ hbox
          simp only [List.getElem?_toArray, List.getElem?_cons_zero, List.getElem?_cons_succ] at z1 z2 z3 z4 z5 z6
          have y1 := HBr.p0
          have y2 := HBr.p1
          have y3 := HBr.p2
          have y4 := HBr.p3
          have hy := HBr.size
          have hy1 : w.heap.size < wr.heap.size := by omega
          have hy2 : w.heap.size + 1 < wr.heap.size := by omega
          have hqr : q < wr.heap.size := by omega
          have hbr := HBr.below
          have HEND := Lib.hid (endc_any (w := wr) (p := p) (bv := .slice (some ⟨bb, bo, none⟩) p.blocks.length cb) (x := b.fin) (lv := .slice aa (ints b.fin.args).length ca) ⟨⟨_, cb, rfl⟩, HSA.out.below hbr (Nat.le_refl _), HFB.out.args⟩)
          unfold procV finV at HEND
          have hallj := HD.out
          rw [List.take_length] at hallj
          have HALLJ := Lib.hid hallj
          have HMR := Lib.hid HBr
          clear hbox HBr hbr hallj
          go_wp2_with fail
          with_reducible refine HEND.out.mono ?_
          rintro e w4 ⟨rfl, hb4⟩
          have HM4 := Lib.hid (HMR.out.bel hb4)
          clear hb4
          cases hF : finB p b.fin with
          | false =>
            have hall : prcB c p = false := by
              rw [HE.out, all_false HBK.out (by unfold blkB; rw [hF, Bool.and_false]), Bool.and_false]
            have HALL := Lib.hid hall
            clear hall
            go_wp2_with fail
            go_ret
            exact ⟨by rw [HALL.out]; rfl, HM4.out.below⟩
          | true =>
            have HF := Lib.hid hF
            clear hF
            go_wp2_with fail
            go_roundg (p.blocks.length - (k + 1))
            case measure => omega
            case rel => exact ⟨k + 1, by omega, rfl, by go_num, HM4.out, all_take HA.out HBK.out (by unfold blkB; rw [HALLJ.out, HF.out]; rfl)⟩
    · obtain rfl : k = p.blocks.length := by omega
      have h := HA.out
      rw [List.take_length] at h
      have HF := Lib.hid h
      have HW := Lib.hid hbw
      clear h hbw
      go_wp2_with fail
      go_ret
      refine ⟨?_, HW.out⟩
      rw [HE.out, HH.out, HF.out]
      rfl
theorem proc_any (acv : Option Addr) (ncv : Nat) (ab : Option Addr) (cb : Nat) (hcode : CodeAt w (.slice acv c.length ncv) c) (hrow : Row w (.slice ab p.blocks.length cb) 7 p.blocks (BlkC w)) (hfit : PrcFit p) :
    Calls Try.prog 18 #[.agg #[.slice acv c.length ncv], procV p (.slice ab p.blocks.length cb)] w fun e w' => e = .returned (.bool (prcB c p)) ∧ Below w.heap.size w w' := by
  cases hh : headB p with
  | true => exact proc_body acv ncv ab cb hcode hrow hfit hh
  | false =>
    rw [show prcB c p = false by rw [prcB_eq, hh]; rfl]
    exact proc_head acv ncv ab cb hh
end
end Vm
end Go.Proofs.Ytalfnaielhbocaa
namespace Go.Proofs.Ytalfnaielhbocaa
open Go.RowKit
set_option linter.unusedVariables false
set_option linter.unusedSimpArgs false
set_option maxRecDepth 100000
namespace Vm
section
variable {w0 w w' : World} {ρ ρ' : Nat → Nat} {H : Nat → Value} {m hb mb : Nat} {T : List Hp.Th} {C : List Cl} {out : List UInt8} {regs : List Hp.V} {frs : List Fr} {ov rv fv cv : Value} {cbs : List Nat} {s : St} {left steps : Nat}
theorem VmO.tie {i : Nat} {k : Cl} {g n cap : Nat} (h : VmO w0 w ρ H m cv s left steps hb mb ov rv fv cbs) (hi : s.cls[i]? = some k) (hH : H k.key = .slice (some ⟨g, 0, none⟩) n cap) (j : Nat) (hj : j < k.held.length) (v : Hp.V) :
    VmO w0 (((w.setCell ⟨g, j * 3, none⟩ (.int .i64 v.kind)).setCell ⟨g, j * 3 + 1, none⟩ (.int .i64 v.int)).setCell ⟨g, j * 3 + 2, none⟩ (.string v.text)) ρ H m cv { s with cls := tied s.cls k.key j v } left steps hb mb ov rv fv cbs := by
  have hil : i < cbs.length := by rw [h.c.len]; exact (List.getElem?_eq_some_iff.1 hi).1
  have hk := h.c.cls i k _ hi (List.getElem?_eq_getElem hil)
  have hg7 : ρ g = 7 + k.key := hk.rr g (by rw [hH]; rfl)
  have hne : m ≠ g := fun e => by have := h.c.me; rw [e, hg7] at this; omega
  refine ⟨h.c.tie hi hH j hj v, ?_⟩
  rw [heap_setCell_other _ _ _ _ hne, heap_setCell_other _ _ _ _ hne, heap_setCell_other _ _ _ _ hne]
  exact h.blk
set_option maxHeartbeats 4000000 in
theorem do_tie {x : Ins} {lv dl : Value} (I : DoIn w0 w ρ H m cv s left steps hb mb ov rv fv cbs x lv dl) (hop : x.op = sTie) (hlen : x.args.length = 2) (hn : 0 ≤ x.num) :
    Calls Try.prog 38 #[.pointer (some ⟨m, 0, none⟩), insV x lv dl] w (StepPost w0 w ρ m cv (doI s x) left steps) := by
  obtain ⟨w1, B⟩ := boxed w #[.string x.op, .int .i64 x.to, lv, .int .i64 x.const.kind, .int .i64 x.const.int, .string x.const.text, dl, .int .i64 x.num] 55
  have HV := Lib.hid (I.vals B.below)
  have hE : doI s x = (match find s.cls ((vals s.regs x.args).getD 0 Hp.none) with
    | none => { s with e := 80 }
    | some k => if (k.held.length : Int) ≤ x.num then { s with e := 80 } else { s with cls := tied s.cls k.key x.num.toNat ((vals s.regs x.args).getD 1 Hp.none) }) := by unfold doI; rw [if_neg (by rw [hop]; decide), if_neg (by rw [hop]; decide), if_neg (by rw [hop]; decide), if_neg (by rw [hop]; decide), if_pos hop]; rfl
  have HE := Lib.hid hE
  have HI := Lib.hid I
  have HB := Lib.hid B
  obtain ⟨al, cl, rfl⟩ := I.args.len
  obtain ⟨da, dc, rfl⟩ := I.dat
  obtain ⟨op, xt, args, const, num⟩ := x
  dsimp only at hop hlen hn
  subst hop
  obtain ⟨n, rfl⟩ : ∃ n : Nat, num = n := ⟨num.toNat, by omega⟩
  have hm := I.at'.lt
  clear I B hE
  unfold insV
  dsimp only
  unfold sTie at *
  go_enter Try.func38, Try.ntmps38
  go_wp2_with fail
  rw [← HB.out.eq]
  with_reducible refine HV.out.mono ?_
  rintro e w2 ⟨a2, c2, rfl, hown2, hb2⟩
  have D := DoAt.of HI.out HB.out hown2 hb2
  clear hown2 hb2
  try dsimp only at D
  have q0 := cell_of_row w2 w.heap.size 0 _ _ _ D.box
  have q7 := cell_of_row w2 w.heap.size 7 _ _ _ D.box
  simp only [List.getElem?_toArray, List.getElem?_cons_zero, List.getElem?_cons_succ] at q0 q7
  have hq2 : w.heap.size < w2.heap.size := (Array.getElem?_eq_some_iff.1 D.box).1
  have hm2 := D.at'.lt
  obtain ⟨v, hv⟩ : ∃ v, (vals s.regs args)[0]? = some v := ⟨_, List.getElem?_eq_getElem (by rw [vals_length]; omega)⟩
  obtain ⟨u, hu⟩ : ∃ u, (vals s.regs args)[1]? = some u := ⟨_, List.getElem?_eq_getElem (by rw [vals_length]; omega)⟩
  have hrow := D.row
  rw [← vals_length s.regs args] at hrow
  obtain ⟨ga, ca, ea, hga, hgal, a0, a1, a2', _⟩ := own_part hrow rfl hv
  cases ea
  have hV0 : (vals s.regs args).getD 0 Hp.none = v := by rw [List.getD_eq_getElem?_getD, hv]; rfl
  have hU0 : (vals s.regs args).getD 1 Hp.none = u := by rw [List.getD_eq_getElem?_getD, hu]; rfl
  have HC := Lib.hid (closure_any D.at' v)
  have hE2 := HE.out
  try dsimp only at hE2
  rw [hV0, hU0] at hE2
  have HE2 := Lib.hid hE2
  rw [vals_length]
  have HD := Lib.hid D
  have HROW := Lib.hid hrow
  have HU := Lib.hid hu
  clear D hrow hv hu hE2 HE
  unfold Hp.V.val at HC
  rw [hlen]
  go_wp2_with fail
  with_reducible refine HC.out.mono ?_
  rintro e w3 ⟨⟨rr, rfl, hcr⟩, hb3⟩
  have hX := HD.out.at'.bel hb3
  have hqb := (hb3.block w.heap.size hq2).trans HD.out.box
  have t7 := cell_of_row w3 w.heap.size 7 _ _ _ hqb
  simp only [List.getElem?_toArray, List.getElem?_cons_zero, List.getElem?_cons_succ] at t7
  have c10 : w3.cell? ⟨m, 10, none⟩ = some (.int .i64 s.e) := hX.cell 10
  have f10 := hX.fz 10
  have hm3 := hX.lt
  have hq3 : w.heap.size < w3.heap.size := Nat.lt_of_lt_of_le hq2 hb3.size
  have hkp : ∀ b, b < w.heap.size → ρ b = 0 → ρ b = 0 ∧ w3.heap[b]? = w.heap[b]? := fun b h1 h2 => ⟨h2, (hb3.block b (Nat.lt_of_lt_of_le h1 HD.out.below.size)).trans (HD.out.below.block b h1)⟩
  have HKP := Lib.hid hkp
  have hwle : w.heap.size ≤ w3.heap.size := by omega
  have herr : ∀ n', StepPost w0 w ρ m cv { s with e := 80 } left steps (.returned (.tuple #[])) ((w3.setCell ⟨m, 10, none⟩ (.int .i64 80)).drewN n') := fun n' => by
    refine ⟨rfl, ⟨ρ, H, hb, mb, ov, rv, fv, cbs, (hX.set 10 (.int .i64 80) (s' := { s with e := 80 }) (left' := left) (steps' := steps) rfl rfl rfl rfl rfl rfl).drew n', fun b h1 h2 => ⟨h2, ?_⟩⟩, ?_⟩
    · show (w3.setCell ⟨m, 10, none⟩ (.int .i64 80)).heap[b]? = _
      rw [heap_setCell_other _ _ _ _ (fun e => by rw [e, hX.c.me] at h2; cases h2)]
      exact (hkp b h1 h2).2
    · show _ ≤ (w3.setCell ⟨m, 10, none⟩ (.int .i64 80)).heap.size
      simp [World.setCell]
      exact hwle
  have HERR := Lib.hid herr
  have hrow3 := HROW.out.mono (Nat.zero_le _)
  have hrow4 := own_same hrow3 fun b e => hb3.block b (hrow3.lt b e).2
  obtain ⟨ga', ca', ea', hga', hgal', b0, b1, b2, _⟩ := own_part hrow4 rfl HU.out
  cases ea'
  have HX := Lib.hid hX
  have hn0 : (0 : Int) ≤ n := by omega
  clear herr hkp hqb hrow3 hrow4 hX
  cases hfd : find s.cls v with
  | none =>
    rw [hfd] at hcr HE2
    have hcr2 : rr = .pointer none := hcr
    subst hcr2
    clear hcr hfd hb3
    go_wp2_with fail
    go_quiet (fail)
    go_wp2_with fail
    refine bodyPost_ret (results_none rfl _ _ _) rfl ?_
    rw [HE2.out]
    exact HERR.out _
  | some k =>
    rw [hfd] at hcr HE2
    obtain ⟨i, cb, hi, hcb, rfl⟩ := hcr
    have hcl := HX.out.c.cls i k cb hi hcb
    obtain ⟨fvk, hblk, _⟩ := hcl.blk
    obtain ⟨ah, ch, hH⟩ := own_slice hcl.row
    have hcbl : cb < w3.heap.size := (Array.getElem?_eq_some_iff.1 hblk).1
    have k1 := cell_of_row w3 cb 1 _ _ _ hblk
    simp only [List.getElem?_toArray, List.getElem?_cons_zero, List.getElem?_cons_succ] at k1
    rw [hH] at k1
    by_cases hlt : n < k.held.length
    · have g1 : decide (k.held.length ≤ n) = false := decide_eq_false (by omega)
      have g2 : decide ((k.held.length : Int) ≤ n) = false := decide_eq_false (by omega)
      have g3 : (n : Int) < k.held.length := by omega
      obtain ⟨y, hy⟩ : ∃ y, k.held[n]? = some y := ⟨_, List.getElem?_eq_getElem hlt⟩
      have hrowk := hcl.row
      obtain ⟨gh, chh, eh, _, hghl, e0, e1, e2, f0, f1, f2⟩ := own_part hrowk rfl hy
      have hH2 : (Value.slice ah k.held.length ch) = .slice (some ⟨gh, 0, none⟩) k.held.length chh := hH.symm.trans eh
      cases hH2
      have hgr : ρ gh = 7 + k.key := hcl.rr gh (by rw [hH]; rfl)
      have hghm : gh ≠ m := fun e => by have := HX.out.c.me; rw [← e, hgr] at this; omega
      have HT := Lib.hid (HX.out.tie hi hH n hlt u)
      have HS : Hid (doI s ⟨⟨#[116, 105, 101]⟩, xt, args, const, n⟩ = { s with cls := tied s.cls k.key n u }) := by
        unfold Hid
        rw [HE2.out]
        dsimp only
        rw [if_neg (by omega)]
        rfl
      have HG := Lib.hid hgr
      clear hcl hblk hrowk hy eh hH hcb hi hgr hb3 hfd
      go_wp2_with fail
      go_quiet (fail)
      go_wp2_with fail
      go_region
      go_wp2_with fail
      refine bodyPost_end (results_none rfl _ _ _) rfl ?_
      rw [HS.out]
      refine ⟨rfl, ⟨ρ, H, hb, mb, ov, rv, fv, cbs, HT.out.drew _, fun b h1 h2 => ⟨h2, ?_⟩⟩, ?_⟩
      · have hb1 : b ≠ gh := fun e => by rw [e, HG.out] at h2; omega
        show (((w3.setCell ⟨gh, n * 3, none⟩ (.int .i64 u.kind)).setCell ⟨gh, n * 3 + 1, none⟩ (.int .i64 u.int)).setCell ⟨gh, n * 3 + 2, none⟩ (.string u.text)).heap[b]? = _
        rw [heap_setCell_other _ _ _ _ hb1, heap_setCell_other _ _ _ _ hb1, heap_setCell_other _ _ _ _ hb1]
        exact (HKP.out b h1 h2).2
      · show _ ≤ (((w3.setCell ⟨gh, n * 3, none⟩ (.int .i64 u.kind)).setCell ⟨gh, n * 3 + 1, none⟩ (.int .i64 u.int)).setCell ⟨gh, n * 3 + 2, none⟩ (.string u.text)).heap.size
        simp [World.setCell]
        exact hwle
    · have g1 : decide (k.held.length ≤ n) = true := decide_eq_true (by omega)
      have g2 : decide ((k.held.length : Int) ≤ n) = true := decide_eq_true (by omega)
      have HS : Hid (doI s ⟨⟨#[116, 105, 101]⟩, xt, args, const, n⟩ = { s with e := 80 }) := by
        unfold Hid
        rw [HE2.out]
        dsimp only
        rw [if_pos (by omega)]
      clear hcl hblk hH hcb hi hb3 hfd
      go_wp2_with fail
      go_quiet (fail)
      go_wp2_with fail
      refine bodyPost_ret (results_none rfl _ _ _) rfl ?_
      rw [HS.out]
      exact HERR.out _
end
end Vm
end Go.Proofs.Ytalfnaielhbocaa
namespace Go.Proofs.Ytalfnaielhbocaa
open Go.RowKit
set_option linter.unusedVariables false
set_option linter.unusedSimpArgs false
set_option maxRecDepth 100000
namespace Vm
section
variable {w0 w w' : World} {ρ ρ' : Nat → Nat} {H : Nat → Value} {m hb mb : Nat} {T : List Hp.Th} {C : List Cl} {out : List UInt8} {regs : List Hp.V} {frs : List Fr} {ov rv fv cv : Value} {cbs : List Nat} {s : St} {left steps : Nat}
theorem frOk_tell {c : Code} (hc : CodeOk c) {s : St} {C : List Cl} (hC : C = s.cls) (h : ∀ f ∈ s.frs, FrOk c C f) : TellIn s := fun f fs hf => by
  have hfo := h f (by rw [hf]; exact List.mem_cons_self ..)
  obtain ⟨p, b, h1, h2, h3⟩ := hfo.at'
  have := hc.regs p (List.mem_of_getElem? h1)
  obtain ⟨k, p', e1, _⟩ := hfo.cl
  obtain ⟨e2, e3⟩ := look_mem' e1
  exact ⟨hfo.to, by omega, k, hC ▸ e2, by omega⟩
theorem call_any {c : Code} {n : Nat} (h : VmO w0 w ρ H m cv s left steps hb mb ov rv fv cbs) (hc : CodeOk c) (hcode : CodeAt w0 cv c) (hmo : Mo c n s) (v : Hp.V) (a : List Hp.V) (aa : Option Addr) (ca : Nat)
    (ha : w.ownsRow 0 64 3 (.slice aa a.length ca) a.length (Hp.flatV a)) (h0 : ∀ b, (Value.slice aa a.length ca).ownBlock = some b → b ≠ m) :
    Calls Try.prog 22 #[.pointer (some ⟨m, 0, none⟩), v.val, .slice aa a.length ca] w (CallPost w0 m cv (call c s v a) left steps) := by
  cases hf : find s.cls v with
  | none => exact call_none h v a aa ca c hf
  | some k =>
    have hkm : k ∈ s.cls := by
      unfold find at hf
      split at hf
      · exact (look_mem' hf).1
      · cases hf
    have hko := (hmo.cls k hkm).2
    cases hk : k.kont with
    | true =>
      by_cases hal : a.length = 1
      · obtain ⟨x, rfl⟩ := List.length_eq_one_iff.1 hal
        exact call_kont h v x aa ca c hf hk (frOk_tell hc rfl hko.frs) ha h0
      · refine call_many h v a aa ca c hf hk hal ?_
        unfold call
        rw [hf]
        dsimp only
        rw [if_neg (fun e => hal e.2)]
        split
        · rfl
        · rw [if_pos (.inl hk)]
    | false =>
      obtain ⟨p, hp, _⟩ := hko.kn hk
      have hpf := prcB_facts (hc.all p (List.mem_of_getElem? hp))
      by_cases hal : (a.length : Int) = p.params
      · exact call_fun h v a aa ca c hcode hf hk hp hal hpf.2.2.2.2.1 (hc.regs p (List.mem_of_getElem? hp)) ha h0
      · exact call_count h v a aa ca c hcode hf hk hp hal
structure EndIn (w0 w : World) (ρ : Nat → Nat) (H : Nat → Value) (m : Nat) (cv : Value) (s : St) (left steps hb mb : Nat) (ov rv fv : Value) (cbs : List Nat) (x : Fin) (lv : Value) : Prop where
  at' : VmO w0 w ρ H m cv s left steps hb mb ov rv fv cbs
  args : Sl w lv (ints x.args)
  inr : ∀ r ∈ x.args, 0 ≤ r ∧ r < s.regs.length
  few : x.args.length ≤ 1000
  frl : s.regs.length ≤ 2000
structure EndAt (w0 w w2 : World) (ρ : Nat → Nat) (H : Nat → Value) (m : Nat) (cv : Value) (s : St) (left steps hb mb : Nat) (ov rv fv : Value) (cbs : List Nat) (x : Fin) (lv : Value) (a2 : Option Addr) (c2 : Nat) : Prop where
  at' : VmO w0 w2 ρ H m cv s left steps hb mb ov rv fv cbs
  below : Below w.heap.size w w2
  box : w2.heap[w.heap.size]? = some (.cells #[.int .i64 x.kind, .int .i64 x.reg, lv, .int .i64 x.to, .int .i64 x.next, .int .i64 x.els] 45 (0, 0))
  row : w2.ownsRow (w.heap.size + 1) 64 3 (.slice a2 x.args.length c2) x.args.length (Hp.flatV (vals s.regs x.args))
  zero : ∀ b, w.heap.size ≤ b → ρ b = 0
theorem EndAt.of {w1 w2 : World} {x : Fin} {lv : Value} {a2 : Option Addr} {c2 : Nat} (I : EndIn w0 w ρ H m cv s left steps hb mb ov rv fv cbs x lv) (B : Boxed w w1 #[.int .i64 x.kind, .int .i64 x.reg, lv, .int .i64 x.to, .int .i64 x.next, .int .i64 x.els] 45)
    (ho : w2.ownsRow w1.heap.size 64 3 (.slice a2 (vals s.regs x.args).length c2) (vals s.regs x.args).length (Hp.flatV (vals s.regs x.args))) (hb2 : Below w1.heap.size w1 w2) : EndAt w0 w w2 ρ H m cv s left steps hb mb ov rv fv cbs x lv a2 c2 := by
  have hs := B.size
  have hB : Below w.heap.size w w2 := B.below.trans (hb2.mono (by omega))
  rw [vals_length, hs] at ho
  exact ⟨I.at'.bel hB, hB, (hb2.block _ (by omega)).trans B.blk, ho, fun b hb => Decidable.byContradiction fun e => by have := (I.at'.c.lo _ e).2; omega⟩
theorem EndIn.vals {w1 : World} {x : Fin} {lv : Value} (I : EndIn w0 w ρ H m cv s left steps hb mb ov rv fv cbs x lv) (hB : Below w.heap.size w w1) : Calls Try.prog 54 #[.pointer (some ⟨m, 0, none⟩), lv] w1 (CloneV (Vm.vals s.regs x.args) w1) :=
  vals_any m rv s.regs lv x.args w1 ((I.at'.bel hB).cell 12) (I.at'.bel hB).c.regs (I.args.below hB (Nat.le_refl _)) I.inr I.few I.frl
set_option maxHeartbeats 4000000 in
theorem end_jump {c : Code} {x : Fin} {lv : Value} (I : EndIn w0 w ρ H m cv s left steps hb mb ov rv fv cbs x lv) (hk : x.kind = 0) (hn : 0 ≤ x.next) :
    Calls Try.prog 39 #[.pointer (some ⟨m, 0, none⟩), finV x lv] w (CallPost w0 m cv (endB c s x) left steps) := by
  obtain ⟨w1, B⟩ := boxed w #[.int .i64 x.kind, .int .i64 x.reg, lv, .int .i64 x.to, .int .i64 x.next, .int .i64 x.els] 45
  have HV := Lib.hid (I.vals B.below)
  have hE : endB c s x = { s with block := x.next.toNat, pos := 0 } := by unfold endB; rw [if_pos hk]
  have HE := Lib.hid hE
  have HI := Lib.hid I
  have HB := Lib.hid B
  obtain ⟨al, cl, rfl⟩ := I.args.len
  obtain ⟨kind, reg, args, xt, next, els⟩ := x
  dsimp only at hk hn
  subst hk
  obtain ⟨n, rfl⟩ : ∃ n : Nat, next = n := ⟨next.toNat, by omega⟩
  have hm := I.at'.lt
  clear I B hE
  unfold finV
  dsimp only
  go_enter Try.func39, Try.ntmps39
  go_wp2_with fail
  rw [← HB.out.eq]
  with_reducible refine HV.out.mono ?_
  rintro e w2 ⟨a2, c2, rfl, hown2, hb2⟩
  have D := EndAt.of HI.out HB.out hown2 hb2
  clear hown2 hb2
  try dsimp only at D
  have q0 := cell_of_row w2 w.heap.size 0 _ _ _ D.box
  have q1 := cell_of_row w2 w.heap.size 1 _ _ _ D.box
  have q4 := cell_of_row w2 w.heap.size 4 _ _ _ D.box
  have q5 := cell_of_row w2 w.heap.size 5 _ _ _ D.box
  simp only [List.getElem?_toArray, List.getElem?_cons_zero, List.getElem?_cons_succ] at q0 q1 q4 q5
  have hq2 : w.heap.size < w2.heap.size := (Array.getElem?_eq_some_iff.1 D.box).1
  have hm2 := D.at'.lt
  have c14 : w2.cell? ⟨m, 14, none⟩ = some (.int .i64 s.block) := D.at'.cell 14
  have f14 := D.at'.fz 14
  have HX := Lib.hid (D.at'.set 14 (.int .i64 n) (s' := { s with block := n }) (left' := left) (steps' := steps) rfl rfl rfl rfl rfl rfl)
  clear D
  go_wp2_with fail
  refine bodyPost_end (results_none rfl _ _ _) rfl ?_
  rw [HE.out]
  exact ⟨rfl, _, _, _, _, _, _, _, _, HX.out.pos 0⟩
set_option maxHeartbeats 4000000 in
theorem end_if {c : Code} {x : Fin} {lv : Value} (I : EndIn w0 w ρ H m cv s left steps hb mb ov rv fv cbs x lv) (hk : x.kind = 1) (hn : 0 ≤ x.next) (hel : 0 ≤ x.els) (hr : 0 ≤ x.reg ∧ x.reg < s.regs.length) :
    Calls Try.prog 39 #[.pointer (some ⟨m, 0, none⟩), finV x lv] w (CallPost w0 m cv (endB c s x) left steps) := by
  obtain ⟨w1, B⟩ := boxed w #[.int .i64 x.kind, .int .i64 x.reg, lv, .int .i64 x.to, .int .i64 x.next, .int .i64 x.els] 45
  have HV := Lib.hid (I.vals B.below)
  have hE : endB c s x = { s with block := if s.regs.getD x.reg.toNat Hp.none = Hp.none then x.els.toNat else x.next.toNat, pos := 0 } := by unfold endB; rw [if_neg (by omega), if_pos hk]
  have HE := Lib.hid hE
  have HI := Lib.hid I
  have HB := Lib.hid B
  obtain ⟨al, cl, rfl⟩ := I.args.len
  obtain ⟨kind, reg, args, xt, next, els⟩ := x
  dsimp only at hk hn hel hr
  subst hk
  obtain ⟨r, rfl⟩ : ∃ r : Nat, reg = r := ⟨reg.toNat, by omega⟩
  obtain ⟨y, hy⟩ : ∃ y, s.regs[r]? = some y := ⟨_, List.getElem?_eq_getElem (by omega)⟩
  obtain ⟨g, cg, rfl, _, hgl, _⟩ := own_part I.at'.c.regs rfl hy
  have hg4 : ρ g = 4 := I.at'.c.regr g rfl
  obtain ⟨n, rfl⟩ : ∃ n : Nat, next = n := ⟨next.toNat, by omega⟩
  obtain ⟨l, rfl⟩ : ∃ l : Nat, els = l := ⟨els.toNat, by omega⟩
  have hm := I.at'.lt
  clear I B hE
  unfold finV
  dsimp only
  go_enter Try.func39, Try.ntmps39
  go_wp2_with fail
  rw [← HB.out.eq]
  with_reducible refine HV.out.mono ?_
  rintro e w2 ⟨a2, c2, rfl, hown2, hb2⟩
  have D := EndAt.of HI.out HB.out hown2 hb2
  clear hown2 hb2
  try dsimp only at D
  have q0 := cell_of_row w2 w.heap.size 0 _ _ _ D.box
  have q1 := cell_of_row w2 w.heap.size 1 _ _ _ D.box
  have q4 := cell_of_row w2 w.heap.size 4 _ _ _ D.box
  have q5 := cell_of_row w2 w.heap.size 5 _ _ _ D.box
  simp only [List.getElem?_toArray, List.getElem?_cons_zero, List.getElem?_cons_succ] at q0 q1 q4 q5
  have hq2 : w.heap.size < w2.heap.size := (Array.getElem?_eq_some_iff.1 D.box).1
  have hm2 := D.at'.lt
  have c12 : w2.cell? ⟨m, 12, none⟩ = some (.slice (some ⟨g, 0, none⟩) s.regs.length cg) := D.at'.cell 12
  obtain ⟨g', cg', eg, _, hgw, e0, e1, e2, f0, f1, f2⟩ := own_part D.at'.c.regs rfl hy
  cases eg
  have hgq : g ≠ w.heap.size := by omega
  have hqg : w.heap.size ≠ g := by omega
  have hgm : g ≠ m := fun e => by have := D.at'.c.me; rw [← e, hg4] at this; cases this
  have hmg : m ≠ g := fun e => hgm e.symm
  have hr0 : (0 : Int) ≤ r := by omega
  have hr1 : (r : Int) < s.regs.length := by omega
  have c14 : w2.cell? ⟨m, 14, none⟩ = some (.int .i64 s.block) := D.at'.cell 14
  have f14 := D.at'.fz 14
  have hyv : s.regs.getD (r : Int).toNat Hp.none = y := by rw [List.getD_eq_getElem?_getD, Int.toNat_natCast, hy]; rfl
  have HYV := Lib.hid hyv
  have HX := Lib.hid (D.at'.set 14 (.int .i64 n) (s' := { s with block := n }) (left' := left) (steps' := steps) rfl rfl rfl rfl rfl rfl)
  have HX2 : Hid (VmO w0 ((w2.setCell ⟨m, 14, none⟩ (.int .i64 n)).setCell ⟨m, 14, none⟩ (.int .i64 l)) ρ H m cv { s with block := l } left steps hb mb ov (.slice (some ⟨g, 0, none⟩) s.regs.length cg) fv cbs) := HX.out.set 14 (.int .i64 l) (s' := { s with block := l }) (left' := left) (steps' := steps) rfl rfl rfl rfl rfl rfl
  clear D hy hyv
  by_cases hz : y = Hp.none
  · subst hz
    have HS : Hid (endB c s ⟨1, r, args, xt, n, l⟩ = { s with block := l, pos := 0 }) := by
      unfold Hid
      rw [HE.out]
      try dsimp only
      rw [HYV.out, if_pos rfl]
      rfl
    unfold Hp.none at e0 e1 e2
    dsimp only at e0 e1 e2
    go_wp2_with fail
    go_quiet (fail)
    go_wp2_with fail
    refine bodyPost_end (results_none rfl _ _ _) rfl ?_
    rw [HS.out]
    exact ⟨rfl, _, _, _, _, _, _, _, _, (HX2.out.pos 0).drew _⟩
  · have HS : Hid (endB c s ⟨1, r, args, xt, n, l⟩ = { s with block := n, pos := 0 }) := by
      unfold Hid
      rw [HE.out]
      try dsimp only
      rw [HYV.out, if_neg hz]
      rfl
    obtain ⟨yk, yi, yt⟩ := y
    dsimp only at e0 e1 e2
    have hcase : (yk == 0) = false ∨ (yk = 0 ∧ (yi == 0) = false) ∨ (yk = 0 ∧ yi = 0 ∧ ¬ yt.toList = []) := by
      by_cases h1 : yk = 0
      · by_cases h2 : yi = 0
        · refine .inr (.inr ⟨h1, h2, fun h3 => hz ?_⟩)
          rw [Lib.toList_data] at h3
          obtain ⟨yt⟩ := yt
          have h4 : yt = #[] := Array.toList_eq_nil_iff.1 h3
          rw [h1, h2, h4]
          rfl
        · exact .inr (.inl ⟨h1, beq_eq_false_iff_ne.2 h2⟩)
      · exact .inl (beq_eq_false_iff_ne.2 h1)
    clear hz HYV
    rcases hcase with z1 | ⟨rfl, z2⟩ | ⟨rfl, rfl, z3⟩
    · go_wp2_with fail
      go_quiet (fail)
      go_wp2_with fail
      refine bodyPost_end (results_none rfl _ _ _) rfl ?_
      rw [HS.out]
      exact ⟨rfl, _, _, _, _, _, _, _, _, (HX.out.pos 0).drew _⟩
    · go_wp2_with fail
      go_quiet (fail)
      go_wp2_with fail
      refine bodyPost_end (results_none rfl _ _ _) rfl ?_
      rw [HS.out]
      exact ⟨rfl, _, _, _, _, _, _, _, _, (HX.out.pos 0).drew _⟩
    · have z4 : yt.toList.isEmpty = false := by simpa using z3
      have z5 : (yt.toList == []) = false := by simpa using z3
      go_wp2_with fail
      go_quiet (fail)
      go_wp2_with fail
      refine bodyPost_end (results_none rfl _ _ _) rfl ?_
      rw [HS.out]
      exact ⟨rfl, _, _, _, _, _, _, _, _, (HX.out.pos 0).drew _⟩
set_option maxHeartbeats 4000000 in
theorem end_return {c : Code} {x : Fin} {lv : Value} (I : EndIn w0 w ρ H m cv s left steps hb mb ov rv fv cbs x lv) (hk : x.kind = 2) (hr : 0 ≤ x.reg ∧ x.reg < s.regs.length) (hT : TellIn s) :
    Calls Try.prog 39 #[.pointer (some ⟨m, 0, none⟩), finV x lv] w (CallPost w0 m cv (endB c s x) left steps) := by
  obtain ⟨w1, B⟩ := boxed w #[.int .i64 x.kind, .int .i64 x.reg, lv, .int .i64 x.to, .int .i64 x.next, .int .i64 x.els] 45
  have HV := Lib.hid (I.vals B.below)
  have hE : endB c s x = tell s (s.regs.getD x.reg.toNat Hp.none) := by unfold endB; rw [if_neg (by omega), if_neg (by omega), if_pos hk]
  have HE := Lib.hid hE
  have HI := Lib.hid I
  have HB := Lib.hid B
  obtain ⟨al, cl, rfl⟩ := I.args.len
  obtain ⟨kind, reg, args, xt, next, els⟩ := x
  dsimp only at hk hr
  subst hk
  obtain ⟨r, rfl⟩ : ∃ r : Nat, reg = r := ⟨reg.toNat, by omega⟩
  obtain ⟨y, hy⟩ : ∃ y, s.regs[r]? = some y := ⟨_, List.getElem?_eq_getElem (by omega)⟩
  obtain ⟨g, cg, rfl, _, hgl, _⟩ := own_part I.at'.c.regs rfl hy
  have hg4 : ρ g = 4 := I.at'.c.regr g rfl
  have hm := I.at'.lt
  clear I B hE
  unfold finV
  dsimp only
  go_enter Try.func39, Try.ntmps39
  go_wp2_with fail
  rw [← HB.out.eq]
  with_reducible refine HV.out.mono ?_
  rintro e w2 ⟨a2, c2, rfl, hown2, hb2⟩
  have D := EndAt.of HI.out HB.out hown2 hb2
  clear hown2 hb2
  try dsimp only at D
  have q0 := cell_of_row w2 w.heap.size 0 _ _ _ D.box
  have q1 := cell_of_row w2 w.heap.size 1 _ _ _ D.box
  have q4 := cell_of_row w2 w.heap.size 4 _ _ _ D.box
  have q5 := cell_of_row w2 w.heap.size 5 _ _ _ D.box
  simp only [List.getElem?_toArray, List.getElem?_cons_zero, List.getElem?_cons_succ] at q0 q1 q4 q5
  have hq2 : w.heap.size < w2.heap.size := (Array.getElem?_eq_some_iff.1 D.box).1
  have hm2 := D.at'.lt
  have c12 : w2.cell? ⟨m, 12, none⟩ = some (.slice (some ⟨g, 0, none⟩) s.regs.length cg) := D.at'.cell 12
  obtain ⟨g', cg', eg, _, hgw, e0, e1, e2, f0, f1, f2⟩ := own_part D.at'.c.regs rfl hy
  cases eg
  have hgq : g ≠ w.heap.size := by omega
  have hqg : w.heap.size ≠ g := by omega
  have hgm : g ≠ m := fun e => by have := D.at'.c.me; rw [← e, hg4] at this; cases this
  have hmg : m ≠ g := fun e => hgm e.symm
  have hr0 : (0 : Int) ≤ r := by omega
  have hr1 : (r : Int) < s.regs.length := by omega
  have hyv : s.regs.getD (r : Int).toNat Hp.none = y := by rw [List.getD_eq_getElem?_getD, Int.toNat_natCast, hy]; rfl
  have HS : Hid (endB c s ⟨2, r, args, xt, next, els⟩ = tell s y) := by
    unfold Hid
    rw [HE.out]
    try dsimp only
    rw [hyv]
  have HT := Lib.hid (tell_any (w := w2.drew) (D.at'.drew 1) hT y)
  unfold Hp.V.val at HT
  clear D hy hyv
  go_wp2_with fail
  go_still_tail 9, (by kernel_rfl)
  show wpList _ _ _ _ _ _
  go_wp2_with fail
  with_reducible refine HT.out.mono ?_
  rintro e w4 ⟨rfl, hV⟩
  go_wp2_with fail
  refine bodyPost_end (results_none rfl _ _ _) rfl ?_
  rw [HS.out]
  exact ⟨rfl, hV⟩
end
end Vm
end Go.Proofs.Ytalfnaielhbocaa
