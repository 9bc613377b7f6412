/- Check: instructions. -/
import Derived.Deep.RegionHeld3
import Derived.Test.YtalfnaielhbocaaNJbb
import Derived.Test.YtalfnaielhbocaaNJbe
import Derived.Test.YtalfnaielhbocaaNJbc
set_option linter.unusedVariables false
set_option linter.unusedSimpArgs false
set_option linter.unnecessarySimpa false
namespace Go.Proofs.Ytalfnaielhbocaa
open Go.RowKit
set_option linter.unusedVariables false
set_option linter.unusedSimpArgs false
set_option maxRecDepth 100000
namespace Vm
structure ChkIn (w : World) (cv : Value) (c : Code) (p : Prc) (bv : Value) (x : Ins) (lv dl : Value) : Prop where
  cvl : ∃ a n, cv = .slice a c.length n
  code : CodeAt w cv c
  bvl : ∃ a n, bv = .slice a p.blocks.length n
  args : Sl w lv (ints x.args)
  few : x.args.length ≤ 9223372036854775807
  dat : DtAt w (fun _ => True) (.agg #[.int .i64 x.const.kind, .int .i64 x.const.int, .string x.const.text, dl]) x.const
  fit : Dt.Fit x.const
structure InsAt (w w3 : World) (cv : Value) (c : Code) (p : Prc) (bv : Value) (x : Ins) (lv dl : Value) : Prop where
  below : Below w.heap.size w w3
  size : w3.heap.size = w.heap.size + 1 + 1 + 1
  bc : w3.heap[w.heap.size]? = some (.cells #[cv] 24 (0, 0))
  bp : w3.heap[w.heap.size + 1]? = some (.cells #[.int .i64 p.params, .int .i64 p.holds, .int .i64 p.regs, bv] 40 (0, 0))
  bx : w3.heap[w.heap.size + 1 + 1]? = some (.cells #[.string x.op, .int .i64 x.to, lv, .int .i64 x.const.kind, .int .i64 x.const.int, .string x.const.text, dl, .int .i64 x.num] 55 (0, 0))
theorem InsAt.of (w : World) (cv : Value) (c : Code) (p : Prc) (bv : Value) (x : Ins) (lv dl : Value) : ∃ w3, w3 = ((w.alloc (.cells #[cv] 24)).alloc (.cells #[.int .i64 p.params, .int .i64 p.holds, .int .i64 p.regs, bv] 40)).alloc (.cells #[.string x.op, .int .i64 x.to, lv, .int .i64 x.const.kind, .int .i64 x.const.int, .string x.const.text, dl, .int .i64 x.num] 55) ∧ InsAt w w3 cv c p bv x lv dl := by
  refine ⟨_, rfl, (((Below.refl _ _).alloc (Nat.le_refl _) _).alloc (by simp) _).alloc (by simp; omega) _, by simp, ?_, ?_, heap_new (by simp)⟩
  · exact (heap_alloc_old _ _ (by simp; omega)).trans ((heap_alloc_old _ _ (by simp)).trans (heap_new rfl))
  · exact (heap_alloc_old _ _ (by simp)).trans (heap_new (by simp))
theorem fit_len {d : Dt} (h : Dt.Fit d) : d.list.length ≤ 9223372036854775807 := by
  cases h
  assumption
theorem sl_one {w : World} (n : Int) (t : TypeId) : Sl ((w.alloc (.cells #[.int .i64 n] t)).drew) (.slice (some ⟨w.heap.size, 0, none⟩) 1 1) (ints [n]) :=
  ⟨_, 1, rfl, .inr ⟨_, rfl, new_cell1 (w := w) rfl⟩⟩
abbrev InsS (w' : World) (b : Nat) (p : Prc) (bv : Value) (xt num : Int) : Prop := w'.cell? ⟨b + 1, 0, none⟩ = some (.int .i64 p.params) ∧ w'.cell? ⟨b + 1, 1, none⟩ = some (.int .i64 p.holds) ∧ w'.cell? ⟨b + 1, 2, none⟩ = some (.int .i64 p.regs) ∧ w'.cell? ⟨b + 1, 3, none⟩ = some bv ∧ w'.cell? ⟨b + 1 + 1, 1, none⟩ = some (.int .i64 xt) ∧ w'.cell? ⟨b + 1 + 1, 7, none⟩ = some (.int .i64 num)
theorem InsS.alloc {w' : World} {b : Nat} {p : Prc} {bv : Value} {xt num : Int} (h : InsS w' b p bv xt num) (o : Obj) : InsS (w'.alloc o) b p bv xt num := ⟨alloc_at o h.1, alloc_at o h.2.1, alloc_at o h.2.2.1, alloc_at o h.2.2.2.1, alloc_at o h.2.2.2.2.1, alloc_at o h.2.2.2.2.2⟩
section
variable {w : World} {cv bv lv dl : Value} {c : Code} {p : Prc} {x : Ins}
set_option maxHeartbeats 16000000 in
theorem ins_move (I : ChkIn w cv c p bv x lv dl) {lb nb tb ra : Bool} (hop : x.op = sMove) (hLb : ((x.args.length : Int) == 1) = lb) (hnb : (x.num == 0) = nb) (htoo : regsB p [x.to] = tb) (hra : regsB p x.args = ra) (hE : insB c p x = (lb && nb && tb && ra && bare x.const)) :
    Calls Try.prog 28 #[.agg #[cv], procV p bv, insV x lv dl] w fun e w' => e = .returned (.bool (insB c p x)) ∧ Below w.heap.size w w' := by
  obtain ⟨w3, hw3, A⟩ := InsAt.of w cv c p bv x lv dl
  obtain ⟨acv, ncv, rfl⟩ := I.cvl
  obtain ⟨ab, cb, rfl⟩ := I.bvl
  obtain ⟨al, cl, hlv⟩ := I.args.len
  subst hlv
  obtain ⟨da, dc, hdv, _⟩ := I.dat.inv
  have hdl : dl = .slice da x.const.list.length dc := by simpa using hdv
  subst hdl
  have hil : (ints x.args).length = x.args.length := by simp [ints]
  have hargs := I.args
  rw [hil] at hargs A hw3 ⊢
  have hkl : x.const.list.length ≤ 9223372036854775807 := fit_len I.fit
  have HEQ := Lib.hid (equal_bare x.const.kind x.const.int x.const.text da x.const.list.length dc hkl)
  have HB0 : Hid (bare x.const = (decide (x.const.kind = 0) && decide (x.const.int = 0) && decide (x.const.text = ⟨#[]⟩) && decide (x.const.list.length = 0))) := rfl
  have hs3 := A.size
  have HAR := Lib.hid (arity_any x.op w3)
  have HI := Lib.hid I
  have HA := Lib.hid A
  have HW3 := Lib.hid hw3
  have HARGS := Lib.hid hargs
  obtain ⟨op, xt, args, const, num⟩ := x
  dsimp only at *
  subst hop
  unfold sMove at *
  have HRAV := Lib.hid hra
  clear hra
  have HE := Lib.hid hE
  clear hE
  have hrg := regs_any p (.slice ab p.blocks.length cb) ⟨_, _, _, rfl⟩ (.slice (some ⟨w3.heap.size, 0, none⟩) 1 1) [xt] ((w3.alloc (.cells #[.int .i64 xt] 3)).drew) (sl_one xt _) (by simp)
  rw [htoo] at hrg
  have HRG := Lib.hid hrg
  unfold procV at HRG
  have p0 := cell_of_row w3 (w.heap.size + 1) 0 _ _ _ A.bp
  have p1 := cell_of_row w3 (w.heap.size + 1) 1 _ _ _ A.bp
  have p2 := cell_of_row w3 (w.heap.size + 1) 2 _ _ _ A.bp
  have p3 := cell_of_row w3 (w.heap.size + 1) 3 _ _ _ A.bp
  have x0 := cell_of_row w3 (w.heap.size + 1 + 1) 0 _ _ _ A.bx
  have x1 := cell_of_row w3 (w.heap.size + 1 + 1) 1 _ _ _ A.bx
  have x7 := cell_of_row w3 (w.heap.size + 1 + 1) 7 _ _ _ A.bx
  simp only [List.getElem?_toArray, List.getElem?_cons_zero, List.getElem?_cons_succ] at p0 p1 p2 p3 x0 x1 x7
  have hl0 : w.heap.size < w3.heap.size := by omega
  have hl1 : w.heap.size + 1 < w3.heap.size := by omega
  have hl2 : w.heap.size + 1 + 1 < w3.heap.size := by omega
  have HF : Hid (InsS w3 w.heap.size p (.slice ab p.blocks.length cb) xt num) := ⟨p0, p1, p2, p3, x1, x7⟩
  have HFA : Hid (∀ o : Obj, InsS (w3.alloc o) w.heap.size p (.slice ab p.blocks.length cb) xt num) := fun o => HF.out.alloc o
  have HS3 := Lib.hid hs3
  clear I A hw3 hargs hrg hdv hs3
  unfold procV insV
  dsimp only
  go_enter Try.func28, Try.ntmps28
  go_wp2_with fail
  rw [← HW3.out]
  with_reducible refine HAR.out.mono ?_
  rintro e w3' ⟨rfl, rfl⟩
  go_wp2_with fail
  go_region_held3 (fun w' => w'.cell? ⟨w.heap.size + 1, 0, none⟩ = some (.int .i64 p.params) ∧ w'.cell? ⟨w.heap.size + 1, 1, none⟩ = some (.int .i64 p.holds) ∧ w'.cell? ⟨w.heap.size + 1, 2, none⟩ = some (.int .i64 p.regs) ∧ w'.cell? ⟨w.heap.size + 1, 3, none⟩ = some (.slice ab p.blocks.length cb) ∧ w'.cell? ⟨w.heap.size + 1 + 1, 1, none⟩ = some (.int .i64 xt) ∧ w'.cell? ⟨w.heap.size + 1 + 1, 7, none⟩ = some (.int .i64 num))
    (first | with_reducible exact HF.out | with_reducible exact HFA.out _ | with_reducible exact HF4.out | exact HF.out | exact HFA.out _)
    (first
      | (go_at_call 43; (with_reducible refine HRG.out.mono ?_); rintro e w4 ⟨rfl, hb4'⟩; have hb4 : Below w3.heap.size w3 w4 := (((Below.refl _ _).alloc (Nat.le_refl _) _).drew).trans (hb4'.mono (by rw [two_size0]; exact Nat.le_succ _)); have bc4 := (hb4.block w.heap.size hl0).trans HA.out.bc; have bp4 := (hb4.block (w.heap.size + 1) hl1).trans HA.out.bp; have bx4 := (hb4.block (w.heap.size + 1 + 1) hl2).trans HA.out.bx; have y0 := cell_of_row w4 _ 0 _ _ _ bp4; have y1 := cell_of_row w4 _ 1 _ _ _ bp4; have y2 := cell_of_row w4 _ 2 _ _ _ bp4; have y3 := cell_of_row w4 _ 3 _ _ _ bp4; have v0 := cell_of_row w4 _ 0 _ _ _ bx4; have v1 := cell_of_row w4 _ 1 _ _ _ bx4; have v2 := cell_of_row w4 _ 2 _ _ _ bx4; have v3 := cell_of_row w4 _ 3 _ _ _ bx4; have v4 := cell_of_row w4 _ 4 _ _ _ bx4; have v5 := cell_of_row w4 _ 5 _ _ _ bx4; have v6 := cell_of_row w4 _ 6 _ _ _ bx4; have v7 := cell_of_row w4 _ 7 _ _ _ bx4; have u0 := cell_of_row w4 _ 0 _ _ _ bc4; simp only [List.getElem?_toArray, List.getElem?_cons_zero, List.getElem?_cons_succ] at y0 y1 y2 y3 v0 v1 v2 v3 v4 v5 v6 v7 u0; have HF4 := Lib.hid (And.intro y0 (And.intro y1 (And.intro y2 (And.intro y3 (And.intro v1 v7))))); have HB4 := Lib.hid hb4; have HBX := Lib.hid bx4; have hq4 : w.heap.size + 1 + 1 < w4.heap.size := Nat.lt_of_lt_of_le hl2 hb4.size; have hs4 := hb4.size; clear hb4 hb4' bc4 bp4 bx4))
  all_goals
    have HBB : Hid (Below w.heap.size w w4) := HA.out.below.trans (HB4.out.mono HA.out.below.size)
    cases lb
    · go_wp2_with fail
      go_ret
      rw [HE.out]
      exact ⟨by first | rfl | simp, HBB.out⟩
    · cases nb
      · go_wp2_with fail
        go_ret
        rw [HE.out]
        exact ⟨by first | rfl | simp, HBB.out⟩
      · cases tb
        · go_wp2_with fail
          go_ret
          rw [HE.out]
          exact ⟨by first | rfl | simp, HBB.out⟩
        · have hra0 := regs_any p (.slice ab p.blocks.length cb) ⟨_, _, _, rfl⟩ (.slice al args.length cl) args w4 (HARGS.out.below HBB.out (Nat.le_refl _)) HI.out.few
          rw [HRAV.out] at hra0
          have HRA := Lib.hid hra0
          unfold procV at HRA
          clear hra0
          cases ra
          · go_wp2_with fail
            with_reducible refine HRA.out.mono ?_
            rintro e w5 ⟨rfl, hb5⟩
            have hbx5 := (hb5.block (w.heap.size + 1 + 1) hq4).trans HBX.out
            have z3 := cell_of_row w5 _ 3 _ _ _ hbx5
            have z4 := cell_of_row w5 _ 4 _ _ _ hbx5
            have z5 := cell_of_row w5 _ 5 _ _ _ hbx5
            have z6 := cell_of_row w5 _ 6 _ _ _ hbx5
            simp only [List.getElem?_toArray, List.getElem?_cons_zero, List.getElem?_cons_succ] at z3 z4 z5 z6
            have hq5 : w.heap.size + 1 + 1 < w5.heap.size := Nat.lt_of_lt_of_le hq4 hb5.size
            have HB5 : Hid (Below w.heap.size w w5) := HBB.out.trans (hb5.mono HBB.out.size)
            clear hb5 hbx5
            go_wp2_with fail
            go_ret
            rw [HE.out]
            exact ⟨by first | rfl | simp, HB5.out⟩
          · go_wp2_with fail
            with_reducible refine HRA.out.mono ?_
            rintro e w5 ⟨rfl, hb5⟩
            have hbx5 := (hb5.block (w.heap.size + 1 + 1) hq4).trans HBX.out
            have z3 := cell_of_row w5 _ 3 _ _ _ hbx5
            have z4 := cell_of_row w5 _ 4 _ _ _ hbx5
            have z5 := cell_of_row w5 _ 5 _ _ _ hbx5
            have z6 := cell_of_row w5 _ 6 _ _ _ hbx5
            simp only [List.getElem?_toArray, List.getElem?_cons_zero, List.getElem?_cons_succ] at z3 z4 z5 z6
            have hq5 : w.heap.size + 1 + 1 < w5.heap.size := Nat.lt_of_lt_of_le hq4 hb5.size
            have HB5 : Hid (Below w.heap.size w w5) := HBB.out.trans (hb5.mono HBB.out.size)
            clear hb5 hbx5
            go_wp2_with fail
            with_reducible refine (HEQ.out _).mono ?_
            rintro e w6 ⟨rfl, hb6⟩
            have HB6 : Hid (Below w.heap.size w w6) := HB5.out.trans (hb6.mono HB5.out.size)
            clear hb6
            go_wp2_with fail
            go_ret
            rw [HE.out]
            exact ⟨by rw [HB0.out]; first | rfl | simp, HB6.out⟩
set_option maxHeartbeats 16000000 in
theorem ins_else (I : ChkIn w cv c p bv x lv dl) {lb nb tb ra : Bool} (h0 : x.op ≠ sConst) (h1 : x.op ≠ sMove) (h2 : x.op ≠ sHeld) (h3 : x.op ≠ sClosure) (h4 : x.op ≠ sTie) (h5 : x.op ≠ sCallcc) (hLb : ((x.args.length : Int) == arity x.op) = lb) (hnb : (x.num == 0) = nb) (htoo : regsB p [x.to] = tb) (hra : regsB p x.args = ra) (hE : insB c p x = (lb && nb && tb && ra && bare x.const)) :
    Calls Try.prog 28 #[.agg #[cv], procV p bv, insV x lv dl] w fun e w' => e = .returned (.bool (insB c p x)) ∧ Below w.heap.size w w' := by
  obtain ⟨w3, hw3, A⟩ := InsAt.of w cv c p bv x lv dl
  obtain ⟨acv, ncv, rfl⟩ := I.cvl
  obtain ⟨ab, cb, rfl⟩ := I.bvl
  obtain ⟨al, cl, hlv⟩ := I.args.len
  subst hlv
  obtain ⟨da, dc, hdv, _⟩ := I.dat.inv
  have hdl : dl = .slice da x.const.list.length dc := by simpa using hdv
  subst hdl
  have hil : (ints x.args).length = x.args.length := by simp [ints]
  have hargs := I.args
  rw [hil] at hargs A hw3 ⊢
  have hkl : x.const.list.length ≤ 9223372036854775807 := fit_len I.fit
  have HEQ := Lib.hid (equal_bare x.const.kind x.const.int x.const.text da x.const.list.length dc hkl)
  have HB0 : Hid (bare x.const = (decide (x.const.kind = 0) && decide (x.const.int = 0) && decide (x.const.text = ⟨#[]⟩) && decide (x.const.list.length = 0))) := rfl
  have hs3 := A.size
  have HAR := Lib.hid (arity_any x.op w3)
  have HI := Lib.hid I
  have HA := Lib.hid A
  have HW3 := Lib.hid hw3
  have HARGS := Lib.hid hargs
  obtain ⟨op, xt, args, const, num⟩ := x
  dsimp only at *
  have qq0 : (op.toList == [99, 111, 110, 115, 116]) = false := ba_ne h0
  have qq1 : (op.toList == [109, 111, 118, 101]) = false := ba_ne h1
  have qq2 : (op.toList == [104, 101, 108, 100]) = false := ba_ne h2
  have qq3 : (op.toList == [99, 108, 111, 115, 117, 114, 101]) = false := ba_ne h3
  have qq4 : (op.toList == [116, 105, 101]) = false := ba_ne h4
  have qq5 : (op.toList == [37, 99, 97, 108, 108, 99, 99]) = false := ba_ne h5
  clear h0 h1 h2 h3 h4 h5
  have HRAV := Lib.hid hra
  clear hra
  have HE := Lib.hid hE
  clear hE
  have hrg := regs_any p (.slice ab p.blocks.length cb) ⟨_, _, _, rfl⟩ (.slice (some ⟨w3.heap.size, 0, none⟩) 1 1) [xt] ((w3.alloc (.cells #[.int .i64 xt] 3)).drew) (sl_one xt _) (by simp)
  rw [htoo] at hrg
  have HRG := Lib.hid hrg
  unfold procV at HRG
  have p0 := cell_of_row w3 (w.heap.size + 1) 0 _ _ _ A.bp
  have p1 := cell_of_row w3 (w.heap.size + 1) 1 _ _ _ A.bp
  have p2 := cell_of_row w3 (w.heap.size + 1) 2 _ _ _ A.bp
  have p3 := cell_of_row w3 (w.heap.size + 1) 3 _ _ _ A.bp
  have x0 := cell_of_row w3 (w.heap.size + 1 + 1) 0 _ _ _ A.bx
  have x1 := cell_of_row w3 (w.heap.size + 1 + 1) 1 _ _ _ A.bx
  have x7 := cell_of_row w3 (w.heap.size + 1 + 1) 7 _ _ _ A.bx
  simp only [List.getElem?_toArray, List.getElem?_cons_zero, List.getElem?_cons_succ] at p0 p1 p2 p3 x0 x1 x7
  have hl0 : w.heap.size < w3.heap.size := by omega
  have hl1 : w.heap.size + 1 < w3.heap.size := by omega
  have hl2 : w.heap.size + 1 + 1 < w3.heap.size := by omega
  have HF : Hid (InsS w3 w.heap.size p (.slice ab p.blocks.length cb) xt num) := ⟨p0, p1, p2, p3, x1, x7⟩
  have HFA : Hid (∀ o : Obj, InsS (w3.alloc o) w.heap.size p (.slice ab p.blocks.length cb) xt num) := fun o => HF.out.alloc o
  have HS3 := Lib.hid hs3
  clear I A hw3 hargs hrg hdv hs3
  unfold procV insV
  dsimp only
  go_enter Try.func28, Try.ntmps28
  go_wp2_with fail
  rw [← HW3.out]
  with_reducible refine HAR.out.mono ?_
  rintro e w3' ⟨rfl, rfl⟩
  go_wp2_with fail
  go_region_held3 (fun w' => w'.cell? ⟨w.heap.size + 1, 0, none⟩ = some (.int .i64 p.params) ∧ w'.cell? ⟨w.heap.size + 1, 1, none⟩ = some (.int .i64 p.holds) ∧ w'.cell? ⟨w.heap.size + 1, 2, none⟩ = some (.int .i64 p.regs) ∧ w'.cell? ⟨w.heap.size + 1, 3, none⟩ = some (.slice ab p.blocks.length cb) ∧ w'.cell? ⟨w.heap.size + 1 + 1, 1, none⟩ = some (.int .i64 xt) ∧ w'.cell? ⟨w.heap.size + 1 + 1, 7, none⟩ = some (.int .i64 num))
    (first | with_reducible exact HF.out | with_reducible exact HFA.out _ | with_reducible exact HF4.out | exact HF.out | exact HFA.out _)
    (first
      | (go_at_call 43; (with_reducible refine HRG.out.mono ?_); rintro e w4 ⟨rfl, hb4'⟩; have hb4 : Below w3.heap.size w3 w4 := (((Below.refl _ _).alloc (Nat.le_refl _) _).drew).trans (hb4'.mono (by rw [two_size0]; exact Nat.le_succ _)); have bc4 := (hb4.block w.heap.size hl0).trans HA.out.bc; have bp4 := (hb4.block (w.heap.size + 1) hl1).trans HA.out.bp; have bx4 := (hb4.block (w.heap.size + 1 + 1) hl2).trans HA.out.bx; have y0 := cell_of_row w4 _ 0 _ _ _ bp4; have y1 := cell_of_row w4 _ 1 _ _ _ bp4; have y2 := cell_of_row w4 _ 2 _ _ _ bp4; have y3 := cell_of_row w4 _ 3 _ _ _ bp4; have v0 := cell_of_row w4 _ 0 _ _ _ bx4; have v1 := cell_of_row w4 _ 1 _ _ _ bx4; have v2 := cell_of_row w4 _ 2 _ _ _ bx4; have v3 := cell_of_row w4 _ 3 _ _ _ bx4; have v4 := cell_of_row w4 _ 4 _ _ _ bx4; have v5 := cell_of_row w4 _ 5 _ _ _ bx4; have v6 := cell_of_row w4 _ 6 _ _ _ bx4; have v7 := cell_of_row w4 _ 7 _ _ _ bx4; have u0 := cell_of_row w4 _ 0 _ _ _ bc4; simp only [List.getElem?_toArray, List.getElem?_cons_zero, List.getElem?_cons_succ] at y0 y1 y2 y3 v0 v1 v2 v3 v4 v5 v6 v7 u0; have HF4 := Lib.hid (And.intro y0 (And.intro y1 (And.intro y2 (And.intro y3 (And.intro v1 v7))))); have HB4 := Lib.hid hb4; have HBX := Lib.hid bx4; have hq4 : w.heap.size + 1 + 1 < w4.heap.size := Nat.lt_of_lt_of_le hl2 hb4.size; have hs4 := hb4.size; clear hb4 hb4' bc4 bp4 bx4))
  all_goals
    have HBB : Hid (Below w.heap.size w w4) := HA.out.below.trans (HB4.out.mono HA.out.below.size)
    cases lb
    · go_wp2_with fail
      go_ret
      rw [HE.out]
      exact ⟨by first | rfl | simp, HBB.out⟩
    · cases nb
      · go_wp2_with fail
        go_ret
        rw [HE.out]
        exact ⟨by first | rfl | simp, HBB.out⟩
      · cases tb
        · go_wp2_with fail
          go_ret
          rw [HE.out]
          exact ⟨by first | rfl | simp, HBB.out⟩
        · have hra0 := regs_any p (.slice ab p.blocks.length cb) ⟨_, _, _, rfl⟩ (.slice al args.length cl) args w4 (HARGS.out.below HBB.out (Nat.le_refl _)) HI.out.few
          rw [HRAV.out] at hra0
          have HRA := Lib.hid hra0
          unfold procV at HRA
          clear hra0
          cases ra
          · go_wp2_with fail
            with_reducible refine HRA.out.mono ?_
            rintro e w5 ⟨rfl, hb5⟩
            have hbx5 := (hb5.block (w.heap.size + 1 + 1) hq4).trans HBX.out
            have z3 := cell_of_row w5 _ 3 _ _ _ hbx5
            have z4 := cell_of_row w5 _ 4 _ _ _ hbx5
            have z5 := cell_of_row w5 _ 5 _ _ _ hbx5
            have z6 := cell_of_row w5 _ 6 _ _ _ hbx5
            simp only [List.getElem?_toArray, List.getElem?_cons_zero, List.getElem?_cons_succ] at z3 z4 z5 z6
            have hq5 : w.heap.size + 1 + 1 < w5.heap.size := Nat.lt_of_lt_of_le hq4 hb5.size
            have HB5 : Hid (Below w.heap.size w w5) := HBB.out.trans (hb5.mono HBB.out.size)
            clear hb5 hbx5
            go_wp2_with fail
            go_ret
            rw [HE.out]
            exact ⟨by first | rfl | simp, HB5.out⟩
          · go_wp2_with fail
            with_reducible refine HRA.out.mono ?_
            rintro e w5 ⟨rfl, hb5⟩
            have hbx5 := (hb5.block (w.heap.size + 1 + 1) hq4).trans HBX.out
            have z3 := cell_of_row w5 _ 3 _ _ _ hbx5
            have z4 := cell_of_row w5 _ 4 _ _ _ hbx5
            have z5 := cell_of_row w5 _ 5 _ _ _ hbx5
            have z6 := cell_of_row w5 _ 6 _ _ _ hbx5
            simp only [List.getElem?_toArray, List.getElem?_cons_zero, List.getElem?_cons_succ] at z3 z4 z5 z6
            have hq5 : w.heap.size + 1 + 1 < w5.heap.size := Nat.lt_of_lt_of_le hq4 hb5.size
            have HB5 : Hid (Below w.heap.size w w5) := HBB.out.trans (hb5.mono HBB.out.size)
            clear hb5 hbx5
            go_wp2_with fail
            with_reducible refine (HEQ.out _).mono ?_
            rintro e w6 ⟨rfl, hb6⟩
            have HB6 : Hid (Below w.heap.size w w6) := HB5.out.trans (hb6.mono HB5.out.size)
            clear hb6
            go_wp2_with fail
            go_ret
            rw [HE.out]
            exact ⟨by rw [HB0.out]; first | rfl | simp, HB6.out⟩
set_option maxHeartbeats 16000000 in
theorem ins_tie (I : ChkIn w cv c p bv x lv dl) {lb nb ub ra tb : Bool} (hop : x.op = sTie) (htoo : regsB p [x.to] = tb) (hLb : ((x.args.length : Int) == 2) = lb) (hnb : decide (0 ≤ x.num) = nb) (hto : (x.to == 0) = ub) (hra : regsB p x.args = ra) (hE : insB c p x = (lb && nb && ub && ra && bare x.const)) :
    Calls Try.prog 28 #[.agg #[cv], procV p bv, insV x lv dl] w fun e w' => e = .returned (.bool (insB c p x)) ∧ Below w.heap.size w w' := by
  obtain ⟨w3, hw3, A⟩ := InsAt.of w cv c p bv x lv dl
  obtain ⟨acv, ncv, rfl⟩ := I.cvl
  obtain ⟨ab, cb, rfl⟩ := I.bvl
  obtain ⟨al, cl, hlv⟩ := I.args.len
  subst hlv
  obtain ⟨da, dc, hdv, _⟩ := I.dat.inv
  have hdl : dl = .slice da x.const.list.length dc := by simpa using hdv
  subst hdl
  have hil : (ints x.args).length = x.args.length := by simp [ints]
  have hargs := I.args
  rw [hil] at hargs A hw3 ⊢
  have hkl : x.const.list.length ≤ 9223372036854775807 := fit_len I.fit
  have HEQ := Lib.hid (equal_bare x.const.kind x.const.int x.const.text da x.const.list.length dc hkl)
  have HB0 : Hid (bare x.const = (decide (x.const.kind = 0) && decide (x.const.int = 0) && decide (x.const.text = ⟨#[]⟩) && decide (x.const.list.length = 0))) := rfl
  have hs3 := A.size
  have HAR := Lib.hid (arity_any x.op w3)
  have HI := Lib.hid I
  have HA := Lib.hid A
  have HW3 := Lib.hid hw3
  have HARGS := Lib.hid hargs
  obtain ⟨op, xt, args, const, num⟩ := x
  dsimp only at *
  subst hop
  unfold sTie at *
  have HRAV := Lib.hid hra
  clear hra
  have HE := Lib.hid hE
  clear hE
  have hrg := regs_any p (.slice ab p.blocks.length cb) ⟨_, _, _, rfl⟩ (.slice (some ⟨w3.heap.size, 0, none⟩) 1 1) [xt] ((w3.alloc (.cells #[.int .i64 xt] 3)).drew) (sl_one xt _) (by simp)
  rw [htoo] at hrg
  have HRG := Lib.hid hrg
  unfold procV at HRG
  have p0 := cell_of_row w3 (w.heap.size + 1) 0 _ _ _ A.bp
  have p1 := cell_of_row w3 (w.heap.size + 1) 1 _ _ _ A.bp
  have p2 := cell_of_row w3 (w.heap.size + 1) 2 _ _ _ A.bp
  have p3 := cell_of_row w3 (w.heap.size + 1) 3 _ _ _ A.bp
  have x0 := cell_of_row w3 (w.heap.size + 1 + 1) 0 _ _ _ A.bx
  have x1 := cell_of_row w3 (w.heap.size + 1 + 1) 1 _ _ _ A.bx
  have x7 := cell_of_row w3 (w.heap.size + 1 + 1) 7 _ _ _ A.bx
  simp only [List.getElem?_toArray, List.getElem?_cons_zero, List.getElem?_cons_succ] at p0 p1 p2 p3 x0 x1 x7
  have hl0 : w.heap.size < w3.heap.size := by omega
  have hl1 : w.heap.size + 1 < w3.heap.size := by omega
  have hl2 : w.heap.size + 1 + 1 < w3.heap.size := by omega
  have HF : Hid (InsS w3 w.heap.size p (.slice ab p.blocks.length cb) xt num) := ⟨p0, p1, p2, p3, x1, x7⟩
  have HFA : Hid (∀ o : Obj, InsS (w3.alloc o) w.heap.size p (.slice ab p.blocks.length cb) xt num) := fun o => HF.out.alloc o
  have HS3 := Lib.hid hs3
  clear I A hw3 hargs hrg hdv hs3
  unfold procV insV
  dsimp only
  go_enter Try.func28, Try.ntmps28
  go_wp2_with fail
  rw [← HW3.out]
  with_reducible refine HAR.out.mono ?_
  rintro e w3' ⟨rfl, rfl⟩
  go_wp2_with fail
  go_region_held3 (fun w' => w'.cell? ⟨w.heap.size + 1, 0, none⟩ = some (.int .i64 p.params) ∧ w'.cell? ⟨w.heap.size + 1, 1, none⟩ = some (.int .i64 p.holds) ∧ w'.cell? ⟨w.heap.size + 1, 2, none⟩ = some (.int .i64 p.regs) ∧ w'.cell? ⟨w.heap.size + 1, 3, none⟩ = some (.slice ab p.blocks.length cb) ∧ w'.cell? ⟨w.heap.size + 1 + 1, 1, none⟩ = some (.int .i64 xt) ∧ w'.cell? ⟨w.heap.size + 1 + 1, 7, none⟩ = some (.int .i64 num))
    (first | with_reducible exact HF.out | with_reducible exact HFA.out _ | with_reducible exact HF4.out | exact HF.out | exact HFA.out _)
    (first
      | (go_at_call 43; (with_reducible refine HRG.out.mono ?_); rintro e w4 ⟨rfl, hb4'⟩; have hb4 : Below w3.heap.size w3 w4 := (((Below.refl _ _).alloc (Nat.le_refl _) _).drew).trans (hb4'.mono (by rw [two_size0]; exact Nat.le_succ _)); have bc4 := (hb4.block w.heap.size hl0).trans HA.out.bc; have bp4 := (hb4.block (w.heap.size + 1) hl1).trans HA.out.bp; have bx4 := (hb4.block (w.heap.size + 1 + 1) hl2).trans HA.out.bx; have y0 := cell_of_row w4 _ 0 _ _ _ bp4; have y1 := cell_of_row w4 _ 1 _ _ _ bp4; have y2 := cell_of_row w4 _ 2 _ _ _ bp4; have y3 := cell_of_row w4 _ 3 _ _ _ bp4; have v0 := cell_of_row w4 _ 0 _ _ _ bx4; have v1 := cell_of_row w4 _ 1 _ _ _ bx4; have v2 := cell_of_row w4 _ 2 _ _ _ bx4; have v3 := cell_of_row w4 _ 3 _ _ _ bx4; have v4 := cell_of_row w4 _ 4 _ _ _ bx4; have v5 := cell_of_row w4 _ 5 _ _ _ bx4; have v6 := cell_of_row w4 _ 6 _ _ _ bx4; have v7 := cell_of_row w4 _ 7 _ _ _ bx4; have u0 := cell_of_row w4 _ 0 _ _ _ bc4; simp only [List.getElem?_toArray, List.getElem?_cons_zero, List.getElem?_cons_succ] at y0 y1 y2 y3 v0 v1 v2 v3 v4 v5 v6 v7 u0; have HF4 := Lib.hid (And.intro y0 (And.intro y1 (And.intro y2 (And.intro y3 (And.intro v1 v7))))); have HB4 := Lib.hid hb4; have HBX := Lib.hid bx4; have hq4 : w.heap.size + 1 + 1 < w4.heap.size := Nat.lt_of_lt_of_le hl2 hb4.size; have hs4 := hb4.size; clear hb4 hb4' bc4 bp4 bx4))
  all_goals
    have HBB : Hid (Below w.heap.size w w4.drew) := (HA.out.below.trans (HB4.out.mono HA.out.below.size)).drew
    go_wp2_with fail
    go_region
    cases lb
    · go_wp2_with fail
      go_ret
      rw [HE.out]
      exact ⟨by first | rfl | simp, HBB.out⟩
    · cases nb
      · go_wp2_with fail
        go_ret
        rw [HE.out]
        exact ⟨by first | rfl | simp, HBB.out⟩
      · cases ub
        · go_wp2_with fail
          go_ret
          rw [HE.out]
          exact ⟨by first | rfl | simp, HBB.out⟩
        · have hra0 := regs_any p (.slice ab p.blocks.length cb) ⟨_, _, _, rfl⟩ (.slice al args.length cl) args w4.drew (HARGS.out.below HBB.out (Nat.le_refl _)) HI.out.few
          rw [HRAV.out] at hra0
          have HRA := Lib.hid hra0
          unfold procV at HRA
          clear hra0
          cases ra
          · go_wp2_with fail
            with_reducible refine HRA.out.mono ?_
            rintro e w5 ⟨rfl, hb5⟩
            have hbx5 := (hb5.block (w.heap.size + 1 + 1) hq4).trans HBX.out
            have z3 := cell_of_row w5 _ 3 _ _ _ hbx5
            have z4 := cell_of_row w5 _ 4 _ _ _ hbx5
            have z5 := cell_of_row w5 _ 5 _ _ _ hbx5
            have z6 := cell_of_row w5 _ 6 _ _ _ hbx5
            simp only [List.getElem?_toArray, List.getElem?_cons_zero, List.getElem?_cons_succ] at z3 z4 z5 z6
            have hq5 : w.heap.size + 1 + 1 < w5.heap.size := Nat.lt_of_lt_of_le hq4 hb5.size
            have HB5 : Hid (Below w.heap.size w w5) := HBB.out.trans (hb5.mono HBB.out.size)
            clear hb5 hbx5
            go_wp2_with fail
            go_ret
            rw [HE.out]
            exact ⟨by first | rfl | simp, HB5.out⟩
          · go_wp2_with fail
            with_reducible refine HRA.out.mono ?_
            rintro e w5 ⟨rfl, hb5⟩
            have hbx5 := (hb5.block (w.heap.size + 1 + 1) hq4).trans HBX.out
            have z3 := cell_of_row w5 _ 3 _ _ _ hbx5
            have z4 := cell_of_row w5 _ 4 _ _ _ hbx5
            have z5 := cell_of_row w5 _ 5 _ _ _ hbx5
            have z6 := cell_of_row w5 _ 6 _ _ _ hbx5
            simp only [List.getElem?_toArray, List.getElem?_cons_zero, List.getElem?_cons_succ] at z3 z4 z5 z6
            have hq5 : w.heap.size + 1 + 1 < w5.heap.size := Nat.lt_of_lt_of_le hq4 hb5.size
            have HB5 : Hid (Below w.heap.size w w5) := HBB.out.trans (hb5.mono HBB.out.size)
            clear hb5 hbx5
            go_wp2_with fail
            with_reducible refine (HEQ.out _).mono ?_
            rintro e w6 ⟨rfl, hb6⟩
            have HB6 : Hid (Below w.heap.size w w6) := HB5.out.trans (hb6.mono HB5.out.size)
            clear hb6
            go_wp2_with fail
            go_ret
            rw [HE.out]
            exact ⟨by rw [HB0.out]; first | rfl | simp, HB6.out⟩
set_option maxHeartbeats 16000000 in
theorem ins_held (I : ChkIn w cv c p bv x lv dl) {lb b1 b2 tb ra : Bool} (hop : x.op = sHeld) (hLb : ((x.args.length : Int) == 0) = lb) (hg1 : decide (0 ≤ x.num) = b1) (hg2 : decide (x.num < p.holds) = b2) (htoo : regsB p [x.to] = tb) (hra : regsB p x.args = ra) (hE : insB c p x = (lb && (b1 && b2) && tb && ra && bare x.const)) :
    Calls Try.prog 28 #[.agg #[cv], procV p bv, insV x lv dl] w fun e w' => e = .returned (.bool (insB c p x)) ∧ Below w.heap.size w w' := by
  obtain ⟨w3, hw3, A⟩ := InsAt.of w cv c p bv x lv dl
  obtain ⟨acv, ncv, rfl⟩ := I.cvl
  obtain ⟨ab, cb, rfl⟩ := I.bvl
  obtain ⟨al, cl, hlv⟩ := I.args.len
  subst hlv
  obtain ⟨da, dc, hdv, _⟩ := I.dat.inv
  have hdl : dl = .slice da x.const.list.length dc := by simpa using hdv
  subst hdl
  have hil : (ints x.args).length = x.args.length := by simp [ints]
  have hargs := I.args
  rw [hil] at hargs A hw3 ⊢
  have hkl : x.const.list.length ≤ 9223372036854775807 := fit_len I.fit
  have HEQ := Lib.hid (equal_bare x.const.kind x.const.int x.const.text da x.const.list.length dc hkl)
  have HB0 : Hid (bare x.const = (decide (x.const.kind = 0) && decide (x.const.int = 0) && decide (x.const.text = ⟨#[]⟩) && decide (x.const.list.length = 0))) := rfl
  have hs3 := A.size
  have HAR := Lib.hid (arity_any x.op w3)
  have HI := Lib.hid I
  have HA := Lib.hid A
  have HW3 := Lib.hid hw3
  have HARGS := Lib.hid hargs
  obtain ⟨op, xt, args, const, num⟩ := x
  dsimp only at *
  subst hop
  unfold sHeld at *
  have HRAV := Lib.hid hra
  clear hra
  have HE := Lib.hid hE
  clear hE
  have hrg := regs_any p (.slice ab p.blocks.length cb) ⟨_, _, _, rfl⟩ (.slice (some ⟨w3.heap.size, 0, none⟩) 1 1) [xt] ((w3.alloc (.cells #[.int .i64 xt] 3)).drew) (sl_one xt _) (by simp)
  rw [htoo] at hrg
  have HRG := Lib.hid hrg
  unfold procV at HRG
  have p0 := cell_of_row w3 (w.heap.size + 1) 0 _ _ _ A.bp
  have p1 := cell_of_row w3 (w.heap.size + 1) 1 _ _ _ A.bp
  have p2 := cell_of_row w3 (w.heap.size + 1) 2 _ _ _ A.bp
  have p3 := cell_of_row w3 (w.heap.size + 1) 3 _ _ _ A.bp
  have x0 := cell_of_row w3 (w.heap.size + 1 + 1) 0 _ _ _ A.bx
  have x1 := cell_of_row w3 (w.heap.size + 1 + 1) 1 _ _ _ A.bx
  have x7 := cell_of_row w3 (w.heap.size + 1 + 1) 7 _ _ _ A.bx
  simp only [List.getElem?_toArray, List.getElem?_cons_zero, List.getElem?_cons_succ] at p0 p1 p2 p3 x0 x1 x7
  have hl0 : w.heap.size < w3.heap.size := by omega
  have hl1 : w.heap.size + 1 < w3.heap.size := by omega
  have hl2 : w.heap.size + 1 + 1 < w3.heap.size := by omega
  have HF : Hid (InsS w3 w.heap.size p (.slice ab p.blocks.length cb) xt num) := ⟨p0, p1, p2, p3, x1, x7⟩
  have HFA : Hid (∀ o : Obj, InsS (w3.alloc o) w.heap.size p (.slice ab p.blocks.length cb) xt num) := fun o => HF.out.alloc o
  have HS3 := Lib.hid hs3
  clear I A hw3 hargs hrg hdv hs3
  unfold procV insV
  dsimp only
  go_enter Try.func28, Try.ntmps28
  go_wp2_with fail
  rw [← HW3.out]
  with_reducible refine HAR.out.mono ?_
  rintro e w3' ⟨rfl, rfl⟩
  go_wp2_with fail
  go_region_held3 (fun w' => w'.cell? ⟨w.heap.size + 1, 0, none⟩ = some (.int .i64 p.params) ∧ w'.cell? ⟨w.heap.size + 1, 1, none⟩ = some (.int .i64 p.holds) ∧ w'.cell? ⟨w.heap.size + 1, 2, none⟩ = some (.int .i64 p.regs) ∧ w'.cell? ⟨w.heap.size + 1, 3, none⟩ = some (.slice ab p.blocks.length cb) ∧ w'.cell? ⟨w.heap.size + 1 + 1, 1, none⟩ = some (.int .i64 xt) ∧ w'.cell? ⟨w.heap.size + 1 + 1, 7, none⟩ = some (.int .i64 num))
    (first | with_reducible exact HF.out | with_reducible exact HFA.out _ | with_reducible exact HF4.out | exact HF.out | exact HFA.out _)
    (first
      | (go_at_call 43; (with_reducible refine HRG.out.mono ?_); rintro e w4 ⟨rfl, hb4'⟩; have hb4 : Below w3.heap.size w3 w4 := (((Below.refl _ _).alloc (Nat.le_refl _) _).drew).trans (hb4'.mono (by rw [two_size0]; exact Nat.le_succ _)); have bc4 := (hb4.block w.heap.size hl0).trans HA.out.bc; have bp4 := (hb4.block (w.heap.size + 1) hl1).trans HA.out.bp; have bx4 := (hb4.block (w.heap.size + 1 + 1) hl2).trans HA.out.bx; have y0 := cell_of_row w4 _ 0 _ _ _ bp4; have y1 := cell_of_row w4 _ 1 _ _ _ bp4; have y2 := cell_of_row w4 _ 2 _ _ _ bp4; have y3 := cell_of_row w4 _ 3 _ _ _ bp4; have v0 := cell_of_row w4 _ 0 _ _ _ bx4; have v1 := cell_of_row w4 _ 1 _ _ _ bx4; have v2 := cell_of_row w4 _ 2 _ _ _ bx4; have v3 := cell_of_row w4 _ 3 _ _ _ bx4; have v4 := cell_of_row w4 _ 4 _ _ _ bx4; have v5 := cell_of_row w4 _ 5 _ _ _ bx4; have v6 := cell_of_row w4 _ 6 _ _ _ bx4; have v7 := cell_of_row w4 _ 7 _ _ _ bx4; have u0 := cell_of_row w4 _ 0 _ _ _ bc4; simp only [List.getElem?_toArray, List.getElem?_cons_zero, List.getElem?_cons_succ] at y0 y1 y2 y3 v0 v1 v2 v3 v4 v5 v6 v7 u0; have HF4 := Lib.hid (And.intro y0 (And.intro y1 (And.intro y2 (And.intro y3 (And.intro v1 v7))))); have HB4 := Lib.hid hb4; have HBX := Lib.hid bx4; have hq4 : w.heap.size + 1 + 1 < w4.heap.size := Nat.lt_of_lt_of_le hl2 hb4.size; have hs4 := hb4.size; clear hb4 hb4' bc4 bp4 bx4))
  all_goals
    have HBB : Hid (Below w.heap.size w w4.drew) := (HA.out.below.trans (HB4.out.mono HA.out.below.size)).drew
    cases lb
    · cases b1
      · go_wp2_with fail
        go_region
        go_wp2_with fail
        go_ret
        rw [HE.out]
        exact ⟨by first | rfl | simp, HBB.out⟩
      · cases b2
        · go_wp2_with fail
          go_region
          go_wp2_with fail
          go_ret
          rw [HE.out]
          exact ⟨by first | rfl | simp, HBB.out⟩
        · go_wp2_with fail
          go_region
          go_wp2_with fail
          go_ret
          rw [HE.out]
          exact ⟨by first | rfl | simp, HBB.out⟩
    · cases b1
      · go_wp2_with fail
        go_region
        go_wp2_with fail
        go_ret
        rw [HE.out]
        exact ⟨by first | rfl | simp, HBB.out⟩
      · cases b2
        · go_wp2_with fail
          go_region
          go_wp2_with fail
          go_ret
          rw [HE.out]
          exact ⟨by first | rfl | simp, HBB.out⟩
        · go_wp2_with fail
          go_region
          cases tb
          · go_wp2_with fail
            go_ret
            rw [HE.out]
            exact ⟨by first | rfl | simp, HBB.out⟩
          · have hra0 := regs_any p (.slice ab p.blocks.length cb) ⟨_, _, _, rfl⟩ (.slice al args.length cl) args w4.drew (HARGS.out.below HBB.out (Nat.le_refl _)) HI.out.few
            rw [HRAV.out] at hra0
            have HRA := Lib.hid hra0
            unfold procV at HRA
            clear hra0
            cases ra
            · go_wp2_with fail
              with_reducible refine HRA.out.mono ?_
              rintro e w5 ⟨rfl, hb5⟩
              have hbx5 := (hb5.block (w.heap.size + 1 + 1) hq4).trans HBX.out
              have z3 := cell_of_row w5 _ 3 _ _ _ hbx5
              have z4 := cell_of_row w5 _ 4 _ _ _ hbx5
              have z5 := cell_of_row w5 _ 5 _ _ _ hbx5
              have z6 := cell_of_row w5 _ 6 _ _ _ hbx5
              simp only [List.getElem?_toArray, List.getElem?_cons_zero, List.getElem?_cons_succ] at z3 z4 z5 z6
              have hq5 : w.heap.size + 1 + 1 < w5.heap.size := Nat.lt_of_lt_of_le hq4 hb5.size
              have HB5 : Hid (Below w.heap.size w w5) := HBB.out.trans (hb5.mono HBB.out.size)
              clear hb5 hbx5
              go_wp2_with fail
              go_ret
              rw [HE.out]
              exact ⟨by first | rfl | simp, HB5.out⟩
            · go_wp2_with fail
              with_reducible refine HRA.out.mono ?_
              rintro e w5 ⟨rfl, hb5⟩
              have hbx5 := (hb5.block (w.heap.size + 1 + 1) hq4).trans HBX.out
              have z3 := cell_of_row w5 _ 3 _ _ _ hbx5
              have z4 := cell_of_row w5 _ 4 _ _ _ hbx5
              have z5 := cell_of_row w5 _ 5 _ _ _ hbx5
              have z6 := cell_of_row w5 _ 6 _ _ _ hbx5
              simp only [List.getElem?_toArray, List.getElem?_cons_zero, List.getElem?_cons_succ] at z3 z4 z5 z6
              have hq5 : w.heap.size + 1 + 1 < w5.heap.size := Nat.lt_of_lt_of_le hq4 hb5.size
              have HB5 : Hid (Below w.heap.size w w5) := HBB.out.trans (hb5.mono HBB.out.size)
              clear hb5 hbx5
              go_wp2_with fail
              with_reducible refine (HEQ.out _).mono ?_
              rintro e w6 ⟨rfl, hb6⟩
              have HB6 : Hid (Below w.heap.size w w6) := HB5.out.trans (hb6.mono HB5.out.size)
              clear hb6
              go_wp2_with fail
              go_ret
              rw [HE.out]
              exact ⟨by rw [HB0.out]; first | rfl | simp, HB6.out⟩
set_option maxHeartbeats 16000000 in
theorem ins_callcc (I : ChkIn w cv c p bv x lv dl) {tb : Bool} (hop : x.op = sCallcc) (htoo : regsB p [x.to] = tb) (hE : insB c p x = false) :
    Calls Try.prog 28 #[.agg #[cv], procV p bv, insV x lv dl] w fun e w' => e = .returned (.bool (insB c p x)) ∧ Below w.heap.size w w' := by
  obtain ⟨w3, hw3, A⟩ := InsAt.of w cv c p bv x lv dl
  obtain ⟨acv, ncv, rfl⟩ := I.cvl
  obtain ⟨ab, cb, rfl⟩ := I.bvl
  obtain ⟨al, cl, hlv⟩ := I.args.len
  subst hlv
  obtain ⟨da, dc, hdv, _⟩ := I.dat.inv
  have hdl : dl = .slice da x.const.list.length dc := by simpa using hdv
  subst hdl
  have hil : (ints x.args).length = x.args.length := by simp [ints]
  have hargs := I.args
  rw [hil] at hargs A hw3 ⊢
  have hkl : x.const.list.length ≤ 9223372036854775807 := fit_len I.fit
  have HEQ := Lib.hid (equal_bare x.const.kind x.const.int x.const.text da x.const.list.length dc hkl)
  have HB0 : Hid (bare x.const = (decide (x.const.kind = 0) && decide (x.const.int = 0) && decide (x.const.text = ⟨#[]⟩) && decide (x.const.list.length = 0))) := rfl
  have hs3 := A.size
  have HAR := Lib.hid (arity_any x.op w3)
  have HI := Lib.hid I
  have HA := Lib.hid A
  have HW3 := Lib.hid hw3
  have HARGS := Lib.hid hargs
  obtain ⟨op, xt, args, const, num⟩ := x
  dsimp only at *
  subst hop
  unfold sCallcc at *
  have HE := Lib.hid hE
  clear hE
  have hrg := regs_any p (.slice ab p.blocks.length cb) ⟨_, _, _, rfl⟩ (.slice (some ⟨w3.heap.size, 0, none⟩) 1 1) [xt] ((w3.alloc (.cells #[.int .i64 xt] 3)).drew) (sl_one xt _) (by simp)
  rw [htoo] at hrg
  have HRG := Lib.hid hrg
  unfold procV at HRG
  have p0 := cell_of_row w3 (w.heap.size + 1) 0 _ _ _ A.bp
  have p1 := cell_of_row w3 (w.heap.size + 1) 1 _ _ _ A.bp
  have p2 := cell_of_row w3 (w.heap.size + 1) 2 _ _ _ A.bp
  have p3 := cell_of_row w3 (w.heap.size + 1) 3 _ _ _ A.bp
  have x0 := cell_of_row w3 (w.heap.size + 1 + 1) 0 _ _ _ A.bx
  have x1 := cell_of_row w3 (w.heap.size + 1 + 1) 1 _ _ _ A.bx
  have x7 := cell_of_row w3 (w.heap.size + 1 + 1) 7 _ _ _ A.bx
  simp only [List.getElem?_toArray, List.getElem?_cons_zero, List.getElem?_cons_succ] at p0 p1 p2 p3 x0 x1 x7
  have hl0 : w.heap.size < w3.heap.size := by omega
  have hl1 : w.heap.size + 1 < w3.heap.size := by omega
  have hl2 : w.heap.size + 1 + 1 < w3.heap.size := by omega
  have HF : Hid (InsS w3 w.heap.size p (.slice ab p.blocks.length cb) xt num) := ⟨p0, p1, p2, p3, x1, x7⟩
  have HFA : Hid (∀ o : Obj, InsS (w3.alloc o) w.heap.size p (.slice ab p.blocks.length cb) xt num) := fun o => HF.out.alloc o
  have HS3 := Lib.hid hs3
  clear I A hw3 hargs hrg hdv hs3
  unfold procV insV
  dsimp only
  go_enter Try.func28, Try.ntmps28
  go_wp2_with fail
  rw [← HW3.out]
  with_reducible refine HAR.out.mono ?_
  rintro e w3' ⟨rfl, rfl⟩
  go_wp2_with fail
  go_region_held3 (fun w' => w'.cell? ⟨w.heap.size + 1, 0, none⟩ = some (.int .i64 p.params) ∧ w'.cell? ⟨w.heap.size + 1, 1, none⟩ = some (.int .i64 p.holds) ∧ w'.cell? ⟨w.heap.size + 1, 2, none⟩ = some (.int .i64 p.regs) ∧ w'.cell? ⟨w.heap.size + 1, 3, none⟩ = some (.slice ab p.blocks.length cb) ∧ w'.cell? ⟨w.heap.size + 1 + 1, 1, none⟩ = some (.int .i64 xt) ∧ w'.cell? ⟨w.heap.size + 1 + 1, 7, none⟩ = some (.int .i64 num))
    (first | with_reducible exact HF.out | with_reducible exact HFA.out _ | with_reducible exact HF4.out | exact HF.out | exact HFA.out _)
    (first
      | (go_at_call 43; (with_reducible refine HRG.out.mono ?_); rintro e w4 ⟨rfl, hb4'⟩; have hb4 : Below w3.heap.size w3 w4 := (((Below.refl _ _).alloc (Nat.le_refl _) _).drew).trans (hb4'.mono (by rw [two_size0]; exact Nat.le_succ _)); have bc4 := (hb4.block w.heap.size hl0).trans HA.out.bc; have bp4 := (hb4.block (w.heap.size + 1) hl1).trans HA.out.bp; have bx4 := (hb4.block (w.heap.size + 1 + 1) hl2).trans HA.out.bx; have y0 := cell_of_row w4 _ 0 _ _ _ bp4; have y1 := cell_of_row w4 _ 1 _ _ _ bp4; have y2 := cell_of_row w4 _ 2 _ _ _ bp4; have y3 := cell_of_row w4 _ 3 _ _ _ bp4; have v0 := cell_of_row w4 _ 0 _ _ _ bx4; have v1 := cell_of_row w4 _ 1 _ _ _ bx4; have v2 := cell_of_row w4 _ 2 _ _ _ bx4; have v3 := cell_of_row w4 _ 3 _ _ _ bx4; have v4 := cell_of_row w4 _ 4 _ _ _ bx4; have v5 := cell_of_row w4 _ 5 _ _ _ bx4; have v6 := cell_of_row w4 _ 6 _ _ _ bx4; have v7 := cell_of_row w4 _ 7 _ _ _ bx4; have u0 := cell_of_row w4 _ 0 _ _ _ bc4; simp only [List.getElem?_toArray, List.getElem?_cons_zero, List.getElem?_cons_succ] at y0 y1 y2 y3 v0 v1 v2 v3 v4 v5 v6 v7 u0; have HF4 := Lib.hid (And.intro y0 (And.intro y1 (And.intro y2 (And.intro y3 (And.intro v1 v7))))); have HB4 := Lib.hid hb4; have HBX := Lib.hid bx4; have hq4 : w.heap.size + 1 + 1 < w4.heap.size := Nat.lt_of_lt_of_le hl2 hb4.size; have hs4 := hb4.size; clear hb4 hb4' bc4 bp4 bx4))
  all_goals
    have HBB : Hid (Below w.heap.size w w4) := HA.out.below.trans (HB4.out.mono HA.out.below.size)
    go_wp2_with fail
    go_ret
    rw [HE.out]
    exact ⟨by first | rfl | simp, HBB.out⟩
set_option maxHeartbeats 16000000 in
theorem ins_closure_a (I : ChkIn w cv c p bv x lv dl) {tb : Bool} (hop : x.op = sClosure) (htoo : regsB p [x.to] = tb) (hg1 : decide (x.num < 1) = true) (hE : insB c p x = false) :
    Calls Try.prog 28 #[.agg #[cv], procV p bv, insV x lv dl] w fun e w' => e = .returned (.bool (insB c p x)) ∧ Below w.heap.size w w' := by
  obtain ⟨w3, hw3, A⟩ := InsAt.of w cv c p bv x lv dl
  obtain ⟨acv, ncv, rfl⟩ := I.cvl
  obtain ⟨ab, cb, rfl⟩ := I.bvl
  obtain ⟨al, cl, hlv⟩ := I.args.len
  subst hlv
  obtain ⟨da, dc, hdv, _⟩ := I.dat.inv
  have hdl : dl = .slice da x.const.list.length dc := by simpa using hdv
  subst hdl
  have hil : (ints x.args).length = x.args.length := by simp [ints]
  have hargs := I.args
  rw [hil] at hargs A hw3 ⊢
  have hkl : x.const.list.length ≤ 9223372036854775807 := fit_len I.fit
  have HEQ := Lib.hid (equal_bare x.const.kind x.const.int x.const.text da x.const.list.length dc hkl)
  have HB0 : Hid (bare x.const = (decide (x.const.kind = 0) && decide (x.const.int = 0) && decide (x.const.text = ⟨#[]⟩) && decide (x.const.list.length = 0))) := rfl
  have hs3 := A.size
  have HAR := Lib.hid (arity_any x.op w3)
  have HI := Lib.hid I
  have HA := Lib.hid A
  have HW3 := Lib.hid hw3
  have HARGS := Lib.hid hargs
  obtain ⟨op, xt, args, const, num⟩ := x
  dsimp only at *
  subst hop
  unfold sClosure at *
  have HE := Lib.hid hE
  clear hE
  have hrg := regs_any p (.slice ab p.blocks.length cb) ⟨_, _, _, rfl⟩ (.slice (some ⟨w3.heap.size, 0, none⟩) 1 1) [xt] ((w3.alloc (.cells #[.int .i64 xt] 3)).drew) (sl_one xt _) (by simp)
  rw [htoo] at hrg
  have HRG := Lib.hid hrg
  unfold procV at HRG
  have p0 := cell_of_row w3 (w.heap.size + 1) 0 _ _ _ A.bp
  have p1 := cell_of_row w3 (w.heap.size + 1) 1 _ _ _ A.bp
  have p2 := cell_of_row w3 (w.heap.size + 1) 2 _ _ _ A.bp
  have p3 := cell_of_row w3 (w.heap.size + 1) 3 _ _ _ A.bp
  have x0 := cell_of_row w3 (w.heap.size + 1 + 1) 0 _ _ _ A.bx
  have x1 := cell_of_row w3 (w.heap.size + 1 + 1) 1 _ _ _ A.bx
  have x7 := cell_of_row w3 (w.heap.size + 1 + 1) 7 _ _ _ A.bx
  simp only [List.getElem?_toArray, List.getElem?_cons_zero, List.getElem?_cons_succ] at p0 p1 p2 p3 x0 x1 x7
  have hl0 : w.heap.size < w3.heap.size := by omega
  have hl1 : w.heap.size + 1 < w3.heap.size := by omega
  have hl2 : w.heap.size + 1 + 1 < w3.heap.size := by omega
  have HF : Hid (InsS w3 w.heap.size p (.slice ab p.blocks.length cb) xt num) := ⟨p0, p1, p2, p3, x1, x7⟩
  have HFA : Hid (∀ o : Obj, InsS (w3.alloc o) w.heap.size p (.slice ab p.blocks.length cb) xt num) := fun o => HF.out.alloc o
  have HS3 := Lib.hid hs3
  clear I A hw3 hargs hrg hdv hs3
  unfold procV insV
  dsimp only
  go_enter Try.func28, Try.ntmps28
  go_wp2_with fail
  rw [← HW3.out]
  with_reducible refine HAR.out.mono ?_
  rintro e w3' ⟨rfl, rfl⟩
  go_wp2_with fail
  go_region_held3 (fun w' => w'.cell? ⟨w.heap.size + 1, 0, none⟩ = some (.int .i64 p.params) ∧ w'.cell? ⟨w.heap.size + 1, 1, none⟩ = some (.int .i64 p.holds) ∧ w'.cell? ⟨w.heap.size + 1, 2, none⟩ = some (.int .i64 p.regs) ∧ w'.cell? ⟨w.heap.size + 1, 3, none⟩ = some (.slice ab p.blocks.length cb) ∧ w'.cell? ⟨w.heap.size + 1 + 1, 1, none⟩ = some (.int .i64 xt) ∧ w'.cell? ⟨w.heap.size + 1 + 1, 7, none⟩ = some (.int .i64 num))
    (first | with_reducible exact HF.out | with_reducible exact HFA.out _ | with_reducible exact HF4.out | exact HF.out | exact HFA.out _)
    (first
      | (go_at_call 43; (with_reducible refine HRG.out.mono ?_); rintro e w4 ⟨rfl, hb4'⟩; have hb4 : Below w3.heap.size w3 w4 := (((Below.refl _ _).alloc (Nat.le_refl _) _).drew).trans (hb4'.mono (by rw [two_size0]; exact Nat.le_succ _)); have bc4 := (hb4.block w.heap.size hl0).trans HA.out.bc; have bp4 := (hb4.block (w.heap.size + 1) hl1).trans HA.out.bp; have bx4 := (hb4.block (w.heap.size + 1 + 1) hl2).trans HA.out.bx; have y0 := cell_of_row w4 _ 0 _ _ _ bp4; have y1 := cell_of_row w4 _ 1 _ _ _ bp4; have y2 := cell_of_row w4 _ 2 _ _ _ bp4; have y3 := cell_of_row w4 _ 3 _ _ _ bp4; have v0 := cell_of_row w4 _ 0 _ _ _ bx4; have v1 := cell_of_row w4 _ 1 _ _ _ bx4; have v2 := cell_of_row w4 _ 2 _ _ _ bx4; have v3 := cell_of_row w4 _ 3 _ _ _ bx4; have v4 := cell_of_row w4 _ 4 _ _ _ bx4; have v5 := cell_of_row w4 _ 5 _ _ _ bx4; have v6 := cell_of_row w4 _ 6 _ _ _ bx4; have v7 := cell_of_row w4 _ 7 _ _ _ bx4; have u0 := cell_of_row w4 _ 0 _ _ _ bc4; simp only [List.getElem?_toArray, List.getElem?_cons_zero, List.getElem?_cons_succ] at y0 y1 y2 y3 v0 v1 v2 v3 v4 v5 v6 v7 u0; have HF4 := Lib.hid (And.intro y0 (And.intro y1 (And.intro y2 (And.intro y3 (And.intro v1 v7))))); have HB4 := Lib.hid hb4; have HBX := Lib.hid bx4; have hq4 : w.heap.size + 1 + 1 < w4.heap.size := Nat.lt_of_lt_of_le hl2 hb4.size; have hs4 := hb4.size; clear hb4 hb4' bc4 bp4 bx4))
  all_goals
    have HBB : Hid (Below w.heap.size w w4) := HA.out.below.trans (HB4.out.mono HA.out.below.size)
    go_wp2_with fail
    go_ret
    rw [HE.out]
    exact ⟨by first | rfl | simp, HBB.out⟩
set_option maxHeartbeats 16000000 in
theorem ins_closure_b (I : ChkIn w cv c p bv x lv dl) {tb : Bool} (hop : x.op = sClosure) (htoo : regsB p [x.to] = tb) (hg1 : decide (x.num < 1) = false) (hg2 : decide ((c.length : Int) ≤ x.num) = true) (hE : insB c p x = false) :
    Calls Try.prog 28 #[.agg #[cv], procV p bv, insV x lv dl] w fun e w' => e = .returned (.bool (insB c p x)) ∧ Below w.heap.size w w' := by
  obtain ⟨w3, hw3, A⟩ := InsAt.of w cv c p bv x lv dl
  obtain ⟨acv, ncv, rfl⟩ := I.cvl
  obtain ⟨ab, cb, rfl⟩ := I.bvl
  obtain ⟨al, cl, hlv⟩ := I.args.len
  subst hlv
  obtain ⟨da, dc, hdv, _⟩ := I.dat.inv
  have hdl : dl = .slice da x.const.list.length dc := by simpa using hdv
  subst hdl
  have hil : (ints x.args).length = x.args.length := by simp [ints]
  have hargs := I.args
  rw [hil] at hargs A hw3 ⊢
  have hkl : x.const.list.length ≤ 9223372036854775807 := fit_len I.fit
  have HEQ := Lib.hid (equal_bare x.const.kind x.const.int x.const.text da x.const.list.length dc hkl)
  have HB0 : Hid (bare x.const = (decide (x.const.kind = 0) && decide (x.const.int = 0) && decide (x.const.text = ⟨#[]⟩) && decide (x.const.list.length = 0))) := rfl
  have hs3 := A.size
  have HAR := Lib.hid (arity_any x.op w3)
  have HI := Lib.hid I
  have HA := Lib.hid A
  have HW3 := Lib.hid hw3
  have HARGS := Lib.hid hargs
  obtain ⟨op, xt, args, const, num⟩ := x
  dsimp only at *
  subst hop
  unfold sClosure at *
  have HE := Lib.hid hE
  clear hE
  have hrg := regs_any p (.slice ab p.blocks.length cb) ⟨_, _, _, rfl⟩ (.slice (some ⟨w3.heap.size, 0, none⟩) 1 1) [xt] ((w3.alloc (.cells #[.int .i64 xt] 3)).drew) (sl_one xt _) (by simp)
  rw [htoo] at hrg
  have HRG := Lib.hid hrg
  unfold procV at HRG
  have p0 := cell_of_row w3 (w.heap.size + 1) 0 _ _ _ A.bp
  have p1 := cell_of_row w3 (w.heap.size + 1) 1 _ _ _ A.bp
  have p2 := cell_of_row w3 (w.heap.size + 1) 2 _ _ _ A.bp
  have p3 := cell_of_row w3 (w.heap.size + 1) 3 _ _ _ A.bp
  have x0 := cell_of_row w3 (w.heap.size + 1 + 1) 0 _ _ _ A.bx
  have x1 := cell_of_row w3 (w.heap.size + 1 + 1) 1 _ _ _ A.bx
  have x7 := cell_of_row w3 (w.heap.size + 1 + 1) 7 _ _ _ A.bx
  simp only [List.getElem?_toArray, List.getElem?_cons_zero, List.getElem?_cons_succ] at p0 p1 p2 p3 x0 x1 x7
  have hl0 : w.heap.size < w3.heap.size := by omega
  have hl1 : w.heap.size + 1 < w3.heap.size := by omega
  have hl2 : w.heap.size + 1 + 1 < w3.heap.size := by omega
  have HF : Hid (InsS w3 w.heap.size p (.slice ab p.blocks.length cb) xt num) := ⟨p0, p1, p2, p3, x1, x7⟩
  have HFA : Hid (∀ o : Obj, InsS (w3.alloc o) w.heap.size p (.slice ab p.blocks.length cb) xt num) := fun o => HF.out.alloc o
  have HS3 := Lib.hid hs3
  clear I A hw3 hargs hrg hdv hs3
  unfold procV insV
  dsimp only
  go_enter Try.func28, Try.ntmps28
  go_wp2_with fail
  rw [← HW3.out]
  with_reducible refine HAR.out.mono ?_
  rintro e w3' ⟨rfl, rfl⟩
  go_wp2_with fail
  go_region_held3 (fun w' => w'.cell? ⟨w.heap.size + 1, 0, none⟩ = some (.int .i64 p.params) ∧ w'.cell? ⟨w.heap.size + 1, 1, none⟩ = some (.int .i64 p.holds) ∧ w'.cell? ⟨w.heap.size + 1, 2, none⟩ = some (.int .i64 p.regs) ∧ w'.cell? ⟨w.heap.size + 1, 3, none⟩ = some (.slice ab p.blocks.length cb) ∧ w'.cell? ⟨w.heap.size + 1 + 1, 1, none⟩ = some (.int .i64 xt) ∧ w'.cell? ⟨w.heap.size + 1 + 1, 7, none⟩ = some (.int .i64 num))
    (first | with_reducible exact HF.out | with_reducible exact HFA.out _ | with_reducible exact HF4.out | exact HF.out | exact HFA.out _)
    (first
      | (go_at_call 43; (with_reducible refine HRG.out.mono ?_); rintro e w4 ⟨rfl, hb4'⟩; have hb4 : Below w3.heap.size w3 w4 := (((Below.refl _ _).alloc (Nat.le_refl _) _).drew).trans (hb4'.mono (by rw [two_size0]; exact Nat.le_succ _)); have bc4 := (hb4.block w.heap.size hl0).trans HA.out.bc; have bp4 := (hb4.block (w.heap.size + 1) hl1).trans HA.out.bp; have bx4 := (hb4.block (w.heap.size + 1 + 1) hl2).trans HA.out.bx; have y0 := cell_of_row w4 _ 0 _ _ _ bp4; have y1 := cell_of_row w4 _ 1 _ _ _ bp4; have y2 := cell_of_row w4 _ 2 _ _ _ bp4; have y3 := cell_of_row w4 _ 3 _ _ _ bp4; have v0 := cell_of_row w4 _ 0 _ _ _ bx4; have v1 := cell_of_row w4 _ 1 _ _ _ bx4; have v2 := cell_of_row w4 _ 2 _ _ _ bx4; have v3 := cell_of_row w4 _ 3 _ _ _ bx4; have v4 := cell_of_row w4 _ 4 _ _ _ bx4; have v5 := cell_of_row w4 _ 5 _ _ _ bx4; have v6 := cell_of_row w4 _ 6 _ _ _ bx4; have v7 := cell_of_row w4 _ 7 _ _ _ bx4; have u0 := cell_of_row w4 _ 0 _ _ _ bc4; simp only [List.getElem?_toArray, List.getElem?_cons_zero, List.getElem?_cons_succ] at y0 y1 y2 y3 v0 v1 v2 v3 v4 v5 v6 v7 u0; have HF4 := Lib.hid (And.intro y0 (And.intro y1 (And.intro y2 (And.intro y3 (And.intro v1 v7))))); have HB4 := Lib.hid hb4; have HBX := Lib.hid bx4; have hq4 : w.heap.size + 1 + 1 < w4.heap.size := Nat.lt_of_lt_of_le hl2 hb4.size; have hs4 := hb4.size; clear hb4 hb4' bc4 bp4 bx4))
  all_goals
    have HBB : Hid (Below w.heap.size w w4) := HA.out.below.trans (HB4.out.mono HA.out.below.size)
    go_wp2_with fail
    go_ret
    rw [HE.out]
    exact ⟨by first | rfl | simp, HBB.out⟩
set_option maxHeartbeats 16000000 in
theorem ins_closure (I : ChkIn w cv c p bv x lv dl) {q : Prc} {lb tb ra : Bool} (hop : x.op = sClosure) (hn1 : 1 ≤ x.num) (hn2 : x.num < c.length) (hq : c[x.num.toNat]? = some q) (hLb : ((x.args.length : Int) == q.holds) = lb) (htoo : regsB p [x.to] = tb) (hra : regsB p x.args = ra) (hE : insB c p x = (lb && tb && ra && bare x.const)) :
    Calls Try.prog 28 #[.agg #[cv], procV p bv, insV x lv dl] w fun e w' => e = .returned (.bool (insB c p x)) ∧ Below w.heap.size w w' := by
  obtain ⟨w3, hw3, A⟩ := InsAt.of w cv c p bv x lv dl
  obtain ⟨acv, ncv, rfl⟩ := I.cvl
  obtain ⟨ab, cb, rfl⟩ := I.bvl
  obtain ⟨al, cl, hlv⟩ := I.args.len
  subst hlv
  obtain ⟨da, dc, hdv, _⟩ := I.dat.inv
  have hdl : dl = .slice da x.const.list.length dc := by simpa using hdv
  subst hdl
  have hil : (ints x.args).length = x.args.length := by simp [ints]
  have hargs := I.args
  rw [hil] at hargs A hw3 ⊢
  have hkl : x.const.list.length ≤ 9223372036854775807 := fit_len I.fit
  have HEQ := Lib.hid (equal_bare x.const.kind x.const.int x.const.text da x.const.list.length dc hkl)
  have HB0 : Hid (bare x.const = (decide (x.const.kind = 0) && decide (x.const.int = 0) && decide (x.const.text = ⟨#[]⟩) && decide (x.const.list.length = 0))) := rfl
  have hs3 := A.size
  have HAR := Lib.hid (arity_any x.op w3)
  have HI := Lib.hid I
  have HA := Lib.hid A
  have HW3 := Lib.hid hw3
  have HARGS := Lib.hid hargs
  obtain ⟨op, xt, args, const, num⟩ := x
  dsimp only at *
  subst hop
  unfold sClosure at *
  obtain ⟨n, rfl⟩ : ∃ n : Nat, num = n := ⟨num.toNat, by omega⟩
  have hq : c[n]? = some q := hq
  have HQ := Lib.hid hq
  have hn0 : (0 : Int) ≤ n := by omega
  have hg1 : decide ((n : Int) < 1) = false := decide_eq_false (by omega)
  have hg2 : decide ((c.length : Int) ≤ n) = false := decide_eq_false (by omega)
  have hg2b : decide (c.length ≤ n) = false := decide_eq_false (by omega)
  clear hn1 hq
  have HRAV := Lib.hid hra
  clear hra
  have HE := Lib.hid hE
  clear hE
  have hrg := regs_any p (.slice ab p.blocks.length cb) ⟨_, _, _, rfl⟩ (.slice (some ⟨w3.heap.size, 0, none⟩) 1 1) [xt] ((w3.alloc (.cells #[.int .i64 xt] 3)).drew) (sl_one xt _) (by simp)
  rw [htoo] at hrg
  have HRG := Lib.hid hrg
  unfold procV at HRG
  have p0 := cell_of_row w3 (w.heap.size + 1) 0 _ _ _ A.bp
  have p1 := cell_of_row w3 (w.heap.size + 1) 1 _ _ _ A.bp
  have p2 := cell_of_row w3 (w.heap.size + 1) 2 _ _ _ A.bp
  have p3 := cell_of_row w3 (w.heap.size + 1) 3 _ _ _ A.bp
  have x0 := cell_of_row w3 (w.heap.size + 1 + 1) 0 _ _ _ A.bx
  have x1 := cell_of_row w3 (w.heap.size + 1 + 1) 1 _ _ _ A.bx
  have x7 := cell_of_row w3 (w.heap.size + 1 + 1) 7 _ _ _ A.bx
  simp only [List.getElem?_toArray, List.getElem?_cons_zero, List.getElem?_cons_succ] at p0 p1 p2 p3 x0 x1 x7
  have hl0 : w.heap.size < w3.heap.size := by omega
  have hl1 : w.heap.size + 1 < w3.heap.size := by omega
  have hl2 : w.heap.size + 1 + 1 < w3.heap.size := by omega
  have HF : Hid (InsS w3 w.heap.size p (.slice ab p.blocks.length cb) xt (n : Nat)) := ⟨p0, p1, p2, p3, x1, x7⟩
  have HFA : Hid (∀ o : Obj, InsS (w3.alloc o) w.heap.size p (.slice ab p.blocks.length cb) xt (n : Nat)) := fun o => HF.out.alloc o
  have HS3 := Lib.hid hs3
  clear I A hw3 hargs hrg hdv hs3
  unfold procV insV
  dsimp only
  go_enter Try.func28, Try.ntmps28
  go_wp2_with fail
  rw [← HW3.out]
  with_reducible refine HAR.out.mono ?_
  rintro e w3' ⟨rfl, rfl⟩
  go_wp2_with fail
  go_region_held3 (fun w' => w'.cell? ⟨w.heap.size + 1, 0, none⟩ = some (.int .i64 p.params) ∧ w'.cell? ⟨w.heap.size + 1, 1, none⟩ = some (.int .i64 p.holds) ∧ w'.cell? ⟨w.heap.size + 1, 2, none⟩ = some (.int .i64 p.regs) ∧ w'.cell? ⟨w.heap.size + 1, 3, none⟩ = some (.slice ab p.blocks.length cb) ∧ w'.cell? ⟨w.heap.size + 1 + 1, 1, none⟩ = some (.int .i64 xt) ∧ w'.cell? ⟨w.heap.size + 1 + 1, 7, none⟩ = some (.int .i64 (n : Nat)))
    (first | with_reducible exact HF.out | with_reducible exact HFA.out _ | with_reducible exact HF4.out | exact HF.out | exact HFA.out _)
    (first
      | (go_at_call 43; (with_reducible refine HRG.out.mono ?_); rintro e w4 ⟨rfl, hb4'⟩; have hb4 : Below w3.heap.size w3 w4 := (((Below.refl _ _).alloc (Nat.le_refl _) _).drew).trans (hb4'.mono (by rw [two_size0]; exact Nat.le_succ _)); have bc4 := (hb4.block w.heap.size hl0).trans HA.out.bc; have bp4 := (hb4.block (w.heap.size + 1) hl1).trans HA.out.bp; have bx4 := (hb4.block (w.heap.size + 1 + 1) hl2).trans HA.out.bx; have y0 := cell_of_row w4 _ 0 _ _ _ bp4; have y1 := cell_of_row w4 _ 1 _ _ _ bp4; have y2 := cell_of_row w4 _ 2 _ _ _ bp4; have y3 := cell_of_row w4 _ 3 _ _ _ bp4; have v0 := cell_of_row w4 _ 0 _ _ _ bx4; have v1 := cell_of_row w4 _ 1 _ _ _ bx4; have v2 := cell_of_row w4 _ 2 _ _ _ bx4; have v3 := cell_of_row w4 _ 3 _ _ _ bx4; have v4 := cell_of_row w4 _ 4 _ _ _ bx4; have v5 := cell_of_row w4 _ 5 _ _ _ bx4; have v6 := cell_of_row w4 _ 6 _ _ _ bx4; have v7 := cell_of_row w4 _ 7 _ _ _ bx4; have u0 := cell_of_row w4 _ 0 _ _ _ bc4; simp only [List.getElem?_toArray, List.getElem?_cons_zero, List.getElem?_cons_succ] at y0 y1 y2 y3 v0 v1 v2 v3 v4 v5 v6 v7 u0; have HF4 := Lib.hid (And.intro y0 (And.intro y1 (And.intro y2 (And.intro y3 (And.intro v1 v7))))); have HB4 := Lib.hid hb4; have HBX := Lib.hid bx4; have hq4 : w.heap.size + 1 + 1 < w4.heap.size := Nat.lt_of_lt_of_le hl2 hb4.size; have hs4 := hb4.size; clear hb4 hb4' bc4 bp4 bx4))
  all_goals
    have HBB : Hid (Below w.heap.size w w4) := HA.out.below.trans (HB4.out.mono HA.out.below.size)
    obtain ⟨bc, oc, cap2, ecv, hbc, hPq⟩ := code_at HI.out.code HQ.out HBB.out
    cases ecv
    have nn1 := hPq.c1
    have hbcw : bc < w4.heap.size := block_lt_of_cell nn1
    clear hPq
    cases lb
    · go_wp2_with fail
      go_ret
      rw [HE.out]
      exact ⟨by first | rfl | simp, HBB.out⟩
    · cases tb
      · go_wp2_with fail
        go_ret
        rw [HE.out]
        exact ⟨by first | rfl | simp, HBB.out⟩
      · have hra0 := regs_any p (.slice ab p.blocks.length cb) ⟨_, _, _, rfl⟩ (.slice al args.length cl) args w4 (HARGS.out.below HBB.out (Nat.le_refl _)) HI.out.few
        rw [HRAV.out] at hra0
        have HRA := Lib.hid hra0
        unfold procV at HRA
        clear hra0
        cases ra
        · go_wp2_with fail
          with_reducible refine HRA.out.mono ?_
          rintro e w5 ⟨rfl, hb5⟩
          have hbx5 := (hb5.block (w.heap.size + 1 + 1) hq4).trans HBX.out
          have z3 := cell_of_row w5 _ 3 _ _ _ hbx5
          have z4 := cell_of_row w5 _ 4 _ _ _ hbx5
          have z5 := cell_of_row w5 _ 5 _ _ _ hbx5
          have z6 := cell_of_row w5 _ 6 _ _ _ hbx5
          simp only [List.getElem?_toArray, List.getElem?_cons_zero, List.getElem?_cons_succ] at z3 z4 z5 z6
          have hq5 : w.heap.size + 1 + 1 < w5.heap.size := Nat.lt_of_lt_of_le hq4 hb5.size
          have HB5 : Hid (Below w.heap.size w w5) := HBB.out.trans (hb5.mono HBB.out.size)
          clear hb5 hbx5
          go_wp2_with fail
          go_ret
          rw [HE.out]
          exact ⟨by first | rfl | simp, HB5.out⟩
        · go_wp2_with fail
          with_reducible refine HRA.out.mono ?_
          rintro e w5 ⟨rfl, hb5⟩
          have hbx5 := (hb5.block (w.heap.size + 1 + 1) hq4).trans HBX.out
          have z3 := cell_of_row w5 _ 3 _ _ _ hbx5
          have z4 := cell_of_row w5 _ 4 _ _ _ hbx5
          have z5 := cell_of_row w5 _ 5 _ _ _ hbx5
          have z6 := cell_of_row w5 _ 6 _ _ _ hbx5
          simp only [List.getElem?_toArray, List.getElem?_cons_zero, List.getElem?_cons_succ] at z3 z4 z5 z6
          have hq5 : w.heap.size + 1 + 1 < w5.heap.size := Nat.lt_of_lt_of_le hq4 hb5.size
          have HB5 : Hid (Below w.heap.size w w5) := HBB.out.trans (hb5.mono HBB.out.size)
          clear hb5 hbx5
          go_wp2_with fail
          with_reducible refine (HEQ.out _).mono ?_
          rintro e w6 ⟨rfl, hb6⟩
          have HB6 : Hid (Below w.heap.size w w6) := HB5.out.trans (hb6.mono HB5.out.size)
          clear hb6
          go_wp2_with fail
          go_ret
          rw [HE.out]
          exact ⟨by rw [HB0.out]; first | rfl | simp, HB6.out⟩
set_option maxHeartbeats 16000000 in
theorem ins_const (I : ChkIn w cv c p bv x lv dl) {lb nb tb : Bool} (hop : x.op = sConst) (hLb : ((x.args.length : Int) == 0) = lb) (hnb : (x.num == 0) = nb) (htoo : regsB p [x.to] = tb) (hE : insB c p x = (lb && nb && tb && (constF x.const).2)) :
    Calls Try.prog 28 #[.agg #[cv], procV p bv, insV x lv dl] w fun e w' => e = .returned (.bool (insB c p x)) ∧ Below w.heap.size w w' := by
  obtain ⟨w3, hw3, A⟩ := InsAt.of w cv c p bv x lv dl
  obtain ⟨acv, ncv, rfl⟩ := I.cvl
  obtain ⟨ab, cb, rfl⟩ := I.bvl
  obtain ⟨al, cl, hlv⟩ := I.args.len
  subst hlv
  obtain ⟨da, dc, hdv, _⟩ := I.dat.inv
  have hdl : dl = .slice da x.const.list.length dc := by simpa using hdv
  subst hdl
  have hil : (ints x.args).length = x.args.length := by simp [ints]
  have hargs := I.args
  rw [hil] at hargs A hw3 ⊢
  have hkl : x.const.list.length ≤ 9223372036854775807 := fit_len I.fit
  have HEQ := Lib.hid (equal_bare x.const.kind x.const.int x.const.text da x.const.list.length dc hkl)
  have HB0 : Hid (bare x.const = (decide (x.const.kind = 0) && decide (x.const.int = 0) && decide (x.const.text = ⟨#[]⟩) && decide (x.const.list.length = 0))) := rfl
  have hs3 := A.size
  have HAR := Lib.hid (arity_any x.op w3)
  have HI := Lib.hid I
  have HA := Lib.hid A
  have HW3 := Lib.hid hw3
  have HARGS := Lib.hid hargs
  obtain ⟨op, xt, args, const, num⟩ := x
  dsimp only at *
  subst hop
  unfold sConst at *
  have HE := Lib.hid hE
  clear hE
  have hrg := regs_any p (.slice ab p.blocks.length cb) ⟨_, _, _, rfl⟩ (.slice (some ⟨w3.heap.size, 0, none⟩) 1 1) [xt] ((w3.alloc (.cells #[.int .i64 xt] 3)).drew) (sl_one xt _) (by simp)
  rw [htoo] at hrg
  have HRG := Lib.hid hrg
  unfold procV at HRG
  have p0 := cell_of_row w3 (w.heap.size + 1) 0 _ _ _ A.bp
  have p1 := cell_of_row w3 (w.heap.size + 1) 1 _ _ _ A.bp
  have p2 := cell_of_row w3 (w.heap.size + 1) 2 _ _ _ A.bp
  have p3 := cell_of_row w3 (w.heap.size + 1) 3 _ _ _ A.bp
  have x0 := cell_of_row w3 (w.heap.size + 1 + 1) 0 _ _ _ A.bx
  have x1 := cell_of_row w3 (w.heap.size + 1 + 1) 1 _ _ _ A.bx
  have x7 := cell_of_row w3 (w.heap.size + 1 + 1) 7 _ _ _ A.bx
  simp only [List.getElem?_toArray, List.getElem?_cons_zero, List.getElem?_cons_succ] at p0 p1 p2 p3 x0 x1 x7
  have hl0 : w.heap.size < w3.heap.size := by omega
  have hl1 : w.heap.size + 1 < w3.heap.size := by omega
  have hl2 : w.heap.size + 1 + 1 < w3.heap.size := by omega
  have HF : Hid (InsS w3 w.heap.size p (.slice ab p.blocks.length cb) xt num) := ⟨p0, p1, p2, p3, x1, x7⟩
  have HFA : Hid (∀ o : Obj, InsS (w3.alloc o) w.heap.size p (.slice ab p.blocks.length cb) xt num) := fun o => HF.out.alloc o
  have HS3 := Lib.hid hs3
  clear I A hw3 hargs hrg hdv hs3
  unfold procV insV
  dsimp only
  go_enter Try.func28, Try.ntmps28
  go_wp2_with fail
  rw [← HW3.out]
  with_reducible refine HAR.out.mono ?_
  rintro e w3' ⟨rfl, rfl⟩
  go_wp2_with fail
  go_region_held3 (fun w' => w'.cell? ⟨w.heap.size + 1, 0, none⟩ = some (.int .i64 p.params) ∧ w'.cell? ⟨w.heap.size + 1, 1, none⟩ = some (.int .i64 p.holds) ∧ w'.cell? ⟨w.heap.size + 1, 2, none⟩ = some (.int .i64 p.regs) ∧ w'.cell? ⟨w.heap.size + 1, 3, none⟩ = some (.slice ab p.blocks.length cb) ∧ w'.cell? ⟨w.heap.size + 1 + 1, 1, none⟩ = some (.int .i64 xt) ∧ w'.cell? ⟨w.heap.size + 1 + 1, 7, none⟩ = some (.int .i64 num))
    (first | with_reducible exact HF.out | with_reducible exact HFA.out _ | with_reducible exact HF4.out | exact HF.out | exact HFA.out _)
    (first
      | (go_at_call 43; (with_reducible refine HRG.out.mono ?_); rintro e w4 ⟨rfl, hb4'⟩; have hb4 : Below w3.heap.size w3 w4 := (((Below.refl _ _).alloc (Nat.le_refl _) _).drew).trans (hb4'.mono (by rw [two_size0]; exact Nat.le_succ _)); have bc4 := (hb4.block w.heap.size hl0).trans HA.out.bc; have bp4 := (hb4.block (w.heap.size + 1) hl1).trans HA.out.bp; have bx4 := (hb4.block (w.heap.size + 1 + 1) hl2).trans HA.out.bx; have y0 := cell_of_row w4 _ 0 _ _ _ bp4; have y1 := cell_of_row w4 _ 1 _ _ _ bp4; have y2 := cell_of_row w4 _ 2 _ _ _ bp4; have y3 := cell_of_row w4 _ 3 _ _ _ bp4; have v0 := cell_of_row w4 _ 0 _ _ _ bx4; have v1 := cell_of_row w4 _ 1 _ _ _ bx4; have v2 := cell_of_row w4 _ 2 _ _ _ bx4; have v3 := cell_of_row w4 _ 3 _ _ _ bx4; have v4 := cell_of_row w4 _ 4 _ _ _ bx4; have v5 := cell_of_row w4 _ 5 _ _ _ bx4; have v6 := cell_of_row w4 _ 6 _ _ _ bx4; have v7 := cell_of_row w4 _ 7 _ _ _ bx4; have u0 := cell_of_row w4 _ 0 _ _ _ bc4; simp only [List.getElem?_toArray, List.getElem?_cons_zero, List.getElem?_cons_succ] at y0 y1 y2 y3 v0 v1 v2 v3 v4 v5 v6 v7 u0; have HF4 := Lib.hid (And.intro y0 (And.intro y1 (And.intro y2 (And.intro y3 (And.intro v1 v7))))); have HB4 := Lib.hid hb4; have HBX := Lib.hid bx4; have hq4 : w.heap.size + 1 + 1 < w4.heap.size := Nat.lt_of_lt_of_le hl2 hb4.size; have hs4 := hb4.size; clear hb4 hb4' bc4 bp4 bx4))
  all_goals
    have HBB : Hid (Below w.heap.size w w4) := HA.out.below.trans (HB4.out.mono HA.out.below.size)
    cases lb
    · go_wp2_with fail
      go_ret
      rw [HE.out]
      exact ⟨by first | rfl | simp, HBB.out⟩
    · cases nb
      · go_wp2_with fail
        go_ret
        rw [HE.out]
        exact ⟨by first | rfl | simp, HBB.out⟩
      · cases tb
        · go_wp2_with fail
          go_ret
          rw [HE.out]
          exact ⟨by first | rfl | simp, HBB.out⟩
        · have HIC := Lib.hid (isConst_any const _ w4 (HI.out.dat.bel HBB.out (Nat.le_refl _)) HI.out.fit)
          go_wp2_with fail
          with_reducible refine HIC.out.mono ?_
          rintro e w5 ⟨rfl, hb5⟩
          have HB5 : Hid (Below w.heap.size w w5) := HBB.out.trans (hb5.mono HBB.out.size)
          clear hb5
          go_wp2_with fail
          go_ret
          rw [HE.out]
          exact ⟨by first | rfl | simp, HB5.out⟩
theorem len_dec (n k : Nat) : decide (n = k) = ((n : Int) == (k : Int)) := by
  rw [Bool.eq_iff_iff]
  simp only [decide_eq_true_eq, beq_iff_eq]
  omega
theorem ins_any (I : ChkIn w cv c p bv x lv dl) : Calls Try.prog 28 #[.agg #[cv], procV p bv, insV x lv dl] w fun e w' => e = .returned (.bool (insB c p x)) ∧ Below w.heap.size w w' := by
  by_cases e1 : x.op = sConst
  · exact ins_const I e1 rfl rfl rfl (by unfold insB; rw [if_pos e1, len_dec]; rfl)
  by_cases e2 : x.op = sMove
  · exact ins_move I e2 rfl rfl rfl rfl (by unfold insB; rw [if_neg e1, if_pos e2, len_dec]; rfl)
  by_cases e3 : x.op = sHeld
  · exact ins_held I e3 rfl rfl rfl rfl rfl (by unfold insB; rw [if_neg e1, if_neg e2, if_pos e3, len_dec]; rfl)
  by_cases e4 : x.op = sClosure
  · have hE0 : insB c p x = ((decide (1 ≤ x.num) && decide (x.num < c.length)) && (match c[x.num.toNat]? with | some q => decide ((x.args.length : Int) = q.holds) | none => false) && regsB p [x.to] && regsB p x.args && bare x.const) := by
      unfold insB
      rw [if_neg e1, if_neg e2, if_neg e3, if_pos e4]
      cases c[x.num.toNat]? <;> rfl
    cases h1 : decide (x.num < 1) with
    | true =>
      have : decide (1 ≤ x.num) = false := decide_eq_false (by have := of_decide_eq_true h1; omega)
      exact ins_closure_a I e4 rfl h1 (by rw [hE0, this]; rfl)
    | false =>
      have g1 : 1 ≤ x.num := by have := of_decide_eq_false h1; omega
      cases h2 : decide ((c.length : Int) ≤ x.num) with
      | true =>
        have : decide (x.num < c.length) = false := decide_eq_false (by have := of_decide_eq_true h2; omega)
        exact ins_closure_b I e4 rfl h1 h2 (by rw [hE0, this, Bool.and_false]; rfl)
      | false =>
        have g2 : x.num < c.length := by have := of_decide_eq_false h2; omega
        obtain ⟨q, hq⟩ : ∃ q, c[x.num.toNat]? = some q := ⟨_, List.getElem?_eq_getElem (by omega)⟩
        exact ins_closure I e4 g1 g2 hq rfl rfl rfl (by rw [hE0, decide_eq_true g1, decide_eq_true g2, hq]; rfl)
  by_cases e5 : x.op = sTie
  · exact ins_tie I e5 rfl rfl rfl rfl rfl (by unfold insB; rw [if_neg e1, if_neg e2, if_neg e3, if_neg e4, if_pos e5, len_dec]; rfl)
  by_cases e6 : x.op = sCallcc
  · exact ins_callcc I e6 rfl (by unfold insB; rw [if_neg e1, if_neg e2, if_neg e3, if_neg e4, if_neg e5, if_pos e6])
  · exact ins_else I e1 e2 e3 e4 e5 e6 rfl rfl rfl rfl (by unfold insB; rw [if_neg e1, if_neg e2, if_neg e3, if_neg e4, if_neg e5, if_neg e6]; rfl)
end
end Vm
end Go.Proofs.Ytalfnaielhbocaa
namespace Go.Proofs.Ytalfnaielhbocaa
open Go.RowKit
set_option linter.unusedVariables false
set_option linter.unusedSimpArgs false
set_option maxRecDepth 100000
namespace Vm
section
variable {w0 w w' : World} {ρ ρ' : Nat → Nat} {H : Nat → Value} {m hb mb : Nat} {T : List Hp.Th} {C : List Cl} {out : List UInt8} {regs : List Hp.V} {frs : List Fr} {ov rv fv cv : Value} {cbs : List Nat} {s : St} {left steps : Nat}
def finV (x : Fin) (av : Value) : Value := .agg #[.int .i64 x.kind, .int .i64 x.reg, av, .int .i64 x.to, .int .i64 x.next, .int .i64 x.els]
theorem push_end {w1 w3 : World} {cs : Array Value} {t0 : TypeId} {a3 : Option Addr} {c3 : Nat} {fp : Option Addr} {k : Cl} {ah : Option Addr} {ch t n : Nat} {kind reg els : Int} {args : List Int} (h : VmO w0 w1 ρ H m cv s left steps hb mb ov rv (.pointer fp) cbs) (B : Boxed w w1 cs t0) (hmw : m < w.heap.size) (hB3 : Below w1.heap.size w1 w3)
    (ho : w3.ownsRow w1.heap.size 64 3 (.slice a3 s.regs.length c3) s.regs.length (Hp.flatV s.regs)) (hH : H s.cl = .slice ah k.held.length ch) :
    ((∃ ρ' fv', VmO w0 ((w3.setCell ⟨m, 15, none⟩ (.pointer (some ⟨w3.heap.size, 0, none⟩))).alloc (.cells #[.int .i64 s.proc, .slice a3 s.regs.length c3, .slice ah k.held.length ch, .int .i64 t, .int .i64 n, .pointer fp] 100)) ρ' H m cv (push s ⟨kind, reg, args, t, n, els⟩) left steps hb mb ov rv fv' cbs ∧ ∀ b, b < w.heap.size → ρ b = 0 → ρ' b = 0) ∧
      w.heap.size ≤ ((w3.setCell ⟨m, 15, none⟩ (.pointer (some ⟨w3.heap.size, 0, none⟩))).alloc (.cells #[.int .i64 s.proc, .slice a3 s.regs.length c3, .slice ah k.held.length ch, .int .i64 t, .int .i64 n, .pointer fp] 100)).heap.size ∧
      ∀ b, b < w.heap.size → b ≠ m → ((w3.setCell ⟨m, 15, none⟩ (.pointer (some ⟨w3.heap.size, 0, none⟩))).alloc (.cells #[.int .i64 s.proc, .slice a3 s.regs.length c3, .slice ah k.held.length ch, .int .i64 t, .int .i64 n, .pointer fp] 100)).heap[b]? = w.heap[b]?) ∧
    ∀ i, i ≠ 15 → ((w3.setCell ⟨m, 15, none⟩ (.pointer (some ⟨w3.heap.size, 0, none⟩))).alloc (.cells #[.int .i64 s.proc, .slice a3 s.regs.length c3, .slice ah k.held.length ch, .int .i64 t, .int .i64 n, .pointer fp] 100)).cell? ⟨m, i, none⟩ = w1.cell? ⟨m, i, none⟩ := by
  have X3 := h.bel hB3
  have hm3 := X3.lt
  have hs1 := B.size
  have hs3 := hB3.size
  have hBw : Below w.heap.size w w3 := B.below.trans (hB3.mono B.below.size)
  obtain ⟨w4, B4⟩ := boxed w3 #[.int .i64 s.proc, .slice a3 s.regs.length c3, .slice ah k.held.length ch, .int .i64 t, .int .i64 n, .pointer fp] 100
  have X4 := X3.bel B4.below
  have hs4 := B4.size
  have hz : ∀ b, w1.heap.size ≤ b → ρ b = 0 := fun b hb => Decidable.byContradiction fun e => by have := (h.c.lo _ e).2; omega
  have hw0 : w0.heap.size ≤ w1.heap.size := h.c.below.size
  have hrow4 := (own_same ho fun b e => B4.below.block b (ho.lt b e).2).mono (Nat.zero_le _)
  have hZ := X4.c.froz (S := fun b => b = w3.heap.size ∨ (Value.slice a3 s.regs.length c3).ownBlock = some b) fun b e => by
    rcases e with e | e
    · exact ⟨hz b (by omega), by omega, by omega⟩
    · have := ho.lt b e
      exact ⟨hz b (by omega), by omega, by omega⟩
  have hfr : FrAt w4 (more (fun b => b = w3.heap.size ∨ (Value.slice a3 s.regs.length c3).ownBlock = some b) 6 ρ) H (⟨s.proc, s.regs, s.cl, t, n⟩ :: s.frs) (.pointer (some ⟨w3.heap.size, 0, none⟩)) := by
    refine .cons _ _ _ (.slice a3 s.regs.length c3) (.pointer fp) ?_ (more_yes (.inl rfl)) hrow4 (fun b e => more_yes (.inr e)) hZ.frs
    show w4.heap[w3.heap.size]? = some (.cells #[.int .i64 s.proc, .slice a3 s.regs.length c3, H s.cl, .int .i64 t, .int .i64 n, .pointer fp] 100 (0, 0))
    rw [hH]
    exact B4.blk
  have X5 := X4.set2 (s' := { s with frs := ⟨s.proc, s.regs, s.cl, t, n⟩ :: s.frs }) (left' := left) (steps' := steps) (fv' := .pointer (some ⟨w3.heap.size, 0, none⟩)) (ov' := ov) (rv' := rv) (H' := H) (cbs' := cbs) (hZ.setFrs hfr) 15 (.pointer (some ⟨w3.heap.size, 0, none⟩)) rfl
  have hE : (w3.setCell ⟨m, 15, none⟩ (.pointer (some ⟨w3.heap.size, 0, none⟩))).alloc (.cells #[.int .i64 s.proc, .slice a3 s.regs.length c3, .slice ah k.held.length ch, .int .i64 t, .int .i64 n, .pointer fp] 100) = w4.setCell ⟨m, 15, none⟩ (.pointer (some ⟨w3.heap.size, 0, none⟩)) := by
    rw [B4.eq, World.setCell_alloc_past _ _ _ _ hm3]
  rw [hE]
  refine ⟨⟨⟨_, _, X5, fun b h1 h2 => (more_no fun e => ?_).trans h2⟩, ?_, fun b h1 h2 => ?_⟩, fun i hi => ?_⟩
  · rcases e with e | e
    · omega
    · have := (ho.lt b e).1; omega
  · simp [World.setCell]
    have := hBw.size
    omega
  · rw [heap_setCell_other _ _ _ _ h2, B4.below.block b (by have := hBw.size; omega)]
    exact hBw.block b h1
  · have e1 := X5.cell i
    have e2 := h.cell i
    rw [e1, e2]
    unfold mCells
    have : i < 15 ∨ 15 < i := by omega
    rcases this with h | h
    · match i, h with
      | 0, _ => rfl
      | 1, _ => rfl
      | 2, _ => rfl
      | 3, _ => rfl
      | 4, _ => rfl
      | 5, _ => rfl
      | 6, _ => rfl
      | 7, _ => rfl
      | 8, _ => rfl
      | 9, _ => rfl
      | 10, _ => rfl
      | 11, _ => rfl
      | 12, _ => rfl
      | 13, _ => rfl
      | 14, _ => rfl
    · match i, h with
      | 16, _ => rfl
      | 17, _ => rfl
      | 18, _ => rfl
      | 19, _ => rfl
      | k + 20, _ => rfl
set_option maxHeartbeats 2000000 in
theorem push_any (h : VmO w0 w ρ H m cv s left steps hb mb ov rv fv cbs) (x : Fin) (aa : Option Addr) (na ca : Nat) (hto : 0 ≤ x.to) (hnx : 0 ≤ x.next) (hrl : s.regs.length ≤ 2000) {k : Cl} (hk : k ∈ s.cls) (hkf : k.key = s.cl) :
    Calls Try.prog 57 #[.pointer (some ⟨m, 0, none⟩), finV x (.slice aa na ca)] w fun e w' => e = .returned (.tuple #[]) ∧ (∃ ρ' fv', VmO w0 w' ρ' H m cv (push s x) left steps hb mb ov rv fv' cbs ∧ ∀ b, b < w.heap.size → ρ b = 0 → ρ' b = 0) ∧ w.heap.size ≤ w'.heap.size ∧ ∀ b, b < w.heap.size → b ≠ m → w'.heap[b]? = w.heap[b]? := by
  have hm := h.lt
  obtain ⟨fp, rfl⟩ := h.c.frs.ptr
  obtain ⟨ar, cr, rfl⟩ := own_slice h.c.regs
  obtain ⟨_, _, ah, ch, hH⟩ := h.c.held hk
  rw [hkf] at hH
  obtain ⟨kind, reg, args, xt, next, els⟩ := x
  dsimp only at hto hnx
  obtain ⟨t, rfl⟩ : ∃ t : Nat, xt = t := ⟨xt.toNat, by omega⟩
  obtain ⟨n, rfl⟩ : ∃ n : Nat, next = n := ⟨next.toNat, by omega⟩
  obtain ⟨w1, B⟩ := boxed w #[.int .i64 kind, .int .i64 reg, .slice aa na ca, .int .i64 t, .int .i64 n, .int .i64 els] 45
  have HB := Lib.hid B
  have H1 := h.bel B.below
  have c11 : w1.cell? ⟨m, 11, none⟩ = some (.int .i64 s.proc) := H1.cell 11
  have c12 : w1.cell? ⟨m, 12, none⟩ = some (.slice ar s.regs.length cr) := H1.cell 12
  have c13 : w1.cell? ⟨m, 13, none⟩ = some (.slice ah k.held.length ch) := by rw [← hH]; exact H1.cell 13
  have c15 : w1.cell? ⟨m, 15, none⟩ = some (.pointer fp) := H1.cell 15
  have f15 : w1.frozen? ⟨m, 15, none⟩ = false := H1.fz 15
  have p3 : w1.cell? ⟨w.heap.size, 3, none⟩ = some (.int .i64 t) := cell_of_row w1 w.heap.size 3 _ _ _ B.blk
  have p4 : w1.cell? ⟨w.heap.size, 4, none⟩ = some (.int .i64 n) := cell_of_row w1 w.heap.size 4 _ _ _ B.blk
  have hqm : w.heap.size ≠ m := by omega
  have hm1 := H1.lt
  have hq1 : w.heap.size < w1.heap.size := by have := B.size; omega
  have HVS : Hid (VSl w1.drew (.slice ar s.regs.length cr) s.regs) := VSl.own (w := w1.drew) (own_drewN H1.c.regs 1)
  have HH := Lib.hid H1
  clear h H1 B
  unfold finV
  dsimp only
  go_enter Try.func57, Try.ntmps57
  go_wp2_with fail
  rw [← HB.out.eq]
  have HF : Hid (w1.cell? ⟨m, 11, none⟩ = some (.int .i64 s.proc) ∧ w1.cell? ⟨m, 12, none⟩ = some (.slice ar s.regs.length cr) ∧ w1.cell? ⟨m, 13, none⟩ = some (.slice ah k.held.length ch) ∧ w1.cell? ⟨w.heap.size, 3, none⟩ = some (.int .i64 t) ∧ w1.cell? ⟨w.heap.size, 4, none⟩ = some (.int .i64 n)) := ⟨c11, c12, c13, p3, p4⟩
  refine wp_region_held_drew (S := fun w' => w'.cell? ⟨m, 11, none⟩ = some (.int .i64 s.proc) ∧ w'.cell? ⟨m, 12, none⟩ = some (.slice ar s.regs.length cr) ∧ w'.cell? ⟨m, 13, none⟩ = some (.slice ah k.held.length ch) ∧ w'.cell? ⟨w.heap.size, 3, none⟩ = some (.int .i64 t) ∧ w'.cell? ⟨w.heap.size, 4, none⟩ = some (.int .i64 n)) (by kernel_rfl) HF.out (fun hHeld => ?_)
  refine wpAnyH_take (i := 0) (v := ?v1) rfl (by kernel_rfl) (by kernel_rfl) (by kernel_rfl) (fun _ _ _ h => h) (Or.inl ⟨by rfl, ?hy1⟩) (by assumption) ?r1
  case hy1 => (intro w hSw; (try dsimp only at hSw); go_simp; (try with_reducible rfl))
  try simp only [Act.put, List.getElem_toArray, List.getElem_cons_zero, List.getElem_cons_succ, List.setIfInBounds_toArray, List.set_cons_zero, List.set_cons_succ]
  refine wpAnyH_take (i := 1) (v := ?v2) rfl (by kernel_rfl) (by kernel_rfl) (by kernel_rfl) (fun _ _ _ h => h) (Or.inl ⟨by rfl, ?hy2⟩) (by assumption) ?r2
  case hy2 => (intro w hSw; (try dsimp only at hSw); go_simp; (try with_reducible rfl))
  try simp only [Act.put, List.getElem_toArray, List.getElem_cons_zero, List.getElem_cons_succ, List.setIfInBounds_toArray, List.set_cons_zero, List.set_cons_succ]
  refine wpAnyH_take (i := 2) (v := ?v3) rfl (by kernel_rfl) (by kernel_rfl) (by kernel_rfl) (fun _ _ _ h => h) (Or.inl ⟨by rfl, ?hy3⟩) (by assumption) ?r3
  case hy3 => (intro w hSw; (try dsimp only at hSw); go_simp; (try with_reducible rfl))
  try simp only [Act.put, List.getElem_toArray, List.getElem_cons_zero, List.getElem_cons_succ, List.setIfInBounds_toArray, List.set_cons_zero, List.set_cons_succ]
  refine wpAnyH_take (i := 3) (v := ?v4) rfl (by kernel_rfl) (by kernel_rfl) (by kernel_rfl) (fun _ _ _ h => h) (Or.inl ⟨by rfl, ?hy4⟩) (by assumption) ?r4
  case hy4 => (intro w hSw; (try dsimp only at hSw); go_simp; (try with_reducible rfl))
  try simp only [Act.put, List.getElem_toArray, List.getElem_cons_zero, List.getElem_cons_succ, List.setIfInBounds_toArray, List.set_cons_zero, List.set_cons_succ]
  refine wpAnyH_take (i := 4) (v := ?v5) rfl (by kernel_rfl) (by kernel_rfl) (by kernel_rfl) (fun _ _ _ h => h) (Or.inl ⟨by rfl, ?hy5⟩) (by assumption) ?r5
  case hy5 => (intro w hSw; (try dsimp only at hSw); go_simp; (try with_reducible rfl))
  try simp only [Act.put, List.getElem_toArray, List.getElem_cons_zero, List.getElem_cons_succ, List.setIfInBounds_toArray, List.set_cons_zero, List.set_cons_succ]
  refine wpAnyH_take (i := 5) (v := ?v6) rfl (by kernel_rfl) (by kernel_rfl) (by kernel_rfl) (fun _ _ _ h => h) (Or.inl ⟨by rfl, ?hy6⟩) (by assumption) ?r6
  case hy6 => (intro w hSw; (try dsimp only at hSw); go_simp; (try with_reducible rfl))
  try simp only [Act.put, List.getElem_toArray, List.getElem_cons_zero, List.getElem_cons_succ, List.setIfInBounds_toArray, List.set_cons_zero, List.set_cons_succ]
  refine wpAnyH_take (i := 6) (v := ?v7) rfl (by kernel_rfl) (by kernel_rfl) (by kernel_rfl) (fun _ _ _ h => h) (Or.inl ⟨by rfl, ?hy7⟩) (by assumption) ?r7
  case hy7 => (intro w hSw; (try dsimp only at hSw); go_simp; (try with_reducible rfl))
  try simp only [Act.put, List.getElem_toArray, List.getElem_cons_zero, List.getElem_cons_succ, List.setIfInBounds_toArray, List.set_cons_zero, List.set_cons_succ]
  refine wpAnyH_take (i := 7) (v := ?v8) rfl (by kernel_rfl) (by kernel_rfl) (by kernel_rfl) (fun _ _ _ h => h) (Or.inl ⟨by rfl, ?hy8⟩) (by assumption) ?r8
  case hy8 => (intro w hSw; (try dsimp only at hSw); go_simp; (try with_reducible rfl))
  try simp only [Act.put, List.getElem_toArray, List.getElem_cons_zero, List.getElem_cons_succ, List.setIfInBounds_toArray, List.set_cons_zero, List.set_cons_succ]
  refine wpAnyH_take (i := 8) (v := ?v9) rfl (by kernel_rfl) (by kernel_rfl) (by kernel_rfl) (fun _ _ _ h => h) (Or.inl ⟨by rfl, ?hy9⟩) (by assumption) ?r9
  case hy9 => (intro w hSw; (try dsimp only at hSw); go_simp; (try with_reducible rfl))
  try simp only [Act.put, List.getElem_toArray, List.getElem_cons_zero, List.getElem_cons_succ, List.setIfInBounds_toArray, List.set_cons_zero, List.set_cons_succ]
  refine wpAnyH_take (i := 10) (v := ?v10) rfl (by kernel_rfl) (by kernel_rfl) (by kernel_rfl) (fun _ _ _ h => h) (Or.inl ⟨by rfl, ?hy10⟩) (by assumption) ?r10
  case hy10 => (intro w hSw; (try dsimp only at hSw); go_simp; (try with_reducible rfl))
  try simp only [Act.put, List.getElem_toArray, List.getElem_cons_zero, List.getElem_cons_succ, List.setIfInBounds_toArray, List.set_cons_zero, List.set_cons_succ]
  refine wpAnyH_take (i := 11) (v := ?v11) rfl (by kernel_rfl) (by kernel_rfl) (by kernel_rfl) (fun _ _ _ h => h) (Or.inl ⟨by rfl, ?hy11⟩) (by assumption) ?r11
  case hy11 => (intro w hSw; (try dsimp only at hSw); go_simp; (try with_reducible rfl))
  try simp only [Act.put, List.getElem_toArray, List.getElem_cons_zero, List.getElem_cons_succ, List.setIfInBounds_toArray, List.set_cons_zero, List.set_cons_succ]
  refine wpAnyH_take (i := 12) (v := ?v12) rfl (by kernel_rfl) (by kernel_rfl) (by kernel_rfl) (fun _ _ _ h => h) (Or.inl ⟨by rfl, ?hy12⟩) (by assumption) ?r12
  case hy12 => (intro w hSw; (try dsimp only at hSw); go_simp; (try with_reducible rfl))
  try simp only [Act.put, List.getElem_toArray, List.getElem_cons_zero, List.getElem_cons_succ, List.setIfInBounds_toArray, List.set_cons_zero, List.set_cons_succ]
  refine wpAnyH_take (i := 13) (v := ?v13) rfl (by kernel_rfl) (by kernel_rfl) (by kernel_rfl) (fun _ _ _ h => h) (Or.inl ⟨by rfl, ?hy13⟩) (by assumption) ?r13
  case hy13 => (intro w hSw; (try dsimp only at hSw); go_simp; (try with_reducible rfl))
  try simp only [Act.put, List.getElem_toArray, List.getElem_cons_zero, List.getElem_cons_succ, List.setIfInBounds_toArray, List.set_cons_zero, List.set_cons_succ]
  refine wpAnyH_take (i := 14) (v := ?v14) rfl (by kernel_rfl) (by kernel_rfl) (by kernel_rfl) (fun _ _ _ h => h) (Or.inl ⟨by rfl, ?hy14⟩) (by assumption) ?r14
  case hy14 => (intro w hSw; (try dsimp only at hSw); go_simp; (try with_reducible rfl))
  try simp only [Act.put, List.getElem_toArray, List.getElem_cons_zero, List.getElem_cons_succ, List.setIfInBounds_toArray, List.set_cons_zero, List.set_cons_succ]
  refine wpAnyH_take (i := 15) (v := ?v15) rfl (by kernel_rfl) (by kernel_rfl) (by kernel_rfl) (fun _ _ _ h => h) (Or.inl ⟨by rfl, ?hy15⟩) (by assumption) ?r15
  case hy15 => (intro w hSw; (try dsimp only at hSw); go_simp; (try with_reducible rfl))
  try simp only [Act.put, List.getElem_toArray, List.getElem_cons_zero, List.getElem_cons_succ, List.setIfInBounds_toArray, List.set_cons_zero, List.set_cons_succ]
  refine wpAnyH_take (i := 16) (v := ?v16) rfl (by kernel_rfl) (by kernel_rfl) (by kernel_rfl) (fun _ _ _ h => h) (Or.inl ⟨by rfl, ?hy16⟩) (by assumption) ?r16
  case hy16 => (intro w hSw; (try dsimp only at hSw); go_simp; (try with_reducible rfl))
  try simp only [Act.put, List.getElem_toArray, List.getElem_cons_zero, List.getElem_cons_succ, List.setIfInBounds_toArray, List.set_cons_zero, List.set_cons_succ]
  refine wpAnyH_take (i := 17) (v := ?v17) rfl (by kernel_rfl) (by kernel_rfl) (by kernel_rfl) (fun _ _ _ h => h) (Or.inl ⟨by rfl, ?hy17⟩) (by assumption) ?r17
  case hy17 => (intro w hSw; (try dsimp only at hSw); go_simp; (try with_reducible rfl))
  try simp only [Act.put, List.getElem_toArray, List.getElem_cons_zero, List.getElem_cons_succ, List.setIfInBounds_toArray, List.set_cons_zero, List.set_cons_succ]
  refine wpAnyH_take (i := 18) (v := ?v18) rfl (by kernel_rfl) (by kernel_rfl) (by kernel_rfl) (fun _ _ _ h => h) (Or.inl ⟨by rfl, ?hy18⟩) (by assumption) ?r18
  case hy18 => (intro w hSw; (try dsimp only at hSw); go_simp; (try with_reducible rfl))
  try simp only [Act.put, List.getElem_toArray, List.getElem_cons_zero, List.getElem_cons_succ, List.setIfInBounds_toArray, List.set_cons_zero, List.set_cons_succ]
  refine wpAnyH_take (i := 19) (v := ?v19) rfl (by kernel_rfl) (by kernel_rfl) (by kernel_rfl) (fun _ _ _ h => h) (Or.inl ⟨by rfl, ?hy19⟩) (by assumption) ?r19
  case hy19 => (intro w hSw; (try dsimp only at hSw); go_simp; (try with_reducible rfl))
  try simp only [Act.put, List.getElem_toArray, List.getElem_cons_zero, List.getElem_cons_succ, List.setIfInBounds_toArray, List.set_cons_zero, List.set_cons_succ]
  refine wpAnyH_take (i := 20) (v := ?v20) rfl (by kernel_rfl) (by kernel_rfl) (by kernel_rfl) (fun _ _ _ h => h) (Or.inl ⟨by rfl, ?hy20⟩) (by assumption) ?r20
  case hy20 => (intro w hSw; (try dsimp only at hSw); go_simp; (try with_reducible rfl))
  try simp only [Act.put, List.getElem_toArray, List.getElem_cons_zero, List.getElem_cons_succ, List.setIfInBounds_toArray, List.set_cons_zero, List.set_cons_succ]
  refine wpAnyH_ready (rs := [9, 21]) (by kernel_rfl) (by simp) ?b21
  refine AllReadyH.cons rfl (fun K hK => ?s22) ?m22
  case s22 =>
    try simp only [List.getElem_toArray, List.getElem_cons_zero, List.getElem_cons_succ]
    go_simp
    go_at_call 48
    with_reducible refine (clone_any _ s.regs _ HVS.out (by omega)).mono ?_
    rintro e w3 ⟨a3, c3, rfl, hown3, hb3⟩
    have HO3 := Lib.hid hown3
    have HB3 : Hid (Below w1.heap.size w1 w3) := ((Below.refl _ _).drew).trans hb3
    have d11 := (HB3.out.cell (p := ⟨m, 11, none⟩) hm1).trans c11
    have d12 := (HB3.out.cell (p := ⟨m, 12, none⟩) hm1).trans c12
    have d13 := (HB3.out.cell (p := ⟨m, 13, none⟩) hm1).trans c13
    have d15 := (HB3.out.cell (p := ⟨m, 15, none⟩) hm1).trans c15
    have q3 := (HB3.out.cell (p := ⟨w.heap.size, 3, none⟩) hq1).trans p3
    have q4 := (HB3.out.cell (p := ⟨w.heap.size, 4, none⟩) hq1).trans p4
    have g15 : w3.frozen? ⟨m, 15, none⟩ = false := (HB3.out.frozen (p := ⟨m, 15, none⟩) hm1).trans f15
    have hm3 : m < w3.heap.size := Nat.lt_of_lt_of_le hm1 HB3.out.size
    have HF2 := Lib.hid (And.intro d11 (And.intro d12 (And.intro d13 (And.intro q3 q4))))
    have HFIN := Lib.hid (push_end (kind := kind) (reg := reg) (args := args) (els := els) (t := t) (n := n) HH.out HB.out hm HB3.out HO3.out hH)
    clear hown3 hb3
    refine hK.out _ _ ?S22 (fun hHeld => ?k22)
    case S22 => exact HF2.out
    clear hK K
    try simp only [Act.put, List.getElem_toArray, List.getElem_cons_zero, List.getElem_cons_succ, List.setIfInBounds_toArray, List.set_cons_zero, List.set_cons_succ]
    refine wpAnyH_ready (rs := [21]) (by kernel_rfl) (by simp) ?b23
    refine AllReadyH.cons rfl (fun K hK => ?s24) ?m24
    case s24 =>
      try simp only [List.getElem_toArray, List.getElem_cons_zero, List.getElem_cons_succ]
      go_simp
      refine hK.out _ _ ?S24 (fun hHeld => ?k24)
      case S24 => exact HF2.out
      clear hK K
      try simp only [Act.put, List.getElem_toArray, List.getElem_cons_zero, List.getElem_cons_succ, List.setIfInBounds_toArray, List.set_cons_zero, List.set_cons_succ]
      refine wpAnyH_take (i := 22) (v := ?v25) rfl (by kernel_rfl) (by kernel_rfl) (by kernel_rfl) (fun _ _ _ h => h) (Or.inl ⟨by rfl, ?hy25⟩) (by assumption) ?r25
      case hy25 => (intro w hSw; (try dsimp only at hSw); go_simp; (try with_reducible rfl))
      try simp only [Act.put, List.getElem_toArray, List.getElem_cons_zero, List.getElem_cons_succ, List.setIfInBounds_toArray, List.set_cons_zero, List.set_cons_succ]
      refine wpAnyH_ready (rs := [23]) (by kernel_rfl) (by simp) ?b26
      refine AllReadyH.cons rfl (fun K hK => ?s27) ?m27
      case s27 =>
        try simp only [List.getElem_toArray, List.getElem_cons_zero, List.getElem_cons_succ]
        go_simp
        refine hK.out _ _ ?S27 (fun hHeld => ?k27)
        case S27 => exact ⟨alloc_at _ HF2.out.1, alloc_at _ HF2.out.2.1, alloc_at _ HF2.out.2.2.1, alloc_at _ HF2.out.2.2.2.1, alloc_at _ HF2.out.2.2.2.2⟩
        clear hK K
        try simp only [Act.put, List.getElem_toArray, List.getElem_cons_zero, List.getElem_cons_succ, List.setIfInBounds_toArray, List.set_cons_zero, List.set_cons_succ]
        refine wpAnyH_take (i := 24) (v := ?v28) rfl (by kernel_rfl) (by kernel_rfl) (by kernel_rfl) (fun _ _ _ h => h) (Or.inl ⟨by rfl, ?hy28⟩) (by assumption) ?r28
        case hy28 => (intro w hSw; (try dsimp only at hSw); go_simp; (try with_reducible rfl))
        try simp only [Act.put, List.getElem_toArray, List.getElem_cons_zero, List.getElem_cons_succ, List.setIfInBounds_toArray, List.set_cons_zero, List.set_cons_succ]
        refine wpAnyH_take (i := 25) (v := ?v29) rfl (by kernel_rfl) (by kernel_rfl) (by kernel_rfl) (fun _ _ _ h => h) (Or.inl ⟨by rfl, ?hy29⟩) (by assumption) ?r29
        case hy29 => (intro w hSw; (try dsimp only at hSw); go_simp; (try with_reducible rfl))
        try simp only [Act.put, List.getElem_toArray, List.getElem_cons_zero, List.getElem_cons_succ, List.setIfInBounds_toArray, List.set_cons_zero, List.set_cons_succ]
        refine wpAnyH_ready (rs := [26]) (by kernel_rfl) (by simp) ?b30
        refine AllReadyH.cons rfl (fun K hK => ?s31) ?m31
        case s31 =>
          try simp only [List.getElem_toArray, List.getElem_cons_zero, List.getElem_cons_succ]
          go_simp
          refine hK.out _ _ ?S31 (fun hHeld => ?k31)
          case S31 => exact ⟨(HFIN.out.2 11 (by decide)).trans c11, (HFIN.out.2 12 (by decide)).trans c12, (HFIN.out.2 13 (by decide)).trans c13, alloc_at _ ((cell_set_block _ _ hqm).trans q3), alloc_at _ ((cell_set_block _ _ hqm).trans q4)⟩
          clear hK K
          try simp only [Act.put, List.getElem_toArray, List.getElem_cons_zero, List.getElem_cons_succ, List.setIfInBounds_toArray, List.set_cons_zero, List.set_cons_succ]
          refine wpAnyH_done (by kernel_rfl) ?_ _
          skip
          go_wp2_with fail
          refine bodyPost_end (results_none rfl _ _ _) rfl ?_
          exact ⟨rfl, HFIN.out.1⟩
        exact AllReadyH.nil
      exact AllReadyH.nil
    exact AllReadyH.nil
  refine AllReadyH.cons rfl (fun K hK => ?s32) ?m32
  case s32 =>
    try simp only [List.getElem_toArray, List.getElem_cons_zero, List.getElem_cons_succ]
    go_simp
    refine hK.out _ _ ?S32 (fun hHeld => ?k32)
    case S32 => exact HF.out
    clear hK K
    try simp only [Act.put, List.getElem_toArray, List.getElem_cons_zero, List.getElem_cons_succ, List.setIfInBounds_toArray, List.set_cons_zero, List.set_cons_succ]
    refine wpAnyH_ready (rs := [9]) (by kernel_rfl) (by simp) ?b33
    refine AllReadyH.cons rfl (fun K hK => ?s34) ?m34
    case s34 =>
      try simp only [List.getElem_toArray, List.getElem_cons_zero, List.getElem_cons_succ]
      go_simp
      go_at_call 48
      with_reducible refine (clone_any _ s.regs _ HVS.out (by omega)).mono ?_
      rintro e w3 ⟨a3, c3, rfl, hown3, hb3⟩
      have HO3 := Lib.hid hown3
      have HB3 : Hid (Below w1.heap.size w1 w3) := ((Below.refl _ _).drew).trans hb3
      have d11 := (HB3.out.cell (p := ⟨m, 11, none⟩) hm1).trans c11
      have d12 := (HB3.out.cell (p := ⟨m, 12, none⟩) hm1).trans c12
      have d13 := (HB3.out.cell (p := ⟨m, 13, none⟩) hm1).trans c13
      have d15 := (HB3.out.cell (p := ⟨m, 15, none⟩) hm1).trans c15
      have q3 := (HB3.out.cell (p := ⟨w.heap.size, 3, none⟩) hq1).trans p3
      have q4 := (HB3.out.cell (p := ⟨w.heap.size, 4, none⟩) hq1).trans p4
      have g15 : w3.frozen? ⟨m, 15, none⟩ = false := (HB3.out.frozen (p := ⟨m, 15, none⟩) hm1).trans f15
      have hm3 : m < w3.heap.size := Nat.lt_of_lt_of_le hm1 HB3.out.size
      have HF2 := Lib.hid (And.intro d11 (And.intro d12 (And.intro d13 (And.intro q3 q4))))
      have HFIN := Lib.hid (push_end (kind := kind) (reg := reg) (args := args) (els := els) (t := t) (n := n) HH.out HB.out hm HB3.out HO3.out hH)
      clear hown3 hb3
      refine hK.out _ _ ?S34 (fun hHeld => ?k34)
      case S34 => exact HF2.out
      clear hK K
      try simp only [Act.put, List.getElem_toArray, List.getElem_cons_zero, List.getElem_cons_succ, List.setIfInBounds_toArray, List.set_cons_zero, List.set_cons_succ]
      refine wpAnyH_take (i := 22) (v := ?v35) rfl (by kernel_rfl) (by kernel_rfl) (by kernel_rfl) (fun _ _ _ h => h) (Or.inl ⟨by rfl, ?hy35⟩) (by assumption) ?r35
      case hy35 => (intro w hSw; (try dsimp only at hSw); go_simp; (try with_reducible rfl))
      try simp only [Act.put, List.getElem_toArray, List.getElem_cons_zero, List.getElem_cons_succ, List.setIfInBounds_toArray, List.set_cons_zero, List.set_cons_succ]
      refine wpAnyH_ready (rs := [23]) (by kernel_rfl) (by simp) ?b36
      refine AllReadyH.cons rfl (fun K hK => ?s37) ?m37
      case s37 =>
        try simp only [List.getElem_toArray, List.getElem_cons_zero, List.getElem_cons_succ]
        go_simp
        refine hK.out _ _ ?S37 (fun hHeld => ?k37)
        case S37 => exact ⟨alloc_at _ HF2.out.1, alloc_at _ HF2.out.2.1, alloc_at _ HF2.out.2.2.1, alloc_at _ HF2.out.2.2.2.1, alloc_at _ HF2.out.2.2.2.2⟩
        clear hK K
        try simp only [Act.put, List.getElem_toArray, List.getElem_cons_zero, List.getElem_cons_succ, List.setIfInBounds_toArray, List.set_cons_zero, List.set_cons_succ]
        refine wpAnyH_take (i := 24) (v := ?v38) rfl (by kernel_rfl) (by kernel_rfl) (by kernel_rfl) (fun _ _ _ h => h) (Or.inl ⟨by rfl, ?hy38⟩) (by assumption) ?r38
        case hy38 => (intro w hSw; (try dsimp only at hSw); go_simp; (try with_reducible rfl))
        try simp only [Act.put, List.getElem_toArray, List.getElem_cons_zero, List.getElem_cons_succ, List.setIfInBounds_toArray, List.set_cons_zero, List.set_cons_succ]
        refine wpAnyH_take (i := 25) (v := ?v39) rfl (by kernel_rfl) (by kernel_rfl) (by kernel_rfl) (fun _ _ _ h => h) (Or.inl ⟨by rfl, ?hy39⟩) (by assumption) ?r39
        case hy39 => (intro w hSw; (try dsimp only at hSw); go_simp; (try with_reducible rfl))
        try simp only [Act.put, List.getElem_toArray, List.getElem_cons_zero, List.getElem_cons_succ, List.setIfInBounds_toArray, List.set_cons_zero, List.set_cons_succ]
        refine wpAnyH_ready (rs := [26]) (by kernel_rfl) (by simp) ?b40
        refine AllReadyH.cons rfl (fun K hK => ?s41) ?m41
        case s41 =>
          try simp only [List.getElem_toArray, List.getElem_cons_zero, List.getElem_cons_succ]
          go_simp
          refine hK.out _ _ ?S41 (fun hHeld => ?k41)
          case S41 => exact ⟨(HFIN.out.2 11 (by decide)).trans c11, (HFIN.out.2 12 (by decide)).trans c12, (HFIN.out.2 13 (by decide)).trans c13, alloc_at _ ((cell_set_block _ _ hqm).trans q3), alloc_at _ ((cell_set_block _ _ hqm).trans q4)⟩
          clear hK K
          try simp only [Act.put, List.getElem_toArray, List.getElem_cons_zero, List.getElem_cons_succ, List.setIfInBounds_toArray, List.set_cons_zero, List.set_cons_succ]
          refine wpAnyH_done (by kernel_rfl) ?_ _
          skip
          go_wp2_with fail
          refine bodyPost_end (results_none rfl _ _ _) rfl ?_
          exact ⟨rfl, HFIN.out.1⟩
        exact AllReadyH.nil
      exact AllReadyH.nil
    exact AllReadyH.nil
  exact AllReadyH.nil
end
end Vm
end Go.Proofs.Ytalfnaielhbocaa
