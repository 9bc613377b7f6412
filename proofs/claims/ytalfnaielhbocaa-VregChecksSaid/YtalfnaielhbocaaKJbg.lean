/- Check: instructions. -/
import Derived.Deep.RegionHeld3
import Derived.Test.YtalfnaielhbocaaKJbb
import Derived.Test.YtalfnaielhbocaaKJbf
set_option linter.unusedVariables false
set_option linter.unusedSimpArgs false
set_option linter.unnecessarySimpa false
namespace Go.Proofs.Ytalfnaielhbocaa
open Go.RowKit
set_option linter.unusedVariables false
set_option linter.unusedSimpArgs false
set_option maxRecDepth 100000
namespace Vm
structure ChkIn (w : World) (cv : Value) (c : Code) (p : Prc) (bv : Value) (x : Ins) (lv dl : Value) : Prop where
  cvl : ∃ a n, cv = .slice a c.length n
  code : CodeAt w cv c
  bvl : ∃ a n, bv = .slice a p.blocks.length n
  args : Sl w lv (ints x.args)
  few : x.args.length ≤ 9223372036854775807
  dat : DtAt w (fun _ => True) (.agg #[.int .i64 x.const.kind, .int .i64 x.const.int, .string x.const.text, dl]) x.const
  fit : Dt.Fit x.const
structure InsAt (w w3 : World) (cv : Value) (c : Code) (p : Prc) (bv : Value) (x : Ins) (lv dl : Value) : Prop where
  below : Below w.heap.size w w3
  size : w3.heap.size = w.heap.size + 1 + 1 + 1
  bc : w3.heap[w.heap.size]? = some (.cells #[cv] 24 (0, 0))
  bp : w3.heap[w.heap.size + 1]? = some (.cells #[.int .i64 p.params, .int .i64 p.holds, .int .i64 p.regs, bv] 40 (0, 0))
  bx : w3.heap[w.heap.size + 1 + 1]? = some (.cells #[.string x.op, .int .i64 x.to, lv, .int .i64 x.const.kind, .int .i64 x.const.int, .string x.const.text, dl, .int .i64 x.num] 55 (0, 0))
theorem InsAt.of (w : World) (cv : Value) (c : Code) (p : Prc) (bv : Value) (x : Ins) (lv dl : Value) : ∃ w3, w3 = ((w.alloc (.cells #[cv] 24)).alloc (.cells #[.int .i64 p.params, .int .i64 p.holds, .int .i64 p.regs, bv] 40)).alloc (.cells #[.string x.op, .int .i64 x.to, lv, .int .i64 x.const.kind, .int .i64 x.const.int, .string x.const.text, dl, .int .i64 x.num] 55) ∧ InsAt w w3 cv c p bv x lv dl := by
  refine ⟨_, rfl, (((Below.refl _ _).alloc (Nat.le_refl _) _).alloc (by simp) _).alloc (by simp; omega) _, by simp, ?_, ?_, heap_new (by simp)⟩
  · exact (heap_alloc_old _ _ (by simp; omega)).trans ((heap_alloc_old _ _ (by simp)).trans (heap_new rfl))
  · exact (heap_alloc_old _ _ (by simp)).trans (heap_new (by simp))
theorem fit_len {d : Dt} (h : Dt.Fit d) : d.list.length ≤ 9223372036854775807 := by
  cases h
  assumption
theorem sl_one {w : World} (n : Int) (t : TypeId) : Sl ((w.alloc (.cells #[.int .i64 n] t)).drew) (.slice (some ⟨w.heap.size, 0, none⟩) 1 1) (ints [n]) :=
  ⟨_, 1, rfl, .inr ⟨_, rfl, new_cell1 (w := w) rfl⟩⟩
abbrev InsS (w' : World) (b : Nat) (p : Prc) (bv : Value) (xt num : Int) : Prop := w'.cell? ⟨b + 1, 0, none⟩ = some (.int .i64 p.params) ∧ w'.cell? ⟨b + 1, 1, none⟩ = some (.int .i64 p.holds) ∧ w'.cell? ⟨b + 1, 2, none⟩ = some (.int .i64 p.regs) ∧ w'.cell? ⟨b + 1, 3, none⟩ = some bv ∧ w'.cell? ⟨b + 1 + 1, 1, none⟩ = some (.int .i64 xt) ∧ w'.cell? ⟨b + 1 + 1, 7, none⟩ = some (.int .i64 num)
theorem InsS.alloc {w' : World} {b : Nat} {p : Prc} {bv : Value} {xt num : Int} (h : InsS w' b p bv xt num) (o : Obj) : InsS (w'.alloc o) b p bv xt num := ⟨alloc_at o h.1, alloc_at o h.2.1, alloc_at o h.2.2.1, alloc_at o h.2.2.2.1, alloc_at o h.2.2.2.2.1, alloc_at o h.2.2.2.2.2⟩
section
variable {w : World} {cv bv lv dl : Value} {c : Code} {p : Prc} {x : Ins}
set_option maxHeartbeats 16000000 in
theorem ins_move (I : ChkIn w cv c p bv x lv dl) {lb nb tb ra : Bool} (hop : x.op = sMove) (hLb : ((x.args.length : Int) == 1) = lb) (hnb : (x.num == 0) = nb) (htoo : regsB p [x.to] = tb) (hra : regsB p x.args = ra) (hE : insB c p x = (lb && nb && tb && ra && bare x.const)) :
    Calls Try.prog 28 #[.agg #[cv], procV p bv, insV x lv dl] w fun e w' => e = .returned (.bool (insB c p x)) ∧ Below w.heap.size w w' := by
  obtain ⟨w3, hw3, A⟩ := InsAt.of w cv c p bv x lv dl
  obtain ⟨acv, ncv, rfl⟩ := I.cvl
  obtain ⟨ab, cb, rfl⟩ := I.bvl
  obtain ⟨al, cl, hlv⟩ := I.args.len
  subst hlv
  obtain ⟨da, dc, hdv, _⟩ := I.dat.inv
  have hdl : dl = .slice da x.const.list.length dc := by simpa using hdv
  subst hdl
  have hil : (ints x.args).length = x.args.length := by simp [ints]
  have hargs := I.args
  rw [hil] at hargs A hw3 ⊢
  have hkl : x.const.list.length ≤ 9223372036854775807 := fit_len I.fit
  have HEQ := Lib.hid (equal_bare x.const.kind x.const.int x.const.text da x.const.list.length dc hkl)
  have HB0 : Hid (bare x.const = (decide (x.const.kind = 0) && decide (x.const.int = 0) && decide (x.const.text = ⟨#[]⟩) && decide (x.const.list.length = 0))) := rfl
  have hs3 := A.size
  have HAR := Lib.hid (arity_any x.op w3)
  have HI := Lib.hid I
  have HA := Lib.hid A
  have HW3 := Lib.hid hw3
  have HARGS := Lib.hid hargs
  obtain ⟨op, xt, args, const, num⟩ := x
  dsimp only at *
  subst hop
  unfold sMove at *
  have HRAV := Lib.hid hra
  clear hra
  have HE := Lib.hid hE
  clear hE
  have hrg := regs_any p (.slice ab p.blocks.length cb) ⟨_, _, _, rfl⟩ (.slice (some ⟨w3.heap.size, 0, none⟩) 1 1) [xt] ((w3.alloc (.cells #[.int .i64 xt] 3)).drew) (sl_one xt _) (by simp)
  rw [htoo] at hrg
  have HRG := Lib.hid hrg
  unfold procV at HRG
  have p0 := cell_of_row w3 (w.heap.size + 1) 0 _ _ _ A.bp
  have p1 := cell_of_row w3 (w.heap.size + 1) 1 _ _ _ A.bp
  have p2 := cell_of_row w3 (w.heap.size + 1) 2 _ _ _ A.bp
  have p3 := cell_of_row w3 (w.heap.size + 1) 3 _ _ _ A.bp
  have x0 := cell_of_row w3 (w.heap.size + 1 + 1) 0 _ _ _ A.bx
  have x1 := cell_of_row w3 (w.heap.size + 1 + 1) 1 _ _ _ A.bx
  have x7 := cell_of_row w3 (w.heap.size + 1 + 1) 7 _ _ _ A.bx
  simp only [List.getElem?_toArray, List.getElem?_cons_zero, List.getElem?_cons_succ] at p0 p1 p2 p3 x0 x1 x7
  have hl0 : w.heap.size < w3.heap.size := by omega
  have hl1 : w.heap.size + 1 < w3.heap.size := by omega
  have hl2 : w.heap.size + 1 + 1 < w3.heap.size := by omega
  have HF : Hid (InsS w3 w.heap.size p (.slice ab p.blocks.length cb) xt num) := ⟨p0, p1, p2, p3, x1, x7⟩
  have HFA : Hid (∀ o : Obj, InsS (w3.alloc o) w.heap.size p (.slice ab p.blocks.length cb) xt num) := fun o => HF.out.alloc o
  have HS3 := Lib.hid hs3
  clear I A hw3 hargs hrg hdv hs3
  unfold procV insV
  dsimp only
  go_enter Try.func28, Try.ntmps28
  go_wp2_with fail
  rw [← HW3.out]
  with_reducible refine HAR.out.mono ?_
  rintro e w3' ⟨rfl, rfl⟩
  go_wp2_with fail
  go_region_held3 (fun w' => w'.cell? ⟨w.heap.size + 1, 0, none⟩ = some (.int .i64 p.params) ∧ w'.cell? ⟨w.heap.size + 1, 1, none⟩ = some (.int .i64 p.holds) ∧ w'.cell? ⟨w.heap.size + 1, 2, none⟩ = some (.int .i64 p.regs) ∧ w'.cell? ⟨w.heap.size + 1, 3, none⟩ = some (.slice ab p.blocks.length cb) ∧ w'.cell? ⟨w.heap.size + 1 + 1, 1, none⟩ = some (.int .i64 xt) ∧ w'.cell? ⟨w.heap.size + 1 + 1, 7, none⟩ = some (.int .i64 num))
    (first | with_reducible exact HF.out | with_reducible exact HFA.out _ | with_reducible exact HF4.out | exact HF.out | exact HFA.out _)
    (first
      | (go_at_call 43; (with_reducible refine HRG.out.mono ?_); rintro e w4 ⟨rfl, hb4'⟩; have hb4 : Below w3.heap.size w3 w4 := (((Below.refl _ _).alloc (Nat.le_refl _) _).drew).trans (hb4'.mono (by rw [two_size0]; exact Nat.le_succ _)); have bc4 := (hb4.block w.heap.size hl0).trans HA.out.bc; have bp4 := (hb4.block (w.heap.size + 1) hl1).trans HA.out.bp; have bx4 := (hb4.block (w.heap.size + 1 + 1) hl2).trans HA.out.bx; have y0 := cell_of_row w4 _ 0 _ _ _ bp4; have y1 := cell_of_row w4 _ 1 _ _ _ bp4; have y2 := cell_of_row w4 _ 2 _ _ _ bp4; have y3 := cell_of_row w4 _ 3 _ _ _ bp4; have v0 := cell_of_row w4 _ 0 _ _ _ bx4; have v1 := cell_of_row w4 _ 1 _ _ _ bx4; have v2 := cell_of_row w4 _ 2 _ _ _ bx4; have v3 := cell_of_row w4 _ 3 _ _ _ bx4; have v4 := cell_of_row w4 _ 4 _ _ _ bx4; have v5 := cell_of_row w4 _ 5 _ _ _ bx4; have v6 := cell_of_row w4 _ 6 _ _ _ bx4; have v7 := cell_of_row w4 _ 7 _ _ _ bx4; have u0 := cell_of_row w4 _ 0 _ _ _ bc4; simp only [List.getElem?_toArray, List.getElem?_cons_zero, List.getElem?_cons_succ] at y0 y1 y2 y3 v0 v1 v2 v3 v4 v5 v6 v7 u0; have HF4 := Lib.hid (And.intro y0 (And.intro y1 (And.intro y2 (And.intro y3 (And.intro v1 v7))))); have HB4 := Lib.hid hb4; have HBX := Lib.hid bx4; have hq4 : w.heap.size + 1 + 1 < w4.heap.size := Nat.lt_of_lt_of_le hl2 hb4.size; have hs4 := hb4.size; clear hb4 hb4' bc4 bp4 bx4))
  all_goals
    have HBB : Hid (Below w.heap.size w w4) := HA.out.below.trans (HB4.out.mono HA.out.below.size)
    cases lb
    · go_wp2_with fail
      go_ret
      rw [HE.out]
      exact ⟨by first | rfl | simp, HBB.out⟩
    · cases nb
      · go_wp2_with fail
        go_ret
        rw [HE.out]
        exact ⟨by first | rfl | simp, HBB.out⟩
      · cases tb
        · go_wp2_with fail
          go_ret
          rw [HE.out]
          exact ⟨by first | rfl | simp, HBB.out⟩
        · have hra0 := regs_any p (.slice ab p.blocks.length cb) ⟨_, _, _, rfl⟩ (.slice al args.length cl) args w4 (HARGS.out.below HBB.out (Nat.le_refl _)) HI.out.few
          rw [HRAV.out] at hra0
          have HRA := Lib.hid hra0
          unfold procV at HRA
          clear hra0
          cases ra
          · go_wp2_with fail
            with_reducible refine HRA.out.mono ?_
            rintro e w5 ⟨rfl, hb5⟩
            have hbx5 := (hb5.block (w.heap.size + 1 + 1) hq4).trans HBX.out
            have z3 := cell_of_row w5 _ 3 _ _ _ hbx5
            have z4 := cell_of_row w5 _ 4 _ _ _ hbx5
            have z5 := cell_of_row w5 _ 5 _ _ _ hbx5
            have z6 := cell_of_row w5 _ 6 _ _ _ hbx5
            simp only [List.getElem?_toArray, List.getElem?_cons_zero, List.getElem?_cons_succ] at z3 z4 z5 z6
            have hq5 : w.heap.size + 1 + 1 < w5.heap.size := Nat.lt_of_lt_of_le hq4 hb5.size
            have HB5 : Hid (Below w.heap.size w w5) := HBB.out.trans (hb5.mono HBB.out.size)
            clear hb5 hbx5
            go_wp2_with fail
            go_ret
            rw [HE.out]
            exact ⟨by first | rfl | simp, HB5.out⟩
          · go_wp2_with fail
            with_reducible refine HRA.out.mono ?_
            rintro e w5 ⟨rfl, hb5⟩
            have hbx5 := (hb5.block (w.heap.size + 1 + 1) hq4).trans HBX.out
            have z3 := cell_of_row w5 _ 3 _ _ _ hbx5
            have z4 := cell_of_row w5 _ 4 _ _ _ hbx5
            have z5 := cell_of_row w5 _ 5 _ _ _ hbx5
            have z6 := cell_of_row w5 _ 6 _ _ _ hbx5
            simp only [List.getElem?_toArray, List.getElem?_cons_zero, List.getElem?_cons_succ] at z3 z4 z5 z6
            have hq5 : w.heap.size + 1 + 1 < w5.heap.size := Nat.lt_of_lt_of_le hq4 hb5.size
            have HB5 : Hid (Below w.heap.size w w5) := HBB.out.trans (hb5.mono HBB.out.size)
            clear hb5 hbx5
            go_wp2_with fail
            with_reducible refine (HEQ.out _).mono ?_
            rintro e w6 ⟨rfl, hb6⟩
            have HB6 : Hid (Below w.heap.size w w6) := HB5.out.trans (hb6.mono HB5.out.size)
            clear hb6
            go_wp2_with fail
            go_ret
            rw [HE.out]
            exact ⟨by rw [HB0.out]; first | rfl | simp, HB6.out⟩
set_option maxHeartbeats 16000000 in
theorem ins_else (I : ChkIn w cv c p bv x lv dl) {lb nb tb ra : Bool} (h0 : x.op ≠ sConst) (h1 : x.op ≠ sMove) (h2 : x.op ≠ sHeld) (h3 : x.op ≠ sClosure) (h4 : x.op ≠ sTie) (h5 : x.op ≠ sCallcc) (hLb : ((x.args.length : Int) == arity x.op) = lb) (hnb : (x.num == 0) = nb) (htoo : regsB p [x.to] = tb) (hra : regsB p x.args = ra) (hE : insB c p x = (lb && nb && tb && ra && bare x.const)) :
    Calls Try.prog 28 #[.agg #[cv], procV p bv, insV x lv dl] w fun e w' => e = .returned (.bool (insB c p x)) ∧ Below w.heap.size w w' := by
  obtain ⟨w3, hw3, A⟩ := InsAt.of w cv c p bv x lv dl
  obtain ⟨acv, ncv, rfl⟩ := I.cvl
  obtain ⟨ab, cb, rfl⟩ := I.bvl
  obtain ⟨al, cl, hlv⟩ := I.args.len
  subst hlv
  obtain ⟨da, dc, hdv, _⟩ := I.dat.inv
  have hdl : dl = .slice da x.const.list.length dc := by simpa using hdv
  subst hdl
  have hil : (ints x.args).length = x.args.length := by simp [ints]
  have hargs := I.args
  rw [hil] at hargs A hw3 ⊢
  have hkl : x.const.list.length ≤ 9223372036854775807 := fit_len I.fit
  have HEQ := Lib.hid (equal_bare x.const.kind x.const.int x.const.text da x.const.list.length dc hkl)
  have HB0 : Hid (bare x.const = (decide (x.const.kind = 0) && decide (x.const.int = 0) && decide (x.const.text = ⟨#[]⟩) && decide (x.const.list.length = 0))) := rfl
  have hs3 := A.size
  have HAR := Lib.hid (arity_any x.op w3)
  have HI := Lib.hid I
  have HA := Lib.hid A
  have HW3 := Lib.hid hw3
  have HARGS := Lib.hid hargs
  obtain ⟨op, xt, args, const, num⟩ := x
  dsimp only at *
  have qq0 : (op.toList == [99, 111, 110, 115, 116]) = false := ba_ne h0
  have qq1 : (op.toList == [109, 111, 118, 101]) = false := ba_ne h1
  have qq2 : (op.toList == [104, 101, 108, 100]) = false := ba_ne h2
  have qq3 : (op.toList == [99, 108, 111, 115, 117, 114, 101]) = false := ba_ne h3
  have qq4 : (op.toList == [116, 105, 101]) = false := ba_ne h4
  have qq5 : (op.toList == [37, 99, 97, 108, 108, 99, 99]) = false := ba_ne h5
  clear h0 h1 h2 h3 h4 h5
  have HRAV := Lib.hid hra
  clear hra
  have HE := Lib.hid hE
  clear hE
  have hrg := regs_any p (.slice ab p.blocks.length cb) ⟨_, _, _, rfl⟩ (.slice (some ⟨w3.heap.size, 0, none⟩) 1 1) [xt] ((w3.alloc (.cells #[.int .i64 xt] 3)).drew) (sl_one xt _) (by simp)
  rw [htoo] at hrg
  have HRG := Lib.hid hrg
  unfold procV at HRG
  have p0 := cell_of_row w3 (w.heap.size + 1) 0 _ _ _ A.bp
  have p1 := cell_of_row w3 (w.heap.size + 1) 1 _ _ _ A.bp
  have p2 := cell_of_row w3 (w.heap.size + 1) 2 _ _ _ A.bp
  have p3 := cell_of_row w3 (w.heap.size + 1) 3 _ _ _ A.bp
  have x0 := cell_of_row w3 (w.heap.size + 1 + 1) 0 _ _ _ A.bx
  have x1 := cell_of_row w3 (w.heap.size + 1 + 1) 1 _ _ _ A.bx
  have x7 := cell_of_row w3 (w.heap.size + 1 + 1) 7 _ _ _ A.bx
  simp only [List.getElem?_toArray, List.getElem?_cons_zero, List.getElem?_cons_succ] at p0 p1 p2 p3 x0 x1 x7
  have hl0 : w.heap.size < w3.heap.size := by omega
  have hl1 : w.heap.size + 1 < w3.heap.size := by omega
  have hl2 : w.heap.size + 1 + 1 < w3.heap.size := by omega
  have HF : Hid (InsS w3 w.heap.size p (.slice ab p.blocks.length cb) xt num) := ⟨p0, p1, p2, p3, x1, x7⟩
  have HFA : Hid (∀ o : Obj, InsS (w3.alloc o) w.heap.size p (.slice ab p.blocks.length cb) xt num) := fun o => HF.out.alloc o
  have HS3 := Lib.hid hs3
  clear I A hw3 hargs hrg hdv hs3
  unfold procV insV
  dsimp only
  go_enter Try.func28, Try.ntmps28
  go_wp2_with fail
  rw [← HW3.out]
  with_reducible refine HAR.out.mono ?_
  rintro e w3' ⟨rfl, rfl⟩
  go_wp2_with fail
  go_region_held3 (fun w' => w'.cell? ⟨w.heap.size + 1, 0, none⟩ = some (.int .i64 p.params) ∧ w'.cell? ⟨w.heap.size + 1, 1, none⟩ = some (.int .i64 p.holds) ∧ w'.cell? ⟨w.heap.size + 1, 2, none⟩ = some (.int .i64 p.regs) ∧ w'.cell? ⟨w.heap.size + 1, 3, none⟩ = some (.slice ab p.blocks.length cb) ∧ w'.cell? ⟨w.heap.size + 1 + 1, 1, none⟩ = some (.int .i64 xt) ∧ w'.cell? ⟨w.heap.size + 1 + 1, 7, none⟩ = some (.int .i64 num))
    (first | with_reducible exact HF.out | with_reducible exact HFA.out _ | with_reducible exact HF4.out | exact HF.out | exact HFA.out _)
    (first
      | (go_at_call 43; (with_reducible refine HRG.out.mono ?_); rintro e w4 ⟨rfl, hb4'⟩; have hb4 : Below w3.heap.size w3 w4 := (((Below.refl _ _).alloc (Nat.le_refl _) _).drew).trans (hb4'.mono (by rw [two_size0]; exact Nat.le_succ _)); have bc4 := (hb4.block w.heap.size hl0).trans HA.out.bc; have bp4 := (hb4.block (w.heap.size + 1) hl1).trans HA.out.bp; have bx4 := (hb4.block (w.heap.size + 1 + 1) hl2).trans HA.out.bx; have y0 := cell_of_row w4 _ 0 _ _ _ bp4; have y1 := cell_of_row w4 _ 1 _ _ _ bp4; have y2 := cell_of_row w4 _ 2 _ _ _ bp4; have y3 := cell_of_row w4 _ 3 _ _ _ bp4; have v0 := cell_of_row w4 _ 0 _ _ _ bx4; have v1 := cell_of_row w4 _ 1 _ _ _ bx4; have v2 := cell_of_row w4 _ 2 _ _ _ bx4; have v3 := cell_of_row w4 _ 3 _ _ _ bx4; have v4 := cell_of_row w4 _ 4 _ _ _ bx4; have v5 := cell_of_row w4 _ 5 _ _ _ bx4; have v6 := cell_of_row w4 _ 6 _ _ _ bx4; have v7 := cell_of_row w4 _ 7 _ _ _ bx4; have u0 := cell_of_row w4 _ 0 _ _ _ bc4; simp only [List.getElem?_toArray, List.getElem?_cons_zero, List.getElem?_cons_succ] at y0 y1 y2 y3 v0 v1 v2 v3 v4 v5 v6 v7 u0; have HF4 := Lib.hid (And.intro y0 (And.intro y1 (And.intro y2 (And.intro y3 (And.intro v1 v7))))); have HB4 := Lib.hid hb4; have HBX := Lib.hid bx4; have hq4 : w.heap.size + 1 + 1 < w4.heap.size := Nat.lt_of_lt_of_le hl2 hb4.size; have hs4 := hb4.size; clear hb4 hb4' bc4 bp4 bx4))
  all_goals
    have HBB : Hid (Below w.heap.size w w4) := HA.out.below.trans (HB4.out.mono HA.out.below.size)
    cases lb
    · go_wp2_with fail
      go_ret
      rw [HE.out]
      exact ⟨by first | rfl | simp, HBB.out⟩
    · cases nb
      · go_wp2_with fail
        go_ret
        rw [HE.out]
        exact ⟨by first | rfl | simp, HBB.out⟩
      · cases tb
        · go_wp2_with fail
          go_ret
          rw [HE.out]
          exact ⟨by first | rfl | simp, HBB.out⟩
        · have hra0 := regs_any p (.slice ab p.blocks.length cb) ⟨_, _, _, rfl⟩ (.slice al args.length cl) args w4 (HARGS.out.below HBB.out (Nat.le_refl _)) HI.out.few
          rw [HRAV.out] at hra0
          have HRA := Lib.hid hra0
          unfold procV at HRA
          clear hra0
          cases ra
          · go_wp2_with fail
            with_reducible refine HRA.out.mono ?_
            rintro e w5 ⟨rfl, hb5⟩
            have hbx5 := (hb5.block (w.heap.size + 1 + 1) hq4).trans HBX.out
            have z3 := cell_of_row w5 _ 3 _ _ _ hbx5
            have z4 := cell_of_row w5 _ 4 _ _ _ hbx5
            have z5 := cell_of_row w5 _ 5 _ _ _ hbx5
            have z6 := cell_of_row w5 _ 6 _ _ _ hbx5
            simp only [List.getElem?_toArray, List.getElem?_cons_zero, List.getElem?_cons_succ] at z3 z4 z5 z6
            have hq5 : w.heap.size + 1 + 1 < w5.heap.size := Nat.lt_of_lt_of_le hq4 hb5.size
            have HB5 : Hid (Below w.heap.size w w5) := HBB.out.trans (hb5.mono HBB.out.size)
            clear hb5 hbx5
            go_wp2_with fail
            go_ret
            rw [HE.out]
            exact ⟨by first | rfl | simp, HB5.out⟩
          · go_wp2_with fail
            with_reducible refine HRA.out.mono ?_
            rintro e w5 ⟨rfl, hb5⟩
            have hbx5 := (hb5.block (w.heap.size + 1 + 1) hq4).trans HBX.out
            have z3 := cell_of_row w5 _ 3 _ _ _ hbx5
            have z4 := cell_of_row w5 _ 4 _ _ _ hbx5
            have z5 := cell_of_row w5 _ 5 _ _ _ hbx5
            have z6 := cell_of_row w5 _ 6 _ _ _ hbx5
            simp only [List.getElem?_toArray, List.getElem?_cons_zero, List.getElem?_cons_succ] at z3 z4 z5 z6
            have hq5 : w.heap.size + 1 + 1 < w5.heap.size := Nat.lt_of_lt_of_le hq4 hb5.size
            have HB5 : Hid (Below w.heap.size w w5) := HBB.out.trans (hb5.mono HBB.out.size)
            clear hb5 hbx5
            go_wp2_with fail
            with_reducible refine (HEQ.out _).mono ?_
            rintro e w6 ⟨rfl, hb6⟩
            have HB6 : Hid (Below w.heap.size w w6) := HB5.out.trans (hb6.mono HB5.out.size)
            clear hb6
            go_wp2_with fail
            go_ret
            rw [HE.out]
            exact ⟨by rw [HB0.out]; first | rfl | simp, HB6.out⟩
set_option maxHeartbeats 16000000 in
theorem ins_tie (I : ChkIn w cv c p bv x lv dl) {lb nb ub ra tb : Bool} (hop : x.op = sTie) (htoo : regsB p [x.to] = tb) (hLb : ((x.args.length : Int) == 2) = lb) (hnb : decide (0 ≤ x.num) = nb) (hto : (x.to == 0) = ub) (hra : regsB p x.args = ra) (hE : insB c p x = (lb && nb && ub && ra && bare x.const)) :
    Calls Try.prog 28 #[.agg #[cv], procV p bv, insV x lv dl] w fun e w' => e = .returned (.bool (insB c p x)) ∧ Below w.heap.size w w' := by
  obtain ⟨w3, hw3, A⟩ := InsAt.of w cv c p bv x lv dl
  obtain ⟨acv, ncv, rfl⟩ := I.cvl
  obtain ⟨ab, cb, rfl⟩ := I.bvl
  obtain ⟨al, cl, hlv⟩ := I.args.len
  subst hlv
  obtain ⟨da, dc, hdv, _⟩ := I.dat.inv
  have hdl : dl = .slice da x.const.list.length dc := by simpa using hdv
  subst hdl
  have hil : (ints x.args).length = x.args.length := by simp [ints]
  have hargs := I.args
  rw [hil] at hargs A hw3 ⊢
  have hkl : x.const.list.length ≤ 9223372036854775807 := fit_len I.fit
  have HEQ := Lib.hid (equal_bare x.const.kind x.const.int x.const.text da x.const.list.length dc hkl)
  have HB0 : Hid (bare x.const = (decide (x.const.kind = 0) && decide (x.const.int = 0) && decide (x.const.text = ⟨#[]⟩) && decide (x.const.list.length = 0))) := rfl
  have hs3 := A.size
  have HAR := Lib.hid (arity_any x.op w3)
  have HI := Lib.hid I
  have HA := Lib.hid A
  have HW3 := Lib.hid hw3
  have HARGS := Lib.hid hargs
  obtain ⟨op, xt, args, const, num⟩ := x
  dsimp only at *
  subst hop
  unfold sTie at *
  have HRAV := Lib.hid hra
  clear hra
  have HE := Lib.hid hE
  clear hE
  have hrg := regs_any p (.slice ab p.blocks.length cb) ⟨_, _, _, rfl⟩ (.slice (some ⟨w3.heap.size, 0, none⟩) 1 1) [xt] ((w3.alloc (.cells #[.int .i64 xt] 3)).drew) (sl_one xt _) (by simp)
  rw [htoo] at hrg
  have HRG := Lib.hid hrg
  unfold procV at HRG
  have p0 := cell_of_row w3 (w.heap.size + 1) 0 _ _ _ A.bp
  have p1 := cell_of_row w3 (w.heap.size + 1) 1 _ _ _ A.bp
  have p2 := cell_of_row w3 (w.heap.size + 1) 2 _ _ _ A.bp
  have p3 := cell_of_row w3 (w.heap.size + 1) 3 _ _ _ A.bp
  have x0 := cell_of_row w3 (w.heap.size + 1 + 1) 0 _ _ _ A.bx
  have x1 := cell_of_row w3 (w.heap.size + 1 + 1) 1 _ _ _ A.bx
  have x7 := cell_of_row w3 (w.heap.size + 1 + 1) 7 _ _ _ A.bx
  simp only [List.getElem?_toArray, List.getElem?_cons_zero, List.getElem?_cons_succ] at p0 p1 p2 p3 x0 x1 x7
  have hl0 : w.heap.size < w3.heap.size := by omega
  have hl1 : w.heap.size + 1 < w3.heap.size := by omega
  have hl2 : w.heap.size + 1 + 1 < w3.heap.size := by omega
  have HF : Hid (InsS w3 w.heap.size p (.slice ab p.blocks.length cb) xt num) := ⟨p0, p1, p2, p3, x1, x7⟩
  have HFA : Hid (∀ o : Obj, InsS (w3.alloc o) w.heap.size p (.slice ab p.blocks.length cb) xt num) := fun o => HF.out.alloc o
  have HS3 := Lib.hid hs3
  clear I A hw3 hargs hrg hdv hs3
  unfold procV insV
  dsimp only
  go_enter Try.func28, Try.ntmps28
  go_wp2_with fail
  rw [← HW3.out]
  with_reducible refine HAR.out.mono ?_
  rintro e w3' ⟨rfl, rfl⟩
  go_wp2_with fail
  go_region_held3 (fun w' => w'.cell? ⟨w.heap.size + 1, 0, none⟩ = some (.int .i64 p.params) ∧ w'.cell? ⟨w.heap.size + 1, 1, none⟩ = some (.int .i64 p.holds) ∧ w'.cell? ⟨w.heap.size + 1, 2, none⟩ = some (.int .i64 p.regs) ∧ w'.cell? ⟨w.heap.size + 1, 3, none⟩ = some (.slice ab p.blocks.length cb) ∧ w'.cell? ⟨w.heap.size + 1 + 1, 1, none⟩ = some (.int .i64 xt) ∧ w'.cell? ⟨w.heap.size + 1 + 1, 7, none⟩ = some (.int .i64 num))
    (first | with_reducible exact HF.out | with_reducible exact HFA.out _ | with_reducible exact HF4.out | exact HF.out | exact HFA.out _)
    (first
      | (go_at_call 43; (with_reducible refine HRG.out.mono ?_); rintro e w4 ⟨rfl, hb4'⟩; have hb4 : Below w3.heap.size w3 w4 := (((Below.refl _ _).alloc (Nat.le_refl _) _).drew).trans (hb4'.mono (by rw [two_size0]; exact Nat.le_succ _)); have bc4 := (hb4.block w.heap.size hl0).trans HA.out.bc; have bp4 := (hb4.block (w.heap.size + 1) hl1).trans HA.out.bp; have bx4 := (hb4.block (w.heap.size + 1 + 1) hl2).trans HA.out.bx; have y0 := cell_of_row w4 _ 0 _ _ _ bp4; have y1 := cell_of_row w4 _ 1 _ _ _ bp4; have y2 := cell_of_row w4 _ 2 _ _ _ bp4; have y3 := cell_of_row w4 _ 3 _ _ _ bp4; have v0 := cell_of_row w4 _ 0 _ _ _ bx4; have v1 := cell_of_row w4 _ 1 _ _ _ bx4; have v2 := cell_of_row w4 _ 2 _ _ _ bx4; have v3 := cell_of_row w4 _ 3 _ _ _ bx4; have v4 := cell_of_row w4 _ 4 _ _ _ bx4; have v5 := cell_of_row w4 _ 5 _ _ _ bx4; have v6 := cell_of_row w4 _ 6 _ _ _ bx4; have v7 := cell_of_row w4 _ 7 _ _ _ bx4; have u0 := cell_of_row w4 _ 0 _ _ _ bc4; simp only [List.getElem?_toArray, List.getElem?_cons_zero, List.getElem?_cons_succ] at y0 y1 y2 y3 v0 v1 v2 v3 v4 v5 v6 v7 u0; have HF4 := Lib.hid (And.intro y0 (And.intro y1 (And.intro y2 (And.intro y3 (And.intro v1 v7))))); have HB4 := Lib.hid hb4; have HBX := Lib.hid bx4; have hq4 : w.heap.size + 1 + 1 < w4.heap.size := Nat.lt_of_lt_of_le hl2 hb4.size; have hs4 := hb4.size; clear hb4 hb4' bc4 bp4 bx4))
  all_goals
    have HBB : Hid (Below w.heap.size w w4.drew) := (HA.out.below.trans (HB4.out.mono HA.out.below.size)).drew
    go_wp2_with fail
    go_region
    cases lb
    · go_wp2_with fail
      go_ret
      rw [HE.out]
      exact ⟨by first | rfl | simp, HBB.out⟩
    · cases nb
      · go_wp2_with fail
        go_ret
        rw [HE.out]
        exact ⟨by first | rfl | simp, HBB.out⟩
      · cases ub
        · go_wp2_with fail
          go_ret
          rw [HE.out]
          exact ⟨by first | rfl | simp, HBB.out⟩
        · have hra0 := regs_any p (.slice ab p.blocks.length cb) ⟨_, _, _, rfl⟩ (.slice al args.length cl) args w4.drew (HARGS.out.below HBB.out (Nat.le_refl _)) HI.out.few
          rw [HRAV.out] at hra0
          have HRA := Lib.hid hra0
          unfold procV at HRA
          clear hra0
          cases ra
          · go_wp2_with fail
            with_reducible refine HRA.out.mono ?_
            rintro e w5 ⟨rfl, hb5⟩
            have hbx5 := (hb5.block (w.heap.size + 1 + 1) hq4).trans HBX.out
            have z3 := cell_of_row w5 _ 3 _ _ _ hbx5
            have z4 := cell_of_row w5 _ 4 _ _ _ hbx5
            have z5 := cell_of_row w5 _ 5 _ _ _ hbx5
            have z6 := cell_of_row w5 _ 6 _ _ _ hbx5
            simp only [List.getElem?_toArray, List.getElem?_cons_zero, List.getElem?_cons_succ] at z3 z4 z5 z6
            have hq5 : w.heap.size + 1 + 1 < w5.heap.size := Nat.lt_of_lt_of_le hq4 hb5.size
            have HB5 : Hid (Below w.heap.size w w5) := HBB.out.trans (hb5.mono HBB.out.size)
            clear hb5 hbx5
            go_wp2_with fail
            go_ret
            rw [HE.out]
            exact ⟨by first | rfl | simp, HB5.out⟩
          · go_wp2_with fail
            with_reducible refine HRA.out.mono ?_
            rintro e w5 ⟨rfl, hb5⟩
            have hbx5 := (hb5.block (w.heap.size + 1 + 1) hq4).trans HBX.out
            have z3 := cell_of_row w5 _ 3 _ _ _ hbx5
            have z4 := cell_of_row w5 _ 4 _ _ _ hbx5
            have z5 := cell_of_row w5 _ 5 _ _ _ hbx5
            have z6 := cell_of_row w5 _ 6 _ _ _ hbx5
            simp only [List.getElem?_toArray, List.getElem?_cons_zero, List.getElem?_cons_succ] at z3 z4 z5 z6
            have hq5 : w.heap.size + 1 + 1 < w5.heap.size := Nat.lt_of_lt_of_le hq4 hb5.size
            have HB5 : Hid (Below w.heap.size w w5) := HBB.out.trans (hb5.mono HBB.out.size)
            clear hb5 hbx5
            go_wp2_with fail
            with_reducible refine (HEQ.out _).mono ?_
            rintro e w6 ⟨rfl, hb6⟩
            have HB6 : Hid (Below w.heap.size w w6) := HB5.out.trans (hb6.mono HB5.out.size)
            clear hb6
            go_wp2_with fail
            go_ret
            rw [HE.out]
            exact ⟨by rw [HB0.out]; first | rfl | simp, HB6.out⟩
set_option maxHeartbeats 16000000 in
theorem ins_held (I : ChkIn w cv c p bv x lv dl) {lb b1 b2 tb ra : Bool} (hop : x.op = sHeld) (hLb : ((x.args.length : Int) == 0) = lb) (hg1 : decide (0 ≤ x.num) = b1) (hg2 : decide (x.num < p.holds) = b2) (htoo : regsB p [x.to] = tb) (hra : regsB p x.args = ra) (hE : insB c p x = (lb && (b1 && b2) && tb && ra && bare x.const)) :
    Calls Try.prog 28 #[.agg #[cv], procV p bv, insV x lv dl] w fun e w' => e = .returned (.bool (insB c p x)) ∧ Below w.heap.size w w' := by
  obtain ⟨w3, hw3, A⟩ := InsAt.of w cv c p bv x lv dl
  obtain ⟨acv, ncv, rfl⟩ := I.cvl
  obtain ⟨ab, cb, rfl⟩ := I.bvl
  obtain ⟨al, cl, hlv⟩ := I.args.len
  subst hlv
  obtain ⟨da, dc, hdv, _⟩ := I.dat.inv
  have hdl : dl = .slice da x.const.list.length dc := by simpa using hdv
  subst hdl
  have hil : (ints x.args).length = x.args.length := by simp [ints]
  have hargs := I.args
  rw [hil] at hargs A hw3 ⊢
  have hkl : x.const.list.length ≤ 9223372036854775807 := fit_len I.fit
  have HEQ := Lib.hid (equal_bare x.const.kind x.const.int x.const.text da x.const.list.length dc hkl)
  have HB0 : Hid (bare x.const = (decide (x.const.kind = 0) && decide (x.const.int = 0) && decide (x.const.text = ⟨#[]⟩) && decide (x.const.list.length = 0))) := rfl
  have hs3 := A.size
  have HAR := Lib.hid (arity_any x.op w3)
  have HI := Lib.hid I
  have HA := Lib.hid A
  have HW3 := Lib.hid hw3
  have HARGS := Lib.hid hargs
  obtain ⟨op, xt, args, const, num⟩ := x
  dsimp only at *
  subst hop
  unfold sHeld at *
  have HRAV := Lib.hid hra
  clear hra
  have HE := Lib.hid hE
  clear hE
  have hrg := regs_any p (.slice ab p.blocks.length cb) ⟨_, _, _, rfl⟩ (.slice (some ⟨w3.heap.size, 0, none⟩) 1 1) [xt] ((w3.alloc (.cells #[.int .i64 xt] 3)).drew) (sl_one xt _) (by simp)
  rw [htoo] at hrg
  have HRG := Lib.hid hrg
  unfold procV at HRG
  have p0 := cell_of_row w3 (w.heap.size + 1) 0 _ _ _ A.bp
  have p1 := cell_of_row w3 (w.heap.size + 1) 1 _ _ _ A.bp
  have p2 := cell_of_row w3 (w.heap.size + 1) 2 _ _ _ A.bp
  have p3 := cell_of_row w3 (w.heap.size + 1) 3 _ _ _ A.bp
  have x0 := cell_of_row w3 (w.heap.size + 1 + 1) 0 _ _ _ A.bx
  have x1 := cell_of_row w3 (w.heap.size + 1 + 1) 1 _ _ _ A.bx
  have x7 := cell_of_row w3 (w.heap.size + 1 + 1) 7 _ _ _ A.bx
  simp only [List.getElem?_toArray, List.getElem?_cons_zero, List.getElem?_cons_succ] at p0 p1 p2 p3 x0 x1 x7
  have hl0 : w.heap.size < w3.heap.size := by omega
  have hl1 : w.heap.size + 1 < w3.heap.size := by omega
  have hl2 : w.heap.size + 1 + 1 < w3.heap.size := by omega
  have HF : Hid (InsS w3 w.heap.size p (.slice ab p.blocks.length cb) xt num) := ⟨p0, p1, p2, p3, x1, x7⟩
  have HFA : Hid (∀ o : Obj, InsS (w3.alloc o) w.heap.size p (.slice ab p.blocks.length cb) xt num) := fun o => HF.out.alloc o
  have HS3 := Lib.hid hs3
  clear I A hw3 hargs hrg hdv hs3
  unfold procV insV
  dsimp only
  go_enter Try.func28, Try.ntmps28
  go_wp2_with fail
  rw [← HW3.out]
  with_reducible refine HAR.out.mono ?_
  rintro e w3' ⟨rfl, rfl⟩
  go_wp2_with fail
  go_region_held3 (fun w' => w'.cell? ⟨w.heap.size + 1, 0, none⟩ = some (.int .i64 p.params) ∧ w'.cell? ⟨w.heap.size + 1, 1, none⟩ = some (.int .i64 p.holds) ∧ w'.cell? ⟨w.heap.size + 1, 2, none⟩ = some (.int .i64 p.regs) ∧ w'.cell? ⟨w.heap.size + 1, 3, none⟩ = some (.slice ab p.blocks.length cb) ∧ w'.cell? ⟨w.heap.size + 1 + 1, 1, none⟩ = some (.int .i64 xt) ∧ w'.cell? ⟨w.heap.size + 1 + 1, 7, none⟩ = some (.int .i64 num))
    (first | with_reducible exact HF.out | with_reducible exact HFA.out _ | with_reducible exact HF4.out | exact HF.out | exact HFA.out _)
    (first
      | (go_at_call 43; (with_reducible refine HRG.out.mono ?_); rintro e w4 ⟨rfl, hb4'⟩; have hb4 : Below w3.heap.size w3 w4 := (((Below.refl _ _).alloc (Nat.le_refl _) _).drew).trans (hb4'.mono (by rw [two_size0]; exact Nat.le_succ _)); have bc4 := (hb4.block w.heap.size hl0).trans HA.out.bc; have bp4 := (hb4.block (w.heap.size + 1) hl1).trans HA.out.bp; have bx4 := (hb4.block (w.heap.size + 1 + 1) hl2).trans HA.out.bx; have y0 := cell_of_row w4 _ 0 _ _ _ bp4; have y1 := cell_of_row w4 _ 1 _ _ _ bp4; have y2 := cell_of_row w4 _ 2 _ _ _ bp4; have y3 := cell_of_row w4 _ 3 _ _ _ bp4; have v0 := cell_of_row w4 _ 0 _ _ _ bx4; have v1 := cell_of_row w4 _ 1 _ _ _ bx4; have v2 := cell_of_row w4 _ 2 _ _ _ bx4; have v3 := cell_of_row w4 _ 3 _ _ _ bx4; have v4 := cell_of_row w4 _ 4 _ _ _ bx4; have v5 := cell_of_row w4 _ 5 _ _ _ bx4; have v6 := cell_of_row w4 _ 6 _ _ _ bx4; have v7 := cell_of_row w4 _ 7 _ _ _ bx4; have u0 := cell_of_row w4 _ 0 _ _ _ bc4; simp only [List.getElem?_toArray, List.getElem?_cons_zero, List.getElem?_cons_succ] at y0 y1 y2 y3 v0 v1 v2 v3 v4 v5 v6 v7 u0; have HF4 := Lib.hid (And.intro y0 (And.intro y1 (And.intro y2 (And.intro y3 (And.intro v1 v7))))); have HB4 := Lib.hid hb4; have HBX := Lib.hid bx4; have hq4 : w.heap.size + 1 + 1 < w4.heap.size := Nat.lt_of_lt_of_le hl2 hb4.size; have hs4 := hb4.size; clear hb4 hb4' bc4 bp4 bx4))
  all_goals
    have HBB : Hid (Below w.heap.size w w4.drew) := (HA.out.below.trans (HB4.out.mono HA.out.below.size)).drew
    cases lb
    · cases b1
      · go_wp2_with fail
        go_region
        go_wp2_with fail
        go_ret
        rw [HE.out]
        exact ⟨by first | rfl | simp, HBB.out⟩
      · cases b2
        · go_wp2_with fail
          go_region
          go_wp2_with fail
          go_ret
          rw [HE.out]
          exact ⟨by first | rfl | simp, HBB.out⟩
        · go_wp2_with fail
          go_region
          go_wp2_with fail
          go_ret
          rw [HE.out]
          exact ⟨by first | rfl | simp, HBB.out⟩
    · cases b1
      · go_wp2_with fail
        go_region
        go_wp2_with fail
        go_ret
        rw [HE.out]
        exact ⟨by first | rfl | simp, HBB.out⟩
      · cases b2
        · go_wp2_with fail
          go_region
          go_wp2_with fail
          go_ret
          rw [HE.out]
          exact ⟨by first | rfl | simp, HBB.out⟩
        · go_wp2_with fail
          go_region
          cases tb
          · go_wp2_with fail
            go_ret
            rw [HE.out]
            exact ⟨by first | rfl | simp, HBB.out⟩
          · have hra0 := regs_any p (.slice ab p.blocks.length cb) ⟨_, _, _, rfl⟩ (.slice al args.length cl) args w4.drew (HARGS.out.below HBB.out (Nat.le_refl _)) HI.out.few
            rw [HRAV.out] at hra0
            have HRA := Lib.hid hra0
            unfold procV at HRA
            clear hra0
            cases ra
            · go_wp2_with fail
              with_reducible refine HRA.out.mono ?_
              rintro e w5 ⟨rfl, hb5⟩
              have hbx5 := (hb5.block (w.heap.size + 1 + 1) hq4).trans HBX.out
              have z3 := cell_of_row w5 _ 3 _ _ _ hbx5
              have z4 := cell_of_row w5 _ 4 _ _ _ hbx5
              have z5 := cell_of_row w5 _ 5 _ _ _ hbx5
              have z6 := cell_of_row w5 _ 6 _ _ _ hbx5
              simp only [List.getElem?_toArray, List.getElem?_cons_zero, List.getElem?_cons_succ] at z3 z4 z5 z6
              have hq5 : w.heap.size + 1 + 1 < w5.heap.size := Nat.lt_of_lt_of_le hq4 hb5.size
              have HB5 : Hid (Below w.heap.size w w5) := HBB.out.trans (hb5.mono HBB.out.size)
              clear hb5 hbx5
              go_wp2_with fail
              go_ret
              rw [HE.out]
              exact ⟨by first | rfl | simp, HB5.out⟩
            · go_wp2_with fail
              with_reducible refine HRA.out.mono ?_
              rintro e w5 ⟨rfl, hb5⟩
              have hbx5 := (hb5.block (w.heap.size + 1 + 1) hq4).trans HBX.out
              have z3 := cell_of_row w5 _ 3 _ _ _ hbx5
              have z4 := cell_of_row w5 _ 4 _ _ _ hbx5
              have z5 := cell_of_row w5 _ 5 _ _ _ hbx5
              have z6 := cell_of_row w5 _ 6 _ _ _ hbx5
              simp only [List.getElem?_toArray, List.getElem?_cons_zero, List.getElem?_cons_succ] at z3 z4 z5 z6
              have hq5 : w.heap.size + 1 + 1 < w5.heap.size := Nat.lt_of_lt_of_le hq4 hb5.size
              have HB5 : Hid (Below w.heap.size w w5) := HBB.out.trans (hb5.mono HBB.out.size)
              clear hb5 hbx5
              go_wp2_with fail
              with_reducible refine (HEQ.out _).mono ?_
              rintro e w6 ⟨rfl, hb6⟩
              have HB6 : Hid (Below w.heap.size w w6) := HB5.out.trans (hb6.mono HB5.out.size)
              clear hb6
              go_wp2_with fail
              go_ret
              rw [HE.out]
              exact ⟨by rw [HB0.out]; first | rfl | simp, HB6.out⟩
set_option maxHeartbeats 16000000 in
theorem ins_callcc (I : ChkIn w cv c p bv x lv dl) {tb : Bool} (hop : x.op = sCallcc) (htoo : regsB p [x.to] = tb) (hE : insB c p x = false) :
    Calls Try.prog 28 #[.agg #[cv], procV p bv, insV x lv dl] w fun e w' => e = .returned (.bool (insB c p x)) ∧ Below w.heap.size w w' := by
  obtain ⟨w3, hw3, A⟩ := InsAt.of w cv c p bv x lv dl
  obtain ⟨acv, ncv, rfl⟩ := I.cvl
  obtain ⟨ab, cb, rfl⟩ := I.bvl
  obtain ⟨al, cl, hlv⟩ := I.args.len
  subst hlv
  obtain ⟨da, dc, hdv, _⟩ := I.dat.inv
  have hdl : dl = .slice da x.const.list.length dc := by simpa using hdv
  subst hdl
  have hil : (ints x.args).length = x.args.length := by simp [ints]
  have hargs := I.args
  rw [hil] at hargs A hw3 ⊢
  have hkl : x.const.list.length ≤ 9223372036854775807 := fit_len I.fit
  have HEQ := Lib.hid (equal_bare x.const.kind x.const.int x.const.text da x.const.list.length dc hkl)
  have HB0 : Hid (bare x.const = (decide (x.const.kind = 0) && decide (x.const.int = 0) && decide (x.const.text = ⟨#[]⟩) && decide (x.const.list.length = 0))) := rfl
  have hs3 := A.size
  have HAR := Lib.hid (arity_any x.op w3)
  have HI := Lib.hid I
  have HA := Lib.hid A
  have HW3 := Lib.hid hw3
  have HARGS := Lib.hid hargs
  obtain ⟨op, xt, args, const, num⟩ := x
  dsimp only at *
  subst hop
  unfold sCallcc at *
  have HE := Lib.hid hE
  clear hE
  have hrg := regs_any p (.slice ab p.blocks.length cb) ⟨_, _, _, rfl⟩ (.slice (some ⟨w3.heap.size, 0, none⟩) 1 1) [xt] ((w3.alloc (.cells #[.int .i64 xt] 3)).drew) (sl_one xt _) (by simp)
  rw [htoo] at hrg
  have HRG := Lib.hid hrg
  unfold procV at HRG
  have p0 := cell_of_row w3 (w.heap.size + 1) 0 _ _ _ A.bp
  have p1 := cell_of_row w3 (w.heap.size + 1) 1 _ _ _ A.bp
  have p2 := cell_of_row w3 (w.heap.size + 1) 2 _ _ _ A.bp
  have p3 := cell_of_row w3 (w.heap.size + 1) 3 _ _ _ A.bp
  have x0 := cell_of_row w3 (w.heap.size + 1 + 1) 0 _ _ _ A.bx
  have x1 := cell_of_row w3 (w.heap.size + 1 + 1) 1 _ _ _ A.bx
  have x7 := cell_of_row w3 (w.heap.size + 1 + 1) 7 _ _ _ A.bx
  simp only [List.getElem?_toArray, List.getElem?_cons_zero, List.getElem?_cons_succ] at p0 p1 p2 p3 x0 x1 x7
  have hl0 : w.heap.size < w3.heap.size := by omega
  have hl1 : w.heap.size + 1 < w3.heap.size := by omega
  have hl2 : w.heap.size + 1 + 1 < w3.heap.size := by omega
  have HF : Hid (InsS w3 w.heap.size p (.slice ab p.blocks.length cb) xt num) := ⟨p0, p1, p2, p3, x1, x7⟩
  have HFA : Hid (∀ o : Obj, InsS (w3.alloc o) w.heap.size p (.slice ab p.blocks.length cb) xt num) := fun o => HF.out.alloc o
  have HS3 := Lib.hid hs3
  clear I A hw3 hargs hrg hdv hs3
  unfold procV insV
  dsimp only
  go_enter Try.func28, Try.ntmps28
  go_wp2_with fail
  rw [← HW3.out]
  with_reducible refine HAR.out.mono ?_
  rintro e w3' ⟨rfl, rfl⟩
  go_wp2_with fail
  go_region_held3 (fun w' => w'.cell? ⟨w.heap.size + 1, 0, none⟩ = some (.int .i64 p.params) ∧ w'.cell? ⟨w.heap.size + 1, 1, none⟩ = some (.int .i64 p.holds) ∧ w'.cell? ⟨w.heap.size + 1, 2, none⟩ = some (.int .i64 p.regs) ∧ w'.cell? ⟨w.heap.size + 1, 3, none⟩ = some (.slice ab p.blocks.length cb) ∧ w'.cell? ⟨w.heap.size + 1 + 1, 1, none⟩ = some (.int .i64 xt) ∧ w'.cell? ⟨w.heap.size + 1 + 1, 7, none⟩ = some (.int .i64 num))
    (first | with_reducible exact HF.out | with_reducible exact HFA.out _ | with_reducible exact HF4.out | exact HF.out | exact HFA.out _)
    (first
      | (go_at_call 43; (with_reducible refine HRG.out.mono ?_); rintro e w4 ⟨rfl, hb4'⟩; have hb4 : Below w3.heap.size w3 w4 := (((Below.refl _ _).alloc (Nat.le_refl _) _).drew).trans (hb4'.mono (by rw [two_size0]; exact Nat.le_succ _)); have bc4 := (hb4.block w.heap.size hl0).trans HA.out.bc; have bp4 := (hb4.block (w.heap.size + 1) hl1).trans HA.out.bp; have bx4 := (hb4.block (w.heap.size + 1 + 1) hl2).trans HA.out.bx; have y0 := cell_of_row w4 _ 0 _ _ _ bp4; have y1 := cell_of_row w4 _ 1 _ _ _ bp4; have y2 := cell_of_row w4 _ 2 _ _ _ bp4; have y3 := cell_of_row w4 _ 3 _ _ _ bp4; have v0 := cell_of_row w4 _ 0 _ _ _ bx4; have v1 := cell_of_row w4 _ 1 _ _ _ bx4; have v2 := cell_of_row w4 _ 2 _ _ _ bx4; have v3 := cell_of_row w4 _ 3 _ _ _ bx4; have v4 := cell_of_row w4 _ 4 _ _ _ bx4; have v5 := cell_of_row w4 _ 5 _ _ _ bx4; have v6 := cell_of_row w4 _ 6 _ _ _ bx4; have v7 := cell_of_row w4 _ 7 _ _ _ bx4; have u0 := cell_of_row w4 _ 0 _ _ _ bc4; simp only [List.getElem?_toArray, List.getElem?_cons_zero, List.getElem?_cons_succ] at y0 y1 y2 y3 v0 v1 v2 v3 v4 v5 v6 v7 u0; have HF4 := Lib.hid (And.intro y0 (And.intro y1 (And.intro y2 (And.intro y3 (And.intro v1 v7))))); have HB4 := Lib.hid hb4; have HBX := Lib.hid bx4; have hq4 : w.heap.size + 1 + 1 < w4.heap.size := Nat.lt_of_lt_of_le hl2 hb4.size; have hs4 := hb4.size; clear hb4 hb4' bc4 bp4 bx4))
  all_goals
    have HBB : Hid (Below w.heap.size w w4) := HA.out.below.trans (HB4.out.mono HA.out.below.size)
    go_wp2_with fail
    go_ret
    rw [HE.out]
    exact ⟨by first | rfl | simp, HBB.out⟩
set_option maxHeartbeats 16000000 in
theorem ins_closure_a (I : ChkIn w cv c p bv x lv dl) {tb : Bool} (hop : x.op = sClosure) (htoo : regsB p [x.to] = tb) (hg1 : decide (x.num < 1) = true) (hE : insB c p x = false) :
    Calls Try.prog 28 #[.agg #[cv], procV p bv, insV x lv dl] w fun e w' => e = .returned (.bool (insB c p x)) ∧ Below w.heap.size w w' := by
  obtain ⟨w3, hw3, A⟩ := InsAt.of w cv c p bv x lv dl
  obtain ⟨acv, ncv, rfl⟩ := I.cvl
  obtain ⟨ab, cb, rfl⟩ := I.bvl
  obtain ⟨al, cl, hlv⟩ := I.args.len
  subst hlv
  obtain ⟨da, dc, hdv, _⟩ := I.dat.inv
  have hdl : dl = .slice da x.const.list.length dc := by simpa using hdv
  subst hdl
  have hil : (ints x.args).length = x.args.length := by simp [ints]
  have hargs := I.args
  rw [hil] at hargs A hw3 ⊢
  have hkl : x.const.list.length ≤ 9223372036854775807 := fit_len I.fit
  have HEQ := Lib.hid (equal_bare x.const.kind x.const.int x.const.text da x.const.list.length dc hkl)
  have HB0 : Hid (bare x.const = (decide (x.const.kind = 0) && decide (x.const.int = 0) && decide (x.const.text = ⟨#[]⟩) && decide (x.const.list.length = 0))) := rfl
  have hs3 := A.size
  have HAR := Lib.hid (arity_any x.op w3)
  have HI := Lib.hid I
  have HA := Lib.hid A
  have HW3 := Lib.hid hw3
  have HARGS := Lib.hid hargs
  obtain ⟨op, xt, args, const, num⟩ := x
  dsimp only at *
  subst hop
  unfold sClosure at *
  have HE := Lib.hid hE
  clear hE
  have hrg := regs_any p (.slice ab p.blocks.length cb) ⟨_, _, _, rfl⟩ (.slice (some ⟨w3.heap.size, 0, none⟩) 1 1) [xt] ((w3.alloc (.cells #[.int .i64 xt] 3)).drew) (sl_one xt _) (by simp)
  rw [htoo] at hrg
  have HRG := Lib.hid hrg
  unfold procV at HRG
  have p0 := cell_of_row w3 (w.heap.size + 1) 0 _ _ _ A.bp
  have p1 := cell_of_row w3 (w.heap.size + 1) 1 _ _ _ A.bp
  have p2 := cell_of_row w3 (w.heap.size + 1) 2 _ _ _ A.bp
  have p3 := cell_of_row w3 (w.heap.size + 1) 3 _ _ _ A.bp
  have x0 := cell_of_row w3 (w.heap.size + 1 + 1) 0 _ _ _ A.bx
  have x1 := cell_of_row w3 (w.heap.size + 1 + 1) 1 _ _ _ A.bx
  have x7 := cell_of_row w3 (w.heap.size + 1 + 1) 7 _ _ _ A.bx
  simp only [List.getElem?_toArray, List.getElem?_cons_zero, List.getElem?_cons_succ] at p0 p1 p2 p3 x0 x1 x7
  have hl0 : w.heap.size < w3.heap.size := by omega
  have hl1 : w.heap.size + 1 < w3.heap.size := by omega
  have hl2 : w.heap.size + 1 + 1 < w3.heap.size := by omega
  have HF : Hid (InsS w3 w.heap.size p (.slice ab p.blocks.length cb) xt num) := ⟨p0, p1, p2, p3, x1, x7⟩
  have HFA : Hid (∀ o : Obj, InsS (w3.alloc o) w.heap.size p (.slice ab p.blocks.length cb) xt num) := fun o => HF.out.alloc o
  have HS3 := Lib.hid hs3
  clear I A hw3 hargs hrg hdv hs3
  unfold procV insV
  dsimp only
  go_enter Try.func28, Try.ntmps28
  go_wp2_with fail
  rw [← HW3.out]
  with_reducible refine HAR.out.mono ?_
  rintro e w3' ⟨rfl, rfl⟩
  go_wp2_with fail
  go_region_held3 (fun w' => w'.cell? ⟨w.heap.size + 1, 0, none⟩ = some (.int .i64 p.params) ∧ w'.cell? ⟨w.heap.size + 1, 1, none⟩ = some (.int .i64 p.holds) ∧ w'.cell? ⟨w.heap.size + 1, 2, none⟩ = some (.int .i64 p.regs) ∧ w'.cell? ⟨w.heap.size + 1, 3, none⟩ = some (.slice ab p.blocks.length cb) ∧ w'.cell? ⟨w.heap.size + 1 + 1, 1, none⟩ = some (.int .i64 xt) ∧ w'.cell? ⟨w.heap.size + 1 + 1, 7, none⟩ = some (.int .i64 num))
    (first | with_reducible exact HF.out | with_reducible exact HFA.out _ | with_reducible exact HF4.out | exact HF.out | exact HFA.out _)
    (first
      | (go_at_call 43; (with_reducible refine HRG.out.mono ?_); rintro e w4 ⟨rfl, hb4'⟩; have hb4 : Below w3.heap.size w3 w4 := (((Below.refl _ _).alloc (Nat.le_refl _) _).drew).trans (hb4'.mono (by rw [two_size0]; exact Nat.le_succ _)); have bc4 := (hb4.block w.heap.size hl0).trans HA.out.bc; have bp4 := (hb4.block (w.heap.size + 1) hl1).trans HA.out.bp; have bx4 := (hb4.block (w.heap.size + 1 + 1) hl2).trans HA.out.bx; have y0 := cell_of_row w4 _ 0 _ _ _ bp4; have y1 := cell_of_row w4 _ 1 _ _ _ bp4; have y2 := cell_of_row w4 _ 2 _ _ _ bp4; have y3 := cell_of_row w4 _ 3 _ _ _ bp4; have v0 := cell_of_row w4 _ 0 _ _ _ bx4; have v1 := cell_of_row w4 _ 1 _ _ _ bx4; have v2 := cell_of_row w4 _ 2 _ _ _ bx4; have v3 := cell_of_row w4 _ 3 _ _ _ bx4; have v4 := cell_of_row w4 _ 4 _ _ _ bx4; have v5 := cell_of_row w4 _ 5 _ _ _ bx4; have v6 := cell_of_row w4 _ 6 _ _ _ bx4; have v7 := cell_of_row w4 _ 7 _ _ _ bx4; have u0 := cell_of_row w4 _ 0 _ _ _ bc4; simp only [List.getElem?_toArray, List.getElem?_cons_zero, List.getElem?_cons_succ] at y0 y1 y2 y3 v0 v1 v2 v3 v4 v5 v6 v7 u0; have HF4 := Lib.hid (And.intro y0 (And.intro y1 (And.intro y2 (And.intro y3 (And.intro v1 v7))))); have HB4 := Lib.hid hb4; have HBX := Lib.hid bx4; have hq4 : w.heap.size + 1 + 1 < w4.heap.size := Nat.lt_of_lt_of_le hl2 hb4.size; have hs4 := hb4.size; clear hb4 hb4' bc4 bp4 bx4))
  all_goals
    have HBB : Hid (Below w.heap.size w w4) := HA.out.below.trans (HB4.out.mono HA.out.below.size)
    go_wp2_with fail
    go_ret
    rw [HE.out]
    exact ⟨by first | rfl | simp, HBB.out⟩
set_option maxHeartbeats 16000000 in
theorem ins_closure_b (I : ChkIn w cv c p bv x lv dl) {tb : Bool} (hop : x.op = sClosure) (htoo : regsB p [x.to] = tb) (hg1 : decide (x.num < 1) = false) (hg2 : decide ((c.length : Int) ≤ x.num) = true) (hE : insB c p x = false) :
    Calls Try.prog 28 #[.agg #[cv], procV p bv, insV x lv dl] w fun e w' => e = .returned (.bool (insB c p x)) ∧ Below w.heap.size w w' := by
  obtain ⟨w3, hw3, A⟩ := InsAt.of w cv c p bv x lv dl
  obtain ⟨acv, ncv, rfl⟩ := I.cvl
  obtain ⟨ab, cb, rfl⟩ := I.bvl
  obtain ⟨al, cl, hlv⟩ := I.args.len
  subst hlv
  obtain ⟨da, dc, hdv, _⟩ := I.dat.inv
  have hdl : dl = .slice da x.const.list.length dc := by simpa using hdv
  subst hdl
  have hil : (ints x.args).length = x.args.length := by simp [ints]
  have hargs := I.args
  rw [hil] at hargs A hw3 ⊢
  have hkl : x.const.list.length ≤ 9223372036854775807 := fit_len I.fit
  have HEQ := Lib.hid (equal_bare x.const.kind x.const.int x.const.text da x.const.list.length dc hkl)
  have HB0 : Hid (bare x.const = (decide (x.const.kind = 0) && decide (x.const.int = 0) && decide (x.const.text = ⟨#[]⟩) && decide (x.const.list.length = 0))) := rfl
  have hs3 := A.size
  have HAR := Lib.hid (arity_any x.op w3)
  have HI := Lib.hid I
  have HA := Lib.hid A
  have HW3 := Lib.hid hw3
  have HARGS := Lib.hid hargs
  obtain ⟨op, xt, args, const, num⟩ := x
  dsimp only at *
  subst hop
  unfold sClosure at *
  have HE := Lib.hid hE
  clear hE
  have hrg := regs_any p (.slice ab p.blocks.length cb) ⟨_, _, _, rfl⟩ (.slice (some ⟨w3.heap.size, 0, none⟩) 1 1) [xt] ((w3.alloc (.cells #[.int .i64 xt] 3)).drew) (sl_one xt _) (by simp)
  rw [htoo] at hrg
  have HRG := Lib.hid hrg
  unfold procV at HRG
  have p0 := cell_of_row w3 (w.heap.size + 1) 0 _ _ _ A.bp
  have p1 := cell_of_row w3 (w.heap.size + 1) 1 _ _ _ A.bp
  have p2 := cell_of_row w3 (w.heap.size + 1) 2 _ _ _ A.bp
  have p3 := cell_of_row w3 (w.heap.size + 1) 3 _ _ _ A.bp
  have x0 := cell_of_row w3 (w.heap.size + 1 + 1) 0 _ _ _ A.bx
  have x1 := cell_of_row w3 (w.heap.size + 1 + 1) 1 _ _ _ A.bx
  have x7 := cell_of_row w3 (w.heap.size + 1 + 1) 7 _ _ _ A.bx
  simp only [List.getElem?_toArray, List.getElem?_cons_zero, List.getElem?_cons_succ] at p0 p1 p2 p3 x0 x1 x7
  have hl0 : w.heap.size < w3.heap.size := by omega
  have hl1 : w.heap.size + 1 < w3.heap.size := by omega
  have hl2 : w.heap.size + 1 + 1 < w3.heap.size := by omega
  have HF : Hid (InsS w3 w.heap.size p (.slice ab p.blocks.length cb) xt num) := ⟨p0, p1, p2, p3, x1, x7⟩
  have HFA : Hid (∀ o : Obj, InsS (w3.alloc o) w.heap.size p (.slice ab p.blocks.length cb) xt num) := fun o => HF.out.alloc o
  have HS3 := Lib.hid hs3
  clear I A hw3 hargs hrg hdv hs3
  unfold procV insV
  dsimp only
  go_enter Try.func28, Try.ntmps28
  go_wp2_with fail
  rw [← HW3.out]
  with_reducible refine HAR.out.mono ?_
  rintro e w3' ⟨rfl, rfl⟩
  go_wp2_with fail
  go_region_held3 (fun w' => w'.cell? ⟨w.heap.size + 1, 0, none⟩ = some (.int .i64 p.params) ∧ w'.cell? ⟨w.heap.size + 1, 1, none⟩ = some (.int .i64 p.holds) ∧ w'.cell? ⟨w.heap.size + 1, 2, none⟩ = some (.int .i64 p.regs) ∧ w'.cell? ⟨w.heap.size + 1, 3, none⟩ = some (.slice ab p.blocks.length cb) ∧ w'.cell? ⟨w.heap.size + 1 + 1, 1, none⟩ = some (.int .i64 xt) ∧ w'.cell? ⟨w.heap.size + 1 + 1, 7, none⟩ = some (.int .i64 num))
    (first | with_reducible exact HF.out | with_reducible exact HFA.out _ | with_reducible exact HF4.out | exact HF.out | exact HFA.out _)
    (first
      | (go_at_call 43; (with_reducible refine HRG.out.mono ?_); rintro e w4 ⟨rfl, hb4'⟩; have hb4 : Below w3.heap.size w3 w4 := (((Below.refl _ _).alloc (Nat.le_refl _) _).drew).trans (hb4'.mono (by rw [two_size0]; exact Nat.le_succ _)); have bc4 := (hb4.block w.heap.size hl0).trans HA.out.bc; have bp4 := (hb4.block (w.heap.size + 1) hl1).trans HA.out.bp; have bx4 := (hb4.block (w.heap.size + 1 + 1) hl2).trans HA.out.bx; have y0 := cell_of_row w4 _ 0 _ _ _ bp4; have y1 := cell_of_row w4 _ 1 _ _ _ bp4; have y2 := cell_of_row w4 _ 2 _ _ _ bp4; have y3 := cell_of_row w4 _ 3 _ _ _ bp4; have v0 := cell_of_row w4 _ 0 _ _ _ bx4; have v1 := cell_of_row w4 _ 1 _ _ _ bx4; have v2 := cell_of_row w4 _ 2 _ _ _ bx4; have v3 := cell_of_row w4 _ 3 _ _ _ bx4; have v4 := cell_of_row w4 _ 4 _ _ _ bx4; have v5 := cell_of_row w4 _ 5 _ _ _ bx4; have v6 := cell_of_row w4 _ 6 _ _ _ bx4; have v7 := cell_of_row w4 _ 7 _ _ _ bx4; have u0 := cell_of_row w4 _ 0 _ _ _ bc4; simp only [List.getElem?_toArray, List.getElem?_cons_zero, List.getElem?_cons_succ] at y0 y1 y2 y3 v0 v1 v2 v3 v4 v5 v6 v7 u0; have HF4 := Lib.hid (And.intro y0 (And.intro y1 (And.intro y2 (And.intro y3 (And.intro v1 v7))))); have HB4 := Lib.hid hb4; have HBX := Lib.hid bx4; have hq4 : w.heap.size + 1 + 1 < w4.heap.size := Nat.lt_of_lt_of_le hl2 hb4.size; have hs4 := hb4.size; clear hb4 hb4' bc4 bp4 bx4))
  all_goals
    have HBB : Hid (Below w.heap.size w w4) := HA.out.below.trans (HB4.out.mono HA.out.below.size)
    go_wp2_with fail
    go_ret
    rw [HE.out]
    exact ⟨by first | rfl | simp, HBB.out⟩
set_option maxHeartbeats 16000000 in
theorem ins_closure (I : ChkIn w cv c p bv x lv dl) {q : Prc} {lb tb ra : Bool} (hop : x.op = sClosure) (hn1 : 1 ≤ x.num) (hn2 : x.num < c.length) (hq : c[x.num.toNat]? = some q) (hLb : ((x.args.length : Int) == q.holds) = lb) (htoo : regsB p [x.to] = tb) (hra : regsB p x.args = ra) (hE : insB c p x = (lb && tb && ra && bare x.const)) :
    Calls Try.prog 28 #[.agg #[cv], procV p bv, insV x lv dl] w fun e w' => e = .returned (.bool (insB c p x)) ∧ Below w.heap.size w w' := by
  obtain ⟨w3, hw3, A⟩ := InsAt.of w cv c p bv x lv dl
  obtain ⟨acv, ncv, rfl⟩ := I.cvl
  obtain ⟨ab, cb, rfl⟩ := I.bvl
  obtain ⟨al, cl, hlv⟩ := I.args.len
  subst hlv
  obtain ⟨da, dc, hdv, _⟩ := I.dat.inv
  have hdl : dl = .slice da x.const.list.length dc := by simpa using hdv
  subst hdl
  have hil : (ints x.args).length = x.args.length := by simp [ints]
  have hargs := I.args
  rw [hil] at hargs A hw3 ⊢
  have hkl : x.const.list.length ≤ 9223372036854775807 := fit_len I.fit
  have HEQ := Lib.hid (equal_bare x.const.kind x.const.int x.const.text da x.const.list.length dc hkl)
  have HB0 : Hid (bare x.const = (decide (x.const.kind = 0) && decide (x.const.int = 0) && decide (x.const.text = ⟨#[]⟩) && decide (x.const.list.length = 0))) := rfl
  have hs3 := A.size
  have HAR := Lib.hid (arity_any x.op w3)
  have HI := Lib.hid I
  have HA := Lib.hid A
  have HW3 := Lib.hid hw3
  have HARGS := Lib.hid hargs
  obtain ⟨op, xt, args, const, num⟩ := x
  dsimp only at *
  subst hop
  unfold sClosure at *
  obtain ⟨n, rfl⟩ : ∃ n : Nat, num = n := ⟨num.toNat, by omega⟩
  have hq : c[n]? = some q := hq
  have HQ := Lib.hid hq
  have hn0 : (0 : Int) ≤ n := by omega
  have hg1 : decide ((n : Int) < 1) = false := decide_eq_false (by omega)
  have hg2 : decide ((c.length : Int) ≤ n) = false := decide_eq_false (by omega)
  have hg2b : decide (c.length ≤ n) = false := decide_eq_false (by omega)
  clear hn1 hq
  have HRAV := Lib.hid hra
  clear hra
  have HE := Lib.hid hE
  clear hE
  have hrg := regs_any p (.slice ab p.blocks.length cb) ⟨_, _, _, rfl⟩ (.slice (some ⟨w3.heap.size, 0, none⟩) 1 1) [xt] ((w3.alloc (.cells #[.int .i64 xt] 3)).drew) (sl_one xt _) (by simp)
  rw [htoo] at hrg
  have HRG := Lib.hid hrg
  unfold procV at HRG
  have p0 := cell_of_row w3 (w.heap.size + 1) 0 _ _ _ A.bp
  have p1 := cell_of_row w3 (w.heap.size + 1) 1 _ _ _ A.bp
  have p2 := cell_of_row w3 (w.heap.size + 1) 2 _ _ _ A.bp
  have p3 := cell_of_row w3 (w.heap.size + 1) 3 _ _ _ A.bp
  have x0 := cell_of_row w3 (w.heap.size + 1 + 1) 0 _ _ _ A.bx
  have x1 := cell_of_row w3 (w.heap.size + 1 + 1) 1 _ _ _ A.bx
  have x7 := cell_of_row w3 (w.heap.size + 1 + 1) 7 _ _ _ A.bx
  simp only [List.getElem?_toArray, List.getElem?_cons_zero, List.getElem?_cons_succ] at p0 p1 p2 p3 x0 x1 x7
  have hl0 : w.heap.size < w3.heap.size := by omega
  have hl1 : w.heap.size + 1 < w3.heap.size := by omega
  have hl2 : w.heap.size + 1 + 1 < w3.heap.size := by omega
  have HF : Hid (InsS w3 w.heap.size p (.slice ab p.blocks.length cb) xt (n : Nat)) := ⟨p0, p1, p2, p3, x1, x7⟩
  have HFA : Hid (∀ o : Obj, InsS (w3.alloc o) w.heap.size p (.slice ab p.blocks.length cb) xt (n : Nat)) := fun o => HF.out.alloc o
  have HS3 := Lib.hid hs3
  clear I A hw3 hargs hrg hdv hs3
  unfold procV insV
  dsimp only
  go_enter Try.func28, Try.ntmps28
  go_wp2_with fail
  rw [← HW3.out]
  with_reducible refine HAR.out.mono ?_
  rintro e w3' ⟨rfl, rfl⟩
  go_wp2_with fail
  go_region_held3 (fun w' => w'.cell? ⟨w.heap.size + 1, 0, none⟩ = some (.int .i64 p.params) ∧ w'.cell? ⟨w.heap.size + 1, 1, none⟩ = some (.int .i64 p.holds) ∧ w'.cell? ⟨w.heap.size + 1, 2, none⟩ = some (.int .i64 p.regs) ∧ w'.cell? ⟨w.heap.size + 1, 3, none⟩ = some (.slice ab p.blocks.length cb) ∧ w'.cell? ⟨w.heap.size + 1 + 1, 1, none⟩ = some (.int .i64 xt) ∧ w'.cell? ⟨w.heap.size + 1 + 1, 7, none⟩ = some (.int .i64 (n : Nat)))
    (first | with_reducible exact HF.out | with_reducible exact HFA.out _ | with_reducible exact HF4.out | exact HF.out | exact HFA.out _)
    (first
      | (go_at_call 43; (with_reducible refine HRG.out.mono ?_); rintro e w4 ⟨rfl, hb4'⟩; have hb4 : Below w3.heap.size w3 w4 := (((Below.refl _ _).alloc (Nat.le_refl _) _).drew).trans (hb4'.mono (by rw [two_size0]; exact Nat.le_succ _)); have bc4 := (hb4.block w.heap.size hl0).trans HA.out.bc; have bp4 := (hb4.block (w.heap.size + 1) hl1).trans HA.out.bp; have bx4 := (hb4.block (w.heap.size + 1 + 1) hl2).trans HA.out.bx; have y0 := cell_of_row w4 _ 0 _ _ _ bp4; have y1 := cell_of_row w4 _ 1 _ _ _ bp4; have y2 := cell_of_row w4 _ 2 _ _ _ bp4; have y3 := cell_of_row w4 _ 3 _ _ _ bp4; have v0 := cell_of_row w4 _ 0 _ _ _ bx4; have v1 := cell_of_row w4 _ 1 _ _ _ bx4; have v2 := cell_of_row w4 _ 2 _ _ _ bx4; have v3 := cell_of_row w4 _ 3 _ _ _ bx4; have v4 := cell_of_row w4 _ 4 _ _ _ bx4; have v5 := cell_of_row w4 _ 5 _ _ _ bx4; have v6 := cell_of_row w4 _ 6 _ _ _ bx4; have v7 := cell_of_row w4 _ 7 _ _ _ bx4; have u0 := cell_of_row w4 _ 0 _ _ _ bc4; simp only [List.getElem?_toArray, List.getElem?_cons_zero, List.getElem?_cons_succ] at y0 y1 y2 y3 v0 v1 v2 v3 v4 v5 v6 v7 u0; have HF4 := Lib.hid (And.intro y0 (And.intro y1 (And.intro y2 (And.intro y3 (And.intro v1 v7))))); have HB4 := Lib.hid hb4; have HBX := Lib.hid bx4; have hq4 : w.heap.size + 1 + 1 < w4.heap.size := Nat.lt_of_lt_of_le hl2 hb4.size; have hs4 := hb4.size; clear hb4 hb4' bc4 bp4 bx4))
  all_goals
    have HBB : Hid (Below w.heap.size w w4) := HA.out.below.trans (HB4.out.mono HA.out.below.size)
    obtain ⟨bc, oc, cap2, ecv, hbc, hPq⟩ := code_at HI.out.code HQ.out HBB.out
    cases ecv
    have nn1 := hPq.c1
    have hbcw : bc < w4.heap.size := block_lt_of_cell nn1
    clear hPq
    cases lb
    · go_wp2_with fail
      go_ret
      rw [HE.out]
      exact ⟨by first | rfl | simp, HBB.out⟩
    · cases tb
      · go_wp2_with fail
        go_ret
        rw [HE.out]
        exact ⟨by first | rfl | simp, HBB.out⟩
      · have hra0 := regs_any p (.slice ab p.blocks.length cb) ⟨_, _, _, rfl⟩ (.slice al args.length cl) args w4 (HARGS.out.below HBB.out (Nat.le_refl _)) HI.out.few
        rw [HRAV.out] at hra0
        have HRA := Lib.hid hra0
        unfold procV at HRA
        clear hra0
        cases ra
        · go_wp2_with fail
          with_reducible refine HRA.out.mono ?_
          rintro e w5 ⟨rfl, hb5⟩
          have hbx5 := (hb5.block (w.heap.size + 1 + 1) hq4).trans HBX.out
          have z3 := cell_of_row w5 _ 3 _ _ _ hbx5
          have z4 := cell_of_row w5 _ 4 _ _ _ hbx5
          have z5 := cell_of_row w5 _ 5 _ _ _ hbx5
          have z6 := cell_of_row w5 _ 6 _ _ _ hbx5
          simp only [List.getElem?_toArray, List.getElem?_cons_zero, List.getElem?_cons_succ] at z3 z4 z5 z6
          have hq5 : w.heap.size + 1 + 1 < w5.heap.size := Nat.lt_of_lt_of_le hq4 hb5.size
          have HB5 : Hid (Below w.heap.size w w5) := HBB.out.trans (hb5.mono HBB.out.size)
          clear hb5 hbx5
          go_wp2_with fail
          go_ret
          rw [HE.out]
          exact ⟨by first | rfl | simp, HB5.out⟩
        · go_wp2_with fail
          with_reducible refine HRA.out.mono ?_
          rintro e w5 ⟨rfl, hb5⟩
          have hbx5 := (hb5.block (w.heap.size + 1 + 1) hq4).trans HBX.out
          have z3 := cell_of_row w5 _ 3 _ _ _ hbx5
          have z4 := cell_of_row w5 _ 4 _ _ _ hbx5
          have z5 := cell_of_row w5 _ 5 _ _ _ hbx5
          have z6 := cell_of_row w5 _ 6 _ _ _ hbx5
          simp only [List.getElem?_toArray, List.getElem?_cons_zero, List.getElem?_cons_succ] at z3 z4 z5 z6
          have hq5 : w.heap.size + 1 + 1 < w5.heap.size := Nat.lt_of_lt_of_le hq4 hb5.size
          have HB5 : Hid (Below w.heap.size w w5) := HBB.out.trans (hb5.mono HBB.out.size)
          clear hb5 hbx5
          go_wp2_with fail
          with_reducible refine (HEQ.out _).mono ?_
          rintro e w6 ⟨rfl, hb6⟩
          have HB6 : Hid (Below w.heap.size w w6) := HB5.out.trans (hb6.mono HB5.out.size)
          clear hb6
          go_wp2_with fail
          go_ret
          rw [HE.out]
          exact ⟨by rw [HB0.out]; first | rfl | simp, HB6.out⟩
set_option maxHeartbeats 16000000 in
theorem ins_const (I : ChkIn w cv c p bv x lv dl) {lb nb tb : Bool} (hop : x.op = sConst) (hLb : ((x.args.length : Int) == 0) = lb) (hnb : (x.num == 0) = nb) (htoo : regsB p [x.to] = tb) (hE : insB c p x = (lb && nb && tb && (constF x.const).2)) :
    Calls Try.prog 28 #[.agg #[cv], procV p bv, insV x lv dl] w fun e w' => e = .returned (.bool (insB c p x)) ∧ Below w.heap.size w w' := by
  obtain ⟨w3, hw3, A⟩ := InsAt.of w cv c p bv x lv dl
  obtain ⟨acv, ncv, rfl⟩ := I.cvl
  obtain ⟨ab, cb, rfl⟩ := I.bvl
  obtain ⟨al, cl, hlv⟩ := I.args.len
  subst hlv
  obtain ⟨da, dc, hdv, _⟩ := I.dat.inv
  have hdl : dl = .slice da x.const.list.length dc := by simpa using hdv
  subst hdl
  have hil : (ints x.args).length = x.args.length := by simp [ints]
  have hargs := I.args
  rw [hil] at hargs A hw3 ⊢
  have hkl : x.const.list.length ≤ 9223372036854775807 := fit_len I.fit
  have HEQ := Lib.hid (equal_bare x.const.kind x.const.int x.const.text da x.const.list.length dc hkl)
  have HB0 : Hid (bare x.const = (decide (x.const.kind = 0) && decide (x.const.int = 0) && decide (x.const.text = ⟨#[]⟩) && decide (x.const.list.length = 0))) := rfl
  have hs3 := A.size
  have HAR := Lib.hid (arity_any x.op w3)
  have HI := Lib.hid I
  have HA := Lib.hid A
  have HW3 := Lib.hid hw3
  have HARGS := Lib.hid hargs
  obtain ⟨op, xt, args, const, num⟩ := x
  dsimp only at *
  subst hop
  unfold sConst at *
  have HE := Lib.hid hE
  clear hE
  have hrg := regs_any p (.slice ab p.blocks.length cb) ⟨_, _, _, rfl⟩ (.slice (some ⟨w3.heap.size, 0, none⟩) 1 1) [xt] ((w3.alloc (.cells #[.int .i64 xt] 3)).drew) (sl_one xt _) (by simp)
  rw [htoo] at hrg
  have HRG := Lib.hid hrg
  unfold procV at HRG
  have p0 := cell_of_row w3 (w.heap.size + 1) 0 _ _ _ A.bp
  have p1 := cell_of_row w3 (w.heap.size + 1) 1 _ _ _ A.bp
  have p2 := cell_of_row w3 (w.heap.size + 1) 2 _ _ _ A.bp
  have p3 := cell_of_row w3 (w.heap.size + 1) 3 _ _ _ A.bp
  have x0 := cell_of_row w3 (w.heap.size + 1 + 1) 0 _ _ _ A.bx
  have x1 := cell_of_row w3 (w.heap.size + 1 + 1) 1 _ _ _ A.bx
  have x7 := cell_of_row w3 (w.heap.size + 1 + 1) 7 _ _ _ A.bx
  simp only [List.getElem?_toArray, List.getElem?_cons_zero, List.getElem?_cons_succ] at p0 p1 p2 p3 x0 x1 x7
  have hl0 : w.heap.size < w3.heap.size := by omega
  have hl1 : w.heap.size + 1 < w3.heap.size := by omega
  have hl2 : w.heap.size + 1 + 1 < w3.heap.size := by omega
  have HF : Hid (InsS w3 w.heap.size p (.slice ab p.blocks.length cb) xt num) := ⟨p0, p1, p2, p3, x1, x7⟩
  have HFA : Hid (∀ o : Obj, InsS (w3.alloc o) w.heap.size p (.slice ab p.blocks.length cb) xt num) := fun o => HF.out.alloc o
  have HS3 := Lib.hid hs3
  clear I A hw3 hargs hrg hdv hs3
  unfold procV insV
  dsimp only
  go_enter Try.func28, Try.ntmps28
  go_wp2_with fail
  rw [← HW3.out]
  with_reducible refine HAR.out.mono ?_
  rintro e w3' ⟨rfl, rfl⟩
  go_wp2_with fail
  go_region_held3 (fun w' => w'.cell? ⟨w.heap.size + 1, 0, none⟩ = some (.int .i64 p.params) ∧ w'.cell? ⟨w.heap.size + 1, 1, none⟩ = some (.int .i64 p.holds) ∧ w'.cell? ⟨w.heap.size + 1, 2, none⟩ = some (.int .i64 p.regs) ∧ w'.cell? ⟨w.heap.size + 1, 3, none⟩ = some (.slice ab p.blocks.length cb) ∧ w'.cell? ⟨w.heap.size + 1 + 1, 1, none⟩ = some (.int .i64 xt) ∧ w'.cell? ⟨w.heap.size + 1 + 1, 7, none⟩ = some (.int .i64 num))
    (first | with_reducible exact HF.out | with_reducible exact HFA.out _ | with_reducible exact HF4.out | exact HF.out | exact HFA.out _)
    (first
      | (go_at_call 43; (with_reducible refine HRG.out.mono ?_); rintro e w4 ⟨rfl, hb4'⟩; have hb4 : Below w3.heap.size w3 w4 := (((Below.refl _ _).alloc (Nat.le_refl _) _).drew).trans (hb4'.mono (by rw [two_size0]; exact Nat.le_succ _)); have bc4 := (hb4.block w.heap.size hl0).trans HA.out.bc; have bp4 := (hb4.block (w.heap.size + 1) hl1).trans HA.out.bp; have bx4 := (hb4.block (w.heap.size + 1 + 1) hl2).trans HA.out.bx; have y0 := cell_of_row w4 _ 0 _ _ _ bp4; have y1 := cell_of_row w4 _ 1 _ _ _ bp4; have y2 := cell_of_row w4 _ 2 _ _ _ bp4; have y3 := cell_of_row w4 _ 3 _ _ _ bp4; have v0 := cell_of_row w4 _ 0 _ _ _ bx4; have v1 := cell_of_row w4 _ 1 _ _ _ bx4; have v2 := cell_of_row w4 _ 2 _ _ _ bx4; have v3 := cell_of_row w4 _ 3 _ _ _ bx4; have v4 := cell_of_row w4 _ 4 _ _ _ bx4; have v5 := cell_of_row w4 _ 5 _ _ _ bx4; have v6 := cell_of_row w4 _ 6 _ _ _ bx4; have v7 := cell_of_row w4 _ 7 _ _ _ bx4; have u0 := cell_of_row w4 _ 0 _ _ _ bc4; simp only [List.getElem?_toArray, List.getElem?_cons_zero, List.getElem?_cons_succ] at y0 y1 y2 y3 v0 v1 v2 v3 v4 v5 v6 v7 u0; have HF4 := Lib.hid (And.intro y0 (And.intro y1 (And.intro y2 (And.intro y3 (And.intro v1 v7))))); have HB4 := Lib.hid hb4; have HBX := Lib.hid bx4; have hq4 : w.heap.size + 1 + 1 < w4.heap.size := Nat.lt_of_lt_of_le hl2 hb4.size; have hs4 := hb4.size; clear hb4 hb4' bc4 bp4 bx4))
  all_goals
    have HBB : Hid (Below w.heap.size w w4) := HA.out.below.trans (HB4.out.mono HA.out.below.size)
    cases lb
    · go_wp2_with fail
      go_ret
      rw [HE.out]
      exact ⟨by first | rfl | simp, HBB.out⟩
    · cases nb
      · go_wp2_with fail
        go_ret
        rw [HE.out]
        exact ⟨by first | rfl | simp, HBB.out⟩
      · cases tb
        · go_wp2_with fail
          go_ret
          rw [HE.out]
          exact ⟨by first | rfl | simp, HBB.out⟩
        · have HIC := Lib.hid (isConst_any const _ w4 (HI.out.dat.bel HBB.out (Nat.le_refl _)) HI.out.fit)
          go_wp2_with fail
          with_reducible refine HIC.out.mono ?_
          rintro e w5 ⟨rfl, hb5⟩
          have HB5 : Hid (Below w.heap.size w w5) := HBB.out.trans (hb5.mono HBB.out.size)
          clear hb5
          go_wp2_with fail
          go_ret
          rw [HE.out]
          exact ⟨by first | rfl | simp, HB5.out⟩
theorem len_dec (n k : Nat) : decide (n = k) = ((n : Int) == (k : Int)) := by
  rw [Bool.eq_iff_iff]
  simp only [decide_eq_true_eq, beq_iff_eq]
  omega
theorem ins_any (I : ChkIn w cv c p bv x lv dl) : Calls Try.prog 28 #[.agg #[cv], procV p bv, insV x lv dl] w fun e w' => e = .returned (.bool (insB c p x)) ∧ Below w.heap.size w w' := by
  by_cases e1 : x.op = sConst
  · exact ins_const I e1 rfl rfl rfl (by unfold insB; rw [if_pos e1, len_dec]; rfl)
  by_cases e2 : x.op = sMove
  · exact ins_move I e2 rfl rfl rfl rfl (by unfold insB; rw [if_neg e1, if_pos e2, len_dec]; rfl)
  by_cases e3 : x.op = sHeld
  · exact ins_held I e3 rfl rfl rfl rfl rfl (by unfold insB; rw [if_neg e1, if_neg e2, if_pos e3, len_dec]; rfl)
  by_cases e4 : x.op = sClosure
  · have hE0 : insB c p x = ((decide (1 ≤ x.num) && decide (x.num < c.length)) && (match c[x.num.toNat]? with | some q => decide ((x.args.length : Int) = q.holds) | none => false) && regsB p [x.to] && regsB p x.args && bare x.const) := by
      unfold insB
      rw [if_neg e1, if_neg e2, if_neg e3, if_pos e4]
      cases c[x.num.toNat]? <;> rfl
    cases h1 : decide (x.num < 1) with
    | true =>
      have : decide (1 ≤ x.num) = false := decide_eq_false (by have := of_decide_eq_true h1; omega)
      exact ins_closure_a I e4 rfl h1 (by rw [hE0, this]; rfl)
    | false =>
      have g1 : 1 ≤ x.num := by have := of_decide_eq_false h1; omega
      cases h2 : decide ((c.length : Int) ≤ x.num) with
      | true =>
        have : decide (x.num < c.length) = false := decide_eq_false (by have := of_decide_eq_true h2; omega)
        exact ins_closure_b I e4 rfl h1 h2 (by rw [hE0, this, Bool.and_false]; rfl)
      | false =>
        have g2 : x.num < c.length := by have := of_decide_eq_false h2; omega
        obtain ⟨q, hq⟩ : ∃ q, c[x.num.toNat]? = some q := ⟨_, List.getElem?_eq_getElem (by omega)⟩
        exact ins_closure I e4 g1 g2 hq rfl rfl rfl (by rw [hE0, decide_eq_true g1, decide_eq_true g2, hq]; rfl)
  by_cases e5 : x.op = sTie
  · exact ins_tie I e5 rfl rfl rfl rfl rfl (by unfold insB; rw [if_neg e1, if_neg e2, if_neg e3, if_neg e4, if_pos e5, len_dec]; rfl)
  by_cases e6 : x.op = sCallcc
  · exact ins_callcc I e6 rfl (by unfold insB; rw [if_neg e1, if_neg e2, if_neg e3, if_neg e4, if_neg e5, if_pos e6])
  · exact ins_else I e1 e2 e3 e4 e5 e6 rfl rfl rfl rfl (by unfold insB; rw [if_neg e1, if_neg e2, if_neg e3, if_neg e4, if_neg e5, if_neg e6]; rfl)
end
end Vm
end Go.Proofs.Ytalfnaielhbocaa
namespace Go.Proofs.Ytalfnaielhbocaa
open Go.RowKit
set_option linter.unusedVariables false
set_option linter.unusedSimpArgs false
set_option maxRecDepth 100000
namespace Vm
structure InsM (w w3 : World) (cv : Value) (p : Prc) (bv : Value) (x : Ins) (lv dl : Value) : Prop where
  below : Below w.heap.size w w3
  size : w.heap.size + 1 + 1 + 1 ≤ w3.heap.size
  bc : w3.heap[w.heap.size]? = some (.cells #[cv] 24 (0, 0))
  bp : w3.heap[w.heap.size + 1]? = some (.cells #[.int .i64 p.params, .int .i64 p.holds, .int .i64 p.regs, bv] 40 (0, 0))
  bx : w3.heap[w.heap.size + 1 + 1]? = some (.cells #[.string x.op, .int .i64 x.to, lv, .int .i64 x.const.kind, .int .i64 x.const.int, .string x.const.text, dl, .int .i64 x.num] 55 (0, 0))
theorem InsM.bel {w w3 w4 : World} {cv : Value} {p : Prc} {bv : Value} {x : Ins} {lv dl : Value} (h : InsM w w3 cv p bv x lv dl) (hb : Below w3.heap.size w3 w4) : InsM w w4 cv p bv x lv dl :=
  have hs := h.size
  ⟨h.below.trans (hb.mono h.below.size), Nat.le_trans h.size hb.size, (hb.block _ (by omega)).trans h.bc, (hb.block _ (by omega)).trans h.bp, (hb.block _ (by omega)).trans h.bx⟩
abbrev InsQ (b : Nat) (w' : World) (cv : Value) (p : Prc) (bv : Value) (x : Ins) (lv dl : Value) : Prop :=
  w'.cell? ⟨b, 0, none⟩ = some cv ∧ w'.cell? ⟨b + 1, 0, none⟩ = some (.int .i64 p.params) ∧ w'.cell? ⟨b + 1, 1, none⟩ = some (.int .i64 p.holds) ∧ w'.cell? ⟨b + 1, 2, none⟩ = some (.int .i64 p.regs) ∧ w'.cell? ⟨b + 1, 3, none⟩ = some bv ∧
    w'.cell? ⟨b + 1 + 1, 0, none⟩ = some (.string x.op) ∧ w'.cell? ⟨b + 1 + 1, 1, none⟩ = some (.int .i64 x.to) ∧ w'.cell? ⟨b + 1 + 1, 2, none⟩ = some lv ∧ w'.cell? ⟨b + 1 + 1, 3, none⟩ = some (.int .i64 x.const.kind) ∧ w'.cell? ⟨b + 1 + 1, 4, none⟩ = some (.int .i64 x.const.int) ∧
    w'.cell? ⟨b + 1 + 1, 5, none⟩ = some (.string x.const.text) ∧ w'.cell? ⟨b + 1 + 1, 6, none⟩ = some dl ∧ w'.cell? ⟨b + 1 + 1, 7, none⟩ = some (.int .i64 x.num) ∧ b < w'.heap.size ∧ b + 1 < w'.heap.size ∧ b + 1 + 1 < w'.heap.size
theorem InsM.cells {w w3 : World} {cv : Value} {p : Prc} {bv : Value} {x : Ins} {lv dl : Value} (h : InsM w w3 cv p bv x lv dl) : InsQ w.heap.size w3 cv p bv x lv dl :=
  have hs := h.size
  ⟨cell_of_row _ _ 0 _ _ _ h.bc, cell_of_row _ _ 0 _ _ _ h.bp, cell_of_row _ _ 1 _ _ _ h.bp, cell_of_row _ _ 2 _ _ _ h.bp, cell_of_row _ _ 3 _ _ _ h.bp, cell_of_row _ _ 0 _ _ _ h.bx, cell_of_row _ _ 1 _ _ _ h.bx, cell_of_row _ _ 2 _ _ _ h.bx, cell_of_row _ _ 3 _ _ _ h.bx, cell_of_row _ _ 4 _ _ _ h.bx, cell_of_row _ _ 5 _ _ _ h.bx, cell_of_row _ _ 6 _ _ _ h.bx, cell_of_row _ _ 7 _ _ _ h.bx, by omega, by omega, by omega⟩
theorem sl_one2 {w : World} (n : Int) (t : TypeId) : Sl (w.alloc (.cells #[.int .i64 n] t)) (.slice (some ⟨w.heap.size, 0, none⟩) 1 1) (ints [n]) :=
  ⟨_, 1, rfl, .inr ⟨_, rfl, new_cell1 (w := w) rfl⟩⟩
section
variable {w : World} {cv bv lv dl : Value} {c : Code} {p : Prc} {x : Ins}
set_option maxHeartbeats 32000000 in
theorem rins_any (I : ChkIn w cv c p bv x lv dl) : Calls Try.prog 19 #[.agg #[cv], procV p bv, insV x lv dl] w fun e w' => e = .returned (.bool (insB c p x)) ∧ Below w.heap.size w w' := by
  obtain ⟨w3, hw3, A0⟩ := InsAt.of w cv c p bv x lv dl
  have A : InsM w w3 cv p bv x lv dl := ⟨A0.below, Nat.le_of_eq A0.size.symm, A0.bc, A0.bp, A0.bx⟩
  obtain ⟨acv, ncv, rfl⟩ := I.cvl
  obtain ⟨ab, cb, rfl⟩ := I.bvl
  obtain ⟨al, cl, hlv⟩ := I.args.len
  subst hlv
  obtain ⟨da, dc, hdv, _⟩ := I.dat.inv
  have hdl : dl = .slice da x.const.list.length dc := by simpa using hdv
  subst hdl
  have hil : (ints x.args).length = x.args.length := by simp [ints]
  have hargs := I.args
  rw [hil] at hargs A hw3 ⊢
  have hkl : x.const.list.length ≤ 9223372036854775807 := fit_len I.fit
  have HSM : Hid (∀ w1 : World, Calls Try.prog 15 #[.agg #[.int .i64 x.const.kind, .int .i64 x.const.int, .string x.const.text, .slice da x.const.list.length dc], .agg #[.int .i64 0, .int .i64 0, .string ⟨#[]⟩, .slice none 0 0]] w1 fun e w' => e = .returned (.bool (bare x.const)) ∧ Below w1.heap.size w1 w') := fun w1 => rsame_bare x.const.kind x.const.int x.const.text da x.const.list.length dc hkl w1
  have HAR := Lib.hid (rarity_any x.op)
  have HRA := Lib.hid (r15regs_any p (.slice ab p.blocks.length cb) ⟨_, _, _, rfl⟩ (.slice al x.args.length cl) x.args w3 (hargs.below A.below (Nat.le_refl _)) I.few)
  have HI := Lib.hid I
  have HA := Lib.hid A
  have HW3 := Lib.hid hw3
  have HC3 := A.cells
  obtain ⟨op, xt, args, const, num⟩ := x
  dsimp only at *
  have HRT : Hid (∀ w1 : World, Calls Try.prog 30 #[procV p (.slice ab p.blocks.length cb), .slice (some ⟨w1.heap.size, 0, none⟩) 1 1] (w1.alloc (.cells #[.int .i64 xt] 3)) fun e w' => e = .returned (.bool (regsB p [xt])) ∧ Below w1.heap.size w1 w') := fun w1 => by
    refine (r15regs_any p (.slice ab p.blocks.length cb) ⟨_, _, _, rfl⟩ (.slice (some ⟨w1.heap.size, 0, none⟩) 1 1) [xt] (w1.alloc (.cells #[.int .i64 xt] 3)) (sl_one2 xt _) (by simp)).mono ?_
    rintro e w' ⟨rfl, hb⟩
    exact ⟨rfl, ((Below.refl _ _).alloc (Nat.le_refl _) _).trans (hb.mono (by simp))⟩
  unfold procV at HRA HRT
  obtain ⟨ra, hra⟩ : ∃ b, regsB p args = b := ⟨_, rfl⟩
  obtain ⟨tb, htb⟩ : ∃ b, regsB p [xt] = b := ⟨_, rfl⟩
  rw [hra] at HRA
  rw [htb] at HRT
  obtain ⟨a0, a1, a2, a3, a4, b0, b1, b2, b3, b4, b5, b6, b7, l0, l1, l2⟩ := HC3
  clear I A A0 hw3 hargs hdv hil
  unfold procV insV
  dsimp only
  go_enter Try.func19, Try.ntmps19
  cases ra
  · have hE : insB c p ⟨op, xt, args, const, num⟩ = false := by
      unfold insB
      dsimp only
      have hne : ¬ args.length = 0 := fun e => by
        have : args = [] := List.length_eq_zero_iff.1 e
        rw [this] at hra
        exact absurd hra (by simp [regsB])
      simp only [hra, decide_eq_false hne, Bool.and_false, Bool.false_and, ite_self]
    have HE := Lib.hid hE
    clear hE
    go_wp2_with fail
    rw [← HW3.out]
    with_reducible refine HRA.out.mono ?_
    rintro e w4 ⟨rfl, hb4⟩
    have HM4 := HA.out.bel hb4
    have HB4 := Lib.hid HM4.below
    clear HM4 hb4
    go_wp2_with fail
    go_ret
    exact ⟨by rw [HE.out]; first | rfl | simp, HB4.out⟩
  · have hra' := hra
    clear hra
    cases tb
    · by_cases e5 : op = sTie
      · have q5 : (op.toList == [116, 105, 101]) = true := by rw [e5]; unfold sTie; rw [Lib.toList_data]; rfl
        have q5' : (!(op.toList == [116, 105, 101])) = false := by rw [q5]; rfl
        have q1 : (op.toList == [99, 111, 110, 115, 116]) = false := ba_no (l := [99, 111, 110, 115, 116]) (by rw [e5]; decide)
        have q2 : (op.toList == [109, 111, 118, 101]) = false := ba_no (l := [109, 111, 118, 101]) (by rw [e5]; decide)
        have q3 : (op.toList == [104, 101, 108, 100]) = false := ba_no (l := [104, 101, 108, 100]) (by rw [e5]; decide)
        have q4 : (op.toList == [99, 108, 111, 115, 117, 114, 101]) = false := ba_no (l := [99, 108, 111, 115, 117, 114, 101]) (by rw [e5]; decide)
        have E5 := Lib.hid e5
        clear e5
        go_wp2_with fail
        rw [← HW3.out]
        with_reducible refine HRA.out.mono ?_
        rintro e w4 ⟨rfl, hb4⟩
        have HM4 := HA.out.bel hb4
        clear a0 a1 a2 a3 a4 b0 b1 b2 b3 b4 b5 b6 b7 l0 l1 l2
        obtain ⟨a0, a1, a2, a3, a4, b0, b1, b2, b3, b4, b5, b6, b7, l0, l1, l2⟩ := HM4.cells
        have HM4 := Lib.hid HM4
        clear hb4
        dsimp only at a0 a1 a2 a3 a4 b0 b1 b2 b3 b4 b5 b6 b7
        go_wp2_with fail
        with_reducible refine (HRT.out w4).mono ?_
        rintro e w5 ⟨rfl, hb5⟩
        have HM5 := HM4.out.bel hb5
        clear a0 a1 a2 a3 a4 b0 b1 b2 b3 b4 b5 b6 b7 l0 l1 l2
        obtain ⟨a0, a1, a2, a3, a4, b0, b1, b2, b3, b4, b5, b6, b7, l0, l1, l2⟩ := HM5.cells
        have HM5 := Lib.hid HM5
        clear hb5
        dsimp only at a0 a1 a2 a3 a4 b0 b1 b2 b3 b4 b5 b6 b7
        go_wp2_with fail
        with_reducible refine (HSM.out w5).mono ?_
        rintro e w6 ⟨rfl, hb6⟩
        have HM6 := HM5.out.bel hb6
        clear a0 a1 a2 a3 a4 b0 b1 b2 b3 b4 b5 b6 b7 l0 l1 l2
        obtain ⟨a0, a1, a2, a3, a4, b0, b1, b2, b3, b4, b5, b6, b7, l0, l1, l2⟩ := HM6.cells
        have HM6 := Lib.hid HM6
        clear hb6
        dsimp only at a0 a1 a2 a3 a4 b0 b1 b2 b3 b4 b5 b6 b7
        obtain ⟨lb, hlb⟩ : ∃ b, ((args.length : Int) == 2) = b := ⟨_, rfl⟩
        obtain ⟨nb, hnb⟩ : ∃ b, decide (0 ≤ num) = b := ⟨_, rfl⟩
        obtain ⟨zb, hzb⟩ : ∃ b, (xt == 0) = b := ⟨_, rfl⟩
        have hE : insB c p ⟨op, xt, args, const, num⟩ = (lb && nb && zb && bare const) := by
          subst hlb
          subst hnb
          subst hzb
          unfold insB
          dsimp only
          rw [if_neg (by rw [E5.out]; decide), if_neg (by rw [E5.out]; decide), if_neg (by rw [E5.out]; decide), if_neg (by rw [E5.out]; decide), if_pos E5.out, len_dec, hra', Bool.and_true]
          rfl
        have HE := Lib.hid hE
        clear hE
        cases lb
        · go_wp2_with fail
          go_ret
          exact ⟨by rw [HE.out]; first | rfl | simp, HM6.out.below⟩
        · cases nb
          · go_wp2_with fail
            go_ret
            exact ⟨by rw [HE.out]; first | rfl | simp, HM6.out.below⟩
          · cases zb
            · go_wp2_with fail
              go_ret
              exact ⟨by rw [HE.out]; first | rfl | simp, HM6.out.below⟩
            · go_wp2_with fail
              go_ret
              exact ⟨by rw [HE.out]; first | rfl | simp, HM6.out.below⟩
      · have q5 : (op.toList == [116, 105, 101]) = false := ba_no (l := [116, 105, 101]) e5
        have q5' : (!(op.toList == [116, 105, 101])) = true := by rw [q5]; rfl
        have hE : insB c p ⟨op, xt, args, const, num⟩ = false := by
          unfold insB
          dsimp only
          simp only [htb, if_neg e5, Bool.and_false, Bool.false_and, ite_self]
        have HE := Lib.hid hE
        clear hE
        go_wp2_with fail
        rw [← HW3.out]
        with_reducible refine HRA.out.mono ?_
        rintro e w4 ⟨rfl, hb4⟩
        have HM4 := HA.out.bel hb4
        clear a0 a1 a2 a3 a4 b0 b1 b2 b3 b4 b5 b6 b7 l0 l1 l2
        obtain ⟨a0, a1, a2, a3, a4, b0, b1, b2, b3, b4, b5, b6, b7, l0, l1, l2⟩ := HM4.cells
        have HM4 := Lib.hid HM4
        clear hb4
        dsimp only at a0 a1 a2 a3 a4 b0 b1 b2 b3 b4 b5 b6 b7
        go_wp2_with fail
        with_reducible refine (HRT.out w4).mono ?_
        rintro e w5 ⟨rfl, hb5⟩
        have HM5 := HM4.out.bel hb5
        clear a0 a1 a2 a3 a4 b0 b1 b2 b3 b4 b5 b6 b7 l0 l1 l2
        obtain ⟨a0, a1, a2, a3, a4, b0, b1, b2, b3, b4, b5, b6, b7, l0, l1, l2⟩ := HM5.cells
        have HM5 := Lib.hid HM5
        clear hb5
        dsimp only at a0 a1 a2 a3 a4 b0 b1 b2 b3 b4 b5 b6 b7
        go_wp2_with fail
        go_ret
        exact ⟨by rw [HE.out]; first | rfl | simp, HM5.out.below⟩
    · skip
      go_wp2_with fail
      rw [← HW3.out]
      with_reducible refine HRA.out.mono ?_
      rintro e w4 ⟨rfl, hb4⟩
      have HM4 := HA.out.bel hb4
      clear a0 a1 a2 a3 a4 b0 b1 b2 b3 b4 b5 b6 b7 l0 l1 l2
      obtain ⟨a0, a1, a2, a3, a4, b0, b1, b2, b3, b4, b5, b6, b7, l0, l1, l2⟩ := HM4.cells
      have HM4 := Lib.hid HM4
      clear hb4
      dsimp only at a0 a1 a2 a3 a4 b0 b1 b2 b3 b4 b5 b6 b7
      go_wp2_with fail
      with_reducible refine (HRT.out w4).mono ?_
      rintro e w5 ⟨rfl, hb5⟩
      have HM5 := HM4.out.bel hb5
      clear a0 a1 a2 a3 a4 b0 b1 b2 b3 b4 b5 b6 b7 l0 l1 l2
      obtain ⟨a0, a1, a2, a3, a4, b0, b1, b2, b3, b4, b5, b6, b7, l0, l1, l2⟩ := HM5.cells
      have HM5 := Lib.hid HM5
      clear hb5
      dsimp only at a0 a1 a2 a3 a4 b0 b1 b2 b3 b4 b5 b6 b7
      go_wp2_with fail
      with_reducible refine (HSM.out w5).mono ?_
      rintro e w6 ⟨rfl, hb6⟩
      have HM6 := HM5.out.bel hb6
      clear a0 a1 a2 a3 a4 b0 b1 b2 b3 b4 b5 b6 b7 l0 l1 l2
      obtain ⟨a0, a1, a2, a3, a4, b0, b1, b2, b3, b4, b5, b6, b7, l0, l1, l2⟩ := HM6.cells
      have HM6 := Lib.hid HM6
      clear hb6
      dsimp only at a0 a1 a2 a3 a4 b0 b1 b2 b3 b4 b5 b6 b7
      by_cases e1 : op = sConst
      · have q1 : (op.toList == [99, 111, 110, 115, 116]) = true := by rw [e1]; unfold sConst; rw [Lib.toList_data]; rfl
        have E1 := Lib.hid e1
        clear e1
        obtain ⟨lb, hlb⟩ : ∃ b, ((args.length : Int) == 0) = b := ⟨_, rfl⟩
        obtain ⟨nb, hnb⟩ : ∃ b, (num == 0) = b := ⟨_, rfl⟩
        have hE : insB c p ⟨op, xt, args, const, num⟩ = (lb && nb && (constF const).2) := by
          subst hlb
          subst hnb
          unfold insB
          dsimp only
          rw [if_pos E1.out, len_dec, htb, Bool.and_true]
          rfl
        have HE := Lib.hid hE
        clear hE
        cases lb
        · go_wp2_with fail
          go_ret
          exact ⟨by rw [HE.out]; first | rfl | simp, HM6.out.below⟩
        · cases nb
          · go_wp2_with fail
            go_ret
            exact ⟨by rw [HE.out]; first | rfl | simp, HM6.out.below⟩
          · have HIC := Lib.hid (rconst6_any const _ w6 (HI.out.dat.bel HM6.out.below (Nat.le_refl _)) HI.out.fit)
            go_wp2_with fail
            with_reducible refine HIC.out.mono ?_
            rintro e w7 ⟨rfl, hb7⟩
            have HB7 : Hid (Below w.heap.size w w7) := HM6.out.below.trans (hb7.mono HM6.out.below.size)
            clear hb7
            go_wp2_with fail
            go_ret
            exact ⟨by rw [HE.out]; first | rfl | simp, HB7.out⟩
      have q1 : (op.toList == [99, 111, 110, 115, 116]) = false := ba_no (l := [99, 111, 110, 115, 116]) e1
      by_cases e2 : op = sMove
      · have q2 : (op.toList == [109, 111, 118, 101]) = true := by rw [e2]; unfold sMove; rw [Lib.toList_data]; rfl
        have E2 := Lib.hid e2
        clear e2
        obtain ⟨lb, hlb⟩ : ∃ b, ((args.length : Int) == 1) = b := ⟨_, rfl⟩
        obtain ⟨nb, hnb⟩ : ∃ b, (num == 0) = b := ⟨_, rfl⟩
        have hE : insB c p ⟨op, xt, args, const, num⟩ = (lb && nb && bare const) := by
          subst hlb
          subst hnb
          unfold insB
          dsimp only
          rw [if_neg e1, if_pos E2.out, len_dec, htb, hra', Bool.and_true, Bool.and_true]
          rfl
        have HE := Lib.hid hE
        clear hE
        cases lb
        · go_wp2_with fail
          go_ret
          exact ⟨by rw [HE.out]; first | rfl | simp, HM6.out.below⟩
        · cases nb
          · go_wp2_with fail
            go_ret
            exact ⟨by rw [HE.out]; first | rfl | simp, HM6.out.below⟩
          · go_wp2_with fail
            go_ret
            exact ⟨by rw [HE.out]; first | rfl | simp, HM6.out.below⟩
      have q2 : (op.toList == [109, 111, 118, 101]) = false := ba_no (l := [109, 111, 118, 101]) e2
      by_cases e3 : op = sHeld
      · have q3 : (op.toList == [104, 101, 108, 100]) = true := by rw [e3]; unfold sHeld; rw [Lib.toList_data]; rfl
        have E3 := Lib.hid e3
        clear e3
        obtain ⟨lb, hlb⟩ : ∃ b, ((args.length : Int) == 0) = b := ⟨_, rfl⟩
        obtain ⟨nb, hnb⟩ : ∃ b, decide (0 ≤ num) = b := ⟨_, rfl⟩
        obtain ⟨mb, hmb⟩ : ∃ b, decide (num < p.holds) = b := ⟨_, rfl⟩
        have hE : insB c p ⟨op, xt, args, const, num⟩ = (lb && (nb && mb) && bare const) := by
          subst hlb
          subst hnb
          subst hmb
          unfold insB
          dsimp only
          rw [if_neg e1, if_neg e2, if_pos E3.out, len_dec, htb, hra', Bool.and_true, Bool.and_true]
          rfl
        have HE := Lib.hid hE
        clear hE
        cases lb
        · go_wp2_with fail
          go_ret
          exact ⟨by rw [HE.out]; first | rfl | simp, HM6.out.below⟩
        · cases nb
          · go_wp2_with fail
            go_ret
            exact ⟨by rw [HE.out]; first | rfl | simp, HM6.out.below⟩
          · cases mb
            · go_wp2_with fail
              go_ret
              exact ⟨by rw [HE.out]; first | rfl | simp, HM6.out.below⟩
            · go_wp2_with fail
              go_ret
              exact ⟨by rw [HE.out]; first | rfl | simp, HM6.out.below⟩
      have q3 : (op.toList == [104, 101, 108, 100]) = false := ba_no (l := [104, 101, 108, 100]) e3
      by_cases e4 : op = sClosure
      · have q4 : (op.toList == [99, 108, 111, 115, 117, 114, 101]) = true := by rw [e4]; unfold sClosure; rw [Lib.toList_data]; rfl
        have E4 := Lib.hid e4
        clear e4
        have hE0 : insB c p ⟨op, xt, args, const, num⟩ = ((decide (1 ≤ num) && decide (num < c.length)) && (match c[num.toNat]? with | some q => decide ((args.length : Int) = q.holds) | none => false) && bare const) := by
          unfold insB
          dsimp only
          rw [if_neg e1, if_neg e2, if_neg e3, if_pos E4.out, htb, hra', Bool.and_true, Bool.and_true]
          cases c[num.toNat]? <;> rfl
        cases h1 : decide (1 ≤ num) with
        | false =>
          have HE : Hid (insB c p ⟨op, xt, args, const, num⟩ = false) := by unfold Hid; rw [hE0, h1]; rfl
          clear hE0
          go_wp2_with fail
          go_ret
          exact ⟨by rw [HE.out]; first | rfl | simp, HM6.out.below⟩
        | true =>
          cases h2 : decide (num < (c.length : Int)) with
          | false =>
            have HE : Hid (insB c p ⟨op, xt, args, const, num⟩ = false) := by unfold Hid; rw [hE0, h2, Bool.and_false]; rfl
            clear hE0
            go_wp2_with fail
            go_ret
            exact ⟨by rw [HE.out]; first | rfl | simp, HM6.out.below⟩
          | true =>
            have g1 : 1 ≤ num := of_decide_eq_true h1
            have g2 : num < c.length := of_decide_eq_true h2
            obtain ⟨kn, rfl⟩ : ∃ kn : Nat, num = kn := ⟨num.toNat, by omega⟩
            obtain ⟨q, hq⟩ : ∃ q, c[kn]? = some q := ⟨_, List.getElem?_eq_getElem (by omega)⟩
            obtain ⟨_, bc, oc, hcv, hbc, hPC⟩ := HI.out.code.at hq
            cases hcv
            obtain ⟨n0, n1, n2, bvq, n3, hBRq⟩ := hPC
            have hbw := HM6.out.below
            rw [← cell_bel hbw hbc] at n0 n1 n2 n3
            have hbcw : bc < w6.heap.size := Nat.lt_of_lt_of_le hbc hbw.size
            have hg1 : (0 : Int) ≤ kn := by omega
            have hn2 : decide ((kn : Int) < (c.length : Int)) = true := h2
            obtain ⟨mb, hmb⟩ : ∃ b, ((args.length : Int) == q.holds) = b := ⟨_, rfl⟩
            have HE : Hid (insB c p ⟨op, xt, args, const, kn⟩ = (mb && bare const)) := by
              unfold Hid
              rw [hE0, h1, h2, show c[(kn : Int).toNat]? = some q from hq, ← hmb]
              rfl
            clear hE0 hBRq hbw hq
            cases mb
            · go_wp2_with fail
              go_ret
              exact ⟨by rw [HE.out]; first | rfl | simp, HM6.out.below⟩
            · go_wp2_with fail
              go_ret
              exact ⟨by rw [HE.out]; first | rfl | simp, HM6.out.below⟩
      have q4 : (op.toList == [99, 108, 111, 115, 117, 114, 101]) = false := ba_no (l := [99, 108, 111, 115, 117, 114, 101]) e4
      by_cases e5 : op = sTie
      · have q5 : (op.toList == [116, 105, 101]) = true := by rw [e5]; unfold sTie; rw [Lib.toList_data]; rfl
        have E5 := Lib.hid e5
        clear e5
        obtain ⟨lb, hlb⟩ : ∃ b, ((args.length : Int) == 2) = b := ⟨_, rfl⟩
        obtain ⟨nb, hnb⟩ : ∃ b, decide (0 ≤ num) = b := ⟨_, rfl⟩
        obtain ⟨zb, hzb⟩ : ∃ b, (xt == 0) = b := ⟨_, rfl⟩
        have hE : insB c p ⟨op, xt, args, const, num⟩ = (lb && nb && zb && bare const) := by
          subst hlb
          subst hnb
          subst hzb
          unfold insB
          dsimp only
          rw [if_neg e1, if_neg e2, if_neg e3, if_neg e4, if_pos E5.out, len_dec, hra', Bool.and_true]
          rfl
        have HE := Lib.hid hE
        clear hE
        cases lb
        · go_wp2_with fail
          go_ret
          exact ⟨by rw [HE.out]; first | rfl | simp, HM6.out.below⟩
        · cases nb
          · go_wp2_with fail
            go_ret
            exact ⟨by rw [HE.out]; first | rfl | simp, HM6.out.below⟩
          · cases zb
            · go_wp2_with fail
              go_ret
              exact ⟨by rw [HE.out]; first | rfl | simp, HM6.out.below⟩
            · go_wp2_with fail
              go_ret
              exact ⟨by rw [HE.out]; first | rfl | simp, HM6.out.below⟩
      have q5 : (op.toList == [116, 105, 101]) = false := ba_no (l := [116, 105, 101]) e5
      by_cases e6 : op = sCallcc
      · have q6 : (op.toList == [37, 99, 97, 108, 108, 99, 99]) = true := by rw [e6]; unfold sCallcc; rw [Lib.toList_data]; rfl
        have E6 := Lib.hid e6
        clear e6
        have hE : insB c p ⟨op, xt, args, const, num⟩ = false := by
          unfold insB
          dsimp only
          rw [if_neg e1, if_neg e2, if_neg e3, if_neg e4, if_neg e5, if_pos E6.out]
        have HE := Lib.hid hE
        clear hE
        go_wp2_with fail
        go_ret
        exact ⟨by rw [HE.out]; first | rfl | simp, HM6.out.below⟩
      have q6 : (op.toList == [37, 99, 97, 108, 108, 99, 99]) = false := ba_no (l := [37, 99, 97, 108, 108, 99, 99]) e6
      obtain ⟨lb, hlb⟩ : ∃ b, (Vm.arity op == (args.length : Int)) = b := ⟨_, rfl⟩
      obtain ⟨nb, hnb⟩ : ∃ b, (num == 0) = b := ⟨_, rfl⟩
      have hE : insB c p ⟨op, xt, args, const, num⟩ = (lb && nb && bare const) := by
        subst hlb
        subst hnb
        unfold insB
        dsimp only
        rw [if_neg e1, if_neg e2, if_neg e3, if_neg e4, if_neg e5, if_neg e6, htb, hra', Bool.and_true, Bool.and_true, show decide ((args.length : Int) = Vm.arity op) = (Vm.arity op == (args.length : Int)) by rw [Bool.eq_iff_iff]; simp only [decide_eq_true_eq, beq_iff_eq]; exact eq_comm]
        rfl
      have HE := Lib.hid hE
      clear hE
      go_wp2_with fail
      with_reducible refine (HAR.out w6).mono ?_
      rintro e w7 ⟨rfl, rfl⟩
      cases lb
      · go_wp2_with fail
        go_ret
        exact ⟨by rw [HE.out]; first | rfl | simp, HM6.out.below⟩
      · cases nb
        · go_wp2_with fail
          go_ret
          exact ⟨by rw [HE.out]; first | rfl | simp, HM6.out.below⟩
        · go_wp2_with fail
          go_ret
          exact ⟨by rw [HE.out]; first | rfl | simp, HM6.out.below⟩
end
end Vm
end Go.Proofs.Ytalfnaielhbocaa
