/- The machine's call, in all; its end: jumps, returns. -/
import Derived.StillTailTactics
import Derived.Test.YtalfnaielhbocaaKJbf
import Derived.Test.YtalfnaielhbocaaKJbh
import Derived.Test.YtalfnaielhbocaaKJax
import Derived.Deep.RegionHeld3
import Derived.Deep.DeepCutAuto
set_option linter.unusedVariables false
set_option linter.unusedSimpArgs false
set_option linter.unnecessarySimpa false
namespace Go.Proofs.Ytalfnaielhbocaa
open Go.RowKit
set_option linter.unusedVariables false
set_option linter.unusedSimpArgs false
set_option maxRecDepth 100000
namespace Vm
section
variable {w0 w w' : World} {ρ ρ' : Nat → Nat} {H : Nat → Value} {m hb mb : Nat} {T : List Hp.Th} {C : List Cl} {out : List UInt8} {regs : List Hp.V} {frs : List Fr} {ov rv fv cv : Value} {cbs : List Nat} {s : St} {left steps : Nat}
theorem frOk_tell {c : Code} (hc : CodeOk c) {s : St} {C : List Cl} (hC : C = s.cls) (h : ∀ f ∈ s.frs, FrOk c C f) : TellIn s := fun f fs hf => by
  have hfo := h f (by rw [hf]; exact List.mem_cons_self ..)
  obtain ⟨p, b, h1, h2, h3⟩ := hfo.at'
  have := hc.regs p (List.mem_of_getElem? h1)
  obtain ⟨k, p', e1, _⟩ := hfo.cl
  obtain ⟨e2, e3⟩ := look_mem' e1
  exact ⟨hfo.to, by omega, k, hC ▸ e2, by omega⟩
theorem call_any {c : Code} {n : Nat} (h : VmO w0 w ρ H m cv s left steps hb mb ov rv fv cbs) (hc : CodeOk c) (hcode : CodeAt w0 cv c) (hmo : Mo c n s) (v : Hp.V) (a : List Hp.V) (aa : Option Addr) (ca : Nat)
    (ha : w.ownsRow 0 64 3 (.slice aa a.length ca) a.length (Hp.flatV a)) (h0 : ∀ b, (Value.slice aa a.length ca).ownBlock = some b → b ≠ m) :
    Calls Try.prog 22 #[.pointer (some ⟨m, 0, none⟩), v.val, .slice aa a.length ca] w (CallPost w0 m cv (call c s v a) left steps) := by
  cases hf : find s.cls v with
  | none => exact call_none h v a aa ca c hf
  | some k =>
    have hkm : k ∈ s.cls := by
      unfold find at hf
      split at hf
      · exact (look_mem' hf).1
      · cases hf
    have hko := (hmo.cls k hkm).2
    cases hk : k.kont with
    | true =>
      by_cases hal : a.length = 1
      · obtain ⟨x, rfl⟩ := List.length_eq_one_iff.1 hal
        exact call_kont h v x aa ca c hf hk (frOk_tell hc rfl hko.frs) ha h0
      · refine call_many h v a aa ca c hf hk hal ?_
        unfold call
        rw [hf]
        dsimp only
        rw [if_neg (fun e => hal e.2)]
        split
        · rfl
        · rw [if_pos (.inl hk)]
    | false =>
      obtain ⟨p, hp, _⟩ := hko.kn hk
      have hpf := prcB_facts (hc.all p (List.mem_of_getElem? hp))
      by_cases hal : (a.length : Int) = p.params
      · exact call_fun h v a aa ca c hcode hf hk hp hal hpf.2.2.2.2.1 (hc.regs p (List.mem_of_getElem? hp)) ha h0
      · exact call_count h v a aa ca c hcode hf hk hp hal
structure EndIn (w0 w : World) (ρ : Nat → Nat) (H : Nat → Value) (m : Nat) (cv : Value) (s : St) (left steps hb mb : Nat) (ov rv fv : Value) (cbs : List Nat) (x : Fin) (lv : Value) : Prop where
  at' : VmO w0 w ρ H m cv s left steps hb mb ov rv fv cbs
  args : Sl w lv (ints x.args)
  inr : ∀ r ∈ x.args, 0 ≤ r ∧ r < s.regs.length
  few : x.args.length ≤ 1000
  frl : s.regs.length ≤ 2000
structure EndAt (w0 w w2 : World) (ρ : Nat → Nat) (H : Nat → Value) (m : Nat) (cv : Value) (s : St) (left steps hb mb : Nat) (ov rv fv : Value) (cbs : List Nat) (x : Fin) (lv : Value) (a2 : Option Addr) (c2 : Nat) : Prop where
  at' : VmO w0 w2 ρ H m cv s left steps hb mb ov rv fv cbs
  below : Below w.heap.size w w2
  box : w2.heap[w.heap.size]? = some (.cells #[.int .i64 x.kind, .int .i64 x.reg, lv, .int .i64 x.to, .int .i64 x.next, .int .i64 x.els] 45 (0, 0))
  row : w2.ownsRow (w.heap.size + 1) 64 3 (.slice a2 x.args.length c2) x.args.length (Hp.flatV (vals s.regs x.args))
  zero : ∀ b, w.heap.size ≤ b → ρ b = 0
theorem EndAt.of {w1 w2 : World} {x : Fin} {lv : Value} {a2 : Option Addr} {c2 : Nat} (I : EndIn w0 w ρ H m cv s left steps hb mb ov rv fv cbs x lv) (B : Boxed w w1 #[.int .i64 x.kind, .int .i64 x.reg, lv, .int .i64 x.to, .int .i64 x.next, .int .i64 x.els] 45)
    (ho : w2.ownsRow w1.heap.size 64 3 (.slice a2 (vals s.regs x.args).length c2) (vals s.regs x.args).length (Hp.flatV (vals s.regs x.args))) (hb2 : Below w1.heap.size w1 w2) : EndAt w0 w w2 ρ H m cv s left steps hb mb ov rv fv cbs x lv a2 c2 := by
  have hs := B.size
  have hB : Below w.heap.size w w2 := B.below.trans (hb2.mono (by omega))
  rw [vals_length, hs] at ho
  exact ⟨I.at'.bel hB, hB, (hb2.block _ (by omega)).trans B.blk, ho, fun b hb => Decidable.byContradiction fun e => by have := (I.at'.c.lo _ e).2; omega⟩
theorem EndIn.vals {w1 : World} {x : Fin} {lv : Value} (I : EndIn w0 w ρ H m cv s left steps hb mb ov rv fv cbs x lv) (hB : Below w.heap.size w w1) : Calls Try.prog 54 #[.pointer (some ⟨m, 0, none⟩), lv] w1 (CloneV (Vm.vals s.regs x.args) w1) :=
  vals_any m rv s.regs lv x.args w1 ((I.at'.bel hB).cell 12) (I.at'.bel hB).c.regs (I.args.below hB (Nat.le_refl _)) I.inr I.few I.frl
set_option maxHeartbeats 4000000 in
theorem end_jump {c : Code} {x : Fin} {lv : Value} (I : EndIn w0 w ρ H m cv s left steps hb mb ov rv fv cbs x lv) (hk : x.kind = 0) (hn : 0 ≤ x.next) :
    Calls Try.prog 39 #[.pointer (some ⟨m, 0, none⟩), finV x lv] w (CallPost w0 m cv (endB c s x) left steps) := by
  obtain ⟨w1, B⟩ := boxed w #[.int .i64 x.kind, .int .i64 x.reg, lv, .int .i64 x.to, .int .i64 x.next, .int .i64 x.els] 45
  have HV := Lib.hid (I.vals B.below)
  have hE : endB c s x = { s with block := x.next.toNat, pos := 0 } := by unfold endB; rw [if_pos hk]
  have HE := Lib.hid hE
  have HI := Lib.hid I
  have HB := Lib.hid B
  obtain ⟨al, cl, rfl⟩ := I.args.len
  obtain ⟨kind, reg, args, xt, next, els⟩ := x
  dsimp only at hk hn
  subst hk
  obtain ⟨n, rfl⟩ : ∃ n : Nat, next = n := ⟨next.toNat, by omega⟩
  have hm := I.at'.lt
  clear I B hE
  unfold finV
  dsimp only
  go_enter Try.func39, Try.ntmps39
  go_wp2_with fail
  rw [← HB.out.eq]
  with_reducible refine HV.out.mono ?_
  rintro e w2 ⟨a2, c2, rfl, hown2, hb2⟩
  have D := EndAt.of HI.out HB.out hown2 hb2
  clear hown2 hb2
  try dsimp only at D
  have q0 := cell_of_row w2 w.heap.size 0 _ _ _ D.box
  have q1 := cell_of_row w2 w.heap.size 1 _ _ _ D.box
  have q4 := cell_of_row w2 w.heap.size 4 _ _ _ D.box
  have q5 := cell_of_row w2 w.heap.size 5 _ _ _ D.box
  simp only [List.getElem?_toArray, List.getElem?_cons_zero, List.getElem?_cons_succ] at q0 q1 q4 q5
  have hq2 : w.heap.size < w2.heap.size := (Array.getElem?_eq_some_iff.1 D.box).1
  have hm2 := D.at'.lt
  have c14 : w2.cell? ⟨m, 14, none⟩ = some (.int .i64 s.block) := D.at'.cell 14
  have f14 := D.at'.fz 14
  have HX := Lib.hid (D.at'.set 14 (.int .i64 n) (s' := { s with block := n }) (left' := left) (steps' := steps) rfl rfl rfl rfl rfl rfl)
  clear D
  go_wp2_with fail
  refine bodyPost_end (results_none rfl _ _ _) rfl ?_
  rw [HE.out]
  exact ⟨rfl, _, _, _, _, _, _, _, _, HX.out.pos 0⟩
set_option maxHeartbeats 4000000 in
theorem end_if {c : Code} {x : Fin} {lv : Value} (I : EndIn w0 w ρ H m cv s left steps hb mb ov rv fv cbs x lv) (hk : x.kind = 1) (hn : 0 ≤ x.next) (hel : 0 ≤ x.els) (hr : 0 ≤ x.reg ∧ x.reg < s.regs.length) :
    Calls Try.prog 39 #[.pointer (some ⟨m, 0, none⟩), finV x lv] w (CallPost w0 m cv (endB c s x) left steps) := by
  obtain ⟨w1, B⟩ := boxed w #[.int .i64 x.kind, .int .i64 x.reg, lv, .int .i64 x.to, .int .i64 x.next, .int .i64 x.els] 45
  have HV := Lib.hid (I.vals B.below)
  have hE : endB c s x = { s with block := if s.regs.getD x.reg.toNat Hp.none = Hp.none then x.els.toNat else x.next.toNat, pos := 0 } := by unfold endB; rw [if_neg (by omega), if_pos hk]
  have HE := Lib.hid hE
  have HI := Lib.hid I
  have HB := Lib.hid B
  obtain ⟨al, cl, rfl⟩ := I.args.len
  obtain ⟨kind, reg, args, xt, next, els⟩ := x
  dsimp only at hk hn hel hr
  subst hk
  obtain ⟨r, rfl⟩ : ∃ r : Nat, reg = r := ⟨reg.toNat, by omega⟩
  obtain ⟨y, hy⟩ : ∃ y, s.regs[r]? = some y := ⟨_, List.getElem?_eq_getElem (by omega)⟩
  obtain ⟨g, cg, rfl, _, hgl, _⟩ := own_part I.at'.c.regs rfl hy
  have hg4 : ρ g = 4 := I.at'.c.regr g rfl
  obtain ⟨n, rfl⟩ : ∃ n : Nat, next = n := ⟨next.toNat, by omega⟩
  obtain ⟨l, rfl⟩ : ∃ l : Nat, els = l := ⟨els.toNat, by omega⟩
  have hm := I.at'.lt
  clear I B hE
  unfold finV
  dsimp only
  go_enter Try.func39, Try.ntmps39
  go_wp2_with fail
  rw [← HB.out.eq]
  with_reducible refine HV.out.mono ?_
  rintro e w2 ⟨a2, c2, rfl, hown2, hb2⟩
  have D := EndAt.of HI.out HB.out hown2 hb2
  clear hown2 hb2
  try dsimp only at D
  have q0 := cell_of_row w2 w.heap.size 0 _ _ _ D.box
  have q1 := cell_of_row w2 w.heap.size 1 _ _ _ D.box
  have q4 := cell_of_row w2 w.heap.size 4 _ _ _ D.box
  have q5 := cell_of_row w2 w.heap.size 5 _ _ _ D.box
  simp only [List.getElem?_toArray, List.getElem?_cons_zero, List.getElem?_cons_succ] at q0 q1 q4 q5
  have hq2 : w.heap.size < w2.heap.size := (Array.getElem?_eq_some_iff.1 D.box).1
  have hm2 := D.at'.lt
  have c12 : w2.cell? ⟨m, 12, none⟩ = some (.slice (some ⟨g, 0, none⟩) s.regs.length cg) := D.at'.cell 12
  obtain ⟨g', cg', eg, _, hgw, e0, e1, e2, f0, f1, f2⟩ := own_part D.at'.c.regs rfl hy
  cases eg
  have hgq : g ≠ w.heap.size := by omega
  have hqg : w.heap.size ≠ g := by omega
  have hgm : g ≠ m := fun e => by have := D.at'.c.me; rw [← e, hg4] at this; cases this
  have hmg : m ≠ g := fun e => hgm e.symm
  have hr0 : (0 : Int) ≤ r := by omega
  have hr1 : (r : Int) < s.regs.length := by omega
  have c14 : w2.cell? ⟨m, 14, none⟩ = some (.int .i64 s.block) := D.at'.cell 14
  have f14 := D.at'.fz 14
  have hyv : s.regs.getD (r : Int).toNat Hp.none = y := by rw [List.getD_eq_getElem?_getD, Int.toNat_natCast, hy]; rfl
  have HYV := Lib.hid hyv
  have HX := Lib.hid (D.at'.set 14 (.int .i64 n) (s' := { s with block := n }) (left' := left) (steps' := steps) rfl rfl rfl rfl rfl rfl)
  have HX2 : Hid (VmO w0 ((w2.setCell ⟨m, 14, none⟩ (.int .i64 n)).setCell ⟨m, 14, none⟩ (.int .i64 l)) ρ H m cv { s with block := l } left steps hb mb ov (.slice (some ⟨g, 0, none⟩) s.regs.length cg) fv cbs) := HX.out.set 14 (.int .i64 l) (s' := { s with block := l }) (left' := left) (steps' := steps) rfl rfl rfl rfl rfl rfl
  clear D hy hyv
  by_cases hz : y = Hp.none
  · subst hz
    have HS : Hid (endB c s ⟨1, r, args, xt, n, l⟩ = { s with block := l, pos := 0 }) := by
      unfold Hid
      rw [HE.out]
      try dsimp only
      rw [HYV.out, if_pos rfl]
      rfl
    unfold Hp.none at e0 e1 e2
    dsimp only at e0 e1 e2
    go_wp2_with fail
    go_quiet (fail)
    go_wp2_with fail
    refine bodyPost_end (results_none rfl _ _ _) rfl ?_
    rw [HS.out]
    exact ⟨rfl, _, _, _, _, _, _, _, _, (HX2.out.pos 0).drew _⟩
  · have HS : Hid (endB c s ⟨1, r, args, xt, n, l⟩ = { s with block := n, pos := 0 }) := by
      unfold Hid
      rw [HE.out]
      try dsimp only
      rw [HYV.out, if_neg hz]
      rfl
    obtain ⟨yk, yi, yt⟩ := y
    dsimp only at e0 e1 e2
    have hcase : (yk == 0) = false ∨ (yk = 0 ∧ (yi == 0) = false) ∨ (yk = 0 ∧ yi = 0 ∧ ¬ yt.toList = []) := by
      by_cases h1 : yk = 0
      · by_cases h2 : yi = 0
        · refine .inr (.inr ⟨h1, h2, fun h3 => hz ?_⟩)
          rw [Lib.toList_data] at h3
          obtain ⟨yt⟩ := yt
          have h4 : yt = #[] := Array.toList_eq_nil_iff.1 h3
          rw [h1, h2, h4]
          rfl
        · exact .inr (.inl ⟨h1, beq_eq_false_iff_ne.2 h2⟩)
      · exact .inl (beq_eq_false_iff_ne.2 h1)
    clear hz HYV
    rcases hcase with z1 | ⟨rfl, z2⟩ | ⟨rfl, rfl, z3⟩
    · go_wp2_with fail
      go_quiet (fail)
      go_wp2_with fail
      refine bodyPost_end (results_none rfl _ _ _) rfl ?_
      rw [HS.out]
      exact ⟨rfl, _, _, _, _, _, _, _, _, (HX.out.pos 0).drew _⟩
    · go_wp2_with fail
      go_quiet (fail)
      go_wp2_with fail
      refine bodyPost_end (results_none rfl _ _ _) rfl ?_
      rw [HS.out]
      exact ⟨rfl, _, _, _, _, _, _, _, _, (HX.out.pos 0).drew _⟩
    · have z4 : yt.toList.isEmpty = false := by simpa using z3
      have z5 : (yt.toList == []) = false := by simpa using z3
      go_wp2_with fail
      go_quiet (fail)
      go_wp2_with fail
      refine bodyPost_end (results_none rfl _ _ _) rfl ?_
      rw [HS.out]
      exact ⟨rfl, _, _, _, _, _, _, _, _, (HX.out.pos 0).drew _⟩
set_option maxHeartbeats 4000000 in
theorem end_return {c : Code} {x : Fin} {lv : Value} (I : EndIn w0 w ρ H m cv s left steps hb mb ov rv fv cbs x lv) (hk : x.kind = 2) (hr : 0 ≤ x.reg ∧ x.reg < s.regs.length) (hT : TellIn s) :
    Calls Try.prog 39 #[.pointer (some ⟨m, 0, none⟩), finV x lv] w (CallPost w0 m cv (endB c s x) left steps) := by
  obtain ⟨w1, B⟩ := boxed w #[.int .i64 x.kind, .int .i64 x.reg, lv, .int .i64 x.to, .int .i64 x.next, .int .i64 x.els] 45
  have HV := Lib.hid (I.vals B.below)
  have hE : endB c s x = tell s (s.regs.getD x.reg.toNat Hp.none) := by unfold endB; rw [if_neg (by omega), if_neg (by omega), if_pos hk]
  have HE := Lib.hid hE
  have HI := Lib.hid I
  have HB := Lib.hid B
  obtain ⟨al, cl, rfl⟩ := I.args.len
  obtain ⟨kind, reg, args, xt, next, els⟩ := x
  dsimp only at hk hr
  subst hk
  obtain ⟨r, rfl⟩ : ∃ r : Nat, reg = r := ⟨reg.toNat, by omega⟩
  obtain ⟨y, hy⟩ : ∃ y, s.regs[r]? = some y := ⟨_, List.getElem?_eq_getElem (by omega)⟩
  obtain ⟨g, cg, rfl, _, hgl, _⟩ := own_part I.at'.c.regs rfl hy
  have hg4 : ρ g = 4 := I.at'.c.regr g rfl
  have hm := I.at'.lt
  clear I B hE
  unfold finV
  dsimp only
  go_enter Try.func39, Try.ntmps39
  go_wp2_with fail
  rw [← HB.out.eq]
  with_reducible refine HV.out.mono ?_
  rintro e w2 ⟨a2, c2, rfl, hown2, hb2⟩
  have D := EndAt.of HI.out HB.out hown2 hb2
  clear hown2 hb2
  try dsimp only at D
  have q0 := cell_of_row w2 w.heap.size 0 _ _ _ D.box
  have q1 := cell_of_row w2 w.heap.size 1 _ _ _ D.box
  have q4 := cell_of_row w2 w.heap.size 4 _ _ _ D.box
  have q5 := cell_of_row w2 w.heap.size 5 _ _ _ D.box
  simp only [List.getElem?_toArray, List.getElem?_cons_zero, List.getElem?_cons_succ] at q0 q1 q4 q5
  have hq2 : w.heap.size < w2.heap.size := (Array.getElem?_eq_some_iff.1 D.box).1
  have hm2 := D.at'.lt
  have c12 : w2.cell? ⟨m, 12, none⟩ = some (.slice (some ⟨g, 0, none⟩) s.regs.length cg) := D.at'.cell 12
  obtain ⟨g', cg', eg, _, hgw, e0, e1, e2, f0, f1, f2⟩ := own_part D.at'.c.regs rfl hy
  cases eg
  have hgq : g ≠ w.heap.size := by omega
  have hqg : w.heap.size ≠ g := by omega
  have hgm : g ≠ m := fun e => by have := D.at'.c.me; rw [← e, hg4] at this; cases this
  have hmg : m ≠ g := fun e => hgm e.symm
  have hr0 : (0 : Int) ≤ r := by omega
  have hr1 : (r : Int) < s.regs.length := by omega
  have hyv : s.regs.getD (r : Int).toNat Hp.none = y := by rw [List.getD_eq_getElem?_getD, Int.toNat_natCast, hy]; rfl
  have HS : Hid (endB c s ⟨2, r, args, xt, next, els⟩ = tell s y) := by
    unfold Hid
    rw [HE.out]
    try dsimp only
    rw [hyv]
  have HT := Lib.hid (tell_any (w := w2.drew) (D.at'.drew 1) hT y)
  unfold Hp.V.val at HT
  clear D hy hyv
  go_wp2_with fail
  go_still_tail 9, (by kernel_rfl)
  show wpList _ _ _ _ _ _
  go_wp2_with fail
  with_reducible refine HT.out.mono ?_
  rintro e w4 ⟨rfl, hV⟩
  go_wp2_with fail
  refine bodyPost_end (results_none rfl _ _ _) rfl ?_
  rw [HS.out]
  exact ⟨rfl, hV⟩
end
end Vm
end Go.Proofs.Ytalfnaielhbocaa
namespace Go.Proofs.Ytalfnaielhbocaa
open Go.RowKit
set_option linter.unusedVariables false
set_option linter.unusedSimpArgs false
set_option maxRecDepth 100000
namespace Vm
section
variable {w0 w w' : World} {ρ ρ' : Nat → Nat} {H : Nat → Value} {m hb mb : Nat} {T : List Hp.Th} {C : List Cl} {out : List UInt8} {regs : List Hp.V} {frs : List Fr} {ov rv fv cv : Value} {cbs : List Nat} {s : St} {left steps : Nat}
set_option maxHeartbeats 4000000 in
theorem end_tail {c : Code} {n0 : Nat} {p : Prc} {x : Fin} {lv : Value} (I : EndIn w0 w ρ H m cv s left steps hb mb ov rv fv cbs x lv) (hk : x.kind = 3) (hc : CodeOk c) (hcode : CodeAt w0 cv c) (hmo : Mo c n0 s) (hu : Cu c s) (hp : c[s.proc]? = some p) (hx : finB p x = true) (hr : 0 ≤ x.reg ∧ x.reg < s.regs.length) :
    Calls Try.prog 39 #[.pointer (some ⟨m, 0, none⟩), finV x lv] w (CallPost w0 m cv (endB c s x) left steps) := by
  obtain ⟨w1, B⟩ := boxed w #[.int .i64 x.kind, .int .i64 x.reg, lv, .int .i64 x.to, .int .i64 x.next, .int .i64 x.els] 45
  have HV := Lib.hid (I.vals B.below)
  have hE : endB c s x = call c s (s.regs.getD x.reg.toNat Hp.none) (vals s.regs x.args) := by unfold endB; rw [if_neg (by omega), if_neg (by omega), if_neg (by omega), if_pos hk]
  have HE := Lib.hid hE
  have HI := Lib.hid I
  have HB := Lib.hid B
  obtain ⟨al, cl, rfl⟩ := I.args.len
  obtain ⟨kind, reg, args, xt, next, els⟩ := x
  dsimp only at hk hx hr
  subst hk
  obtain ⟨r, rfl⟩ : ∃ r : Nat, reg = r := ⟨reg.toNat, by omega⟩
  obtain ⟨y, hy⟩ : ∃ y, s.regs[r]? = some y := ⟨_, List.getElem?_eq_getElem (by omega)⟩
  obtain ⟨g, cg, rfl, _, hgl, _⟩ := own_part I.at'.c.regs rfl hy
  have hg4 : ρ g = 4 := I.at'.c.regr g rfl
  have hm := I.at'.lt
  clear I B hE
  unfold finV
  dsimp only
  go_enter Try.func39, Try.ntmps39
  go_wp2_with fail
  rw [← HB.out.eq]
  with_reducible refine HV.out.mono ?_
  rintro e w2 ⟨a2, c2, rfl, hown2, hb2⟩
  have D := EndAt.of HI.out HB.out hown2 hb2
  clear hown2 hb2
  try dsimp only at D
  have q0 := cell_of_row w2 w.heap.size 0 _ _ _ D.box
  have q1 := cell_of_row w2 w.heap.size 1 _ _ _ D.box
  simp only [List.getElem?_toArray, List.getElem?_cons_zero, List.getElem?_cons_succ] at q0 q1
  have hq2 : w.heap.size < w2.heap.size := (Array.getElem?_eq_some_iff.1 D.box).1
  have hm2 := D.at'.lt
  have c12 : w2.cell? ⟨m, 12, none⟩ = some (.slice (some ⟨g, 0, none⟩) s.regs.length cg) := D.at'.cell 12
  obtain ⟨g', cg', eg, _, hgw, e0, e1, e2, f0, f1, f2⟩ := own_part D.at'.c.regs rfl hy
  cases eg
  have hr0 : (0 : Int) ≤ r := by omega
  have hr1 : (r : Int) < s.regs.length := by omega
  have hyv : s.regs.getD (r : Int).toNat Hp.none = y := by rw [List.getD_eq_getElem?_getD, Int.toNat_natCast, hy]; rfl
  have HYV := Lib.hid hyv
  obtain ⟨w3, B3⟩ := boxed w2 #[.int .i64 y.kind, .int .i64 y.int, .string y.text] 64
  have X3 := D.at'.bel B3.below
  have hs3 := B3.size
  have hrow2 := D.row.mono (Nat.zero_le _)
  rw [← vals_length s.regs args] at hrow2
  have hrow3 := own_same hrow2 fun b e => B3.below.block b (hrow2.lt b e).2
  have hbox3 := (B3.below.block w.heap.size hq2).trans D.box
  have hne3 : ∀ b, (Value.slice a2 (vals s.regs args).length c2).ownBlock = some b → b ≠ m := fun b e => by
    have h1 := D.row
    rw [← vals_length s.regs args] at h1
    have := (h1.lt b e).1
    omega
  have t0 := cell_of_row w3 w.heap.size 0 _ _ _ hbox3
  have t1 := cell_of_row w3 w.heap.size 1 _ _ _ hbox3
  have t2 := cell_of_row w3 w.heap.size 2 _ _ _ hbox3
  have t3 := cell_of_row w3 w.heap.size 3 _ _ _ hbox3
  have t4 := cell_of_row w3 w.heap.size 4 _ _ _ hbox3
  have t5 := cell_of_row w3 w.heap.size 5 _ _ _ hbox3
  have y0 := cell_of_row w3 w2.heap.size 0 _ _ _ B3.blk
  have y1 := cell_of_row w3 w2.heap.size 1 _ _ _ B3.blk
  have y2 := cell_of_row w3 w2.heap.size 2 _ _ _ B3.blk
  simp only [List.getElem?_toArray, List.getElem?_cons_zero, List.getElem?_cons_succ] at t0 t1 t2 t3 t4 t5 y0 y1 y2
  have hq3 : w.heap.size < w3.heap.size := by omega
  have hy3 : w2.heap.size < w3.heap.size := by omega
  have hm3 : m < w3.heap.size := X3.lt
  have hz3 : ρ w2.heap.size = 0 := D.zero _ (by omega)
  have hzq : ρ w.heap.size = 0 := D.zero _ (Nat.le_refl _)
  have HB3 := Lib.hid B3
  have HX3 := Lib.hid X3
  have HROW3 := Lib.hid hrow3
  have HNE3 := Lib.hid hne3
  have HBOX3 := Lib.hid hbox3
  clear B3 X3 hrow2 hrow3 hne3 hbox3 hy hyv D
  have HS : Hid (endB c s ⟨3, r, args, xt, next, els⟩ = call c s y (vals s.regs args)) := by
    unfold Hid
    rw [HE.out]
    try dsimp only
    rw [HYV.out]
  have HC := Lib.hid (call_any (w := w3.drew) (HX3.out.drew 1) hc hcode hmo y (vals s.regs args) a2 c2 (own_drewN HROW3.out 1) HNE3.out)
  unfold Hp.V.val at HC
  go_wp2_with fail
  go_region
  rw [← HB3.out.eq]
  go_wp2_with fail
  with_reducible refine HC.out.mono ?_
  rintro e w4 hV
  obtain ⟨rfl, hV2⟩ := hV
  go_wp2_with fail
  refine bodyPost_end (results_none rfl _ _ _) rfl ?_
  rw [HS.out]
  exact ⟨rfl, hV2⟩
set_option maxHeartbeats 4000000 in
theorem end_call {c : Code} {n0 : Nat} {p : Prc} {x : Fin} {lv : Value} (I : EndIn w0 w ρ H m cv s left steps hb mb ov rv fv cbs x lv) (hk : x.kind = 4) (hc : CodeOk c) (hcode : CodeAt w0 cv c) (hmo : Mo c n0 s) (hu : Cu c s) (hp : c[s.proc]? = some p) (hx : finB p x = true) (hr : 0 ≤ x.reg ∧ x.reg < s.regs.length) :
    Calls Try.prog 39 #[.pointer (some ⟨m, 0, none⟩), finV x lv] w (CallPost w0 m cv (endB c s x) left steps) := by
  obtain ⟨w1, B⟩ := boxed w #[.int .i64 x.kind, .int .i64 x.reg, lv, .int .i64 x.to, .int .i64 x.next, .int .i64 x.els] 45
  have HV := Lib.hid (I.vals B.below)
  have hE : endB c s x = call c (push s x) (s.regs.getD x.reg.toNat Hp.none) (vals s.regs x.args) := by unfold endB; rw [if_neg (by omega), if_neg (by omega), if_neg (by omega), if_neg (by omega), if_pos hk]
  have HE := Lib.hid hE
  have HI := Lib.hid I
  have HB := Lib.hid B
  obtain ⟨al, cl, rfl⟩ := I.args.len
  obtain ⟨kind, reg, args, xt, next, els⟩ := x
  dsimp only at hk hx hr
  subst hk
  obtain ⟨r, rfl⟩ : ∃ r : Nat, reg = r := ⟨reg.toNat, by omega⟩
  obtain ⟨y, hy⟩ : ∃ y, s.regs[r]? = some y := ⟨_, List.getElem?_eq_getElem (by omega)⟩
  obtain ⟨g, cg, rfl, _, hgl, _⟩ := own_part I.at'.c.regs rfl hy
  have hg4 : ρ g = 4 := I.at'.c.regr g rfl
  have hm := I.at'.lt
  clear I B hE
  unfold finV
  dsimp only
  go_enter Try.func39, Try.ntmps39
  go_wp2_with fail
  rw [← HB.out.eq]
  with_reducible refine HV.out.mono ?_
  rintro e w2 ⟨a2, c2, rfl, hown2, hb2⟩
  have D := EndAt.of HI.out HB.out hown2 hb2
  clear hown2 hb2
  try dsimp only at D
  have q0 := cell_of_row w2 w.heap.size 0 _ _ _ D.box
  have q1 := cell_of_row w2 w.heap.size 1 _ _ _ D.box
  simp only [List.getElem?_toArray, List.getElem?_cons_zero, List.getElem?_cons_succ] at q0 q1
  have hq2 : w.heap.size < w2.heap.size := (Array.getElem?_eq_some_iff.1 D.box).1
  have hm2 := D.at'.lt
  have c12 : w2.cell? ⟨m, 12, none⟩ = some (.slice (some ⟨g, 0, none⟩) s.regs.length cg) := D.at'.cell 12
  obtain ⟨g', cg', eg, _, hgw, e0, e1, e2, f0, f1, f2⟩ := own_part D.at'.c.regs rfl hy
  cases eg
  have hr0 : (0 : Int) ≤ r := by omega
  have hr1 : (r : Int) < s.regs.length := by omega
  have hyv : s.regs.getD (r : Int).toNat Hp.none = y := by rw [List.getD_eq_getElem?_getD, Int.toNat_natCast, hy]; rfl
  have HYV := Lib.hid hyv
  obtain ⟨w3, B3⟩ := boxed w2 #[.int .i64 y.kind, .int .i64 y.int, .string y.text] 64
  have X3 := D.at'.bel B3.below
  have hs3 := B3.size
  have hrow2 := D.row.mono (Nat.zero_le _)
  rw [← vals_length s.regs args] at hrow2
  have hrow3 := own_same hrow2 fun b e => B3.below.block b (hrow2.lt b e).2
  have hbox3 := (B3.below.block w.heap.size hq2).trans D.box
  have hne3 : ∀ b, (Value.slice a2 (vals s.regs args).length c2).ownBlock = some b → b ≠ m := fun b e => by
    have h1 := D.row
    rw [← vals_length s.regs args] at h1
    have := (h1.lt b e).1
    omega
  have t0 := cell_of_row w3 w.heap.size 0 _ _ _ hbox3
  have t1 := cell_of_row w3 w.heap.size 1 _ _ _ hbox3
  have t2 := cell_of_row w3 w.heap.size 2 _ _ _ hbox3
  have t3 := cell_of_row w3 w.heap.size 3 _ _ _ hbox3
  have t4 := cell_of_row w3 w.heap.size 4 _ _ _ hbox3
  have t5 := cell_of_row w3 w.heap.size 5 _ _ _ hbox3
  have y0 := cell_of_row w3 w2.heap.size 0 _ _ _ B3.blk
  have y1 := cell_of_row w3 w2.heap.size 1 _ _ _ B3.blk
  have y2 := cell_of_row w3 w2.heap.size 2 _ _ _ B3.blk
  simp only [List.getElem?_toArray, List.getElem?_cons_zero, List.getElem?_cons_succ] at t0 t1 t2 t3 t4 t5 y0 y1 y2
  have hq3 : w.heap.size < w3.heap.size := by omega
  have hy3 : w2.heap.size < w3.heap.size := by omega
  have hm3 : m < w3.heap.size := X3.lt
  have hz3 : ρ w2.heap.size = 0 := D.zero _ (by omega)
  have hzq : ρ w.heap.size = 0 := D.zero _ (Nat.le_refl _)
  have HB3 := Lib.hid B3
  have HX3 := Lib.hid X3
  have HROW3 := Lib.hid hrow3
  have HNE3 := Lib.hid hne3
  have HBOX3 := Lib.hid hbox3
  clear B3 X3 hrow2 hrow3 hne3 hbox3 hy hyv D
  have HS : Hid (endB c s ⟨4, r, args, xt, next, els⟩ = call c (push s ⟨4, r, args, xt, next, els⟩) y (vals s.regs args)) := by
    unfold Hid
    rw [HE.out]
    try dsimp only
    rw [HYV.out]
  have hF := finB_facts hx
  have hto0 := (hF.2.2.2.2.2.2.2 (by simp)).1
  have hnx0 := (hF.2.2.2.2.2.1 (by simp)).1
  dsimp only at hto0 hnx0
  obtain ⟨kc, pc, hkc, _⟩ := hu.cl
  obtain ⟨hkc1, hkc2⟩ := look_mem' hkc
  have hfrl := HI.out.frl
  have HPU := Lib.hid (push_any (w := w3.drew) (HX3.out.drew 1) ⟨4, r, args, xt, next, els⟩ al (ints args).length cl hto0 hnx0 hfrl hkc1 (by omega))
  have hmoP := push_ok hmo hu hp hx (by simp)
  have HMOP := Lib.hid hmoP
  unfold finV at HPU
  dsimp only at HPU
  clear hmoP hF
  go_wp2_with fail
  go_region
  rw [← HB3.out.eq]
  go_wp2_with fail
  with_reducible refine HPU.out.mono ?_
  rintro e w4 ⟨rfl, ⟨ρ4, fv4, X4, hz4⟩, hs4, hk4⟩
  have hk4' : ∀ b, b < w3.heap.size → b ≠ m → w4.heap[b]? = w3.heap[b]? := hk4
  have hs4' : w3.heap.size ≤ w4.heap.size := hs4
  have hbox4 := (hk4' w.heap.size hq3 (by omega)).trans HBOX3.out
  have hyb4 := (hk4' w2.heap.size hy3 (by omega)).trans HB3.out.blk
  have hrow4 := own_same HROW3.out fun b e => hk4' b (HROW3.out.lt b e).2 (HNE3.out b e)
  have hz41 : ρ4 w2.heap.size = 0 := hz4 _ hy3 hz3
  have u0 := cell_of_row w4 w.heap.size 0 _ _ _ hbox4
  have v0 := cell_of_row w4 w2.heap.size 0 _ _ _ hyb4
  have v1 := cell_of_row w4 w2.heap.size 1 _ _ _ hyb4
  have v2 := cell_of_row w4 w2.heap.size 2 _ _ _ hyb4
  simp only [List.getElem?_toArray, List.getElem?_cons_zero, List.getElem?_cons_succ] at u0 v0 v1 v2
  have hq4 : w.heap.size < w4.heap.size := by omega
  have hy4 : w2.heap.size < w4.heap.size := by omega
  have hm4 := X4.lt
  have HC := Lib.hid (call_any X4 hc hcode HMOP.out y (vals s.regs args) a2 c2 hrow4 HNE3.out)
  unfold Hp.V.val at HC
  clear X4 hz4 hs4 hk4 hk4' hs4' hbox4 hyb4 hrow4
  go_wp2_with fail
  with_reducible refine HC.out.mono ?_
  rintro e w5 hV
  obtain ⟨rfl, hV2⟩ := hV
  go_wp2_with fail
  refine bodyPost_end (results_none rfl _ _ _) rfl ?_
  rw [HS.out]
  exact ⟨rfl, hV2⟩
set_option maxHeartbeats 4000000 in
theorem end_tailcc {c : Code} {n0 : Nat} {p : Prc} {x : Fin} {lv : Value} (I : EndIn w0 w ρ H m cv s left steps hb mb ov rv fv cbs x lv) (hk : x.kind = 5) (hc : CodeOk c) (hcode : CodeAt w0 cv c) (hmo : Mo c n0 s) (hu : Cu c s) (hp : c[s.proc]? = some p) (hx : finB p x = true) (hr : 0 ≤ x.reg ∧ x.reg < s.regs.length) (hT : s.T.length ≤ 1000000) :
    Calls Try.prog 39 #[.pointer (some ⟨m, 0, none⟩), finV x lv] w (CallPost w0 m cv (endB c s x) left steps) := by
  obtain ⟨w1, B⟩ := boxed w #[.int .i64 x.kind, .int .i64 x.reg, lv, .int .i64 x.to, .int .i64 x.next, .int .i64 x.els] 45
  have HV := Lib.hid (I.vals B.below)
  have hE : endB c s x = call c (s.made 0 [] true s.frs) (s.regs.getD x.reg.toNat Hp.none) [s.newV] := by unfold endB; rw [if_neg (by omega), if_neg (by omega), if_neg (by omega), if_neg (by omega), if_neg (by omega), if_pos hk]
  have HE := Lib.hid hE
  have HI := Lib.hid I
  have HB := Lib.hid B
  obtain ⟨al, cl, rfl⟩ := I.args.len
  obtain ⟨kind, reg, args, xt, next, els⟩ := x
  dsimp only at hk hx hr
  subst hk
  obtain ⟨r, rfl⟩ : ∃ r : Nat, reg = r := ⟨reg.toNat, by omega⟩
  obtain ⟨y, hy⟩ : ∃ y, s.regs[r]? = some y := ⟨_, List.getElem?_eq_getElem (by omega)⟩
  obtain ⟨g, cg, rfl, _, hgl, _⟩ := own_part I.at'.c.regs rfl hy
  have hg4 : ρ g = 4 := I.at'.c.regr g rfl
  have hm := I.at'.lt
  clear I B hE
  unfold finV
  dsimp only
  go_enter Try.func39, Try.ntmps39
  go_wp2_with fail
  rw [← HB.out.eq]
  with_reducible refine HV.out.mono ?_
  rintro e w2 ⟨a2, c2, rfl, hown2, hb2⟩
  have D := EndAt.of HI.out HB.out hown2 hb2
  clear hown2 hb2
  try dsimp only at D
  have q0 := cell_of_row w2 w.heap.size 0 _ _ _ D.box
  have q1 := cell_of_row w2 w.heap.size 1 _ _ _ D.box
  simp only [List.getElem?_toArray, List.getElem?_cons_zero, List.getElem?_cons_succ] at q0 q1
  have hq2 : w.heap.size < w2.heap.size := (Array.getElem?_eq_some_iff.1 D.box).1
  have hm2 := D.at'.lt
  have c12 : w2.cell? ⟨m, 12, none⟩ = some (.slice (some ⟨g, 0, none⟩) s.regs.length cg) := D.at'.cell 12
  obtain ⟨g', cg', eg, _, hgw, e0, e1, e2, f0, f1, f2⟩ := own_part D.at'.c.regs rfl hy
  cases eg
  have hr0 : (0 : Int) ≤ r := by omega
  have hr1 : (r : Int) < s.regs.length := by omega
  have hyv : s.regs.getD (r : Int).toNat Hp.none = y := by rw [List.getD_eq_getElem?_getD, Int.toNat_natCast, hy]; rfl
  have HYV := Lib.hid hyv
  obtain ⟨w3, B3⟩ := boxed w2 #[.int .i64 y.kind, .int .i64 y.int, .string y.text] 64
  have X3 := D.at'.bel B3.below
  have hs3 := B3.size
  have hrow2 := D.row.mono (Nat.zero_le _)
  rw [← vals_length s.regs args] at hrow2
  have hrow3 := own_same hrow2 fun b e => B3.below.block b (hrow2.lt b e).2
  have hbox3 := (B3.below.block w.heap.size hq2).trans D.box
  have hne3 : ∀ b, (Value.slice a2 (vals s.regs args).length c2).ownBlock = some b → b ≠ m := fun b e => by
    have h1 := D.row
    rw [← vals_length s.regs args] at h1
    have := (h1.lt b e).1
    omega
  have t0 := cell_of_row w3 w.heap.size 0 _ _ _ hbox3
  have t1 := cell_of_row w3 w.heap.size 1 _ _ _ hbox3
  have t2 := cell_of_row w3 w.heap.size 2 _ _ _ hbox3
  have t3 := cell_of_row w3 w.heap.size 3 _ _ _ hbox3
  have t4 := cell_of_row w3 w.heap.size 4 _ _ _ hbox3
  have t5 := cell_of_row w3 w.heap.size 5 _ _ _ hbox3
  have y0 := cell_of_row w3 w2.heap.size 0 _ _ _ B3.blk
  have y1 := cell_of_row w3 w2.heap.size 1 _ _ _ B3.blk
  have y2 := cell_of_row w3 w2.heap.size 2 _ _ _ B3.blk
  simp only [List.getElem?_toArray, List.getElem?_cons_zero, List.getElem?_cons_succ] at t0 t1 t2 t3 t4 t5 y0 y1 y2
  have hq3 : w.heap.size < w3.heap.size := by omega
  have hy3 : w2.heap.size < w3.heap.size := by omega
  have hm3 : m < w3.heap.size := X3.lt
  have hz3 : ρ w2.heap.size = 0 := D.zero _ (by omega)
  have hzq : ρ w.heap.size = 0 := D.zero _ (Nat.le_refl _)
  have HB3 := Lib.hid B3
  have HX3 := Lib.hid X3
  have HROW3 := Lib.hid hrow3
  have HNE3 := Lib.hid hne3
  have HBOX3 := Lib.hid hbox3
  clear B3 X3 hrow2 hrow3 hne3 hbox3 hy hyv D
  have HS : Hid (endB c s ⟨5, r, args, xt, next, els⟩ = call c (s.made 0 [] true s.frs) y [⟨8, s.T.length, ⟨#[]⟩⟩]) := by
    unfold Hid
    rw [HE.out]
    try dsimp only
    rw [HYV.out]
    rfl
  have hcf : ∀ k ∈ s.cls, ∀ f ∈ k.frs, f.cl < s.T.length := fun k hk f hf => Kn.lt hmo (((hmo.cls k hk).2.frs f hf).cl)
  have hff : ∀ f ∈ s.frs, f.cl < s.T.length := fun f hf => Kn.lt hmo ((hmo.frs f hf).cl)
  have hcl : s.cl < s.T.length := Kn.lt hmo hu.cl
  obtain ⟨fp, hfp⟩ := HX3.out.c.frs.ptr
  subst hfp
  have hmin : MadeIn w0 w3.drew ρ H m cv s left steps hb mb ov (.slice (some ⟨g, 0, none⟩) s.regs.length cg) (.pointer fp) cbs 0 [] true s.frs (.slice none 0 0) (.pointer fp) :=
    ⟨HX3.out.drew 1, World.ownsRow_nil _ _ _ _, fun b e => by simp [Value.ownBlock] at e, (HX3.out.drew 1).c.frs, hT, hcf, hff, hff, fun e => absurd e (Nat.ne_of_lt hcl)⟩
  have HM0 := made_any hmin
  rw [show (((0 : Nat) : Int)) = 0 from rfl] at HM0
  have HM := Lib.hid HM0
  have hmoM : Mo c (n0 + 1) (s.made 0 [] true s.frs) := made_ok hmo (ClOk.mk (fun e => Bool.noConfusion e) (fun v hv => nomatch hv) hmo.frs)
  have HMOM := Lib.hid hmoM
  have c15 : w3.cell? ⟨m, 15, none⟩ = some (.pointer fp) := HX3.out.cell 15
  unfold MadePost St.newV Hp.V.val at HM
  dsimp only at HM
  clear hmin hmoM HM0
  go_wp2_with fail
  go_region
  rw [← HB3.out.eq]
  go_wp2_with fail
  with_reducible refine HM.out.mono ?_
  rintro e w5 ⟨rfl, ⟨ρ5, H5, X5, hz5⟩, hs5, hk5⟩
  have hk5' : ∀ b, b < w3.heap.size → ρ b = 0 → w5.heap[b]? = w3.heap[b]? := hk5
  have hs5' : w3.heap.size ≤ w5.heap.size := hs5
  have hyb5 := (hk5' w2.heap.size hy3 hz3).trans HB3.out.blk
  have x0 := cell_of_row w5 w2.heap.size 0 _ _ _ hyb5
  have x1 := cell_of_row w5 w2.heap.size 1 _ _ _ hyb5
  have x2 := cell_of_row w5 w2.heap.size 2 _ _ _ hyb5
  simp only [List.getElem?_toArray, List.getElem?_cons_zero, List.getElem?_cons_succ] at x0 x1 x2
  have hy5 : w2.heap.size < w5.heap.size := by omega
  have hm5 := X5.lt
  obtain ⟨w6, B6⟩ := boxed w5 #[.int .i64 8, .int .i64 s.T.length, .string ⟨#[]⟩] 64
  have X6 := X5.bel B6.below
  have hs6 := B6.size
  have hrow6 : w6.ownsRow 0 64 3 (.slice (some ⟨w5.heap.size, 0, none⟩) ([⟨8, s.T.length, ⟨#[]⟩⟩] : List Hp.V).length 1) ([⟨8, s.T.length, ⟨#[]⟩⟩] : List Hp.V).length (Hp.flatV [⟨8, s.T.length, ⟨#[]⟩⟩]) := ⟨rfl, .inr ⟨w5.heap.size, 1, _, rfl, Nat.zero_le _, B6.blk, Nat.le_refl _, by decide, rfl, rfl⟩⟩
  have HC0 := call_any X6 hc hcode HMOM.out y [⟨8, s.T.length, ⟨#[]⟩⟩] (some ⟨w5.heap.size, 0, none⟩) 1 hrow6 (fun b e => by simp [Value.ownBlock] at e; omega)
  rw [show ([⟨8, s.T.length, ⟨#[]⟩⟩] : List Hp.V).length = 1 from rfl] at HC0
  have HC := Lib.hid HC0
  unfold Hp.V.val at HC
  have xx0 := alloc_at (.cells #[.int .i64 8, .int .i64 s.T.length, .string ⟨#[]⟩] 64) x0
  have HB6 := Lib.hid B6
  clear X5 hz5 hs5 hk5 hk5' hs5' hyb5 X6 hrow6 B6 xx0 HC0
  go_wp2_with fail
  rw [← HB6.out.eq]
  with_reducible refine HC.out.mono ?_
  rintro e w7 hV
  obtain ⟨rfl, hV2⟩ := hV
  go_wp2_with fail
  refine bodyPost_end (results_none rfl _ _ _) rfl ?_
  rw [HS.out]
  exact ⟨rfl, hV2⟩
set_option maxHeartbeats 4000000 in
theorem end_callcc {c : Code} {n0 : Nat} {p : Prc} {x : Fin} {lv : Value} (I : EndIn w0 w ρ H m cv s left steps hb mb ov rv fv cbs x lv) (hk : x.kind = 6) (hc : CodeOk c) (hcode : CodeAt w0 cv c) (hmo : Mo c n0 s) (hu : Cu c s) (hp : c[s.proc]? = some p) (hx : finB p x = true) (hr : 0 ≤ x.reg ∧ x.reg < s.regs.length) (hT : s.T.length ≤ 1000000) :
    Calls Try.prog 39 #[.pointer (some ⟨m, 0, none⟩), finV x lv] w (CallPost w0 m cv (endB c s x) left steps) := by
  obtain ⟨w1, B⟩ := boxed w #[.int .i64 x.kind, .int .i64 x.reg, lv, .int .i64 x.to, .int .i64 x.next, .int .i64 x.els] 45
  have HV := Lib.hid (I.vals B.below)
  have hE : endB c s x = call c ((push s x).made 0 [] true (push s x).frs) (s.regs.getD x.reg.toNat Hp.none) [s.newV] := by unfold endB; rw [if_neg (by omega), if_neg (by omega), if_neg (by omega), if_neg (by omega), if_neg (by omega), if_neg (by omega)]
  have HE := Lib.hid hE
  have HI := Lib.hid I
  have HB := Lib.hid B
  obtain ⟨al, cl, rfl⟩ := I.args.len
  obtain ⟨kind, reg, args, xt, next, els⟩ := x
  dsimp only at hk hx hr
  subst hk
  obtain ⟨r, rfl⟩ : ∃ r : Nat, reg = r := ⟨reg.toNat, by omega⟩
  obtain ⟨y, hy⟩ : ∃ y, s.regs[r]? = some y := ⟨_, List.getElem?_eq_getElem (by omega)⟩
  obtain ⟨g, cg, rfl, _, hgl, _⟩ := own_part I.at'.c.regs rfl hy
  have hg4 : ρ g = 4 := I.at'.c.regr g rfl
  have hm := I.at'.lt
  clear I B hE
  unfold finV
  dsimp only
  go_enter Try.func39, Try.ntmps39
  go_wp2_with fail
  rw [← HB.out.eq]
  with_reducible refine HV.out.mono ?_
  rintro e w2 ⟨a2, c2, rfl, hown2, hb2⟩
  have D := EndAt.of HI.out HB.out hown2 hb2
  clear hown2 hb2
  try dsimp only at D
  have q0 := cell_of_row w2 w.heap.size 0 _ _ _ D.box
  have q1 := cell_of_row w2 w.heap.size 1 _ _ _ D.box
  simp only [List.getElem?_toArray, List.getElem?_cons_zero, List.getElem?_cons_succ] at q0 q1
  have hq2 : w.heap.size < w2.heap.size := (Array.getElem?_eq_some_iff.1 D.box).1
  have hm2 := D.at'.lt
  have c12 : w2.cell? ⟨m, 12, none⟩ = some (.slice (some ⟨g, 0, none⟩) s.regs.length cg) := D.at'.cell 12
  obtain ⟨g', cg', eg, _, hgw, e0, e1, e2, f0, f1, f2⟩ := own_part D.at'.c.regs rfl hy
  cases eg
  have hr0 : (0 : Int) ≤ r := by omega
  have hr1 : (r : Int) < s.regs.length := by omega
  have hyv : s.regs.getD (r : Int).toNat Hp.none = y := by rw [List.getD_eq_getElem?_getD, Int.toNat_natCast, hy]; rfl
  have HYV := Lib.hid hyv
  obtain ⟨w3, B3⟩ := boxed w2 #[.int .i64 y.kind, .int .i64 y.int, .string y.text] 64
  have X3 := D.at'.bel B3.below
  have hs3 := B3.size
  have hrow2 := D.row.mono (Nat.zero_le _)
  rw [← vals_length s.regs args] at hrow2
  have hrow3 := own_same hrow2 fun b e => B3.below.block b (hrow2.lt b e).2
  have hbox3 := (B3.below.block w.heap.size hq2).trans D.box
  have hne3 : ∀ b, (Value.slice a2 (vals s.regs args).length c2).ownBlock = some b → b ≠ m := fun b e => by
    have h1 := D.row
    rw [← vals_length s.regs args] at h1
    have := (h1.lt b e).1
    omega
  have t0 := cell_of_row w3 w.heap.size 0 _ _ _ hbox3
  have t1 := cell_of_row w3 w.heap.size 1 _ _ _ hbox3
  have t2 := cell_of_row w3 w.heap.size 2 _ _ _ hbox3
  have t3 := cell_of_row w3 w.heap.size 3 _ _ _ hbox3
  have t4 := cell_of_row w3 w.heap.size 4 _ _ _ hbox3
  have t5 := cell_of_row w3 w.heap.size 5 _ _ _ hbox3
  have y0 := cell_of_row w3 w2.heap.size 0 _ _ _ B3.blk
  have y1 := cell_of_row w3 w2.heap.size 1 _ _ _ B3.blk
  have y2 := cell_of_row w3 w2.heap.size 2 _ _ _ B3.blk
  simp only [List.getElem?_toArray, List.getElem?_cons_zero, List.getElem?_cons_succ] at t0 t1 t2 t3 t4 t5 y0 y1 y2
  have hq3 : w.heap.size < w3.heap.size := by omega
  have hy3 : w2.heap.size < w3.heap.size := by omega
  have hm3 : m < w3.heap.size := X3.lt
  have hz3 : ρ w2.heap.size = 0 := D.zero _ (by omega)
  have hzq : ρ w.heap.size = 0 := D.zero _ (Nat.le_refl _)
  have HB3 := Lib.hid B3
  have HX3 := Lib.hid X3
  have HROW3 := Lib.hid hrow3
  have HNE3 := Lib.hid hne3
  have HBOX3 := Lib.hid hbox3
  clear B3 X3 hrow2 hrow3 hne3 hbox3 hy hyv D
  have HS : Hid (endB c s ⟨6, r, args, xt, next, els⟩ = call c ((push s ⟨6, r, args, xt, next, els⟩).made 0 [] true (push s ⟨6, r, args, xt, next, els⟩).frs) y [⟨8, s.T.length, ⟨#[]⟩⟩]) := by
    unfold Hid
    rw [HE.out]
    try dsimp only
    rw [HYV.out]
    rfl
  have hcf : ∀ k ∈ s.cls, ∀ f ∈ k.frs, f.cl < s.T.length := fun k hk f hf => Kn.lt hmo (((hmo.cls k hk).2.frs f hf).cl)
  have hff : ∀ f ∈ s.frs, f.cl < s.T.length := fun f hf => Kn.lt hmo ((hmo.frs f hf).cl)
  have hcl : s.cl < s.T.length := Kn.lt hmo hu.cl
  have hF := finB_facts hx
  have hto0 := (hF.2.2.2.2.2.2.2 (by simp)).1
  have hnx0 := (hF.2.2.2.2.2.1 (by simp)).1
  dsimp only at hto0 hnx0
  obtain ⟨kc, pc, hkc, _⟩ := hu.cl
  obtain ⟨hkc1, hkc2⟩ := look_mem' hkc
  have hfrl := HI.out.frl
  have HPU := Lib.hid (push_any (w := w3.drew) (HX3.out.drew 1) ⟨6, r, args, xt, next, els⟩ al (ints args).length cl hto0 hnx0 hfrl hkc1 (by omega))
  have hmoP := push_ok hmo hu hp hx (by simp)
  have HMOP := Lib.hid hmoP
  unfold finV at HPU
  dsimp only at HPU
  clear hmoP hF
  go_wp2_with fail
  go_region
  rw [← HB3.out.eq]
  go_wp2_with fail
  with_reducible refine HPU.out.mono ?_
  rintro e w4 ⟨rfl, ⟨ρ4, fv4, X4, hz4⟩, hs4, hk4⟩
  have hk4' : ∀ b, b < w3.heap.size → b ≠ m → w4.heap[b]? = w3.heap[b]? := hk4
  have hs4' : w3.heap.size ≤ w4.heap.size := hs4
  have hbox4 := (hk4' w.heap.size hq3 (by omega)).trans HBOX3.out
  have hyb4 := (hk4' w2.heap.size hy3 (by omega)).trans HB3.out.blk
  have hrow4 := own_same HROW3.out fun b e => hk4' b (HROW3.out.lt b e).2 (HNE3.out b e)
  have hz41 : ρ4 w2.heap.size = 0 := hz4 _ hy3 hz3
  have u0 := cell_of_row w4 w.heap.size 0 _ _ _ hbox4
  have v0 := cell_of_row w4 w2.heap.size 0 _ _ _ hyb4
  have v1 := cell_of_row w4 w2.heap.size 1 _ _ _ hyb4
  have v2 := cell_of_row w4 w2.heap.size 2 _ _ _ hyb4
  simp only [List.getElem?_toArray, List.getElem?_cons_zero, List.getElem?_cons_succ] at u0 v0 v1 v2
  have hq4 : w.heap.size < w4.heap.size := by omega
  have hy4 : w2.heap.size < w4.heap.size := by omega
  have hm4 := X4.lt
  obtain ⟨fp, hfp⟩ := X4.c.frs.ptr
  subst hfp
  have hff4 : ∀ f ∈ (push s ⟨6, r, args, xt, next, els⟩).frs, f.cl < s.T.length := fun f hf => by
    unfold push at hf
    rcases List.mem_cons.1 hf with rfl | hf
    · exact hcl
    · exact hff f hf
  have hmin : MadeIn w0 w4 ρ4 H m cv (push s ⟨6, r, args, xt, next, els⟩) left steps hb mb ov (.slice (some ⟨g, 0, none⟩) s.regs.length cg) (.pointer fp) cbs 0 [] true (push s ⟨6, r, args, xt, next, els⟩).frs (.slice none 0 0) (.pointer fp) :=
    ⟨X4, World.ownsRow_nil _ _ _ _, fun b e => by simp [Value.ownBlock] at e, X4.c.frs, hT, hcf, hff4, hff4, fun e => absurd e (Nat.ne_of_lt hcl)⟩
  have HM0 := made_any hmin
  rw [show (((0 : Nat) : Int)) = 0 from rfl] at HM0
  have HM := Lib.hid HM0
  have hmoM : Mo c (n0 + 1) ((push s ⟨6, r, args, xt, next, els⟩).made 0 [] true (push s ⟨6, r, args, xt, next, els⟩).frs) := made_ok HMOP.out (ClOk.mk (fun e => Bool.noConfusion e) (fun v hv => nomatch hv) HMOP.out.frs)
  have HMOM := Lib.hid hmoM
  have c15 : w4.cell? ⟨m, 15, none⟩ = some (.pointer fp) := X4.cell 15
  have HYB4 := Lib.hid hyb4
  have hpT : (push s ⟨6, r, args, xt, next, els⟩).T = s.T := rfl
  unfold MadePost St.newV Hp.V.val at HM
  rw [hpT] at HM
  dsimp only at HM
  clear hmin hmoM HM0 X4 hz4 hs4 hk4 hk4' hs4' hbox4 hyb4 hrow4 hff4 hpT
  go_wp2_with fail
  with_reducible refine HM.out.mono ?_
  rintro e w5 ⟨rfl, ⟨ρ5, H5, X5, hz5⟩, hs5, hk5⟩
  have hk5' : ∀ b, b < w4.heap.size → ρ4 b = 0 → w5.heap[b]? = w4.heap[b]? := hk5
  have hs5' : w4.heap.size ≤ w5.heap.size := hs5
  have hyb5 := (hk5' w2.heap.size hy4 hz41).trans HYB4.out
  have x0 := cell_of_row w5 w2.heap.size 0 _ _ _ hyb5
  have x1 := cell_of_row w5 w2.heap.size 1 _ _ _ hyb5
  have x2 := cell_of_row w5 w2.heap.size 2 _ _ _ hyb5
  simp only [List.getElem?_toArray, List.getElem?_cons_zero, List.getElem?_cons_succ] at x0 x1 x2
  have hy5 : w2.heap.size < w5.heap.size := by omega
  have hm5 := X5.lt
  obtain ⟨w6, B6⟩ := boxed w5 #[.int .i64 8, .int .i64 s.T.length, .string ⟨#[]⟩] 64
  have X6 := X5.bel B6.below
  have hs6 := B6.size
  have hrow6 : w6.ownsRow 0 64 3 (.slice (some ⟨w5.heap.size, 0, none⟩) ([⟨8, s.T.length, ⟨#[]⟩⟩] : List Hp.V).length 1) ([⟨8, s.T.length, ⟨#[]⟩⟩] : List Hp.V).length (Hp.flatV [⟨8, s.T.length, ⟨#[]⟩⟩]) := ⟨rfl, .inr ⟨w5.heap.size, 1, _, rfl, Nat.zero_le _, B6.blk, Nat.le_refl _, by decide, rfl, rfl⟩⟩
  have HC0 := call_any X6 hc hcode HMOM.out y [⟨8, s.T.length, ⟨#[]⟩⟩] (some ⟨w5.heap.size, 0, none⟩) 1 hrow6 (fun b e => by simp [Value.ownBlock] at e; omega)
  rw [show ([⟨8, s.T.length, ⟨#[]⟩⟩] : List Hp.V).length = 1 from rfl] at HC0
  have HC := Lib.hid HC0
  unfold Hp.V.val at HC
  have xx0 := alloc_at (.cells #[.int .i64 8, .int .i64 s.T.length, .string ⟨#[]⟩] 64) x0
  have HB6 := Lib.hid B6
  clear X5 hz5 hs5 hk5 hk5' hs5' hyb5 X6 hrow6 B6 xx0 HC0
  go_wp2_with fail
  rw [← HB6.out.eq]
  with_reducible refine HC.out.mono ?_
  rintro e w7 hV
  obtain ⟨rfl, hV2⟩ := hV
  go_wp2_with fail
  refine bodyPost_end (results_none rfl _ _ _) rfl ?_
  rw [HS.out]
  exact ⟨rfl, hV2⟩
end
end Vm
end Go.Proofs.Ytalfnaielhbocaa
namespace Go.Proofs.Ytalfnaielhbocaa
open Go.RowKit
set_option linter.unusedVariables false
set_option linter.unusedSimpArgs false
set_option maxRecDepth 100000
namespace Vm
theorem tell_pos {s : St} {v : Hp.V} (h : (tell s v).done = false) : (tell s v).pos = 0 := by
  unfold tell at h ⊢
  split at h
  · simp at h
  · rfl
theorem call_pos {c : Code} {s : St} {v : Hp.V} {a : List Hp.V} (he : (call c s v a).e = 0) (hd : (call c s v a).done = false) : (call c s v a).pos = 0 := by
  unfold call at he hd ⊢
  cases hf : find s.cls v with
  | none => rw [hf] at he; simp at he
  | some k =>
    rw [hf] at he hd
    dsimp only at he hd ⊢
    split
    · rename_i h1
      rw [if_pos h1] at hd
      exact tell_pos hd
    · rename_i h1
      rw [if_neg h1] at he
      cases hp : c[k.proc]? with
      | none => rw [hp] at he; simp at he
      | some p =>
        rw [hp] at he
        dsimp only at he ⊢
        split
        · rename_i h2
          rw [if_pos h2] at he
          simp at he
        · rfl
theorem endB_pos {c : Code} {s : St} {x : Fin} (he : (endB c s x).e = 0) (hd : (endB c s x).done = false) : (endB c s x).pos = 0 := by
  unfold endB at he hd ⊢
  by_cases h0 : x.kind = 0
  · simp only [h0, if_true]
  · by_cases h1 : x.kind = 1
    · simp only [h1]
      simp
    · simp only [h0, h1, if_false] at he hd ⊢
      by_cases h2 : x.kind = 2
      · simp only [h2, if_true] at he hd ⊢
        exact tell_pos hd
      · simp only [h2, if_false] at he hd ⊢
        by_cases h3 : x.kind = 3
        · simp only [h3, if_true] at he hd ⊢
          exact call_pos he hd
        · simp only [h3, if_false] at he hd ⊢
          by_cases h4 : x.kind = 4
          · simp only [h4, if_true] at he hd ⊢
            exact call_pos he hd
          · simp only [h4, if_false] at he hd ⊢
            by_cases h5 : x.kind = 5
            · simp only [h5, if_true] at he hd ⊢
              exact call_pos he hd
            · simp only [h5, if_false] at he hd ⊢
              exact call_pos he hd
theorem few_q {n : Nat} {T : List Hp.Th} (h : Hp.Good n T) : Hp.FewQ T := fun t ht => Nat.le_trans (h.few t ht) (by decide)
theorem doI_done (s : St) (x : Ins) : (doI s x).done = s.done ∧ (doI s x).block = s.block ∧ (doI s x).proc = s.proc ∧ (doI s x).pos = s.pos := by
  unfold doI
  split
  · exact ⟨rfl, rfl, rfl, rfl⟩
  · split
    · exact ⟨rfl, rfl, rfl, rfl⟩
    · split
      · exact ⟨rfl, rfl, rfl, rfl⟩
      · split
        · exact ⟨rfl, rfl, rfl, rfl⟩
        · split
          · split
            · exact ⟨rfl, rfl, rfl, rfl⟩
            · split <;> exact ⟨rfl, rfl, rfl, rfl⟩
          · obtain ⟨h1, h2, h3, h4, h5, h6, h7, h8, h9⟩ := prim_same s x.op (vals s.regs x.args)
            split
            · exact ⟨h8, h5, h2, h6⟩
            · exact ⟨h8, h5, h2, h6⟩
section
variable {w0 w w' : World} {ρ ρ' : Nat → Nat} {H : Nat → Value} {m hb mb : Nat} {T : List Hp.Th} {C : List Cl} {out : List UInt8} {regs : List Hp.V} {frs : List Fr} {ov rv fv cv : Value} {cbs : List Nat} {s : St} {left steps : Nat}
theorem do_any {c : Code} {n : Nat} {p : Prc} {x : Ins} {lv dl : Value} (h : VmO w0 w ρ H m cv s left steps hb mb ov rv fv cbs) (hc : CodeOk c) (hmo : Mo c n s) (hu : Cu c s) (hp : c[s.proc]? = some p) (hx : insB c p x = true) (hf : Dt.Fit x.const) (hn : n ≤ 1000000)
    (ha : Sl w lv (ints x.args)) (hd : DtAt w (fun _ => True) (.agg #[.int .i64 x.const.kind, .int .i64 x.const.int, .string x.const.text, dl]) x.const) (hdl : ∃ da dc, dl = .slice da x.const.list.length dc) :
    Calls Try.prog 38 #[.pointer (some ⟨m, 0, none⟩), insV x lv dl] w (StepPost w0 w ρ m cv (doI s x) left steps) := by
  obtain ⟨p', b, e1, e2, e3, e4⟩ := hu.at'
  rw [hp] at e1
  cases e1
  have hrl := hc.regs p (List.mem_of_getElem? hp)
  obtain ⟨f1, f2, f3, f4, f5, f6, f7, f8⟩ := insB_facts hx
  have I : DoIn w0 w ρ H m cv s left steps hb mb ov rv fv cbs x lv dl := ⟨h, ha, fun r hr => by have := f3 r hr; omega, insB_few hc hx, by omega, hdl⟩
  have hT : s.T.length ≤ 1000000 := Nat.le_trans hmo.good.len hn
  by_cases h1 : x.op = sConst
  · have hto := f2 (by rw [h1]; decide)
    exact do_const I h1 (by omega) hd hf
  · by_cases h2 : x.op = sMove
    · have hto := f2 (by rw [h2]; decide)
      exact do_move I h2 (f4 h2) (by omega)
    · by_cases h3 : x.op = sHeld
      · have hto := f2 (by rw [h3]; decide)
        obtain ⟨k, p2, g1, g2, g3, g4, g5⟩ := hu.cl
        rw [hp] at g4
        cases g4
        have := f5 h3
        exact do_held I h3 (by omega) g1 (by omega)
      · by_cases h4 : x.op = sClosure
        · have hto := f2 (by rw [h4]; decide)
          have := (f7 h4).1
          exact do_closure I h4 (by omega) (by omega) hT (fun k hk f hf => Kn.lt hmo (((hmo.cls k hk).2.frs f hf).cl)) (fun f hf => Kn.lt hmo ((hmo.frs f hf).cl)) (Kn.lt hmo hu.cl)
        · by_cases h5 : x.op = sTie
          · exact do_tie I h5 (f6 h5).1 (f6 h5).2
          · have hto := f2 h5
            have hal := f8 h1 h2 h3 h4 h5
            refine do_else I h1 h2 h3 h4 h5 (by omega) (fun e => ?_) hT (few_q hmo.good) hu.tx (Nat.le_trans hmo.out hn)
            have : arity x.op = 1 := by rcases e with e | e <;> (rw [e]; decide)
            omega
theorem end_any {c : Code} {n : Nat} {p : Prc} {x : Fin} {lv : Value} (h : VmO w0 w ρ H m cv s left steps hb mb ov rv fv cbs) (hc : CodeOk c) (hcode : CodeAt w0 cv c) (hmo : Mo c n s) (hu : Cu c s) (hp : c[s.proc]? = some p) (hx : finB p x = true) (hn : n ≤ 1000000) (ha : Sl w lv (ints x.args)) :
    Calls Try.prog 39 #[.pointer (some ⟨m, 0, none⟩), finV x lv] w (CallPost w0 m cv (endB c s x) left steps) := by
  obtain ⟨p', b, e1, e2, e3, e4⟩ := hu.at'
  rw [hp] at e1
  cases e1
  have hrl := hc.regs p (List.mem_of_getElem? hp)
  obtain ⟨f0, f0', f1, f2, f3, f4, f5, f6⟩ := finB_facts hx
  have I : EndIn w0 w ρ H m cv s left steps hb mb ov rv fv cbs x lv := ⟨h, ha, fun r hr => by have := f2 r hr; omega, by omega, by omega⟩
  have hT : s.T.length ≤ 1000000 := Nat.le_trans hmo.good.len hn
  by_cases k0 : x.kind = 0
  · exact end_jump I k0 (f4 (.inl k0)).1
  · have hr := f1 k0
    have hr2 : 0 ≤ x.reg ∧ x.reg < s.regs.length := by omega
    by_cases k1 : x.kind = 1
    · exact end_if I k1 (f4 (.inr (.inl k1))).1 (f5 k1).1 hr2
    · by_cases k2 : x.kind = 2
      · exact end_return I k2 hr2 (frOk_tell hc rfl hmo.frs)
      · by_cases k3 : x.kind = 3
        · exact end_tail I k3 hc hcode hmo hu hp hx hr2
        · by_cases k4 : x.kind = 4
          · exact end_call I k4 hc hcode hmo hu hp hx hr2
          · by_cases k5 : x.kind = 5
            · exact end_tailcc I k5 hc hcode hmo hu hp hx hr2 hT
            · exact end_callcc I (by omega) hc hcode hmo hu hp hx hr2 hT
end
end Vm
end Go.Proofs.Ytalfnaielhbocaa
namespace Go.Proofs.Ytalfnaielhbocaa
open Go.RowKit
set_option linter.unusedVariables false
set_option linter.unusedSimpArgs false
set_option maxRecDepth 100000
namespace Vm
theorem go_succ {c : Code} {n : Nat} {s : St} (he : s.e = 0) (hd : s.done = false) : go c (n + 1) s = go c n (step c s) := by
  show (if s.e = 0 ∧ s.done = false then go c n (step c s) else (s, n + 1)) = _
  rw [if_pos ⟨he, hd⟩]
theorem go_none {c : Code} {s : St} (he : s.e = 0) (hd : s.done = false) : go c 0 s = go c 0 { s with e := 93 } := by
  show (if s.e = 0 ∧ s.done = false then ({ s with e := 93 }, 0) else (s, 0)) = (if (93 : Int) = 0 ∧ _ then _ else _)
  rw [if_pos ⟨he, hd⟩, if_neg (fun e => by have := e.1; omega)]
theorem go_stop {c : Code} {n : Nat} {s : St} (h : s.e ≠ 0 ∨ s.done = true) : go c n s = (s, n) := by
  have hn : ¬ (s.e = 0 ∧ s.done = false) := fun e => by
    rcases h with h | h
    · exact h e.1
    · rw [e.2] at h; cases h
  cases n with
  | zero =>
    show (if s.e = 0 ∧ s.done = false then ({ s with e := 93 }, 0) else (s, 0)) = _
    rw [if_neg hn]
  | succ n =>
    show (if s.e = 0 ∧ s.done = false then go c n (step c s) else (s, n + 1)) = _
    rw [if_neg hn]
theorem insB_op {c : Code} {s : St} {p : Prc} {b : Blk} {x : Ins} (hp : c[s.proc]? = some p) (hb : p.blocks[s.block]? = some b) (hx : b.ins[s.pos]? = some x) : step c s = doI { s with pos := s.pos + 1 } x := by
  unfold step blkAt
  rw [hp]
  dsimp only
  rw [hb]
  dsimp only
  rw [hx]
theorem step_end {c : Code} {s : St} {p : Prc} {b : Blk} (hp : c[s.proc]? = some p) (hb : p.blocks[s.block]? = some b) (hx : b.ins[s.pos]? = none) : step c s = endB c s b.fin := by
  unfold step blkAt
  rw [hp]
  dsimp only
  rw [hb]
  dsimp only
  rw [hx]
section
variable {w0 w w' : World} {ρ ρ' : Nat → Nat} {H : Nat → Value} {m hb mb : Nat} {T : List Hp.Th} {C : List Cl} {out : List UInt8} {regs : List Hp.V} {frs : List Fr} {ov rv fv cv : Value} {cbs : List Nat} {s : St} {left steps : Nat}
def RunPost (w0 : World) (m : Nat) (cv : Value) (c : Code) (s : St) (left steps n : Nat) (e : Ending) (w' : World) : Prop :=
  e = .returned (.tuple #[]) ∧ ∃ s' left' steps' n', VmAt w0 w' m cv s' left' steps' ∧ steps' + left' = steps + left ∧ go c left s = go c left' s' ∧ Mo c n' s' ∧ n' + left' ≤ n + left ∧ (s'.e = 0 → s'.done = false → Cu c s' ∧ s'.pos = 0 ∧ left' < left)
structure Mid (w0 w wx : World) (ρ0 : Nat → Nat) (m : Nat) (cv : Value) (c : Code) (p : Prc) (b : Blk) (s0 : St) (left0 steps0 n0 : Nat) (k : Nat) : Prop where
  ex : ∃ s left steps n ρ H hb mb ov rv fv cbs, VmO w0 wx ρ H m cv s left steps hb mb ov rv fv cbs ∧ (∀ q, q < w.heap.size → ρ0 q = 0 → ρ q = 0 ∧ wx.heap[q]? = w.heap[q]?) ∧ w.heap.size ≤ wx.heap.size ∧
    steps + left = steps0 + left0 ∧ go c left0 s0 = go c left s ∧ Mo c n s ∧ Cu c s ∧ n + left ≤ n0 + left0 ∧ left ≤ left0 ∧ s.pos = k ∧ s.e = 0 ∧ s.done = false ∧ c[s.proc]? = some p ∧ p.blocks[s.block]? = some b
set_option maxHeartbeats 8000000 in
theorem run_any {c : Code} {n : Nat} (h : VmO w0 w ρ H m cv s left steps hb mb ov rv fv cbs) (hc : CodeOk c) (hcode : CodeAt w0 cv c) (hmo : Mo c n s) (hu : Cu c s) (he : s.e = 0) (hd : s.done = false) (hpos : s.pos = 0) (hn : n + left ≤ 900000) (hls : steps + left ≤ 900000) :
    Calls Try.prog 24 #[.pointer (some ⟨m, 0, none⟩)] w (RunPost w0 m cv c s left steps n) := by
  obtain ⟨p, b, hp, hbk, hpl, hrl⟩ := hu.at'
  obtain ⟨bc, oc, cap, rfl, hbc, hP⟩ := code_at hcode hp (Below.refl w0.heap.size w0)
  obtain ⟨n0, n1, n2, bv, n3, hBR⟩ := hP
  obtain ⟨ab, capb, hbv⟩ := hBR.len
  subst hbv
  obtain ⟨_, bb, bo, rfl, hbb, hBC⟩ := hBR.at hbk
  obtain ⟨⟨iv, i0, hIR⟩, i1, i2, ⟨av, i3, hSA⟩, i4, i5, i6⟩ := hBC
  obtain ⟨ai, capi, hiv⟩ := hIR.len
  subst hiv
  obtain ⟨aa, ca, rfl⟩ := hSA.len
  have hW := h.c.below
  rw [← cell_bel hW hbc] at n3
  rw [← cell_bel hW hbb] at i0 i1 i2 i3 i4 i5 i6
  have hm := h.lt
  have c0 : w.cell? ⟨m, 0, none⟩ = some (.slice (some ⟨bc, oc, none⟩) c.length cap) := h.cell 0
  have c11 : w.cell? ⟨m, 11, none⟩ = some (.int .i64 s.proc) := h.cell 11
  have c14 : w.cell? ⟨m, 14, none⟩ = some (.int .i64 s.block) := h.cell 14
  have hk1 : (0 : Int) ≤ s.proc := by omega
  have hkl : s.proc < c.length := (List.getElem?_eq_some_iff.1 hp).1
  have hk2 : (s.proc : Int) < c.length := by omega
  have hk3 : (0 : Int) ≤ s.block := by omega
  have hbl : s.block < p.blocks.length := (List.getElem?_eq_some_iff.1 hbk).1
  have hk4 : (s.block : Int) < p.blocks.length := by omega
  have hbcw : bc < w.heap.size := Nat.lt_of_lt_of_le hbc hW.size
  have hbbw : bb < w.heap.size := Nat.lt_of_lt_of_le hbb hW.size
  have hpf := (prcB_facts (hc.all p (List.mem_of_getElem? hp))).2.2.2.2.2.2 b (List.mem_of_getElem? hbk)
  have hfit := hc.fit p (List.mem_of_getElem? hp) b (List.mem_of_getElem? hbk)
  have hbl4 := hc.few p (List.mem_of_getElem? hp) b (List.mem_of_getElem? hbk)
  have hmin : 0 ≤ p.regs := by have := prcB_facts (hc.all p (List.mem_of_getElem? hp)); omega
  obtain ⟨w1, B⟩ := boxed w #[.slice ai b.ins.length capi, .int .i64 b.fin.kind, .int .i64 b.fin.reg, .slice aa (ints b.fin.args).length ca, .int .i64 b.fin.to, .int .i64 b.fin.next, .int .i64 b.fin.els] 48
  have hs1 := B.size
  have h1 := h.bel B.below
  have hzq : ρ w.heap.size = 0 := Decidable.byContradiction fun e => by have := (h.c.lo _ e).2; omega
  have hM : Mid w0 w1 w1.drew ρ m (.slice (some ⟨bc, oc, none⟩) c.length cap) c p b s left steps n 0 := ⟨⟨s, left, steps, n, ρ, H, hb, mb, ov, rv, fv, cbs, h1.drew 1, fun q h1 h2 => ⟨h2, rfl⟩, Nat.le_refl _, rfl, rfl, hmo, hu, Nat.le_refl _, Nat.le_refl _, hpos, he, hd, hp, hbk⟩⟩
  have HM := Lib.hid hM
  have HB := Lib.hid B
  have HIR := Lib.hid hIR
  have HSA := Lib.hid hSA
  have HPF := Lib.hid hpf
  have HFIT := Lib.hid hfit
  have HC := Lib.hid hc
  have HCODE := Lib.hid hcode
  have HN := Lib.hid hn
  have HLS := Lib.hid hls
  have hbx0 := cell_of_row w1 w.heap.size 0 _ _ _ B.blk
  simp only [List.getElem?_toArray, List.getElem?_cons_zero] at hbx0
  have hq1 : w.heap.size < w1.heap.size := by omega
  clear h h1 hM B hIR hSA hpf hfit hc hcode hmo hu hW hn hls n0 n1 n2 hBR
  go_enter Try.func24, Try.ntmps24
  go_wp2_with fail
  go_region
  rw [← HB.out.eq]
  go_wp2_with fail
  go_loopg [4, 26] b.ins.length (fun gk s4 s26 wx => ∃ k : Nat, k ≤ b.ins.length ∧ gk = b.ins.length - k ∧ s26 = .int .i64 k ∧ Hid (Mid w0 w1 wx ρ m (.slice (some ⟨bc, oc, none⟩) c.length cap) c p b s left steps n k))
  case atStart => exact ⟨0, Nat.zero_le _, rfl, rfl, HM.out⟩
  case round =>
    obtain ⟨k, hk, rfl, rfl, HR⟩ := hrel
    obtain ⟨s2, left2, steps2, n2, ρ2, H2, hb2, mb2, ov2, rv2, fv2, cbs2, X2, hkp2, hsz2, hls2, hgo2, hmo2, hu2, hnn2, hll2, hpos2, he2, hd2, hp2, hbk2⟩ := HR.out.ex
    by_cases hlt : k < b.ins.length
    · obtain ⟨x, hx⟩ : ∃ x, b.ins[k]? = some x := ⟨_, List.getElem?_eq_getElem hlt⟩
      obtain ⟨_, ib, io, rfl, hib, hIC⟩ := HIR.out.at hx
      obtain ⟨x0, x1, ⟨lv, x2, hSL⟩, x3, x4, x5, ⟨dl, x6, hDT⟩, x7⟩ := hIC
      obtain ⟨al, cl, rfl⟩ := hSL.len
      obtain ⟨da, dc, hdl, hdnil⟩ := hDT.inv
      have hdl2 : dl = .slice da x.const.list.length dc := by simpa using hdl
      subst hdl2
      clear hdl hdnil
      rw [← cell_bel X2.c.below hib] at x0 x1 x2 x3 x4 x5 x6 x7
      have hibw : ib < wr.heap.size := Nat.lt_of_lt_of_le hib X2.c.below.size
      have hmw := X2.lt
      have hg1 : (0 : Int) ≤ k := by omega
      have hg2 : (k : Int) < b.ins.length := by omega
      have hgk : IntKind.i64.wrap ((k : Int) + 1) = k + 1 := by rw [IntKind.wrap_i64]; omega
      have hzr : ρ2 wr.heap.size = 0 := Decidable.byContradiction fun e => by have := (X2.c.lo _ e).2; omega
      obtain ⟨w2, B2⟩ := boxed wr #[.string x.op, .int .i64 x.to, .slice al (ints x.args).length cl, .int .i64 x.const.kind, .int .i64 x.const.int, .string x.const.text, .slice da x.const.list.length dc, .int .i64 x.num] 55
      have hs2 := B2.size
      have Y2 := X2.bel B2.below
      have HB2 := Lib.hid B2
      have HFX := Lib.hid (HFIT.out x (List.mem_of_getElem? hx))
      have HBX := Lib.hid (HPF.out.1 x (List.mem_of_getElem? hx))
      have HSL := Lib.hid hSL
      have HDT := Lib.hid hDT
      have hst : step c s2 = doI { s2 with pos := s2.pos + 1 } x := insB_op hp2 hbk2 (by rw [hpos2]; exact hx)
      have HST := Lib.hid hst
      have hcu1 : Cu c { s2 with pos := s2.pos + 1 } := by
        obtain ⟨p', b', e1, e2, e3, e4⟩ := hu2.at'
        rw [hp2] at e1
        cases e1
        rw [hbk2] at e2
        cases e2
        exact ⟨⟨p, b, hp2, hbk2, by dsimp only; omega, e4⟩, hu2.cl, hu2.tx⟩
      have hmo1 : Mo c n2 { s2 with pos := s2.pos + 1 } := ⟨hmo2.good, hmo2.wf, hmo2.frs, hmo2.cls, hmo2.win, hmo2.told, hmo2.out⟩
      have hdo := doI_ok HC.out hmo1 hcu1 hp2 HBX.out HFX.out
      have HDO := Lib.hid hdo
      have hdd := doI_done { s2 with pos := s2.pos + 1 } x
      have HDD := Lib.hid hdd
      clear hSL hDT hst hdo hdd B2
      cases left2 with
      | zero =>
        have HSN := Lib.hid (step_no Y2)
        have hgo3 : go c left s = go c 0 { s2 with e := 93 } := hgo2.trans (go_none he2 hd2)
        have HGO := Lib.hid hgo3
        have hmo3 : Mo c n2 { s2 with e := 93 } := ⟨hmo2.good, hmo2.wf, hmo2.frs, hmo2.cls, hmo2.win, hmo2.told, hmo2.out⟩
        have HMO := Lib.hid hmo3
        clear Y2 X2 hgo2 hgo3 hmo3 hcu1 hmo1
        go_wp2_with fail
        rw [← HB2.out.eq]
        with_reducible refine HSN.out.mono ?_
        rintro e w3 ⟨rfl, X3⟩
        have HX3 := Lib.hid X3
        clear X3
        go_wp2_with fail
        refine bodyPost_ret (results_none rfl _ _ _) rfl ?_
        exact ⟨rfl, _, 0, steps2, n2, ⟨_, _, _, _, _, _, _, _, HX3.out⟩, hls2, HGO.out, HMO.out, hnn2, fun e => by have e93 : (93 : Int) = 0 := e; omega⟩
      | succ left2 =>
        have hbd1 : left2 < 1000000 := by have := HLS.out; omega
        have hbd2 : steps2 < 1000000 := by have := HLS.out; omega
        have hbd3 : n2 ≤ 1000000 := by have := HN.out; omega
        have HSY := Lib.hid (step_yes Y2 hbd1 hbd2)
        have hgo3 : go c left s = go c left2 (doI { s2 with pos := s2.pos + 1 } x) := by rw [hgo2, go_succ he2 hd2, HST.out]
        have HGO := Lib.hid hgo3
        have HX2 := Lib.hid X2
        clear hgo3 hgo2 Y2 X2
        go_wp2_with fail
        rw [← HB2.out.eq]
        with_reducible refine HSY.out.mono ?_
        rintro e w3 ⟨rfl, X3, hs3, hk3'⟩
        have hbox3 := (hk3' wr.heap.size (by omega)).trans HB2.out.blk
        have z0 := cell_of_row w3 wr.heap.size 0 _ _ _ hbox3
        have z1 := cell_of_row w3 wr.heap.size 1 _ _ _ hbox3
        have z2 := cell_of_row w3 wr.heap.size 2 _ _ _ hbox3
        have z3 := cell_of_row w3 wr.heap.size 3 _ _ _ hbox3
        have z4 := cell_of_row w3 wr.heap.size 4 _ _ _ hbox3
        have z5 := cell_of_row w3 wr.heap.size 5 _ _ _ hbox3
        have z6 := cell_of_row w3 wr.heap.size 6 _ _ _ hbox3
        have z7 := cell_of_row w3 wr.heap.size 7 _ _ _ hbox3
        simp only [List.getElem?_toArray, List.getElem?_cons_zero, List.getElem?_cons_succ] at z0 z1 z2 z3 z4 z5 z6 z7
        have hr3 : wr.heap.size < w3.heap.size := by omega
        have hkold : ∀ q, q < wr.heap.size → q ≠ m → w3.heap[q]? = wr.heap[q]? := fun q h1 h2 => (hk3' q h2).trans (HB2.out.below.block q h1)
        have hzq2 := hkp2
        have HDOA := Lib.hid (do_any (X3.pos (s2.pos + 1)) HC.out hmo1 hcu1 hp2 HBX.out HFX.out hbd3 (HSL.out.below X3.c.below (Nat.le_refl _)) (HDT.out.bel X3.c.below (Nat.le_refl _)) ⟨da, dc, rfl⟩)
        unfold insV at HDOA
        have hm3 := X3.lt
        have hs3' : w1.heap.size ≤ w3.heap.size := by omega
        have hkk3 : ∀ q, q < w1.heap.size → ρ q = 0 → ρ2 q = 0 ∧ w3.heap[q]? = w1.heap[q]? := fun q h1 h2 => by
          have h3 := hkp2 q h1 h2
          have hqm : q ≠ m := fun e => by have := X3.c.me; rw [← e, h3.1] at this; cases this
          exact ⟨h3.1, (hkold q (Nat.lt_of_lt_of_le h1 hsz2) hqm).trans h3.2⟩
        have HKK3 := Lib.hid hkk3
        clear X3 hbox3 hk3' hkold hkk3
        go_wp2_with fail
        with_reducible refine HDOA.out.mono ?_
        rintro e w4 ⟨rfl, ⟨ρ4, H4, hb4, mb4, ov4, rv4, fv4, cbs4, X4, hk4⟩, hs4⟩
        have c10 : w4.cell? ⟨m, 10, none⟩ = some (.int .i64 (doI { s2 with pos := s2.pos + 1 } x).e) := X4.cell 10
        have hm4 := X4.lt
        have hkk4 : ∀ q, q < w1.heap.size → ρ q = 0 → ρ4 q = 0 ∧ w4.heap[q]? = w1.heap[q]? := fun q h1 h2 => by
          have h3 := HKK3.out q h1 h2
          have h4 := hk4 q (Nat.lt_of_lt_of_le h1 hs3') h3.1
          exact ⟨h4.1, h4.2.trans h3.2⟩
        have HX4 := Lib.hid X4
        have HKK4 := Lib.hid hkk4
        have hs4' : w1.heap.size ≤ w4.heap.size := Nat.le_trans hs3' hs4
        obtain ⟨s4, hs4e⟩ : ∃ s4, s4 = doI { s2 with pos := s2.pos + 1 } x := ⟨_, rfl⟩
        rw [← hs4e] at c10
        have HS4 := Lib.hid hs4e
        clear X4 hk4 hkk4 hs4e
        by_cases he4 : s4.e = 0
        · have g4 : (s4.e != 0) = false := by rw [he4]; rfl
          go_wp2_with fail
          go_roundg (b.ins.length - (k + 1))
          case measure => omega
          case rel =>
            refine ⟨k + 1, by omega, rfl, by go_num, ⟨⟨s4, left2, steps2 + 1, n2 + 1, ρ4, H4, hb4, mb4, ov4, rv4, fv4, cbs4, ?_, HKK4.out, hs4', by omega, ?_, ?_, ?_, by omega, by omega, ?_, he4, ?_, ?_, ?_⟩⟩⟩
            · rw [HS4.out]; exact HX4.out
            · rw [HS4.out]; exact HGO.out
            · rw [HS4.out]; exact HDO.out.1
            · rw [HS4.out]; exact HDO.out.2
            · rw [HS4.out, HDD.out.2.2.2]; show s2.pos + 1 = k + 1; omega
            · rw [HS4.out, HDD.out.1]; exact hd2
            · rw [HS4.out, HDD.out.2.2.1]; exact hp2
            · rw [HS4.out, HDD.out.2.1]; exact hbk2
        · have g4 : (s4.e != 0) = true := by rw [bne_iff_ne]; exact he4
          go_wp2_with fail
          refine bodyPost_ret (results_none rfl _ _ _) rfl ?_
          refine ⟨rfl, s4, left2, steps2 + 1, n2 + 1, ⟨ρ4, H4, hb4, mb4, ov4, rv4, fv4, cbs4, ?_⟩, by omega, ?_, ?_, by omega, fun e => absurd e he4⟩
          · rw [HS4.out]; exact HX4.out
          · rw [HS4.out]; exact HGO.out
          · rw [HS4.out]; exact HDO.out.1
    · obtain rfl : k = b.ins.length := by omega
      have hmw := X2.lt
      have hbox2 := (hkp2 w.heap.size hq1 hzq).2.trans HB.out.blk
      have hqw : w.heap.size < wr.heap.size := by omega
      have hst : step c s2 = endB c s2 b.fin := step_end hp2 hbk2 (by rw [hpos2]; exact List.getElem?_eq_none (Nat.le_refl _))
      have hfin := endB_ok HC.out hmo2 hu2 hp2 HPF.out.2
      have HFIN := Lib.hid hfin
      have HST := Lib.hid hst
      clear hst hfin
      cases left2 with
      | zero =>
        have HSN := Lib.hid (step_no X2)
        have hgo3 : go c left s = go c 0 { s2 with e := 93 } := hgo2.trans (go_none he2 hd2)
        have HGO := Lib.hid hgo3
        have hmo3 : Mo c n2 { s2 with e := 93 } := ⟨hmo2.good, hmo2.wf, hmo2.frs, hmo2.cls, hmo2.win, hmo2.told, hmo2.out⟩
        have HMO := Lib.hid hmo3
        clear X2 hgo2 hgo3 hmo3 hbox2
        go_wp2_with fail
        with_reducible refine HSN.out.mono ?_
        rintro e w3 ⟨rfl, X3⟩
        have HX3 := Lib.hid X3
        clear X3
        go_wp2_with fail
        refine bodyPost_end (results_none rfl _ _ _) rfl ?_
        exact ⟨rfl, _, 0, steps2, n2, ⟨_, _, _, _, _, _, _, _, HX3.out⟩, hls2, HGO.out, HMO.out, hnn2, fun e => by have e93 : (93 : Int) = 0 := e; omega⟩
      | succ left2 =>
        have hbd1 : left2 < 1000000 := by have := HLS.out; omega
        have hbd2 : steps2 < 1000000 := by have := HLS.out; omega
        have hbd3 : n2 ≤ 1000000 := by have := HN.out; omega
        have HSY := Lib.hid (step_yes X2 hbd1 hbd2)
        have hgo3 : go c left s = go c left2 (endB c s2 b.fin) := by rw [hgo2, go_succ he2 hd2, HST.out]
        have HGO := Lib.hid hgo3
        have hqm : w.heap.size ≠ m := by omega
        have HBOX2 := Lib.hid hbox2
        clear hgo3 hgo2 X2 hbox2
        go_wp2_with fail
        with_reducible refine HSY.out.mono ?_
        rintro e w3 ⟨rfl, X3, hs3, hk3'⟩
        have hbox3 := (hk3' w.heap.size hqm).trans HBOX2.out
        have z1 := cell_of_row w3 w.heap.size 1 _ _ _ hbox3
        have z2 := cell_of_row w3 w.heap.size 2 _ _ _ hbox3
        have z3 := cell_of_row w3 w.heap.size 3 _ _ _ hbox3
        have z4 := cell_of_row w3 w.heap.size 4 _ _ _ hbox3
        have z5 := cell_of_row w3 w.heap.size 5 _ _ _ hbox3
        have z6 := cell_of_row w3 w.heap.size 6 _ _ _ hbox3
        simp only [List.getElem?_toArray, List.getElem?_cons_zero, List.getElem?_cons_succ] at z1 z2 z3 z4 z5 z6
        have hr3 : w.heap.size < w3.heap.size := by omega
        have HEND := Lib.hid (end_any X3 HC.out HCODE.out hmo2 hu2 hp2 HPF.out.2 hbd3 (HSA.out.below X3.c.below (Nat.le_refl _)))
        unfold finV at HEND
        have hm3 := X3.lt
        clear X3 hbox3 hk3'
        go_wp2_with fail
        with_reducible refine HEND.out.mono ?_
        rintro e w4 hV
        obtain ⟨rfl, hV2⟩ := hV
        go_wp2_with fail
        refine bodyPost_end (results_none rfl _ _ _) rfl ?_
        refine ⟨rfl, _, left2, steps2 + 1, n2 + 1, hV2, by omega, HGO.out, HFIN.out.1, by omega, fun e1 e2 => ⟨HFIN.out.2 e1 e2 hd2, endB_pos e1 e2, by omega⟩⟩
end
end Vm
end Go.Proofs.Ytalfnaielhbocaa
namespace Go.Proofs.Ytalfnaielhbocaa
open Go.RowKit
set_option linter.unusedVariables false
set_option linter.unusedSimpArgs false
set_option maxRecDepth 100000
namespace Vm
def outCells (e : Int) (o : ByteArray) (d : Dt) (lv : Value) (ok : Bool) (steps : Int) : Array Value := #[.int .i64 e, .string o, .int .i64 d.kind, .int .i64 d.int, .string d.text, lv, .bool ok, .int .i64 steps]
def OutPost (o : Out) (w : World) (e : Ending) (w' : World) : Prop :=
  ∃ (d : Dt) (a : Option Addr) (c : Nat), e = .returned (.agg (outCells o.e o.out d (.slice a d.list.length c) o.shown.isSome o.steps)) ∧
    DtAt w' (fun b => w.heap.size ≤ b) (.agg #[.int .i64 d.kind, .int .i64 d.int, .string d.text, .slice a d.list.length c]) d ∧ Below w.heap.size w w' ∧ d = o.shown.getD (.mk 0 0 ⟨#[]⟩ [])
section
variable {w0 w w' : World} {ρ ρ' : Nat → Nat} {H : Nat → Value} {m hb mb : Nat} {T : List Hp.Th} {C : List Cl} {out : List UInt8} {regs : List Hp.V} {frs : List Fr} {ov rv fv cv : Value} {cbs : List Nat} {s : St} {left steps : Nat}
theorem VmO.init (input : List UInt8) (left : Nat) (hB : Below w0.heap.size w0 w) (hh : w.heap[hb]? = some (.cells #[.slice none 0 0] 83 (0, 0))) (hmp : AMap (fun n : Int => Value.int .i64 n) w mb [])
    (hm : w.heap[m]? = some (.cells #[cv, .pointer (some ⟨hb, 0, none⟩), .map (some mb), .string ⟨input.toArray⟩, .slice none 0 0, .int .i64 4, .int .i64 0, .string ⟨#[]⟩, .int .i64 0, .int .i64 left, .int .i64 0, .int .i64 0, .slice none 0 0, .slice none 0 0, .int .i64 0, .pointer none, .bool false, .int .i64 0, .int .i64 0, .string ⟨#[]⟩] 69 (0, 0)))
    (h1 : w0.heap.size ≤ hb) (h2 : w0.heap.size ≤ mb) (h3 : w0.heap.size ≤ m) (n1 : hb ≠ mb) (n2 : hb ≠ m) (n3 : mb ≠ m) :
    VmO w0 w (fun b => if b = m then 1 else if b = mb then 2 else if b = hb then 5 else 0) (fun _ => .slice none 0 0) m cv (start0 input) left 0 hb mb (.slice none 0 0) (.slice none 0 0) (.pointer none) [] := by
  have hhl : hb < w.heap.size := (Array.getElem?_eq_some_iff.1 hh).1
  have hml : m < w.heap.size := (Array.getElem?_eq_some_iff.1 hm).1
  have hbl := hmp.lt
  refine ⟨⟨?_, hmp, by simp [n3], rfl, fun i k cb hi => by simp [start0] at hi, World.ownsRow_nil _ _ _ _, fun b e => by simp [Value.ownBlock] at e, World.ownsRow_nil _ _ _ _, fun b e => by simp [Value.ownBlock] at e, .nil, by simp, fun b e => ?_, hB, fun k hk => by simp [start0] at hk⟩, hm⟩
  · refine ⟨.slice none 0 0, [], ⟨hh, World.ownsRow_nil _ _ _ _, (fun x hx => nomatch hx), (by simp [Value.ownBlock]), (fun x hx => nomatch hx), (fun x hx => nomatch hx), List.Pairwise.nil, ⟨(by simp [n2, n1]), (fun b e => by simp [Value.ownBlock] at e), (fun x hx => nomatch hx)⟩, fun b e => ?_⟩, rfl⟩
    split at e
    · cases e
    · split at e
      · cases e
      · split at e
        · rename_i e2; rw [e2]; exact hhl
        · cases e
  · split at e
    · rename_i e2; rw [e2]; exact ⟨h3, hml⟩
    · split at e
      · rename_i e2; rw [e2]; exact ⟨h2, hbl⟩
      · split at e
        · rename_i e2; rw [e2]; exact ⟨h1, hhl⟩
        · exact absurd rfl e
theorem start_mo (c : Code) (hc : CodeOk c) (input : List UInt8) : Mo c 1 ((start0 input).made 0 [] false []) := by
  have h0 : Mo c 0 (start0 input) := ⟨⟨Nat.le_refl _, (fun t ht => nomatch ht), (fun t ht => nomatch ht)⟩, ((Hp.wf_iff _).2 fun t ht => nomatch ht), (fun f hf => nomatch hf), (fun k hk => nomatch hk), Nat.zero_le _, Nat.zero_le _, Nat.le_refl _⟩
  obtain ⟨p, l, rfl, _, hh⟩ := hc.head
  exact made_ok h0 (ClOk.mk (fun _ => ⟨p, rfl, by rw [hh]; rfl⟩) (fun v hv => nomatch hv) (fun f hf => nomatch hf))
end
end Vm
end Go.Proofs.Ytalfnaielhbocaa
namespace Go.Proofs.Ytalfnaielhbocaa
open Go.RowKit
set_option linter.unusedVariables false
set_option linter.unusedSimpArgs false
set_option maxRecDepth 100000
namespace Vm
theorem outcomeD : ∃ fs, Try.prog.underlying 33 = some (.struct fs) := ⟨_, Try.underlying33⟩
theorem outcomeSize : (Try.prog.info? 33).map (·.size) = some 8 := by kernel_rfl
structure Res8 (w : World) (b : Nat) (a0 a1 a2 a3 a4 a5 a6 a7 : Value) : Prop where
  c0 : w.cell? ⟨b, 0, none⟩ = some a0
  c1 : w.cell? ⟨b, 1, none⟩ = some a1
  c2 : w.cell? ⟨b, 2, none⟩ = some a2
  c3 : w.cell? ⟨b, 3, none⟩ = some a3
  c4 : w.cell? ⟨b, 4, none⟩ = some a4
  c5 : w.cell? ⟨b, 5, none⟩ = some a5
  c6 : w.cell? ⟨b, 6, none⟩ = some a6
  c7 : w.cell? ⟨b, 7, none⟩ = some a7
  f : ∀ i, w.frozen? ⟨b, i, none⟩ = false
theorem Res8.of {w : World} {b : Nat} {a0 a1 a2 a3 a4 a5 a6 a7 : Value} {ty : TypeId} (h : w.heap[b]? = some (.cells #[a0, a1, a2, a3, a4, a5, a6, a7] ty (0, 0))) : Res8 w b a0 a1 a2 a3 a4 a5 a6 a7 :=
  ⟨cell_of_row w _ 0 _ _ _ h, cell_of_row w _ 1 _ _ _ h, cell_of_row w _ 2 _ _ _ h, cell_of_row w _ 3 _ _ _ h, cell_of_row w _ 4 _ _ _ h, cell_of_row w _ 5 _ _ _ h, cell_of_row w _ 6 _ _ _ h, cell_of_row w _ 7 _ _ _ h, fun i => frozen_of_row w _ i _ _ h⟩
abbrev ChkIs (cv : Value) (c : Code) (w : World) : Prop := ∀ w1, Below w.heap.size w w1 → Calls Try.prog 9 #[.agg #[cv]] w1 fun e w' => e = .returned (.int .i64 (chk c)) ∧ Below w1.heap.size w1 w'
theorem out_set (w : World) (g : Nat) (a0 a1 a2 a3 a4 a5 a6 a7 b0 b1 b2 b3 b4 b5 b6 b7 : Value) {t : TypeId} (h : w.heap[g]? = some (.cells #[a0, a1, a2, a3, a4, a5, a6, a7] t (0, 0))) :
    ((((((((w.setCell ⟨g, 0, none⟩ b0).setCell ⟨g, 1, none⟩ b1).setCell ⟨g, 2, none⟩ b2).setCell ⟨g, 3, none⟩ b3).setCell ⟨g, 4, none⟩ b4).setCell ⟨g, 5, none⟩ b5).setCell ⟨g, 6, none⟩ b6).setCell ⟨g, 7, none⟩ b7).heap[g]? = some (.cells #[b0, b1, b2, b3, b4, b5, b6, b7] t (0, 0)) := by
  have h0 : (w.setCell ⟨g, 0, none⟩ b0).heap[g]? = some (.cells #[b0, a1, a2, a3, a4, a5, a6, a7] t (0, 0)) := heap_setCell_same _ g 0 _ _ b0 h
  have h1 : ((w.setCell ⟨g, 0, none⟩ b0).setCell ⟨g, 1, none⟩ b1).heap[g]? = some (.cells #[b0, b1, a2, a3, a4, a5, a6, a7] t (0, 0)) := heap_setCell_same _ g 1 _ _ b1 h0
  have h2 : (((w.setCell ⟨g, 0, none⟩ b0).setCell ⟨g, 1, none⟩ b1).setCell ⟨g, 2, none⟩ b2).heap[g]? = some (.cells #[b0, b1, b2, a3, a4, a5, a6, a7] t (0, 0)) := heap_setCell_same _ g 2 _ _ b2 h1
  have h3 : ((((w.setCell ⟨g, 0, none⟩ b0).setCell ⟨g, 1, none⟩ b1).setCell ⟨g, 2, none⟩ b2).setCell ⟨g, 3, none⟩ b3).heap[g]? = some (.cells #[b0, b1, b2, b3, a4, a5, a6, a7] t (0, 0)) := heap_setCell_same _ g 3 _ _ b3 h2
  have h4 : (((((w.setCell ⟨g, 0, none⟩ b0).setCell ⟨g, 1, none⟩ b1).setCell ⟨g, 2, none⟩ b2).setCell ⟨g, 3, none⟩ b3).setCell ⟨g, 4, none⟩ b4).heap[g]? = some (.cells #[b0, b1, b2, b3, b4, a5, a6, a7] t (0, 0)) := heap_setCell_same _ g 4 _ _ b4 h3
  have h5 : ((((((w.setCell ⟨g, 0, none⟩ b0).setCell ⟨g, 1, none⟩ b1).setCell ⟨g, 2, none⟩ b2).setCell ⟨g, 3, none⟩ b3).setCell ⟨g, 4, none⟩ b4).setCell ⟨g, 5, none⟩ b5).heap[g]? = some (.cells #[b0, b1, b2, b3, b4, b5, a6, a7] t (0, 0)) := heap_setCell_same _ g 5 _ _ b5 h4
  have h6 : (((((((w.setCell ⟨g, 0, none⟩ b0).setCell ⟨g, 1, none⟩ b1).setCell ⟨g, 2, none⟩ b2).setCell ⟨g, 3, none⟩ b3).setCell ⟨g, 4, none⟩ b4).setCell ⟨g, 5, none⟩ b5).setCell ⟨g, 6, none⟩ b6).heap[g]? = some (.cells #[b0, b1, b2, b3, b4, b5, b6, a7] t (0, 0)) := heap_setCell_same _ g 6 _ _ b6 h5
  have h7 : ((((((((w.setCell ⟨g, 0, none⟩ b0).setCell ⟨g, 1, none⟩ b1).setCell ⟨g, 2, none⟩ b2).setCell ⟨g, 3, none⟩ b3).setCell ⟨g, 4, none⟩ b4).setCell ⟨g, 5, none⟩ b5).setCell ⟨g, 6, none⟩ b6).setCell ⟨g, 7, none⟩ b7).heap[g]? = some (.cells #[b0, b1, b2, b3, b4, b5, b6, b7] t (0, 0)) := heap_setCell_same _ g 7 _ _ b7 h6
  exact h7
section
variable {w : World} {cv : Value} {c : Code}
set_option maxHeartbeats 4000000 in
theorem Run_steps (st : ByteArray) (steps : Int) (al : Option Addr) (nl cl : Nat) (hs : steps < 0 ∨ (0 ≤ steps ∧ 1000000 < steps)) :
    Calls Try.prog 11 #[.agg #[.slice al nl cl], .string st, .int .i64 steps] w (OutPost ⟨1, ⟨#[]⟩, none, 0⟩ w) := by
  have hend : ∀ w', w' = (w.alloc (.cells #[.slice al nl cl] 24)).alloc (.cells (outCells 1 ⟨#[]⟩ (.mk 0 0 ⟨#[]⟩ []) (.slice none 0 0) false 0) 33) → OutPost ⟨1, ⟨#[]⟩, none, 0⟩ w (.returned (.agg (outCells 1 ⟨#[]⟩ (.mk 0 0 ⟨#[]⟩ []) (.slice none 0 0) false 0))) w' := fun w' e => by
    refine ⟨.mk 0 0 ⟨#[]⟩ [], none, 0, rfl, .nil _ _ _, ?_, rfl⟩
    rw [e]
    exact ((Below.refl _ _).alloc (Nat.le_refl _) _).alloc (by simp) _
  rcases hs with hs | ⟨hs0, hs⟩
  · have g1 : decide (steps < 0) = true := decide_eq_true hs
    go_enter Try.func11, Try.ntmps11
    go_wp2_with fail
    refine bodyPost_ret (res1 rfl _ _ (w.heap.size + 1) 33 _ (0, 0) rfl (heap_new (by simp)) outcomeD outcomeSize) rfl ?_
    exact hend _ rfl
  · have g1 : decide (steps < 0) = false := decide_eq_false (by omega)
    have g2 : decide ((1000000 : Int) < steps) = true := decide_eq_true hs
    go_enter Try.func11, Try.ntmps11
    go_wp2_with fail
    refine bodyPost_ret (res1 rfl _ _ (w.heap.size + 1) 33 _ (0, 0) rfl (heap_new (by simp)) outcomeD outcomeSize) rfl ?_
    exact hend _ rfl
set_option maxHeartbeats 4000000 in
theorem Run_form (st : ByteArray) (steps : Int) (al : Option Addr) (nl cl : Nat) (h0 : 0 ≤ steps) (h1 : steps ≤ 1000000) (hck : ChkIs (.slice al nl cl) c w) (he : chk c ≠ 0) :
    Calls Try.prog 11 #[.agg #[.slice al nl cl], .string st, .int .i64 steps] w (OutPost ⟨chk c, ⟨#[]⟩, none, 0⟩ w) := by
  have g1 : decide (steps < 0) = false := decide_eq_false (by omega)
  have g2 : decide ((1000000 : Int) < steps) = false := decide_eq_false (by omega)
  have g3 : (chk c != 0) = true := by rw [bne_iff_ne]; exact he
  obtain ⟨w1, B1⟩ := boxed w #[.slice al nl cl] 24
  obtain ⟨w2, B2⟩ := boxed w1 #[.int .i64 0, .string ⟨#[]⟩, .int .i64 0, .int .i64 0, .string ⟨#[]⟩, .slice none 0 0, .bool false, .int .i64 0] 33
  have hs1 := B1.size
  have hs2 := B2.size
  have hB2 : Below w.heap.size w w2 := B1.below.trans (B2.below.mono B1.below.size)
  have HCK := Lib.hid (hck w2 hB2)
  have HB1 := Lib.hid B1
  have HB2 := Lib.hid B2
  have HB := Lib.hid hB2
  clear hck B1 B2 hB2
  go_enter Try.func11, Try.ntmps11
  go_wp2_with fail
  rw [← HB1.out.eq, ← HB2.out.eq]
  with_reducible refine HCK.out.mono ?_
  rintro e w3 ⟨rfl, hb3⟩
  have hr3 := (hb3.block w1.heap.size (by omega)).trans HB2.out.blk
  rw [hs1] at hr3
  obtain ⟨z0, z1, z2, z3, z4, z5, z6, z7, zf⟩ := Res8.of hr3
  have y0 := zf 0
  have y1 := zf 1
  have y2 := zf 2
  have y3 := zf 3
  have y4 := zf 4
  have y5 := zf 5
  have y6 := zf 6
  have y7 := zf 7
  have hl3 : w.heap.size + 1 < w3.heap.size := (Array.getElem?_eq_some_iff.1 hr3).1
  have HR3 := Lib.hid hr3
  have HB3 := Lib.hid hb3
  clear hr3 hb3 zf
  go_wp2_with fail
  refine bodyPost_ret (res1 rfl _ _ (w.heap.size + 1) 33 _ (0, 0) rfl (out_set _ _ _ _ _ _ _ _ _ _ _ _ _ _ _ _ _ _ HR3.out) outcomeD outcomeSize) rfl ?_
  refine ⟨.mk 0 0 ⟨#[]⟩ [], none, 0, rfl, .nil _ _ _, ?_, rfl⟩
  have hb := HB.out.trans (HB3.out.mono HB.out.size)
  exact (((((((hb.setCell (p := ⟨w.heap.size + 1, 0, none⟩) (by simp) _).setCell (p := ⟨w.heap.size + 1, 1, none⟩) (by simp) _).setCell (p := ⟨w.heap.size + 1, 2, none⟩) (by simp) _).setCell (p := ⟨w.heap.size + 1, 3, none⟩) (by simp) _).setCell (p := ⟨w.heap.size + 1, 4, none⟩) (by simp) _).setCell (p := ⟨w.heap.size + 1, 5, none⟩) (by simp) _).setCell (p := ⟨w.heap.size + 1, 6, none⟩) (by simp) _).setCell (p := ⟨w.heap.size + 1, 7, none⟩) (by simp) _
end
end Vm
end Go.Proofs.Ytalfnaielhbocaa
namespace Go.Proofs.Ytalfnaielhbocaa
open Go.RowKit
set_option linter.unusedVariables false
set_option linter.unusedSimpArgs false
set_option maxRecDepth 100000
namespace Vm
theorem drop_at {α : Type} {l : List α} {k : Nat} {x : α} (h : l[k]? = some x) : l.drop k = x :: l.drop (k + 1) := by
  obtain ⟨hk, rfl⟩ := List.getElem?_eq_some_iff.1 h
  exact List.drop_eq_getElem_cons hk
theorem manyB_at {l : List Blk} {k n : Nat} {b : Blk} (h : l[k]? = some b) (hn : n + 1 + b.ins.length ≤ 4096) : manyB (l.drop k) n = manyB (l.drop (k + 1)) (n + 1 + b.ins.length) := by
  rw [drop_at h]
  show (if _ then _ else _) = _
  rw [if_neg (by omega)]
theorem manyB_over {l : List Blk} {k n : Nat} {b : Blk} (h : l[k]? = some b) (hn : 4096 < n + 1 + b.ins.length) : manyB (l.drop k) n = n + 1 + b.ins.length := by
  rw [drop_at h]
  show (if _ then _ else _) = _
  rw [if_pos hn]
theorem manyP_no {c : Code} {k n : Nat} {p : Prc} (h : c[k]? = some p) (hn : p.regs > 2000 ∨ manyB p.blocks n > 4096) : manyP (c.drop k) n = none := by
  rw [drop_at h]
  show (if _ then _ else _) = _
  rw [if_pos hn]
theorem manyP_at {c : Code} {k n : Nat} {p : Prc} (h : c[k]? = some p) (hn : ¬ (p.regs > 2000 ∨ manyB p.blocks n > 4096)) : manyP (c.drop k) n = manyP (c.drop (k + 1)) (manyB p.blocks n) := by
  rw [drop_at h]
  show (if _ then _ else _) = _
  rw [if_neg hn]
def headC (c : Code) : Bool := match c with | [] => true | p :: _ => decide (p.params ≠ 0) || decide (p.holds ≠ 0)
theorem headC_nil {c : Code} (h : c.length = 0) : headC c = true := by
  cases c with
  | nil => rfl
  | cons p l => simp at h
theorem headC_at {c : Code} {p : Prc} (h : c[0]? = some p) : headC c = (decide (p.params ≠ 0) || decide (p.holds ≠ 0)) := by
  cases c with
  | nil => simp at h
  | cons q l =>
    have : q = p := by simpa using h
    subst this
    rfl
theorem chk_many {c : Code} (h : ¬ (manyP c 0 = none ∨ c.length > 300)) : chk c = if headC c = true then 150 else if c.all (prcB c) = true then 0 else 150 := by
  unfold chk
  rw [if_neg h]
  cases c <;> rfl
section
variable {w : World} {c : Code}
structure ChM (w wx : World) (cv : Value) : Prop where
  below : Below w.heap.size w wx
  size : w.heap.size < wx.heap.size
  b0 : wx.cell? ⟨w.heap.size, 0, none⟩ = some cv
theorem ChM.bel {w wx wy : World} {cv : Value} (h : ChM w wx cv) (hb : Below wx.heap.size wx wy) : ChM w wy cv :=
  ⟨h.below.trans (hb.mono h.below.size), Nat.lt_of_lt_of_le h.size hb.size, (cell_bel hb h.size).trans h.b0⟩
theorem ChM.of (w : World) (cv : Value) : ∃ w1, w1 = w.alloc (.cells #[cv] 24) ∧ ChM w w1 cv := by
  refine ⟨_, rfl, (Below.refl _ _).alloc (Nat.le_refl _) _, by simp, ?_⟩
  exact cell_of_row _ _ 0 _ _ _ (heap_new rfl)
def ChkPost (w : World) (c : Code) (e : Ending) (w' : World) : Prop := e = .returned (.int .i64 (chk c)) ∧ Below w.heap.size w w'
set_option maxHeartbeats 8000000 in
theorem Check_any (acv : Option Addr) (ncv : Nat) (hcode : CodeAt w (.slice acv c.length ncv) c) (hlen : c.length ≤ 1000000000000000) (hfit : ∀ p ∈ c, PrcFit p) :
    Calls Try.prog 9 #[.agg #[.slice acv c.length ncv]] w (ChkPost w c) := by
  obtain ⟨w1, hw1, hM⟩ := ChM.of w (.slice acv c.length ncv)
  have HW1 := Lib.hid hw1
  have HM := Lib.hid hM
  have HCODE := Lib.hid hcode
  have HFIT := Lib.hid hfit
  have HLEN := Lib.hid hlen
  have hc0 := hM.b0
  have hl0 := hM.size
  clear hw1 hM hcode hfit hlen
  go_enter Try.func9, Try.ntmps9
  go_wp2_with fail
  rw [← HW1.out]
  go_loopg [3, 5, 13] c.length (fun gk s3 s5 s13 wx => ∃ k n : Nat, k ≤ c.length ∧ gk = c.length - k ∧ s3 = .int .i64 n ∧ s13 = .int .i64 k ∧ n ≤ 4096 ∧ Hid (ChM w wx (.slice acv c.length ncv)) ∧ Hid (manyP c 0 = manyP (c.drop k) n))
  case atStart => exact ⟨0, 0, Nat.zero_le _, rfl, rfl, rfl, by decide, HM.out, rfl⟩
  case round =>
    obtain ⟨k, n, hk, rfl, rfl, rfl, hn, HB, HA⟩ := hrel
    have hbw := HB.out.below
    by_cases hlt : k < c.length
    · obtain ⟨p, hp⟩ : ∃ p, c[k]? = some p := ⟨_, List.getElem?_eq_getElem hlt⟩
      obtain ⟨_, bc, oc, rfl, hbc, hPC⟩ := HCODE.out.at hp
      obtain ⟨n0, n1, n2, bv, n3, hBR⟩ := hPC
      obtain ⟨ab, capb, hbv⟩ := hBR.len
      subst hbv
      rw [← cell_bel hbw hbc] at n0 n1 n2 n3
      have hbcw : bc < wr.heap.size := Nat.lt_of_lt_of_le hbc hbw.size
      have hg1 : (0 : Int) ≤ k := by omega
      have hg2 : (k : Int) < c.length := by omega
      have hgk : IntKind.i64.wrap ((k : Int) + 1) = k + 1 := by have := HLEN.out; rw [IntKind.wrap_i64]; omega
      obtain ⟨w2, B⟩ := boxed wr #[.int .i64 p.params, .int .i64 p.holds, .int .i64 p.regs, .slice ab p.blocks.length capb] 40
      have HB2 := Lib.hid (HB.out.bel B.below)
      have hbx := B.blk
      have hs2 := B.size
      obtain ⟨q, hq⟩ : ∃ q, q = wr.heap.size := ⟨_, rfl⟩
      rw [← hq] at hbx hs2
      have hq2 : q < w2.heap.size := by omega
      have HBX := Lib.hid hbx
      have HBQ := Lib.hid B
      have HBR := Lib.hid hBR
      have HPK := Lib.hid hp
      have hfp := HFIT.out p (List.mem_of_getElem? hp)
      have HFP := Lib.hid hfp
      have hbl := hfp.blocks
      have HBL := Lib.hid hbl
      have HQ := Lib.hid hq
      have HN := Lib.hid hn
      clear hbx B hBR hp hfp hbl hq hn
      go_wp2_with fail
      rw [← HBQ.out.eq, ← HQ.out]
      go_loopg [3, 7, 20] p.blocks.length (fun gj s3 s7 s20 wx => ∃ j m : Nat, j ≤ p.blocks.length ∧ gj = p.blocks.length - j ∧ s3 = .int .i64 m ∧ s20 = .int .i64 j ∧ m ≤ 4096 ∧ Hid (Below w2.heap.size w2 wx) ∧ Hid (manyB p.blocks n = manyB (p.blocks.drop j) m))
      case atStart => exact ⟨0, n, Nat.zero_le _, rfl, rfl, rfl, HN.out, Below.refl _ _, rfl⟩
      case round =>
        obtain ⟨j, m, hj, rfl, rfl, rfl, hm, HC, HD⟩ := hrel
        have hcw := HC.out.size
        have HBr := HB2.out.bel HC.out
        have hbox := (HC.out.block q (by omega)).trans HBX.out
        have z2 := cell_of_row wr q 2 _ _ _ hbox
        simp only [List.getElem?_toArray, List.getElem?_cons_zero, List.getElem?_cons_succ] at z2
        have hqr : q < wr.heap.size := by omega
        by_cases hltj : j < p.blocks.length
        · obtain ⟨b, hb⟩ : ∃ b, p.blocks[j]? = some b := ⟨_, List.getElem?_eq_getElem hltj⟩
          obtain ⟨_, bb, bo, rfl, hbb, hBC⟩ := HBR.out.at hb
          obtain ⟨⟨iv, i0, hIR⟩, i1, i2, ⟨av, i3, hSA⟩, i4, i5, i6⟩ := hBC
          obtain ⟨ai, capi, hiv⟩ := hIR.len
          subst hiv
          obtain ⟨aa, ca, rfl⟩ := hSA.len
          rw [← cell_bel HBr.below hbb] at i0 i1 i2 i3 i4 i5 i6
          have hbbw : bb < wr.heap.size := Nat.lt_of_lt_of_le hbb HBr.below.size
          have hh1 : (0 : Int) ≤ j := by omega
          have hh2 : (j : Int) < p.blocks.length := by omega
          have hjk : IntKind.i64.wrap ((j : Int) + 1) = j + 1 := by have := HBL.out; rw [IntKind.wrap_i64]; omega
          have hil := (HFP.out.each b (List.mem_of_getElem? hb)).ins
          have hw1 : IntKind.i64.wrap (1 + (b.ins.length : Int)) = 1 + b.ins.length := by rw [IntKind.wrap_i64]; omega
          have hw2 : IntKind.i64.wrap ((m : Int) + (1 + (b.ins.length : Int))) = ((m + 1 + b.ins.length : Nat) : Int) := by rw [IntKind.wrap_i64]; omega
          have HBK := Lib.hid hb
          have HMM := Lib.hid hm
          have HIL := Lib.hid hil
          have HMR := Lib.hid HBr
          obtain ⟨w3, B3⟩ := boxed wr #[.slice ai b.ins.length capi, .int .i64 b.fin.kind, .int .i64 b.fin.reg, .slice aa (ints b.fin.args).length ca, .int .i64 b.fin.to, .int .i64 b.fin.next, .int .i64 b.fin.els] 48
          have HB3 := Lib.hid B3
          have hb3 := B3.below
          have HC3 := Lib.hid (HC.out.trans (hb3.mono hcw))
          have HM3 := Lib.hid (HBr.bel hb3)
          have z2' : w3.cell? ⟨q, 2, none⟩ = some (.int .i64 p.regs) := (cell_bel hb3 hqr).trans z2
          have hqr' : q < w3.heap.size := Nat.lt_of_lt_of_le hqr hb3.size
          clear hIR hSA hb hil hm HBr hbox B3 hb3
          cases hov : decide ((4096 : Int) < (m : Int) + 1 + (b.ins.length : Int)) with
          | false =>
            have HOV := Lib.hid (of_decide_eq_false hov)
            go_wp2_with fail
            rw [← HB3.out.eq]
            go_roundg (p.blocks.length - (j + 1))
            case measure => omega
            case rel => exact ⟨j + 1, m + 1 + b.ins.length, by omega, rfl, rfl, by go_num, by have := HOV.out; omega, HC3.out, by unfold Hid; rw [HD.out]; exact manyB_at HBK.out (by have := HOV.out; omega)⟩
          | true =>
            have HOV := Lib.hid (of_decide_eq_true hov)
            have hno : manyP c 0 = none := by
              rw [HA.out]
              refine manyP_no HPK.out (.inr ?_)
              have h1 := HD.out
              rw [manyB_over HBK.out (by have := HOV.out; omega)] at h1
              have := HOV.out
              omega
            have hchk : chk c = 151 := by unfold chk; rw [if_pos (.inl hno)]
            have HCHK := Lib.hid hchk
            clear hno hchk
            cases hrg : decide ((2000 : Int) < p.regs) with
            | true =>
              go_wp2_with fail
              go_ret
              refine ⟨by rw [HCHK.out]; rfl, ?_⟩
              rw [← HB3.out.eq]
              exact HM3.out.below
            | false =>
              go_wp2_with fail
              go_ret
              refine ⟨by rw [HCHK.out]; rfl, ?_⟩
              rw [← HB3.out.eq]
              exact HM3.out.below
        · obtain rfl : j = p.blocks.length := by omega
          have hmB : manyB p.blocks n = m := by rw [HD.out, List.drop_length]; rfl
          have HMR := Lib.hid HBr
          have HMB := Lib.hid hmB
          have hov : decide ((4096 : Int) < (m : Int)) = false := decide_eq_false (by omega)
          have HMM := Lib.hid hm
          clear hbox HBr hmB hm
          cases hrg : decide ((2000 : Int) < p.regs) with
          | true =>
            have hno : manyP c 0 = none := by
              rw [HA.out]
              exact manyP_no HPK.out (.inl (of_decide_eq_true hrg))
            have hchk : chk c = 151 := by unfold chk; rw [if_pos (.inl hno)]
            have HCHK := Lib.hid hchk
            clear hno hchk
            go_wp2_with fail
            go_ret
            exact ⟨by rw [HCHK.out]; rfl, HMR.out.below⟩
          | false =>
            have HRG := Lib.hid (of_decide_eq_false hrg)
            go_wp2_with fail
            go_roundg (c.length - (k + 1))
            case measure => omega
            case rel =>
              refine ⟨k + 1, m, by omega, rfl, rfl, by go_num, HMM.out, HMR.out, ?_⟩
              unfold Hid
              rw [HA.out, manyP_at HPK.out (by rw [HMB.out]; have := HMM.out; have := HRG.out; omega), HMB.out]
    · obtain rfl : k = c.length := by omega
      have hmany : manyP c 0 = some n := by rw [HA.out, List.drop_length]; rfl
      have hsome : ¬ (manyP c 0 = none) := by rw [hmany]; exact fun e => nomatch e
      have HSOME := Lib.hid hsome
      have hcr := HB.out.b0
      have hlr := HB.out.size
      clear hmany hsome
      cases hmx : decide ((300 : Int) < (c.length : Int)) with
      | true =>
        have hchk : chk c = 151 := by unfold chk; rw [if_pos (.inr (by have := of_decide_eq_true hmx; omega))]
        have HCHK := Lib.hid hchk
        clear hchk
        go_wp2_with fail
        go_ret
        exact ⟨by rw [HCHK.out]; rfl, HB.out.below⟩
      | false =>
        have hmx' : ¬ (manyP c 0 = none ∨ c.length > 300) := fun e => by
          rcases e with e | e
          · exact HSOME.out e
          · have := of_decide_eq_false hmx; omega
        have HCH := Lib.hid (chk_many hmx')
        clear hmx'
        by_cases hc0' : c.length = 0
        · have hchk : chk c = 150 := by rw [HCH.out, if_pos (headC_nil hc0')]
          have HCHK := Lib.hid hchk
          have hz : ((c.length : Int) == 0) = true := by rw [hc0']; rfl
          have HC0 := Lib.hid hc0'
          clear hchk hc0'
          go_wp2_with fail
          go_ret
          exact ⟨by rw [HCHK.out]; rfl, HB.out.below⟩
        · obtain ⟨p, hp⟩ : ∃ p, c[0]? = some p := ⟨_, List.getElem?_eq_getElem (by omega)⟩
          obtain ⟨_, bc, oc, rfl, hbc, hPC⟩ := HCODE.out.at hp
          obtain ⟨n0, n1, n2, bv, n3, hBR⟩ := hPC
          obtain ⟨ab, capb, hbv⟩ := hBR.len
          subst hbv
          rw [← cell_bel hbw hbc] at n0 n1 n2 n3
          rw [Nat.zero_mul, Nat.add_zero] at n0 n1 n2 n3
          have hbcw : bc < wr.heap.size := Nat.lt_of_lt_of_le hbc hbw.size
          have hg0 : (0 : Int) < c.length := by omega
          have hz : ((c.length : Int) == 0) = false := by rw [beq_eq_false_iff_ne]; omega
          have hhd := headC_at hp
          cases e1 : (p.params != 0) with
          | true =>
            have hchk : chk c = 150 := by
              rw [HCH.out, if_pos]
              rw [hhd, decide_eq_true (by simpa using e1)]
              rfl
            have HCHK := Lib.hid hchk
            clear hchk
            go_wp2_with fail
            go_ret
            exact ⟨by rw [HCHK.out]; rfl, HB.out.below⟩
          | false =>
            cases e2 : (p.holds != 0) with
            | true =>
              have hchk : chk c = 150 := by
                rw [HCH.out, if_pos]
                rw [hhd, decide_eq_true (p := p.holds ≠ 0) (by simpa using e2), Bool.or_true]
              have HCHK := Lib.hid hchk
              clear hchk
              go_wp2_with fail
              go_ret
              exact ⟨by rw [HCHK.out]; rfl, HB.out.below⟩
            | false =>
              have hne : ¬ (headC c = true) := by
                rw [hhd]
                simp at e1 e2 ⊢
                exact ⟨e1, e2⟩
              have HCH2 := Lib.hid (show chk c = if c.all (prcB c) = true then 0 else 150 by rw [HCH.out, if_neg hne])
              clear hne
              go_wp2_with fail
              go_loopg [9, 68] c.length (fun gk s9 s68 wx => ∃ k : Nat, k ≤ c.length ∧ gk = c.length - k ∧ s68 = .int .i64 k ∧ Hid (ChM w wx (.slice (some ⟨bc, oc, none⟩) c.length ncv)) ∧ Hid ((c.take k).all (prcB c) = true))
              case atStart => exact ⟨0, Nat.zero_le _, rfl, rfl, HB.out, rfl⟩
              case round =>
                obtain ⟨j, hj, rfl, rfl, HC, HD⟩ := hrel
                have hbr := HC.out.below
                have hcr2 := HC.out.b0
                have hlr2 := HC.out.size
                by_cases hltj : j < c.length
                · obtain ⟨pj, hpj⟩ : ∃ pj, c[j]? = some pj := ⟨_, List.getElem?_eq_getElem hltj⟩
                  obtain ⟨_, b1, o1, e1', hb1, hPJ⟩ := HCODE.out.at hpj
                  cases e1'
                  obtain ⟨n0', n1', n2', bvj, n3', hBRj⟩ := hPJ
                  obtain ⟨abj, capbj, hbvj⟩ := hBRj.len
                  subst hbvj
                  rw [← cell_bel hbr hbc] at n0' n1' n2' n3'
                  have hbcr : bc < wr.heap.size := Nat.lt_of_lt_of_le hbc hbr.size
                  have hh1 : (0 : Int) ≤ j := by omega
                  have hh2 : (j : Int) < c.length := by omega
                  have hjk : IntKind.i64.wrap ((j : Int) + 1) = j + 1 := by have := HLEN.out; rw [IntKind.wrap_i64]; omega
                  obtain ⟨w3, B3⟩ := boxed wr #[.int .i64 pj.params, .int .i64 pj.holds, .int .i64 pj.regs, .slice abj pj.blocks.length capbj] 40
                  have HB3 := Lib.hid B3
                  have hM3 := HC.out.bel B3.below
                  have hb3 := hM3.below
                  have HM3 := Lib.hid hM3
                  have HPR := Lib.hid (proc_any (w := w3) (c := c) (p := pj) (some ⟨bc, oc, none⟩) ncv abj capbj (HCODE.out.bel hb3) (hBRj.mono hb3.size fun _ _ b o hl h => BlkC.bel h hb3 hl) (HFIT.out pj (List.mem_of_getElem? hpj)))
                  unfold procV at HPR
                  have HPJ := Lib.hid hpj
                  clear hBRj hpj B3 hM3 hb3
                  go_wp2_with fail
                  rw [← HB3.out.eq]
                  with_reducible refine HPR.out.mono ?_
                  rintro e w4 ⟨rfl, hb4⟩
                  have HM4 := Lib.hid (HM3.out.bel hb4)
                  clear hb4
                  cases hB : prcB c pj with
                  | false =>
                    have hchk : chk c = 150 := by rw [HCH2.out, all_false HPJ.out hB]; rfl
                    have HCHK := Lib.hid hchk
                    clear hchk
                    go_wp2_with fail
                    go_ret
                    exact ⟨by rw [HCHK.out]; rfl, HM4.out.below⟩
                  | true =>
                    have HBT := Lib.hid hB
                    clear hB
                    go_wp2_with fail
                    go_roundg (c.length - (j + 1))
                    case measure => omega
                    case rel => exact ⟨j + 1, by omega, rfl, by go_num, HM4.out, all_take HD.out HPJ.out HBT.out⟩
                · obtain rfl : j = c.length := by omega
                  have hall := HD.out
                  rw [List.take_length] at hall
                  have hchk : chk c = 0 := by rw [HCH2.out, if_pos hall]
                  have HCHK := Lib.hid hchk
                  clear hchk hall
                  go_wp2_with fail
                  go_ret
                  exact ⟨by rw [HCHK.out]; rfl, hbr⟩
theorem chk_is (acv : Option Addr) (ncv : Nat) (hcode : CodeAt w (.slice acv c.length ncv) c) (hlen : c.length ≤ 1000000000000000) (hfit : ∀ p ∈ c, PrcFit p) : ChkIs (.slice acv c.length ncv) c w :=
  fun w1 hb => Check_any acv ncv (hcode.bel hb) hlen hfit
end
end Vm
end Go.Proofs.Ytalfnaielhbocaa
