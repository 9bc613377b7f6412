/- Same: two ends that are the same. -/
import Derived.Test.YtembhjfejhnpfaaRiscHalt
import Derived.Deep.LoopGhost
import Derived.WalkLawsBesides
import Derived.ChangeKeysEq
namespace Go.Proofs.Ytembhjfejhnpfaa
open Go.RowKit
set_option linter.unusedVariables false
set_option linter.unusedSimpArgs false
theorem regs_load {w : World} {k : Nat} {st : Int} {m : Rs.M} {mv : Value} (h : HaltAt w k st m mv) : (loadCells ⟨k, 5, none⟩ 32).run Try.prog w = .ok (m.regs.map (Value.int .i64)).toArray w := by
  have := run_loadCells_list (P := Try.prog) w ⟨k, 5, none⟩ (m.regs.map (Value.int .i64)) (fun j v hj => by
    have hl : j < m.regs.length := by have := (List.getElem?_eq_some_iff.1 hj).1; simpa using this
    rw [show (⟨k, 5, none⟩ : Addr).add j = ⟨k, 5 + j, none⟩ by unfold Addr.add; split <;> simp_all]
    rw [h.cR (by rw [← h.regs]; exact hl), List.getD_eq_getElem?_getD, List.getElem?_eq_getElem hl]
    rw [List.getElem?_map, List.getElem?_eq_getElem hl] at hj
    simpa using hj)
  simpa [h.regs] using this
theorem regs_range {w : World} {k : Nat} {st : Int} {m : Rs.M} {mv : Value} (h : HaltAt w k st m mv) : w.rangeAt k 5 (m.regs.map (Value.int .i64)) := by
  intro j v hj
  have hl : j < m.regs.length := by have := (List.getElem?_eq_some_iff.1 hj).1; simpa using this
  rw [h.cR (by rw [← h.regs]; exact hl), List.getD_eq_getElem?_getD, List.getElem?_eq_getElem hl]
  rw [List.getElem?_map, List.getElem?_eq_getElem hl] at hj
  simpa using hj
theorem regsSize (l : List Int) (h : l.length = 32) : (Try.prog.info? 37).map (·.size) = some (l.map (Value.int .i64)).length := by
  rw [List.length_map, h]; kernel_rfl
theorem wpList_load_g {P : Program} {ops : Array Oper} {rest : List Oper} {op : Oper} {a : Act} {w : World} {Q : Exit → Act → World → Prop} (ty : TypeId) (x : Operand) (ho : op.op = .load ty x) (hw : Region.wanted op (yielded ops a.tmps) = true)
    (b o : Nat) (hx : a.eval x = .pointer (some ⟨b, o, none⟩)) (cs : List Value) (d : TypeDesc) (hc : w.rangeAt b o cs)
    (hu : P.underlying ty = some d) (hd : d.isRow = true) (hi : (P.info? ty).map (·.size) = some cs.length)
    (h : wpList P ops Q rest (a.put op.dst (.agg cs.toArray)) w) : wpList P ops Q (op :: rest) a w := by
  unfold wpList
  rw [if_pos hw]
  exact .inl (wp_load_mid ty x ho b o hx cs d hc hu hd hi h)
theorem eq_items (l : List Int) (w : World) : ∀ is : List Nat, (∀ i ∈ is, i < l.length) → (Op.eqItems 9999 3 1 (l.map (Value.int .i64)).toArray (l.map (Value.int .i64)).toArray is).run Try.prog w = .ok true w
  | [], _ => by simp [Op.eqItems]
  | i :: is, h => by
    have hi := h i (by simp)
    have hx : (l.map (Value.int .i64)).toArray[i * 1]? = some (.int .i64 (l.getD i 0)) := by
      simp [List.getElem?_eq_getElem hi, List.getD_eq_getElem?_getD]
    have hp := run_part_plain (P := Try.prog) (w := w) (e := 3) (by kernel_rfl) hx
    have he := run_equalIn_int (P := Try.prog) w 9998 3 .i64 .i64 (l.getD i 0) (l.getD i 0) Try.underlying3
    simp only [beq_self_eq_true] at he
    simp only [Op.eqItems, Sem.run_bind, hp, he, Result.andThen_ok]
    simpa using eq_items l w is (fun j hj => h j (by simp [hj]))
theorem neq_regs (l : List Int) (h : l.length = 32) (w : World) : (binOp .neq 37 (.agg (l.map (Value.int .i64)).toArray) (.agg (l.map (Value.int .i64)).toArray)).run Try.prog w = .ok (.bool false) w := by
  obtain ⟨i0, hi, _⟩ := info_parts infoI
  rw [run_neq_struct, run_equalIn_array (P := Try.prog) w 9999 _ _ (n := 32) (e := 3) (by kernel_rfl) hi]
  have hc : Try.prog.cellsOf 3 = 1 := by kernel_rfl
  rw [hc, eq_items l w (List.range 32) (fun i hi => by rw [h]; exact List.mem_range.1 hi)]
  rfl
set_option maxHeartbeats 8000000 in
set_option maxRecDepth 100000 in
theorem same_any (st : Int) (m : Rs.M) (va vb : Value) (w : World) (hr : m.regs.length = 32) (hml : m.mem.length ≤ 1048576) (ha : Sl w va (m.mem.map (Value.int .i64))) (hb : Sl w vb (m.mem.map (Value.int .i64))) :
    Calls Try.prog 13 #[.agg (Rs.halt st m va).toArray, .agg (Rs.halt st m vb).toArray] w fun e w' => e = .returned (.bool true) ∧ Below w.heap.size w w' := by
  obtain ⟨aa, ca, rfl⟩ := ha.len
  obtain ⟨ab, cb, rfl⟩ := hb.len
  have HA := Lib.hid ha
  have HB := Lib.hid hb
  clear ha hb
  have hll : (m.mem.map (Value.int .i64)).length = m.mem.length := by simp
  rw [hll] at HA HB ⊢
  have A0 : HaltAt ((w.alloc (.cells (Rs.halt st m (.slice aa m.mem.length ca)).toArray 39)).alloc (.cells (Rs.halt st m (.slice ab m.mem.length cb)).toArray 39)) w.heap.size st m (.slice aa m.mem.length ca) := ⟨heap_alloc2_old _ _ _, hr⟩
  have B0 : HaltAt ((w.alloc (.cells (Rs.halt st m (.slice aa m.mem.length ca)).toArray 39)).alloc (.cells (Rs.halt st m (.slice ab m.mem.length cb)).toArray 39)) (w.heap.size + 1) st m (.slice ab m.mem.length cb) := ⟨heap_alloc2_new _ _ _, hr⟩
  have AA := Lib.hid A0
  have BB := Lib.hid B0
  have a0 := A0.c0
  have b0 := B0.c0
  have a1 := A0.c1
  have b1 := B0.c1
  have a2 := A0.c2
  have b2 := B0.c2
  have a3 := A0.c3
  have b3 := B0.c3
  have a4 := A0.c4
  have b4 := B0.c4
  have a37 := A0.c37
  have b37 := B0.c37
  have RA := Lib.hid (regs_range A0)
  have RB := Lib.hid (regs_range B0)
  have HSZ := Lib.hid (regsSize m.regs hr)
  have hnq := neq_regs m.regs hr
  have h0 : ∀ v, (Rs.halt st m v)[0]? = some (.int .i64 st) := fun _ => rfl
  have h1 : ∀ v, (Rs.halt st m v)[1]? = some (.int .i64 m.value) := fun _ => rfl
  have h2 : ∀ v, (Rs.halt st m v)[2]? = some (.string ⟨m.out.toArray⟩) := fun _ => rfl
  have h3 : ∀ v, (Rs.halt st m v)[3]? = some (.int .i64 m.steps) := fun _ => rfl
  have h4 : ∀ v, (Rs.halt st m v)[4]? = some (.int .i64 m.pc) := fun _ => rfl
  have h37 : ∀ v, (Rs.halt st m v)[37]? = some v := fun v => by
    unfold Rs.halt
    simp only [List.getElem?_cons_succ]
    rw [List.getElem?_append_right (by simp; omega)]
    simp [hr]
  clear A0 B0
  go_enter Try.func13, Try.ntmps13
  go_wp2_with (first | (refine wpList_load_g 37 (.tmp 40) rfl rfl w.heap.size 5 rfl (m.regs.map (Value.int .i64)) _ RA.out Try.underlying37 rfl HSZ.out ?_) | (refine wpList_load_g 37 (.tmp 42) rfl rfl (w.heap.size + 1) 5 rfl (m.regs.map (Value.int .i64)) _ RB.out Try.underlying37 rfl HSZ.out ?_))
  have HB2 : Hid (Below w.heap.size w ((w.alloc (.cells (Rs.halt st m (.slice aa m.mem.length ca)).toArray 39)).alloc (.cells (Rs.halt st m (.slice ab m.mem.length cb)).toArray 39))) := ((Below.refl _ _).alloc (Nat.le_refl _) _).alloc (by simp) _
  clear a0 b0 a1 b1 a2 b2 a3 b3 a4 b4 RA RB HSZ hnq h0 h1 h2 h3 h4
  have A37 := Lib.hid a37
  have B37 := Lib.hid b37
  clear a37 b37
  go_loopg [5] m.mem.length (fun g i wx => ∃ k : Nat, k ≤ m.mem.length ∧ g = m.mem.length - k ∧ i = .int .i64 k ∧ ∃ nd, wx = World.drewN ((w.alloc (.cells (Rs.halt st m (.slice aa m.mem.length ca)).toArray 39)).alloc (.cells (Rs.halt st m (.slice ab m.mem.length cb)).toArray 39)) nd)
  case atStart => exact ⟨0, Nat.zero_le _, rfl, rfl, 0, rfl⟩
  case round =>
    obtain ⟨k, hk, rfl, rfl, nd, hwr⟩ := hrel
    have a37 : wr.cell? ⟨w.heap.size, 37, none⟩ = some (.slice aa m.mem.length ca) := by rw [hwr]; exact A37.out
    have b37 : wr.cell? ⟨w.heap.size + 1, 37, none⟩ = some (.slice ab m.mem.length cb) := by rw [hwr]; exact B37.out
    have HWR := Lib.hid hwr
    have HBR : Hid (Below w.heap.size w wr) := by unfold Hid; rw [hwr]; exact below_drewN HB2.out nd
    clear hwr
    by_cases hlt : k < m.mem.length
    · have hne : m.mem.map (Value.int .i64) ≠ [] := by intro h; have h2 := congrArg List.length h; rw [hll] at h2; simp at h2; rw [h2] at hlt; simp at hlt
      obtain ⟨ba, oa, hae, hal, hac⟩ := Sl.at (by have h := HA.out; rw [← hll] at h; exact h) hne
      obtain ⟨bb, ob, hbe, hbl, hbc⟩ := Sl.at (by have h := HB.out; rw [← hll] at h; exact h) hne
      subst hae
      subst hbe
      have hget : (m.mem.map (Value.int .i64)).getD k undef = .int .i64 (m.mem.getD k 0) := by
        simp [List.getD_eq_getElem?_getD, List.getElem?_map, List.getElem?_eq_getElem hlt]
      have ea := (HBR.out.cell (p := ⟨ba, oa + k, none⟩) hal).trans (hac k (by rw [hll]; exact hlt))
      have eb := (HBR.out.cell (p := ⟨bb, ob + k, none⟩) hbl).trans (hbc k (by rw [hll]; exact hlt))
      rw [hget] at ea eb
      clear hac hbc hget hne
      have hg1 : (0 : Int) ≤ k := by omega
      have hg2 : (k : Int) < m.mem.length := by omega
      have hgw : IntKind.i64.wrap ((k : Int) + 1) = k + 1 := by rw [IntKind.wrap_i64]; omega
      go_wp2_with fail
      go_quiet (fail)
      go_wp2_with fail
      go_roundg (m.mem.length - (k + 1))
      case measure => omega
      case rel => exact ⟨k + 1, by omega, rfl, by go_num, nd + nq, by rw [HWR.out, World.drewN_drewN]⟩
    · have hge : (m.mem.length : Int) ≤ k := by omega
      go_wp2_with fail
      go_ret
      exact ⟨rfl, HBR.out⟩
end Go.Proofs.Ytembhjfejhnpfaa
