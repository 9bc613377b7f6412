/- The machine's closure, step, tell, push. -/
import Derived.BigQuiet
import Derived.Deep.QuietTactic
import Derived.Test.YtalfnaielhbocaaKJbb
set_option linter.unusedVariables false
set_option linter.unusedSimpArgs false
set_option linter.unnecessarySimpa false
namespace Go.Proofs.Ytalfnaielhbocaa
open Go.RowKit
set_option linter.unusedVariables false
set_option linter.unusedSimpArgs false
set_option maxRecDepth 100000
namespace Vm
theorem zeroClo (w : World) : (zeroValue 84).run Try.prog w = .ok (.pointer none) w := by
  have h : (Try.prog.info? 84).map (fun i => i.zero) = some (some (.pointer none)) := by kernel_rfl
  cases hq : Try.prog.info? 84 with
  | none => rw [hq] at h; cases h
  | some i =>
    rw [hq] at h
    have hz : i.zero = some (.pointer none) := by simpa using h
    simp [zeroValue, typeInfo, hq, hz]
theorem look_clo {w : World} {mb : Nat} {L : List (Int × Value)} (h : AMap (fun n : Int => Value.int .i64 n) w mb L) (k : Int) {r : Value} (hr : (alook L k).getD (.pointer none) = r) (n : Nat) :
    (Instr.lookup 62 (.map (some mb)) (.int .i64 k) false).run Try.prog (w.drewN n) = .ok r (w.drewN n) := by
  have := AMap.lookup (h.drewN n) (keyOk_int Try.underlying3) Try.underlying62 (zeroClo (w.drewN n)) k false
  rw [← hr]
  exact this
def ClR (C : List Cl) (cbs : List Nat) (o : Option Cl) (r : Value) : Prop := match o with
  | none => r = .pointer none
  | some k => ∃ i cb : Nat, C[i]? = some k ∧ cbs[i]? = some cb ∧ r = .pointer (some ⟨cb, 0, none⟩)
section
variable {w0 w w' : World} {ρ ρ' : Nat → Nat} {H : Nat → Value} {m hb mb : Nat} {T : List Hp.Th} {C : List Cl} {out : List UInt8} {regs : List Hp.V} {frs : List Fr} {ov rv fv cv : Value} {cbs : List Nat} {s : St} {left steps : Nat}
set_option maxHeartbeats 1000000 in
theorem closure_any (h : VmO w0 w ρ H m cv s left steps hb mb ov rv fv cbs) (v : Hp.V) :
    Calls Try.prog 33 #[.pointer (some ⟨m, 0, none⟩), v.val] w fun e w' => (∃ r, e = .returned r ∧ ClR s.cls cbs (find s.cls v) r) ∧ Below w.heap.size w w' := by
  have hm := h.lt
  have c0 : w.cell? ⟨m, 2, none⟩ = some (.map (some mb)) := h.cell 2
  by_cases h8 : v.kind = 8
  · have q1 : (v.kind != 8) = false := by rw [h8]; rfl
    obtain ⟨r, hr⟩ : ∃ r, (alook (mapL s.cls cbs) v.int).getD (.pointer none) = r := ⟨_, rfl⟩
    have hlk := look_clo (h.c.map.alloc (.cells #[.int .i64 v.kind, .int .i64 v.int, .string v.text] 64)) v.int hr
    have HR : Hid (ClR s.cls cbs (find s.cls v) r) := by
      unfold Hid find
      rw [if_pos h8]
      obtain ⟨l1, l2⟩ := look_map s.cls cbs h.c.len v.int
      cases hf : look s.cls v.int with
      | none =>
        rw [l1 hf] at hr
        exact hr.symm
      | some k =>
        obtain ⟨i, cb, e1, e2, e3⟩ := l2 k hf
        rw [e3] at hr
        exact ⟨i, cb, e1, e2, hr.symm⟩
    clear h hr h8
    unfold Hp.V.val
    go_enter Try.func33, Try.ntmps33
    go_wp2_with fail
    go_quiet (fail)
    go_wp2_with fail
    go_ret
    exact ⟨⟨r, rfl, HR.out⟩, below_drewN ((Below.refl _ _).alloc (Nat.le_refl _) _) _⟩
  · have q1 : (v.kind != 8) = true := by rw [bne_iff_ne]; exact h8
    have HR : Hid (ClR s.cls cbs (find s.cls v) (.pointer none)) := by
      unfold Hid find
      rw [if_neg h8]
      rfl
    clear h h8
    unfold Hp.V.val
    go_enter Try.func33, Try.ntmps33
    go_wp2_with fail
    go_ret
    exact ⟨⟨_, rfl, HR.out⟩, (Below.refl _ _).alloc (Nat.le_refl _) _⟩
theorem step_yes (h : VmO w0 w ρ H m cv s (left + 1) steps hb mb ov rv fv cbs) (hl : left < 1000000) (hs : steps < 1000000) :
    Calls Try.prog 37 #[.pointer (some ⟨m, 0, none⟩)] w fun e w' => e = .returned (.bool true) ∧ VmO w0 w' ρ H m cv s left (steps + 1) hb mb ov rv fv cbs ∧ w'.heap.size = w.heap.size ∧ ∀ b, b ≠ m → w'.heap[b]? = w.heap[b]? := by
  have hm := h.lt
  have c8 : w.cell? ⟨m, 8, none⟩ = some (.int .i64 steps) := h.cell 8
  have c9 : w.cell? ⟨m, 9, none⟩ = some (.int .i64 ((left + 1 : Nat) : Int)) := h.cell 9
  have f8 := h.fz 8
  have f9 := h.fz 9
  have g1 : ((((left + 1 : Nat) : Int)) == 0) = false := beq_eq_false_iff_ne.2 (by omega)
  have g2 : IntKind.i64.wrap (((left + 1 : Nat) : Int) - 1) = (left : Int) := by rw [IntKind.wrap_i64]; omega
  have g3 : IntKind.i64.wrap ((steps : Int) + 1) = ((steps + 1 : Nat) : Int) := by rw [IntKind.wrap_i64]; omega
  have HE := Lib.hid ((h.set 9 (.int .i64 left) (s' := s) (left' := left) (steps' := steps) rfl rfl rfl rfl rfl rfl).set 8 (.int .i64 ((steps + 1 : Nat) : Int)) (s' := s) (left' := left) (steps' := steps + 1) rfl rfl rfl rfl rfl rfl)
  clear h
  go_enter Try.func37, Try.ntmps37
  go_wp2_with fail
  go_ret
  exact ⟨rfl, HE.out, by simp [World.setCell], fun b hb => (heap_setCell_other _ _ _ _ hb).trans (heap_setCell_other _ _ _ _ hb)⟩
theorem step_no (h : VmO w0 w ρ H m cv s 0 steps hb mb ov rv fv cbs) :
    Calls Try.prog 37 #[.pointer (some ⟨m, 0, none⟩)] w fun e w' => e = .returned (.bool false) ∧ VmO w0 w' ρ H m cv { s with e := 93 } 0 steps hb mb ov rv fv cbs := by
  have hm := h.lt
  have c9 : w.cell? ⟨m, 9, none⟩ = some (.int .i64 0) := h.cell 9
  have c10 : w.cell? ⟨m, 10, none⟩ = some (.int .i64 s.e) := h.cell 10
  have f10 := h.fz 10
  have HE := Lib.hid (h.set 10 (.int .i64 93) (s' := { s with e := 93 }) (left' := 0) (steps' := steps) rfl rfl rfl rfl rfl rfl)
  clear h
  go_enter Try.func37, Try.ntmps37
  go_wp2_with fail
  go_ret
  exact ⟨rfl, HE.out⟩
end
end Vm
end Go.Proofs.Ytalfnaielhbocaa
