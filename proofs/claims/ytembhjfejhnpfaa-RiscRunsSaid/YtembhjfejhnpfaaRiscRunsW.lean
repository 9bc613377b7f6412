/- RiscRuns' walk. -/
import Derived.Test.YtembhjfejhnpfaaRiscRRunE
import Derived.Test.YtembhjfejhnpfaaRiscStepsW
import Derived.Deep.RegionHeld3
namespace Go.Proofs.Ytembhjfejhnpfaa
open Go.RowKit
set_option linter.unusedVariables false
set_option linter.unusedSimpArgs false
theorem rrun_is (vc vm : Value) (code mem : List Int) (words : Int) (inp : List UInt8) (steps : Int) (w : World) (hc : Sl w vc (u32s code)) (hm : Sl w vm (i64s mem)) (hcr : ∀ x ∈ code, 0 ≤ x ∧ x < 4294967296) (hmr : ∀ x ∈ mem, Rs.InR x) (hs : steps ≤ 1000000000000) {m : Rs.M} {st : Int} (h : Rs.runI code mem words inp steps = (m, st)) :
    Calls Try.prog 15 #[.agg #[vc, vm, .int .i64 words], .string ⟨inp.toArray⟩, .int .i64 steps] w fun e w' =>
      ∃ a cap, e = .returned (.agg (Rs.halt st m (.slice a m.mem.length cap)).toArray) ∧ Sl w' (.slice a m.mem.length cap) (m.mem.map (Value.int .i64)) ∧ m.regs.length = 32 ∧ Below w.heap.size w w' := by
  refine (rrun_any vc vm code mem words inp steps w hc hm hcr hmr hs).mono ?_
  rintro e w' ⟨mv, rfl, hown, hb⟩
  have hl := Rs.runI_len code mem words inp steps
  rw [h] at hown hl ⊢
  obtain ⟨a, cap, rfl⟩ := own_sl hown
  exact ⟨a, cap, rfl, own_to_sl hown, hl, hb⟩
theorem one_made {w W : World} {c : Array Value} {t : TypeId} (h : w.alloc (.cells c t) = W) : W.heap[w.heap.size]? = some (.cells c t (0, 0)) ∧ Below w.heap.size w W := by
  subst h
  exact ⟨heap_alloc_new _ _, (Below.refl _ _).alloc (Nat.le_refl _) _⟩
theorem Rs.runI_mem {code mem : List Int} {words steps : Int} {inp : List UInt8} (hw : words ≤ 1048576 ∨ 1048576 < words) : (Rs.runI code mem words inp steps).1.mem.length ≤ 1048576 := by
  by_cases hno : Rs.noImage code mem words steps
  · rw [Rs.runI_no hno]; simp [Rs.zero]
  · unfold Rs.noImage at hno
    rw [Rs.runI_yes (by omega) (by omega) (by omega) (by omega) (by omega), (Rs.go_facts _ _ _).2.2.2.1]
    simp [Rs.start]
    omega

set_option maxHeartbeats 8000000 in
set_option maxRecDepth 100000 in
theorem runs_small (ac am : Option Addr) (cc cm : Nat) (code mem : List Int) (words : Int) (inp : List UInt8) (steps s : Int) (w : World) (hc : Sl w (.slice ac code.length cc) (u32s code)) (hm : Sl w (.slice am mem.length cm) (i64s mem)) (hcr : ∀ x ∈ code, 0 ≤ x ∧ x < 4294967296) (hmr : ∀ x ∈ mem, Rs.InR x)
    (hsm : words ≤ 5000 ∨ (5000 < words ∧ 1048576 < words)) (hst : (2000 < steps ∧ s = 2000) ∨ (steps ≤ 2000 ∧ s = steps)) :
    Calls Try.prog 5 #[.agg #[.slice ac code.length cc, .slice am mem.length cm, .int .i64 words], .string ⟨inp.toArray⟩, .int .i64 steps] w fun e w' => e = .returned (.bool true) ∧ Below w.heap.size w w' := by
  have HC := Lib.hid hc
  have HM := Lib.hid hm
  have HCR := Lib.hid hcr
  have HMR := Lib.hid hmr
  clear hc hm hcr hmr
  obtain ⟨⟨m, st⟩, hr⟩ : ∃ r, Rs.runI code mem words inp s = r := ⟨_, rfl⟩
  have HML : Hid (m.mem.length ≤ 1048576) := by have := Rs.runI_mem (code := code) (mem := mem) (words := words) (steps := s) (inp := inp) (by omega); rw [hr] at this; exact this
  have HR := Lib.hid hr
  have HLE : Hid (s ≤ 1000000000000) := by unfold Hid; omega
  clear hr
  go_enter Try.func5, Try.ntmps5
  rcases hst with ⟨hs1, rfl⟩ | ⟨hs1, rfl⟩ <;> rcases hsm with h5 | ⟨h5, h6⟩
  all_goals
    go_wp2_with fail
    generalize hW : World.alloc w _ = W
    obtain ⟨b0, bb⟩ := one_made hW
    clear hW
    have x0 := cell_of_row W _ 0 _ _ _ b0
    have x1 := cell_of_row W _ 1 _ _ _ b0
    have x2 := cell_of_row W _ 2 _ _ _ b0
    simp only [List.getElem?_toArray, List.getElem?_cons_zero, List.getElem?_cons_succ] at x0 x1 x2
    have HS0 : Hid (DecS ⟨w.heap.size, 0, none⟩ ⟨w.heap.size, 1, none⟩ ⟨w.heap.size, 2, none⟩ (.slice ac code.length cc) (.slice am mem.length cm) (.int .i64 words) W.drew) := ⟨x0, x1, x2⟩
    have BB := Lib.hid bb
    clear b0 bb x0 x1 x2
    go_region_held3 (fun w' => w'.cell? ⟨w.heap.size, 0, none⟩ = some (.slice ac code.length cc) ∧ w'.cell? ⟨w.heap.size, 1, none⟩ = some (.slice am mem.length cm) ∧ w'.cell? ⟨w.heap.size, 2, none⟩ = some (.int .i64 words))
      (first | (with_reducible exact HS0.out) | (with_reducible exact HS1.out) | (with_reducible exact HS2.out) | (with_reducible exact HS3.out) | (with_reducible exact HS4.out))
      (first
        | (go_at_call 12; (with_reducible refine (fixed_any _).mono ?_); rintro e w1 ⟨rfl, hb1⟩; have HS1 := Lib.hid (HS0.out.below hb1); have B1 : Hid (Below w.heap.size w w1) := BB.out.trans (Below.mono (below_of_drew (n := 1) hb1) BB.out.size); clear hb1)
        | (go_at_call 14; (with_reducible refine (run_is _ _ code mem words inp _ _ (HC.out.below B1.out (Nat.le_refl _)) (HM.out.below B1.out (Nat.le_refl _)) HCR.out HMR.out HLE.out HR.out).mono ?_); rintro e w2 ⟨aa, ca, rfl, hsl2, hr2, hb2⟩; have HS2 := Lib.hid (HS1.out.below hb2); have B2 := Lib.hid (B1.out.trans (hb2.mono B1.out.size)); have SA := Lib.hid hsl2; have HRL := Lib.hid hr2; clear hb2 hsl2 hr2)
        | (go_at_call 15; (with_reducible refine (rrun_is _ _ code mem words inp _ _ (HC.out.below B2.out (Nat.le_refl _)) (HM.out.below B2.out (Nat.le_refl _)) HCR.out HMR.out HLE.out HR.out).mono ?_); rintro e w3 ⟨ab, cb, rfl, hsl3, hr3, hb3⟩; have HS3 := Lib.hid (HS2.out.below hb3); have B3 := Lib.hid (B2.out.trans (hb3.mono B2.out.size)); have SB := Lib.hid hsl3; have SA3 := Lib.hid (SA.out.below hb3 (Nat.le_refl _)); clear hb3 hsl3 hr3)
        | (go_at_call 13; (with_reducible refine (same_any st m _ _ _ HRL.out HML.out SA3.out SB.out).mono ?_); rintro e w4 ⟨rfl, hb4⟩; have HS4 := Lib.hid (HS3.out.below hb4); have B4 := Lib.hid (B3.out.trans (hb4.mono B3.out.size)); clear hb4))
    go_wp2_with fail
    go_ret
    exact ⟨rfl, B4.out⟩
set_option maxHeartbeats 4000000 in
theorem runs_walk (vc vm : Value) (code mem : List Int) (words : Int) (inp : List UInt8) (steps : Int) (w : World) (hc : Sl w vc (u32s code)) (hm : Sl w vm (i64s mem)) (hcr : ∀ x ∈ code, 0 ≤ x ∧ x < 4294967296) (hmr : ∀ x ∈ mem, Rs.InR x) :
    Calls Try.prog 5 #[.agg #[vc, vm, .int .i64 words], .string ⟨inp.toArray⟩, .int .i64 steps] w fun e w' => e = .returned (.bool true) ∧ Below w.heap.size w w' := by
  have hc' := hc
  have hm' := hm
  obtain ⟨ac, cc, rfl⟩ := hc'.len
  obtain ⟨am, cm, rfl⟩ := hm'.len
  have hl1 : (u32s code).length = code.length := by simp [u32s]
  have hl2 : (i64s mem).length = mem.length := by simp [i64s]
  rw [hl1] at hc ⊢
  rw [hl2] at hm ⊢
  clear hc' hm' hl1 hl2
  by_cases hbig : 5000 < words ∧ words ≤ 1048576
  · obtain ⟨a1, a2⟩ := hbig
    clear hc hm hcr hmr
    by_cases hs : 2000 < steps
    all_goals
      go_enter Try.func5, Try.ntmps5
      go_wp2_with fail
      with_reducible refine (fixed_any _).mono ?_
      rintro e w1 ⟨rfl, hb1⟩
      have B1 : Hid (Below w.heap.size w w1) := ((Below.refl _ _).alloc (Nat.le_refl _) _).trans (hb1.mono (by simp))
      clear hb1
      go_wp2_with fail
      go_ret
      exact ⟨rfl, B1.out⟩
  · exact runs_small ac am cc cm code mem words inp steps (if 2000 < steps then 2000 else steps) w hc hm hcr hmr (by omega) (by split <;> omega)
end Go.Proofs.Ytembhjfejhnpfaa
