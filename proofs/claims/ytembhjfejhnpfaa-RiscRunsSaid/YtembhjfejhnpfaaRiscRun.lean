/- Run's contract. -/
import Derived.Test.YtembhjfejhnpfaaRiscRunQ
import Derived.Test.YtembhjfejhnpfaaRiscStepE
import Derived.Deep.LoopGhost
import Derived.Deep.RegionHeld3
namespace Go.Proofs.Ytembhjfejhnpfaa
open Go.RowKit
set_option linter.unusedVariables false
set_option linter.unusedSimpArgs false
def u32s (code : List Int) : List Value := code.map (Value.int .u32)
def i64s (l : List Int) : List Value := l.map (Value.int .i64)
theorem u32_at {w : World} {b off : Nat} {code : List Int} (h : ∀ j, j < (u32s code).length → w.cell? ⟨b, off + j, none⟩ = some ((u32s code).getD j undef)) {j : Nat} (hj : j < code.length) :
    w.cell? ⟨b, off + j, none⟩ = some (.int .u32 (code.getD j 0)) := by
  rw [h j (by simpa [u32s] using hj)]
  congr 1
  simp [u32s, List.getD_eq_getElem?_getD, List.getElem?_map, List.getElem?_eq_getElem hj]

theorem getD_mem {l : List Int} {i : Nat} (h : i < l.length) : l.getD i 0 ∈ l := by
  rw [List.getD_eq_getElem?_getD, List.getElem?_eq_getElem h]
  exact List.getElem_mem h
theorem decode_yes (x : Int) (w : World) (h : 0 ≤ x ∧ x < 4294967296) (hd : Rs.decB x = true) : Calls Try.prog 10 #[.int .u32 x] w fun e w' =>
    e = .returned (.tuple #[.agg #[.int .i64 (Rs.fO x), .int .i64 (Rs.fA x), .int .i64 (Rs.fB (Rs.fO x) x), .int .i64 (Rs.fC (Rs.fO x) x), .int .i64 (Rs.fN (Rs.fO x) x)], .bool true]) ∧ Below w.heap.size w w' := by
  refine (decode_any x w h.1 h.2).mono ?_
  rintro e w' ⟨rfl, hb⟩
  rw [decV, if_pos hd, hd]
  exact ⟨rfl, hb⟩
theorem decode_no (x : Int) (w : World) (h : 0 ≤ x ∧ x < 4294967296) (hd : Rs.decB x = false) : Calls Try.prog 10 #[.int .u32 x] w fun e w' =>
    e = .returned (.tuple #[.agg #[.int .i64 0, .int .i64 0, .int .i64 0, .int .i64 0, .int .i64 0], .bool false]) ∧ Below w.heap.size w w' := by
  refine (decode_any x w h.1 h.2).mono ?_
  rintro e w' ⟨rfl, hb⟩
  rw [decV, if_neg (by rw [hd]; decide), hd]
  exact ⟨rfl, hb⟩
theorem step_agg (B : Bd) (g : Nat) (st : Int) (m : Rs.M) (mv ov : Value) (x : Int) (w : World) (h : MSt B w g 62 st m mv ov) (hx : Rs.decB x = true) (hp1 : 0 ≤ m.pc) (hp2 : m.pc ≤ 1048576) (hs1 : 0 ≤ m.steps) (hs2 : m.steps ≤ 1000000000000) (ho : m.out.length ≤ 1000000000000) :
    Calls Try.prog 26 #[.pointer (some ⟨g, 0, none⟩), .agg #[.int .i64 (Rs.fO x), .int .i64 (Rs.fA x), .int .i64 (Rs.fB (Rs.fO x) x), .int .i64 (Rs.fC (Rs.fO x) x), .int .i64 (Rs.fN (Rs.fO x) x)]] w (StepPost B g 62 st (Rs.execW x m) w) :=
  step_any B g st m mv ov x w h hx hp1 hp2 hs1 hs2 ho
theorem inv_next {code : List Int} {lim x : Int} {m : Rs.M} (h : Rs.Inv code lim m) (hl : m.steps < lim) (hp : 0 ≤ m.pc ∧ m.pc ≤ 1048576) (hx : Rs.decB x = true) (h6 : (Rs.execW x m).2 = 6) : Rs.Inv code lim (Rs.execW x m).1 := by
  have hn := n_not_bad (decB_not_bad hx)
  obtain ⟨s1, s2⟩ := Rs.exec_steps h6
  refine ⟨Rs.exec_ok h.ok hp (by unfold Rs.InR; omega), ?_, ?_, ?_⟩
  · show 0 ≤ (Rs.exec _ _ _ _ _ m).1.steps
    rw [s1]; have := h.s0; omega
  · show (Rs.exec _ _ _ _ _ m).1.steps ≤ lim
    rw [s1]; omega
  · show ((Rs.exec _ _ _ _ _ m).1.out.length : Int) ≤ (Rs.exec _ _ _ _ _ m).1.steps
    rw [s1]; have := h.out; omega

set_option maxHeartbeats 8000000 in
set_option maxRecDepth 100000 in
theorem run_yes (vc vm : Value) (code mem : List Int) (words : Int) (inp : List UInt8) (steps : Int) (w : World) (hc : Sl w vc (u32s code)) (hm : Sl w vm (i64s mem)) (hcr : ∀ x ∈ code, 0 ≤ x ∧ x < 4294967296) (hmr : ∀ x ∈ mem, Rs.InR x) (hs : steps ≤ 1000000000000) (hno : ¬ Rs.noImage code mem words steps) :
    Calls Try.prog 14 #[.agg #[vc, vm, .int .i64 words], .string ⟨inp.toArray⟩, .int .i64 steps] w (RunYes (Rs.run code mem words inp steps) w) := by
  obtain ⟨ac, cc, rfl⟩ := hc.len
  obtain ⟨am, cm, rfl⟩ := hm.len
  have HC := Lib.hid hc
  have HM := Lib.hid hm
  have hl1 : (u32s code).length = code.length := by simp [u32s]
  have hl2 : (i64s mem).length = mem.length := by simp [i64s]
  rw [hl1, hl2]
  rw [hl1] at HC
  rw [hl2] at HM
  clear hc hm hl1 hl2
  unfold Rs.noImage at hno
  simp only [not_or, Int.not_lt] at hno
  obtain ⟨h1, h2, h3, h4, h5⟩ := hno
  obtain ⟨q, rfl⟩ : ∃ q : Nat, words = q := ⟨words.toNat, by omega⟩
  obtain ⟨R, hR⟩ : ∃ R, Hid (Rs.run code mem q inp steps = R) := ⟨_, rfl⟩
  rw [hR.out]
  have HOK := Lib.hid (Rs.start_ok (inp := inp) hmr h1 h2 h4)
  have HMR := Lib.hid hmr
  have HCR := Lib.hid hcr
  clear hmr hcr
  obtain ⟨i0, hi, hz0, hz1, hz2⟩ := info_parts infoI
  have HI := Lib.hid hi
  have HZ0 := Lib.hid hz0
  have HZ1 := Lib.hid hz1
  have HZ2 := Lib.hid hz2
  clear hi hz0 hz1 hz2
  go_enter Try.func14, Try.ntmps14
  go_wp2_with fail
  have HMC : Hid (∀ u ∈ i64s mem, u.oneCell' = true) := by intro u hu; obtain ⟨z, _, rfl⟩ := List.mem_map.1 hu; rfl
  have HML : Hid ((i64s mem).length ≤ 1000000000000) := by unfold Hid; simp [i64s]; omega
  generalize hW : World.alloc (World.alloc (World.alloc w _) _) _ = W
  obtain ⟨b0, b1, b2, bs, bb⟩ := three_made w _ _ _ _ _ _ hW
  clear hW
  have x0 := cell_of_row W _ 0 _ _ _ b0
  have x1 := cell_of_row W _ 1 _ _ _ b0
  have x2 := cell_of_row W _ 2 _ _ _ b0
  have x37 := cell_of_row W _ 37 _ _ _ b2
  have y37 := frozen_of_row W _ 37 _ _ b2
  simp only [List.getElem?_toArray, List.getElem?_cons_zero, List.getElem?_cons_succ] at x0 x1 x2 x37
  have B0 := Lib.hid b0
  have B1 := Lib.hid b1
  have B2 := Lib.hid b2
  have BB := Lib.hid bb
  have HM2 := Lib.hid (HM.out.below bb (Nat.le_refl _))
  have HC2 := Lib.hid (HC.out.below bb (Nat.le_refl _))
  have HS0 : Hid (RunS w.heap.size (.slice ac code.length cc) (.slice am mem.length cm) (.int .i64 q) W) := ⟨x0, x1, x2, cellOr_of x37, y37⟩
  clear b0 b1 b2 bb
  have HK4 : Hid (mem.length + (q - mem.length) = q) := by unfold Hid; omega
  go_region_held3 (fun w' => w'.cell? ⟨w.heap.size, 0, none⟩ = some (.slice ac code.length cc) ∧ w'.cell? ⟨w.heap.size, 1, none⟩ = some (.slice am mem.length cm) ∧ w'.cell? ⟨w.heap.size, 2, none⟩ = some (.int .i64 q) ∧ w'.cell? ⟨w.heap.size + 1 + 1, 37, none⟩ = some (cellOr w' ⟨w.heap.size + 1 + 1, 37, none⟩) ∧ w'.frozen? ⟨w.heap.size + 1 + 1, 37, none⟩ = false)
    (first | exact HS0.out | exact HS3.out | exact HS4.out | exact HS4.out.set)
    (first
      | (go_at_call 25; (with_reducible refine (clone_any _ (i64s mem) W.drew HM2.out.drew HMC.out HML.out).mono ?_); rintro e w3 ⟨v3, rfl, hown3, hb3⟩; have HB3 := Lib.hid hb3; have HOWN3 : Hid (w3.ownsRow W.heap.size 3 1 v3 mem.length (i64s mem)) := (by have h := hown3; rw [show (i64s mem).length = mem.length by simp [i64s]] at h; exact h); have HS3 : Hid (RunS w.heap.size (.slice ac code.length cc) (.slice am mem.length cm) (.int .i64 q) w3) := RunS.of HS0.out (fun k hk => hb3.block k (by show k < W.heap.size; omega)); clear hown3 hb3)
      | (refine step_append_zeros _ rfl (.tmp 43) (.tmp 49) 33 3 rfl W.heap.size 3 i0 (.int .i64 0) 8 .i64 .i64 Try.underlying33 Try.underlying3 HI.out HZ0.out HZ1.out HZ2.out rfl rfl v3 mem.length (i64s mem) (by simp [Act.eval]) HOWN3.out (q - mem.length) ?ax ?ay ?az ?ab ?_; (case ax => (simp [Act.eval, IntKind.wrap_i64]; omega)); (case ay => (simp only [maxLen]; omega)); (case az => omega); (case ab => exact HB3.out.size); intro v4 w4 hown4 hgr hob; rw [HK4.out] at hown4; obtain ⟨a4, c4, rfl⟩ := own_sl hown4; have HOWN4 := Lib.hid hown4; have HGR := Lib.hid hgr; have HS4 : Hid (RunS w.heap.size (.slice ac code.length cc) (.slice am mem.length cm) (.int .i64 q) w4) := RunS.of HS3.out (fun k hk => hgr.block k (by have := HB3.out.size; have e : W.drew.heap.size = W.heap.size := rfl; omega) (fun e => by have := (HOWN3.out.lt k e.symm).1; omega)); clear hown4 hgr hob))
  obtain ⟨hM, hB5⟩ := run_made (m0 := { Rs.start mem q inp with mem := mem }) (m1 := Rs.start mem q inp) (k := q) B2.out (by omega) HB3.out HOWN3.out HGR.out (by have h := HOWN4.out; unfold i64s at h; rw [run_zeros (inp := inp) (by omega)] at h; exact h) (by have h := HK4.out; simp [Rs.start]; omega) HOK.out rfl rfl
  generalize hW5 : World.setCell w4 ⟨w.heap.size + 1 + 1, 37, none⟩ _ = W5 at hM hB5 ⊢
  clear hW5 HB3 HOWN3 HGR HOWN4 HS0 HS3 HS4 HM2 x0 x1 x2 x37 y37
  have HM5 := Lib.hid hM
  have HB5 := Lib.hid hB5
  have c0 := hM.c0
  have f0 := hM.fz 0
  clear hM hB5
  have HD := haltD
  have HSZ : Hid ((Try.prog.info? 39).map (·.size) = some 38) := by unfold Hid; kernel_rfl
  go_wp2_with fail
  go_loopg [] (steps.toNat + 1) (fun gk wx => ∃ st m mv ov, RunRel W code steps R (w.heap.size + 1 + 1) 62 gk st m mv ov wx)
  case atStart => exact ⟨6, _, _, _, HM5.out.setSt 6, HB5.out.setCell (Nat.le_refl _) _, .inl ⟨rfl, ⟨HOK.out, by simp [Rs.start], by simpa [Rs.start] using h5, by simp [Rs.start]⟩, by simpa [Rs.start, Rs.run] using hR.out, by simp [Rs.start]⟩⟩
  case round =>
    clear c0 f0 HM5 HB5 HM
    obtain ⟨st, m, mv, ov, hrel⟩ := hrel
    obtain ⟨hM, hB, hway⟩ := hrel
    have HM := Lib.hid hM
    have HB := Lib.hid hB
    have c0 := hM.c0
    have f0 := hM.fz 0
    have c3 := hM.c3
    have c4 := hM.c4
    have x0 : wr.cell? ⟨w.heap.size, 0, none⟩ = some (.slice ac code.length cc) := (hB.cell (p := ⟨w.heap.size, 0, none⟩) (by show w.heap.size < w.heap.size + 1 + 1; omega)).trans (cell_of_row W _ 0 _ _ _ B0.out)
    clear hM hB
    by_cases hend : st ≠ 6 ∨ steps ≤ m.steps
    · have HV := HM
      have HBV := HB
      have HRV : Hid (R = (m, st)) := by
        rcases hway with ⟨h6, hinv, hgo, -⟩ | ⟨h6, hr, -⟩
        · have h0 : (steps - m.steps).toNat = 0 := by omega
          rw [h0] at hgo
          rw [h6]
          exact hgo.symm
        · exact hr
      clear hway
      by_cases hst : st = 6
      · subst hst
        have hlt : ¬ m.steps < steps := by omega
        have HSO := Lib.hid (string_of_own HV.out.out)
        have hcv := HSO.out
        have q39 := HV.out.c39
        have q2 := HV.out.c2
        have f2 := HV.out.fz 2
        have hln : (Rs.halt 6 m mv).length = 38 := halt_len HV.out.ok
        have hst := store_all (P := Try.prog) _ (w.heap.size + 1) _ _ (Rs.halt 6 m mv) (run_res (u := 2) (x := .string ⟨m.out.toArray⟩) (g := w.heap.size + 1 + 1) B1.out HBV.out (by omega) (by omega)) (by rw [halt_len HV.out.ok]; rfl) (halt_one' (own_one HV.out.mem))
        go_wp2_with (first | (refine wpList_load_mid rfl 39 (.tmp 131) rfl (w.heap.size + 1 + 1) 0 rfl (Rs.halt 6 m mv) HD.choose ?lda4 ?ldb4 ?ldc4 ?ldd4 ?_; (case lda4 => exact halt_range HV.out); (case ldb4 => exact HD.choose_spec.1); (case ldc4 => exact HD.choose_spec.2); (case ldd4 => (rw [halt_len HV.out.ok]; exact HSZ.out))))
        refine bodyPost_ret (v := .agg (Rs.halt 6 m mv).toArray) (results_cell rfl _ _ (w.heap.size + 1) 39 _ (0, 0) HD.choose rfl ?rsa4 HD.choose_spec.1 HD.choose_spec.2 ?rsb4) rfl ?_
        case rsa4 => exact setRow_heap _ _ _ _ _ _ (run_res B1.out HBV.out (by omega) (by omega))
        case rsb4 => (simp only [List.size_toArray]; rw [halt_len HV.out.ok]; exact HSZ.out)
        rw [HRV.out]
        exact run_end HV.out BB.out HBV.out
      · have hst6 : (st == 6) = false := by rw [beq_eq_false_iff_ne]; exact hst
        have HSO := Lib.hid (string_of_own HV.out.out)
        have hcv := HSO.out
        have q39 := HV.out.c39
        have q2 := HV.out.c2
        have f2 := HV.out.fz 2
        have hln : (Rs.halt st m mv).length = 38 := halt_len HV.out.ok
        have hst := store_all (P := Try.prog) _ (w.heap.size + 1) _ _ (Rs.halt st m mv) (run_res (u := 2) (x := .string ⟨m.out.toArray⟩) (g := w.heap.size + 1 + 1) B1.out HBV.out (by omega) (by omega)) (by rw [halt_len HV.out.ok]; rfl) (halt_one' (own_one HV.out.mem))
        go_wp2_with (first | (refine wpList_load_mid rfl 39 (.tmp 131) rfl (w.heap.size + 1 + 1) 0 rfl (Rs.halt st m mv) HD.choose ?lda3 ?ldb3 ?ldc3 ?ldd3 ?_; (case lda3 => exact halt_range HV.out); (case ldb3 => exact HD.choose_spec.1); (case ldc3 => exact HD.choose_spec.2); (case ldd3 => (rw [halt_len HV.out.ok]; exact HSZ.out))))
        refine bodyPost_ret (v := .agg (Rs.halt st m mv).toArray) (results_cell rfl _ _ (w.heap.size + 1) 39 _ (0, 0) HD.choose rfl ?rsa3 HD.choose_spec.1 HD.choose_spec.2 ?rsb3) rfl ?_
        case rsa3 => exact setRow_heap _ _ _ _ _ _ (run_res B1.out HBV.out (by omega) (by omega))
        case rsb3 => (simp only [List.size_toArray]; rw [halt_len HV.out.ok]; exact HSZ.out)
        rw [HRV.out]
        exact run_end HV.out BB.out HBV.out
    · obtain ⟨rfl, hlt⟩ : st = 6 ∧ m.steps < steps := by omega
      obtain ⟨hinv, hgo, hgk⟩ : Rs.Inv code steps m ∧ Rs.go code (steps - m.steps).toNat m = R ∧ gk = (steps - m.steps).toNat + 1 := by
        rcases hway with ⟨_, a, b, c⟩ | ⟨h, _⟩
        · exact ⟨a, b, c⟩
        · exact absurd rfl h
      clear hway hend
      have HINV := Lib.hid hinv
      have HGO := Lib.hid hgo
      have HGK := Lib.hid hgk
      clear hinv hgo hgk
      have hfuel : Hid ((steps - m.steps).toNat = (steps - m.steps - 1).toNat + 1) := by unfold Hid; omega
      by_cases hpc : m.pc < 0 ∨ (code.length : Int) ≤ m.pc
      · have HRV : Hid (R = (m, 3)) := by
          have h := HGO.out
          rw [hfuel.out] at h
          rw [Rs.go, if_pos hpc] at h
          exact h.symm
        have h01 : m.pc < 0 ∨ (0 ≤ m.pc ∧ (code.length : Int) ≤ m.pc) := by omega
        clear hpc
        rcases h01 with h01 | ⟨h01, h02⟩
        · go_wp2_with fail
          go_quiet (fail)
          have HV := Lib.hid ((HM.out.drewN nq).setSt 3)
          have HBV := Lib.hid ((below_drewN HB.out nq).setCell (p := ⟨w.heap.size + 1 + 1, 0, none⟩) (Nat.le_refl _) (.int .i64 3))
          have e39 := HM.out.c39
          have e2 := HM.out.c2
          have g2 := HM.out.fz 2
          have HSO := Lib.hid (string_of_own HV.out.out)
          have hcv := HSO.out
          have q39 := HV.out.c39
          have q2 := HV.out.c2
          have f2 := HV.out.fz 2
          have hln : (Rs.halt 3 m mv).length = 38 := halt_len HV.out.ok
          have hst := store_all (P := Try.prog) _ (w.heap.size + 1) _ _ (Rs.halt 3 m mv) (run_res (u := 2) (x := .string ⟨m.out.toArray⟩) (g := w.heap.size + 1 + 1) B1.out HBV.out (by omega) (by omega)) (by rw [halt_len HV.out.ok]; rfl) (halt_one' (own_one HV.out.mem))
          go_wp2_with (first | (refine wpList_load_mid rfl 39 (.tmp 131) rfl (w.heap.size + 1 + 1) 0 rfl (Rs.halt 3 m mv) HD.choose ?lda6 ?ldb6 ?ldc6 ?ldd6 ?_; (case lda6 => exact halt_range HV.out); (case ldb6 => exact HD.choose_spec.1); (case ldc6 => exact HD.choose_spec.2); (case ldd6 => (rw [halt_len HV.out.ok]; exact HSZ.out))))
          refine bodyPost_ret (v := .agg (Rs.halt 3 m mv).toArray) (results_cell rfl _ _ (w.heap.size + 1) 39 _ (0, 0) HD.choose rfl ?rsa6 HD.choose_spec.1 HD.choose_spec.2 ?rsb6) rfl ?_
          case rsa6 => exact setRow_heap _ _ _ _ _ _ (run_res B1.out HBV.out (by omega) (by omega))
          case rsb6 => (simp only [List.size_toArray]; rw [halt_len HV.out.ok]; exact HSZ.out)
          rw [HRV.out]
          exact run_end HV.out BB.out HBV.out
        · go_wp2_with fail
          go_quiet (fail)
          have HV := Lib.hid ((HM.out.drewN nq).setSt 3)
          have HBV := Lib.hid ((below_drewN HB.out nq).setCell (p := ⟨w.heap.size + 1 + 1, 0, none⟩) (Nat.le_refl _) (.int .i64 3))
          have e39 := HM.out.c39
          have e2 := HM.out.c2
          have g2 := HM.out.fz 2
          have HSO := Lib.hid (string_of_own HV.out.out)
          have hcv := HSO.out
          have q39 := HV.out.c39
          have q2 := HV.out.c2
          have f2 := HV.out.fz 2
          have hln : (Rs.halt 3 m mv).length = 38 := halt_len HV.out.ok
          have hst := store_all (P := Try.prog) _ (w.heap.size + 1) _ _ (Rs.halt 3 m mv) (run_res (u := 2) (x := .string ⟨m.out.toArray⟩) (g := w.heap.size + 1 + 1) B1.out HBV.out (by omega) (by omega)) (by rw [halt_len HV.out.ok]; rfl) (halt_one' (own_one HV.out.mem))
          go_wp2_with (first | (refine wpList_load_mid rfl 39 (.tmp 131) rfl (w.heap.size + 1 + 1) 0 rfl (Rs.halt 3 m mv) HD.choose ?lda5 ?ldb5 ?ldc5 ?ldd5 ?_; (case lda5 => exact halt_range HV.out); (case ldb5 => exact HD.choose_spec.1); (case ldc5 => exact HD.choose_spec.2); (case ldd5 => (rw [halt_len HV.out.ok]; exact HSZ.out))))
          refine bodyPost_ret (v := .agg (Rs.halt 3 m mv).toArray) (results_cell rfl _ _ (w.heap.size + 1) 39 _ (0, 0) HD.choose rfl ?rsa5 HD.choose_spec.1 HD.choose_spec.2 ?rsb5) rfl ?_
          case rsa5 => exact setRow_heap _ _ _ _ _ _ (run_res B1.out HBV.out (by omega) (by omega))
          case rsb5 => (simp only [List.size_toArray]; rw [halt_len HV.out.ok]; exact HSZ.out)
          rw [HRV.out]
          exact run_end HV.out BB.out HBV.out
      · have hp0 : 0 ≤ m.pc := by omega
        obtain ⟨p, hpp⟩ : ∃ p : Nat, m.pc = p := ⟨m.pc.toNat, by omega⟩
        have hpl : p < code.length := by omega
        rw [hpp] at c4
        have hlc : (u32s code).length = code.length := by simp [u32s]
        have hne : u32s code ≠ [] := by intro h; have h2 : (u32s code).length = 0 := (by rw [h]; rfl); omega
        obtain ⟨b, off, hac, hbl, hcells⟩ := Sl.at (by have h := HC.out; rw [← hlc] at h; exact h) hne
        subst hac
        have xc0 := u32_at hcells hpl
        have xc : wr.cell? ⟨b, off + p, none⟩ = some (.int .u32 (code.getD p 0)) := ((BB.out.trans (HB.out.mono (by omega))).cell (p := ⟨b, off + p, none⟩) hbl).trans xc0
        obtain ⟨x, hx⟩ : ∃ x, Hid (code.getD p 0 = x) := ⟨_, rfl⟩
        rw [hx.out] at xc
        have hxm : Hid (0 ≤ x ∧ x < 4294967296) := by rw [← hx.out]; exact HCR.out _ (getD_mem hpl)
        have HC3 : Hid (∀ j, j < code.length → w.cell? ⟨b, off + j, none⟩ = some (.int .u32 (code.getD j 0))) := fun j hj => u32_at hcells hj
        have hbW : Hid (b < wr.heap.size) := World.block_lt_of_cell? wr _ xc
        clear xc0 hcells hne hlc hpc HC hbl
        have hg1 : ¬ ((p : Int) < 0) := by omega
        have hg2 : ¬ ((code.length : Int) ≤ p) := by omega
        have hg3 : (0 : Int) ≤ p := by omega
        have hg4 : (p : Int) < code.length := by omega
        have HPP := Lib.hid hpp
        have HX := hx
        clear hpp hp0
        by_cases hd : Rs.decB x = true
        · have HDB := Lib.hid hd
          clear hd
          go_wp2_with fail
          go_quiet (fail)
          go_wp2_with fail
          have hszr : w.heap.size + 1 + 1 ≤ wr.heap.size := by have := HB.out.size; omega
          have HDS : Hid (DecS ⟨w.heap.size, 0, none⟩ ⟨w.heap.size + 1 + 1, 4, none⟩ ⟨b, off + p, none⟩ (.slice (some ⟨b, off, none⟩) code.length cc) (.int .i64 p) (.int .u32 x) wr) := ⟨x0, c4, xc⟩
          have HD1 : Hid (DecS ⟨w.heap.size, 0, none⟩ ⟨w.heap.size + 1 + 1, 4, none⟩ ⟨b, off + p, none⟩ (.slice (some ⟨b, off, none⟩) code.length cc) (.int .i64 p) (.int .u32 x) (wr.drewN nq).drew) := HDS.out
          have HDD : Hid (DecS ⟨w.heap.size, 0, none⟩ ⟨w.heap.size + 1 + 1, 4, none⟩ ⟨b, off + p, none⟩ (.slice (some ⟨b, off, none⟩) code.length cc) (.int .i64 p) (.int .u32 x) (wr.drewN (nq + 1))) := HDS.out
          go_region_held3 (fun w' => w'.cell? ⟨w.heap.size, 0, none⟩ = some (.slice (some ⟨b, off, none⟩) code.length cc) ∧ w'.cell? ⟨w.heap.size + 1 + 1, 4, none⟩ = some (.int .i64 p) ∧ w'.cell? ⟨b, off + p, none⟩ = some (.int .u32 x))
            (first | (with_reducible exact HD1.out) | (with_reducible exact HD3.out) | (with_reducible exact HD3.out.alloc _) | (with_reducible exact (HDD.out.alloc _)) | (with_reducible exact HDD.out) | (with_reducible exact DecS.below HDS.out (below_five HB4.out)))
            (first
              | (go_at_call 10; (with_reducible refine (decode_yes x _ hxm.out HDB.out).mono ?_); rintro e w3 ⟨rfl, hb3⟩; have hb4 := below_of_drew hb3; have HD3 : Hid (DecS ⟨w.heap.size, 0, none⟩ ⟨w.heap.size + 1 + 1, 4, none⟩ ⟨b, off + p, none⟩ (.slice (some ⟨b, off, none⟩) code.length cc) (.int .i64 p) (.int .u32 x) w3) := DecS.below HDS.out hb4; have HM3 := Lib.hid (MSt.below HM.out hb4 (Nat.le_refl _)); have HB3 := Lib.hid (HB.out.trans (hb4.mono (show w.heap.size + 1 + 1 ≤ wr.heap.size by have := HB.out.size; omega))); have HB4 := Lib.hid hb4; clear hb3 hb4)
              | (go_at_call 10; (with_reducible refine (decode_yes x _ hxm.out HDB.out).mono ?_); rintro e w3 ⟨rfl, hb3⟩; have h5 := five_kept hb3; have hb4 := below_of_alloc hb3; have HD3 : Hid (DecS ⟨w.heap.size, 0, none⟩ ⟨w.heap.size + 1 + 1, 4, none⟩ ⟨b, off + p, none⟩ (.slice (some ⟨b, off, none⟩) code.length cc) (.int .i64 p) (.int .u32 x) w3) := DecS.below HDS.out hb4; have HM3 := Lib.hid (MSt.below HM.out hb4 (Nat.le_refl _)); have HB3 := Lib.hid (HB.out.trans (hb4.mono (show w.heap.size + 1 + 1 ≤ wr.heap.size by have := HB.out.size; omega))); have k0 := cell_of_row w3 wr.heap.size 0 _ _ _ h5; have k1 := cell_of_row w3 wr.heap.size 1 _ _ _ h5; have k2 := cell_of_row w3 wr.heap.size 2 _ _ _ h5; have k3 := cell_of_row w3 wr.heap.size 3 _ _ _ h5; have k4 := cell_of_row w3 wr.heap.size 4 _ _ _ h5; have l0 := frozen_of_row w3 wr.heap.size 0 _ _ h5; have l1 := frozen_of_row w3 wr.heap.size 1 _ _ h5; have l2 := frozen_of_row w3 wr.heap.size 2 _ _ h5; have l3 := frozen_of_row w3 wr.heap.size 3 _ _ h5; have l4 := frozen_of_row w3 wr.heap.size 4 _ _ h5; simp only [List.getElem?_toArray, List.getElem?_cons_zero, List.getElem?_cons_succ] at k0 k1 k2 k3 k4; have H5 := Lib.hid h5; have HB4 := Lib.hid hb4; clear h5 hb3 hb4))
          all_goals
            have hp1 : 0 ≤ m.pc := by rw [HPP.out]; omega
            have hp2 : m.pc ≤ 1048576 := by rw [HPP.out]; omega
            have hs1 := HINV.out.s0
            have hs2 : m.steps ≤ 1000000000000 := by omega
            have ho1 : m.out.length ≤ 1000000000000 := by have := HINV.out.out; omega
            have HSX : Hid (0 ≤ m.pc ∧ m.pc ≤ 1048576 ∧ 0 ≤ m.steps ∧ m.steps ≤ 1000000000000 ∧ m.out.length ≤ 1000000000000) := ⟨hp1, hp2, hs1, hs2, ho1⟩
            clear hp1 hp2 hs1 hs2 ho1
          · have HM9 := Lib.hid (MSt.below HM.out (HB4.out.alloc (HB4.out.size) (.cells #[.int .i64 (Rs.fO x), .int .i64 (Rs.fA x), .int .i64 (Rs.fB (Rs.fO x) x), .int .i64 (Rs.fC (Rs.fO x) x), .int .i64 (Rs.fN (Rs.fO x) x)] 23)) (Nat.le_refl _))
            have HB9 := Lib.hid (HB.out.trans ((HB4.out.alloc (HB4.out.size) (.cells #[.int .i64 (Rs.fO x), .int .i64 (Rs.fA x), .int .i64 (Rs.fB (Rs.fO x) x), .int .i64 (Rs.fC (Rs.fO x) x), .int .i64 (Rs.fN (Rs.fO x) x)] 23)).mono hszr))
            go_wp2_with (first | (go_at_call 26; (with_reducible refine (step_agg ⟨w.heap.size + 1 + 1, []⟩ (w.heap.size + 1 + 1) 6 m mv ov x _ HM9.out HDB.out HSX.out.1 HSX.out.2.1 HSX.out.2.2.1 HSX.out.2.2.2.1 HSX.out.2.2.2.2).mono ?_); rintro e w5 ⟨rfl, ⟨mv5, ov5, hM5⟩, hb5, hz5⟩; have c5 := hM5.c0; have f5 := hM5.fz 0; have HM5 := Lib.hid hM5; have HB5 := Lib.hid (HB9.out.trans hb5); clear hM5 hb5 hz5))
            have hgo := HGO.out
            rw [hfuel.out, Rs.go, if_neg (by rw [HPP.out]; omega), show code.getD m.pc.toNat 0 = x by rw [HPP.out]; exact HX.out, if_neg (by rw [HDB.out]; decide)] at hgo
            by_cases h6 : (Rs.execW x m).2 = 6
            · rw [if_pos h6] at hgo
              have hinv := inv_next HINV.out hlt ⟨HSX.out.1, HSX.out.2.1⟩ HDB.out h6
              have hst := (Rs.exec_steps h6).1
              have hst' : (Rs.execW x m).1.steps = m.steps + 1 := hst
              have hgk := HGK.out
              go_roundg ((steps - m.steps - 1).toNat + 1)
              case measure => omega
              case rel =>
                refine ⟨6, _, mv5, ov5, ⟨?_, HB5.out.setCell (Nat.le_refl _) _, .inl ⟨rfl, hinv, ?_, ?_⟩⟩⟩
                · have := HM5.out.setSt (Rs.execW x m).2
                  rw [h6] at this ⊢
                  exact this
                · rw [hst', show steps - (m.steps + 1) = steps - m.steps - 1 by omega]; exact hgo
                · rw [hst', show steps - (m.steps + 1) = steps - m.steps - 1 by omega]
            · rw [if_neg h6] at hgo
              have hgk := HGK.out
              go_roundg 0
              case measure => omega
              case rel => exact ⟨(Rs.execW x m).2, _, mv5, ov5, ⟨HM5.out.setSt _, HB5.out.setCell (Nat.le_refl _) _, .inr ⟨h6, hgo.symm, rfl⟩⟩⟩
          · have HM9 := Lib.hid (MSt.below HM.out (below_five (u0 := .int .i64 (Rs.fO x)) (u1 := .int .i64 (Rs.fA x)) (u2 := .int .i64 (Rs.fB (Rs.fO x) x)) (u3 := .int .i64 (Rs.fC (Rs.fO x) x)) (u4 := .int .i64 (Rs.fN (Rs.fO x) x)) HB4.out) (Nat.le_refl _))
            have HB9 := Lib.hid (HB.out.trans ((below_five (u0 := .int .i64 (Rs.fO x)) (u1 := .int .i64 (Rs.fA x)) (u2 := .int .i64 (Rs.fB (Rs.fO x) x)) (u3 := .int .i64 (Rs.fC (Rs.fO x) x)) (u4 := .int .i64 (Rs.fN (Rs.fO x) x)) HB4.out).mono hszr))
            go_wp2_with (first | (go_at_call 26; (with_reducible refine (step_agg ⟨w.heap.size + 1 + 1, []⟩ (w.heap.size + 1 + 1) 6 m mv ov x _ HM9.out HDB.out HSX.out.1 HSX.out.2.1 HSX.out.2.2.1 HSX.out.2.2.2.1 HSX.out.2.2.2.2).mono ?_); rintro e w5 ⟨rfl, ⟨mv5, ov5, hM5⟩, hb5, hz5⟩; have c5 := hM5.c0; have f5 := hM5.fz 0; have HM5 := Lib.hid hM5; have HB5 := Lib.hid (HB9.out.trans hb5); clear hM5 hb5 hz5))
            have hgo := HGO.out
            rw [hfuel.out, Rs.go, if_neg (by rw [HPP.out]; omega), show code.getD m.pc.toNat 0 = x by rw [HPP.out]; exact HX.out, if_neg (by rw [HDB.out]; decide)] at hgo
            by_cases h6 : (Rs.execW x m).2 = 6
            · rw [if_pos h6] at hgo
              have hinv := inv_next HINV.out hlt ⟨HSX.out.1, HSX.out.2.1⟩ HDB.out h6
              have hst := (Rs.exec_steps h6).1
              have hst' : (Rs.execW x m).1.steps = m.steps + 1 := hst
              have hgk := HGK.out
              go_roundg ((steps - m.steps - 1).toNat + 1)
              case measure => omega
              case rel =>
                refine ⟨6, _, mv5, ov5, ⟨?_, HB5.out.setCell (Nat.le_refl _) _, .inl ⟨rfl, hinv, ?_, ?_⟩⟩⟩
                · have := HM5.out.setSt (Rs.execW x m).2
                  rw [h6] at this ⊢
                  exact this
                · rw [hst', show steps - (m.steps + 1) = steps - m.steps - 1 by omega]; exact hgo
                · rw [hst', show steps - (m.steps + 1) = steps - m.steps - 1 by omega]
            · rw [if_neg h6] at hgo
              have hgk := HGK.out
              go_roundg 0
              case measure => omega
              case rel => exact ⟨(Rs.execW x m).2, _, mv5, ov5, ⟨HM5.out.setSt _, HB5.out.setCell (Nat.le_refl _) _, .inr ⟨h6, hgo.symm, rfl⟩⟩⟩
        · have HDB : Hid (Rs.decB x = false) := by revert hd; cases Rs.decB x <;> simp [Hid]
          clear hd
          go_wp2_with fail
          go_quiet (fail)
          go_wp2_with fail
          have hszr : w.heap.size + 1 + 1 ≤ wr.heap.size := by have := HB.out.size; omega
          have HDS : Hid (DecS ⟨w.heap.size, 0, none⟩ ⟨w.heap.size + 1 + 1, 4, none⟩ ⟨b, off + p, none⟩ (.slice (some ⟨b, off, none⟩) code.length cc) (.int .i64 p) (.int .u32 x) wr) := ⟨x0, c4, xc⟩
          have HD1 : Hid (DecS ⟨w.heap.size, 0, none⟩ ⟨w.heap.size + 1 + 1, 4, none⟩ ⟨b, off + p, none⟩ (.slice (some ⟨b, off, none⟩) code.length cc) (.int .i64 p) (.int .u32 x) (wr.drewN nq).drew) := HDS.out
          have HDD : Hid (DecS ⟨w.heap.size, 0, none⟩ ⟨w.heap.size + 1 + 1, 4, none⟩ ⟨b, off + p, none⟩ (.slice (some ⟨b, off, none⟩) code.length cc) (.int .i64 p) (.int .u32 x) (wr.drewN (nq + 1))) := HDS.out
          go_region_held3 (fun w' => w'.cell? ⟨w.heap.size, 0, none⟩ = some (.slice (some ⟨b, off, none⟩) code.length cc) ∧ w'.cell? ⟨w.heap.size + 1 + 1, 4, none⟩ = some (.int .i64 p) ∧ w'.cell? ⟨b, off + p, none⟩ = some (.int .u32 x))
            (first | (with_reducible exact HD1.out) | (with_reducible exact HD3.out) | (with_reducible exact HD3.out.alloc _) | (with_reducible exact (HDD.out.alloc _)) | (with_reducible exact HDD.out) | (with_reducible exact DecS.below HDS.out (below_five HB4.out)))
            (first
              | (go_at_call 10; (with_reducible refine (decode_no x _ hxm.out HDB.out).mono ?_); rintro e w3 ⟨rfl, hb3⟩; have hb4 := below_of_drew hb3; have HD3 : Hid (DecS ⟨w.heap.size, 0, none⟩ ⟨w.heap.size + 1 + 1, 4, none⟩ ⟨b, off + p, none⟩ (.slice (some ⟨b, off, none⟩) code.length cc) (.int .i64 p) (.int .u32 x) w3) := DecS.below HDS.out hb4; have HM3 := Lib.hid (MSt.below HM.out hb4 (Nat.le_refl _)); have HB3 := Lib.hid (HB.out.trans (hb4.mono (show w.heap.size + 1 + 1 ≤ wr.heap.size by have := HB.out.size; omega))); have HB4 := Lib.hid hb4; clear hb3 hb4)
              | (go_at_call 10; (with_reducible refine (decode_no x _ hxm.out HDB.out).mono ?_); rintro e w3 ⟨rfl, hb3⟩; have h5 := five_kept hb3; have hb4 := below_of_alloc hb3; have HD3 : Hid (DecS ⟨w.heap.size, 0, none⟩ ⟨w.heap.size + 1 + 1, 4, none⟩ ⟨b, off + p, none⟩ (.slice (some ⟨b, off, none⟩) code.length cc) (.int .i64 p) (.int .u32 x) w3) := DecS.below HDS.out hb4; have HM3 := Lib.hid (MSt.below HM.out hb4 (Nat.le_refl _)); have HB3 := Lib.hid (HB.out.trans (hb4.mono (show w.heap.size + 1 + 1 ≤ wr.heap.size by have := HB.out.size; omega))); have k0 := cell_of_row w3 wr.heap.size 0 _ _ _ h5; have k1 := cell_of_row w3 wr.heap.size 1 _ _ _ h5; have k2 := cell_of_row w3 wr.heap.size 2 _ _ _ h5; have k3 := cell_of_row w3 wr.heap.size 3 _ _ _ h5; have k4 := cell_of_row w3 wr.heap.size 4 _ _ _ h5; have l0 := frozen_of_row w3 wr.heap.size 0 _ _ h5; have l1 := frozen_of_row w3 wr.heap.size 1 _ _ h5; have l2 := frozen_of_row w3 wr.heap.size 2 _ _ h5; have l3 := frozen_of_row w3 wr.heap.size 3 _ _ h5; have l4 := frozen_of_row w3 wr.heap.size 4 _ _ h5; simp only [List.getElem?_toArray, List.getElem?_cons_zero, List.getElem?_cons_succ] at k0 k1 k2 k3 k4; have H5 := Lib.hid h5; have HB4 := Lib.hid hb4; clear h5 hb3 hb4))
          all_goals
            have HRV : Hid (R = (m, 1)) := by
              have hgo := HGO.out
              rw [hfuel.out, Rs.go, if_neg (by rw [HPP.out]; omega), show code.getD m.pc.toNat 0 = x by rw [HPP.out]; exact HX.out, if_pos HDB.out] at hgo
              exact hgo.symm
          · have HM9 := Lib.hid (MSt.below HM.out (HB4.out.alloc (HB4.out.size) (.cells #[.int .i64 0, .int .i64 0, .int .i64 0, .int .i64 0, .int .i64 0] 23)) (Nat.le_refl _))
            have HB9 := Lib.hid (HB.out.trans ((HB4.out.alloc (HB4.out.size) (.cells #[.int .i64 0, .int .i64 0, .int .i64 0, .int .i64 0, .int .i64 0] 23)).mono hszr))
            generalize hW9 : w3.alloc (.cells #[.int .i64 0, .int .i64 0, .int .i64 0, .int .i64 0, .int .i64 0] 23) = W9 at HM9 HB9 ⊢
            clear hW9 HD3 HM3 HB3 HB4 c0 f0 c3 c4 x0 xc HDS HD1 HDD
            have HV := Lib.hid (HM9.out.setSt 1)
            have HBV := Lib.hid (HB9.out.setCell (p := ⟨w.heap.size + 1 + 1, 0, none⟩) (Nat.le_refl _) (.int .i64 1))
            have e39 := HM9.out.c39
            have e2 := HM9.out.c2
            have g2 := HM9.out.fz 2
            have c0 := HM9.out.c0
            have f0 := HM9.out.fz 0
            have HSO := Lib.hid (string_of_own HV.out.out)
            have hcv := HSO.out
            have q39 := HV.out.c39
            have q2 := HV.out.c2
            have f2 := HV.out.fz 2
            have hln : (Rs.halt 1 m mv).length = 38 := halt_len HV.out.ok
            have hst := store_all (P := Try.prog) _ (w.heap.size + 1) _ _ (Rs.halt 1 m mv) (run_res (u := 2) (x := .string ⟨m.out.toArray⟩) (g := w.heap.size + 1 + 1) B1.out HBV.out (by omega) (by omega)) (by rw [halt_len HV.out.ok]; rfl) (halt_one' (own_one HV.out.mem))
            go_wp2_with (first | (refine wpList_load_mid rfl 39 (.tmp 131) rfl (w.heap.size + 1 + 1) 0 rfl (Rs.halt 1 m mv) HD.choose ?lda1 ?ldb1 ?ldc1 ?ldd1 ?_; (case lda1 => exact halt_range HV.out); (case ldb1 => exact HD.choose_spec.1); (case ldc1 => exact HD.choose_spec.2); (case ldd1 => (rw [halt_len HV.out.ok]; exact HSZ.out))))
            refine bodyPost_ret (v := .agg (Rs.halt 1 m mv).toArray) (results_cell rfl _ _ (w.heap.size + 1) 39 _ (0, 0) HD.choose rfl ?rsa1 HD.choose_spec.1 HD.choose_spec.2 ?rsb1) rfl ?_
            case rsa1 => exact setRow_heap _ _ _ _ _ _ (run_res B1.out HBV.out (by omega) (by omega))
            case rsb1 => (simp only [List.size_toArray]; rw [halt_len HV.out.ok]; exact HSZ.out)
            rw [HRV.out]
            exact run_end HV.out BB.out HBV.out
          · have HM9 := Lib.hid (MSt.below HM.out (below_five (u0 := .int .i64 0) (u1 := .int .i64 0) (u2 := .int .i64 0) (u3 := .int .i64 0) (u4 := .int .i64 0) HB4.out) (Nat.le_refl _))
            have HB9 := Lib.hid (HB.out.trans ((below_five (u0 := .int .i64 0) (u1 := .int .i64 0) (u2 := .int .i64 0) (u3 := .int .i64 0) (u4 := .int .i64 0) HB4.out).mono hszr))
            generalize hW9 : World.setCell (World.setCell (World.setCell (World.setCell (World.setCell w3 ⟨wr.heap.size, 0, none⟩ _) _ _) _ _) _ _) _ _ = W9 at HM9 HB9 ⊢
            clear hW9 HD3 HM3 HB3 HB4 c0 f0 c3 c4 x0 xc HDS HD1 HDD
            have HV := Lib.hid (HM9.out.setSt 1)
            have HBV := Lib.hid (HB9.out.setCell (p := ⟨w.heap.size + 1 + 1, 0, none⟩) (Nat.le_refl _) (.int .i64 1))
            have e39 := HM9.out.c39
            have e2 := HM9.out.c2
            have g2 := HM9.out.fz 2
            have c0 := HM9.out.c0
            have f0 := HM9.out.fz 0
            have HSO := Lib.hid (string_of_own HV.out.out)
            have hcv := HSO.out
            have q39 := HV.out.c39
            have q2 := HV.out.c2
            have f2 := HV.out.fz 2
            have hln : (Rs.halt 1 m mv).length = 38 := halt_len HV.out.ok
            have hst := store_all (P := Try.prog) _ (w.heap.size + 1) _ _ (Rs.halt 1 m mv) (run_res (u := 2) (x := .string ⟨m.out.toArray⟩) (g := w.heap.size + 1 + 1) B1.out HBV.out (by omega) (by omega)) (by rw [halt_len HV.out.ok]; rfl) (halt_one' (own_one HV.out.mem))
            go_wp2_with (first | (refine wpList_load_mid rfl 39 (.tmp 131) rfl (w.heap.size + 1 + 1) 0 rfl (Rs.halt 1 m mv) HD.choose ?lda2 ?ldb2 ?ldc2 ?ldd2 ?_; (case lda2 => exact halt_range HV.out); (case ldb2 => exact HD.choose_spec.1); (case ldc2 => exact HD.choose_spec.2); (case ldd2 => (rw [halt_len HV.out.ok]; exact HSZ.out))))
            refine bodyPost_ret (v := .agg (Rs.halt 1 m mv).toArray) (results_cell rfl _ _ (w.heap.size + 1) 39 _ (0, 0) HD.choose rfl ?rsa2 HD.choose_spec.1 HD.choose_spec.2 ?rsb2) rfl ?_
            case rsa2 => exact setRow_heap _ _ _ _ _ _ (run_res B1.out HBV.out (by omega) (by omega))
            case rsb2 => (simp only [List.size_toArray]; rw [halt_len HV.out.ok]; exact HSZ.out)
            rw [HRV.out]
            exact run_end HV.out BB.out HBV.out
end Go.Proofs.Ytembhjfejhnpfaa
