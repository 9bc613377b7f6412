/- The contract of the reference's Run. -/
import Derived.Test.YtaldcgfhlflcpaaAJbj
import Derived.Test.YtaldcgfhlflcpaaAJar
import Derived.Test.YtaldcgfhlflcpaaAJaq
import Derived.Test.YtaldcgfhlflcpaaAJag
set_option linter.unusedVariables false
set_option linter.unusedSimpArgs false
set_option linter.unnecessarySimpa false
namespace Go.Proofs.Ytaldcgfhlflcpaa
open Go.RowKit
set_option maxRecDepth 100000
set_option linter.unusedVariables false
set_option linter.unusedSimpArgs false
theorem made_one (v : Value) (q : Nat) : madeCells #[v] q = (List.replicate q v).toArray := by
  apply Array.ext
  · simp [size_madeCells]
  · intro i h1 h2
    simp [madeCells, Nat.mod_one]
theorem Sl.src {w : World} {a : Option Addr} {n cap : Nat} {xs : List Value} (h : Sl w (.slice a n cap) xs) (hp : 0 < xs.length) : ∃ ad, a = some ad ∧ ∀ j v, xs[j]? = some v → w.cell? (ad.add j) = some v := by
  obtain ⟨a', cap', hv, h | ⟨ad, h1, h2⟩⟩ := h
  · rw [h.2.2] at hp; simp at hp
  · cases hv
    exact ⟨ad, h1, h2⟩
theorem splice_start {mem : List Int} {q : Nat} {inp : List UInt8} (h : mem.length ≤ q) : splice (List.replicate q (Value.int .i64 0)) 0 (i64s mem) = (Rs.start mem q inp).mem.map (Value.int .i64) := by
  simp [splice, Rs.start, i64s]
theorem infoInstr : (Try.prog.info? 51).map (fun i => (i.zero, i.size, i.bytes)) = some (some (.agg #[.int .i64 0, .int .i64 0, .int .i64 0, .int .i64 0, .int .i64 0]), 5, 40) := by kernel_rfl
theorem infoBool : (Try.prog.info? 4).map (fun i => (i.zero, i.size, i.bytes)) = some (some (.bool false), 1, 1) := by kernel_rfl
theorem make_ints (q : Nat) (h : q ≤ 1048576) (w : World) : (Instr.makeSlice 29 (.int .i64 q) (.int .i64 q)).run Try.prog w = .ok (.slice (some ⟨w.heap.size, 0, none⟩) q q) (w.alloc (.cells (madeCells #[.int .i64 0] q) 3)) := by
  obtain ⟨i, hi, hz, hs, hb⟩ := info_parts infoI
  have := run_make (P := Try.prog) w _ _ i _ Try.underlying29 hi hz .i64 .i64 q q (by omega) (Int.le_refl _) (by rw [hb]; omega) (by omega)
  rw [hs] at this
  simp only [Int.toNat_natCast, Nat.mul_one] at this
  exact this
theorem make_instrs (q : Nat) (h : q ≤ 1048576) (w : World) : (Instr.makeSlice 80 (.int .i64 q) (.int .i64 q)).run Try.prog w = .ok (.slice (some ⟨w.heap.size, 0, none⟩) q q) (w.alloc (.cells (madeCells #[.int .i64 0, .int .i64 0, .int .i64 0, .int .i64 0, .int .i64 0] (q * 5)) 51)) := by
  obtain ⟨i, hi, hz, hs, hb⟩ := info_parts infoInstr
  have := run_make (P := Try.prog) w _ _ i _ Try.underlying80 hi hz .i64 .i64 q q (by omega) (Int.le_refl _) (by rw [hb]; omega) (by omega)
  rw [hs] at this
  exact this
theorem make_bools (q : Nat) (h : q ≤ 1048576) (w : World) : (Instr.makeSlice 81 (.int .i64 q) (.int .i64 q)).run Try.prog w = .ok (.slice (some ⟨w.heap.size, 0, none⟩) q q) (w.alloc (.cells (madeCells #[.bool false] q) 4)) := by
  obtain ⟨i, hi, hz, hs, hb⟩ := info_parts infoBool
  have := run_make (P := Try.prog) w _ _ i _ Try.underlying81 hi hz .i64 .i64 q q (by omega) (Int.le_refl _) (by rw [hb]; omega) (by omega)
  rw [hs] at this
  simp only [Int.toNat_natCast, Nat.mul_one] at this
  exact this
theorem rdecode_yes (x : Int) (w : World) (h : 0 ≤ x ∧ x < 4294967296) (hd : Rs.decB x = true) : Calls Try.prog 33 #[.int .u32 x] w fun e w' =>
    e = .returned (.tuple #[.agg #[.int .i64 (Rs.fO x), .int .i64 (Rs.fA x), .int .i64 (Rs.fB (Rs.fO x) x), .int .i64 (Rs.fC (Rs.fO x) x), .int .i64 (Rs.fN (Rs.fO x) x)], .bool true]) ∧ Below w.heap.size w w' := by
  refine (rdecode_any x w h.1 h.2).mono ?_
  rintro e w' ⟨rfl, hb⟩
  rw [decV, if_pos hd, hd]
  exact ⟨rfl, hb⟩
theorem rdecode_no (x : Int) (w : World) (h : 0 ≤ x ∧ x < 4294967296) (hd : Rs.decB x = false) : Calls Try.prog 33 #[.int .u32 x] w fun e w' =>
    e = .returned (.tuple #[.agg #[.int .i64 0, .int .i64 0, .int .i64 0, .int .i64 0, .int .i64 0], .bool false]) ∧ Below w.heap.size w w' := by
  refine (rdecode_any x w h.1 h.2).mono ?_
  rintro e w' ⟨rfl, hb⟩
  rw [decV, if_neg (by rw [hd]; decide), hd]
  exact ⟨rfl, hb⟩
theorem next_agg (B : Bd) (g : Nat) (st : Int) (m : Rs.M) (mv ov : Value) (x : Int) (w : World) (h : MSt B w g 79 st m mv ov) (hx : Rs.decB x = true) (hp1 : 0 ≤ m.pc) (hp2 : m.pc ≤ 1048576) (hs1 : 0 ≤ m.steps) (hs2 : m.steps ≤ 1000000000000) (ho : m.out.length ≤ 1000000000000) :
    Calls Try.prog 34 #[.pointer (some ⟨g, 0, none⟩), .agg #[.int .i64 (Rs.fO x), .int .i64 (Rs.fA x), .int .i64 (Rs.fB (Rs.fO x) x), .int .i64 (Rs.fC (Rs.fO x) x), .int .i64 (Rs.fN (Rs.fO x) x)]] w (StepPost B g 79 st (Rs.execW x m) w) :=
  next_any B g st m mv ov x w h hx hp1 hp2 hs1 hs2 ho
structure RRel (W : World) (code : List Int) (steps : Int) (R : Rs.M × Int) (g T kb sb gk : Nat) (st : Int) (m : Rs.M) (mv ov : Value) (KN SN : Array Value) (wx : World) : Prop where
  st0 : MSt ⟨g, [(kb, .cells KN 51 (0, 0)), (sb, .cells SN 4 (0, 0))]⟩ wx g T st m mv ov
  below : Below g W wx
  kok : KOk code KN SN
  way : (st = 6 ∧ Rs.Inv code steps m ∧ Rs.go code (steps - m.steps).toNat m = R ∧ gk = (steps - m.steps).toNat + 1) ∨ (st ≠ 6 ∧ R = (m, st) ∧ gk = 0)
theorem MSt.bare {B : Bd} {w : World} {g T : Nat} {st : Int} {m : Rs.M} {mv ov : Value} (h : MSt B w g T st m mv ov) : MSt ⟨B.n, []⟩ w g T st m mv ov := ⟨h.base, h.blk, h.mem, h.out, h.ne1, h.ne2, h.ne3, h.ok, fun p hp => by cases hp⟩

set_option maxHeartbeats 8000000 in
set_option maxRecDepth 100000 in
theorem rrun_yes (vc vm : Value) (code mem : List Int) (words : Int) (inp : List UInt8) (steps : Int) (w : World) (hc : Sl w vc (u32s code)) (hm : Sl w vm (i64s mem)) (hcr : ∀ x ∈ code, 0 ≤ x ∧ x < 4294967296) (hmr : ∀ x ∈ mem, Rs.InR x) (hs : steps ≤ 1000000000000) (hno : ¬ Rs.noImage code mem words steps) :
    Calls Try.prog 15 #[.agg #[vc, vm, .int .i64 words], .string ⟨inp.toArray⟩, .int .i64 steps] w (RunYes (Rs.run code mem words inp steps) w) := by
  obtain ⟨ac, cc, rfl⟩ := hc.len
  obtain ⟨am, cm, rfl⟩ := hm.len
  have HC := Lib.hid hc
  have HM := Lib.hid hm
  have hl1 : (u32s code).length = code.length := by simp [u32s]
  have hl2 : (i64s mem).length = mem.length := by simp [i64s]
  rw [hl1, hl2]
  rw [hl1] at HC
  rw [hl2] at HM
  clear hc hm hl1
  have HL2 := Lib.hid hl2
  clear hl2
  unfold Rs.noImage at hno
  simp only [not_or, Int.not_lt] at hno
  obtain ⟨h1, h2, h3, h4, h5⟩ := hno
  obtain ⟨q, rfl⟩ : ∃ q : Nat, words = q := ⟨words.toNat, by omega⟩
  obtain ⟨R, hR⟩ : ∃ R, Hid (Rs.run code mem q inp steps = R) := ⟨_, rfl⟩
  rw [hR.out]
  have HOK := Lib.hid (Rs.start_ok (inp := inp) hmr h1 h2 h4)
  have HCR := Lib.hid hcr
  clear hmr hcr
  have HSZI : Hid ((Try.prog.info? 3).map (·.size) = some 1) := by unfold Hid; kernel_rfl
  have hmk1 := make_ints q (by omega)
  have hmk2 := make_instrs code.length (by omega)
  have hmk3 := make_bools code.length (by omega)
  go_enter Try.func15, Try.ntmps15
  go_wp2_with fail
  have HMC : Hid (∀ u ∈ i64s mem, u.oneCell' = true) := by intro u hu; obtain ⟨z, _, rfl⟩ := List.mem_map.1 hu; rfl
  generalize hW : World.alloc (World.alloc (World.alloc (World.alloc w _) _) _) _ = W
  obtain ⟨b0, b1, b2, b3, bs, bb⟩ := four_made w _ _ _ _ _ _ _ _ hW
  clear hW
  rw [made_one] at b3
  have x1 := cell_of_row W _ 1 _ _ _ b0
  simp only [List.getElem?_toArray, List.getElem?_cons_zero, List.getElem?_cons_succ] at x1
  have b2' : W.heap[w.heap.size + 1 + 1]? = some (.cells (Rs.cells 0 { Rs.start mem q inp with mem := mem } (.slice (some ⟨w.heap.size + 1 + 1 + 1, 0, none⟩) q q) (.slice none 0 0)).toArray 79 (0, 0)) := b2
  have x37 : W.cell? ⟨w.heap.size + 1 + 1, 37, none⟩ = some (.slice (some ⟨w.heap.size + 1 + 1 + 1, 0, none⟩) q q) := by
    rw [cell_of_row W _ 37 _ _ _ b2']
    rfl
  have B0 := Lib.hid b0
  have B1 := Lib.hid b1
  have B2 := Lib.hid b2'
  have B3 := Lib.hid b3
  have BB := Lib.hid bb
  have HM2 := Lib.hid (HM.out.below bb (Nat.le_refl _))
  have HS0 : Hid (W.cell? ⟨w.heap.size, 1, none⟩ = some (.slice am mem.length cm) ∧ W.cell? ⟨w.heap.size + 1 + 1, 37, none⟩ = some (.slice (some ⟨w.heap.size + 1 + 1 + 1, 0, none⟩) q q)) := ⟨x1, x37⟩
  clear b0 b1 b2 b2' b3 bb
  go_region_held3 (fun w' => w'.cell? ⟨w.heap.size, 1, none⟩ = some (.slice am mem.length cm) ∧ w'.cell? ⟨w.heap.size + 1 + 1, 37, none⟩ = some (.slice (some ⟨w.heap.size + 1 + 1 + 1, 0, none⟩) q q))
    (first | exact HS0.out | exact HS4.out)
    (first
      | (refine step_copy_splice rfl (.tmp 54) (.tmp 56) 29 29 rfl 3 Try.underlying29 HSZI.out (some ⟨w.heap.size + 1 + 1 + 1, 0, none⟩) am q q mem.length cm (by simp [Act.eval]) (by simp [Act.eval]) (w.heap.size + 1 + 1 + 1) 0 (List.replicate q (.int .i64 0)) 3 B3.out (i64s mem) ?sa ?sb ?sc HMC.out (w.heap.size + 1 + 1 + 1) W.drew (Below.refl _ _) (Nat.le_refl _) ?_; (case sa => (rw [HL2.out]; show mem.length = min mem.length q; omega)); (case sb => (intro hp; exact ⟨rfl, HM2.out.src hp⟩)); (case sc => (rw [HL2.out, List.length_replicate]; omega)); intro w4 hg4 hb4; generalize goInt ((i64s mem).length : Int) = cpv; have HB4 := Lib.hid hb4; have HS4 : Hid (w4.cell? ⟨w.heap.size, 1, none⟩ = some (.slice am mem.length cm) ∧ w4.cell? ⟨w.heap.size + 1 + 1, 37, none⟩ = some (.slice (some ⟨w.heap.size + 1 + 1 + 1, 0, none⟩) q q)) := ⟨(hb4.cell (p := ⟨w.heap.size, 1, none⟩) (show w.heap.size < w.heap.size + 1 + 1 + 1 by omega)).trans HS0.out.1, (hb4.cell (p := ⟨w.heap.size + 1 + 1, 37, none⟩) (show w.heap.size + 1 + 1 < w.heap.size + 1 + 1 + 1 by omega)).trans HS0.out.2⟩; clear hb4))
  generalize decide (q < mem.length) = dq
  obtain ⟨hM, hB5⟩ := rmade (m0 := { Rs.start mem q inp with mem := mem }) (m1 := Rs.start mem q inp) (g := w.heap.size + 1 + 1) B2.out (by omega) hg4.out (splice_start (by omega)) (by simp [Rs.start]; omega) (by simp only [maxLen]; omega) HB4.out HOK.out rfl rfl
  have hs4 : w.heap.size + 4 ≤ w4.heap.size := by have := hB5.size; omega
  have HM5 := Lib.hid hM
  have HB5 := Lib.hid hB5
  have c0 := hM.c0
  have f0 := hM.fz 0
  have x0 : w4.cell? ⟨w.heap.size, 0, none⟩ = some (.slice ac code.length cc) := (hB5.cell (p := ⟨w.heap.size, 0, none⟩) (by show w.heap.size < w.heap.size + 1 + 1; omega)).trans (cell_of_row W _ 0 _ _ _ B0.out)
  have hn0 : ¬ (w.heap.size = w4.heap.size) := by omega
  have hB6 := ((hB5.setCell (p := ⟨w.heap.size + 1 + 1, 0, none⟩) (Nat.le_refl _) (.int .i64 6)).alloc (by simp [World.setCell]; omega) (.cells (madeCells #[.int .i64 0, .int .i64 0, .int .i64 0, .int .i64 0, .int .i64 0] (code.length * 5)) 51))
  have x0' : ((w4.setCell ⟨w.heap.size + 1 + 1, 0, none⟩ (.int .i64 6)).alloc (.cells (madeCells #[.int .i64 0, .int .i64 0, .int .i64 0, .int .i64 0, .int .i64 0] (code.length * 5)) 51)).cell? ⟨w.heap.size, 0, none⟩ = some (.slice ac code.length cc) := (hB6.cell (p := ⟨w.heap.size, 0, none⟩) (by show w.heap.size < w.heap.size + 1 + 1; omega)).trans (cell_of_row W _ 0 _ _ _ B0.out)
  clear hB6
  clear hM hB5 hg4 HB4 HS0 HS4 x1 x37 HM HM2 HMC HL2 B2 B3
  have HD := haltD
  have HSZ : Hid ((Try.prog.info? 36).map (·.size) = some 38) := by unfold Hid; kernel_rfl
  go_wp2_with fail
  go_loopg [] (steps.toNat + 1) (fun gk wx => ∃ st m mv ov KN SN, RRel W code steps R (w.heap.size + 1 + 1) 79 w4.heap.size (w4.heap.size + 1) gk st m mv ov KN SN wx)
  case atStart =>
    have h6 := HM5.out.setSt 6
    have hsz : (w4.setCell ⟨w.heap.size + 1 + 1, 0, none⟩ (.int .i64 6)).heap.size = w4.heap.size := by simp [World.setCell]
    refine ⟨6, _, _, _, _, _, ⟨((h6.alloc (.cells (madeCells #[.int .i64 0, .int .i64 0, .int .i64 0, .int .i64 0, .int .i64 0] (code.length * 5)) 51)).alloc (.cells (madeCells #[.bool false] code.length) 4)).rekeep _ (fun _ _ _ => rfl) (fun r hr => ?_), ((HB5.out.setCell (p := ⟨w.heap.size + 1 + 1, 0, none⟩) (Nat.le_refl _) _).alloc (by rw [hsz]; omega) _).alloc (by simp; omega) _, KOk.new, .inl ⟨rfl, ⟨HOK.out, by simp [Rs.start], by simpa [Rs.start] using h5, by simp [Rs.start]⟩, by simpa [Rs.start, Rs.run] using hR.out, by simp [Rs.start]⟩⟩⟩
    simp only [List.mem_cons, List.not_mem_nil, or_false] at hr
    rcases hr with rfl | rfl
    · have := heap_alloc2_old (w4.setCell ⟨w.heap.size + 1 + 1, 0, none⟩ (.int .i64 6)) (.cells (madeCells #[.int .i64 0, .int .i64 0, .int .i64 0, .int .i64 0, .int .i64 0] (code.length * 5)) 51) (.cells (madeCells #[.bool false] code.length) 4)
      rw [hsz] at this
      exact ⟨this, by show w4.heap.size ≠ _; omega, by simp [Value.ownBlock]; omega, by simp [Value.ownBlock]⟩
    · have := heap_alloc2_new (w4.setCell ⟨w.heap.size + 1 + 1, 0, none⟩ (.int .i64 6)) (.cells (madeCells #[.int .i64 0, .int .i64 0, .int .i64 0, .int .i64 0, .int .i64 0] (code.length * 5)) 51) (.cells (madeCells #[.bool false] code.length) 4)
      rw [hsz] at this
      exact ⟨this, by show w4.heap.size + 1 ≠ _; omega, by simp [Value.ownBlock]; omega, by simp [Value.ownBlock]⟩
  case round =>
    clear c0 f0 HM5 HB5 x0 x0' hn0 hmk1 hmk2 hmk3
    generalize hkb : w4.heap.size = kb at *
    clear hkb
    obtain ⟨st, m, mv, ov, KN, SN, hrel⟩ := hrel
    obtain ⟨hM, hB, hK, hway⟩ := hrel
    have HM := Lib.hid hM
    have HMB := Lib.hid hM.bare
    have HB := Lib.hid hB
    have HK := Lib.hid hK
    have c0 := hM.c0
    have f0 := hM.fz 0
    have c3 := hM.c3
    have c4 := hM.c4
    have x0 : wr.cell? ⟨w.heap.size, 0, none⟩ = some (.slice ac code.length cc) := (hB.cell (p := ⟨w.heap.size, 0, none⟩) (by show w.heap.size < w.heap.size + 1 + 1; omega)).trans (cell_of_row W _ 0 _ _ _ B0.out)
    clear hM hB hK
    by_cases hend : st ≠ 6 ∨ steps ≤ m.steps
    · have HV := HMB
      have HBV := HB
      have HRV : Hid (R = (m, st)) := by
        rcases hway with ⟨h6, hinv, hgo, -⟩ | ⟨h6, hr, -⟩
        · have h0 : (steps - m.steps).toNat = 0 := by omega
          rw [h0] at hgo
          rw [h6]
          exact hgo.symm
        · exact hr
      clear hway
      by_cases hst : st = 6
      · subst hst
        have hlt : ¬ m.steps < steps := by omega
        have HSO := Lib.hid (string_of_own HV.out.out)
        have hcv := HSO.out
        have q39 := HV.out.c39
        have q2 := HV.out.c2
        have f2 := HV.out.fz 2
        have hln : (Rs.halt 6 m mv).length = 38 := halt_len HV.out.ok
        have hst := store_all (P := Try.prog) _ (w.heap.size + 1) _ _ (Rs.halt 6 m mv) (run_res (u := 2) (x := .string ⟨m.out.toArray⟩) (g := w.heap.size + 1 + 1) B1.out HBV.out (by omega) (by omega)) (by rw [halt_len HV.out.ok]; rfl) (halt_one' (own_one HV.out.mem))
        go_wp2_with (first | (refine wpList_load_mid rfl 36 (.tmp 151) rfl (w.heap.size + 1 + 1) 0 rfl (Rs.halt 6 m mv) HD.choose ?lda1 ?ldb1 ?ldc1 ?ldd1 ?_; (case lda1 => exact halt_range HV.out); (case ldb1 => exact HD.choose_spec.1); (case ldc1 => exact HD.choose_spec.2); (case ldd1 => (rw [halt_len HV.out.ok]; exact HSZ.out))))
        refine bodyPost_ret (v := .agg (Rs.halt 6 m mv).toArray) (results_cell rfl _ _ (w.heap.size + 1) 36 _ (0, 0) HD.choose rfl ?rsa1 HD.choose_spec.1 HD.choose_spec.2 ?rsb1) rfl ?_
        case rsa1 => exact setRow_heap _ _ _ _ _ _ (run_res B1.out HBV.out (by omega) (by omega))
        case rsb1 => (simp only [List.size_toArray]; rw [halt_len HV.out.ok]; exact HSZ.out)
        rw [HRV.out]
        exact run_end HV.out BB.out HBV.out
      · have hst6 : (st == 6) = false := by rw [beq_eq_false_iff_ne]; exact hst
        have HSO := Lib.hid (string_of_own HV.out.out)
        have hcv := HSO.out
        have q39 := HV.out.c39
        have q2 := HV.out.c2
        have f2 := HV.out.fz 2
        have hln : (Rs.halt st m mv).length = 38 := halt_len HV.out.ok
        have hst := store_all (P := Try.prog) _ (w.heap.size + 1) _ _ (Rs.halt st m mv) (run_res (u := 2) (x := .string ⟨m.out.toArray⟩) (g := w.heap.size + 1 + 1) B1.out HBV.out (by omega) (by omega)) (by rw [halt_len HV.out.ok]; rfl) (halt_one' (own_one HV.out.mem))
        go_wp2_with (first | (refine wpList_load_mid rfl 36 (.tmp 151) rfl (w.heap.size + 1 + 1) 0 rfl (Rs.halt st m mv) HD.choose ?lda2 ?ldb2 ?ldc2 ?ldd2 ?_; (case lda2 => exact halt_range HV.out); (case ldb2 => exact HD.choose_spec.1); (case ldc2 => exact HD.choose_spec.2); (case ldd2 => (rw [halt_len HV.out.ok]; exact HSZ.out))))
        refine bodyPost_ret (v := .agg (Rs.halt st m mv).toArray) (results_cell rfl _ _ (w.heap.size + 1) 36 _ (0, 0) HD.choose rfl ?rsa2 HD.choose_spec.1 HD.choose_spec.2 ?rsb2) rfl ?_
        case rsa2 => exact setRow_heap _ _ _ _ _ _ (run_res B1.out HBV.out (by omega) (by omega))
        case rsb2 => (simp only [List.size_toArray]; rw [halt_len HV.out.ok]; exact HSZ.out)
        rw [HRV.out]
        exact run_end HV.out BB.out HBV.out
    · obtain ⟨rfl, hlt⟩ : st = 6 ∧ m.steps < steps := by omega
      obtain ⟨hinv, hgo, hgk⟩ : Rs.Inv code steps m ∧ Rs.go code (steps - m.steps).toNat m = R ∧ gk = (steps - m.steps).toNat + 1 := by
        rcases hway with ⟨_, a, b, c⟩ | ⟨h, _⟩
        · exact ⟨a, b, c⟩
        · exact absurd rfl h
      clear hway hend
      have HINV := Lib.hid hinv
      have HGO := Lib.hid hgo
      have HGK := Lib.hid hgk
      clear hinv hgo hgk
      have hfuel : Hid ((steps - m.steps).toNat = (steps - m.steps - 1).toNat + 1) := by unfold Hid; omega
      by_cases hpc : m.pc < 0 ∨ (code.length : Int) ≤ m.pc
      · have HRV : Hid (R = (m, 3)) := by
          have h := HGO.out
          rw [hfuel.out] at h
          rw [Rs.go, if_pos hpc] at h
          exact h.symm
        have HV := Lib.hid (HMB.out.setSt 3)
        have HBV := Lib.hid (HB.out.setCell (p := ⟨w.heap.size + 1 + 1, 0, none⟩) (Nat.le_refl _) (.int .i64 3))
        have e39 := HMB.out.c39
        have e2 := HMB.out.c2
        have g2 := HMB.out.fz 2
        have h01 : m.pc < 0 ∨ (0 ≤ m.pc ∧ (code.length : Int) ≤ m.pc) := by omega
        clear hpc
        rcases h01 with h01 | ⟨h01, h02⟩
        · have HSO := Lib.hid (string_of_own HV.out.out)
          have hcv := HSO.out
          have q39 := HV.out.c39
          have q2 := HV.out.c2
          have f2 := HV.out.fz 2
          have hln : (Rs.halt 3 m mv).length = 38 := halt_len HV.out.ok
          have hst := store_all (P := Try.prog) _ (w.heap.size + 1) _ _ (Rs.halt 3 m mv) (run_res (u := 2) (x := .string ⟨m.out.toArray⟩) (g := w.heap.size + 1 + 1) B1.out HBV.out (by omega) (by omega)) (by rw [halt_len HV.out.ok]; rfl) (halt_one' (own_one HV.out.mem))
          go_wp2_with (first | (refine wpList_load_mid rfl 36 (.tmp 151) rfl (w.heap.size + 1 + 1) 0 rfl (Rs.halt 3 m mv) HD.choose ?lda3 ?ldb3 ?ldc3 ?ldd3 ?_; (case lda3 => exact halt_range HV.out); (case ldb3 => exact HD.choose_spec.1); (case ldc3 => exact HD.choose_spec.2); (case ldd3 => (rw [halt_len HV.out.ok]; exact HSZ.out))))
          refine bodyPost_ret (v := .agg (Rs.halt 3 m mv).toArray) (results_cell rfl _ _ (w.heap.size + 1) 36 _ (0, 0) HD.choose rfl ?rsa3 HD.choose_spec.1 HD.choose_spec.2 ?rsb3) rfl ?_
          case rsa3 => exact setRow_heap _ _ _ _ _ _ (run_res B1.out HBV.out (by omega) (by omega))
          case rsb3 => (simp only [List.size_toArray]; rw [halt_len HV.out.ok]; exact HSZ.out)
          rw [HRV.out]
          exact run_end HV.out BB.out HBV.out
        · have HSO := Lib.hid (string_of_own HV.out.out)
          have hcv := HSO.out
          have q39 := HV.out.c39
          have q2 := HV.out.c2
          have f2 := HV.out.fz 2
          have hln : (Rs.halt 3 m mv).length = 38 := halt_len HV.out.ok
          have hst := store_all (P := Try.prog) _ (w.heap.size + 1) _ _ (Rs.halt 3 m mv) (run_res (u := 2) (x := .string ⟨m.out.toArray⟩) (g := w.heap.size + 1 + 1) B1.out HBV.out (by omega) (by omega)) (by rw [halt_len HV.out.ok]; rfl) (halt_one' (own_one HV.out.mem))
          go_wp2_with (first | (refine wpList_load_mid rfl 36 (.tmp 151) rfl (w.heap.size + 1 + 1) 0 rfl (Rs.halt 3 m mv) HD.choose ?lda4 ?ldb4 ?ldc4 ?ldd4 ?_; (case lda4 => exact halt_range HV.out); (case ldb4 => exact HD.choose_spec.1); (case ldc4 => exact HD.choose_spec.2); (case ldd4 => (rw [halt_len HV.out.ok]; exact HSZ.out))))
          refine bodyPost_ret (v := .agg (Rs.halt 3 m mv).toArray) (results_cell rfl _ _ (w.heap.size + 1) 36 _ (0, 0) HD.choose rfl ?rsa4 HD.choose_spec.1 HD.choose_spec.2 ?rsb4) rfl ?_
          case rsa4 => exact setRow_heap _ _ _ _ _ _ (run_res B1.out HBV.out (by omega) (by omega))
          case rsb4 => (simp only [List.size_toArray]; rw [halt_len HV.out.ok]; exact HSZ.out)
          rw [HRV.out]
          exact run_end HV.out BB.out HBV.out
      · have hp0 : 0 ≤ m.pc := by omega
        obtain ⟨p, hpp⟩ : ∃ p : Nat, m.pc = p := ⟨m.pc.toNat, by omega⟩
        have hpl : p < code.length := by omega
        rw [hpp] at c4
        have hlc : (u32s code).length = code.length := by simp [u32s]
        have hne : u32s code ≠ [] := by intro h; have h2 : (u32s code).length = 0 := (by rw [h]; rfl); omega
        obtain ⟨b, off, hac, hbl, hcells⟩ := Sl.at (by have h := HC.out; rw [← hlc] at h; exact h) hne
        subst hac
        have xc0 := u32_at hcells hpl
        have xc : wr.cell? ⟨b, off + p, none⟩ = some (.int .u32 (code.getD p 0)) := ((BB.out.trans (HB.out.mono (by omega))).cell (p := ⟨b, off + p, none⟩) hbl).trans xc0
        obtain ⟨x, hx⟩ : ∃ x, Hid (code.getD p 0 = x) := ⟨_, rfl⟩
        rw [hx.out] at xc
        have hxm : Hid (0 ≤ x ∧ x < 4294967296) := by rw [← hx.out]; exact HCR.out _ (getD_mem hpl)
        clear xc0 hcells hne hlc hpc HC hbl
        have hg1 : ¬ ((p : Int) < 0) := by omega
        have hg2 : ¬ ((code.length : Int) ≤ p) := by omega
        have hg3 : (0 : Int) ≤ p := by omega
        have hg4 : (p : Int) < code.length := by omega
        have HSX : Hid (0 ≤ m.pc ∧ m.pc ≤ 1048576 ∧ 0 ≤ m.steps ∧ m.steps ≤ 1000000000000 ∧ m.out.length ≤ 1000000000000) := by
          have h1 := HINV.out.s0
          have h2 := HINV.out.out
          exact ⟨by omega, by omega, by omega, by omega, by omega⟩
        have HPP := Lib.hid hpp
        have HX := hx
        clear hpp hp0
        have HKK := Lib.hid (HM.out.kept (kb, .cells KN 51 (0, 0)) (by simp)).1
        have HSS := Lib.hid (HM.out.kept (kb + 1, .cells SN 4 (0, 0)) (by simp)).1
        have hkl : kb + 1 < wr.heap.size := (Array.getElem?_eq_some_iff.1 HSS.out).1
        rcases HK.out.at_ p hpl with hsn | ⟨hsn, hd, k0, k1, k2, k3, k4⟩
        · have sc : wr.cell? ⟨kb + 1, p, none⟩ = some (.bool false) := by rw [cell_of_row wr (kb + 1) p _ _ _ HSS.out]; exact hsn
          clear hsn
          by_cases hd : Rs.decB x = true
          · have HDB := Lib.hid hd
            clear hd
            go_wp2_with fail
            with_reducible refine (rdecode_yes x _ hxm.out HDB.out).mono ?_
            rintro e w3 ⟨rfl, hb3⟩
            have HM3 := HM.out.below hb3 (Nat.le_refl _)
            have HM9 := Lib.hid HM3
            have h3k := (HM3.kept (kb, .cells KN 51 (0, 0)) (by simp)).1
            have h3s := (HM3.kept (kb + 1, .cells SN 4 (0, 0)) (by simp)).1
            have HB9 := Lib.hid (HB.out.trans (hb3.mono (show w.heap.size + 1 + 1 ≤ wr.heap.size by omega)))
            have HK9 := Lib.hid (HK.out.set hpl HX.out HDB.out)
            have hks := HK.out.ks
            have hsz3 := hb3.size
            obtain ⟨vv0, z0⟩ : ∃ v, w3.cell? ⟨kb, p * 5, none⟩ = some v := ⟨_, (cell_of_row w3 kb (p * 5) _ _ _ h3k).trans (Array.getElem?_eq_getElem (by omega))⟩
            obtain ⟨vv1, z1⟩ : ∃ v, w3.cell? ⟨kb, p * 5 + 1, none⟩ = some v := ⟨_, (cell_of_row w3 kb (p * 5 + 1) _ _ _ h3k).trans (Array.getElem?_eq_getElem (by omega))⟩
            obtain ⟨vv2, z2⟩ : ∃ v, w3.cell? ⟨kb, p * 5 + 2, none⟩ = some v := ⟨_, (cell_of_row w3 kb (p * 5 + 2) _ _ _ h3k).trans (Array.getElem?_eq_getElem (by omega))⟩
            obtain ⟨vv3, z3⟩ : ∃ v, w3.cell? ⟨kb, p * 5 + 3, none⟩ = some v := ⟨_, (cell_of_row w3 kb (p * 5 + 3) _ _ _ h3k).trans (Array.getElem?_eq_getElem (by omega))⟩
            obtain ⟨vv4, z4⟩ : ∃ v, w3.cell? ⟨kb, p * 5 + 4, none⟩ = some v := ⟨_, (cell_of_row w3 kb (p * 5 + 4) _ _ _ h3k).trans (Array.getElem?_eq_getElem (by omega))⟩
            have t0 := frozen_of_row w3 kb (p * 5) _ _ h3k
            have t1 := frozen_of_row w3 kb (p * 5 + 1) _ _ h3k
            have t2 := frozen_of_row w3 kb (p * 5 + 2) _ _ h3k
            have t3 := frozen_of_row w3 kb (p * 5 + 3) _ _ h3k
            have t4 := frozen_of_row w3 kb (p * 5 + 4) _ _ h3k
            have zs : w3.cell? ⟨kb + 1, p, none⟩ = some (.bool false) := (hb3.cell (p := ⟨kb + 1, p, none⟩) hkl).trans sc
            have ts := frozen_of_row w3 (kb + 1) p _ _ h3s
            have hk3 : kb < w3.heap.size := by omega
            have hk4 : kb + 1 < w3.heap.size := by omega
            clear hb3 HM3 h3k h3s hsz3 sc
            go_wp2_with fail
            with_reducible refine (next_agg ⟨w.heap.size + 1 + 1, [(kb, .cells (setFive KN (p * 5) (.int .i64 (Rs.fO x)) (.int .i64 (Rs.fA x)) (.int .i64 (Rs.fB (Rs.fO x) x)) (.int .i64 (Rs.fC (Rs.fO x) x)) (.int .i64 (Rs.fN (Rs.fO x) x))) 51 (0, 0)), (kb + 1, .cells (SN.setIfInBounds p (.bool true)) 4 (0, 0))]⟩ (w.heap.size + 1 + 1) 6 m mv ov x _ ((HM9.out.cached (by omega) (p * 5) p _ _ _ _ _ _).alloc _) HDB.out HSX.out.1 HSX.out.2.1 HSX.out.2.2.1 HSX.out.2.2.2.1 HSX.out.2.2.2.2).mono ?_
            rintro e w5 ⟨rfl, ⟨mv5, ov5, hM5⟩, hb5, hz5⟩
            have c5 := hM5.c0
            have f5 := hM5.fz 0
            have HM5 := Lib.hid hM5
            have HB5 := Lib.hid ((((((((HB9.out.setCell (p := ⟨kb, p * 5, none⟩) (by show w.heap.size + 1 + 1 ≤ kb; omega) _).setCell (p := ⟨kb, p * 5 + 1, none⟩) (by show w.heap.size + 1 + 1 ≤ kb; omega) _).setCell (p := ⟨kb, p * 5 + 2, none⟩) (by show w.heap.size + 1 + 1 ≤ kb; omega) _).setCell (p := ⟨kb, p * 5 + 3, none⟩) (by show w.heap.size + 1 + 1 ≤ kb; omega) _).setCell (p := ⟨kb, p * 5 + 4, none⟩) (by show w.heap.size + 1 + 1 ≤ kb; omega) _).setCell (p := ⟨kb + 1, p, none⟩) (by show w.heap.size + 1 + 1 ≤ kb + 1; omega) _).alloc (by simp [World.setCell]; omega) _).trans hb5)
            have HK5 := HK9
            clear hM5 hb5 hz5
            go_wp2_with fail
            have hgo := HGO.out
            rw [hfuel.out, Rs.go, if_neg (by rw [HPP.out]; omega), show code.getD m.pc.toNat 0 = x by rw [HPP.out]; exact HX.out, if_neg (by rw [HDB.out]; decide)] at hgo
            by_cases h6 : (Rs.execW x m).2 = 6
            · rw [if_pos h6] at hgo
              have hinv := inv_next HINV.out hlt ⟨HSX.out.1, HSX.out.2.1⟩ HDB.out h6
              have hst' : (Rs.execW x m).1.steps = m.steps + 1 := (Rs.exec_steps h6).1
              have hgk := HGK.out
              go_roundg ((steps - m.steps - 1).toNat + 1)
              case measure => omega
              case rel =>
                refine ⟨6, _, mv5, ov5, _, _, ⟨?_, HB5.out.setCell (Nat.le_refl _) _, HK5.out, .inl ⟨rfl, hinv, ?_, ?_⟩⟩⟩
                · have := HM5.out.setSt (Rs.execW x m).2
                  rw [h6] at this ⊢
                  exact this
                · rw [hst', show steps - (m.steps + 1) = steps - m.steps - 1 by omega]; exact hgo
                · rw [hst', show steps - (m.steps + 1) = steps - m.steps - 1 by omega]
            · rw [if_neg h6] at hgo
              have hgk := HGK.out
              go_roundg 0
              case measure => omega
              case rel => exact ⟨(Rs.execW x m).2, _, mv5, ov5, _, _, ⟨HM5.out.setSt _, HB5.out.setCell (Nat.le_refl _) _, HK5.out, .inr ⟨h6, hgo.symm, rfl⟩⟩⟩
          · have HDB : Hid (Rs.decB x = false) := by revert hd; cases Rs.decB x <;> simp [Hid]
            clear hd
            have HRV : Hid (R = (m, 1)) := by
              have hgo := HGO.out
              rw [hfuel.out, Rs.go, if_neg (by rw [HPP.out]; omega), show code.getD m.pc.toNat 0 = x by rw [HPP.out]; exact HX.out, if_pos HDB.out] at hgo
              exact hgo.symm
            go_wp2_with fail
            with_reducible refine (rdecode_no x _ hxm.out HDB.out).mono ?_
            rintro e w3 ⟨rfl, hb3⟩
            have HM3 := HMB.out.below hb3 (Nat.le_refl _)
            have hb4 := HB.out.trans (hb3.mono (show w.heap.size + 1 + 1 ≤ wr.heap.size by omega))
            have HV := Lib.hid (HM3.setSt 1)
            have HBV := Lib.hid (hb4.setCell (p := ⟨w.heap.size + 1 + 1, 0, none⟩) (Nat.le_refl _) (.int .i64 1))
            have d39 := HM3.c39
            have d2 := HM3.c2
            have d0 := HM3.c0
            have i2 := HM3.fz 2
            have i0 := HM3.fz 0
            have hlt3 : w.heap.size + 1 + 1 < w3.heap.size := HM3.lt
            clear hb3 hb4 HM3
            have HSO := Lib.hid (string_of_own (HV.out.alloc (.cells #[.int .i64 0, .int .i64 0, .int .i64 0, .int .i64 0, .int .i64 0] 51)).out)
            have hcv := HSO.out
            have hln : (Rs.halt 1 m mv).length = 38 := halt_len HV.out.ok
            have hst := store_all (P := Try.prog) _ (w.heap.size + 1) _ _ (Rs.halt 1 m mv) (run_res_alloc (u := 2) (x := .string ⟨m.out.toArray⟩) (g := w.heap.size + 1 + 1) B1.out HBV.out (by omega) (by omega) (.cells #[.int .i64 0, .int .i64 0, .int .i64 0, .int .i64 0, .int .i64 0] 51)) (by rw [halt_len HV.out.ok]; rfl) (halt_one' (own_one HV.out.mem))
            go_wp2_with (first | (refine wpList_load_mid rfl 36 (.tmp 151) rfl (w.heap.size + 1 + 1) 0 rfl (Rs.halt 1 m mv) HD.choose ?zld1 ?zld2 ?zld3 ?zld4 ?_; (case zld1 => exact halt_range_alloc HV.out _); (case zld2 => exact HD.choose_spec.1); (case zld3 => exact HD.choose_spec.2); (case zld4 => (rw [halt_len HV.out.ok]; exact HSZ.out))))
            refine bodyPost_ret (v := .agg (Rs.halt 1 m mv).toArray) (results_cell rfl _ _ (w.heap.size + 1) 36 _ (0, 0) HD.choose rfl ?zrs1 HD.choose_spec.1 HD.choose_spec.2 ?zrs2) rfl ?_
            case zrs1 => exact setRow_heap _ _ _ _ _ _ (run_res_alloc B1.out HBV.out (by omega) (by omega) _)
            case zrs2 => (simp only [List.size_toArray]; rw [halt_len HV.out.ok]; exact HSZ.out)
            rw [HRV.out]
            exact run_end_alloc HV.out BB.out HBV.out _
        · rw [HX.out] at hd k0 k1 k2 k3 k4
          have HDB := Lib.hid hd
          clear hd
          have sc : wr.cell? ⟨kb + 1, p, none⟩ = some (.bool true) := by rw [cell_of_row wr (kb + 1) p _ _ _ HSS.out]; exact hsn
          have y0 : wr.cell? ⟨kb, p * 5, none⟩ = some (.int .i64 (Rs.fO x)) := by rw [cell_of_row wr kb _ _ _ _ HKK.out]; exact k0
          have y1 : wr.cell? ⟨kb, p * 5 + 1, none⟩ = some (.int .i64 (Rs.fA x)) := by rw [cell_of_row wr kb _ _ _ _ HKK.out]; exact k1
          have y2 : wr.cell? ⟨kb, p * 5 + 2, none⟩ = some (.int .i64 (Rs.fB (Rs.fO x) x)) := by rw [cell_of_row wr kb _ _ _ _ HKK.out]; exact k2
          have y3 : wr.cell? ⟨kb, p * 5 + 3, none⟩ = some (.int .i64 (Rs.fC (Rs.fO x) x)) := by rw [cell_of_row wr kb _ _ _ _ HKK.out]; exact k3
          have y4 : wr.cell? ⟨kb, p * 5 + 4, none⟩ = some (.int .i64 (Rs.fN (Rs.fO x) x)) := by rw [cell_of_row wr kb _ _ _ _ HKK.out]; exact k4
          clear hsn k0 k1 k2 k3 k4
          go_wp2_with fail
          with_reducible refine (next_agg ⟨w.heap.size + 1 + 1, [(kb, .cells KN 51 (0, 0)), (kb + 1, .cells SN 4 (0, 0))]⟩ (w.heap.size + 1 + 1) 6 m mv ov x _ HM.out HDB.out HSX.out.1 HSX.out.2.1 HSX.out.2.2.1 HSX.out.2.2.2.1 HSX.out.2.2.2.2).mono ?_
          rintro e w5 ⟨rfl, ⟨mv5, ov5, hM5⟩, hb5, hz5⟩
          have c5 := hM5.c0
          have f5 := hM5.fz 0
          have HM5 := Lib.hid hM5
          have HB5 := Lib.hid (HB.out.trans hb5)
          have HK5 := HK
          clear hM5 hb5 hz5
          go_wp2_with fail
          have hgo := HGO.out
          rw [hfuel.out, Rs.go, if_neg (by rw [HPP.out]; omega), show code.getD m.pc.toNat 0 = x by rw [HPP.out]; exact HX.out, if_neg (by rw [HDB.out]; decide)] at hgo
          by_cases h6 : (Rs.execW x m).2 = 6
          · rw [if_pos h6] at hgo
            have hinv := inv_next HINV.out hlt ⟨HSX.out.1, HSX.out.2.1⟩ HDB.out h6
            have hst' : (Rs.execW x m).1.steps = m.steps + 1 := (Rs.exec_steps h6).1
            have hgk := HGK.out
            go_roundg ((steps - m.steps - 1).toNat + 1)
            case measure => omega
            case rel =>
              refine ⟨6, _, mv5, ov5, _, _, ⟨?_, HB5.out.setCell (Nat.le_refl _) _, HK5.out, .inl ⟨rfl, hinv, ?_, ?_⟩⟩⟩
              · have := HM5.out.setSt (Rs.execW x m).2
                rw [h6] at this ⊢
                exact this
              · rw [hst', show steps - (m.steps + 1) = steps - m.steps - 1 by omega]; exact hgo
              · rw [hst', show steps - (m.steps + 1) = steps - m.steps - 1 by omega]
          · rw [if_neg h6] at hgo
            have hgk := HGK.out
            go_roundg 0
            case measure => omega
            case rel => exact ⟨(Rs.execW x m).2, _, mv5, ov5, _, _, ⟨HM5.out.setSt _, HB5.out.setCell (Nat.le_refl _) _, HK5.out, .inr ⟨h6, hgo.symm, rfl⟩⟩⟩
end Go.Proofs.Ytaldcgfhlflcpaa
namespace Go.Proofs.Ytaldcgfhlflcpaa
open Go.RowKit
set_option maxRecDepth 100000
set_option linter.unusedVariables false
set_option linter.unusedSimpArgs false
set_option maxHeartbeats 8000000 in
set_option maxRecDepth 100000 in
theorem rrun_no (ac am : Option Addr) (cc cm lc lm : Nat) (words : Int) (inp : List UInt8) (steps : Int) (w : World) (hno : words < 0 ∨ 1048576 < words ∨ 1048576 < lc ∨ words < lm ∨ steps < 0) :
    Calls Try.prog 15 #[.agg #[.slice ac lc cc, .slice am lm cm, .int .i64 words], .string ⟨inp.toArray⟩, .int .i64 steps] w (RunYes (Rs.zero, 7) w) := by
  have hcases : words < 0 ∨ (0 ≤ words ∧ 1048576 < words) ∨ (0 ≤ words ∧ words ≤ 1048576 ∧ 1048576 < (lc : Int)) ∨ (0 ≤ words ∧ words ≤ 1048576 ∧ (lc : Int) ≤ 1048576 ∧ words < lm) ∨ (0 ≤ words ∧ words ≤ 1048576 ∧ (lc : Int) ≤ 1048576 ∧ (lm : Int) ≤ words ∧ steps < 0) := by omega
  clear hno
  rcases hcases with a1 | ⟨a1, a2⟩ | ⟨a1, a2, a3⟩ | ⟨a1, a2, a3, a4⟩ | ⟨a1, a2, a3, a4, a5⟩
  all_goals
    have hz := halt7_size
    have hst := hst7 ((w.alloc (.cells #[.slice ac lc cc, .slice am lm cm, .int .i64 words] 59)).alloc (.cells #[.int .i64 0, .int .i64 0, .string ⟨#[]⟩, .int .i64 0, .int .i64 0, .int .i64 0, .int .i64 0, .int .i64 0, .int .i64 0, .int .i64 0, .int .i64 0, .int .i64 0, .int .i64 0, .int .i64 0, .int .i64 0, .int .i64 0, .int .i64 0, .int .i64 0, .int .i64 0, .int .i64 0, .int .i64 0, .int .i64 0, .int .i64 0, .int .i64 0, .int .i64 0, .int .i64 0, .int .i64 0, .int .i64 0, .int .i64 0, .int .i64 0, .int .i64 0, .int .i64 0, .int .i64 0, .int .i64 0, .int .i64 0, .int .i64 0, .int .i64 0, .slice none 0 0] 36)) (w.heap.size + 1) 36 _ (heap_alloc2_new _ _ _) rfl
    have HG := Lib.hid (setRow_heap _ (w.heap.size + 1) _ halt7 36 (0, 0) (heap_alloc2_new w (.cells #[.slice ac lc cc, .slice am lm cm, .int .i64 words] 59) (.cells #[.int .i64 0, .int .i64 0, .string ⟨#[]⟩, .int .i64 0, .int .i64 0, .int .i64 0, .int .i64 0, .int .i64 0, .int .i64 0, .int .i64 0, .int .i64 0, .int .i64 0, .int .i64 0, .int .i64 0, .int .i64 0, .int .i64 0, .int .i64 0, .int .i64 0, .int .i64 0, .int .i64 0, .int .i64 0, .int .i64 0, .int .i64 0, .int .i64 0, .int .i64 0, .int .i64 0, .int .i64 0, .int .i64 0, .int .i64 0, .int .i64 0, .int .i64 0, .int .i64 0, .int .i64 0, .int .i64 0, .int .i64 0, .int .i64 0, .int .i64 0, .slice none 0 0] 36)))
    go_enter Try.func15, Try.ntmps15
    go_wp2_with (refine wpList_build7 rfl rfl ?_)
    refine bodyPost_ret (results_cell rfl _ _ (w.heap.size + 1) 36 halt7 (0, 0) haltD.choose rfl HG.out haltD.choose_spec.1 haltD.choose_spec.2 (by rw [hz]; exact haltSize)) rfl ?_
    exact run_no_end (below_setRow (((Below.refl _ _).alloc (Nat.le_refl _) _).alloc (by simp) _) (by omega) _)
theorem rrun_any (vc vm : Value) (code mem : List Int) (words : Int) (inp : List UInt8) (steps : Int) (w : World) (hc : Sl w vc (u32s code)) (hm : Sl w vm (i64s mem)) (hcr : ∀ x ∈ code, 0 ≤ x ∧ x < 4294967296) (hmr : ∀ x ∈ mem, Rs.InR x) (hs : steps ≤ 1000000000000) :
    Calls Try.prog 15 #[.agg #[vc, vm, .int .i64 words], .string ⟨inp.toArray⟩, .int .i64 steps] w (RunYes (Rs.runI code mem words inp steps) w) := by
  unfold Rs.runI
  by_cases hno : Rs.noImage code mem words steps
  · rw [if_pos hno]
    obtain ⟨ac, cc, rfl⟩ := hc.len
    obtain ⟨am, cm, rfl⟩ := hm.len
    refine rrun_no ac am cc cm _ _ words inp steps w ?_
    unfold Rs.noImage at hno
    simp only [u32s, i64s, List.length_map]
    omega
  · rw [if_neg hno]
    exact rrun_yes vc vm code mem words inp steps w hc hm hcr hmr hs hno
end Go.Proofs.Ytaldcgfhlflcpaa
