/- CopiedAgain, walked. -/
import Derived.Test.YtaldcgfhlflcpaaAJbq
namespace Go.Proofs.Ytaldcgfhlflcpaa
open Go.RowKit
set_option linter.unusedVariables false
set_option linter.unusedSimpArgs false
set_option maxRecDepth 100000
namespace Gc
set_option maxHeartbeats 16000000 in
theorem again_walk (x : Wd) (tv sv : Value) (a1 : Int) (w : World) (h27 : x.roots.length = 27) (ht : ThAt w tv x.things) (hs : WoAt w sv x.stack) : Calls Try.prog 3 #[.agg (x.cells tv sv).toArray, .int .i64 a1] w fun e w' => e = .returned (.bool true) ∧ Below w.heap.size w w' := by
  have HMD : Hid (∀ W, Below w.heap.size w W → Calls Try.prog 5 #[.agg (x.cells tv sv).toArray] W (MadePost x W)) := fun W hb => made_any x tv sv W h27 (ht.below hb) (hs.below hb)
  have hcl := cells_len x tv sv h27
  have k57 := (cells_at x tv sv h27).2.2.2.1
  have k0 := (cells_at x tv sv h27).1
  have HRQ : Hid (∀ (t N : Nat) (W : World) (v2 : Value), x.May → 1 ≤ t → t ≤ 3 → Alive x.env N → N ≤ x.sz → (N : Int) + x.wanted ≤ x.size → Below w.heap.size w W → Sg.ISrc W v2 Sg.gcL → Calls Try.prog 8 #[.agg (x.cells tv sv).toArray, .int .i64 (t : Nat), v2] W (RanQ x t N W)) := fun t N W v2 hm h1 h3 hN hNs hf hb hg => ranq_any x tv sv W hm (ht.below hb) (hs.below hb) t h1 h3 N hN hNs (.inr hf) v2 hg
  generalize x.cells tv sv = C at *
  have HC := Lib.hid hcl
  have HK57 := Lib.hid k57
  have HK0 := Lib.hid k0
  have hCS := worldSize C hcl
  clear ht hs k57 k0 hcl
  go_enter Try.func3, Try.ntmps3
  go_upto_region 1 with fail
  have HB0 := Lib.hid ((Below.refl w.heap.size w).alloc (Nat.le_refl _) (.cells C.toArray 28))
  have HBX := Lib.hid (heap_alloc_new w (.cells C.toArray 28))
  generalize w.alloc (.cells C.toArray 28) = W at HB0 HBX ⊢
  have RX := Lib.hid (row_rangeAt HBX.out)
  have hbx : Hid (w.heap.size < W.heap.size) := (Array.getElem?_eq_some_iff.1 HBX.out).1
  go_wp2_with (first
    | (refine wpList_load_r 28 (.tmp 2) rfl rfl w.heap.size 0 rfl C _ RX.out Try.underlying28 rfl hCS ?_)
    | fail)
  with_reducible refine (HMD.out _ HB0.out).mono ?_
  rintro e w1 ⟨hb1, ⟨hm, am, cm, R, mem, rfl, hsl, hbef, h26, hinr, -⟩ | ⟨hno, rfl⟩⟩
  · obtain ⟨N, hN, hNs⟩ := alive_ex (Wd.env_ok hm)
    have HNA := Lib.hid hN
    have HB1 := Lib.hid (HB0.out.trans (hb1.mono HB0.out.size))
    have HX1 := Lib.hid ((hb1.block w.heap.size hbx.out).trans HBX.out)
    have HS1 := Lib.hid hsl
    have HBEF := Lib.hid hbef
    clear hb1 hsl hbef h26 hinr hN
    go_upto_region 2 with (first
      | (refine wpList_store_r rfl 30 (.tmp 6) (.tmp 17) rfl w1.heap.size 30 #[.int .i64 0, .int .i64 0, .int .i64 0, .int .i64 0, .int .i64 0, .int .i64 0, .int .i64 0, .int .i64 0, .int .i64 0, .int .i64 0, .int .i64 0, .int .i64 0, .int .i64 0, .int .i64 0, .int .i64 0, .int .i64 0, .int .i64 0, .int .i64 0, .int .i64 0, .int .i64 0, .int .i64 0, .int .i64 0, .int .i64 0, .int .i64 0, .int .i64 0, .int .i64 0, .int .i64 0, .int .i64 0, .int .i64 0, .int .i64 0, .int .i64 0, .int .i64 0] (regsV R) rfl rfl (heap_alloc_new w1 _) (by simp [regsV]) (regsV_size _) (regs_one R) ?_; intro w2 hw2; have HW2 := Lib.hid hw2; clear hw2)
      | fail)
    have HB12 : Hid (Below w1.heap.size w1 w2) := by unfold Hid; rw [HW2.out]; exact below_setRow ((Below.refl w1.heap.size w1).alloc (Nat.le_refl _) _) (Nat.le_refl _) _
    have HG2 : Hid (w2.heap[w1.heap.size]? = some (.cells (regsV R).toArray 30 (0, 0))) := by unfold Hid; rw [HW2.out]; exact setRow_heap _ _ _ _ _ _ (heap_alloc_new w1 _)
    have HB2 := Lib.hid (HB1.out.trans (HB12.out.mono HB1.out.size))
    have HX2 := Lib.hid ((HB12.out.block w.heap.size (Array.getElem?_eq_some_iff.1 HX1.out).1).trans HX1.out)
    have HS2 := Lib.hid (HS1.out.below HB12.out (Nat.le_refl _))
    generalize w1.heap.size = bg at HG2 ⊢
    clear HW2 HB1 HX1 HS1 HB12 HB0 HBX RX
    have hnb : N ≤ x.sz := hNs
    have hmz := hm.size
    have hmw := hm.wanted
    have hszz : (x.sz : Int) = x.size := by unfold Wd.sz; omega
    have HMAY := Lib.hid hm
    have HNS := Lib.hid hNs
    have HRG := Lib.hid (regs_rangeAt HG2.out)
    have hbgl : bg < w2.heap.size := (Array.getElem?_eq_some_iff.1 HG2.out).1
    have hbxl : w.heap.size < w2.heap.size := (Array.getElem?_eq_some_iff.1 HX2.out).1
    have HBGL := Lib.hid hbgl
    have HBXL := Lib.hid hbxl
    have HLV : Hid (∀ W, Below w2.heap.size w2 W → Calls Try.prog 7 #[.slice am mem.length cm, .agg (regsV R).toArray] W fun en w' => en = .returned (.int .i64 (N : Nat)) ∧ Below W.heap.size W w') := fun W hb => living_any x.env (Wd.env_ok HMAY.out) R mem HBEF.out N HNA.out HMAY.out.stack (by show x.sz ≤ 500; omega) am cm W (HS2.out.below hb (Nat.le_refl _))
    have e0 : w2.cell? ⟨w.heap.size, 0, none⟩ = some (.int .i64 x.size) := by
      rw [cell_of_row _ _ _ _ _ _ HX2.out]; simpa using HK0.out
    have e57 : w2.cell? ⟨w.heap.size, 57, none⟩ = some (.int .i64 x.wanted) := by
      rw [cell_of_row _ _ _ _ _ _ HX2.out]; simpa using HK57.out
    have y1 : IntKind.i64.wrap ((N : Int) + x.wanted) = (N : Int) + x.wanted := by rw [IntKind.wrap_i64]; omega
    have hu30 := Try.underlying30
    have hi30 : (Try.prog.info? 30).map (·.size) = some (regsV R).length := regsV_size _
    clear hm hNs hbx hbgl hbxl
    have HD2 := Lib.hid (Below.refl w2.heap.size w2).drew
    have HSA : Hid (∀ y, Below w2.heap.size w2 y → y.rangeAt bg 0 (regsV R) ∧ y.cell? ⟨w.heap.size, 0, none⟩ = some (.int .i64 x.size) ∧ y.cell? ⟨w.heap.size, 57, none⟩ = some (.int .i64 x.wanted)) := fun y hy => ⟨fun j v hv => (hy.cell (p := ⟨bg, 0 + j, none⟩) HBGL.out).trans (HRG.out j v hv), (hy.cell (p := ⟨w.heap.size, 0, none⟩) HBXL.out).trans e0, (hy.cell (p := ⟨w.heap.size, 57, none⟩) HBXL.out).trans e57⟩
    revert hi30 HSA HLV HRG
    generalize hZ0 : regsV R = Z0
    have HZ0 := Lib.hid hZ0
    clear hZ0
    intro HRG HLV hi30 HSA
    by_cases hin : 1 ≤ a1 ∧ a1 ≤ 3 ∧ (N : Int) + x.wanted ≤ x.size
    · obtain ⟨hin1, hin3, hfit⟩ := hin
      obtain ⟨t, hta⟩ : ∃ t : Nat, a1 = t := ⟨a1.toNat, by omega⟩
      have p1 : ¬ a1 < 1 := by omega
      have p2 : ¬ (3 : Int) < a1 := by omega
      have p3 : ¬ x.size < (N : Int) + x.wanted := by omega
      have ht1 : 1 ≤ t := by omega
      have hd1 : decide (a1 < 1) = false := decide_eq_false p1
      have hd2 : decide (3 < a1) = false := decide_eq_false p2
      have hd3 : decide (x.size < (N : Int) + x.wanted) = false := decide_eq_false p3
      clear p1 p2 p3
      have ht3 : t ≤ 3 := by omega
      have HTA := Lib.hid hta
      clear hin1 hin3 hta
      go_wp2_with fail
      go_cut [43] from 19 to 43 (fun s43 wx => s43 = .bool false ∧ Hid (Below w2.heap.size w2 wx))
      case first =>
        go_region_held3 (fun w' => w'.rangeAt bg 0 Z0 ∧ w'.cell? ⟨w.heap.size, 0, none⟩ = some (.int .i64 x.size) ∧ w'.cell? ⟨w.heap.size, 57, none⟩ = some (.int .i64 x.wanted))
          (first | with_reducible exact HSA.out _ HD2.out | with_reducible exact HSA.out _ HB3.out | with_reducible exact HSA.out _ HB4.out | exact HSA.out _ HD2.out)
          (first
            | (go_at_call 6; (with_reducible refine (fixed_22 _).mono ?_); rintro e w3 ⟨rfl, hb3⟩; have HB3 : Hid (Below w2.heap.size w2 w3) := Lib.hid (HD2.out.trans (hb3.mono HD2.out.size)); clear hb3)
            | (go_at_call 7; (with_reducible refine (HLV.out _ HB3.out).mono ?_); rintro e w4 ⟨rfl, hb4⟩; have HB4 : Hid (Below w2.heap.size w2 w4) := Lib.hid (HB3.out.trans (hb4.mono HB3.out.size)); clear hb4))
        all_goals
          go_wp2_with fail
          go_meet
          case rel => exact ⟨rfl, HB4⟩
      case rest =>
        obtain ⟨rfl, HBc⟩ := hcut
        have HBw := Lib.hid (HB2.out.trans (HBc.out.mono HB2.out.size))
        have HX3 := Lib.hid ((HBc.out.block w.heap.size HBXL.out).trans HX2.out)
        have HRQ2 : Hid (∀ (W : World) (v2 : Value), Below wc.heap.size wc W → Sg.ISrc W v2 Sg.gcL → Calls Try.prog 8 #[.agg C.toArray, .int .i64 a1, v2] W (RanQ x t N W)) := fun W v2 hb hg => by
          rw [HTA.out]
          exact HRQ.out t N W v2 HMAY.out ht1 ht3 HNA.out HNS.out hfit (HBw.out.trans (hb.mono HBw.out.size)) hg
        clear hd1 hd2 hd3 HD2 e0 e57 y1
        go_upto_region 4 with fail
        go_cut [8, 9] from 45 to 51 (fun s8 s9 wx => ∃ (hb : Nat) (m : Rs.M) (a : Option Addr) (c : Nat), s8 = .pointer (some ⟨hb, 0, none⟩) ∧ s9 = .bool true ∧ Hid (HaltAt wx hb 0 m (.slice a m.mem.length c)) ∧ Hid (Sl wx (.slice a m.mem.length c) (i64s m.mem)) ∧ Hid (RanF x t N m) ∧ Hid (Below wc.heap.size wc wx))
        case first =>
          have HD := Lib.hid (Below.refl wc.heap.size wc).drew
          have HXK : Hid (∀ W, Below wc.heap.size wc W → W.heap[w.heap.size]? = some (.cells C.toArray 28 (0, 0))) := fun W hb => (hb.block _ (Array.getElem?_eq_some_iff.1 HX3.out).1).trans HX3.out
          refine wp_region_noPanic ?_
          refine wp_region_held_drew (S := fun w' => w'.heap[w.heap.size]? = some (.cells C.toArray 28 (0, 0))) (by kernel_rfl) (HXK.out _ HD.out) (fun hHeld => ?_)
          refine wpAnyH_take (i := 0) (v := .agg C.toArray) rfl (by kernel_rfl) (by kernel_rfl) (by kernel_rfl) (fun _ _ _ h => h) (yieldsIf_load_mid (by rfl) 28 (.tmp 2) rfl w.heap.size 0 rfl C _ (fun W h => row_rangeAt h) Try.underlying28 rfl hCS) hHeld ?_
          try simp only [List.getElem_toArray, List.getElem_cons_succ, List.getElem_cons_zero, Act.put, List.setIfInBounds_toArray, List.set_cons_zero, List.set_cons_succ]
          refine wpAnyH_take (i := 1) (v := (.int .i64 a1)) rfl (by kernel_rfl) (by kernel_rfl) (by kernel_rfl) (fun _ _ _ h => h) (Or.inl ⟨by rfl, fun _ _ => by rfl⟩) hHeld ?_
          try simp only [List.getElem_toArray, List.getElem_cons_succ, List.getElem_cons_zero, Act.put, List.setIfInBounds_toArray, List.set_cons_zero, List.set_cons_succ]
          refine wpAnyH_ready (rs := [2, 7]) (by kernel_rfl) (by simp) ?_
          refine (AllReadyH.cons rfl (fun K1 hK1 => ?wA) (AllReadyH.cons rfl (fun K1 hK1 => ?wB) AllReadyH.nil))
          case wA =>
            clear hHeld
            go_simp
            go_at_call 9
            with_reducible refine (Sg.gc_Code _).mono ?_
            rintro e w4 ⟨v4, rfl, ho4, hb4⟩
            have HV4 := Lib.hid (Sg.ISrc.own ho4)
            have HB4 : Hid (Below wc.heap.size wc w4) := Lib.hid (HD.out.trans (hb4.mono HD.out.size))
            clear ho4 hb4
            go_wp2_with fail
            refine hK1.out _ _ (HXK.out _ (HB4.out)) (fun hHeld => ?_)
            clear hK1 K1
            try simp only [List.getElem_toArray, List.getElem_cons_succ, List.getElem_cons_zero, Act.put, List.setIfInBounds_toArray, List.set_cons_zero, List.set_cons_succ]
            refine wpAnyH_ready (rs := [3, 7]) (by kernel_rfl) (by simp) ?_
            refine (AllReadyH.cons rfl (fun K2 hK2 => ?wA1) (AllReadyH.cons rfl (fun K2 hK2 => ?wA2) AllReadyH.nil))
            case wA1 =>
              clear hHeld
              go_simp
              go_at_call 8
              with_reducible refine (HRQ2.out _ _ HB4.out HV4.out).mono ?_
              rintro e w5 ⟨m, a, c, rfl, hsl, hrl, hb5, hab, hrf⟩
              have HRF := Lib.hid hrf
              have HSL := Lib.hid hsl
              have HAB := Lib.hid hab
              have hln := halt_len' (st := 0) (mv := (.slice a m.mem.length c)) hrl
              have HB5 : Hid (Below wc.heap.size wc w5) := Lib.hid (HB4.out.trans (hb5.mono HB4.out.size))
              have hst := halt_store w5 0 m (.slice a m.mem.length c) hrl rfl
              clear hsl hab hrf hb5
              go_wp2_with fail
              refine hK2.out _ _ (HXK.out _ (HB5.out)) (fun hHeld => ?_)
              clear hK2 K2
              try simp only [List.getElem_toArray, List.getElem_cons_succ, List.getElem_cons_zero, Act.put, List.setIfInBounds_toArray, List.set_cons_zero, List.set_cons_succ]
              refine wpAnyH_take (i := 4) (v := (.tuple #[.agg (Rs.halt 0 m (.slice a m.mem.length c)).toArray, .bool true])) rfl (by kernel_rfl) (by kernel_rfl) (by kernel_rfl) (fun _ _ _ h => h) (Or.inl ⟨by rfl, fun _ _ => by rfl⟩) hHeld ?_
              try simp only [List.getElem_toArray, List.getElem_cons_succ, List.getElem_cons_zero, Act.put, List.setIfInBounds_toArray, List.set_cons_zero, List.set_cons_succ]
              refine wpAnyH_take (i := 5) (v := (.agg (Rs.halt 0 m (.slice a m.mem.length c)).toArray)) rfl (by kernel_rfl) (by kernel_rfl) (by kernel_rfl) (fun _ _ _ h => h) (Or.inl ⟨by rfl, fun _ _ => by rfl⟩) hHeld ?_
              try simp only [List.getElem_toArray, List.getElem_cons_succ, List.getElem_cons_zero, Act.put, List.setIfInBounds_toArray, List.set_cons_zero, List.set_cons_succ]
              refine wpAnyH_take (i := 6) (v := (.bool true)) rfl (by kernel_rfl) (by kernel_rfl) (by kernel_rfl) (fun _ _ _ h => h) (Or.inl ⟨by rfl, fun _ _ => by rfl⟩) hHeld ?_
              try simp only [List.getElem_toArray, List.getElem_cons_succ, List.getElem_cons_zero, Act.put, List.setIfInBounds_toArray, List.set_cons_zero, List.set_cons_succ]
              refine wpAnyH_ready (rs := [7]) (by kernel_rfl) (by simp) ?_
              refine (AllReadyH.cons rfl (fun K3 hK3 => ?wS3) AllReadyH.nil)
              clear hHeld
              go_simp
              refine hK3.out _ _ (HXK.out _ (HB5.out.alloc HB5.out.size _)) (fun hHeld => ?_)
              clear hK3 K3
              try simp only [List.getElem_toArray, List.getElem_cons_succ, List.getElem_cons_zero, Act.put, List.setIfInBounds_toArray, List.set_cons_zero, List.set_cons_succ]
              refine wpAnyH_ready (rs := [8]) (by kernel_rfl) (by simp) ?_
              refine (AllReadyH.cons rfl (fun K5 hK5 => ?wT4) AllReadyH.nil)
              clear hHeld
              go_simp
              refine hK5.out _ _ (HXK.out _ (HB5.out.alloc HB5.out.size _)) (fun hHeld => ?_)
              clear hK5 K5
              try simp only [List.getElem_toArray, List.getElem_cons_succ, List.getElem_cons_zero, Act.put, List.setIfInBounds_toArray, List.set_cons_zero, List.set_cons_succ]
              refine wpAnyH_take (i := 9) (v := (.bool true)) rfl (by kernel_rfl) (by kernel_rfl) (by kernel_rfl) (fun _ _ _ h => h) (Or.inl ⟨by rfl, fun _ _ => by rfl⟩) hHeld ?_
              try simp only [List.getElem_toArray, List.getElem_cons_succ, List.getElem_cons_zero, Act.put, List.setIfInBounds_toArray, List.set_cons_zero, List.set_cons_succ]
              refine wpAnyH_done (by kernel_rfl) ?_ _
              refine NoPanic.normal ?_
              go_wp2_with fail
              go_meet
              case rel => exact ⟨_, m, a, c, rfl, rfl, HaltAt.new w5 hrl, HSL.out.below ((Below.refl w5.heap.size w5).alloc (Nat.le_refl _) _) (Nat.le_refl _), HRF, HB5.out.alloc HB5.out.size _⟩
            case wA2 =>
              clear hHeld
              go_simp
              refine hK2.out _ _ (HXK.out _ (HB4.out.alloc HB4.out.size _)) (fun hHeld => ?_)
              clear hK2 K2
              try simp only [List.getElem_toArray, List.getElem_cons_succ, List.getElem_cons_zero, Act.put, List.setIfInBounds_toArray, List.set_cons_zero, List.set_cons_succ]
              refine wpAnyH_ready (rs := [3]) (by kernel_rfl) (by simp) ?_
              refine (AllReadyH.cons rfl (fun K3 hK3 => ?wR5) AllReadyH.nil)
              clear hHeld
              go_simp
              go_at_call 8
              with_reducible refine (HRQ2.out _ _ (HB4.out.alloc HB4.out.size _) (HV4.out.below ((Below.refl w4.heap.size w4).alloc (Nat.le_refl _) _) (Nat.le_refl _))).mono ?_
              rintro e w5 ⟨m, a, c, rfl, hsl, hrl, hb5, hab, hrf⟩
              have HRF := Lib.hid hrf
              have HSL := Lib.hid hsl
              have HAB := Lib.hid hab
              have hln := halt_len' (st := 0) (mv := (.slice a m.mem.length c)) hrl
              have HB5 : Hid (Below wc.heap.size wc w5) := Lib.hid ((HB4.out.alloc HB4.out.size _).trans (hb5.mono (by have := HB4.out.size; simp; omega)))
              have HZ5 : Hid (w5.heap[w4.heap.size]? = some (.cells halt0 36 (0, 0))) := (hb5.block w4.heap.size (by simp)).trans (heap_alloc_new w4 _)
              have HLT : Hid (∀ b o s, a = some ⟨b, o, s⟩ → w4.heap.size < b) := fun b o s e => Nat.lt_of_lt_of_le (by simp) (HAB.out b o s e)
              have hst := halt_put (mv := (.slice a m.mem.length c)) hrl rfl HZ5.out
              clear hsl hab hrf hb5
              go_wp2_with fail
              refine hK3.out _ _ (HXK.out _ (HB5.out)) (fun hHeld => ?_)
              clear hK3 K3
              try simp only [List.getElem_toArray, List.getElem_cons_succ, List.getElem_cons_zero, Act.put, List.setIfInBounds_toArray, List.set_cons_zero, List.set_cons_succ]
              refine wpAnyH_take (i := 4) (v := (.tuple #[.agg (Rs.halt 0 m (.slice a m.mem.length c)).toArray, .bool true])) rfl (by kernel_rfl) (by kernel_rfl) (by kernel_rfl) (fun _ _ _ h => h) (Or.inl ⟨by rfl, fun _ _ => by rfl⟩) hHeld ?_
              try simp only [List.getElem_toArray, List.getElem_cons_succ, List.getElem_cons_zero, Act.put, List.setIfInBounds_toArray, List.set_cons_zero, List.set_cons_succ]
              refine wpAnyH_take (i := 5) (v := (.agg (Rs.halt 0 m (.slice a m.mem.length c)).toArray)) rfl (by kernel_rfl) (by kernel_rfl) (by kernel_rfl) (fun _ _ _ h => h) (Or.inl ⟨by rfl, fun _ _ => by rfl⟩) hHeld ?_
              try simp only [List.getElem_toArray, List.getElem_cons_succ, List.getElem_cons_zero, Act.put, List.setIfInBounds_toArray, List.set_cons_zero, List.set_cons_succ]
              refine wpAnyH_take (i := 6) (v := (.bool true)) rfl (by kernel_rfl) (by kernel_rfl) (by kernel_rfl) (fun _ _ _ h => h) (Or.inl ⟨by rfl, fun _ _ => by rfl⟩) hHeld ?_
              try simp only [List.getElem_toArray, List.getElem_cons_succ, List.getElem_cons_zero, Act.put, List.setIfInBounds_toArray, List.set_cons_zero, List.set_cons_succ]
              refine wpAnyH_ready (rs := [8]) (by kernel_rfl) (by simp) ?_
              refine (AllReadyH.cons rfl (fun K5 hK5 => ?wT6) AllReadyH.nil)
              clear hHeld
              go_simp
              refine hK5.out _ _ (HXK.out _ (below_setRow HB5.out HB4.out.size _)) (fun hHeld => ?_)
              clear hK5 K5
              try simp only [List.getElem_toArray, List.getElem_cons_succ, List.getElem_cons_zero, Act.put, List.setIfInBounds_toArray, List.set_cons_zero, List.set_cons_succ]
              refine wpAnyH_take (i := 9) (v := (.bool true)) rfl (by kernel_rfl) (by kernel_rfl) (by kernel_rfl) (fun _ _ _ h => h) (Or.inl ⟨by rfl, fun _ _ => by rfl⟩) hHeld ?_
              try simp only [List.getElem_toArray, List.getElem_cons_succ, List.getElem_cons_zero, Act.put, List.setIfInBounds_toArray, List.set_cons_zero, List.set_cons_succ]
              refine wpAnyH_done (by kernel_rfl) ?_ _
              refine NoPanic.normal ?_
              go_wp2_with fail
              go_meet
              case rel => exact ⟨_, m, a, c, rfl, rfl, ⟨setRow_heap _ _ _ _ _ _ HZ5.out, hrl⟩, sl_setRow HSL.out HLT.out _, HRF, below_setRow HB5.out HB4.out.size _⟩
          case wB =>
            clear hHeld
            go_simp
            refine hK1.out _ _ (HXK.out _ (HD.out.alloc HD.out.size _)) (fun hHeld => ?_)
            clear hK1 K1
            try simp only [List.getElem_toArray, List.getElem_cons_succ, List.getElem_cons_zero, Act.put, List.setIfInBounds_toArray, List.set_cons_zero, List.set_cons_succ]
            refine wpAnyH_ready (rs := [2]) (by kernel_rfl) (by simp) ?_
            refine (AllReadyH.cons rfl (fun K2 hK2 => ?wC7) AllReadyH.nil)
            clear hHeld
            go_simp
            go_at_call 9
            with_reducible refine (Sg.gc_Code _).mono ?_
            rintro e w4 ⟨v4, rfl, ho4, hb4⟩
            have HV4 := Lib.hid (Sg.ISrc.own ho4)
            have HB4 : Hid (Below wc.heap.size wc w4) := Lib.hid ((HD.out.alloc HD.out.size _).trans (hb4.mono (by have := HD.out.size; simp)))
            have HZ4 : Hid (w4.heap[wc.heap.size]? = some (.cells halt0 36 (0, 0))) := (hb4.block wc.heap.size (by simp)).trans (heap_alloc_new wc _)
            clear ho4 hb4
            go_wp2_with fail
            refine hK2.out _ _ (HXK.out _ (HB4.out)) (fun hHeld => ?_)
            clear hK2 K2
            try simp only [List.getElem_toArray, List.getElem_cons_succ, List.getElem_cons_zero, Act.put, List.setIfInBounds_toArray, List.set_cons_zero, List.set_cons_succ]
            refine wpAnyH_ready (rs := [3]) (by kernel_rfl) (by simp) ?_
            refine (AllReadyH.cons rfl (fun K3 hK3 => ?wR8) AllReadyH.nil)
            clear hHeld
            go_simp
            go_at_call 8
            with_reducible refine (HRQ2.out _ _ HB4.out HV4.out).mono ?_
            rintro e w5 ⟨m, a, c, rfl, hsl, hrl, hb5, hab, hrf⟩
            have HRF := Lib.hid hrf
            have HSL := Lib.hid hsl
            have HAB := Lib.hid hab
            have hln := halt_len' (st := 0) (mv := (.slice a m.mem.length c)) hrl
            have HB5 : Hid (Below wc.heap.size wc w5) := Lib.hid (HB4.out.trans (hb5.mono HB4.out.size))
            have HZ5 : Hid (w5.heap[wc.heap.size]? = some (.cells halt0 36 (0, 0))) := (hb5.block wc.heap.size (Array.getElem?_eq_some_iff.1 HZ4.out).1).trans HZ4.out
            have HLT : Hid (∀ b o s, a = some ⟨b, o, s⟩ → wc.heap.size < b) := fun b o s e => Nat.lt_of_lt_of_le (Array.getElem?_eq_some_iff.1 HZ4.out).1 (HAB.out b o s e)
            have hst := halt_put (mv := (.slice a m.mem.length c)) hrl rfl HZ5.out
            clear hsl hab hrf hb5
            go_wp2_with fail
            refine hK3.out _ _ (HXK.out _ (HB5.out)) (fun hHeld => ?_)
            clear hK3 K3
            try simp only [List.getElem_toArray, List.getElem_cons_succ, List.getElem_cons_zero, Act.put, List.setIfInBounds_toArray, List.set_cons_zero, List.set_cons_succ]
            refine wpAnyH_take (i := 4) (v := (.tuple #[.agg (Rs.halt 0 m (.slice a m.mem.length c)).toArray, .bool true])) rfl (by kernel_rfl) (by kernel_rfl) (by kernel_rfl) (fun _ _ _ h => h) (Or.inl ⟨by rfl, fun _ _ => by rfl⟩) hHeld ?_
            try simp only [List.getElem_toArray, List.getElem_cons_succ, List.getElem_cons_zero, Act.put, List.setIfInBounds_toArray, List.set_cons_zero, List.set_cons_succ]
            refine wpAnyH_take (i := 5) (v := (.agg (Rs.halt 0 m (.slice a m.mem.length c)).toArray)) rfl (by kernel_rfl) (by kernel_rfl) (by kernel_rfl) (fun _ _ _ h => h) (Or.inl ⟨by rfl, fun _ _ => by rfl⟩) hHeld ?_
            try simp only [List.getElem_toArray, List.getElem_cons_succ, List.getElem_cons_zero, Act.put, List.setIfInBounds_toArray, List.set_cons_zero, List.set_cons_succ]
            refine wpAnyH_take (i := 6) (v := (.bool true)) rfl (by kernel_rfl) (by kernel_rfl) (by kernel_rfl) (fun _ _ _ h => h) (Or.inl ⟨by rfl, fun _ _ => by rfl⟩) hHeld ?_
            try simp only [List.getElem_toArray, List.getElem_cons_succ, List.getElem_cons_zero, Act.put, List.setIfInBounds_toArray, List.set_cons_zero, List.set_cons_succ]
            refine wpAnyH_ready (rs := [8]) (by kernel_rfl) (by simp) ?_
            refine (AllReadyH.cons rfl (fun K5 hK5 => ?wT9) AllReadyH.nil)
            clear hHeld
            go_simp
            refine hK5.out _ _ (HXK.out _ (below_setRow HB5.out (Nat.le_refl _) _)) (fun hHeld => ?_)
            clear hK5 K5
            try simp only [List.getElem_toArray, List.getElem_cons_succ, List.getElem_cons_zero, Act.put, List.setIfInBounds_toArray, List.set_cons_zero, List.set_cons_succ]
            refine wpAnyH_take (i := 9) (v := (.bool true)) rfl (by kernel_rfl) (by kernel_rfl) (by kernel_rfl) (fun _ _ _ h => h) (Or.inl ⟨by rfl, fun _ _ => by rfl⟩) hHeld ?_
            try simp only [List.getElem_toArray, List.getElem_cons_succ, List.getElem_cons_zero, Act.put, List.setIfInBounds_toArray, List.set_cons_zero, List.set_cons_succ]
            refine wpAnyH_done (by kernel_rfl) ?_ _
            refine NoPanic.normal ?_
            go_wp2_with fail
            go_meet
            case rel => exact ⟨_, m, a, c, rfl, rfl, ⟨setRow_heap _ _ _ _ _ _ HZ5.out, hrl⟩, sl_setRow HSL.out HLT.out _, HRF, below_setRow HB5.out (Nat.le_refl _) _⟩
        case rest =>
          obtain ⟨hb, m, a, c, rfl, rfl, A1, HM, HRF, HB6⟩ := hcut
          obtain ⟨hval, e', R', L, ok', B2', hregs, h29, hpar, hpl⟩ := HRF.out.1 hfit
          have HBx := Lib.hid (HBc.out.trans (HB6.out.mono HBc.out.size))
          have hml : m.mem.length = mem.length := (B2'.len.trans L.len).trans HBEF.out.len.symm
          have hlen : mem.length = 42 + x.s + 2 * x.sz := HBEF.out.len
          have c0 := A1.out.c0
          have c1 := A1.out.c1
          rw [hval] at c1
          have c37 := A1.out.c37
          obtain ⟨wt, hwt⟩ : ∃ n : Nat, e'.lo = n := ⟨_, rfl⟩
          obtain ⟨H2, hH2⟩ : ∃ n : Nat, e'.lo + N = n := ⟨_, rfl⟩
          have hwb : wt + N = H2 := by rw [← hwt]; exact hH2
          have hwsm : wt ≤ 1048576 := by
            have h1 := (Wd.env_ok HMAY.out).top
            have h2 := (Wd.env_ok HMAY.out).small
            have h3 : x.env.hi = x.env.lo + x.env.size := Wd.env_hi
            rw [hwt] at hpar
            split at hpar <;> omega
          have c34 : wc.cell? ⟨hb, 34, none⟩ = some (.int .i64 (H2 : Nat)) := (A1.out.cR (i := 29) (by omega)).trans (by rw [regs_getD hregs (by omega), h29, hH2])
          obtain ⟨bm, om, rfl, hbm, hcell⟩ := int_at HM.out rfl (by omega)
          have c28 := hcell 28 (by omega)
          rw [B2'.m28, hwt] at c28
          obtain ⟨ba, oa, rfl, hba, hcm⟩ := int_at HS2.out rfl (by omega)
          have d28 := hcm 28 (by omega)
          have d30 := hcm 30 (by omega)
          rw [HBEF.out.m28] at d28
          rw [HBEF.out.m30] at d30
          have HR1 : Hid (wc.rangeAt hb 5 (regsV R')) := fun j v hv => by
            have hj := (List.getElem?_eq_some_iff.1 hv).1
            rw [show (regsV R').length = 32 by simp [regsV]] at hj
            rw [regsV_get R' hj] at hv
            cases hv
            rw [A1.out.cR hj, regs_getD hregs hj]
          have HAL : Hid (∀ W, Below wc.heap.size wc W → Calls Try.prog 10 #[.slice (some ⟨ba, oa, none⟩) mem.length cm, .agg Z0.toArray, .slice (some ⟨bm, om, none⟩) m.mem.length c, .agg (regsV R').toArray, .int .i64 (wt : Nat), .int .i64 (H2 : Nat)] W fun en w' => en = .returned (.tuple #[.int .i64 (N : Nat), .bool true]) ∧ Below W.heap.size W w') := fun W hb => by
            rw [← HZ0.out]
            refine alike_any x.env e' (Wd.env_ok HMAY.out) ok' L R R' mem m.mem HBEF.out B2' N HNA.out (wt : Nat) (H2 : Nat) (fun j hj => ⟨?_, ?_⟩) HMAY.out.stack (by show x.sz ≤ 500; omega) _ _ cm c W ((HS2.out.below HBx.out (Nat.le_refl _)).below hb (Nat.le_refl _)) (HM.out.below hb (Nat.le_refl _))
            · have h1 := (ok'.in_ j ((L.R j).2 hj)).1
              rw [hwt] at h1
              omega
            · have h1 := hpl j hj
              rw [hH2] at h1
              omega
          have HLV2 : Hid (∀ W, Below wc.heap.size wc W → Calls Try.prog 7 #[.slice (some ⟨ba, oa, none⟩) mem.length cm, .agg Z0.toArray] W fun en w' => en = .returned (.int .i64 (N : Nat)) ∧ Below W.heap.size W w') := fun W hb => HLV.out W (HBx.out.trans (hb.mono HBx.out.size))
          have hRG := (HSA.out _ HBx.out).1
          have d28' : wc.cell? ⟨ba, oa + 28, none⟩ = some (.int .i64 (x.env.lo : Nat)) := (HBx.out.cell (p := ⟨ba, oa + 28, none⟩) hba).trans d28
          have d30' : wc.cell? ⟨ba, oa + 30, none⟩ = some (.int .i64 (x.env.oth : Nat)) := (HBx.out.cell (p := ⟨ba, oa + 30, none⟩) hba).trans d30
          have hbal : ba < wc.heap.size := by have := HBx.out.size; omega
          have hbb : hb < wc.heap.size := (Array.getElem?_eq_some_iff.1 A1.out.blk).1
          have hbgl : bg < wc.heap.size := by have := HBx.out.size; have := HBGL.out; omega
          have HEND := Lib.hid (HB2.out.trans (HBx.out.mono HB2.out.size))
          obtain ⟨ml, hml2⟩ : ∃ n, mem.length = n := ⟨_, rfl⟩
          rw [hml, hml2] at c37 HAL
          rw [hml2] at HLV2
          rw [hml2] at hlen
          have q28 : (28 : Int) < (ml : Nat) := by omega
          have q30 : (30 : Int) < (ml : Nat) := by omega
          have y2 : IntKind.i64.wrap ((wt : Int) + (N : Int)) = (H2 : Int) := by rw [IntKind.wrap_i64]; omega
          have hi31 : (Try.prog.info? 30).map (·.size) = some (regsV R').length := regsV_size _
          rw [hwt] at hpar
          have hta := HTA.out
          have hrm : a1.tmod 2 = ((t % 2 : Nat) : Int) := by rw [hta, Int.tmod_eq_emod_of_nonneg (by omega)]; omega
          have HBB := Lib.hid hbb
          have HBGW := Lib.hid hbgl
          have HBAL := Lib.hid hbal
          have HBM := Lib.hid hbm
          rw [hml2]
          clear hml hml2 hval ok' B2' hregs h29 hpl hwt hH2 hcell hcm d28 d30 A1 HM HRF HS2 HRQ HRQ2 HMD HC HK57 HK0 hCS HX2 HX3 HLV HSA hwb hwsm hbb hbgl hbal hbm hba hta hlen L
          revert hi31 HR1 HAL
          generalize regsV R' = Z1
          intro HR1 HAL hi31
          have HSB : Hid (∀ y, Below wc.heap.size wc y → y.rangeAt bg 0 Z0 ∧ y.rangeAt hb 5 Z1 ∧ y.cell? ⟨hb, 37, none⟩ = some (.slice (some ⟨bm, om, none⟩) ml c) ∧ y.cell? ⟨hb, 34, none⟩ = some (.int .i64 (H2 : Nat)) ∧ y.cell? ⟨bm, om + 28, none⟩ = some (.int .i64 (wt : Nat))) := fun y hy => ⟨fun j v hv => (hy.cell (p := ⟨bg, 0 + j, none⟩) HBGW.out).trans (hRG j v hv), fun j v hv => (hy.cell (p := ⟨hb, 5 + j, none⟩) HBB.out).trans (HR1.out j v hv), (hy.cell (p := ⟨hb, 37, none⟩) HBB.out).trans c37, (hy.cell (p := ⟨hb, 34, none⟩) HBB.out).trans c34, (hy.cell (p := ⟨bm, om + 28, none⟩) HBM.out).trans c28⟩
          have HDc := Lib.hid (Below.refl wc.heap.size wc).drew
          go_wp2_with fail
          refine wp_region_noPanic ?_
          refine wp_region_held_drew (S := (fun w' => w'.rangeAt bg 0 Z0 ∧ w'.rangeAt hb 5 Z1 ∧ w'.cell? ⟨hb, 37, none⟩ = some (.slice (some ⟨bm, om, none⟩) ml c) ∧ w'.cell? ⟨hb, 34, none⟩ = some (.int .i64 (H2 : Nat)) ∧ w'.cell? ⟨bm, om + 28, none⟩ = some (.int .i64 (wt : Nat)))) (by kernel_rfl) (HSB.out _ HDc.out) (fun hHeld => ?_)
          refine wpAnyH_take (i := 0) (v := (.slice (some ⟨ba, oa, none⟩) ml cm)) rfl (by kernel_rfl) (by kernel_rfl) (by kernel_rfl) (fun _ _ _ h => h) (Or.inl ⟨by rfl, fun W9 hS9 => by first | rfl | ((try dsimp only at hS9); go_simp)⟩) hHeld ?_
          try simp only [List.getElem_toArray, List.getElem_cons_succ, List.getElem_cons_zero, Act.put, List.setIfInBounds_toArray, List.set_cons_zero, List.set_cons_succ]
          refine wpAnyH_take (i := 1) (v := (.agg Z0.toArray)) rfl (by kernel_rfl) (by kernel_rfl) (by kernel_rfl) (fun _ _ _ h => h) (yieldsIf_load_mid (by rfl) 30 (.tmp 6) rfl bg 0 rfl Z0 _ (fun W9 hS9 => hS9.1) hu30 rfl hi30) hHeld ?_
          try simp only [List.getElem_toArray, List.getElem_cons_succ, List.getElem_cons_zero, Act.put, List.setIfInBounds_toArray, List.set_cons_zero, List.set_cons_succ]
          refine wpAnyH_take (i := 2) (v := (.pointer (some ⟨hb, 37, none⟩))) rfl (by kernel_rfl) (by kernel_rfl) (by kernel_rfl) (fun _ _ _ h => h) (Or.inl ⟨by rfl, fun W9 hS9 => by first | rfl | ((try dsimp only at hS9); go_simp)⟩) hHeld ?_
          try simp only [List.getElem_toArray, List.getElem_cons_succ, List.getElem_cons_zero, Act.put, List.setIfInBounds_toArray, List.set_cons_zero, List.set_cons_succ]
          refine wpAnyH_take (i := 3) (v := (.slice (some ⟨bm, om, none⟩) ml c)) rfl (by kernel_rfl) (by kernel_rfl) (by kernel_rfl) (fun _ _ _ h => h) (Or.inl ⟨by rfl, fun W9 hS9 => by first | rfl | ((try dsimp only at hS9); go_simp)⟩) hHeld ?_
          try simp only [List.getElem_toArray, List.getElem_cons_succ, List.getElem_cons_zero, Act.put, List.setIfInBounds_toArray, List.set_cons_zero, List.set_cons_succ]
          refine wpAnyH_take (i := 4) (v := (.pointer (some ⟨hb, 5, none⟩))) rfl (by kernel_rfl) (by kernel_rfl) (by kernel_rfl) (fun _ _ _ h => h) (Or.inl ⟨by rfl, fun W9 hS9 => by first | rfl | ((try dsimp only at hS9); go_simp)⟩) hHeld ?_
          try simp only [List.getElem_toArray, List.getElem_cons_succ, List.getElem_cons_zero, Act.put, List.setIfInBounds_toArray, List.set_cons_zero, List.set_cons_succ]
          refine wpAnyH_take (i := 5) (v := (.agg Z1.toArray)) rfl (by kernel_rfl) (by kernel_rfl) (by kernel_rfl) (fun _ _ _ h => h) (yieldsIf_load_mid (by rfl) 30 (.tmp 73) rfl hb 5 rfl Z1 _ (fun W9 hS9 => hS9.2.1) hu30 rfl hi31) hHeld ?_
          try simp only [List.getElem_toArray, List.getElem_cons_succ, List.getElem_cons_zero, Act.put, List.setIfInBounds_toArray, List.set_cons_zero, List.set_cons_succ]
          refine wpAnyH_take (i := 6) (v := (.pointer (some ⟨hb, 37, none⟩))) rfl (by kernel_rfl) (by kernel_rfl) (by kernel_rfl) (fun _ _ _ h => h) (Or.inl ⟨by rfl, fun W9 hS9 => by first | rfl | ((try dsimp only at hS9); go_simp)⟩) hHeld ?_
          try simp only [List.getElem_toArray, List.getElem_cons_succ, List.getElem_cons_zero, Act.put, List.setIfInBounds_toArray, List.set_cons_zero, List.set_cons_succ]
          refine wpAnyH_take (i := 7) (v := (.slice (some ⟨bm, om, none⟩) ml c)) rfl (by kernel_rfl) (by kernel_rfl) (by kernel_rfl) (fun _ _ _ h => h) (Or.inl ⟨by rfl, fun W9 hS9 => by first | rfl | ((try dsimp only at hS9); go_simp)⟩) hHeld ?_
          try simp only [List.getElem_toArray, List.getElem_cons_succ, List.getElem_cons_zero, Act.put, List.setIfInBounds_toArray, List.set_cons_zero, List.set_cons_succ]
          refine wpAnyH_take (i := 8) (v := (.pointer (some ⟨bm, om + 28, none⟩))) rfl (by kernel_rfl) (by kernel_rfl) (by kernel_rfl) (fun _ _ _ h => h) (Or.inl ⟨by rfl, fun W9 hS9 => by first | rfl | ((try dsimp only at hS9); go_simp)⟩) hHeld ?_
          try simp only [List.getElem_toArray, List.getElem_cons_succ, List.getElem_cons_zero, Act.put, List.setIfInBounds_toArray, List.set_cons_zero, List.set_cons_succ]
          refine wpAnyH_take (i := 9) (v := (.int .i64 (wt : Nat))) rfl (by kernel_rfl) (by kernel_rfl) (by kernel_rfl) (fun _ _ _ h => h) (Or.inl ⟨by rfl, fun W9 hS9 => by first | rfl | ((try dsimp only at hS9); go_simp)⟩) hHeld ?_
          try simp only [List.getElem_toArray, List.getElem_cons_succ, List.getElem_cons_zero, Act.put, List.setIfInBounds_toArray, List.set_cons_zero, List.set_cons_succ]
          refine wpAnyH_take (i := 10) (v := (.pointer (some ⟨hb, 5, none⟩))) rfl (by kernel_rfl) (by kernel_rfl) (by kernel_rfl) (fun _ _ _ h => h) (Or.inl ⟨by rfl, fun W9 hS9 => by first | rfl | ((try dsimp only at hS9); go_simp)⟩) hHeld ?_
          try simp only [List.getElem_toArray, List.getElem_cons_succ, List.getElem_cons_zero, Act.put, List.setIfInBounds_toArray, List.set_cons_zero, List.set_cons_succ]
          refine wpAnyH_take (i := 11) (v := (.pointer (some ⟨hb, 34, none⟩))) rfl (by kernel_rfl) (by kernel_rfl) (by kernel_rfl) (fun _ _ _ h => h) (Or.inl ⟨by rfl, fun W9 hS9 => by first | rfl | ((try dsimp only at hS9); go_simp)⟩) hHeld ?_
          try simp only [List.getElem_toArray, List.getElem_cons_succ, List.getElem_cons_zero, Act.put, List.setIfInBounds_toArray, List.set_cons_zero, List.set_cons_succ]
          refine wpAnyH_take (i := 12) (v := (.int .i64 (H2 : Nat))) rfl (by kernel_rfl) (by kernel_rfl) (by kernel_rfl) (fun _ _ _ h => h) (Or.inl ⟨by rfl, fun W9 hS9 => by first | rfl | ((try dsimp only at hS9); go_simp)⟩) hHeld ?_
          try simp only [List.getElem_toArray, List.getElem_cons_succ, List.getElem_cons_zero, Act.put, List.setIfInBounds_toArray, List.set_cons_zero, List.set_cons_succ]
          refine wpAnyH_ready (rs := [13]) (by kernel_rfl) (by simp) ?_
          refine (AllReadyH.cons rfl (fun K7 hK7 => ?_) AllReadyH.nil)
          clear hHeld
          go_simp
          go_at_call 10
          with_reducible refine (HAL.out _ HDc.out).mono ?_
          rintro e w7 ⟨rfl, hb7⟩
          have HB7 := Lib.hid (HDc.out.trans (hb7.mono HDc.out.size))
          clear hb7
          go_wp2_with fail
          refine hK7.out _ _ (HSB.out _ HB7.out) (fun hHeld => ?_)
          clear hK7 K7
          try simp only [List.getElem_toArray, List.getElem_cons_succ, List.getElem_cons_zero, Act.put, List.setIfInBounds_toArray, List.set_cons_zero, List.set_cons_succ]
          refine wpAnyH_take (i := 14) (v := (.tuple #[.int .i64 (N : Nat), .bool true])) rfl (by kernel_rfl) (by kernel_rfl) (by kernel_rfl) (fun _ _ _ h => h) (Or.inl ⟨by rfl, fun W9 hS9 => by first | rfl | ((try dsimp only at hS9); go_simp)⟩) hHeld ?_
          try simp only [List.getElem_toArray, List.getElem_cons_succ, List.getElem_cons_zero, Act.put, List.setIfInBounds_toArray, List.set_cons_zero, List.set_cons_succ]
          refine wpAnyH_take (i := 15) (v := (.int .i64 (N : Nat))) rfl (by kernel_rfl) (by kernel_rfl) (by kernel_rfl) (fun _ _ _ h => h) (Or.inl ⟨by rfl, fun W9 hS9 => by first | rfl | ((try dsimp only at hS9); go_simp)⟩) hHeld ?_
          try simp only [List.getElem_toArray, List.getElem_cons_succ, List.getElem_cons_zero, Act.put, List.setIfInBounds_toArray, List.set_cons_zero, List.set_cons_succ]
          refine wpAnyH_take (i := 16) (v := (.bool true)) rfl (by kernel_rfl) (by kernel_rfl) (by kernel_rfl) (fun _ _ _ h => h) (Or.inl ⟨by rfl, fun W9 hS9 => by first | rfl | ((try dsimp only at hS9); go_simp)⟩) hHeld ?_
          try simp only [List.getElem_toArray, List.getElem_cons_succ, List.getElem_cons_zero, Act.put, List.setIfInBounds_toArray, List.set_cons_zero, List.set_cons_succ]
          refine wpAnyH_take (i := 17) (v := (.int .i64 (N : Nat))) rfl (by kernel_rfl) (by kernel_rfl) (by kernel_rfl) (fun _ _ _ h => h) (Or.inl ⟨by rfl, fun W9 hS9 => by first | rfl | ((try dsimp only at hS9); go_simp)⟩) hHeld ?_
          try simp only [List.getElem_toArray, List.getElem_cons_succ, List.getElem_cons_zero, Act.put, List.setIfInBounds_toArray, List.set_cons_zero, List.set_cons_succ]
          refine wpAnyH_take (i := 18) (v := (.bool true)) rfl (by kernel_rfl) (by kernel_rfl) (by kernel_rfl) (fun _ _ _ h => h) (Or.inl ⟨by rfl, fun W9 hS9 => by first | rfl | ((try dsimp only at hS9); go_simp)⟩) hHeld ?_
          try simp only [List.getElem_toArray, List.getElem_cons_succ, List.getElem_cons_zero, Act.put, List.setIfInBounds_toArray, List.set_cons_zero, List.set_cons_succ]
          refine wpAnyH_done (by kernel_rfl) ?_ _
          refine NoPanic.normal ?_
          have f28 : w7.cell? ⟨ba, oa + 28, none⟩ = some (.int .i64 (x.env.lo : Nat)) := (HB7.out.cell (p := ⟨ba, oa + 28, none⟩) HBAL.out).trans d28'
          have f30 : w7.cell? ⟨ba, oa + 30, none⟩ = some (.int .i64 (x.env.oth : Nat)) := (HB7.out.cell (p := ⟨ba, oa + 30, none⟩) HBAL.out).trans d30'
          have HD7 := Lib.hid HB7.out.drew
          clear d28' d30' c0 c1 c34 c37 c28 hRG
          rcases (show t % 2 = 1 ∨ t % 2 = 0 by omega) with hp | hp
          · rw [hp] at hrm hpar
            have hpar2 : wt = x.env.oth := by simpa using hpar
            rw [← hpar2] at f30
            clear hpar hpar2
            have hrm1 : a1.tmod 2 = 1 := hrm
            clear hrm
            go_wp2_with fail
            go_region_held3 (fun w' => w'.rangeAt bg 0 Z0 ∧ w'.rangeAt hb 5 Z1 ∧ w'.cell? ⟨hb, 37, none⟩ = some (.slice (some ⟨bm, om, none⟩) ml c) ∧ w'.cell? ⟨hb, 34, none⟩ = some (.int .i64 (H2 : Nat)) ∧ w'.cell? ⟨bm, om + 28, none⟩ = some (.int .i64 (wt : Nat)))
              (first | with_reducible exact HSB.out _ HD7.out | with_reducible exact HSB.out _ HB8.out | exact HSB.out _ HD7.out)
              (first | (go_at_call 7; (with_reducible refine (HLV2.out _ HD7.out).mono ?_); rintro e w8 ⟨rfl, hb8⟩; have HB8 := Lib.hid (HD7.out.trans (hb8.mono HD7.out.size)); clear hb8))
            go_wp2_with fail
            go_ret
            exact ⟨rfl, HEND.out.trans (HB8.out.mono HEND.out.size)⟩
          · rw [hp] at hrm hpar
            have hpar2 : wt = x.env.lo := by simpa using hpar
            rw [← hpar2] at f28
            clear hpar hpar2
            have hrm1 : a1.tmod 2 = 0 := hrm
            clear hrm
            go_wp2_with fail
            go_region_held3 (fun w' => w'.rangeAt bg 0 Z0 ∧ w'.rangeAt hb 5 Z1 ∧ w'.cell? ⟨hb, 37, none⟩ = some (.slice (some ⟨bm, om, none⟩) ml c) ∧ w'.cell? ⟨hb, 34, none⟩ = some (.int .i64 (H2 : Nat)) ∧ w'.cell? ⟨bm, om + 28, none⟩ = some (.int .i64 (wt : Nat)))
              (first | with_reducible exact HSB.out _ HD7.out | with_reducible exact HSB.out _ HB8.out | exact HSB.out _ HD7.out)
              (first | (go_at_call 7; (with_reducible refine (HLV2.out _ HD7.out).mono ?_); rintro e w8 ⟨rfl, hb8⟩; have HB8 := Lib.hid (HD7.out.trans (hb8.mono HD7.out.size)); clear hb8))
            go_wp2_with fail
            go_ret
            exact ⟨rfl, HEND.out.trans (HB8.out.mono HEND.out.size)⟩
    · have HE2 := Lib.hid HB2.out.drew
      by_cases p1 : a1 < 1
      · have hd1 : decide (a1 < 1) = true := decide_eq_true p1
        clear HSA HRG
        go_wp2_with fail
        refine wp_region_noPanic ?_
        refine wp_region_held_drew (S := fun _ => True) (by kernel_rfl) trivial (fun hHeld => ?_)
        refine wpAnyH_ready (rs := [0]) (by kernel_rfl) (by simp) ?_
        refine (AllReadyH.cons rfl (fun K1 hK1 => ?_) AllReadyH.nil)
        clear hHeld
        go_simp
        go_at_call 6
        with_reducible refine (fixed_22 _).mono ?_
        rintro e w3 ⟨rfl, hb3⟩
        have HB3 : Hid (Below w.heap.size w w3) := Lib.hid (HE2.out.trans (hb3.mono HE2.out.size))
        clear hb3
        go_wp2_with fail
        refine hK1.out _ _ trivial (fun hHeld => ?_)
        clear hK1 K1
        try simp only [List.getElem_toArray, List.getElem_cons_succ, List.getElem_cons_zero, Act.put, List.setIfInBounds_toArray, List.set_cons_zero, List.set_cons_succ]
        refine wpAnyH_take (i := 1) (v := (.bool false)) rfl (by kernel_rfl) (by kernel_rfl) (by kernel_rfl) (fun _ _ _ h => h) (Or.inl ⟨by rfl, fun _ _ => by first | rfl | go_simp⟩) hHeld ?_
        try simp only [List.getElem_toArray, List.getElem_cons_succ, List.getElem_cons_zero, Act.put, List.setIfInBounds_toArray, List.set_cons_zero, List.set_cons_succ]
        refine wpAnyH_take (i := 2) (v := (.bool false)) rfl (by kernel_rfl) (by kernel_rfl) (by kernel_rfl) (fun _ _ _ h => h) (Or.inl ⟨by rfl, fun _ _ => by first | rfl | go_simp⟩) hHeld ?_
        try simp only [List.getElem_toArray, List.getElem_cons_succ, List.getElem_cons_zero, Act.put, List.setIfInBounds_toArray, List.set_cons_zero, List.set_cons_succ]
        refine wpAnyH_take (i := 3) (v := (.bool true)) rfl (by kernel_rfl) (by kernel_rfl) (by kernel_rfl) (fun _ _ _ h => h) (Or.inl ⟨by rfl, fun _ _ => by first | rfl | go_simp⟩) hHeld ?_
        try simp only [List.getElem_toArray, List.getElem_cons_succ, List.getElem_cons_zero, Act.put, List.setIfInBounds_toArray, List.set_cons_zero, List.set_cons_succ]
        refine wpAnyH_take (i := 4) (v := (.bool false)) rfl (by kernel_rfl) (by kernel_rfl) (by kernel_rfl) (fun _ _ _ h => h) (Or.inl ⟨by rfl, fun _ _ => by first | rfl | go_simp⟩) hHeld ?_
        try simp only [List.getElem_toArray, List.getElem_cons_succ, List.getElem_cons_zero, Act.put, List.setIfInBounds_toArray, List.set_cons_zero, List.set_cons_succ]
        refine wpAnyH_take (i := 5) (v := (.bool false)) rfl (by kernel_rfl) (by kernel_rfl) (by kernel_rfl) (fun _ _ _ h => h) (Or.inl ⟨by rfl, fun _ _ => by first | rfl | go_simp⟩) hHeld ?_
        try simp only [List.getElem_toArray, List.getElem_cons_succ, List.getElem_cons_zero, Act.put, List.setIfInBounds_toArray, List.set_cons_zero, List.set_cons_succ]
        refine wpAnyH_take (i := 6) (v := (.bool false)) rfl (by kernel_rfl) (by kernel_rfl) (by kernel_rfl) (fun _ _ _ h => h) (Or.inl ⟨by rfl, fun _ _ => by first | rfl | go_simp⟩) hHeld ?_
        try simp only [List.getElem_toArray, List.getElem_cons_succ, List.getElem_cons_zero, Act.put, List.setIfInBounds_toArray, List.set_cons_zero, List.set_cons_succ]
        refine wpAnyH_take (i := 7) (v := (.int .i64 a1)) rfl (by kernel_rfl) (by kernel_rfl) (by kernel_rfl) (fun _ _ _ h => h) (Or.inl ⟨by rfl, fun _ _ => by first | rfl | go_simp⟩) hHeld ?_
        try simp only [List.getElem_toArray, List.getElem_cons_succ, List.getElem_cons_zero, Act.put, List.setIfInBounds_toArray, List.set_cons_zero, List.set_cons_succ]
        refine wpAnyH_take (i := 8) (v := (.bool true)) rfl (by kernel_rfl) (by kernel_rfl) (by kernel_rfl) (fun _ _ _ h => h) (Or.inl ⟨by rfl, fun _ _ => by first | rfl | go_simp⟩) hHeld ?_
        try simp only [List.getElem_toArray, List.getElem_cons_succ, List.getElem_cons_zero, Act.put, List.setIfInBounds_toArray, List.set_cons_zero, List.set_cons_succ]
        refine wpAnyH_take (i := 9) (v := (.bool true)) rfl (by kernel_rfl) (by kernel_rfl) (by kernel_rfl) (fun _ _ _ h => h) (Or.inl ⟨by rfl, fun _ _ => by first | rfl | go_simp⟩) hHeld ?_
        try simp only [List.getElem_toArray, List.getElem_cons_succ, List.getElem_cons_zero, Act.put, List.setIfInBounds_toArray, List.set_cons_zero, List.set_cons_succ]
        refine wpAnyH_take (i := 10) (v := (.bool true)) rfl (by kernel_rfl) (by kernel_rfl) (by kernel_rfl) (fun _ _ _ h => h) (Or.inl ⟨by rfl, fun _ _ => by first | rfl | go_simp⟩) hHeld ?_
        try simp only [List.getElem_toArray, List.getElem_cons_succ, List.getElem_cons_zero, Act.put, List.setIfInBounds_toArray, List.set_cons_zero, List.set_cons_succ]
        refine wpAnyH_take (i := 11) (v := undef) rfl (by kernel_rfl) (by kernel_rfl) (by kernel_rfl) (fun _ _ _ h => h) (Or.inr ⟨by rfl, rfl⟩) hHeld ?_
        try simp only [List.getElem_toArray, List.getElem_cons_succ, List.getElem_cons_zero, Act.put, List.setIfInBounds_toArray, List.set_cons_zero, List.set_cons_succ]
        refine wpAnyH_take (i := 12) (v := undef) rfl (by kernel_rfl) (by kernel_rfl) (by kernel_rfl) (fun _ _ _ h => h) (Or.inr ⟨by rfl, rfl⟩) hHeld ?_
        try simp only [List.getElem_toArray, List.getElem_cons_succ, List.getElem_cons_zero, Act.put, List.setIfInBounds_toArray, List.set_cons_zero, List.set_cons_succ]
        refine wpAnyH_take (i := 13) (v := (.bool true)) rfl (by kernel_rfl) (by kernel_rfl) (by kernel_rfl) (fun _ _ _ h => h) (Or.inl ⟨by rfl, fun _ _ => by first | rfl | go_simp⟩) hHeld ?_
        try simp only [List.getElem_toArray, List.getElem_cons_succ, List.getElem_cons_zero, Act.put, List.setIfInBounds_toArray, List.set_cons_zero, List.set_cons_succ]
        refine wpAnyH_take (i := 14) (v := (.bool true)) rfl (by kernel_rfl) (by kernel_rfl) (by kernel_rfl) (fun _ _ _ h => h) (Or.inl ⟨by rfl, fun _ _ => by first | rfl | go_simp⟩) hHeld ?_
        try simp only [List.getElem_toArray, List.getElem_cons_succ, List.getElem_cons_zero, Act.put, List.setIfInBounds_toArray, List.set_cons_zero, List.set_cons_succ]
        refine wpAnyH_take (i := 15) (v := undef) rfl (by kernel_rfl) (by kernel_rfl) (by kernel_rfl) (fun _ _ _ h => h) (Or.inr ⟨by rfl, rfl⟩) hHeld ?_
        try simp only [List.getElem_toArray, List.getElem_cons_succ, List.getElem_cons_zero, Act.put, List.setIfInBounds_toArray, List.set_cons_zero, List.set_cons_succ]
        refine wpAnyH_take (i := 16) (v := undef) rfl (by kernel_rfl) (by kernel_rfl) (by kernel_rfl) (fun _ _ _ h => h) (Or.inr ⟨by rfl, rfl⟩) hHeld ?_
        try simp only [List.getElem_toArray, List.getElem_cons_succ, List.getElem_cons_zero, Act.put, List.setIfInBounds_toArray, List.set_cons_zero, List.set_cons_succ]
        refine wpAnyH_take (i := 17) (v := undef) rfl (by kernel_rfl) (by kernel_rfl) (by kernel_rfl) (fun _ _ _ h => h) (Or.inr ⟨by rfl, rfl⟩) hHeld ?_
        try simp only [List.getElem_toArray, List.getElem_cons_succ, List.getElem_cons_zero, Act.put, List.setIfInBounds_toArray, List.set_cons_zero, List.set_cons_succ]
        refine wpAnyH_take (i := 18) (v := undef) rfl (by kernel_rfl) (by kernel_rfl) (by kernel_rfl) (fun _ _ _ h => h) (Or.inr ⟨by rfl, rfl⟩) hHeld ?_
        try simp only [List.getElem_toArray, List.getElem_cons_succ, List.getElem_cons_zero, Act.put, List.setIfInBounds_toArray, List.set_cons_zero, List.set_cons_succ]
        refine wpAnyH_take (i := 19) (v := undef) rfl (by kernel_rfl) (by kernel_rfl) (by kernel_rfl) (fun _ _ _ h => h) (Or.inr ⟨by rfl, rfl⟩) hHeld ?_
        try simp only [List.getElem_toArray, List.getElem_cons_succ, List.getElem_cons_zero, Act.put, List.setIfInBounds_toArray, List.set_cons_zero, List.set_cons_succ]
        refine wpAnyH_take (i := 20) (v := undef) rfl (by kernel_rfl) (by kernel_rfl) (by kernel_rfl) (fun _ _ _ h => h) (Or.inr ⟨by rfl, rfl⟩) hHeld ?_
        try simp only [List.getElem_toArray, List.getElem_cons_succ, List.getElem_cons_zero, Act.put, List.setIfInBounds_toArray, List.set_cons_zero, List.set_cons_succ]
        refine wpAnyH_take (i := 21) (v := undef) rfl (by kernel_rfl) (by kernel_rfl) (by kernel_rfl) (fun _ _ _ h => h) (Or.inr ⟨by rfl, rfl⟩) hHeld ?_
        try simp only [List.getElem_toArray, List.getElem_cons_succ, List.getElem_cons_zero, Act.put, List.setIfInBounds_toArray, List.set_cons_zero, List.set_cons_succ]
        refine wpAnyH_take (i := 22) (v := undef) rfl (by kernel_rfl) (by kernel_rfl) (by kernel_rfl) (fun _ _ _ h => h) (Or.inr ⟨by rfl, rfl⟩) hHeld ?_
        try simp only [List.getElem_toArray, List.getElem_cons_succ, List.getElem_cons_zero, Act.put, List.setIfInBounds_toArray, List.set_cons_zero, List.set_cons_succ]
        refine wpAnyH_take (i := 23) (v := undef) rfl (by kernel_rfl) (by kernel_rfl) (by kernel_rfl) (fun _ _ _ h => h) (Or.inr ⟨by rfl, rfl⟩) hHeld ?_
        try simp only [List.getElem_toArray, List.getElem_cons_succ, List.getElem_cons_zero, Act.put, List.setIfInBounds_toArray, List.set_cons_zero, List.set_cons_succ]
        refine wpAnyH_take (i := 24) (v := (.bool true)) rfl (by kernel_rfl) (by kernel_rfl) (by kernel_rfl) (fun _ _ _ h => h) (Or.inl ⟨by rfl, fun _ _ => by first | rfl | go_simp⟩) hHeld ?_
        try simp only [List.getElem_toArray, List.getElem_cons_succ, List.getElem_cons_zero, Act.put, List.setIfInBounds_toArray, List.set_cons_zero, List.set_cons_succ]
        refine wpAnyH_done (by kernel_rfl) ?_ _
        refine NoPanic.normal ?_
        go_wp2_with fail
        with_reducible refine (fixed_22 _).mono ?_
        rintro e w4 ⟨rfl, hb4⟩
        have HB4 := Lib.hid (HB3.out.trans (hb4.mono HB3.out.size))
        clear hb4
        go_wp2_with fail
        go_ret
        exact ⟨rfl, HB4.out⟩
      have hd1 : decide (a1 < 1) = false := decide_eq_false p1
      by_cases p2 : 3 < a1
      · have hd2 : decide (3 < a1) = true := decide_eq_true p2
        clear HSA HRG
        go_wp2_with fail
        refine wp_region_noPanic ?_
        refine wp_region_held_drew (S := fun _ => True) (by kernel_rfl) trivial (fun hHeld => ?_)
        refine wpAnyH_ready (rs := [0]) (by kernel_rfl) (by simp) ?_
        refine (AllReadyH.cons rfl (fun K1 hK1 => ?_) AllReadyH.nil)
        clear hHeld
        go_simp
        go_at_call 6
        with_reducible refine (fixed_22 _).mono ?_
        rintro e w3 ⟨rfl, hb3⟩
        have HB3 : Hid (Below w.heap.size w w3) := Lib.hid (HE2.out.trans (hb3.mono HE2.out.size))
        clear hb3
        go_wp2_with fail
        refine hK1.out _ _ trivial (fun hHeld => ?_)
        clear hK1 K1
        try simp only [List.getElem_toArray, List.getElem_cons_succ, List.getElem_cons_zero, Act.put, List.setIfInBounds_toArray, List.set_cons_zero, List.set_cons_succ]
        refine wpAnyH_take (i := 1) (v := (.bool false)) rfl (by kernel_rfl) (by kernel_rfl) (by kernel_rfl) (fun _ _ _ h => h) (Or.inl ⟨by rfl, fun _ _ => by first | rfl | go_simp⟩) hHeld ?_
        try simp only [List.getElem_toArray, List.getElem_cons_succ, List.getElem_cons_zero, Act.put, List.setIfInBounds_toArray, List.set_cons_zero, List.set_cons_succ]
        refine wpAnyH_take (i := 2) (v := (.bool false)) rfl (by kernel_rfl) (by kernel_rfl) (by kernel_rfl) (fun _ _ _ h => h) (Or.inl ⟨by rfl, fun _ _ => by first | rfl | go_simp⟩) hHeld ?_
        try simp only [List.getElem_toArray, List.getElem_cons_succ, List.getElem_cons_zero, Act.put, List.setIfInBounds_toArray, List.set_cons_zero, List.set_cons_succ]
        refine wpAnyH_take (i := 3) (v := (.bool true)) rfl (by kernel_rfl) (by kernel_rfl) (by kernel_rfl) (fun _ _ _ h => h) (Or.inl ⟨by rfl, fun _ _ => by first | rfl | go_simp⟩) hHeld ?_
        try simp only [List.getElem_toArray, List.getElem_cons_succ, List.getElem_cons_zero, Act.put, List.setIfInBounds_toArray, List.set_cons_zero, List.set_cons_succ]
        refine wpAnyH_take (i := 4) (v := (.bool false)) rfl (by kernel_rfl) (by kernel_rfl) (by kernel_rfl) (fun _ _ _ h => h) (Or.inl ⟨by rfl, fun _ _ => by first | rfl | go_simp⟩) hHeld ?_
        try simp only [List.getElem_toArray, List.getElem_cons_succ, List.getElem_cons_zero, Act.put, List.setIfInBounds_toArray, List.set_cons_zero, List.set_cons_succ]
        refine wpAnyH_take (i := 5) (v := (.bool false)) rfl (by kernel_rfl) (by kernel_rfl) (by kernel_rfl) (fun _ _ _ h => h) (Or.inl ⟨by rfl, fun _ _ => by first | rfl | go_simp⟩) hHeld ?_
        try simp only [List.getElem_toArray, List.getElem_cons_succ, List.getElem_cons_zero, Act.put, List.setIfInBounds_toArray, List.set_cons_zero, List.set_cons_succ]
        refine wpAnyH_take (i := 6) (v := (.bool false)) rfl (by kernel_rfl) (by kernel_rfl) (by kernel_rfl) (fun _ _ _ h => h) (Or.inl ⟨by rfl, fun _ _ => by first | rfl | go_simp⟩) hHeld ?_
        try simp only [List.getElem_toArray, List.getElem_cons_succ, List.getElem_cons_zero, Act.put, List.setIfInBounds_toArray, List.set_cons_zero, List.set_cons_succ]
        refine wpAnyH_take (i := 7) (v := (.int .i64 a1)) rfl (by kernel_rfl) (by kernel_rfl) (by kernel_rfl) (fun _ _ _ h => h) (Or.inl ⟨by rfl, fun _ _ => by first | rfl | go_simp⟩) hHeld ?_
        try simp only [List.getElem_toArray, List.getElem_cons_succ, List.getElem_cons_zero, Act.put, List.setIfInBounds_toArray, List.set_cons_zero, List.set_cons_succ]
        refine wpAnyH_take (i := 8) (v := (.bool false)) rfl (by kernel_rfl) (by kernel_rfl) (by kernel_rfl) (fun _ _ _ h => h) (Or.inl ⟨by rfl, fun _ _ => by first | rfl | go_simp⟩) hHeld ?_
        try simp only [List.getElem_toArray, List.getElem_cons_succ, List.getElem_cons_zero, Act.put, List.setIfInBounds_toArray, List.set_cons_zero, List.set_cons_succ]
        refine wpAnyH_take (i := 9) (v := (.bool false)) rfl (by kernel_rfl) (by kernel_rfl) (by kernel_rfl) (fun _ _ _ h => h) (Or.inl ⟨by rfl, fun _ _ => by first | rfl | go_simp⟩) hHeld ?_
        try simp only [List.getElem_toArray, List.getElem_cons_succ, List.getElem_cons_zero, Act.put, List.setIfInBounds_toArray, List.set_cons_zero, List.set_cons_succ]
        refine wpAnyH_take (i := 10) (v := (.bool false)) rfl (by kernel_rfl) (by kernel_rfl) (by kernel_rfl) (fun _ _ _ h => h) (Or.inl ⟨by rfl, fun _ _ => by first | rfl | go_simp⟩) hHeld ?_
        try simp only [List.getElem_toArray, List.getElem_cons_succ, List.getElem_cons_zero, Act.put, List.setIfInBounds_toArray, List.set_cons_zero, List.set_cons_succ]
        refine wpAnyH_take (i := 11) (v := (.int .i64 a1)) rfl (by kernel_rfl) (by kernel_rfl) (by kernel_rfl) (fun _ _ _ h => h) (Or.inl ⟨by rfl, fun _ _ => by first | rfl | go_simp⟩) hHeld ?_
        try simp only [List.getElem_toArray, List.getElem_cons_succ, List.getElem_cons_zero, Act.put, List.setIfInBounds_toArray, List.set_cons_zero, List.set_cons_succ]
        refine wpAnyH_take (i := 12) (v := (.bool true)) rfl (by kernel_rfl) (by kernel_rfl) (by kernel_rfl) (fun _ _ _ h => h) (Or.inl ⟨by rfl, fun _ _ => by first | rfl | go_simp⟩) hHeld ?_
        try simp only [List.getElem_toArray, List.getElem_cons_succ, List.getElem_cons_zero, Act.put, List.setIfInBounds_toArray, List.set_cons_zero, List.set_cons_succ]
        refine wpAnyH_take (i := 13) (v := (.bool true)) rfl (by kernel_rfl) (by kernel_rfl) (by kernel_rfl) (fun _ _ _ h => h) (Or.inl ⟨by rfl, fun _ _ => by first | rfl | go_simp⟩) hHeld ?_
        try simp only [List.getElem_toArray, List.getElem_cons_succ, List.getElem_cons_zero, Act.put, List.setIfInBounds_toArray, List.set_cons_zero, List.set_cons_succ]
        refine wpAnyH_take (i := 14) (v := (.bool true)) rfl (by kernel_rfl) (by kernel_rfl) (by kernel_rfl) (fun _ _ _ h => h) (Or.inl ⟨by rfl, fun _ _ => by first | rfl | go_simp⟩) hHeld ?_
        try simp only [List.getElem_toArray, List.getElem_cons_succ, List.getElem_cons_zero, Act.put, List.setIfInBounds_toArray, List.set_cons_zero, List.set_cons_succ]
        refine wpAnyH_take (i := 15) (v := undef) rfl (by kernel_rfl) (by kernel_rfl) (by kernel_rfl) (fun _ _ _ h => h) (Or.inr ⟨by rfl, rfl⟩) hHeld ?_
        try simp only [List.getElem_toArray, List.getElem_cons_succ, List.getElem_cons_zero, Act.put, List.setIfInBounds_toArray, List.set_cons_zero, List.set_cons_succ]
        refine wpAnyH_take (i := 16) (v := undef) rfl (by kernel_rfl) (by kernel_rfl) (by kernel_rfl) (fun _ _ _ h => h) (Or.inr ⟨by rfl, rfl⟩) hHeld ?_
        try simp only [List.getElem_toArray, List.getElem_cons_succ, List.getElem_cons_zero, Act.put, List.setIfInBounds_toArray, List.set_cons_zero, List.set_cons_succ]
        refine wpAnyH_take (i := 17) (v := undef) rfl (by kernel_rfl) (by kernel_rfl) (by kernel_rfl) (fun _ _ _ h => h) (Or.inr ⟨by rfl, rfl⟩) hHeld ?_
        try simp only [List.getElem_toArray, List.getElem_cons_succ, List.getElem_cons_zero, Act.put, List.setIfInBounds_toArray, List.set_cons_zero, List.set_cons_succ]
        refine wpAnyH_take (i := 18) (v := undef) rfl (by kernel_rfl) (by kernel_rfl) (by kernel_rfl) (fun _ _ _ h => h) (Or.inr ⟨by rfl, rfl⟩) hHeld ?_
        try simp only [List.getElem_toArray, List.getElem_cons_succ, List.getElem_cons_zero, Act.put, List.setIfInBounds_toArray, List.set_cons_zero, List.set_cons_succ]
        refine wpAnyH_take (i := 19) (v := undef) rfl (by kernel_rfl) (by kernel_rfl) (by kernel_rfl) (fun _ _ _ h => h) (Or.inr ⟨by rfl, rfl⟩) hHeld ?_
        try simp only [List.getElem_toArray, List.getElem_cons_succ, List.getElem_cons_zero, Act.put, List.setIfInBounds_toArray, List.set_cons_zero, List.set_cons_succ]
        refine wpAnyH_take (i := 20) (v := undef) rfl (by kernel_rfl) (by kernel_rfl) (by kernel_rfl) (fun _ _ _ h => h) (Or.inr ⟨by rfl, rfl⟩) hHeld ?_
        try simp only [List.getElem_toArray, List.getElem_cons_succ, List.getElem_cons_zero, Act.put, List.setIfInBounds_toArray, List.set_cons_zero, List.set_cons_succ]
        refine wpAnyH_take (i := 21) (v := undef) rfl (by kernel_rfl) (by kernel_rfl) (by kernel_rfl) (fun _ _ _ h => h) (Or.inr ⟨by rfl, rfl⟩) hHeld ?_
        try simp only [List.getElem_toArray, List.getElem_cons_succ, List.getElem_cons_zero, Act.put, List.setIfInBounds_toArray, List.set_cons_zero, List.set_cons_succ]
        refine wpAnyH_take (i := 22) (v := undef) rfl (by kernel_rfl) (by kernel_rfl) (by kernel_rfl) (fun _ _ _ h => h) (Or.inr ⟨by rfl, rfl⟩) hHeld ?_
        try simp only [List.getElem_toArray, List.getElem_cons_succ, List.getElem_cons_zero, Act.put, List.setIfInBounds_toArray, List.set_cons_zero, List.set_cons_succ]
        refine wpAnyH_take (i := 23) (v := undef) rfl (by kernel_rfl) (by kernel_rfl) (by kernel_rfl) (fun _ _ _ h => h) (Or.inr ⟨by rfl, rfl⟩) hHeld ?_
        try simp only [List.getElem_toArray, List.getElem_cons_succ, List.getElem_cons_zero, Act.put, List.setIfInBounds_toArray, List.set_cons_zero, List.set_cons_succ]
        refine wpAnyH_take (i := 24) (v := (.bool true)) rfl (by kernel_rfl) (by kernel_rfl) (by kernel_rfl) (fun _ _ _ h => h) (Or.inl ⟨by rfl, fun _ _ => by first | rfl | go_simp⟩) hHeld ?_
        try simp only [List.getElem_toArray, List.getElem_cons_succ, List.getElem_cons_zero, Act.put, List.setIfInBounds_toArray, List.set_cons_zero, List.set_cons_succ]
        refine wpAnyH_done (by kernel_rfl) ?_ _
        refine NoPanic.normal ?_
        go_wp2_with fail
        with_reducible refine (fixed_22 _).mono ?_
        rintro e w4 ⟨rfl, hb4⟩
        have HB4 := Lib.hid (HB3.out.trans (hb4.mono HB3.out.size))
        clear hb4
        go_wp2_with fail
        go_ret
        exact ⟨rfl, HB4.out⟩
      have hd2 : decide (3 < a1) = false := decide_eq_false p2
      have hd3 : decide (x.size < (N : Int) + x.wanted) = true := decide_eq_true (by omega)
      clear p1 p2 hin
      go_wp2_with fail
      go_region_held3 (fun w' => w'.rangeAt bg 0 Z0 ∧ w'.cell? ⟨w.heap.size, 0, none⟩ = some (.int .i64 x.size) ∧ w'.cell? ⟨w.heap.size, 57, none⟩ = some (.int .i64 x.wanted))
          (first | with_reducible exact HSA.out _ HD2.out | with_reducible exact HSA.out _ HB3.out | with_reducible exact HSA.out _ HB4.out | exact HSA.out _ HD2.out)
          (first
            | (go_at_call 6; (with_reducible refine (fixed_22 _).mono ?_); rintro e w3 ⟨rfl, hb3⟩; have HB3 : Hid (Below w2.heap.size w2 w3) := Lib.hid (HD2.out.trans (hb3.mono HD2.out.size)); clear hb3)
            | (go_at_call 7; (with_reducible refine (HLV.out _ HB3.out).mono ?_); rintro e w4 ⟨rfl, hb4⟩; have HB4 : Hid (Below w2.heap.size w2 w4) := Lib.hid (HB3.out.trans (hb4.mono HB3.out.size)); clear hb4))
      go_wp2_with fail
      with_reducible refine (fixed_22 _).mono ?_
      rintro e w5 ⟨rfl, hb5⟩
      have HB5 := Lib.hid ((HB2.out.trans (HB4.out.mono HB2.out.size)).trans (hb5.mono (Nat.le_trans HB2.out.size HB4.out.size)))
      clear hb5
      go_wp2_with fail
      go_ret
      exact ⟨rfl, HB5.out⟩
  · have HB1 := Lib.hid (HB0.out.trans (hb1.mono HB0.out.size))
    clear hb1
    go_upto_region 2 with (first
      | (refine wpList_store_r rfl 30 (.tmp 6) (.tmp 17) rfl w1.heap.size 30 #[.int .i64 0, .int .i64 0, .int .i64 0, .int .i64 0, .int .i64 0, .int .i64 0, .int .i64 0, .int .i64 0, .int .i64 0, .int .i64 0, .int .i64 0, .int .i64 0, .int .i64 0, .int .i64 0, .int .i64 0, .int .i64 0, .int .i64 0, .int .i64 0, .int .i64 0, .int .i64 0, .int .i64 0, .int .i64 0, .int .i64 0, .int .i64 0, .int .i64 0, .int .i64 0, .int .i64 0, .int .i64 0, .int .i64 0, .int .i64 0, .int .i64 0, .int .i64 0] zeroR rfl rfl (heap_alloc_new w1 _) rfl (regsV_size _) zeroR_one ?_; intro w2 hw2; have HW2 := Lib.hid hw2; clear hw2)
      | fail)
    have HB2 : Hid (Below w.heap.size w w2) := by unfold Hid; rw [HW2.out]; exact below_setRow (HB1.out.alloc HB1.out.size _) HB1.out.size _
    clear HW2
    have HD2 := Lib.hid HB2.out.drew
    go_wp2_with fail
    refine wp_region_noPanic ?_
    refine wp_region_held_drew (S := fun _ => True) (by kernel_rfl) trivial (fun hHeld => ?_)
    refine wpAnyH_ready (rs := [0]) (by kernel_rfl) (by simp) ?_
    refine (AllReadyH.cons rfl (fun K1 hK1 => ?_) AllReadyH.nil)
    clear hHeld
    go_simp
    go_at_call 6
    with_reducible refine (fixed_22 _).mono ?_
    rintro e w3 ⟨rfl, hb3⟩
    have HB3 : Hid (Below w.heap.size w w3) := Lib.hid (HD2.out.trans (hb3.mono HD2.out.size))
    clear hb3
    go_wp2_with fail
    refine hK1.out _ _ trivial (fun hHeld => ?_)
    clear hK1 K1
    try simp only [List.getElem_toArray, List.getElem_cons_succ, List.getElem_cons_zero, Act.put, List.setIfInBounds_toArray, List.set_cons_zero, List.set_cons_succ]
    refine wpAnyH_take (i := 1) (v := (.bool false)) rfl (by kernel_rfl) (by kernel_rfl) (by kernel_rfl) (fun _ _ _ h => h) (Or.inl ⟨by rfl, fun _ _ => by first | rfl | go_simp⟩) hHeld ?_
    try simp only [List.getElem_toArray, List.getElem_cons_succ, List.getElem_cons_zero, Act.put, List.setIfInBounds_toArray, List.set_cons_zero, List.set_cons_succ]
    refine wpAnyH_take (i := 2) (v := (.bool false)) rfl (by kernel_rfl) (by kernel_rfl) (by kernel_rfl) (fun _ _ _ h => h) (Or.inl ⟨by rfl, fun _ _ => by first | rfl | go_simp⟩) hHeld ?_
    try simp only [List.getElem_toArray, List.getElem_cons_succ, List.getElem_cons_zero, Act.put, List.setIfInBounds_toArray, List.set_cons_zero, List.set_cons_succ]
    refine wpAnyH_take (i := 3) (v := (.bool false)) rfl (by kernel_rfl) (by kernel_rfl) (by kernel_rfl) (fun _ _ _ h => h) (Or.inl ⟨by rfl, fun _ _ => by first | rfl | go_simp⟩) hHeld ?_
    try simp only [List.getElem_toArray, List.getElem_cons_succ, List.getElem_cons_zero, Act.put, List.setIfInBounds_toArray, List.set_cons_zero, List.set_cons_succ]
    refine wpAnyH_take (i := 4) (v := (.bool true)) rfl (by kernel_rfl) (by kernel_rfl) (by kernel_rfl) (fun _ _ _ h => h) (Or.inl ⟨by rfl, fun _ _ => by first | rfl | go_simp⟩) hHeld ?_
    try simp only [List.getElem_toArray, List.getElem_cons_succ, List.getElem_cons_zero, Act.put, List.setIfInBounds_toArray, List.set_cons_zero, List.set_cons_succ]
    refine wpAnyH_take (i := 5) (v := (.bool true)) rfl (by kernel_rfl) (by kernel_rfl) (by kernel_rfl) (fun _ _ _ h => h) (Or.inl ⟨by rfl, fun _ _ => by first | rfl | go_simp⟩) hHeld ?_
    try simp only [List.getElem_toArray, List.getElem_cons_succ, List.getElem_cons_zero, Act.put, List.setIfInBounds_toArray, List.set_cons_zero, List.set_cons_succ]
    refine wpAnyH_take (i := 6) (v := (.bool true)) rfl (by kernel_rfl) (by kernel_rfl) (by kernel_rfl) (fun _ _ _ h => h) (Or.inl ⟨by rfl, fun _ _ => by first | rfl | go_simp⟩) hHeld ?_
    try simp only [List.getElem_toArray, List.getElem_cons_succ, List.getElem_cons_zero, Act.put, List.setIfInBounds_toArray, List.set_cons_zero, List.set_cons_succ]
    refine wpAnyH_take (i := 7) (v := undef) rfl (by kernel_rfl) (by kernel_rfl) (by kernel_rfl) (fun _ _ _ h => h) (Or.inr ⟨by rfl, rfl⟩) hHeld ?_
    try simp only [List.getElem_toArray, List.getElem_cons_succ, List.getElem_cons_zero, Act.put, List.setIfInBounds_toArray, List.set_cons_zero, List.set_cons_succ]
    refine wpAnyH_take (i := 8) (v := undef) rfl (by kernel_rfl) (by kernel_rfl) (by kernel_rfl) (fun _ _ _ h => h) (Or.inr ⟨by rfl, rfl⟩) hHeld ?_
    try simp only [List.getElem_toArray, List.getElem_cons_succ, List.getElem_cons_zero, Act.put, List.setIfInBounds_toArray, List.set_cons_zero, List.set_cons_succ]
    refine wpAnyH_take (i := 9) (v := (.bool true)) rfl (by kernel_rfl) (by kernel_rfl) (by kernel_rfl) (fun _ _ _ h => h) (Or.inl ⟨by rfl, fun _ _ => by first | rfl | go_simp⟩) hHeld ?_
    try simp only [List.getElem_toArray, List.getElem_cons_succ, List.getElem_cons_zero, Act.put, List.setIfInBounds_toArray, List.set_cons_zero, List.set_cons_succ]
    refine wpAnyH_take (i := 10) (v := (.bool true)) rfl (by kernel_rfl) (by kernel_rfl) (by kernel_rfl) (fun _ _ _ h => h) (Or.inl ⟨by rfl, fun _ _ => by first | rfl | go_simp⟩) hHeld ?_
    try simp only [List.getElem_toArray, List.getElem_cons_succ, List.getElem_cons_zero, Act.put, List.setIfInBounds_toArray, List.set_cons_zero, List.set_cons_succ]
    refine wpAnyH_take (i := 11) (v := undef) rfl (by kernel_rfl) (by kernel_rfl) (by kernel_rfl) (fun _ _ _ h => h) (Or.inr ⟨by rfl, rfl⟩) hHeld ?_
    try simp only [List.getElem_toArray, List.getElem_cons_succ, List.getElem_cons_zero, Act.put, List.setIfInBounds_toArray, List.set_cons_zero, List.set_cons_succ]
    refine wpAnyH_take (i := 12) (v := undef) rfl (by kernel_rfl) (by kernel_rfl) (by kernel_rfl) (fun _ _ _ h => h) (Or.inr ⟨by rfl, rfl⟩) hHeld ?_
    try simp only [List.getElem_toArray, List.getElem_cons_succ, List.getElem_cons_zero, Act.put, List.setIfInBounds_toArray, List.set_cons_zero, List.set_cons_succ]
    refine wpAnyH_take (i := 13) (v := (.bool true)) rfl (by kernel_rfl) (by kernel_rfl) (by kernel_rfl) (fun _ _ _ h => h) (Or.inl ⟨by rfl, fun _ _ => by first | rfl | go_simp⟩) hHeld ?_
    try simp only [List.getElem_toArray, List.getElem_cons_succ, List.getElem_cons_zero, Act.put, List.setIfInBounds_toArray, List.set_cons_zero, List.set_cons_succ]
    refine wpAnyH_take (i := 14) (v := (.bool true)) rfl (by kernel_rfl) (by kernel_rfl) (by kernel_rfl) (fun _ _ _ h => h) (Or.inl ⟨by rfl, fun _ _ => by first | rfl | go_simp⟩) hHeld ?_
    try simp only [List.getElem_toArray, List.getElem_cons_succ, List.getElem_cons_zero, Act.put, List.setIfInBounds_toArray, List.set_cons_zero, List.set_cons_succ]
    refine wpAnyH_take (i := 15) (v := undef) rfl (by kernel_rfl) (by kernel_rfl) (by kernel_rfl) (fun _ _ _ h => h) (Or.inr ⟨by rfl, rfl⟩) hHeld ?_
    try simp only [List.getElem_toArray, List.getElem_cons_succ, List.getElem_cons_zero, Act.put, List.setIfInBounds_toArray, List.set_cons_zero, List.set_cons_succ]
    refine wpAnyH_take (i := 16) (v := undef) rfl (by kernel_rfl) (by kernel_rfl) (by kernel_rfl) (fun _ _ _ h => h) (Or.inr ⟨by rfl, rfl⟩) hHeld ?_
    try simp only [List.getElem_toArray, List.getElem_cons_succ, List.getElem_cons_zero, Act.put, List.setIfInBounds_toArray, List.set_cons_zero, List.set_cons_succ]
    refine wpAnyH_take (i := 17) (v := undef) rfl (by kernel_rfl) (by kernel_rfl) (by kernel_rfl) (fun _ _ _ h => h) (Or.inr ⟨by rfl, rfl⟩) hHeld ?_
    try simp only [List.getElem_toArray, List.getElem_cons_succ, List.getElem_cons_zero, Act.put, List.setIfInBounds_toArray, List.set_cons_zero, List.set_cons_succ]
    refine wpAnyH_take (i := 18) (v := undef) rfl (by kernel_rfl) (by kernel_rfl) (by kernel_rfl) (fun _ _ _ h => h) (Or.inr ⟨by rfl, rfl⟩) hHeld ?_
    try simp only [List.getElem_toArray, List.getElem_cons_succ, List.getElem_cons_zero, Act.put, List.setIfInBounds_toArray, List.set_cons_zero, List.set_cons_succ]
    refine wpAnyH_take (i := 19) (v := undef) rfl (by kernel_rfl) (by kernel_rfl) (by kernel_rfl) (fun _ _ _ h => h) (Or.inr ⟨by rfl, rfl⟩) hHeld ?_
    try simp only [List.getElem_toArray, List.getElem_cons_succ, List.getElem_cons_zero, Act.put, List.setIfInBounds_toArray, List.set_cons_zero, List.set_cons_succ]
    refine wpAnyH_take (i := 20) (v := undef) rfl (by kernel_rfl) (by kernel_rfl) (by kernel_rfl) (fun _ _ _ h => h) (Or.inr ⟨by rfl, rfl⟩) hHeld ?_
    try simp only [List.getElem_toArray, List.getElem_cons_succ, List.getElem_cons_zero, Act.put, List.setIfInBounds_toArray, List.set_cons_zero, List.set_cons_succ]
    refine wpAnyH_take (i := 21) (v := undef) rfl (by kernel_rfl) (by kernel_rfl) (by kernel_rfl) (fun _ _ _ h => h) (Or.inr ⟨by rfl, rfl⟩) hHeld ?_
    try simp only [List.getElem_toArray, List.getElem_cons_succ, List.getElem_cons_zero, Act.put, List.setIfInBounds_toArray, List.set_cons_zero, List.set_cons_succ]
    refine wpAnyH_take (i := 22) (v := undef) rfl (by kernel_rfl) (by kernel_rfl) (by kernel_rfl) (fun _ _ _ h => h) (Or.inr ⟨by rfl, rfl⟩) hHeld ?_
    try simp only [List.getElem_toArray, List.getElem_cons_succ, List.getElem_cons_zero, Act.put, List.setIfInBounds_toArray, List.set_cons_zero, List.set_cons_succ]
    refine wpAnyH_take (i := 23) (v := undef) rfl (by kernel_rfl) (by kernel_rfl) (by kernel_rfl) (fun _ _ _ h => h) (Or.inr ⟨by rfl, rfl⟩) hHeld ?_
    try simp only [List.getElem_toArray, List.getElem_cons_succ, List.getElem_cons_zero, Act.put, List.setIfInBounds_toArray, List.set_cons_zero, List.set_cons_succ]
    refine wpAnyH_take (i := 24) (v := (.bool true)) rfl (by kernel_rfl) (by kernel_rfl) (by kernel_rfl) (fun _ _ _ h => h) (Or.inl ⟨by rfl, fun _ _ => by first | rfl | go_simp⟩) hHeld ?_
    try simp only [List.getElem_toArray, List.getElem_cons_succ, List.getElem_cons_zero, Act.put, List.setIfInBounds_toArray, List.set_cons_zero, List.set_cons_succ]
    refine wpAnyH_done (by kernel_rfl) ?_ _
    refine NoPanic.normal ?_
    go_wp2_with fail
    with_reducible refine (fixed_22 _).mono ?_
    rintro e w4 ⟨rfl, hb4⟩
    have HB4 := Lib.hid (HB3.out.trans (hb4.mono HB3.out.size))
    clear hb4
    go_wp2_with fail
    go_ret
    exact ⟨rfl, HB4.out⟩
theorem again_open (C : List Value) (t : Int) (W : World) (h : ∃ (x : Wd) (tv sv : Value), C = x.cells tv sv ∧ x.roots.length = 27 ∧ ThAt W tv x.things ∧ WoAt W sv x.stack) : Calls Try.prog 3 #[.agg C.toArray, .int .i64 t] W fun e w' => e = .returned (.bool true) ∧ Below W.heap.size W w' := by
  obtain ⟨x, tv, sv, rfl, h27, ht, hs⟩ := h
  exact again_walk x tv sv t W h27 ht hs
end Gc
end Go.Proofs.Ytaldcgfhlflcpaa
