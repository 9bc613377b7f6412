/- CopiedSteps, walked. -/
import Derived.Deep.DeepCutAuto
import Derived.Deep.RegionHeld3
import Derived.Test.YtaldcgfhlflcpaaAJbo
set_option linter.unusedVariables false
set_option linter.unusedSimpArgs false
set_option linter.unnecessarySimpa false
namespace Go.Proofs.Ytaldcgfhlflcpaa
open Go.RowKit
set_option linter.unusedVariables false
set_option linter.unusedSimpArgs false
set_option maxRecDepth 100000
namespace Gc
def RanF (x : Wd) (t N : Nat) (m : Rs.M) : Prop :=
  ((N : Int) + x.wanted ≤ x.size → m.value = 0 ∧ ∃ e' R', Like x.env e' ∧ e'.Ok ∧ e'.Bef R' m.mem ∧ m.regs = (List.range 32).map R' ∧ R' 29 = ((e'.lo + N : Nat) : Int) ∧ (if t % 2 = 0 then e'.lo = x.env.lo else e'.lo = x.env.oth) ∧ ∀ j, x.env.R j → e'.pl j + e'.sz j ≤ e'.lo + N) ∧
      (t = 1 → m.steps ≤ 2200 + 30 * ((N : Int) + (x.stack.length : Nat)))
def RanQ (x : Wd) (t N : Nat) (W : World) (e : Ending) (w' : World) : Prop :=
  ∃ m a c, e = .returned (.tuple #[.agg (Rs.halt 0 m (.slice a m.mem.length c)).toArray, .bool true]) ∧ Sl w' (.slice a m.mem.length c) (i64s m.mem) ∧ m.regs.length = 32 ∧ Below W.heap.size W w' ∧ (∀ b o s, a = some ⟨b, o, s⟩ → W.heap.size ≤ b) ∧ RanF x t N m
theorem sl_setRow {w : World} {a : Option Addr} {n c k : Nat} {xs : List Value} (h : Sl w (.slice a n c) xs) (ha : ∀ b o s, a = some ⟨b, o, s⟩ → k < b) (cs : Array Value) : Sl (w.setRow k cs) (.slice a n c) xs := by
  obtain ⟨a', cap, hv, h1 | ⟨ad, h1, h2⟩⟩ := h
  · exact ⟨a', cap, hv, .inl h1⟩
  · refine ⟨a', cap, hv, .inr ⟨ad, h1, fun j u hu => ?_⟩⟩
    obtain ⟨ab, ao, asp⟩ := ad
    have hlt := ha ab ao asp (by rw [← h1]; exact (Value.slice.inj hv).1)
    have hb : (Addr.add ⟨ab, ao, asp⟩ j).block = ab := by unfold Addr.add; split <;> rfl
    rw [World.cell?_of_block (w := w) (setRow_other _ _ _ _ (by rw [hb]; omega))]
    exact h2 j u hu
theorem ranq_any (x : Wd) (tv sv : Value) (w : World) (hm : x.May) (ht : ThAt w tv x.things) (hs : WoAt w sv x.stack) (t : Nat) (h1 : 1 ≤ t) (h3 : t ≤ 3) (N : Nat) (hN : Alive x.env N) (hNs : N ≤ x.sz) (hfit : t = 1 ∨ (N : Int) + x.wanted ≤ x.size) (v2 : Value) (hg : Sg.ISrc w v2 Sg.gcL) :
    Calls Try.prog 8 #[.agg (x.cells tv sv).toArray, .int .i64 (t : Nat), v2] w (RanQ x t N w) :=
  (ran_wd x tv sv w hm ht hs t h1 h3 v2 hg).mono fun _ _ h => ran_facts x hm t h1 h3 N hN hNs hfit h
theorem halt_put {W : World} {b : Nat} {t : TypeId} {m : Rs.M} {mv : Value} (hr : m.regs.length = 32) (h1 : mv.oneCell' = true) (h : W.heap[b]? = some (.cells halt0 t (0, 0))) : (storeCells ⟨b, 0, none⟩ (Rs.halt 0 m mv)).run Try.prog W = .ok () (W.setRow b (Rs.halt 0 m mv).toArray) :=
  store_all (P := Try.prog) W b t halt0 (Rs.halt 0 m mv) h (by rw [halt_len' hr]; rfl) (halt_one' h1)
set_option maxHeartbeats 16000000 in
theorem steps_walk (x : Wd) (tv sv : Value) (w : World) (h27 : x.roots.length = 27) (ht : ThAt w tv x.things) (hs : WoAt w sv x.stack) : Calls Try.prog 4 #[.agg (x.cells tv sv).toArray] w fun e w' => e = .returned (.bool true) ∧ Below w.heap.size w w' := by
  have HMD : Hid (∀ W, Below w.heap.size w W → Calls Try.prog 5 #[.agg (x.cells tv sv).toArray] W (MadePost x W)) := fun W hb => made_any x tv sv W h27 (ht.below hb) (hs.below hb)
  have hcl := cells_len x tv sv h27
  have k56 := (cells_at x tv sv h27).2.2.1
  have HRQ : Hid (∀ (N : Nat) (W : World) (v2 : Value), x.May → Alive x.env N → N ≤ x.sz → Below w.heap.size w W → Sg.ISrc W v2 Sg.gcL → Calls Try.prog 8 #[.agg (x.cells tv sv).toArray, .int .i64 1, v2] W (RanQ x 1 N W)) := fun N W v2 hm hN hNs hb hg => ranq_any x tv sv W hm (ht.below hb) (hs.below hb) 1 (by decide) (by decide) N hN hNs (.inl rfl) v2 hg
  obtain ⟨as_, cs, rfl, -, -⟩ := hs
  generalize x.cells tv (.slice as_ x.stack.length cs) = C at *
  have HC := Lib.hid hcl
  have HK56 := Lib.hid k56
  have hCS := worldSize C hcl
  clear ht k56 hcl
  go_enter Try.func4, Try.ntmps4
  go_upto_region 1 with fail
  have HB0 := Lib.hid ((Below.refl w.heap.size w).alloc (Nat.le_refl _) (.cells C.toArray 28))
  have HBX := Lib.hid (heap_alloc_new w (.cells C.toArray 28))
  generalize w.alloc (.cells C.toArray 28) = W at HB0 HBX ⊢
  have RX := Lib.hid (row_rangeAt HBX.out)
  have hbx : Hid (w.heap.size < W.heap.size) := (Array.getElem?_eq_some_iff.1 HBX.out).1
  go_wp2_with (first
    | (refine wpList_load_r 28 (.tmp 1) rfl rfl w.heap.size 0 rfl C _ RX.out Try.underlying28 rfl hCS ?_)
    | fail)
  with_reducible refine (HMD.out _ HB0.out).mono ?_
  rintro e w1 ⟨hb1, ⟨hm, am, cm, R, mem, rfl, hsl, hbef, h26, hinr, -⟩ | ⟨hno, rfl⟩⟩
  · obtain ⟨N, hN, hNs⟩ := alive_ex (Wd.env_ok hm)
    have HNA := Lib.hid hN
    have HB1 := Lib.hid (HB0.out.trans (hb1.mono HB0.out.size))
    have HX1 := Lib.hid ((hb1.block w.heap.size hbx.out).trans HBX.out)
    have HS1 := Lib.hid hsl
    have HBEF := Lib.hid hbef
    clear hb1 hsl hbef h26 hinr hN
    go_upto_region 2 with (first
      | (refine wpList_store_r rfl 30 (.tmp 4) (.tmp 12) rfl w1.heap.size 30 #[.int .i64 0, .int .i64 0, .int .i64 0, .int .i64 0, .int .i64 0, .int .i64 0, .int .i64 0, .int .i64 0, .int .i64 0, .int .i64 0, .int .i64 0, .int .i64 0, .int .i64 0, .int .i64 0, .int .i64 0, .int .i64 0, .int .i64 0, .int .i64 0, .int .i64 0, .int .i64 0, .int .i64 0, .int .i64 0, .int .i64 0, .int .i64 0, .int .i64 0, .int .i64 0, .int .i64 0, .int .i64 0, .int .i64 0, .int .i64 0, .int .i64 0, .int .i64 0] (regsV R) rfl rfl (heap_alloc_new w1 _) (by simp [regsV]) (regsV_size _) (regs_one R) ?_; intro w2 hw2; have HW2 := Lib.hid hw2; clear hw2)
      | fail)
    have HB12 : Hid (Below w1.heap.size w1 w2) := by unfold Hid; rw [HW2.out]; exact below_setRow ((Below.refl w1.heap.size w1).alloc (Nat.le_refl _) _) (Nat.le_refl _) _
    have HG2 : Hid (w2.heap[w1.heap.size]? = some (.cells (regsV R).toArray 30 (0, 0))) := by unfold Hid; rw [HW2.out]; exact setRow_heap _ _ _ _ _ _ (heap_alloc_new w1 _)
    have HB2 := Lib.hid (HB1.out.trans (HB12.out.mono HB1.out.size))
    have HX2 := Lib.hid ((HB12.out.block w.heap.size (Array.getElem?_eq_some_iff.1 HX1.out).1).trans HX1.out)
    have HS2 := Lib.hid (HS1.out.below HB12.out (Nat.le_refl _))
    generalize w1.heap.size = bg at HG2 ⊢
    clear HW2 HB1 HX1 HS1 HB12 HB0 HBX RX
    go_wp2_with fail
    with_reducible refine (fixed_22 _).mono ?_
    rintro e w3 ⟨rfl, hb3⟩
    have HB3 := Lib.hid (HB2.out.trans (hb3.mono HB2.out.size))
    have HX3 := Lib.hid ((hb3.block w.heap.size (Array.getElem?_eq_some_iff.1 HX2.out).1).trans HX2.out)
    have HG3 := Lib.hid ((hb3.block bg (Array.getElem?_eq_some_iff.1 HG2.out).1).trans HG2.out)
    have HS3 := Lib.hid (HS2.out.below hb3 (Nat.le_refl _))
    clear hb3 HB2 HX2 HG2 HS2
    go_upto_region 4 with fail
    have HMAY := Lib.hid hm
    have HNS := Lib.hid hNs
    clear hm hNs hbx
    have HRQ2 : Hid (∀ (W : World) (v2 : Value), Below w3.heap.size w3 W → Sg.ISrc W v2 Sg.gcL → Calls Try.prog 8 #[.agg C.toArray, .int .i64 1, v2] W (RanQ x 1 N W)) := fun W v2 hb hg => HRQ.out N W v2 HMAY.out HNA.out HNS.out (HB3.out.trans (hb.mono HB3.out.size)) hg
    go_cut [6, 7] from 21 to 26 (fun s6 s7 wx => ∃ (hb : Nat) (m : Rs.M) (a : Option Addr) (c : Nat), s6 = .pointer (some ⟨hb, 0, none⟩) ∧ s7 = .bool true ∧ Hid (HaltAt wx hb 0 m (.slice a m.mem.length c)) ∧ Hid (Sl wx (.slice a m.mem.length c) (i64s m.mem)) ∧ Hid (RanF x 1 N m) ∧ Hid (Below w3.heap.size w3 wx))
    case first =>
      have HD := Lib.hid (Below.refl w3.heap.size w3).drew
      have HXK : Hid (∀ W, Below w3.heap.size w3 W → W.heap[w.heap.size]? = some (.cells C.toArray 28 (0, 0))) := fun W hb => (hb.block _ (Array.getElem?_eq_some_iff.1 HX3.out).1).trans HX3.out
      refine wp_region_noPanic ?_
      refine wp_region_held_drew (S := fun w' => w'.heap[w.heap.size]? = some (.cells C.toArray 28 (0, 0))) (by kernel_rfl) (HXK.out _ HD.out) (fun hHeld => ?_)
      refine wpAnyH_take (i := 0) (v := .agg C.toArray) rfl (by kernel_rfl) (by kernel_rfl) (by kernel_rfl) (fun _ _ _ h => h) (yieldsIf_load_mid (by rfl) 28 (.tmp 1) rfl w.heap.size 0 rfl C _ (fun W h => row_rangeAt h) Try.underlying28 rfl hCS) hHeld ?_
      try simp only [List.getElem_toArray, List.getElem_cons_succ, List.getElem_cons_zero, Act.put, List.setIfInBounds_toArray, List.set_cons_zero, List.set_cons_succ]
      refine wpAnyH_ready (rs := [1, 6]) (by kernel_rfl) (by simp) ?_
      refine (AllReadyH.cons rfl (fun K1 hK1 => ?wA) (AllReadyH.cons rfl (fun K1 hK1 => ?wB) AllReadyH.nil))
      case wA =>
        clear hHeld
        go_simp
        go_at_call 9
        with_reducible refine (Sg.gc_Code _).mono ?_
        rintro e w4 ⟨v4, rfl, ho4, hb4⟩
        have HV4 := Lib.hid (Sg.ISrc.own ho4)
        have HB4 : Hid (Below w3.heap.size w3 w4) := Lib.hid (HD.out.trans (hb4.mono HD.out.size))
        clear ho4 hb4
        go_wp2_with fail
        refine hK1.out _ _ (HXK.out _ (HB4.out)) (fun hHeld => ?_)
        clear hK1 K1
        try simp only [List.getElem_toArray, List.getElem_cons_succ, List.getElem_cons_zero, Act.put, List.setIfInBounds_toArray, List.set_cons_zero, List.set_cons_succ]
        refine wpAnyH_ready (rs := [2, 6]) (by kernel_rfl) (by simp) ?_
        refine (AllReadyH.cons rfl (fun K2 hK2 => ?wA1) (AllReadyH.cons rfl (fun K2 hK2 => ?wA2) AllReadyH.nil))
        case wA1 =>
          clear hHeld
          go_simp
          go_at_call 8
          with_reducible refine (HRQ2.out _ _ HB4.out HV4.out).mono ?_
          rintro e w5 ⟨m, a, c, rfl, hsl, hrl, hb5, hab, hrf⟩
          have HRF := Lib.hid hrf
          have HSL := Lib.hid hsl
          have HAB := Lib.hid hab
          have hln := halt_len' (st := 0) (mv := (.slice a m.mem.length c)) hrl
          have HB5 : Hid (Below w3.heap.size w3 w5) := Lib.hid (HB4.out.trans (hb5.mono HB4.out.size))
          have hst := halt_store w5 0 m (.slice a m.mem.length c) hrl rfl
          clear hsl hab hrf hb5
          go_wp2_with fail
          refine hK2.out _ _ (HXK.out _ (HB5.out)) (fun hHeld => ?_)
          clear hK2 K2
          try simp only [List.getElem_toArray, List.getElem_cons_succ, List.getElem_cons_zero, Act.put, List.setIfInBounds_toArray, List.set_cons_zero, List.set_cons_succ]
          refine wpAnyH_take (i := 3) (v := (.tuple #[.agg (Rs.halt 0 m (.slice a m.mem.length c)).toArray, .bool true])) rfl (by kernel_rfl) (by kernel_rfl) (by kernel_rfl) (fun _ _ _ h => h) (Or.inl ⟨by rfl, fun _ _ => by rfl⟩) hHeld ?_
          try simp only [List.getElem_toArray, List.getElem_cons_succ, List.getElem_cons_zero, Act.put, List.setIfInBounds_toArray, List.set_cons_zero, List.set_cons_succ]
          refine wpAnyH_take (i := 4) (v := (.agg (Rs.halt 0 m (.slice a m.mem.length c)).toArray)) rfl (by kernel_rfl) (by kernel_rfl) (by kernel_rfl) (fun _ _ _ h => h) (Or.inl ⟨by rfl, fun _ _ => by rfl⟩) hHeld ?_
          try simp only [List.getElem_toArray, List.getElem_cons_succ, List.getElem_cons_zero, Act.put, List.setIfInBounds_toArray, List.set_cons_zero, List.set_cons_succ]
          refine wpAnyH_take (i := 5) (v := (.bool true)) rfl (by kernel_rfl) (by kernel_rfl) (by kernel_rfl) (fun _ _ _ h => h) (Or.inl ⟨by rfl, fun _ _ => by rfl⟩) hHeld ?_
          try simp only [List.getElem_toArray, List.getElem_cons_succ, List.getElem_cons_zero, Act.put, List.setIfInBounds_toArray, List.set_cons_zero, List.set_cons_succ]
          refine wpAnyH_ready (rs := [6]) (by kernel_rfl) (by simp) ?_
          refine (AllReadyH.cons rfl (fun K3 hK3 => ?wS3) AllReadyH.nil)
          clear hHeld
          go_simp
          refine hK3.out _ _ (HXK.out _ (HB5.out.alloc HB5.out.size _)) (fun hHeld => ?_)
          clear hK3 K3
          try simp only [List.getElem_toArray, List.getElem_cons_succ, List.getElem_cons_zero, Act.put, List.setIfInBounds_toArray, List.set_cons_zero, List.set_cons_succ]
          refine wpAnyH_ready (rs := [7]) (by kernel_rfl) (by simp) ?_
          refine (AllReadyH.cons rfl (fun K5 hK5 => ?wT4) AllReadyH.nil)
          clear hHeld
          go_simp
          refine hK5.out _ _ (HXK.out _ (HB5.out.alloc HB5.out.size _)) (fun hHeld => ?_)
          clear hK5 K5
          try simp only [List.getElem_toArray, List.getElem_cons_succ, List.getElem_cons_zero, Act.put, List.setIfInBounds_toArray, List.set_cons_zero, List.set_cons_succ]
          refine wpAnyH_take (i := 8) (v := (.bool true)) rfl (by kernel_rfl) (by kernel_rfl) (by kernel_rfl) (fun _ _ _ h => h) (Or.inl ⟨by rfl, fun _ _ => by rfl⟩) hHeld ?_
          try simp only [List.getElem_toArray, List.getElem_cons_succ, List.getElem_cons_zero, Act.put, List.setIfInBounds_toArray, List.set_cons_zero, List.set_cons_succ]
          refine wpAnyH_done (by kernel_rfl) ?_ _
          refine NoPanic.normal ?_
          go_wp2_with fail
          go_meet
          case rel => exact ⟨_, m, a, c, rfl, rfl, HaltAt.new w5 hrl, HSL.out.below ((Below.refl w5.heap.size w5).alloc (Nat.le_refl _) _) (Nat.le_refl _), HRF, HB5.out.alloc HB5.out.size _⟩
        case wA2 =>
          clear hHeld
          go_simp
          refine hK2.out _ _ (HXK.out _ (HB4.out.alloc HB4.out.size _)) (fun hHeld => ?_)
          clear hK2 K2
          try simp only [List.getElem_toArray, List.getElem_cons_succ, List.getElem_cons_zero, Act.put, List.setIfInBounds_toArray, List.set_cons_zero, List.set_cons_succ]
          refine wpAnyH_ready (rs := [2]) (by kernel_rfl) (by simp) ?_
          refine (AllReadyH.cons rfl (fun K3 hK3 => ?wR5) AllReadyH.nil)
          clear hHeld
          go_simp
          go_at_call 8
          with_reducible refine (HRQ2.out _ _ (HB4.out.alloc HB4.out.size _) (HV4.out.below ((Below.refl w4.heap.size w4).alloc (Nat.le_refl _) _) (Nat.le_refl _))).mono ?_
          rintro e w5 ⟨m, a, c, rfl, hsl, hrl, hb5, hab, hrf⟩
          have HRF := Lib.hid hrf
          have HSL := Lib.hid hsl
          have HAB := Lib.hid hab
          have hln := halt_len' (st := 0) (mv := (.slice a m.mem.length c)) hrl
          have HB5 : Hid (Below w3.heap.size w3 w5) := Lib.hid ((HB4.out.alloc HB4.out.size _).trans (hb5.mono (by have := HB4.out.size; simp; omega)))
          have HZ5 : Hid (w5.heap[w4.heap.size]? = some (.cells halt0 36 (0, 0))) := (hb5.block w4.heap.size (by simp)).trans (heap_alloc_new w4 _)
          have HLT : Hid (∀ b o s, a = some ⟨b, o, s⟩ → w4.heap.size < b) := fun b o s e => Nat.lt_of_lt_of_le (by simp) (HAB.out b o s e)
          have hst := halt_put (mv := (.slice a m.mem.length c)) hrl rfl HZ5.out
          clear hsl hab hrf hb5
          go_wp2_with fail
          refine hK3.out _ _ (HXK.out _ (HB5.out)) (fun hHeld => ?_)
          clear hK3 K3
          try simp only [List.getElem_toArray, List.getElem_cons_succ, List.getElem_cons_zero, Act.put, List.setIfInBounds_toArray, List.set_cons_zero, List.set_cons_succ]
          refine wpAnyH_take (i := 3) (v := (.tuple #[.agg (Rs.halt 0 m (.slice a m.mem.length c)).toArray, .bool true])) rfl (by kernel_rfl) (by kernel_rfl) (by kernel_rfl) (fun _ _ _ h => h) (Or.inl ⟨by rfl, fun _ _ => by rfl⟩) hHeld ?_
          try simp only [List.getElem_toArray, List.getElem_cons_succ, List.getElem_cons_zero, Act.put, List.setIfInBounds_toArray, List.set_cons_zero, List.set_cons_succ]
          refine wpAnyH_take (i := 4) (v := (.agg (Rs.halt 0 m (.slice a m.mem.length c)).toArray)) rfl (by kernel_rfl) (by kernel_rfl) (by kernel_rfl) (fun _ _ _ h => h) (Or.inl ⟨by rfl, fun _ _ => by rfl⟩) hHeld ?_
          try simp only [List.getElem_toArray, List.getElem_cons_succ, List.getElem_cons_zero, Act.put, List.setIfInBounds_toArray, List.set_cons_zero, List.set_cons_succ]
          refine wpAnyH_take (i := 5) (v := (.bool true)) rfl (by kernel_rfl) (by kernel_rfl) (by kernel_rfl) (fun _ _ _ h => h) (Or.inl ⟨by rfl, fun _ _ => by rfl⟩) hHeld ?_
          try simp only [List.getElem_toArray, List.getElem_cons_succ, List.getElem_cons_zero, Act.put, List.setIfInBounds_toArray, List.set_cons_zero, List.set_cons_succ]
          refine wpAnyH_ready (rs := [7]) (by kernel_rfl) (by simp) ?_
          refine (AllReadyH.cons rfl (fun K5 hK5 => ?wT6) AllReadyH.nil)
          clear hHeld
          go_simp
          refine hK5.out _ _ (HXK.out _ (below_setRow HB5.out HB4.out.size _)) (fun hHeld => ?_)
          clear hK5 K5
          try simp only [List.getElem_toArray, List.getElem_cons_succ, List.getElem_cons_zero, Act.put, List.setIfInBounds_toArray, List.set_cons_zero, List.set_cons_succ]
          refine wpAnyH_take (i := 8) (v := (.bool true)) rfl (by kernel_rfl) (by kernel_rfl) (by kernel_rfl) (fun _ _ _ h => h) (Or.inl ⟨by rfl, fun _ _ => by rfl⟩) hHeld ?_
          try simp only [List.getElem_toArray, List.getElem_cons_succ, List.getElem_cons_zero, Act.put, List.setIfInBounds_toArray, List.set_cons_zero, List.set_cons_succ]
          refine wpAnyH_done (by kernel_rfl) ?_ _
          refine NoPanic.normal ?_
          go_wp2_with fail
          go_meet
          case rel => exact ⟨_, m, a, c, rfl, rfl, ⟨setRow_heap _ _ _ _ _ _ HZ5.out, hrl⟩, sl_setRow HSL.out HLT.out _, HRF, below_setRow HB5.out HB4.out.size _⟩
      case wB =>
        clear hHeld
        go_simp
        refine hK1.out _ _ (HXK.out _ (HD.out.alloc HD.out.size _)) (fun hHeld => ?_)
        clear hK1 K1
        try simp only [List.getElem_toArray, List.getElem_cons_succ, List.getElem_cons_zero, Act.put, List.setIfInBounds_toArray, List.set_cons_zero, List.set_cons_succ]
        refine wpAnyH_ready (rs := [1]) (by kernel_rfl) (by simp) ?_
        refine (AllReadyH.cons rfl (fun K2 hK2 => ?wC7) AllReadyH.nil)
        clear hHeld
        go_simp
        go_at_call 9
        with_reducible refine (Sg.gc_Code _).mono ?_
        rintro e w4 ⟨v4, rfl, ho4, hb4⟩
        have HV4 := Lib.hid (Sg.ISrc.own ho4)
        have HB4 : Hid (Below w3.heap.size w3 w4) := Lib.hid ((HD.out.alloc HD.out.size _).trans (hb4.mono (by have := HD.out.size; simp)))
        have HZ4 : Hid (w4.heap[w3.heap.size]? = some (.cells halt0 36 (0, 0))) := (hb4.block w3.heap.size (by simp)).trans (heap_alloc_new w3 _)
        clear ho4 hb4
        go_wp2_with fail
        refine hK2.out _ _ (HXK.out _ (HB4.out)) (fun hHeld => ?_)
        clear hK2 K2
        try simp only [List.getElem_toArray, List.getElem_cons_succ, List.getElem_cons_zero, Act.put, List.setIfInBounds_toArray, List.set_cons_zero, List.set_cons_succ]
        refine wpAnyH_ready (rs := [2]) (by kernel_rfl) (by simp) ?_
        refine (AllReadyH.cons rfl (fun K3 hK3 => ?wR8) AllReadyH.nil)
        clear hHeld
        go_simp
        go_at_call 8
        with_reducible refine (HRQ2.out _ _ HB4.out HV4.out).mono ?_
        rintro e w5 ⟨m, a, c, rfl, hsl, hrl, hb5, hab, hrf⟩
        have HRF := Lib.hid hrf
        have HSL := Lib.hid hsl
        have HAB := Lib.hid hab
        have hln := halt_len' (st := 0) (mv := (.slice a m.mem.length c)) hrl
        have HB5 : Hid (Below w3.heap.size w3 w5) := Lib.hid (HB4.out.trans (hb5.mono HB4.out.size))
        have HZ5 : Hid (w5.heap[w3.heap.size]? = some (.cells halt0 36 (0, 0))) := (hb5.block w3.heap.size (Array.getElem?_eq_some_iff.1 HZ4.out).1).trans HZ4.out
        have HLT : Hid (∀ b o s, a = some ⟨b, o, s⟩ → w3.heap.size < b) := fun b o s e => Nat.lt_of_lt_of_le (Array.getElem?_eq_some_iff.1 HZ4.out).1 (HAB.out b o s e)
        have hst := halt_put (mv := (.slice a m.mem.length c)) hrl rfl HZ5.out
        clear hsl hab hrf hb5
        go_wp2_with fail
        refine hK3.out _ _ (HXK.out _ (HB5.out)) (fun hHeld => ?_)
        clear hK3 K3
        try simp only [List.getElem_toArray, List.getElem_cons_succ, List.getElem_cons_zero, Act.put, List.setIfInBounds_toArray, List.set_cons_zero, List.set_cons_succ]
        refine wpAnyH_take (i := 3) (v := (.tuple #[.agg (Rs.halt 0 m (.slice a m.mem.length c)).toArray, .bool true])) rfl (by kernel_rfl) (by kernel_rfl) (by kernel_rfl) (fun _ _ _ h => h) (Or.inl ⟨by rfl, fun _ _ => by rfl⟩) hHeld ?_
        try simp only [List.getElem_toArray, List.getElem_cons_succ, List.getElem_cons_zero, Act.put, List.setIfInBounds_toArray, List.set_cons_zero, List.set_cons_succ]
        refine wpAnyH_take (i := 4) (v := (.agg (Rs.halt 0 m (.slice a m.mem.length c)).toArray)) rfl (by kernel_rfl) (by kernel_rfl) (by kernel_rfl) (fun _ _ _ h => h) (Or.inl ⟨by rfl, fun _ _ => by rfl⟩) hHeld ?_
        try simp only [List.getElem_toArray, List.getElem_cons_succ, List.getElem_cons_zero, Act.put, List.setIfInBounds_toArray, List.set_cons_zero, List.set_cons_succ]
        refine wpAnyH_take (i := 5) (v := (.bool true)) rfl (by kernel_rfl) (by kernel_rfl) (by kernel_rfl) (fun _ _ _ h => h) (Or.inl ⟨by rfl, fun _ _ => by rfl⟩) hHeld ?_
        try simp only [List.getElem_toArray, List.getElem_cons_succ, List.getElem_cons_zero, Act.put, List.setIfInBounds_toArray, List.set_cons_zero, List.set_cons_succ]
        refine wpAnyH_ready (rs := [7]) (by kernel_rfl) (by simp) ?_
        refine (AllReadyH.cons rfl (fun K5 hK5 => ?wT9) AllReadyH.nil)
        clear hHeld
        go_simp
        refine hK5.out _ _ (HXK.out _ (below_setRow HB5.out (Nat.le_refl _) _)) (fun hHeld => ?_)
        clear hK5 K5
        try simp only [List.getElem_toArray, List.getElem_cons_succ, List.getElem_cons_zero, Act.put, List.setIfInBounds_toArray, List.set_cons_zero, List.set_cons_succ]
        refine wpAnyH_take (i := 8) (v := (.bool true)) rfl (by kernel_rfl) (by kernel_rfl) (by kernel_rfl) (fun _ _ _ h => h) (Or.inl ⟨by rfl, fun _ _ => by rfl⟩) hHeld ?_
        try simp only [List.getElem_toArray, List.getElem_cons_succ, List.getElem_cons_zero, Act.put, List.setIfInBounds_toArray, List.set_cons_zero, List.set_cons_succ]
        refine wpAnyH_done (by kernel_rfl) ?_ _
        refine NoPanic.normal ?_
        go_wp2_with fail
        go_meet
        case rel => exact ⟨_, m, a, c, rfl, rfl, ⟨setRow_heap _ _ _ _ _ _ HZ5.out, hrl⟩, sl_setRow HSL.out HLT.out _, HRF, below_setRow HB5.out (Nat.le_refl _) _⟩
    case rest =>
      obtain ⟨hb, m, a, c, rfl, rfl, A1, HM, HRF, HB6⟩ := hcut
      have hstp := HRF.out.2 rfl
      have hnb : N ≤ x.sz := HNS.out
      have hmz := HMAY.out.size
      have hms := HMAY.out.stack
      have hszz : (x.sz : Int) = x.size := by unfold Wd.sz; omega
      have c0 := A1.out.c0
      have c3 := A1.out.c3
      have e56 : wc.cell? ⟨w.heap.size, 56, none⟩ = some (.slice as_ x.stack.length cs) := by
        rw [cell_of_row _ _ _ _ _ _ ((HB6.out.block _ (Array.getElem?_eq_some_iff.1 HX3.out).1).trans HX3.out)]
        simpa using HK56.out
      have HG6 := Lib.hid (regs_rangeAt ((HB6.out.block bg (Array.getElem?_eq_some_iff.1 HG3.out).1).trans HG3.out))
      have HLV : Hid (∀ W, Below wc.heap.size wc W → Calls Try.prog 7 #[.slice am mem.length cm, .agg (regsV R).toArray] W fun en w' => en = .returned (.int .i64 (N : Nat)) ∧ Below W.heap.size W w') := fun W hb => living_any x.env (Wd.env_ok HMAY.out) R mem HBEF.out N HNA.out hms (by show x.sz ≤ 500; omega) am cm W ((HS3.out.below HB6.out (Nat.le_refl _)).below hb (Nat.le_refl _))
      have hbb : hb < wc.heap.size := (Array.getElem?_eq_some_iff.1 A1.out.blk).1
      have hbx2 : w.heap.size < wc.heap.size := (Array.getElem?_eq_some_iff.1 ((HB6.out.block _ (Array.getElem?_eq_some_iff.1 HX3.out).1).trans HX3.out)).1
      have hbg2 : bg < wc.heap.size := (Array.getElem?_eq_some_iff.1 ((HB6.out.block bg (Array.getElem?_eq_some_iff.1 HG3.out).1).trans HG3.out)).1
      have HBB := Lib.hid hbb
      have HBX2 := Lib.hid hbx2
      have HBG2 := Lib.hid hbg2
      have HEND := Lib.hid (HB3.out.trans (HB6.out.mono HB3.out.size))
      obtain ⟨sn, hsn⟩ : ∃ sn : Nat, x.stack.length = sn := ⟨_, rfl⟩
      obtain ⟨st, hst⟩ : ∃ z, m.steps = z := ⟨_, rfl⟩
      rw [hsn] at e56 hstp hms
      rw [hst] at c3 hstp
      have g1 : IntKind.i64.wrap ((N : Int) + (sn : Int)) = (N : Int) + (sn : Int) := by rw [IntKind.wrap_i64]; omega
      have g2 : IntKind.i64.wrap (30 * ((N : Int) + (sn : Int))) = 30 * ((N : Int) + (sn : Int)) := by rw [IntKind.wrap_i64]; omega
      have g3 : IntKind.i64.wrap (2200 + 30 * ((N : Int) + (sn : Int))) = 2200 + 30 * ((N : Int) + (sn : Int)) := by rw [IntKind.wrap_i64]; omega
      have hu30 := Try.underlying30
      have hi30 : (Try.prog.info? 30).map (·.size) = some (regsV R).length := regsV_size _
      clear HRF hnb hmz hms hszz HNS HMAY HNA HBEF HG3 HS3 HX3 HM HB6 HB3 A1 hbb hbx2 hbg2 hsn hst HRQ HMD HRQ2 HC HK56 hCS
      go_wp2_with fail
      revert hi30 HG6 HLV
      generalize regsV R = Z0
      intro HG6 HLV hi30
      have HS0 : Hid (wc.drew.cell? ⟨hb, 0, none⟩ = some (.int .i64 0) ∧ wc.drew.cell? ⟨hb, 3, none⟩ = some (.int .i64 st) ∧ wc.drew.rangeAt bg 0 Z0 ∧ wc.drew.cell? ⟨w.heap.size, 56, none⟩ = some (.slice as_ sn cs)) := ⟨c0, c3, HG6.out, e56⟩
      have HSB : Hid (∀ y, Below wc.heap.size wc y → y.cell? ⟨hb, 0, none⟩ = some (.int .i64 0) ∧ y.cell? ⟨hb, 3, none⟩ = some (.int .i64 st) ∧ y.rangeAt bg 0 Z0 ∧ y.cell? ⟨w.heap.size, 56, none⟩ = some (.slice as_ sn cs)) := fun y hy => ⟨(hy.cell (p := ⟨hb, 0, none⟩) HBB.out).trans c0, (hy.cell (p := ⟨hb, 3, none⟩) HBB.out).trans c3, fun j v hv => (hy.cell (p := ⟨bg, 0 + j, none⟩) HBG2.out).trans (HG6.out j v hv), (hy.cell (p := ⟨w.heap.size, 56, none⟩) HBX2.out).trans e56⟩
      go_region_held3 (fun w' => w'.cell? ⟨hb, 0, none⟩ = some (.int .i64 0) ∧ w'.cell? ⟨hb, 3, none⟩ = some (.int .i64 st) ∧ w'.rangeAt bg 0 Z0 ∧ w'.cell? ⟨w.heap.size, 56, none⟩ = some (.slice as_ sn cs))
        (first | with_reducible exact HS0.out | with_reducible exact HSB.out _ HB7.out | exact HS0.out)
        (first | (go_at_call 7; (with_reducible refine (HLV.out _ (Below.refl wc.heap.size wc).drew).mono ?_); rintro e w7 ⟨rfl, hb7⟩; have HB7 := Lib.hid ((Below.refl wc.heap.size wc).drew.trans hb7); clear hb7))
      go_wp2_with fail
      go_ret
      exact ⟨rfl, HEND.out.trans (HB7.out.mono HEND.out.size)⟩
  · have HB1 := Lib.hid (HB0.out.trans (hb1.mono HB0.out.size))
    clear hb1
    go_upto_region 2 with (first
      | (refine wpList_store_r rfl 30 (.tmp 4) (.tmp 12) rfl w1.heap.size 30 #[.int .i64 0, .int .i64 0, .int .i64 0, .int .i64 0, .int .i64 0, .int .i64 0, .int .i64 0, .int .i64 0, .int .i64 0, .int .i64 0, .int .i64 0, .int .i64 0, .int .i64 0, .int .i64 0, .int .i64 0, .int .i64 0, .int .i64 0, .int .i64 0, .int .i64 0, .int .i64 0, .int .i64 0, .int .i64 0, .int .i64 0, .int .i64 0, .int .i64 0, .int .i64 0, .int .i64 0, .int .i64 0, .int .i64 0, .int .i64 0, .int .i64 0, .int .i64 0] zeroR rfl rfl (heap_alloc_new w1 _) rfl (regsV_size _) zeroR_one ?_; intro w2 hw2; have HW2 := Lib.hid hw2; clear hw2)
      | fail)
    have HB2 : Hid (Below w.heap.size w w2) := by unfold Hid; rw [HW2.out]; exact below_setRow (HB1.out.alloc HB1.out.size _) HB1.out.size _
    clear HW2
    go_wp2_with fail
    with_reducible refine (fixed_22 _).mono ?_
    rintro e w3 ⟨rfl, hb3⟩
    have HB3 := Lib.hid (HB2.out.trans (hb3.mono HB2.out.size))
    clear hb3
    go_wp2_with fail
    with_reducible refine (fixed_22 _).mono ?_
    rintro e w4 ⟨rfl, hb4⟩
    have HB4 := Lib.hid (HB3.out.trans (hb4.mono HB3.out.size))
    clear hb4
    go_wp2_with fail
    go_ret
    exact ⟨rfl, HB4.out⟩
end Gc
end Go.Proofs.Ytaldcgfhlflcpaa
