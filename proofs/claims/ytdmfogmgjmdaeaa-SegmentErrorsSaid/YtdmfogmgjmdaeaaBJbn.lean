/- The reference's Run. -/
import Derived.Test.YtdmfogmgjmdaeaaBJbl
import Derived.Test.YtdmfogmgjmdaeaaBJbm
import Derived.Test.YtdmfogmgjmdaeaaBJbc
import Derived.Deep.RegionHeld3
import Derived.Test.YtdmfogmgjmdaeaaBJal
import Derived.Deep.QuietTactic
import Derived.BigQuiet
import Derived.Test.YtdmfogmgjmdaeaaBJam
set_option linter.unusedVariables false
set_option linter.unusedSimpArgs false
set_option linter.unnecessarySimpa false
namespace Go.Proofs.Ytdmfogmgjmdaeaa
open Go.RowKit
set_option linter.unusedVariables false
set_option linter.unusedSimpArgs false
set_option maxRecDepth 100000
namespace Sg
open As
theorem mem0_length (st sz : Nat) (mo : Int) : (mem0 st sz mo).length = 33 + st + 2 * sz := by simp [mem0]
theorem mem0_in {st sz : Nat} {mo : Int} (hq : 33 + st + 2 * sz ≤ 1048576) (hm : Rs.InR mo) : ∀ x ∈ mem0 st sz mo, Rs.InR x := by
  intro x hx
  have h : x = 0 ∨ x = 32 + st ∨ x = 32 + st + sz ∨ x = 32 + st + 2 * sz ∨ x = mo := by
    unfold mem0 at hx
    rcases List.mem_or_eq_of_mem_set hx with hx | rfl
    · rcases List.mem_or_eq_of_mem_set hx with hx | rfl
      · rcases List.mem_or_eq_of_mem_set hx with hx | rfl
        · rcases List.mem_or_eq_of_mem_set hx with hx | rfl
          · rcases List.mem_or_eq_of_mem_set hx with hx | rfl
            · exact .inl (List.eq_of_mem_replicate hx)
            · exact .inr (.inl rfl)
          · exact .inr (.inr (.inl rfl))
        · exact .inr (.inr (.inl rfl))
      · exact .inr (.inr (.inr (.inl rfl)))
    · exact .inr (.inr (.inr (.inr rfl)))
  rcases h with rfl | rfl | rfl | rfl | rfl
  · unfold Rs.InR; omega
  · unfold Rs.InR; omega
  · unfold Rs.InR; omega
  · unfold Rs.InR; omega
  · exact hm
def ran (l : List It) (st sz : Nat) (mo : Int) : Rs.M × Int := Rs.runI (As.code l) (mem0 st sz mo) (33 + (st : Int) + 2 * (sz : Int)) [] 300000
def RunPost (l : List It) (st sz : Nat) (mo : Int) (w : World) (e : Ending) (w' : World) : Prop :=
  ∃ a cap, e = .returned (.tuple #[.agg (Rs.halt (ran l st sz mo).2 (ran l st sz mo).1 (.slice a (ran l st sz mo).1.mem.length cap)).toArray, .bool true]) ∧ Sl w' (.slice a (ran l st sz mo).1.mem.length cap) ((ran l st sz mo).1.mem.map (Value.int .i64)) ∧ (ran l st sz mo).1.regs.length = 32 ∧ Below w.heap.size w w'
theorem haltDS : ∃ fs, Try.prog.underlying 26 = some (.struct fs) := ⟨_, Try.underlying26⟩
set_option maxHeartbeats 16000000 in
theorem rRun_any (v1 v2 v3 : Value) (l1 l2 l3 : List It) (st sz : Nat) (mo : Int) (w : World) (h1 : ISrc w v1 l1) (h2 : ISrc w v2 l2) (h3 : ISrc w v3 l3) (hn : l1.length + l2.length + l3.length ≤ 65536) (he : As.err (l1 ++ l2 ++ l3) = 0) (hq : 33 + st + 2 * sz ≤ 1048576) (hmo : Rs.InR mo) :
    Calls Try.prog 7 #[v1, v2, v3, .int .i64 (st : Nat), .int .i64 (sz : Nat), .int .i64 mo] w (RunPost (l1 ++ l2 ++ l3) st sz mo w) := by
  generalize hl : l1 ++ l2 ++ l3 = l
  have HI : Hid (∀ W, Below w.heap.size w W → Calls Try.prog 16 #[v1, v2, v3, .int .i64 (st : Nat), .int .i64 (sz : Nat), .int .i64 mo] W (ImgPost l st sz mo W)) := fun W hb => by
    rw [← hl]
    exact rImage_any v1 v2 v3 l1 l2 l3 st sz mo W (h1.below hb (Nat.le_refl _)) (h2.below hb (Nat.le_refl _)) (h3.below hb (Nat.le_refl _)) hn he hq
  have HMI := Lib.hid (mem0_in hq hmo)
  clear h1 h2 h3 hn he hl hmo
  obtain ⟨⟨m, s⟩, hr⟩ : ∃ r, ran l st sz mo = r := ⟨_, rfl⟩
  have HR := Lib.hid hr
  have HRL : Hid (m.regs.length = 32) := by have := Rs.runI_len (As.code l) (mem0 st sz mo) (33 + (st : Int) + 2 * (sz : Int)) [] 300000; unfold ran at hr; rw [hr] at this; exact this
  unfold RunPost
  rw [hr]
  clear hr
  obtain ⟨c1, c2⟩ : True ∧ True := ⟨trivial, trivial⟩
  go_enter Try.func7, Try.ntmps7
  go_upto_region 1 with fail
  have HB0 := Lib.hid ((Below.refl w.heap.size w).alloc (Nat.le_refl _) (.cells halt0 26))
  have HA := Lib.hid (heap_alloc_new w (.cells halt0 26))
  have HS : Hid ((w.alloc (.cells halt0 26)).heap.size = w.heap.size + 1) := by unfold Hid; simp
  have hz0 : Hid (halt0.size = 38) := rfl
  unfold halt0 at HA HB0 HS hz0
  revert HA HB0 HS hz0
  generalize hHH : (#[.int .i64 0, .int .i64 0, .string ⟨#[]⟩, .int .i64 0, .int .i64 0, .int .i64 0, .int .i64 0, .int .i64 0, .int .i64 0, .int .i64 0, .int .i64 0, .int .i64 0, .int .i64 0, .int .i64 0, .int .i64 0, .int .i64 0, .int .i64 0, .int .i64 0, .int .i64 0, .int .i64 0, .int .i64 0, .int .i64 0, .int .i64 0, .int .i64 0, .int .i64 0, .int .i64 0, .int .i64 0, .int .i64 0, .int .i64 0, .int .i64 0, .int .i64 0, .int .i64 0, .int .i64 0, .int .i64 0, .int .i64 0, .int .i64 0, .int .i64 0, .slice none 0 0] : Array Value) = H0
  intro HB0 HA HS hz0
  clear hHH
  generalize w.alloc (.cells H0 26) = W at HB0 HA HS ⊢
  go_wp2_with fail
  with_reducible refine (HI.out _ HB0.out).mono ?_
  rintro e w1 ⟨vc, vm, rfl, hc, hm, hb⟩
  obtain ⟨ac, cc, rfl⟩ := hc.len
  obtain ⟨am, cm, rfl⟩ := hm.len
  have hl1 : (u32s (As.code l)).length = (As.code l).length := by simp [u32s]
  have hl2 : (i64s (mem0 st sz mo)).length = (mem0 st sz mo).length := by simp [i64s]
  rw [hl1] at hc ⊢
  rw [hl2] at hm ⊢
  have HC := Lib.hid hc
  have HM := Lib.hid hm
  have HA1 := Lib.hid ((hb.block w.heap.size (by have := HS.out; omega)).trans HA.out)
  have HB1 := Lib.hid (HB0.out.trans (hb.mono HB0.out.size))
  have hs1 : Hid (w.heap.size < w1.heap.size) := by have := hb.size; have := HS.out; unfold Hid; omega
  clear hc hm hb
  have HB2 : Hid (∀ o, Below w.heap.size w (w1.alloc o)) := fun o => HB1.out.alloc (Nat.le_of_lt hs1.out) o
  have HA2 : Hid (∀ o, (w1.alloc o).heap[w.heap.size]? = some (.cells H0 26 (0, 0))) := fun o => (heap_alloc_old _ _ hs1.out).trans HA1.out
  have HCC : Hid (∀ o, Sl (w1.alloc o) (.slice ac (As.code l).length cc) (u32s (As.code l))) := fun o => HC.out.below ((Below.refl w1.heap.size w1).alloc (Nat.le_refl _) o) (Nat.le_refl _)
  have HMM : Hid (∀ o, Sl (w1.alloc o) (.slice am (mem0 st sz mo).length cm) (i64s (mem0 st sz mo))) := fun o => HM.out.below ((Below.refl w1.heap.size w1).alloc (Nat.le_refl _) o) (Nat.le_refl _)
  go_wp2_with fail
  with_reducible refine (rrun_any _ _ (As.code l) (mem0 st sz mo) (33 + (st : Int) + 2 * (sz : Int)) [] 300000 _ (HCC.out _) (HMM.out _) (code_range l) HMI.out (by decide)).mono ?_
  rintro e w2 ⟨mv, rfl, hown, hb⟩
  have hRR : Rs.runI (As.code l) (mem0 st sz mo) (33 + (st : Int) + 2 * (sz : Int)) [] 300000 = (m, s) := HR.out
  rw [hRR] at hown ⊢
  have HB3 := Lib.hid ((HB2.out _).trans (hb.mono (Nat.le_trans (Nat.le_of_lt hs1.out) (by simp))))
  have HA3 := Lib.hid ((hb.block w.heap.size (by have := hs1.out; simp; omega)).trans (HA2.out _))
  have hmem : Hid (Sl w2 mv (m.mem.map (Value.int .i64))) := Sl.own hown
  have hlo := own_ne hown w.heap.size (by have := hs1.out; simp; omega)
  obtain ⟨am2, cm2, hmv⟩ := hmem.out.len
  rw [List.length_map] at hmv
  subst hmv
  have hln := halt_len' (st := s) (mv := (.slice am2 m.mem.length cm2)) HRL.out
  have hst := store_all (P := Try.prog) w2 w.heap.size 26 H0 (Rs.halt s m (.slice am2 m.mem.length cm2)) HA3.out (by rw [hln]; exact hz0.out) (halt_one' rfl)
  have HLO := Lib.hid hlo
  have HOWN := Lib.hid hown
  clear hlo hown hb
  go_wp2_with fail
  have hlr : ((Rs.halt s m (.slice am2 m.mem.length cm2)).toArray).size = 38 := by rw [List.size_toArray]; exact hln
  refine bodyPost_ret (res2 rfl _ _ w.heap.size 26 _ (0, 0) rfl (setRow_heap _ _ _ _ _ _ HA3.out) haltDS (by rw [hlr]; exact haltSize)) rfl ?_
  exact ⟨am2, cm2, rfl, Sl.own (own_same HOWN.out fun b e => setRow_other _ _ _ _ fun eb => HLO.out (by rw [e, eb])), HRL.out, below_setRow HB3.out (Nat.le_refl _) _⟩
end Sg
end Go.Proofs.Ytdmfogmgjmdaeaa
namespace Go.Proofs.Ytdmfogmgjmdaeaa
open Go.RowKit
set_option linter.unusedVariables false
set_option linter.unusedSimpArgs false
set_option maxRecDepth 100000
namespace Sg
open As
def mine (n : Int) : Bool := (decide (2000 ≤ n) && decide (n ≤ 2999)) || (decide (2 ≤ n) && decide (n ≤ 9)) || (decide (11 ≤ n) && decide (n ≤ 26))
def okIt (x : It) : Bool := !((decide (x.kind = 1) && !mine x.label) || (names x && !mine x.label && decide (x.label ≠ 1) && decide (x.label ≠ 10)))
set_option maxHeartbeats 16000000 in
theorem own_any (v : Value) (x0 : It) (l : List It) (w : World) (h : ISrc w v (x0 :: l)) (h0 : x0 = lab 9) (hok : ∀ x ∈ x0 :: l, okIt x = true) (hn : (x0 :: l).length ≤ 65536) :
    Calls Try.prog 15 #[v] w fun e w' => e = .returned (.bool true) ∧ Below w.heap.size w w' := by
  obtain ⟨a, c, rfl, hl, -⟩ := h
  obtain ⟨b, off, rfl, hlt, hat⟩ := hl.at (by simp)
  have HLT : Hid (b < w.heap.size) := hlt
  have HL := Lib.hid hl
  have HAT := Lib.hid hat
  have HOK := Lib.hid hok
  subst h0
  obtain ⟨s0, s1, s2, s3, s4, s5, s6, s7⟩ := hat 0 _ rfl
  simp only [Nat.zero_mul, Nat.add_zero, lab] at s0 s1 s2 s3 s4 s5 s6 s7
  have hlen : (0 : Int) < ((lab 9 :: l).length : Nat) := by simp
  have hlenN : (0 : Nat) < (lab 9 :: l).length := by simp
  have hq : (((lab 9 :: l).length : Int) == 0) = false := by rw [beq_eq_false_iff_ne]; simp; omega
  have hne : ((lab 9 :: l).length : Int) ≠ 0 := by omega
  generalize hLL : (lab 9 :: l) = L at *
  generalize hn0 : L.length = n at *
  clear hl hat hok hlt
  go_enter Try.func15, Try.ntmps15
  go_upto_region 1 with fail
  go_region_held3 (fun w' => w'.cell? ⟨b, off, none⟩ = some (.int .i64 1) ∧ w'.cell? ⟨b, off + 1, none⟩ = some (.int .i64 0) ∧ w'.cell? ⟨b, off + 2, none⟩ = some (.int .i64 0) ∧ w'.cell? ⟨b, off + 3, none⟩ = some (.int .i64 0) ∧ w'.cell? ⟨b, off + 4, none⟩ = some (.int .i64 0) ∧ w'.cell? ⟨b, off + 5, none⟩ = some (.int .i64 0) ∧ w'.cell? ⟨b, off + 6, none⟩ = some (.int .i64 9) ∧ w'.cell? ⟨b, off + 7, none⟩ = some (.int .i64 0)) (first | go_keep | exact ⟨(hb.cell (p := ⟨b, off, none⟩) HLT.out).trans s0, (hb.cell (p := ⟨b, off + 1, none⟩) HLT.out).trans s1, (hb.cell (p := ⟨b, off + 2, none⟩) HLT.out).trans s2, (hb.cell (p := ⟨b, off + 3, none⟩) HLT.out).trans s3, (hb.cell (p := ⟨b, off + 4, none⟩) HLT.out).trans s4, (hb.cell (p := ⟨b, off + 5, none⟩) HLT.out).trans s5, (hb.cell (p := ⟨b, off + 6, none⟩) HLT.out).trans s6, (hb.cell (p := ⟨b, off + 7, none⟩) HLT.out).trans s7⟩) (first
    | (go_at_call 10; with_reducible refine (rL_any 9 _).mono ?_; rintro e w1 ⟨rfl, hb⟩))
  have HB1 := Lib.hid (((Below.refl w.heap.size w).drew).trans hb)
  clear hb s0 s1 s2 s3 s4 s5 s6 s7 hq hne hlen hlenN
  go_wp2_with fail
  go_loopg [3] n (fun g s wx => ∃ (k : Nat), k ≤ n ∧ g = n - k ∧ s = .int .i64 (k : Nat) ∧ Hid (Below w.heap.size w wx))
  case atStart => exact ⟨0, by omega, rfl, rfl, HB1⟩
  case round =>
    obtain ⟨k, hk, rfl, rfl, HB⟩ := hrel
    by_cases hlt : k < n
    · have g1 : (k : Int) < (n : Int) := by omega
      have g0 : (0 : Int) ≤ (k : Int) := by omega
      have g4 : IntKind.i64.wrap ((k : Int) + 1) = (k : Int) + 1 := by rw [IntKind.wrap_i64]; omega
      obtain ⟨x, hx⟩ : ∃ x, L[k]? = some x := ⟨_, List.getElem?_eq_getElem (by omega)⟩
      have HX := Lib.hid (HOK.out x (List.mem_of_getElem? hx))
      obtain ⟨e0, e1, e2, e3, e4, e5, e6, e7⟩ := (HAT.out k x hx).of (w' := wr) (fun j => HB.out.cell (p := ⟨b, j, none⟩) HLT.out)
      obtain ⟨kd, op, a0, b0, c0, nn, la, nu⟩ := x
      dsimp only at e0 e1 e2 e3 e4 e5 e6 e7
      have hx1 : kd = 1 → (2000 ≤ la ∧ la ≤ 2999) ∨ (2 ≤ la ∧ la ≤ 9) ∨ (11 ≤ la ∧ la ≤ 26) := by
        intro e
        have h := HX.out
        simp [okIt, mine, e] at h
        omega
      obtain ⟨r, hr⟩ : ∃ r, names ⟨kd, op, a0, b0, c0, nn, la, nu⟩ = r := ⟨_, rfl⟩
      have hx2 : r = true → (2000 ≤ la ∧ la ≤ 2999) ∨ (2 ≤ la ∧ la ≤ 9) ∨ (11 ≤ la ∧ la ≤ 26) ∨ la = 1 ∨ la = 10 := by
        intro e
        have h := HX.out
        simp [okIt, mine, hr, e] at h
        omega
      have HNA : Hid (∀ W, Calls Try.prog 37 #[.agg #[.int .i64 kd, .int .i64 op, .int .i64 a0, .int .i64 b0, .int .i64 c0, .int .i64 nn, .int .i64 la, .int .i64 nu]] W fun e w' => e = .returned (.bool r) ∧ Below W.heap.size W w') := fun W => by rw [← hr]; exact names_any ⟨kd, op, a0, b0, c0, nn, la, nu⟩ W
      clear hr HX hx
      go_cut [3] from 16 to 77 (fun s3 wx => s3 = .int .i64 ((k : Int) + 1) ∧ Hid (Below w.heap.size w wx))
      case first =>
        by_cases p1 : 2000 ≤ la <;> by_cases p2 : la ≤ 2999 <;> by_cases p3 : 2 ≤ la <;> by_cases p4 : la ≤ 9 <;> by_cases p5 : 11 ≤ la <;> by_cases p6 : la ≤ 26 <;> (try (exfalso; omega)) <;> by_cases p7 : la = 1 <;> by_cases p8 : la = 10 <;> (try (exfalso; omega)) <;> by_cases p9 : kd = 1 <;> cases r <;> (try have hx2 := hx2 rfl) <;> (try (exfalso; omega))
        all_goals
          try subst p9
          try subst p7
          try subst p8
          go_wp2_with (first | (go_at_call 37; (with_reducible refine (HNA.out _).mono ?_); rintro e w2 ⟨rfl, hb⟩; have HB2 := Lib.hid (HB.out.trans (hb.mono HB.out.size)); clear hb) | fail)
          go_meet
          case rel => exact ⟨by go_num, HB2⟩
      case rest =>
        obtain ⟨rfl, HB3⟩ := hcut
        go_wp2_with fail
        go_roundg (n - (k + 1))
        case measure => omega
        case rel => exact ⟨k + 1, by omega, rfl, by go_num, HB3⟩
    · obtain rfl : k = n := by omega
      clear hk hlt
      go_wp2_with fail
      go_ret
      exact ⟨rfl, HB.out⟩
end Sg
end Go.Proofs.Ytdmfogmgjmdaeaa
namespace Go.Proofs.Ytdmfogmgjmdaeaa
open Go.RowKit
set_option linter.unusedVariables false
set_option linter.unusedSimpArgs false
set_option maxRecDepth 100000
namespace Sg
open As
def fixL : List It := [lab 10, jmp 0 4]
theorem fix_err : As.err (rtL ++ gcL ++ fixL) = 0 := by kernel_rfl
theorem fix_ran : (ran (rtL ++ gcL ++ fixL) 10 10 0).2 = 0 ∧ (ran (rtL ++ gcL ++ fixL) 10 10 0).1.value = 0 := by
  have h : (fun r : Rs.M × Int => (r.2, r.1.value)) (ran (rtL ++ gcL ++ fixL) 10 10 0) = (0, 0) := by kernel_rfl
  exact ⟨congrArg Prod.fst h, congrArg Prod.snd h⟩
theorem rt_ok : ∃ l, rtL = lab 9 :: l := by
  have h : rtL.head? = some (lab 9) := by kernel_rfl
  cases hl : rtL with
  | nil => rw [hl] at h; cases h
  | cons x l => rw [hl] at h; cases h; exact ⟨l, rfl⟩
theorem rt_all : ∀ x ∈ rtL, okIt x = true := by
  have h : rtL.all okIt = true := by kernel_rfl
  exact List.all_eq_true.1 h
theorem rt_len : rtL.length ≤ 1000 := by
  have h : decide (rtL.length ≤ 1000) = true := by kernel_rfl
  exact of_decide_eq_true h
theorem gc_len : gcL.length ≤ 1000 := by
  have h : decide (gcL.length ≤ 1000) = true := by kernel_rfl
  exact of_decide_eq_true h
theorem lit_src (w : World) (l : List It) (hm : l.length ≤ maxLen) : ISrc (w.alloc (.cells (flat l).toArray 34)) (.slice (some ⟨w.heap.size, 0, none⟩) l.length l.length) l := by
  refine ISrc.own (B := 0) ?_
  have h := World.ownsRow_lit (base := 0) (e := 34) (size := 8) w (flat l).toArray l.length (Nat.zero_le _) hm (by simp [flat_length])
  simpa using h
set_option maxHeartbeats 16000000 in
theorem fixed_any23 (w : World) : Calls Try.prog 6 #[] w fun e w' => e = .returned (.bool true) ∧ Below w.heap.size w w' := by
  have HRUN : Hid (∀ (v1 v2 v3 : Value) (W : World), ISrc W v1 rtL → ISrc W v2 gcL → ISrc W v3 fixL → Calls Try.prog 7 #[v1, v2, v3, .int .i64 10, .int .i64 10, .int .i64 0] W (RunPost (rtL ++ gcL ++ fixL) 10 10 0 W)) := fun v1 v2 v3 W h1 h2 h3 =>
    rRun_any v1 v2 v3 rtL gcL fixL 10 10 0 W h1 h2 h3 (by have := rt_len; have := gc_len; simp [fixL]; omega) fix_err (by omega) (by unfold Rs.InR; omega)
  have HOWN : Hid (∀ (v : Value) (W : World), ISrc W v rtL → Calls Try.prog 15 #[v] W fun e w' => e = .returned (.bool true) ∧ Below W.heap.size W w') := fun v W h => by
    obtain ⟨l, hl⟩ := rt_ok
    rw [hl] at h
    exact own_any v (lab 9) l W h rfl (by rw [← hl]; exact rt_all) (by rw [← hl]; have := rt_len; omega)
  obtain ⟨f1, f2⟩ := fix_ran
  unfold RunPost at HRUN
  generalize hrr : ran (rtL ++ gcL ++ fixL) 10 10 0 = R at HRUN f1 f2
  clear hrr
  obtain ⟨m, s⟩ := R
  dsimp only at HRUN f1 f2
  subst f1
  go_enter Try.func6, Try.ntmps6
  go_wp2_with fail
  with_reducible refine (rt_Code _).mono ?_
  rintro e w1 ⟨v1, rfl, ho1, hb1⟩
  have H1 := Lib.hid (ISrc.own ho1)
  have HB1 := Lib.hid hb1
  clear ho1 hb1
  go_wp2_with fail
  with_reducible refine (gc_Code _).mono ?_
  rintro e w2 ⟨v2, rfl, ho2, hb2⟩
  have H2 := Lib.hid (ISrc.own ho2)
  have H12 := Lib.hid (H1.out.below hb2 (Nat.le_refl _))
  have HB2 := Lib.hid (HB1.out.trans (hb2.mono HB1.out.size))
  clear ho2 hb2
  go_wp2_with fail
  with_reducible refine (rL_any 10 _).mono ?_
  rintro e w3 ⟨rfl, hb3⟩
  have H13 := Lib.hid (H12.out.below hb3 (Nat.le_refl _))
  have H23 := Lib.hid (H2.out.below hb3 (Nat.le_refl _))
  have HB3 := Lib.hid (HB2.out.trans (hb3.mono HB2.out.size))
  clear hb3
  go_wp2_with fail
  with_reducible refine (rJ_any 0 4 _).mono ?_
  rintro e w4 ⟨rfl, hb4⟩
  have H14 := Lib.hid (H13.out.below hb4 (Nat.le_refl _))
  have H24 := Lib.hid (H23.out.below hb4 (Nat.le_refl _))
  have HB4 := Lib.hid (HB3.out.trans (hb4.mono HB3.out.size))
  clear hb4 H1 H12 H13 H2 H23 HB1 HB2 HB3
  have H3 : Hid (ISrc (w4.alloc (.cells #[.int .i64 1, .int .i64 0, .int .i64 0, .int .i64 0, .int .i64 0, .int .i64 0, .int .i64 10, .int .i64 0, .int .i64 3, .int .i64 28, .int .i64 0, .int .i64 0, .int .i64 0, .int .i64 0, .int .i64 4, .int .i64 0] 34)) (.slice (some ⟨w4.heap.size, 0, none⟩) 2 2) fixL) := lit_src w4 fixL (by decide)
  have H15 := Lib.hid (H14.out.below ((Below.refl w4.heap.size w4).alloc (Nat.le_refl _) (.cells #[.int .i64 1, .int .i64 0, .int .i64 0, .int .i64 0, .int .i64 0, .int .i64 0, .int .i64 10, .int .i64 0, .int .i64 3, .int .i64 28, .int .i64 0, .int .i64 0, .int .i64 0, .int .i64 0, .int .i64 4, .int .i64 0] 34)) (Nat.le_refl _))
  have H25 := Lib.hid (H24.out.below ((Below.refl w4.heap.size w4).alloc (Nat.le_refl _) (.cells #[.int .i64 1, .int .i64 0, .int .i64 0, .int .i64 0, .int .i64 0, .int .i64 0, .int .i64 10, .int .i64 0, .int .i64 3, .int .i64 28, .int .i64 0, .int .i64 0, .int .i64 0, .int .i64 0, .int .i64 4, .int .i64 0] 34)) (Nat.le_refl _))
  have HB5 := Lib.hid (HB4.out.alloc HB4.out.size (.cells #[.int .i64 1, .int .i64 0, .int .i64 0, .int .i64 0, .int .i64 0, .int .i64 0, .int .i64 10, .int .i64 0, .int .i64 3, .int .i64 28, .int .i64 0, .int .i64 0, .int .i64 0, .int .i64 0, .int .i64 4, .int .i64 0] 34))
  go_wp2_with fail
  with_reducible refine (HRUN.out _ _ _ _ H15.out H25.out H3.out).mono ?_
  rintro e w5 ⟨a5, c5, rfl, hsl, hrl, hb5⟩
  have HB6 := Lib.hid (HB5.out.trans (hb5.mono HB5.out.size))
  have H16 := Lib.hid (H15.out.below hb5 (Nat.le_refl _))
  have hst := halt_store w5 0 m (.slice a5 m.mem.length c5) hrl rfl
  have hln := halt_len' (st := 0) (mv := (.slice a5 m.mem.length c5)) hrl
  have A1 : Hid (HaltAt (w5.alloc (.cells (Rs.halt 0 m (.slice a5 m.mem.length c5)).toArray 26)) w5.heap.size 0 m (.slice a5 m.mem.length c5)) := HaltAt.new w5 hrl
  have H17 := Lib.hid (H16.out.below ((Below.refl w5.heap.size w5).alloc (Nat.le_refl _) (.cells (Rs.halt 0 m (.slice a5 m.mem.length c5)).toArray 26)) (Nat.le_refl _))
  have HB7 := Lib.hid (HB6.out.alloc HB6.out.size (.cells (Rs.halt 0 m (.slice a5 m.mem.length c5)).toArray 26))
  clear hsl hb5 hrl
  go_upto_region 3 with fail
  clear hst hln
  have a0 := A1.out.c0
  have a1 := A1.out.c1
  rw [f2] at a1
  generalize w5.alloc (.cells (Rs.halt 0 m (.slice a5 m.mem.length c5)).toArray 26) = w6 at A1 a0 a1 H17 HB7 ⊢
  go_wp2_with fail
  with_reducible refine (HOWN.out _ _ H17.out).mono ?_
  rintro e w7 ⟨rfl, hb7⟩
  have HB8 := Lib.hid (HB7.out.trans (hb7.mono HB7.out.size))
  clear hb7
  go_wp2_with fail
  go_ret
  exact ⟨rfl, HB8.out⟩
end Sg
end Go.Proofs.Ytdmfogmgjmdaeaa
namespace Go.Proofs.Ytdmfogmgjmdaeaa
open Go.RowKit
set_option linter.unusedVariables false
set_option linter.unusedSimpArgs false
set_option maxRecDepth 100000
namespace Sg
open As Ab
def startP : List It := [lab 10, wth 0 28 0 0]
def needP (n : Int) : List It := [lab 10, nmb 26 n, jmp 31 2, wth 0 0 0 0]
theorem start_err : As.err (rtL ++ gcL ++ startP) = 0 := by kernel_rfl
def memF (low size : F) : List (F × F) := [(⟨31, 0, 0⟩, addF low (mulF size 2)), (⟨30, 0, 0⟩, addF low size), (⟨29, 0, 0⟩, addF low size), (⟨28, 0, 0⟩, low)]
def start0 (low size : F) : S := ⟨0, List.replicate 32 zeroF, memF low size⟩
def startS : S := ⟨269, [⟨0, 0, 0⟩, ⟨0, 0, 0⟩, ⟨0, 0, 0⟩, ⟨0, 0, 0⟩, ⟨0, 0, 0⟩, ⟨0, 0, 0⟩, ⟨0, 0, 0⟩, ⟨0, 0, 0⟩, ⟨0, 0, 0⟩, ⟨0, 0, 0⟩, ⟨0, 0, 0⟩, ⟨0, 0, 0⟩, ⟨0, 0, 0⟩, ⟨0, 0, 0⟩, ⟨0, 0, 0⟩, ⟨0, 0, 0⟩, ⟨0, 0, 0⟩, ⟨0, 0, 0⟩, ⟨0, 0, 0⟩, ⟨0, 0, 0⟩, ⟨0, 0, 0⟩, ⟨0, 0, 0⟩, ⟨0, 0, 0⟩, ⟨0, 0, 0⟩, ⟨0, 0, 0⟩, ⟨257, 8, 0⟩, ⟨2, 0, 0⟩, ⟨2152, 0, 0⟩, ⟨0, 0, 0⟩, ⟨34, 1, 0⟩, ⟨33, 0, 0⟩, ⟨11, 0, 0⟩], [(⟨33, 1, 0⟩, ⟨2152, 0, 0⟩), (⟨32, 1, 0⟩, ⟨111, 0, 0⟩), (⟨26, 0, 0⟩, ⟨18, 0, 0⟩), (⟨25, 0, 0⟩, ⟨18, 0, 0⟩), (⟨32, 0, 0⟩, ⟨2916352, 0, 0⟩), (⟨31, 0, 0⟩, ⟨32, 1, 2⟩), (⟨30, 0, 0⟩, ⟨32, 1, 1⟩), (⟨29, 0, 0⟩, ⟨32, 1, 1⟩), (⟨28, 0, 0⟩, ⟨32, 1, 0⟩)]⟩
theorem start_run : Ab.run ⟨1, 300, 2, 300⟩ ⟨33, 1, 2⟩ ((As.code (rtL ++ gcL ++ startP)).map decI) 300000 (start0 ⟨32, 1, 0⟩ ⟨0, 0, 1⟩) = some (startS, ⟨0, 0, 0⟩) := by kernel_rfl
theorem start_none : (Ab.run ⟨1, 300, 0, 1⟩ ⟨33, 1, 2⟩ ((As.code (rtL ++ gcL ++ startP)).map decI) 300000 (start0 ⟨32, 1, 0⟩ ⟨0, 0, 1⟩)).map Prod.snd = some ⟨95, 0, 0⟩ := by kernel_rfl
end Sg
end Go.Proofs.Ytdmfogmgjmdaeaa
namespace Go.Proofs.Ytdmfogmgjmdaeaa
open Go.RowKit
set_option linter.unusedVariables false
set_option linter.unusedSimpArgs false
set_option maxRecDepth 100000
namespace Sg
open As Ab
theorem mem0_get (st sz : Nat) (i : Nat) (hi : i < 33 + st + 2 * sz) : (mem0 st sz 0).getD i 0 = if i = 31 then (32 + st + 2 * sz : Int) else if i = 30 then (32 + st + sz : Int) else if i = 29 then (32 + st + sz : Int) else if i = 28 then (32 + st : Int) else 0 := by
  unfold mem0
  rw [List.getD_eq_getElem?_getD]
  simp only [List.getElem?_set, List.length_set, List.length_replicate, List.getElem?_replicate]
  by_cases h1 : 32 + st + 2 * sz = i
  · subst h1
    rw [if_pos rfl, if_pos hi, Option.getD_some]
    by_cases h2 : 32 + st + 2 * sz = 31
    · omega
    · rw [if_neg h2, if_neg (by omega), if_neg (by omega), if_neg (by omega)]
  · rw [if_neg h1]
    by_cases h2 : i = 31
    · subst h2; rw [if_pos rfl, if_pos hi, if_pos rfl]; rfl
    · rw [if_neg (fun h => h2 h.symm), if_neg h2]
      by_cases h3 : i = 30
      · subst h3; rw [if_pos rfl, if_pos hi, if_pos rfl]; rfl
      · rw [if_neg (fun h => h3 h.symm), if_neg h3]
        by_cases h4 : i = 29
        · subst h4; rw [if_pos rfl, if_pos hi, if_pos rfl]; rfl
        · rw [if_neg (fun h => h4 h.symm), if_neg h4]
          by_cases h5 : i = 28
          · subst h5; rw [if_pos rfl, if_pos hi, if_pos rfl]; rfl
          · rw [if_neg (fun h => h5 h.symm), if_neg h5, if_pos hi]; rfl
theorem start_mem (st sz : Nat) : (Rs.start (mem0 st sz 0) (33 + (st : Int) + 2 * (sz : Int)) []).mem = mem0 st sz 0 := by
  unfold Rs.start
  dsimp only
  rw [mem0_length, show (33 + (st : Int) + 2 * (sz : Int)).toNat - (33 + st + 2 * sz) = 0 by omega]
  simp
theorem start_rel {u v : Int} {st sz : Nat} {low size L : F} (hl : low.ev u v = 32 + st) (hs : size.ev u v = sz) (hL : L.ev u v = 33 + st + 2 * sz) : Rel u v L (start0 low size) (Rs.start (mem0 st sz 0) (33 + (st : Int) + 2 * (sz : Int)) []) := by
  refine ⟨rfl, ?_, by rw [start_mem, mem0_length, hL]; omega, ?_⟩
  · show List.replicate 32 0 = (List.replicate 32 zeroF).map _
    rw [List.map_replicate, zero_ev]
  · rw [start_mem]
    intro i hi
    rw [mem0_length] at hi
    rw [mem0_get st sz i hi]
    have c1 : (⟨31, 0, 0⟩ : F).ev u v = 31 := con_at u v rfl
    have c2 : (⟨30, 0, 0⟩ : F).ev u v = 30 := con_at u v rfl
    have c3 : (⟨29, 0, 0⟩ : F).ev u v = 29 := con_at u v rfl
    have c4 : (⟨28, 0, 0⟩ : F).ev u v = 28 := con_at u v rfl
    unfold start0 memF
    dsimp only
    simp only [Ab.look, ev_add, ev_mul, hl, hs, c1, c2, c3, c4]
    repeat' split
    all_goals omega
theorem runI_go {code : List Int} {st sz : Nat} (hc : code.length ≤ 1048576) (hq : 33 + st + 2 * sz ≤ 1048576) : Rs.runI code (mem0 st sz 0) (33 + (st : Int) + 2 * (sz : Int)) [] 300000 = Rs.go code 300000 (Rs.start (mem0 st sz 0) (33 + (st : Int) + 2 * (sz : Int)) []) := by
  unfold Rs.runI
  rw [if_neg (by unfold Rs.noImage; rw [mem0_length]; omega)]
  rfl
theorem start_len : (As.code (rtL ++ gcL ++ startP)).length = 270 := by kernel_rfl
theorem starts_ok (st sz : Nat) (h1 : 1 ≤ st) (h2 : st ≤ 300) (h3 : 2 ≤ sz) (h4 : sz ≤ 300) : ∃ m, ran (rtL ++ gcL ++ startP) st sz 0 = (m, 0) ∧ m.value = 0 ∧ m.pc = 269 ∧ m.regs = List.replicate 25 0 ++ [257 + 8 * (st : Int), 2, 2152, 0, 34 + (st : Int), 33, 11] ∧ m.mem.length = 33 + st + 2 * sz ∧
    m.mem.getD 25 0 = 18 ∧ m.mem.getD 26 0 = 18 ∧ m.mem.getD 28 0 = 32 + (st : Int) ∧ m.mem.getD (32 + st) 0 = 111 ∧ m.mem.getD (33 + st) 0 = 2152 := by
  have hB : Bx.has ⟨1, 300, 2, 300⟩ (st : Int) (sz : Int) := ⟨⟨by show (1 : Int) ≤ _; omega, by show (_ : Int) ≤ 300; omega⟩, by show (2 : Int) ≤ _; omega, by show (_ : Int) ≤ 300; omega⟩
  have hL : (⟨33, 1, 2⟩ : F).ev (st : Int) (sz : Int) = 33 + st + 2 * sz := by unfold F.ev; dsimp only; omega
  have hr := start_rel (u := st) (v := sz) (st := st) (sz := sz) (low := ⟨32, 1, 0⟩) (size := ⟨0, 0, 1⟩) (L := ⟨33, 1, 2⟩) (by unfold F.ev; dsimp only; omega) (by unfold F.ev; dsimp only; omega) hL
  obtain ⟨m, a1, a2, a3⟩ := run_at hB (codeRel_dec (st : Int) (sz : Int) _) 300000 hr start_run
  have hlen := a2.len
  rw [hL] at hlen
  refine ⟨m, ?_, ?_, a2.pc, ?_, by omega, ?_, ?_, ?_, ?_, ?_⟩
  · unfold ran
    rw [runI_go (by rw [start_len]; omega) (by omega), a1]
  · rw [a3]; unfold F.ev; simp
  · rw [a2.regs]
    unfold startS
    simp only [List.map_cons, List.map_nil, F.ev, List.replicate, List.cons_append, List.nil_append, Int.zero_mul, Int.add_zero, Int.one_mul]
  all_goals
    rw [a2.mem _ (by omega)]
    unfold startS
    simp only [Ab.look, F.ev]
    repeat' split
    all_goals omega
theorem starts_none (st sz : Nat) (h1 : 1 ≤ st) (h2 : st ≤ 300) (h3 : sz < 2) : ∃ m, ran (rtL ++ gcL ++ startP) st sz 0 = (m, 0) ∧ m.value = 95 := by
  have hB : Bx.has ⟨1, 300, 0, 1⟩ (st : Int) (sz : Int) := ⟨⟨by show (1 : Int) ≤ _; omega, by show (_ : Int) ≤ 300; omega⟩, by show (0 : Int) ≤ _; omega, by show (_ : Int) ≤ 1; omega⟩
  have hL : (⟨33, 1, 2⟩ : F).ev (st : Int) (sz : Int) = 33 + st + 2 * sz := by unfold F.ev; dsimp only; omega
  have hr := start_rel (u := st) (v := sz) (st := st) (sz := sz) (low := ⟨32, 1, 0⟩) (size := ⟨0, 0, 1⟩) (L := ⟨33, 1, 2⟩) (by unfold F.ev; dsimp only; omega) (by unfold F.ev; dsimp only; omega) hL
  obtain ⟨⟨s, x⟩, hx, hv⟩ := Option.map_eq_some_iff.1 start_none
  obtain ⟨m, a1, a2, a3⟩ := run_at hB (codeRel_dec (st : Int) (sz : Int) _) 300000 hr hx
  refine ⟨m, ?_, ?_⟩
  · unfold ran
    rw [runI_go (by rw [start_len]; omega) (by omega), a1]
  · rw [a3, show x = ⟨95, 0, 0⟩ from hv]; unfold F.ev; simp
end Sg
end Go.Proofs.Ytdmfogmgjmdaeaa
namespace Go.Proofs.Ytdmfogmgjmdaeaa
open Go.RowKit
set_option linter.unusedVariables false
set_option linter.unusedSimpArgs false
set_option maxRecDepth 100000
namespace Sg
open As
theorem run_as (v1 v2 v3 : Value) (P : List It) (W : World) (st sz : Nat) (si zi : Int) (hsi : si = (st : Nat)) (hzi : zi = (sz : Nat)) (m : Rs.M) (hp : P.length ≤ 100) (he : As.err (rtL ++ gcL ++ P) = 0) (hr : ran (rtL ++ gcL ++ P) st sz 0 = (m, 0)) (hq : 33 + st + 2 * sz ≤ 1048576) (h1 : ISrc W v1 rtL) (h2 : ISrc W v2 gcL) (h3 : ISrc W v3 P) :
    Calls Try.prog 7 #[v1, v2, v3, .int .i64 si, .int .i64 zi, .int .i64 0] W (fun e w' => ∃ a c, e = .returned (.tuple #[.agg (Rs.halt 0 m (.slice a m.mem.length c)).toArray, .bool true]) ∧ Sl w' (.slice a m.mem.length c) (m.mem.map (Value.int .i64)) ∧ m.regs.length = 32 ∧ Below W.heap.size W w') := by
  subst hsi hzi
  refine (rRun_any v1 v2 v3 rtL gcL P st sz 0 W h1 h2 h3 (by have := rt_len; have := gc_len; omega) he hq (by unfold Rs.InR; omega)).mono ?_
  rintro e w' ⟨a, c, rfl, hs, hl, hb⟩
  rw [hr] at hs hl ⊢
  exact ⟨a, c, rfl, hs, hl, hb⟩
theorem mem_at {w : World} {m : Rs.M} {a : Option Addr} {c : Nat} (h : Sl w (.slice a m.mem.length c) (m.mem.map (Value.int .i64))) (hne : 0 < m.mem.length) : ∃ b off, a = some ⟨b, off, none⟩ ∧ ∀ j, j < m.mem.length → w.cell? ⟨b, off + j, none⟩ = some (.int .i64 (m.mem.getD j 0)) := by
  have hl : (m.mem.map (Value.int .i64)).length = m.mem.length := by simp
  rw [← hl] at h
  obtain ⟨b, off, e, -, hc⟩ := h.at (fun e => by rw [e] at hl; simp at hl; omega)
  refine ⟨b, off, e, fun j hj => ?_⟩
  rw [hc j (by omega), List.getD_eq_getElem?_getD, List.getD_eq_getElem?_getD, List.getElem?_map, List.getElem?_eq_getElem hj]
  rfl
end Sg
end Go.Proofs.Ytdmfogmgjmdaeaa
namespace Go.Proofs.Ytdmfogmgjmdaeaa
open Go.RowKit
set_option linter.unusedVariables false
set_option linter.unusedSimpArgs false
set_option maxRecDepth 100000
namespace Sg
open As
theorem cell_drewN (w : World) (n : Nat) (p : Addr) : (w.drewN n).cell? p = w.cell? p := rfl
theorem start_regs (k : Int) (i : Nat) (hi : i < 25) : (List.replicate 25 (0 : Int) ++ [257 + 8 * k, 2, 2152, 0, 34 + k, 33, 11]).getD i 0 = 0 := by
  rw [List.getD_eq_getElem?_getD, List.getElem?_append_left (by simpa using hi), List.getElem?_replicate, if_pos hi]
  rfl
set_option maxHeartbeats 32000000 in
theorem starts_any (a0 a1 : Int) (w : World) : Calls Try.prog 3 #[.int .i64 a0, .int .i64 a1] w fun e w' => e = .returned (.bool true) ∧ Below w.heap.size w w' := by
  go_enter Try.func3, Try.ntmps3
  have Xw := Lib.hid (Below.refl w.heap.size w)
  go_wp2_with fail
  with_reducible refine (fixed_any23 _).mono ?_
  rintro e w1 ⟨rfl, hb⟩
  have X0 := Lib.hid (Xw.out.trans (hb.mono Xw.out.size))
  clear hb Xw
  by_cases g1 : a0 < 1
  · go_wp2_with fail
    with_reducible refine (fixed_any23 _).mono ?_
    rintro e w9 ⟨rfl, hb9⟩
    have X9 := Lib.hid (X0.out.trans (hb9.mono X0.out.size))
    clear hb9
    go_wp2_with fail
    go_ret
    exact ⟨rfl, X9.out⟩
  by_cases g2 : 300 < a0
  · go_wp2_with fail
    with_reducible refine (fixed_any23 _).mono ?_
    rintro e w9 ⟨rfl, hb9⟩
    have X9 := Lib.hid (X0.out.trans (hb9.mono X0.out.size))
    clear hb9
    go_wp2_with fail
    go_ret
    exact ⟨rfl, X9.out⟩
  by_cases g3 : a1 < 0
  · go_wp2_with fail
    with_reducible refine (fixed_any23 _).mono ?_
    rintro e w9 ⟨rfl, hb9⟩
    have X9 := Lib.hid (X0.out.trans (hb9.mono X0.out.size))
    clear hb9
    go_wp2_with fail
    go_ret
    exact ⟨rfl, X9.out⟩
  by_cases g4 : 300 < a1
  · go_wp2_with fail
    with_reducible refine (fixed_any23 _).mono ?_
    rintro e w9 ⟨rfl, hb9⟩
    have X9 := Lib.hid (X0.out.trans (hb9.mono X0.out.size))
    clear hb9
    go_wp2_with fail
    go_ret
    exact ⟨rfl, X9.out⟩
  obtain ⟨st, rfl⟩ : ∃ n : Nat, a0 = n := ⟨a0.toNat, by omega⟩
  obtain ⟨sz, rfl⟩ : ∃ sz : Nat, a1 = sz := ⟨a1.toNat, by omega⟩
  have k0 : IntKind.i64.wrap (32 + (st : Int)) = 32 + (st : Int) := by rw [IntKind.wrap_i64]; omega
  go_upto_region 3 with fail
  go_wp2_with fail
  with_reducible refine (rt_Code _).mono ?_
  rintro e w11 ⟨v1, rfl, ho, hb⟩
  have X12 := Lib.hid (X0.out.trans (hb.mono X0.out.size))
  have YR := Lib.hid (ISrc.own ho)
  clear ho hb
  go_wp2_with fail
  with_reducible refine (gc_Code _).mono ?_
  rintro e w13 ⟨v2, rfl, ho, hb⟩
  have X14 := Lib.hid (X12.out.trans (hb.mono X12.out.size))
  have X15 := Lib.hid (YR.out.below hb (Nat.le_refl _))
  have YG := Lib.hid (ISrc.own ho)
  clear ho hb
  go_wp2_with fail
  with_reducible refine (rL_any 10 _).mono ?_
  rintro e w16 ⟨rfl, hb⟩
  have X17 := Lib.hid (X14.out.trans (hb.mono X14.out.size))
  have X18 := Lib.hid (X15.out.below hb (Nat.le_refl _))
  have X19 := Lib.hid (YG.out.below hb (Nat.le_refl _))
  clear hb
  go_wp2_with fail
  with_reducible refine (rI_any 0 28 0 0 _).mono ?_
  rintro e w20 ⟨rfl, hb⟩
  have X21 := Lib.hid (X17.out.trans (hb.mono X17.out.size))
  have X22 := Lib.hid (X18.out.below hb (Nat.le_refl _))
  have X23 := Lib.hid (X19.out.below hb (Nat.le_refl _))
  clear hb
  have X24 := Lib.hid (X21.out.alloc X21.out.size (.cells (List.toArray (Value.int .i64 1 :: Value.int .i64 0 :: Value.int .i64 0 :: Value.int .i64 0 :: Value.int .i64 0 :: Value.int .i64 0 :: Value.int .i64 10 :: Value.int .i64 0 :: Value.int .i64 0 :: Value.int .i64 0 :: Value.int .i64 28 :: Value.int .i64 0 :: Value.int .i64 0 :: Value.int .i64 0 :: Value.int .i64 0 :: Value.int .i64 0 :: [])) 34))
  have X25 := Lib.hid (X22.out.below ((Below.refl w20.heap.size w20).alloc (Nat.le_refl _) (.cells (List.toArray (Value.int .i64 1 :: Value.int .i64 0 :: Value.int .i64 0 :: Value.int .i64 0 :: Value.int .i64 0 :: Value.int .i64 0 :: Value.int .i64 10 :: Value.int .i64 0 :: Value.int .i64 0 :: Value.int .i64 0 :: Value.int .i64 28 :: Value.int .i64 0 :: Value.int .i64 0 :: Value.int .i64 0 :: Value.int .i64 0 :: Value.int .i64 0 :: [])) 34)) (Nat.le_refl _))
  have X26 := Lib.hid (X23.out.below ((Below.refl w20.heap.size w20).alloc (Nat.le_refl _) (.cells (List.toArray (Value.int .i64 1 :: Value.int .i64 0 :: Value.int .i64 0 :: Value.int .i64 0 :: Value.int .i64 0 :: Value.int .i64 0 :: Value.int .i64 10 :: Value.int .i64 0 :: Value.int .i64 0 :: Value.int .i64 0 :: Value.int .i64 28 :: Value.int .i64 0 :: Value.int .i64 0 :: Value.int .i64 0 :: Value.int .i64 0 :: Value.int .i64 0 :: [])) 34)) (Nat.le_refl _))
  have YL : Hid (ISrc (w20.alloc (.cells (List.toArray (Value.int .i64 1 :: Value.int .i64 0 :: Value.int .i64 0 :: Value.int .i64 0 :: Value.int .i64 0 :: Value.int .i64 0 :: Value.int .i64 10 :: Value.int .i64 0 :: Value.int .i64 0 :: Value.int .i64 0 :: Value.int .i64 28 :: Value.int .i64 0 :: Value.int .i64 0 :: Value.int .i64 0 :: Value.int .i64 0 :: Value.int .i64 0 :: [])) 34)) (.slice (some ⟨w20.heap.size, 0, none⟩) 2 2) (startP)) := lit_src w20 (startP) (by show 2 ≤ _; decide)
  by_cases hroom : sz < 2
  · obtain ⟨m, hm, hv⟩ := starts_none st sz (by omega) (by omega) hroom
    go_wp2_with fail
    with_reducible refine (run_as _ _ _ (startP) _ st sz (st : Int) (sz : Int) rfl rfl m (by show _ ≤ 100; simp [needP, startP]) start_err hm (by omega) X25.out X26.out YL.out).mono ?_
    rintro e w27 ⟨am, cm, rfl, hsl, hrl, hb⟩
    have XR := Lib.hid (X24.out.trans (hb.mono X24.out.size))
    have hst := halt_store w27 0 m (.slice am m.mem.length cm) hrl rfl
    have hln := halt_len' (st := 0) (mv := (.slice am m.mem.length cm)) hrl
    have A1 : Hid (HaltAt (w27.alloc (.cells (Rs.halt 0 m (.slice am m.mem.length cm)).toArray 26)) w27.heap.size 0 m (.slice am m.mem.length cm)) := HaltAt.new w27 hrl
    have HM := Lib.hid (hsl.below ((Below.refl w27.heap.size w27).alloc (Nat.le_refl _) (.cells (Rs.halt 0 m (.slice am m.mem.length cm)).toArray 26)) (Nat.le_refl _))
    have XA := Lib.hid (XR.out.alloc XR.out.size (.cells (Rs.halt 0 m (.slice am m.mem.length cm)).toArray 26))
    clear hb hrl hsl
    go_upto_region 4 with fail
    clear hst hln
    have cl0 := A1.out.c0
    have cl1 := A1.out.c1
    generalize w27.alloc (.cells (Rs.halt 0 m (.slice am m.mem.length cm)).toArray 26) = x at A1 HM cl0 cl1 XA ⊢
    rw [hv] at cl1
    have hlt : (sz : Int) < 2 := by omega
    go_wp2_with fail
    go_ret
    exact ⟨rfl, XA.out⟩
  · obtain ⟨m, hm, hv, hpc, hregs, hmem, h25, h26, h28, hh, hn⟩ := starts_ok st sz (by omega) (by omega) (by omega) (by omega)
    have HML := Lib.hid hmem
    have HRG := Lib.hid hregs
    clear hmem hregs
    go_wp2_with fail
    with_reducible refine (run_as _ _ _ (startP) _ st sz (st : Int) (sz : Int) rfl rfl m (by show _ ≤ 100; simp [needP, startP]) start_err hm (by omega) X25.out X26.out YL.out).mono ?_
    rintro e w28 ⟨am, cm, rfl, hsl, hrl, hb⟩
    have XR := Lib.hid (X24.out.trans (hb.mono X24.out.size))
    have hst := halt_store w28 0 m (.slice am m.mem.length cm) hrl rfl
    have hln := halt_len' (st := 0) (mv := (.slice am m.mem.length cm)) hrl
    have A1 : Hid (HaltAt (w28.alloc (.cells (Rs.halt 0 m (.slice am m.mem.length cm)).toArray 26)) w28.heap.size 0 m (.slice am m.mem.length cm)) := HaltAt.new w28 hrl
    have HM := Lib.hid (hsl.below ((Below.refl w28.heap.size w28).alloc (Nat.le_refl _) (.cells (Rs.halt 0 m (.slice am m.mem.length cm)).toArray 26)) (Nat.le_refl _))
    have XA := Lib.hid (XR.out.alloc XR.out.size (.cells (Rs.halt 0 m (.slice am m.mem.length cm)).toArray 26))
    clear hb hrl hsl
    go_upto_region 4 with fail
    clear hst hln
    have cl0 := A1.out.c0
    have cl1 := A1.out.c1
    generalize w28.alloc (.cells (Rs.halt 0 m (.slice am m.mem.length cm)).toArray 26) = x at A1 HM cl0 cl1 XA ⊢
    rw [hv] at cl1
    have hlt : ¬ (sz : Int) < 2 := by omega
    generalize hkb : w28.heap.size = kb at A1 cl0 cl1 ⊢
    clear hkb
    have cR29 : x.cell? ⟨_, 34, none⟩ = some (.int .i64 (34 + (st : Int))) := (A1.out.cR (i := 29) (by omega)).trans (by rw [HRG.out]; rfl)
    have cR30 : x.cell? ⟨_, 35, none⟩ = some (.int .i64 33) := (A1.out.cR (i := 30) (by omega)).trans (by rw [HRG.out]; rfl)
    have cR25 : x.cell? ⟨_, 30, none⟩ = some (.int .i64 (257 + 8 * (st : Int))) := (A1.out.cR (i := 25) (by omega)).trans (by rw [HRG.out]; rfl)
    have HR : Hid (∀ (j : Nat), j < 25 → x.cell? ⟨kb, 5 + j, none⟩ = some (.int .i64 0)) := fun j hj => (A1.out.cR (i := j) (by omega)).trans (by rw [HRG.out, start_regs (st : Int) j hj])
    have c4 := A1.out.c4
    rw [hpc] at c4
    have c37 := A1.out.c37
    obtain ⟨bm, om, rfl, hcell⟩ := mem_at HM.out (by have := HML.out; omega)
    have c25 := hcell 25 (by have := HML.out; omega)
    have c26 := hcell 26 (by have := HML.out; omega)
    have c28 := hcell 28 (by have := HML.out; omega)
    rw [h25] at c25
    rw [h26] at c26
    rw [h28] at c28
    have hl25 : (25 : Int) < (m.mem.length : Nat) := by have := HML.out; omega
    have hl26 : (26 : Int) < (m.mem.length : Nat) := by have := HML.out; omega
    have hl28 : (28 : Int) < (m.mem.length : Nat) := by have := HML.out; omega
    have HCL := Lib.hid hcell
    clear hcell HM A1 HRG
    go_upto_region 9 with fail
    obtain ⟨p, hp⟩ : ∃ p : Nat, p = 32 + st := ⟨_, rfl⟩
    have ch := HCL.out (32 + st) (by have := HML.out; omega)
    have cn := HCL.out (33 + st) (by have := HML.out; omega)
    rw [hh] at ch
    rw [hn] at cn
    clear hh hn HCL
    have e0 : 32 + (st : Int) = (p : Int) := by omega
    have e1 : 34 + (st : Int) = (p : Int) + 2 := by omega
    have e2 : 257 + 8 * (st : Int) = 8 * (p : Int) + 1 := by omega
    have e3 : (257 + 8 * (st : Int)) / 8 = (p : Int) := by omega
    have hp1 : p ≤ 332 := by omega
    rw [← hp] at ch
    rw [show 33 + st = p + 1 by omega] at cn
    rw [e0] at c28
    rw [e1] at cR29
    rw [e2] at cR25
    have hlh : (p : Int) < (m.mem.length : Nat) := by have := HML.out; omega
    have hln : (p : Int) + 1 < (m.mem.length : Nat) := by have := HML.out; omega
    have hl0 : (0 : Int) ≤ (p : Int) := by omega
    have hl1 : (0 : Int) ≤ (p : Int) + 1 := by omega
    have s2 : IntKind.i64.wrap ((p : Int) + 1) = (p : Int) + 1 := by rw [IntKind.wrap_i64]; omega
    have s4 : IntKind.i64.wrap ((p : Int) + 2) = (p : Int) + 2 := by rw [IntKind.wrap_i64]; omega
    have s3 : bits .and .i64 (8 * (p : Int) + 1) 7 = 1 := by
      have := Rs.i64_mask 3 (by omega) (8 * (p : Int) + 1)
      rw [show ((2 ^ 3 - 1 : Nat) : Int) = 7 from rfl, show ((2 ^ 3 : Nat) : Int) = 8 from rfl] at this
      rw [this]
      omega
    have s5 : bits .and .i64 0 7 = 0 := rfl
    rw [e3, e0]
    clear e0 e1 e2 e3 hp k0 hroom hlt
    go_quiet (fail)
    obtain ⟨y, hy⟩ : ∃ y, x.drewN nq = y := ⟨_, rfl⟩
    have XY : Hid (Below w.heap.size w y) := by rw [← hy]; exact below_drewN XA.out _
    have HRY := HR.out
    rw [show (∀ (j : Nat), j < 25 → x.cell? ⟨kb, 5 + j, none⟩ = some (.int .i64 0)) = (∀ (j : Nat), j < 25 → (x.drewN nq).cell? ⟨kb, 5 + j, none⟩ = some (.int .i64 0)) from rfl, hy] at HRY
    have HRY := Lib.hid HRY
    have d0 := (cell_drewN x nq _).trans cl0
    rw [hy] at d0
    have d1 := (cell_drewN x nq _).trans cl1
    rw [hy] at d1
    have d29 := (cell_drewN x nq _).trans cR29
    rw [hy] at d29
    have d30 := (cell_drewN x nq _).trans cR30
    rw [hy] at d30
    have d37 := (cell_drewN x nq _).trans c37
    rw [hy] at d37
    have f25 := (cell_drewN x nq _).trans c25
    rw [hy] at f25
    have f26 := (cell_drewN x nq _).trans c26
    rw [hy] at f26
    have f28 := (cell_drewN x nq _).trans c28
    rw [hy] at f28
    rw [hy]
    clear hy cl0 cl1 c4 c37 c25 c26 c28 ch cn cR29 cR30 cR25 XA HR
    go_wp2_with fail
    go_loopg [11] 25 (fun g s wx => ∃ (k : Nat), 1 ≤ k ∧ k ≤ 25 ∧ g = 26 - k ∧ s = .int .i64 (k : Nat) ∧ wx = y)
    case atStart => exact ⟨1, by omega, by omega, rfl, rfl, rfl⟩
    case round =>
      obtain ⟨k, hk1, hk, rfl, rfl, rfl⟩ := hrel
      by_cases hlt : k < 25
      · have g1 : (k : Int) < 25 := by omega
        have g2 : (k : Int) < 32 := by omega
        have g0 : (0 : Int) ≤ (k : Int) := by omega
        have g4 : IntKind.i64.wrap ((k : Int) + 1) = (k : Int) + 1 := by rw [IntKind.wrap_i64]; omega
        have hc := HRY.out k hlt
        go_wp2_with fail
        go_roundg (26 - (k + 1))
        case measure => omega
        case rel => exact ⟨k + 1, by omega, by omega, rfl, by go_num, rfl⟩
      · obtain rfl : k = 25 := by omega
        clear hk1 hk hlt
        go_wp2_with fail
        go_quiet (fail)
        go_wp2_with fail
        go_ret
        exact ⟨rfl, below_drewN XY.out _⟩
end Sg
end Go.Proofs.Ytdmfogmgjmdaeaa
namespace Go.Proofs.Ytdmfogmgjmdaeaa
open Go.RowKit
set_option linter.unusedVariables false
set_option linter.unusedSimpArgs false
set_option maxRecDepth 100000
namespace Sg
open As
def errP (k : Int) : List It := [lab 10, jmp 0 k]
def cntP (n : Int) : List It := [lab 10, plc 26 60, wth 18 26 26 3, wth 19 27 25 3, wth 23 26 27 1, jmp 0 7] ++ [lab 60, wth 15 25 1 0, nmb 28 n, jmp 0 3]
def endsAs (l : List It) (st sz : Nat) (v : Int) : Bool := decide (As.err l = 0) && (match ran l st sz 0 with | (m, s) => decide (s = 0) && decide (m.value = v))
theorem endsAs_at {l : List It} {st sz : Nat} {v : Int} (h : endsAs l st sz v = true) : As.err l = 0 ∧ (ran l st sz 0).2 = 0 ∧ (ran l st sz 0).1.value = v := by
  unfold endsAs at h
  simp only [Bool.and_eq_true, decide_eq_true_eq] at h
  exact ⟨h.1, h.2.1, h.2.2⟩
theorem err_0 : endsAs (rtL ++ gcL ++ errP 11) 20 20 80 = true := by kernel_rfl
theorem err_1 : endsAs (rtL ++ gcL ++ errP 12) 20 20 81 = true := by kernel_rfl
theorem err_2 : endsAs (rtL ++ gcL ++ errP 13) 20 20 82 = true := by kernel_rfl
theorem err_3 : endsAs (rtL ++ gcL ++ errP 14) 20 20 83 = true := by kernel_rfl
theorem err_4 : endsAs (rtL ++ gcL ++ errP 15) 20 20 84 = true := by kernel_rfl
theorem err_5 : endsAs (rtL ++ gcL ++ errP 16) 20 20 85 = true := by kernel_rfl
theorem err_6 : endsAs (rtL ++ gcL ++ errP 17) 20 20 86 = true := by kernel_rfl
theorem err_7 : endsAs (rtL ++ gcL ++ errP 18) 20 20 87 = true := by kernel_rfl
theorem err_8 : endsAs (rtL ++ gcL ++ errP 19) 20 20 88 = true := by kernel_rfl
theorem err_9 : endsAs (rtL ++ gcL ++ errP 20) 20 20 89 = true := by kernel_rfl
theorem err_10 : endsAs (rtL ++ gcL ++ errP 21) 20 20 90 = true := by kernel_rfl
theorem err_11 : endsAs (rtL ++ gcL ++ errP 22) 20 20 91 = true := by kernel_rfl
theorem err_12 : endsAs (rtL ++ gcL ++ errP 23) 20 20 92 = true := by kernel_rfl
theorem err_13 : endsAs (rtL ++ gcL ++ errP 24) 20 20 93 = true := by kernel_rfl
theorem err_14 : endsAs (rtL ++ gcL ++ errP 25) 20 20 94 = true := by kernel_rfl
theorem err_15 : endsAs (rtL ++ gcL ++ errP 26) 20 20 95 = true := by kernel_rfl
theorem cnt_0 : endsAs (rtL ++ gcL ++ cntP 0) 20 20 91 = true := by kernel_rfl
theorem cnt_1 : endsAs (rtL ++ gcL ++ cntP 1) 20 20 0 = true := by kernel_rfl
theorem cnt_2 : endsAs (rtL ++ gcL ++ cntP 2) 20 20 91 = true := by kernel_rfl
theorem cnt_3 : endsAs (rtL ++ gcL ++ cntP 3) 20 20 91 = true := by kernel_rfl
theorem cnt_4 : endsAs (rtL ++ gcL ++ cntP 4) 20 20 91 = true := by kernel_rfl
theorem cnt_5 : endsAs (rtL ++ gcL ++ cntP 5) 20 20 91 = true := by kernel_rfl
theorem cnt_6 : endsAs (rtL ++ gcL ++ cntP 6) 20 20 91 = true := by kernel_rfl
theorem err_all (k : Int) (h0 : 80 ≤ k) (h1 : k ≤ 95) : endsAs (rtL ++ gcL ++ errP (-69 + k)) 20 20 k = true := by
  have h : k = 80 ∨ k = 81 ∨ k = 82 ∨ k = 83 ∨ k = 84 ∨ k = 85 ∨ k = 86 ∨ k = 87 ∨ k = 88 ∨ k = 89 ∨ k = 90 ∨ k = 91 ∨ k = 92 ∨ k = 93 ∨ k = 94 ∨ k = 95 := by omega
  rcases h with rfl | rfl | rfl | rfl | rfl | rfl | rfl | rfl | rfl | rfl | rfl | rfl | rfl | rfl | rfl | rfl
  · exact err_0
  · exact err_1
  · exact err_2
  · exact err_3
  · exact err_4
  · exact err_5
  · exact err_6
  · exact err_7
  · exact err_8
  · exact err_9
  · exact err_10
  · exact err_11
  · exact err_12
  · exact err_13
  · exact err_14
  · exact err_15
theorem cnt_all (n : Int) (h0 : 0 ≤ n) (h1 : n ≤ 6) : endsAs (rtL ++ gcL ++ cntP n) 20 20 (if n = 1 then 0 else 91) = true := by
  have h : n = 0 ∨ n = 1 ∨ n = 2 ∨ n = 3 ∨ n = 4 ∨ n = 5 ∨ n = 6 := by omega
  rcases h with rfl | rfl | rfl | rfl | rfl | rfl | rfl
  · exact cnt_0
  · exact cnt_1
  · exact cnt_2
  · exact cnt_3
  · exact cnt_4
  · exact cnt_5
  · exact cnt_6
end Sg
end Go.Proofs.Ytdmfogmgjmdaeaa
namespace Go.Proofs.Ytdmfogmgjmdaeaa
open Go.RowKit
set_option linter.unusedVariables false
set_option linter.unusedSimpArgs false
set_option maxRecDepth 100000
namespace Sg
open As
theorem lit_own (w : World) (B : Nat) (l : List It) (hb : B ≤ w.heap.size) (hm : l.length ≤ maxLen) : (w.alloc (.cells (flat l).toArray 34)).ownsRow B 34 8 (.slice (some ⟨w.heap.size, 0, none⟩) l.length l.length) l.length (flat l) := by
  have h := World.ownsRow_lit (base := B) (e := 34) (size := 8) w (flat l).toArray l.length hb hm (by simp [flat_length])
  simpa using h
theorem cnt_row (n : Int) (x : World) (B : Nat) (v : Value) (h : x.ownsRow B 34 8 v (6 + 4) (flat [lab 10, plc 26 60, wth 18 26 26 3, wth 19 27 25 3, wth 23 26 27 1, jmp 0 7] ++ flat [lab 60, wth 15 25 1 0, nmb 28 n, jmp 0 3])) : x.ownsRow B 34 8 v (cntP n).length (flat (cntP n)) := by
  rw [show flat [lab 10, plc 26 60, wth 18 26 26 3, wth 19 27 25 3, wth 23 26 27 1, jmp 0 7] ++ flat [lab 60, wth 15 25 1 0, nmb 28 n, jmp 0 3] = flat (cntP n) from by unfold flat cntP; rw [List.flatMap_append]] at h
  exact h
set_option maxHeartbeats 32000000 in
theorem errors_any (a0 a1 : Int) (w : World) : Calls Try.prog 4 #[.int .i64 a0, .int .i64 a1] w fun e w' => e = .returned (.bool true) ∧ Below w.heap.size w w' := by
  have HRUN : Hid (∀ (v1 v2 v3 : Value) (P : List It) (W : World) (v : Int), P.length ≤ 100 → endsAs (rtL ++ gcL ++ P) 20 20 v = true → ISrc W v1 rtL → ISrc W v2 gcL → ISrc W v3 P → Calls Try.prog 7 #[v1, v2, v3, .int .i64 20, .int .i64 20, .int .i64 0] W (fun e w' => ∃ m a c, e = .returned (.tuple #[.agg (Rs.halt 0 m (.slice a m.mem.length c)).toArray, .bool true]) ∧ m.value = v ∧ m.regs.length = 32 ∧ Below W.heap.size W w')) := fun v1 v2 v3 P W v hp he h1 h2 h3 => by
    obtain ⟨e1, e2, e3⟩ := endsAs_at he
    refine (rRun_any v1 v2 v3 rtL gcL P 20 20 0 W h1 h2 h3 (by have := rt_len; have := gc_len; omega) e1 (by omega) (by unfold Rs.InR; omega)).mono ?_
    rintro e w' ⟨a, c, rfl, hs, hr, hb⟩
    exact ⟨_, a, c, by rw [e2], e3, hr, hb⟩
  have b1 : -16 < a0.tmod 16 := by have := Int.lt_tmod_of_pos a0 (show (0 : Int) < 16 by decide); omega
  have b2 : a0.tmod 16 < 16 := Int.tmod_lt_of_pos a0 (by decide)
  have b3 : 0 ≤ (a0.tmod 16 + 16).tmod 16 := Int.tmod_nonneg 16 (by omega)
  have b4 : (a0.tmod 16 + 16).tmod 16 < 16 := Int.tmod_lt_of_pos _ (by decide)
  have b5 : IntKind.i64.wrap (a0.tmod 16 + 16) = a0.tmod 16 + 16 := by rw [IntKind.wrap_i64]; omega
  have b6 : IntKind.i64.wrap (80 + (a0.tmod 16 + 16).tmod 16) = 80 + (a0.tmod 16 + 16).tmod 16 := by rw [IntKind.wrap_i64]; omega
  have d1 : -7 < a1.tmod 7 := by have := Int.lt_tmod_of_pos a1 (show (0 : Int) < 7 by decide); omega
  have d2 : a1.tmod 7 < 7 := Int.tmod_lt_of_pos a1 (by decide)
  have d3 : 0 ≤ (a1.tmod 7 + 7).tmod 7 := Int.tmod_nonneg 7 (by omega)
  have d4 : (a1.tmod 7 + 7).tmod 7 < 7 := Int.tmod_lt_of_pos _ (by decide)
  have d5 : IntKind.i64.wrap (a1.tmod 7 + 7) = a1.tmod 7 + 7 := by rw [IntKind.wrap_i64]; omega
  go_enter Try.func4, Try.ntmps4
  have X0 := Lib.hid (Below.refl w.heap.size w)
  go_wp2_with fail
  with_reducible refine (fixed_any23 _).mono ?_
  rintro e w1 ⟨rfl, hb⟩
  have X2 := Lib.hid (X0.out.trans (hb.mono X0.out.size))
  clear hb
  go_upto_region 4 with fail
  have k0 : 80 ≤ 80 + a0.tmod 16 % 16 := by omega
  have k1 : 80 + a0.tmod 16 % 16 ≤ 95 := by omega
  generalize 80 + a0.tmod 16 % 16 = k at k0 k1 ⊢
  clear b1 b2 b3 b4 b5 b6
  have k2 : IntKind.i64.wrap (-69 + k) = -69 + k := by rw [IntKind.wrap_i64]; omega
  have HEK := Lib.hid (err_all k k0 k1)
  go_wp2_with fail
  with_reducible refine (rt_Code _).mono ?_
  rintro e w3 ⟨v1, rfl, ho, hb⟩
  have X4 := Lib.hid (X2.out.trans (hb.mono X2.out.size))
  have YR := Lib.hid (ISrc.own ho)
  clear ho hb
  go_wp2_with fail
  with_reducible refine (gc_Code _).mono ?_
  rintro e w5 ⟨v2, rfl, ho, hb⟩
  have X6 := Lib.hid (X4.out.trans (hb.mono X4.out.size))
  have X7 := Lib.hid (YR.out.below hb (Nat.le_refl _))
  have YG := Lib.hid (ISrc.own ho)
  clear ho hb
  go_wp2_with fail
  with_reducible refine (rL_any 10 _).mono ?_
  rintro e w8 ⟨rfl, hb⟩
  have X9 := Lib.hid (X6.out.trans (hb.mono X6.out.size))
  have X10 := Lib.hid (X7.out.below hb (Nat.le_refl _))
  have X11 := Lib.hid (YG.out.below hb (Nat.le_refl _))
  clear hb
  go_wp2_with fail
  with_reducible refine (rJ_any 0 (-69 + k) _).mono ?_
  rintro e w12 ⟨rfl, hb⟩
  have X13 := Lib.hid (X9.out.trans (hb.mono X9.out.size))
  have X14 := Lib.hid (X10.out.below hb (Nat.le_refl _))
  have X15 := Lib.hid (X11.out.below hb (Nat.le_refl _))
  clear hb
  have X16 := Lib.hid (X13.out.alloc X13.out.size (.cells (List.toArray (Value.int .i64 1 :: Value.int .i64 0 :: Value.int .i64 0 :: Value.int .i64 0 :: Value.int .i64 0 :: Value.int .i64 0 :: Value.int .i64 10 :: Value.int .i64 0 :: Value.int .i64 3 :: Value.int .i64 28 :: Value.int .i64 0 :: Value.int .i64 0 :: Value.int .i64 0 :: Value.int .i64 0 :: Value.int .i64 (-69 + k) :: Value.int .i64 0 :: [])) 34))
  have X17 := Lib.hid (X14.out.below ((Below.refl w12.heap.size w12).alloc (Nat.le_refl _) (.cells (List.toArray (Value.int .i64 1 :: Value.int .i64 0 :: Value.int .i64 0 :: Value.int .i64 0 :: Value.int .i64 0 :: Value.int .i64 0 :: Value.int .i64 10 :: Value.int .i64 0 :: Value.int .i64 3 :: Value.int .i64 28 :: Value.int .i64 0 :: Value.int .i64 0 :: Value.int .i64 0 :: Value.int .i64 0 :: Value.int .i64 (-69 + k) :: Value.int .i64 0 :: [])) 34)) (Nat.le_refl _))
  have X18 := Lib.hid (X15.out.below ((Below.refl w12.heap.size w12).alloc (Nat.le_refl _) (.cells (List.toArray (Value.int .i64 1 :: Value.int .i64 0 :: Value.int .i64 0 :: Value.int .i64 0 :: Value.int .i64 0 :: Value.int .i64 0 :: Value.int .i64 10 :: Value.int .i64 0 :: Value.int .i64 3 :: Value.int .i64 28 :: Value.int .i64 0 :: Value.int .i64 0 :: Value.int .i64 0 :: Value.int .i64 0 :: Value.int .i64 (-69 + k) :: Value.int .i64 0 :: [])) 34)) (Nat.le_refl _))
  have YL : Hid (ISrc (w12.alloc (.cells (List.toArray (Value.int .i64 1 :: Value.int .i64 0 :: Value.int .i64 0 :: Value.int .i64 0 :: Value.int .i64 0 :: Value.int .i64 0 :: Value.int .i64 10 :: Value.int .i64 0 :: Value.int .i64 3 :: Value.int .i64 28 :: Value.int .i64 0 :: Value.int .i64 0 :: Value.int .i64 0 :: Value.int .i64 0 :: Value.int .i64 (-69 + k) :: Value.int .i64 0 :: [])) 34)) (.slice (some ⟨w12.heap.size, 0, none⟩) 2 2) (errP (-69 + k))) := lit_src w12 (errP (-69 + k)) (by simp only [maxLen, errP, List.length_cons, List.length_nil]; omega)
  go_wp2_with fail
  with_reducible refine (HRUN.out _ _ _ (errP (-69 + k)) _ _ (by simp only [errP, List.length_cons, List.length_nil]; omega) HEK.out X17.out X18.out YL.out).mono ?_
  rintro e w19 ⟨m, am, cm, rfl, hv, hrl, hb⟩
  have X20 := Lib.hid (X16.out.trans (hb.mono X16.out.size))
  have hst := halt_store w19 0 m (.slice am m.mem.length cm) hrl rfl
  have hln := halt_len' (st := 0) (mv := (.slice am m.mem.length cm)) hrl
  have A1 : Hid (HaltAt (w19.alloc (.cells (Rs.halt 0 m (.slice am m.mem.length cm)).toArray 26)) w19.heap.size 0 m (.slice am m.mem.length cm)) := HaltAt.new w19 hrl
  have X21 := Lib.hid (X20.out.alloc X20.out.size (.cells (Rs.halt 0 m (.slice am m.mem.length cm)).toArray 26))
  clear hb hrl
  go_upto_region 5 with fail
  clear hst hln
  have cl0 := A1.out.c0
  have cl1 := A1.out.c1
  rw [hv] at cl1
  generalize w19.alloc (.cells (Rs.halt 0 m (.slice am m.mem.length cm)).toArray 26) = x22 at A1 cl0 cl1 X21 ⊢
  go_upto_region 8 with fail
  have n0 : 0 ≤ a1.tmod 7 % 7 := by omega
  have n1 : a1.tmod 7 % 7 ≤ 6 := by omega
  clear A1 cl0 cl1 hv
  have HCN := Lib.hid (cnt_all (a1.tmod 7 % 7) n0 n1)
  obtain ⟨i0, hi, hz0, hz1, hz2⟩ := info_parts infoItem
  have HI := Lib.hid hi
  have HZ0 := Lib.hid hz0
  have HZ1 := Lib.hid hz1
  have HZ2 := Lib.hid hz2
  clear hi hz0 hz1 hz2
  go_wp2_with fail
  with_reducible refine (rL_any 10 _).mono ?_
  rintro e w23 ⟨rfl, hb⟩
  have X24 := Lib.hid (X21.out.trans (hb.mono X21.out.size))
  clear hb
  go_wp2_with fail
  with_reducible refine (rP_any 26 60 _).mono ?_
  rintro e w25 ⟨rfl, hb⟩
  have X26 := Lib.hid (X24.out.trans (hb.mono X24.out.size))
  clear hb
  go_wp2_with fail
  with_reducible refine (rI_any 18 26 26 3 _).mono ?_
  rintro e w27 ⟨rfl, hb⟩
  have X28 := Lib.hid (X26.out.trans (hb.mono X26.out.size))
  clear hb
  go_wp2_with fail
  with_reducible refine (rI_any 19 27 25 3 _).mono ?_
  rintro e w29 ⟨rfl, hb⟩
  have X30 := Lib.hid (X28.out.trans (hb.mono X28.out.size))
  clear hb
  go_wp2_with fail
  with_reducible refine (rI_any 23 26 27 1 _).mono ?_
  rintro e w31 ⟨rfl, hb⟩
  have X32 := Lib.hid (X30.out.trans (hb.mono X30.out.size))
  clear hb
  go_wp2_with fail
  with_reducible refine (rJ_any 0 7 _).mono ?_
  rintro e w33 ⟨rfl, hb⟩
  have X34 := Lib.hid (X32.out.trans (hb.mono X32.out.size))
  clear hb
  have YO : Hid ((w33.alloc (.cells (List.toArray (Value.int .i64 1 :: Value.int .i64 0 :: Value.int .i64 0 :: Value.int .i64 0 :: Value.int .i64 0 :: Value.int .i64 0 :: Value.int .i64 10 :: Value.int .i64 0 :: Value.int .i64 5 :: Value.int .i64 20 :: Value.int .i64 26 :: Value.int .i64 0 :: Value.int .i64 0 :: Value.int .i64 0 :: Value.int .i64 60 :: Value.int .i64 0 :: Value.int .i64 0 :: Value.int .i64 18 :: Value.int .i64 26 :: Value.int .i64 26 :: Value.int .i64 0 :: Value.int .i64 3 :: Value.int .i64 0 :: Value.int .i64 0 :: Value.int .i64 0 :: Value.int .i64 19 :: Value.int .i64 27 :: Value.int .i64 25 :: Value.int .i64 0 :: Value.int .i64 3 :: Value.int .i64 0 :: Value.int .i64 0 :: Value.int .i64 0 :: Value.int .i64 23 :: Value.int .i64 26 :: Value.int .i64 27 :: Value.int .i64 0 :: Value.int .i64 1 :: Value.int .i64 0 :: Value.int .i64 0 :: Value.int .i64 3 :: Value.int .i64 28 :: Value.int .i64 0 :: Value.int .i64 0 :: Value.int .i64 0 :: Value.int .i64 0 :: Value.int .i64 7 :: Value.int .i64 0 :: [])) 34)).ownsRow w.heap.size 34 8 (.slice (some ⟨w33.heap.size, 0, none⟩) 6 6) 6 (flat ([lab 10, plc 26 60, wth 18 26 26 3, wth 19 27 25 3, wth 23 26 27 1, jmp 0 7]))) := lit_own w33 _ ([lab 10, plc 26 60, wth 18 26 26 3, wth 19 27 25 3, wth 23 26 27 1, jmp 0 7]) X34.out.size (by decide)
  have X35 := Lib.hid (X34.out.alloc X34.out.size (.cells (List.toArray (Value.int .i64 1 :: Value.int .i64 0 :: Value.int .i64 0 :: Value.int .i64 0 :: Value.int .i64 0 :: Value.int .i64 0 :: Value.int .i64 10 :: Value.int .i64 0 :: Value.int .i64 5 :: Value.int .i64 20 :: Value.int .i64 26 :: Value.int .i64 0 :: Value.int .i64 0 :: Value.int .i64 0 :: Value.int .i64 60 :: Value.int .i64 0 :: Value.int .i64 0 :: Value.int .i64 18 :: Value.int .i64 26 :: Value.int .i64 26 :: Value.int .i64 0 :: Value.int .i64 3 :: Value.int .i64 0 :: Value.int .i64 0 :: Value.int .i64 0 :: Value.int .i64 19 :: Value.int .i64 27 :: Value.int .i64 25 :: Value.int .i64 0 :: Value.int .i64 3 :: Value.int .i64 0 :: Value.int .i64 0 :: Value.int .i64 0 :: Value.int .i64 23 :: Value.int .i64 26 :: Value.int .i64 27 :: Value.int .i64 0 :: Value.int .i64 1 :: Value.int .i64 0 :: Value.int .i64 0 :: Value.int .i64 3 :: Value.int .i64 28 :: Value.int .i64 0 :: Value.int .i64 0 :: Value.int .i64 0 :: Value.int .i64 0 :: Value.int .i64 7 :: Value.int .i64 0 :: [])) 34))
  go_wp2_with fail
  with_reducible refine (rL_any 60 _).mono ?_
  rintro e w36 ⟨rfl, hb⟩
  have X37 := Lib.hid (X35.out.trans (hb.mono X35.out.size))
  have X38 := Lib.hid (own_keep21 YO.out hb)
  clear hb
  go_wp2_with fail
  with_reducible refine (rI_any 15 25 1 0 _).mono ?_
  rintro e w39 ⟨rfl, hb⟩
  have X40 := Lib.hid (X37.out.trans (hb.mono X37.out.size))
  have X41 := Lib.hid (own_keep21 X38.out hb)
  clear hb
  go_wp2_with fail
  with_reducible refine (rK_any 28 (a1.tmod 7 % 7) _).mono ?_
  rintro e w42 ⟨rfl, hb⟩
  have X43 := Lib.hid (X40.out.trans (hb.mono X40.out.size))
  have X44 := Lib.hid (own_keep21 X41.out hb)
  clear hb
  go_wp2_with fail
  with_reducible refine (rJ_any 0 3 _).mono ?_
  rintro e w45 ⟨rfl, hb⟩
  have X46 := Lib.hid (X43.out.trans (hb.mono X43.out.size))
  have X47 := Lib.hid (own_keep21 X44.out hb)
  clear hb
  have YQ : Hid ((w45.alloc (.cells (List.toArray (Value.int .i64 1 :: Value.int .i64 0 :: Value.int .i64 0 :: Value.int .i64 0 :: Value.int .i64 0 :: Value.int .i64 0 :: Value.int .i64 60 :: Value.int .i64 0 :: Value.int .i64 0 :: Value.int .i64 15 :: Value.int .i64 25 :: Value.int .i64 1 :: Value.int .i64 0 :: Value.int .i64 0 :: Value.int .i64 0 :: Value.int .i64 0 :: Value.int .i64 4 :: Value.int .i64 20 :: Value.int .i64 28 :: Value.int .i64 0 :: Value.int .i64 0 :: Value.int .i64 0 :: Value.int .i64 0 :: Value.int .i64 (a1.tmod 7 % 7) :: Value.int .i64 3 :: Value.int .i64 28 :: Value.int .i64 0 :: Value.int .i64 0 :: Value.int .i64 0 :: Value.int .i64 0 :: Value.int .i64 3 :: Value.int .i64 0 :: [])) 34)).ownsRow w.heap.size 34 8 (.slice (some ⟨w45.heap.size, 0, none⟩) 4 4) 4 (flat ([lab 60, wth 15 25 1 0, nmb 28 (a1.tmod 7 % 7), jmp 0 3]))) := lit_own w45 _ ([lab 60, wth 15 25 1 0, nmb 28 (a1.tmod 7 % 7), jmp 0 3]) X46.out.size (by simp [maxLen])
  have X48 := Lib.hid (X46.out.alloc X46.out.size (.cells (List.toArray (Value.int .i64 1 :: Value.int .i64 0 :: Value.int .i64 0 :: Value.int .i64 0 :: Value.int .i64 0 :: Value.int .i64 0 :: Value.int .i64 60 :: Value.int .i64 0 :: Value.int .i64 0 :: Value.int .i64 15 :: Value.int .i64 25 :: Value.int .i64 1 :: Value.int .i64 0 :: Value.int .i64 0 :: Value.int .i64 0 :: Value.int .i64 0 :: Value.int .i64 4 :: Value.int .i64 20 :: Value.int .i64 28 :: Value.int .i64 0 :: Value.int .i64 0 :: Value.int .i64 0 :: Value.int .i64 0 :: Value.int .i64 (a1.tmod 7 % 7) :: Value.int .i64 3 :: Value.int .i64 28 :: Value.int .i64 0 :: Value.int .i64 0 :: Value.int .i64 0 :: Value.int .i64 0 :: Value.int .i64 3 :: Value.int .i64 0 :: [])) 34))
  have X49 := Lib.hid (own_keep21 X47.out ((Below.refl w45.heap.size w45).alloc (Nat.le_refl _) (.cells (List.toArray (Value.int .i64 1 :: Value.int .i64 0 :: Value.int .i64 0 :: Value.int .i64 0 :: Value.int .i64 0 :: Value.int .i64 0 :: Value.int .i64 60 :: Value.int .i64 0 :: Value.int .i64 0 :: Value.int .i64 15 :: Value.int .i64 25 :: Value.int .i64 1 :: Value.int .i64 0 :: Value.int .i64 0 :: Value.int .i64 0 :: Value.int .i64 0 :: Value.int .i64 4 :: Value.int .i64 20 :: Value.int .i64 28 :: Value.int .i64 0 :: Value.int .i64 0 :: Value.int .i64 0 :: Value.int .i64 0 :: Value.int .i64 (a1.tmod 7 % 7) :: Value.int .i64 3 :: Value.int .i64 28 :: Value.int .i64 0 :: Value.int .i64 0 :: Value.int .i64 0 :: Value.int .i64 0 :: Value.int .i64 3 :: Value.int .i64 0 :: [])) 34)))
  go_wp2_with (first
    | (at_builtin; refine wpList_append_g rfl (.tmp 55) (.tmp 61) 29 rfl w.heap.size 34 i0 (.agg #[.int .i64 0, .int .i64 0, .int .i64 0, .int .i64 0, .int .i64 0, .int .i64 0, .int .i64 0, .int .i64 0]) 8 64 Try.underlying29 HI.out HZ0.out HZ1.out HZ2.out rfl (by decide) (.slice (some ⟨w33.heap.size, 0, none⟩) 6 6) 6 (flat ([lab 10, plc 26 60, wth 18 26 26 3, wth 19 27 25 3, wth 23 26 27 1, jmp 0 7])) rfl X49.out (some ⟨w45.heap.size, 0, none⟩) 4 4 (flat ([lab 60, wth 15 25 1 0, nmb 28 (a1.tmod 7 % 7), jmp 0 3])) rfl (flat_length _) (.inr ⟨_, rfl, YQ.out.cells rfl⟩) (flat_one _) (by decide) (by decide) X48.out.size ?_; intro v5 x5 ho5 hg5; have HC5 : Hid (x5.ownsRow w.heap.size 34 8 v5 (cntP (a1.tmod 7 % 7)).length (flat (cntP (a1.tmod 7 % 7)))) := cnt_row (a1.tmod 7 % 7) x5 _ v5 ho5; have HB5 := Lib.hid (X48.out.grown hg5 X48.out.size (fun q hq => (X49.out.lt q hq).1)); clear ho5 hg5)
    | (go_at_call 8; (with_reducible refine (rt_Code _).mono ?_); rintro e x6 ⟨v1, rfl, ho, hb⟩; have HC6 := Lib.hid ((ISrc.own HC5.out).below hb (Nat.le_refl _)); have HB6 := Lib.hid (HB5.out.trans (hb.mono HB5.out.size)); have HR6 := Lib.hid (ISrc.own ho); clear ho hb)
    | fail)
  go_wp2_with fail
  with_reducible refine (gc_Code _).mono ?_
  rintro e w50 ⟨v2, rfl, ho, hb⟩
  have X51 := Lib.hid (HB6.out.trans (hb.mono HB6.out.size))
  have X52 := Lib.hid (HC6.out.below hb (Nat.le_refl _))
  have X53 := Lib.hid (HR6.out.below hb (Nat.le_refl _))
  have YG := Lib.hid (ISrc.own ho)
  clear ho hb
  go_wp2_with fail
  with_reducible refine (HRUN.out _ _ _ (cntP (a1.tmod 7 % 7)) _ _ (by simp [cntP]) HCN.out X53.out YG.out X52.out).mono ?_
  rintro e w54 ⟨m, am, cm, rfl, hv, hrl, hb⟩
  have X55 := Lib.hid (X51.out.trans (hb.mono X51.out.size))
  have hst := halt_store w54 0 m (.slice am m.mem.length cm) hrl rfl
  have hln := halt_len' (st := 0) (mv := (.slice am m.mem.length cm)) hrl
  have A1 : Hid (HaltAt (w54.alloc (.cells (Rs.halt 0 m (.slice am m.mem.length cm)).toArray 26)) w54.heap.size 0 m (.slice am m.mem.length cm)) := HaltAt.new w54 hrl
  have X56 := Lib.hid (X55.out.alloc X55.out.size (.cells (Rs.halt 0 m (.slice am m.mem.length cm)).toArray 26))
  clear hb hrl
  go_upto_region 11 with fail
  clear hst hln
  have cl0 := A1.out.c0
  have cl1 := A1.out.c1
  rw [hv] at cl1
  generalize w54.alloc (.cells (Rs.halt 0 m (.slice am m.mem.length cm)).toArray 26) = x57 at A1 cl0 cl1 X56 ⊢
  clear d1 d2 d3 d4 d5 HCN HI HZ0 HZ1 HZ2 HRUN hv A1
  generalize a1.tmod 7 % 7 = nn at cl1 n0 n1 ⊢
  by_cases hn : nn = 1
  · rw [if_pos hn] at cl1
    go_wp2_with fail
    go_ret
    exact ⟨rfl, X56.out⟩
  · rw [if_neg hn] at cl1
    go_wp2_with fail
    go_ret
    exact ⟨rfl, X56.out⟩
end Sg
end Go.Proofs.Ytdmfogmgjmdaeaa
