/- The reference's Run. -/
import Derived.Test.YtdmfogmgjmdaeaaAJbl
import Derived.Test.YtdmfogmgjmdaeaaAJbm
import Derived.Test.YtdmfogmgjmdaeaaAJbc
import Derived.Deep.RegionHeld3
import Derived.Test.YtdmfogmgjmdaeaaAJal
import Derived.Deep.QuietTactic
import Derived.BigQuiet
import Derived.Test.YtdmfogmgjmdaeaaAJam
set_option linter.unusedVariables false
set_option linter.unusedSimpArgs false
set_option linter.unnecessarySimpa false
namespace Go.Proofs.Ytdmfogmgjmdaeaa
open Go.RowKit
set_option linter.unusedVariables false
set_option linter.unusedSimpArgs false
set_option maxRecDepth 100000
namespace Sg
open As
theorem mem0_length (st sz : Nat) (mo : Int) : (mem0 st sz mo).length = 33 + st + 2 * sz := by simp [mem0]
theorem mem0_in {st sz : Nat} {mo : Int} (hq : 33 + st + 2 * sz ≤ 1048576) (hm : Rs.InR mo) : ∀ x ∈ mem0 st sz mo, Rs.InR x := by
  intro x hx
  have h : x = 0 ∨ x = 32 + st ∨ x = 32 + st + sz ∨ x = 32 + st + 2 * sz ∨ x = mo := by
    unfold mem0 at hx
    rcases List.mem_or_eq_of_mem_set hx with hx | rfl
    · rcases List.mem_or_eq_of_mem_set hx with hx | rfl
      · rcases List.mem_or_eq_of_mem_set hx with hx | rfl
        · rcases List.mem_or_eq_of_mem_set hx with hx | rfl
          · rcases List.mem_or_eq_of_mem_set hx with hx | rfl
            · exact .inl (List.eq_of_mem_replicate hx)
            · exact .inr (.inl rfl)
          · exact .inr (.inr (.inl rfl))
        · exact .inr (.inr (.inl rfl))
      · exact .inr (.inr (.inr (.inl rfl)))
    · exact .inr (.inr (.inr (.inr rfl)))
  rcases h with rfl | rfl | rfl | rfl | rfl
  · unfold Rs.InR; omega
  · unfold Rs.InR; omega
  · unfold Rs.InR; omega
  · unfold Rs.InR; omega
  · exact hm
def ran (l : List It) (st sz : Nat) (mo : Int) : Rs.M × Int := Rs.runI (As.code l) (mem0 st sz mo) (33 + (st : Int) + 2 * (sz : Int)) [] 300000
def RunPost (l : List It) (st sz : Nat) (mo : Int) (w : World) (e : Ending) (w' : World) : Prop :=
  ∃ a cap, e = .returned (.tuple #[.agg (Rs.halt (ran l st sz mo).2 (ran l st sz mo).1 (.slice a (ran l st sz mo).1.mem.length cap)).toArray, .bool true]) ∧ Sl w' (.slice a (ran l st sz mo).1.mem.length cap) ((ran l st sz mo).1.mem.map (Value.int .i64)) ∧ (ran l st sz mo).1.regs.length = 32 ∧ Below w.heap.size w w'
theorem haltDS : ∃ fs, Try.prog.underlying 26 = some (.struct fs) := ⟨_, Try.underlying26⟩
set_option maxHeartbeats 16000000 in
theorem rRun_any (v1 v2 v3 : Value) (l1 l2 l3 : List It) (st sz : Nat) (mo : Int) (w : World) (h1 : ISrc w v1 l1) (h2 : ISrc w v2 l2) (h3 : ISrc w v3 l3) (hn : l1.length + l2.length + l3.length ≤ 65536) (he : As.err (l1 ++ l2 ++ l3) = 0) (hq : 33 + st + 2 * sz ≤ 1048576) (hmo : Rs.InR mo) :
    Calls Try.prog 7 #[v1, v2, v3, .int .i64 (st : Nat), .int .i64 (sz : Nat), .int .i64 mo] w (RunPost (l1 ++ l2 ++ l3) st sz mo w) := by
  generalize hl : l1 ++ l2 ++ l3 = l
  have HI : Hid (∀ W, Below w.heap.size w W → Calls Try.prog 16 #[v1, v2, v3, .int .i64 (st : Nat), .int .i64 (sz : Nat), .int .i64 mo] W (ImgPost l st sz mo W)) := fun W hb => by
    rw [← hl]
    exact rImage_any v1 v2 v3 l1 l2 l3 st sz mo W (h1.below hb (Nat.le_refl _)) (h2.below hb (Nat.le_refl _)) (h3.below hb (Nat.le_refl _)) hn he hq
  have HMI := Lib.hid (mem0_in hq hmo)
  clear h1 h2 h3 hn he hl hmo
  obtain ⟨⟨m, s⟩, hr⟩ : ∃ r, ran l st sz mo = r := ⟨_, rfl⟩
  have HR := Lib.hid hr
  have HRL : Hid (m.regs.length = 32) := by have := Rs.runI_len (As.code l) (mem0 st sz mo) (33 + (st : Int) + 2 * (sz : Int)) [] 300000; unfold ran at hr; rw [hr] at this; exact this
  unfold RunPost
  rw [hr]
  clear hr
  obtain ⟨c1, c2⟩ : True ∧ True := ⟨trivial, trivial⟩
  go_enter Try.func7, Try.ntmps7
  go_upto_region 1 with fail
  have HB0 := Lib.hid ((Below.refl w.heap.size w).alloc (Nat.le_refl _) (.cells halt0 26))
  have HA := Lib.hid (heap_alloc_new w (.cells halt0 26))
  have HS : Hid ((w.alloc (.cells halt0 26)).heap.size = w.heap.size + 1) := by unfold Hid; simp
  have hz0 : Hid (halt0.size = 38) := rfl
  unfold halt0 at HA HB0 HS hz0
  revert HA HB0 HS hz0
  generalize hHH : (#[.int .i64 0, .int .i64 0, .string ⟨#[]⟩, .int .i64 0, .int .i64 0, .int .i64 0, .int .i64 0, .int .i64 0, .int .i64 0, .int .i64 0, .int .i64 0, .int .i64 0, .int .i64 0, .int .i64 0, .int .i64 0, .int .i64 0, .int .i64 0, .int .i64 0, .int .i64 0, .int .i64 0, .int .i64 0, .int .i64 0, .int .i64 0, .int .i64 0, .int .i64 0, .int .i64 0, .int .i64 0, .int .i64 0, .int .i64 0, .int .i64 0, .int .i64 0, .int .i64 0, .int .i64 0, .int .i64 0, .int .i64 0, .int .i64 0, .int .i64 0, .slice none 0 0] : Array Value) = H0
  intro HB0 HA HS hz0
  clear hHH
  generalize w.alloc (.cells H0 26) = W at HB0 HA HS ⊢
  go_wp2_with fail
  with_reducible refine (HI.out _ HB0.out).mono ?_
  rintro e w1 ⟨vc, vm, rfl, hc, hm, hb⟩
  obtain ⟨ac, cc, rfl⟩ := hc.len
  obtain ⟨am, cm, rfl⟩ := hm.len
  have hl1 : (u32s (As.code l)).length = (As.code l).length := by simp [u32s]
  have hl2 : (i64s (mem0 st sz mo)).length = (mem0 st sz mo).length := by simp [i64s]
  rw [hl1] at hc ⊢
  rw [hl2] at hm ⊢
  have HC := Lib.hid hc
  have HM := Lib.hid hm
  have HA1 := Lib.hid ((hb.block w.heap.size (by have := HS.out; omega)).trans HA.out)
  have HB1 := Lib.hid (HB0.out.trans (hb.mono HB0.out.size))
  have hs1 : Hid (w.heap.size < w1.heap.size) := by have := hb.size; have := HS.out; unfold Hid; omega
  clear hc hm hb
  have HB2 : Hid (∀ o, Below w.heap.size w (w1.alloc o)) := fun o => HB1.out.alloc (Nat.le_of_lt hs1.out) o
  have HA2 : Hid (∀ o, (w1.alloc o).heap[w.heap.size]? = some (.cells H0 26 (0, 0))) := fun o => (heap_alloc_old _ _ hs1.out).trans HA1.out
  have HCC : Hid (∀ o, Sl (w1.alloc o) (.slice ac (As.code l).length cc) (u32s (As.code l))) := fun o => HC.out.below ((Below.refl w1.heap.size w1).alloc (Nat.le_refl _) o) (Nat.le_refl _)
  have HMM : Hid (∀ o, Sl (w1.alloc o) (.slice am (mem0 st sz mo).length cm) (i64s (mem0 st sz mo))) := fun o => HM.out.below ((Below.refl w1.heap.size w1).alloc (Nat.le_refl _) o) (Nat.le_refl _)
  go_wp2_with fail
  with_reducible refine (rrun_any _ _ (As.code l) (mem0 st sz mo) (33 + (st : Int) + 2 * (sz : Int)) [] 300000 _ (HCC.out _) (HMM.out _) (code_range l) HMI.out (by decide)).mono ?_
  rintro e w2 ⟨mv, rfl, hown, hb⟩
  have hRR : Rs.runI (As.code l) (mem0 st sz mo) (33 + (st : Int) + 2 * (sz : Int)) [] 300000 = (m, s) := HR.out
  rw [hRR] at hown ⊢
  have HB3 := Lib.hid ((HB2.out _).trans (hb.mono (Nat.le_trans (Nat.le_of_lt hs1.out) (by simp))))
  have HA3 := Lib.hid ((hb.block w.heap.size (by have := hs1.out; simp; omega)).trans (HA2.out _))
  have hmem : Hid (Sl w2 mv (m.mem.map (Value.int .i64))) := Sl.own hown
  have hlo := own_ne hown w.heap.size (by have := hs1.out; simp; omega)
  obtain ⟨am2, cm2, hmv⟩ := hmem.out.len
  rw [List.length_map] at hmv
  subst hmv
  have hln := halt_len' (st := s) (mv := (.slice am2 m.mem.length cm2)) HRL.out
  have hst := store_all (P := Try.prog) w2 w.heap.size 26 H0 (Rs.halt s m (.slice am2 m.mem.length cm2)) HA3.out (by rw [hln]; exact hz0.out) (halt_one' rfl)
  have HLO := Lib.hid hlo
  have HOWN := Lib.hid hown
  clear hlo hown hb
  go_wp2_with fail
  have hlr : ((Rs.halt s m (.slice am2 m.mem.length cm2)).toArray).size = 38 := by rw [List.size_toArray]; exact hln
  refine bodyPost_ret (res2 rfl _ _ w.heap.size 26 _ (0, 0) rfl (setRow_heap _ _ _ _ _ _ HA3.out) haltDS (by rw [hlr]; exact haltSize)) rfl ?_
  exact ⟨am2, cm2, rfl, Sl.own (own_same HOWN.out fun b e => setRow_other _ _ _ _ fun eb => HLO.out (by rw [e, eb])), HRL.out, below_setRow HB3.out (Nat.le_refl _) _⟩
end Sg
end Go.Proofs.Ytdmfogmgjmdaeaa
namespace Go.Proofs.Ytdmfogmgjmdaeaa
open Go.RowKit
set_option linter.unusedVariables false
set_option linter.unusedSimpArgs false
set_option maxRecDepth 100000
namespace Sg
open As
def mine (n : Int) : Bool := (decide (2000 ≤ n) && decide (n ≤ 2999)) || (decide (2 ≤ n) && decide (n ≤ 9)) || (decide (11 ≤ n) && decide (n ≤ 26))
def okIt (x : It) : Bool := !((decide (x.kind = 1) && !mine x.label) || (names x && !mine x.label && decide (x.label ≠ 1) && decide (x.label ≠ 10)))
set_option maxHeartbeats 16000000 in
theorem own_any (v : Value) (x0 : It) (l : List It) (w : World) (h : ISrc w v (x0 :: l)) (h0 : x0 = lab 9) (hok : ∀ x ∈ x0 :: l, okIt x = true) (hn : (x0 :: l).length ≤ 65536) :
    Calls Try.prog 15 #[v] w fun e w' => e = .returned (.bool true) ∧ Below w.heap.size w w' := by
  obtain ⟨a, c, rfl, hl, -⟩ := h
  obtain ⟨b, off, rfl, hlt, hat⟩ := hl.at (by simp)
  have HLT : Hid (b < w.heap.size) := hlt
  have HL := Lib.hid hl
  have HAT := Lib.hid hat
  have HOK := Lib.hid hok
  subst h0
  obtain ⟨s0, s1, s2, s3, s4, s5, s6, s7⟩ := hat 0 _ rfl
  simp only [Nat.zero_mul, Nat.add_zero, lab] at s0 s1 s2 s3 s4 s5 s6 s7
  have hlen : (0 : Int) < ((lab 9 :: l).length : Nat) := by simp
  have hlenN : (0 : Nat) < (lab 9 :: l).length := by simp
  have hq : (((lab 9 :: l).length : Int) == 0) = false := by rw [beq_eq_false_iff_ne]; simp; omega
  have hne : ((lab 9 :: l).length : Int) ≠ 0 := by omega
  generalize hLL : (lab 9 :: l) = L at *
  generalize hn0 : L.length = n at *
  clear hl hat hok hlt
  go_enter Try.func15, Try.ntmps15
  go_upto_region 1 with fail
  go_region_held3 (fun w' => w'.cell? ⟨b, off, none⟩ = some (.int .i64 1) ∧ w'.cell? ⟨b, off + 1, none⟩ = some (.int .i64 0) ∧ w'.cell? ⟨b, off + 2, none⟩ = some (.int .i64 0) ∧ w'.cell? ⟨b, off + 3, none⟩ = some (.int .i64 0) ∧ w'.cell? ⟨b, off + 4, none⟩ = some (.int .i64 0) ∧ w'.cell? ⟨b, off + 5, none⟩ = some (.int .i64 0) ∧ w'.cell? ⟨b, off + 6, none⟩ = some (.int .i64 9) ∧ w'.cell? ⟨b, off + 7, none⟩ = some (.int .i64 0)) (first | go_keep | exact ⟨(hb.cell (p := ⟨b, off, none⟩) HLT.out).trans s0, (hb.cell (p := ⟨b, off + 1, none⟩) HLT.out).trans s1, (hb.cell (p := ⟨b, off + 2, none⟩) HLT.out).trans s2, (hb.cell (p := ⟨b, off + 3, none⟩) HLT.out).trans s3, (hb.cell (p := ⟨b, off + 4, none⟩) HLT.out).trans s4, (hb.cell (p := ⟨b, off + 5, none⟩) HLT.out).trans s5, (hb.cell (p := ⟨b, off + 6, none⟩) HLT.out).trans s6, (hb.cell (p := ⟨b, off + 7, none⟩) HLT.out).trans s7⟩) (first
    | (go_at_call 10; with_reducible refine (rL_any 9 _).mono ?_; rintro e w1 ⟨rfl, hb⟩))
  have HB1 := Lib.hid (((Below.refl w.heap.size w).drew).trans hb)
  clear hb s0 s1 s2 s3 s4 s5 s6 s7 hq hne hlen hlenN
  go_wp2_with fail
  go_loopg [3] n (fun g s wx => ∃ (k : Nat), k ≤ n ∧ g = n - k ∧ s = .int .i64 (k : Nat) ∧ Hid (Below w.heap.size w wx))
  case atStart => exact ⟨0, by omega, rfl, rfl, HB1⟩
  case round =>
    obtain ⟨k, hk, rfl, rfl, HB⟩ := hrel
    by_cases hlt : k < n
    · have g1 : (k : Int) < (n : Int) := by omega
      have g0 : (0 : Int) ≤ (k : Int) := by omega
      have g4 : IntKind.i64.wrap ((k : Int) + 1) = (k : Int) + 1 := by rw [IntKind.wrap_i64]; omega
      obtain ⟨x, hx⟩ : ∃ x, L[k]? = some x := ⟨_, List.getElem?_eq_getElem (by omega)⟩
      have HX := Lib.hid (HOK.out x (List.mem_of_getElem? hx))
      obtain ⟨e0, e1, e2, e3, e4, e5, e6, e7⟩ := (HAT.out k x hx).of (w' := wr) (fun j => HB.out.cell (p := ⟨b, j, none⟩) HLT.out)
      obtain ⟨kd, op, a0, b0, c0, nn, la, nu⟩ := x
      dsimp only at e0 e1 e2 e3 e4 e5 e6 e7
      have hx1 : kd = 1 → (2000 ≤ la ∧ la ≤ 2999) ∨ (2 ≤ la ∧ la ≤ 9) ∨ (11 ≤ la ∧ la ≤ 26) := by
        intro e
        have h := HX.out
        simp [okIt, mine, e] at h
        omega
      obtain ⟨r, hr⟩ : ∃ r, names ⟨kd, op, a0, b0, c0, nn, la, nu⟩ = r := ⟨_, rfl⟩
      have hx2 : r = true → (2000 ≤ la ∧ la ≤ 2999) ∨ (2 ≤ la ∧ la ≤ 9) ∨ (11 ≤ la ∧ la ≤ 26) ∨ la = 1 ∨ la = 10 := by
        intro e
        have h := HX.out
        simp [okIt, mine, hr, e] at h
        omega
      have HNA : Hid (∀ W, Calls Try.prog 37 #[.agg #[.int .i64 kd, .int .i64 op, .int .i64 a0, .int .i64 b0, .int .i64 c0, .int .i64 nn, .int .i64 la, .int .i64 nu]] W fun e w' => e = .returned (.bool r) ∧ Below W.heap.size W w') := fun W => by rw [← hr]; exact names_any ⟨kd, op, a0, b0, c0, nn, la, nu⟩ W
      clear hr HX hx
      go_cut [3] from 16 to 77 (fun s3 wx => s3 = .int .i64 ((k : Int) + 1) ∧ Hid (Below w.heap.size w wx))
      case first =>
        by_cases p1 : 2000 ≤ la <;> by_cases p2 : la ≤ 2999 <;> by_cases p3 : 2 ≤ la <;> by_cases p4 : la ≤ 9 <;> by_cases p5 : 11 ≤ la <;> by_cases p6 : la ≤ 26 <;> (try (exfalso; omega)) <;> by_cases p7 : la = 1 <;> by_cases p8 : la = 10 <;> (try (exfalso; omega)) <;> by_cases p9 : kd = 1 <;> cases r <;> (try have hx2 := hx2 rfl) <;> (try (exfalso; omega))
        all_goals
          try subst p9
          try subst p7
          try subst p8
          go_wp2_with (first | (go_at_call 37; (with_reducible refine (HNA.out _).mono ?_); rintro e w2 ⟨rfl, hb⟩; have HB2 := Lib.hid (HB.out.trans (hb.mono HB.out.size)); clear hb) | fail)
          go_meet
          case rel => exact ⟨by go_num, HB2⟩
      case rest =>
        obtain ⟨rfl, HB3⟩ := hcut
        go_wp2_with fail
        go_roundg (n - (k + 1))
        case measure => omega
        case rel => exact ⟨k + 1, by omega, rfl, by go_num, HB3⟩
    · obtain rfl : k = n := by omega
      clear hk hlt
      go_wp2_with fail
      go_ret
      exact ⟨rfl, HB.out⟩
end Sg
end Go.Proofs.Ytdmfogmgjmdaeaa
namespace Go.Proofs.Ytdmfogmgjmdaeaa
open Go.RowKit
set_option linter.unusedVariables false
set_option linter.unusedSimpArgs false
set_option maxRecDepth 100000
namespace Sg
open As
def fixL : List It := [lab 10, jmp 0 4]
theorem fix_err : As.err (rtL ++ gcL ++ fixL) = 0 := by kernel_rfl
theorem fix_ran : (ran (rtL ++ gcL ++ fixL) 10 10 0).2 = 0 ∧ (ran (rtL ++ gcL ++ fixL) 10 10 0).1.value = 0 := by
  have h : (fun r : Rs.M × Int => (r.2, r.1.value)) (ran (rtL ++ gcL ++ fixL) 10 10 0) = (0, 0) := by kernel_rfl
  exact ⟨congrArg Prod.fst h, congrArg Prod.snd h⟩
theorem rt_ok : ∃ l, rtL = lab 9 :: l := by
  have h : rtL.head? = some (lab 9) := by kernel_rfl
  cases hl : rtL with
  | nil => rw [hl] at h; cases h
  | cons x l => rw [hl] at h; cases h; exact ⟨l, rfl⟩
theorem rt_all : ∀ x ∈ rtL, okIt x = true := by
  have h : rtL.all okIt = true := by kernel_rfl
  exact List.all_eq_true.1 h
theorem rt_len : rtL.length ≤ 1000 := by
  have h : decide (rtL.length ≤ 1000) = true := by kernel_rfl
  exact of_decide_eq_true h
theorem gc_len : gcL.length ≤ 1000 := by
  have h : decide (gcL.length ≤ 1000) = true := by kernel_rfl
  exact of_decide_eq_true h
theorem lit_src (w : World) (l : List It) (hm : l.length ≤ maxLen) : ISrc (w.alloc (.cells (flat l).toArray 34)) (.slice (some ⟨w.heap.size, 0, none⟩) l.length l.length) l := by
  refine ISrc.own (B := 0) ?_
  have h := World.ownsRow_lit (base := 0) (e := 34) (size := 8) w (flat l).toArray l.length (Nat.zero_le _) hm (by simp [flat_length])
  simpa using h
set_option maxHeartbeats 16000000 in
theorem fixed_any23 (w : World) : Calls Try.prog 6 #[] w fun e w' => e = .returned (.bool true) ∧ Below w.heap.size w w' := by
  have HRUN : Hid (∀ (v1 v2 v3 : Value) (W : World), ISrc W v1 rtL → ISrc W v2 gcL → ISrc W v3 fixL → Calls Try.prog 7 #[v1, v2, v3, .int .i64 10, .int .i64 10, .int .i64 0] W (RunPost (rtL ++ gcL ++ fixL) 10 10 0 W)) := fun v1 v2 v3 W h1 h2 h3 =>
    rRun_any v1 v2 v3 rtL gcL fixL 10 10 0 W h1 h2 h3 (by have := rt_len; have := gc_len; simp [fixL]; omega) fix_err (by omega) (by unfold Rs.InR; omega)
  have HOWN : Hid (∀ (v : Value) (W : World), ISrc W v rtL → Calls Try.prog 15 #[v] W fun e w' => e = .returned (.bool true) ∧ Below W.heap.size W w') := fun v W h => by
    obtain ⟨l, hl⟩ := rt_ok
    rw [hl] at h
    exact own_any v (lab 9) l W h rfl (by rw [← hl]; exact rt_all) (by rw [← hl]; have := rt_len; omega)
  obtain ⟨f1, f2⟩ := fix_ran
  unfold RunPost at HRUN
  generalize hrr : ran (rtL ++ gcL ++ fixL) 10 10 0 = R at HRUN f1 f2
  clear hrr
  obtain ⟨m, s⟩ := R
  dsimp only at HRUN f1 f2
  subst f1
  go_enter Try.func6, Try.ntmps6
  go_wp2_with fail
  with_reducible refine (rt_Code _).mono ?_
  rintro e w1 ⟨v1, rfl, ho1, hb1⟩
  have H1 := Lib.hid (ISrc.own ho1)
  have HB1 := Lib.hid hb1
  clear ho1 hb1
  go_wp2_with fail
  with_reducible refine (gc_Code _).mono ?_
  rintro e w2 ⟨v2, rfl, ho2, hb2⟩
  have H2 := Lib.hid (ISrc.own ho2)
  have H12 := Lib.hid (H1.out.below hb2 (Nat.le_refl _))
  have HB2 := Lib.hid (HB1.out.trans (hb2.mono HB1.out.size))
  clear ho2 hb2
  go_wp2_with fail
  with_reducible refine (rL_any 10 _).mono ?_
  rintro e w3 ⟨rfl, hb3⟩
  have H13 := Lib.hid (H12.out.below hb3 (Nat.le_refl _))
  have H23 := Lib.hid (H2.out.below hb3 (Nat.le_refl _))
  have HB3 := Lib.hid (HB2.out.trans (hb3.mono HB2.out.size))
  clear hb3
  go_wp2_with fail
  with_reducible refine (rJ_any 0 4 _).mono ?_
  rintro e w4 ⟨rfl, hb4⟩
  have H14 := Lib.hid (H13.out.below hb4 (Nat.le_refl _))
  have H24 := Lib.hid (H23.out.below hb4 (Nat.le_refl _))
  have HB4 := Lib.hid (HB3.out.trans (hb4.mono HB3.out.size))
  clear hb4 H1 H12 H13 H2 H23 HB1 HB2 HB3
  have H3 : Hid (ISrc (w4.alloc (.cells #[.int .i64 1, .int .i64 0, .int .i64 0, .int .i64 0, .int .i64 0, .int .i64 0, .int .i64 10, .int .i64 0, .int .i64 3, .int .i64 28, .int .i64 0, .int .i64 0, .int .i64 0, .int .i64 0, .int .i64 4, .int .i64 0] 34)) (.slice (some ⟨w4.heap.size, 0, none⟩) 2 2) fixL) := lit_src w4 fixL (by decide)
  have H15 := Lib.hid (H14.out.below ((Below.refl w4.heap.size w4).alloc (Nat.le_refl _) (.cells #[.int .i64 1, .int .i64 0, .int .i64 0, .int .i64 0, .int .i64 0, .int .i64 0, .int .i64 10, .int .i64 0, .int .i64 3, .int .i64 28, .int .i64 0, .int .i64 0, .int .i64 0, .int .i64 0, .int .i64 4, .int .i64 0] 34)) (Nat.le_refl _))
  have H25 := Lib.hid (H24.out.below ((Below.refl w4.heap.size w4).alloc (Nat.le_refl _) (.cells #[.int .i64 1, .int .i64 0, .int .i64 0, .int .i64 0, .int .i64 0, .int .i64 0, .int .i64 10, .int .i64 0, .int .i64 3, .int .i64 28, .int .i64 0, .int .i64 0, .int .i64 0, .int .i64 0, .int .i64 4, .int .i64 0] 34)) (Nat.le_refl _))
  have HB5 := Lib.hid (HB4.out.alloc HB4.out.size (.cells #[.int .i64 1, .int .i64 0, .int .i64 0, .int .i64 0, .int .i64 0, .int .i64 0, .int .i64 10, .int .i64 0, .int .i64 3, .int .i64 28, .int .i64 0, .int .i64 0, .int .i64 0, .int .i64 0, .int .i64 4, .int .i64 0] 34))
  go_wp2_with fail
  with_reducible refine (HRUN.out _ _ _ _ H15.out H25.out H3.out).mono ?_
  rintro e w5 ⟨a5, c5, rfl, hsl, hrl, hb5⟩
  have HB6 := Lib.hid (HB5.out.trans (hb5.mono HB5.out.size))
  have H16 := Lib.hid (H15.out.below hb5 (Nat.le_refl _))
  have hst := halt_store w5 0 m (.slice a5 m.mem.length c5) hrl rfl
  have hln := halt_len' (st := 0) (mv := (.slice a5 m.mem.length c5)) hrl
  have A1 : Hid (HaltAt (w5.alloc (.cells (Rs.halt 0 m (.slice a5 m.mem.length c5)).toArray 26)) w5.heap.size 0 m (.slice a5 m.mem.length c5)) := HaltAt.new w5 hrl
  have H17 := Lib.hid (H16.out.below ((Below.refl w5.heap.size w5).alloc (Nat.le_refl _) (.cells (Rs.halt 0 m (.slice a5 m.mem.length c5)).toArray 26)) (Nat.le_refl _))
  have HB7 := Lib.hid (HB6.out.alloc HB6.out.size (.cells (Rs.halt 0 m (.slice a5 m.mem.length c5)).toArray 26))
  clear hsl hb5 hrl
  go_upto_region 3 with fail
  clear hst hln
  have a0 := A1.out.c0
  have a1 := A1.out.c1
  rw [f2] at a1
  generalize w5.alloc (.cells (Rs.halt 0 m (.slice a5 m.mem.length c5)).toArray 26) = w6 at A1 a0 a1 H17 HB7 ⊢
  go_wp2_with fail
  with_reducible refine (HOWN.out _ _ H17.out).mono ?_
  rintro e w7 ⟨rfl, hb7⟩
  have HB8 := Lib.hid (HB7.out.trans (hb7.mono HB7.out.size))
  clear hb7
  go_wp2_with fail
  go_ret
  exact ⟨rfl, HB8.out⟩
end Sg
end Go.Proofs.Ytdmfogmgjmdaeaa
namespace Go.Proofs.Ytdmfogmgjmdaeaa
open Go.RowKit
set_option linter.unusedVariables false
set_option linter.unusedSimpArgs false
set_option maxRecDepth 100000
namespace Sg
open As Ab
def startP : List It := [lab 10, wth 0 28 0 0]
def needP (n : Int) : List It := [lab 10, nmb 26 n, jmp 31 2, wth 0 0 0 0]
def sk (x : It) : (Int → Bool) × Int × (Bool → Nat) × Bool := (isLabel x, x.label, size x, decide (x.kind = 2))
theorem find_sk (k : Int) : ∀ {l l' : List It}, l.map sk = l'.map sk → find k l = find k l'
  | [], [], _ => rfl
  | [], _ :: _, h => by simp at h
  | _ :: _, [], h => by simp at h
  | x :: l, y :: l', h => by
    simp only [List.map_cons, List.cons.injEq] at h
    have h1 : isLabel x = isLabel y := congrArg (fun t => t.1) h.1
    unfold find
    rw [h1, find_sk k h.2]
theorem places_sk : ∀ {l l' : List It}, l.map sk = l'.map sk → ∀ (bs : List Bool) (k : Nat), places l bs k = places l' bs k
  | [], [], _, _, _ => rfl
  | [], _ :: _, h, _, _ => by simp at h
  | _ :: _, [], h, _, _ => by simp at h
  | x :: l, y :: l', h, [], k => rfl
  | x :: l, y :: l', h, b :: bs, k => by
    simp only [List.map_cons, List.cons.injEq] at h
    have h1 : size x = size y := congrArg (fun t => t.2.2.1) h.1
    unfold places
    rw [h1, places_sk h.2]
theorem far_sk {all all' : List It} (ha : all.map sk = all'.map sk) (ps : List Nat) {x y : It} (h : x.label = y.label) (p : Nat) : far all ps x p = far all' ps y p := by
  unfold far
  rw [h, find_sk _ ha]
theorem grow_sk {all all' : List It} (ha : all.map sk = all'.map sk) (ps : List Nat) : ∀ {l l' : List It}, l.map sk = l'.map sk → ∀ (bs : List Bool) (qs : List Nat), grow all ps l bs qs = grow all' ps l' bs qs
  | [], [], _, _, _ => rfl
  | [], _ :: _, h, _, _ => by simp at h
  | _ :: _, [], h, _, _ => by simp at h
  | x :: l, y :: l', h, [], qs => rfl
  | x :: l, y :: l', h, b :: bs, [] => rfl
  | x :: l, y :: l', h, b :: bs, q :: qs => by
    simp only [List.map_cons, List.cons.injEq] at h
    have h1 : x.label = y.label := congrArg (fun t => t.2.1) h.1
    have h2 : decide (x.kind = 2) = decide (y.kind = 2) := congrArg (fun t => t.2.2.2) h.1
    unfold grow stretch
    rw [far_sk ha ps h1, h2, grow_sk ha ps h.2]
theorem layout_sk {l l' : List It} (h : l.map sk = l'.map sk) : ∀ (k : Nat) (bs : List Bool), layout l k bs = layout l' k bs
  | 0, bs => rfl
  | k + 1, bs => by
    unfold layout
    rw [places_sk h, grow_sk h _ h, layout_sk h k]
theorem write_all {all all' : List It} (ha : all.map sk = all'.map sk) (ps : List Nat) : ∀ (l : List It) (bs : List Bool) (qs : List Nat), write all ps l bs qs = write all' ps l bs qs
  | [], _, _ => rfl
  | x :: l, [], qs => rfl
  | x :: l, b :: bs, [] => rfl
  | x :: l, b :: bs, q :: qs => by
    unfold write
    rw [far_sk ha ps rfl, write_all ha ps l]
theorem write_one (all : List It) (ps : List Nat) {x y : It} {u v : Int} (hx : ∀ b p f, words x b p f = [u]) (hy : ∀ b p f, words y b p f = [v]) (C : List It) : ∀ (A : List It) (bs : List Bool) (qs : List Nat), write all ps (A ++ y :: C) bs qs = (write all ps (A ++ x :: C) bs qs).set (write all ps A bs qs).length v
  | [], [], qs => rfl
  | [], b :: bs, [] => rfl
  | [], b :: bs, q :: qs => by
    show words y b q _ ++ _ = (words x b q _ ++ write all ps C bs qs).set 0 v
    rw [hx, hy]
    rfl
  | a :: A, [], qs => rfl
  | a :: A, b :: bs, [] => rfl
  | a :: A, b :: bs, q :: qs => by
    show words a b q _ ++ write all ps (A ++ y :: C) bs qs = (words a b q _ ++ write all ps (A ++ x :: C) bs qs).set (words a b q _ ++ write all ps A bs qs).length v
    rw [write_one all ps hx hy C A, List.length_append, List.set_append_right _ _ (by omega), Nat.add_sub_cancel_left]
def needA : List It := rtL ++ gcL ++ [lab 10]
theorem need_split (n : Int) : rtL ++ gcL ++ needP n = needA ++ nmb 26 n :: [jmp 31 2, wth 0 0 0 0] := by
  unfold needA needP
  simp only [List.append_assoc, List.cons_append, List.nil_append]
theorem need_words {n : Int} (h0 : -32768 ≤ n) (h1 : n ≤ 32767) (b : Bool) (p : Nat) (f : Int) : words (nmb 26 n) b p f = [Rs.encW 20 26 0 0 n] := by
  have hp : pieces n = 1 := if_pos ⟨h0, h1⟩
  show number 26 n (pieces n) = [Rs.encW 20 26 0 0 n]
  rw [hp]
  show [Rs.encW 20 26 0 0 ((n / 2 ^ (16 * (1 - 1)) + 32768) % 65536 - 32768)] = _
  rw [show (2 : Int) ^ (16 * (1 - 1)) = 1 from rfl, Int.ediv_one, show (n + 32768) % 65536 - 32768 = n by omega]
theorem need_at : (write (rtL ++ gcL ++ needP 0) (places0 (rtL ++ gcL ++ needP 0)) needA (longs (rtL ++ gcL ++ needP 0)) (places0 (rtL ++ gcL ++ needP 0))).length = 269 := by kernel_rfl
theorem need_code {n : Int} (h0 : -32768 ≤ n) (h1 : n ≤ 32767) : As.code (rtL ++ gcL ++ needP n) = (As.code (rtL ++ gcL ++ needP 0)).set 269 (Rs.encW 20 26 0 0 n) := by
  have hp : pieces n = 1 := if_pos ⟨h0, h1⟩
  have e : sk (nmb 26 n) = sk (nmb 26 0) := by
    unfold sk
    have e2 : size (nmb 26 n) = size (nmb 26 0) := by
      funext b
      show pieces n = 1
      exact hp
    rw [e2]
    rfl
  have hs : (rtL ++ gcL ++ needP n).map sk = (rtL ++ gcL ++ needP 0).map sk := by
    unfold needP
    simp only [List.map_append, List.map_cons, List.map_nil, e]
  have hl : (rtL ++ gcL ++ needP n).length = (rtL ++ gcL ++ needP 0).length := by simpa using congrArg List.length hs
  have h269 := need_at
  unfold As.code places0 longs at *
  rw [layout_sk hs, hl, places_sk hs, write_all hs]
  generalize layout (rtL ++ gcL ++ needP 0) ((rtL ++ gcL ++ needP 0).length + 1) (List.replicate (rtL ++ gcL ++ needP 0).length false) = bs at h269 ⊢
  generalize places (rtL ++ gcL ++ needP 0) bs 0 = ps at h269 ⊢
  generalize hall : rtL ++ gcL ++ needP 0 = all at h269 ⊢
  rw [need_split n]
  have := write_one all ps (need_words (n := 0) (by omega) (by omega)) (need_words h0 h1) [jmp 31 2, wth 0 0 0 0] needA bs ps
  rw [h269] at this
  rw [this, ← need_split 0, hall]
theorem need_err (n : Int) : As.err (rtL ++ gcL ++ needP n) = 0 := by kernel_rfl
def memF (low size : F) : List (F × F) := [(⟨31, 0, 0⟩, addF low (mulF size 2)), (⟨30, 0, 0⟩, addF low size), (⟨29, 0, 0⟩, addF low size), (⟨28, 0, 0⟩, low)]
def start0 (low size : F) : S := ⟨0, List.replicate 32 zeroF, memF low size⟩
def needS : S := ⟨271, [⟨0, 0, 0⟩, ⟨0, 0, 0⟩, ⟨0, 0, 0⟩, ⟨0, 0, 0⟩, ⟨0, 0, 0⟩, ⟨0, 0, 0⟩, ⟨0, 0, 0⟩, ⟨0, 0, 0⟩, ⟨0, 0, 0⟩, ⟨0, 0, 0⟩, ⟨0, 0, 0⟩, ⟨0, 0, 0⟩, ⟨0, 0, 0⟩, ⟨0, 0, 0⟩, ⟨0, 0, 0⟩, ⟨0, 0, 0⟩, ⟨0, 0, 0⟩, ⟨0, 0, 0⟩, ⟨0, 0, 0⟩, ⟨0, 0, 0⟩, ⟨0, 0, 0⟩, ⟨0, 0, 0⟩, ⟨0, 0, 0⟩, ⟨0, 0, 0⟩, ⟨0, 0, 0⟩, ⟨417, 0, 0⟩, ⟨0, 1, 0⟩, ⟨54, 1, 0⟩, ⟨54, 1, 1⟩, ⟨54, 0, 0⟩, ⟨33, 0, 0⟩, ⟨271, 0, 0⟩], [(⟨53, 0, 0⟩, ⟨2152, 0, 0⟩), (⟨52, 0, 0⟩, ⟨111, 0, 0⟩), (⟨26, 0, 0⟩, ⟨18, 0, 0⟩), (⟨25, 0, 0⟩, ⟨18, 0, 0⟩), (⟨32, 0, 0⟩, ⟨2916352, 0, 0⟩), (⟨31, 0, 0⟩, ⟨56, 2, 2⟩), (⟨30, 0, 0⟩, ⟨54, 1, 1⟩), (⟨29, 0, 0⟩, ⟨54, 1, 1⟩), (⟨28, 0, 0⟩, ⟨52, 0, 0⟩)]⟩
theorem need_run : Ab.run ⟨0, 998, 0, 998⟩ ⟨57, 2, 2⟩ (((As.code (rtL ++ gcL ++ needP 0)).map decI).set 269 (some ⟨20, 26, 0, 0, ⟨0, 1, 0⟩⟩)) 300000 (start0 ⟨52, 0, 0⟩ ⟨2, 1, 1⟩) = some (needS, ⟨0, 0, 0⟩) := by kernel_rfl
theorem need_none : (Ab.run ⟨2, 1000, 0, 1000⟩ ⟨53, 2, 0⟩ (((As.code (rtL ++ gcL ++ needP 0)).map decI).set 269 (some ⟨20, 26, 0, 0, ⟨-1, 1, 1⟩⟩)) 300000 (start0 ⟨52, 0, 0⟩ ⟨0, 1, 0⟩)).map Prod.snd = some ⟨95, 0, 0⟩ := by kernel_rfl
end Sg
end Go.Proofs.Ytdmfogmgjmdaeaa
namespace Go.Proofs.Ytdmfogmgjmdaeaa
open Go.RowKit
set_option linter.unusedVariables false
set_option linter.unusedSimpArgs false
set_option maxRecDepth 100000
namespace Sg
open As Ab
theorem mem0_get (st sz : Nat) (i : Nat) (hi : i < 33 + st + 2 * sz) : (mem0 st sz 0).getD i 0 = if i = 31 then (32 + st + 2 * sz : Int) else if i = 30 then (32 + st + sz : Int) else if i = 29 then (32 + st + sz : Int) else if i = 28 then (32 + st : Int) else 0 := by
  unfold mem0
  rw [List.getD_eq_getElem?_getD]
  simp only [List.getElem?_set, List.length_set, List.length_replicate, List.getElem?_replicate]
  by_cases h1 : 32 + st + 2 * sz = i
  · subst h1
    rw [if_pos rfl, if_pos hi, Option.getD_some]
    by_cases h2 : 32 + st + 2 * sz = 31
    · omega
    · rw [if_neg h2, if_neg (by omega), if_neg (by omega), if_neg (by omega)]
  · rw [if_neg h1]
    by_cases h2 : i = 31
    · subst h2; rw [if_pos rfl, if_pos hi, if_pos rfl]; rfl
    · rw [if_neg (fun h => h2 h.symm), if_neg h2]
      by_cases h3 : i = 30
      · subst h3; rw [if_pos rfl, if_pos hi, if_pos rfl]; rfl
      · rw [if_neg (fun h => h3 h.symm), if_neg h3]
        by_cases h4 : i = 29
        · subst h4; rw [if_pos rfl, if_pos hi, if_pos rfl]; rfl
        · rw [if_neg (fun h => h4 h.symm), if_neg h4]
          by_cases h5 : i = 28
          · subst h5; rw [if_pos rfl, if_pos hi, if_pos rfl]; rfl
          · rw [if_neg (fun h => h5 h.symm), if_neg h5, if_pos hi]; rfl
theorem start_mem (st sz : Nat) : (Rs.start (mem0 st sz 0) (33 + (st : Int) + 2 * (sz : Int)) []).mem = mem0 st sz 0 := by
  unfold Rs.start
  dsimp only
  rw [mem0_length, show (33 + (st : Int) + 2 * (sz : Int)).toNat - (33 + st + 2 * sz) = 0 by omega]
  simp
theorem start_rel {u v : Int} {st sz : Nat} {low size L : F} (hl : low.ev u v = 32 + st) (hs : size.ev u v = sz) (hL : L.ev u v = 33 + st + 2 * sz) : Rel u v L (start0 low size) (Rs.start (mem0 st sz 0) (33 + (st : Int) + 2 * (sz : Int)) []) := by
  refine ⟨rfl, ?_, by rw [start_mem, mem0_length, hL]; omega, ?_⟩
  · show List.replicate 32 0 = (List.replicate 32 zeroF).map _
    rw [List.map_replicate, zero_ev]
  · rw [start_mem]
    intro i hi
    rw [mem0_length] at hi
    rw [mem0_get st sz i hi]
    have c1 : (⟨31, 0, 0⟩ : F).ev u v = 31 := con_at u v rfl
    have c2 : (⟨30, 0, 0⟩ : F).ev u v = 30 := con_at u v rfl
    have c3 : (⟨29, 0, 0⟩ : F).ev u v = 29 := con_at u v rfl
    have c4 : (⟨28, 0, 0⟩ : F).ev u v = 28 := con_at u v rfl
    unfold start0 memF
    dsimp only
    simp only [Ab.look, ev_add, ev_mul, hl, hs, c1, c2, c3, c4]
    repeat' split
    all_goals omega
theorem runI_go {code : List Int} {st sz : Nat} (hc : code.length ≤ 1048576) (hq : 33 + st + 2 * sz ≤ 1048576) : Rs.runI code (mem0 st sz 0) (33 + (st : Int) + 2 * (sz : Int)) [] 300000 = Rs.go code 300000 (Rs.start (mem0 st sz 0) (33 + (st : Int) + 2 * (sz : Int)) []) := by
  unfold Rs.runI
  rw [if_neg (by unfold Rs.noImage; rw [mem0_length]; omega)]
  rfl
theorem need_len0 : (As.code (rtL ++ gcL ++ needP 0)).length = 272 := by kernel_rfl
theorem needs_ok (n sz : Nat) (h1 : n + 2 ≤ sz) (h2 : sz ≤ 1000) : ∃ m, ran (rtL ++ gcL ++ needP n) 20 sz 0 = (m, 0) ∧ m.value = 0 ∧ m.regs = List.replicate 25 0 ++ [417, (n : Int), 54 + (n : Int), 52 + (sz : Int), 54, 33, 271] ∧ m.mem.length = 53 + 2 * sz ∧ m.mem.getD 28 0 = 52 := by
  obtain ⟨k, rfl⟩ : ∃ k, sz = n + 2 + k := ⟨sz - n - 2, by omega⟩
  have hB : Bx.has ⟨0, 998, 0, 998⟩ (n : Int) (k : Int) := ⟨⟨by show (0 : Int) ≤ _; omega, by show (_ : Int) ≤ 998; omega⟩, by show (0 : Int) ≤ _; omega, by show (_ : Int) ≤ 998; omega⟩
  have hL : (⟨57, 2, 2⟩ : F).ev (n : Int) (k : Int) = 33 + (20 : Nat) + 2 * ((n + 2 + k : Nat) : Int) := by unfold F.ev; dsimp only; omega
  have hr := start_rel (u := n) (v := k) (st := 20) (sz := n + 2 + k) (low := ⟨52, 0, 0⟩) (size := ⟨2, 1, 1⟩) (L := ⟨57, 2, 2⟩) (by unfold F.ev; dsimp only; omega) (by unfold F.ev; dsimp only; omega) hL
  have hbad : ¬ Rs.Bad 20 26 0 0 (n : Int) := by
    have e : Rs.Bad 20 26 0 0 (n : Int) ↔ ((n : Int) < -32768 ∨ 32767 < (n : Int)) := by
      unfold Rs.Bad
      simp [Rs.isReg, Rs.form, Rs.least, Rs.most]
    rw [e]
    omega
  have hcr := codeRel_set (codeRel_dec (n : Int) (k : Int) (As.code (rtL ++ gcL ++ needP 0))) 269 (f := ⟨0, 1, 0⟩) hbad (by unfold F.ev; dsimp only; omega)
  rw [← need_code (by omega) (by omega)] at hcr
  obtain ⟨m, a1, a2, a3⟩ := run_at hB hcr 300000 hr need_run
  have hlen := a2.len
  rw [hL] at hlen
  refine ⟨m, ?_, ?_, ?_, by omega, ?_⟩
  · unfold ran
    rw [runI_go (by rw [need_code (by omega) (by omega), List.length_set, need_len0]; omega) (by omega), a1]
  · rw [a3]; unfold F.ev; simp
  · rw [a2.regs]
    unfold needS
    have e1 : 54 + (n : Int) + (k : Int) = 52 + ((n + 2 + k : Nat) : Int) := by omega
    simp only [List.map_cons, List.map_nil, F.ev, List.replicate, List.cons_append, List.nil_append, Int.zero_mul, Int.add_zero, Int.one_mul, Int.zero_add, e1]
  · rw [a2.mem _ (by omega)]
    unfold needS
    simp only [Ab.look, F.ev]
    repeat' split
    all_goals omega
theorem needs_none (n sz : Nat) (h1 : sz < n + 2) (h2 : 2 ≤ sz) (h3 : sz ≤ 1000) (h4 : n ≤ 1000) : ∃ m, ran (rtL ++ gcL ++ needP n) 20 sz 0 = (m, 0) ∧ m.value = 95 := by
  obtain ⟨k, rfl⟩ : ∃ k, n = sz - 1 + k := ⟨n - (sz - 1), by omega⟩
  have hB : Bx.has ⟨2, 1000, 0, 1000⟩ (sz : Int) (k : Int) := ⟨⟨by show (2 : Int) ≤ _; omega, by show (_ : Int) ≤ 1000; omega⟩, by show (0 : Int) ≤ _; omega, by show (_ : Int) ≤ 1000; omega⟩
  have hL : (⟨53, 2, 0⟩ : F).ev (sz : Int) (k : Int) = 33 + (20 : Nat) + 2 * (sz : Int) := by unfold F.ev; dsimp only; omega
  have hr := start_rel (u := sz) (v := k) (st := 20) (sz := sz) (low := ⟨52, 0, 0⟩) (size := ⟨0, 1, 0⟩) (L := ⟨53, 2, 0⟩) (by unfold F.ev; dsimp only; omega) (by unfold F.ev; dsimp only; omega) hL
  have hbad : ¬ Rs.Bad 20 26 0 0 ((sz - 1 + k : Nat) : Int) := by
    have e : Rs.Bad 20 26 0 0 ((sz - 1 + k : Nat) : Int) ↔ (((sz - 1 + k : Nat) : Int) < -32768 ∨ 32767 < ((sz - 1 + k : Nat) : Int)) := by
      unfold Rs.Bad
      simp [Rs.isReg, Rs.form, Rs.least, Rs.most]
    rw [e]
    omega
  have hcr := codeRel_set (codeRel_dec (sz : Int) (k : Int) (As.code (rtL ++ gcL ++ needP 0))) 269 (f := ⟨-1, 1, 1⟩) hbad (by unfold F.ev; dsimp only; omega)
  rw [← need_code (by omega) (by omega)] at hcr
  obtain ⟨⟨s, x⟩, hx, hv⟩ := Option.map_eq_some_iff.1 need_none
  obtain ⟨m, a1, a2, a3⟩ := run_at hB hcr 300000 hr hx
  refine ⟨m, ?_, ?_⟩
  · unfold ran
    rw [runI_go (by rw [need_code (by omega) (by omega), List.length_set, need_len0]; omega) (by omega), a1]
  · rw [a3, show x = ⟨95, 0, 0⟩ from hv]; unfold F.ev; simp
end Sg
end Go.Proofs.Ytdmfogmgjmdaeaa
namespace Go.Proofs.Ytdmfogmgjmdaeaa
open Go.RowKit
set_option linter.unusedVariables false
set_option linter.unusedSimpArgs false
set_option maxRecDepth 100000
namespace Sg
open As
theorem lit_src2 (w : World) (l : List It) (hm : l.length ≤ maxLen) : ISrc (w.alloc (.cells (flat l).toArray 34)) (.slice (some ⟨w.heap.size, 0, none⟩) l.length l.length) l := lit_src w l hm
theorem run_as (v1 v2 v3 : Value) (P : List It) (W : World) (st sz : Nat) (si zi : Int) (hsi : si = (st : Nat)) (hzi : zi = (sz : Nat)) (m : Rs.M) (hp : P.length ≤ 100) (he : As.err (rtL ++ gcL ++ P) = 0) (hr : ran (rtL ++ gcL ++ P) st sz 0 = (m, 0)) (hq : 33 + st + 2 * sz ≤ 1048576) (h1 : ISrc W v1 rtL) (h2 : ISrc W v2 gcL) (h3 : ISrc W v3 P) :
    Calls Try.prog 7 #[v1, v2, v3, .int .i64 si, .int .i64 zi, .int .i64 0] W (fun e w' => ∃ a c, e = .returned (.tuple #[.agg (Rs.halt 0 m (.slice a m.mem.length c)).toArray, .bool true]) ∧ Sl w' (.slice a m.mem.length c) (m.mem.map (Value.int .i64)) ∧ m.regs.length = 32 ∧ Below W.heap.size W w') := by
  subst hsi hzi
  refine (rRun_any v1 v2 v3 rtL gcL P st sz 0 W h1 h2 h3 (by have := rt_len; have := gc_len; omega) he hq (by unfold Rs.InR; omega)).mono ?_
  rintro e w' ⟨a, c, rfl, hs, hl, hb⟩
  rw [hr] at hs hl ⊢
  exact ⟨a, c, rfl, hs, hl, hb⟩
theorem mem_at {w : World} {m : Rs.M} {a : Option Addr} {c : Nat} (h : Sl w (.slice a m.mem.length c) (m.mem.map (Value.int .i64))) (hne : 0 < m.mem.length) : ∃ b off, a = some ⟨b, off, none⟩ ∧ ∀ j, j < m.mem.length → w.cell? ⟨b, off + j, none⟩ = some (.int .i64 (m.mem.getD j 0)) := by
  have hl : (m.mem.map (Value.int .i64)).length = m.mem.length := by simp
  rw [← hl] at h
  obtain ⟨b, off, e, -, hc⟩ := h.at (fun e => by rw [e] at hl; simp at hl; omega)
  refine ⟨b, off, e, fun j hj => ?_⟩
  rw [hc j (by omega), List.getD_eq_getElem?_getD, List.getD_eq_getElem?_getD, List.getElem?_map, List.getElem?_eq_getElem hj]
  rfl
set_option maxHeartbeats 32000000 in
theorem needs_any (a0 a1 : Int) (w : World) : Calls Try.prog 5 #[.int .i64 a0, .int .i64 a1] w fun e w' => e = .returned (.bool true) ∧ Below w.heap.size w w' := by
  go_enter Try.func5, Try.ntmps5
  have Xw := Lib.hid (Below.refl w.heap.size w)
  go_wp2_with fail
  with_reducible refine (fixed_any23 _).mono ?_
  rintro e w1 ⟨rfl, hb⟩
  have X0 := Lib.hid (Xw.out.trans (hb.mono Xw.out.size))
  clear hb Xw
  by_cases g1 : a0 < 0
  · go_wp2_with fail
    with_reducible refine (fixed_any23 _).mono ?_
    rintro e w9 ⟨rfl, hb9⟩
    have X9 := Lib.hid (X0.out.trans (hb9.mono X0.out.size))
    clear hb9
    go_wp2_with fail
    go_ret
    exact ⟨rfl, X9.out⟩
  by_cases g2 : 1000 < a0
  · go_wp2_with fail
    with_reducible refine (fixed_any23 _).mono ?_
    rintro e w9 ⟨rfl, hb9⟩
    have X9 := Lib.hid (X0.out.trans (hb9.mono X0.out.size))
    clear hb9
    go_wp2_with fail
    go_ret
    exact ⟨rfl, X9.out⟩
  by_cases g3 : a1 < 2
  · go_wp2_with fail
    with_reducible refine (fixed_any23 _).mono ?_
    rintro e w9 ⟨rfl, hb9⟩
    have X9 := Lib.hid (X0.out.trans (hb9.mono X0.out.size))
    clear hb9
    go_wp2_with fail
    go_ret
    exact ⟨rfl, X9.out⟩
  by_cases g4 : 1000 < a1
  · go_wp2_with fail
    with_reducible refine (fixed_any23 _).mono ?_
    rintro e w9 ⟨rfl, hb9⟩
    have X9 := Lib.hid (X0.out.trans (hb9.mono X0.out.size))
    clear hb9
    go_wp2_with fail
    go_ret
    exact ⟨rfl, X9.out⟩
  obtain ⟨n, rfl⟩ : ∃ n : Nat, a0 = n := ⟨a0.toNat, by omega⟩
  obtain ⟨sz, rfl⟩ : ∃ sz : Nat, a1 = sz := ⟨a1.toNat, by omega⟩
  have k0 : IntKind.i64.wrap ((n : Int) + 2) = (n : Int) + 2 := by rw [IntKind.wrap_i64]; omega
  go_upto_region 3 with fail
  go_wp2_with fail
  with_reducible refine (rL_any 10 _).mono ?_
  rintro e w11 ⟨rfl, hb⟩
  have X12 := Lib.hid (X0.out.trans (hb.mono X0.out.size))
  clear hb
  go_wp2_with fail
  with_reducible refine (rK_any 26 (n : Int) _).mono ?_
  rintro e w13 ⟨rfl, hb⟩
  have X14 := Lib.hid (X12.out.trans (hb.mono X12.out.size))
  clear hb
  go_wp2_with fail
  with_reducible refine (rJ_any 31 2 _).mono ?_
  rintro e w15 ⟨rfl, hb⟩
  have X16 := Lib.hid (X14.out.trans (hb.mono X14.out.size))
  clear hb
  go_wp2_with fail
  with_reducible refine (rI_any 0 0 0 0 _).mono ?_
  rintro e w17 ⟨rfl, hb⟩
  have X18 := Lib.hid (X16.out.trans (hb.mono X16.out.size))
  clear hb
  have X19 := Lib.hid (X18.out.alloc X18.out.size (.cells (List.toArray (Value.int .i64 1 :: Value.int .i64 0 :: Value.int .i64 0 :: Value.int .i64 0 :: Value.int .i64 0 :: Value.int .i64 0 :: Value.int .i64 10 :: Value.int .i64 0 :: Value.int .i64 4 :: Value.int .i64 20 :: Value.int .i64 26 :: Value.int .i64 0 :: Value.int .i64 0 :: Value.int .i64 0 :: Value.int .i64 0 :: Value.int .i64 ((n : Int)) :: Value.int .i64 3 :: Value.int .i64 28 :: Value.int .i64 31 :: Value.int .i64 0 :: Value.int .i64 0 :: Value.int .i64 0 :: Value.int .i64 2 :: Value.int .i64 0 :: Value.int .i64 0 :: Value.int .i64 0 :: Value.int .i64 0 :: Value.int .i64 0 :: Value.int .i64 0 :: Value.int .i64 0 :: Value.int .i64 0 :: Value.int .i64 0 :: [])) 34))
  have YL : Hid (ISrc (w17.alloc (.cells (List.toArray (Value.int .i64 1 :: Value.int .i64 0 :: Value.int .i64 0 :: Value.int .i64 0 :: Value.int .i64 0 :: Value.int .i64 0 :: Value.int .i64 10 :: Value.int .i64 0 :: Value.int .i64 4 :: Value.int .i64 20 :: Value.int .i64 26 :: Value.int .i64 0 :: Value.int .i64 0 :: Value.int .i64 0 :: Value.int .i64 0 :: Value.int .i64 ((n : Int)) :: Value.int .i64 3 :: Value.int .i64 28 :: Value.int .i64 31 :: Value.int .i64 0 :: Value.int .i64 0 :: Value.int .i64 0 :: Value.int .i64 2 :: Value.int .i64 0 :: Value.int .i64 0 :: Value.int .i64 0 :: Value.int .i64 0 :: Value.int .i64 0 :: Value.int .i64 0 :: Value.int .i64 0 :: Value.int .i64 0 :: Value.int .i64 0 :: [])) 34)) (.slice (some ⟨w17.heap.size, 0, none⟩) 4 4) (needP n)) := lit_src2 w17 (needP n) (by show 4 ≤ _; decide)
  go_wp2_with fail
  with_reducible refine (rt_Code _).mono ?_
  rintro e w20 ⟨v1, rfl, ho, hb⟩
  have X21 := Lib.hid (X19.out.trans (hb.mono X19.out.size))
  have X22 := Lib.hid (YL.out.below hb (Nat.le_refl _))
  have YR := Lib.hid (ISrc.own ho)
  clear ho hb
  go_wp2_with fail
  with_reducible refine (gc_Code _).mono ?_
  rintro e w23 ⟨v2, rfl, ho, hb⟩
  have X24 := Lib.hid (X21.out.trans (hb.mono X21.out.size))
  have X25 := Lib.hid (X22.out.below hb (Nat.le_refl _))
  have X26 := Lib.hid (YR.out.below hb (Nat.le_refl _))
  have YG := Lib.hid (ISrc.own ho)
  clear ho hb
  by_cases hroom : sz < n + 2
  · obtain ⟨m, hm, hv⟩ := needs_none n sz hroom (by omega) (by omega) (by omega)
    go_wp2_with fail
    with_reducible refine (run_as _ _ _ (needP n) _ 20 sz (20) (sz : Int) rfl rfl m (by show _ ≤ 100; simp [needP, startP]) (need_err _) hm (by omega) X26.out YG.out X25.out).mono ?_
    rintro e w27 ⟨am, cm, rfl, hsl, hrl, hb⟩
    have XR := Lib.hid (X24.out.trans (hb.mono X24.out.size))
    have hst := halt_store w27 0 m (.slice am m.mem.length cm) hrl rfl
    have hln := halt_len' (st := 0) (mv := (.slice am m.mem.length cm)) hrl
    have A1 : Hid (HaltAt (w27.alloc (.cells (Rs.halt 0 m (.slice am m.mem.length cm)).toArray 26)) w27.heap.size 0 m (.slice am m.mem.length cm)) := HaltAt.new w27 hrl
    have HM := Lib.hid (hsl.below ((Below.refl w27.heap.size w27).alloc (Nat.le_refl _) (.cells (Rs.halt 0 m (.slice am m.mem.length cm)).toArray 26)) (Nat.le_refl _))
    have XA := Lib.hid (XR.out.alloc XR.out.size (.cells (Rs.halt 0 m (.slice am m.mem.length cm)).toArray 26))
    clear hb hrl hsl
    go_upto_region 5 with fail
    clear hst hln
    have cl0 := A1.out.c0
    have cl1 := A1.out.c1
    generalize w27.alloc (.cells (Rs.halt 0 m (.slice am m.mem.length cm)).toArray 26) = x at A1 HM cl0 cl1 XA ⊢
    rw [hv] at cl1
    have hgt : (sz : Int) < (n : Int) + 2 := by omega
    go_wp2_with fail
    go_ret
    exact ⟨rfl, XA.out⟩
  · obtain ⟨m, hm, hv, hregs, hmem, h28⟩ := needs_ok n sz (by omega) (by omega)
    have HML := Lib.hid hmem
    clear hmem
    go_wp2_with fail
    with_reducible refine (run_as _ _ _ (needP n) _ 20 sz (20) (sz : Int) rfl rfl m (by show _ ≤ 100; simp [needP, startP]) (need_err _) hm (by omega) X26.out YG.out X25.out).mono ?_
    rintro e w28 ⟨am, cm, rfl, hsl, hrl, hb⟩
    have XR := Lib.hid (X24.out.trans (hb.mono X24.out.size))
    have hst := halt_store w28 0 m (.slice am m.mem.length cm) hrl rfl
    have hln := halt_len' (st := 0) (mv := (.slice am m.mem.length cm)) hrl
    have A1 : Hid (HaltAt (w28.alloc (.cells (Rs.halt 0 m (.slice am m.mem.length cm)).toArray 26)) w28.heap.size 0 m (.slice am m.mem.length cm)) := HaltAt.new w28 hrl
    have HM := Lib.hid (hsl.below ((Below.refl w28.heap.size w28).alloc (Nat.le_refl _) (.cells (Rs.halt 0 m (.slice am m.mem.length cm)).toArray 26)) (Nat.le_refl _))
    have XA := Lib.hid (XR.out.alloc XR.out.size (.cells (Rs.halt 0 m (.slice am m.mem.length cm)).toArray 26))
    clear hb hrl hsl
    go_upto_region 5 with fail
    clear hst hln
    have cl0 := A1.out.c0
    have cl1 := A1.out.c1
    generalize w28.alloc (.cells (Rs.halt 0 m (.slice am m.mem.length cm)).toArray 26) = x at A1 HM cl0 cl1 XA ⊢
    rw [hv] at cl1
    have hgt : ¬ (sz : Int) < (n : Int) + 2 := by omega
    have cR : x.cell? ⟨_, 34, none⟩ = some (.int .i64 54) := (A1.out.cR (i := 29) (by omega)).trans (by rw [hregs]; rfl)
    have c37 := A1.out.c37
    obtain ⟨bm, om, rfl, hcell⟩ := mem_at HM.out (by have := HML.out; omega)
    have c28 := hcell 28 (by have := HML.out; omega)
    rw [h28] at c28
    have hl28 : (28 : Int) < (m.mem.length : Nat) := by have := HML.out; omega
    clear hcell HM A1
    go_wp2_with fail
    go_quiet (fail)
    go_wp2_with fail
    go_ret
    exact ⟨rfl, below_drewN XA.out _⟩
end Sg
end Go.Proofs.Ytdmfogmgjmdaeaa
