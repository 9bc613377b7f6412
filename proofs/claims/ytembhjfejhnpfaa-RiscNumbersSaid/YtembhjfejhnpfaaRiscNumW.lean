/- RiscNumbers' walk. -/
import Derived.Test.YtembhjfejhnpfaaRiscNumA
import Derived.Test.YtembhjfejhnpfaaRiscStepsW
namespace Go.Proofs.Ytembhjfejhnpfaa
open Go.RowKit
set_option linter.unusedVariables false
set_option linter.unusedSimpArgs false
def numOp (k : Nat) : Int := Rs.numOps.getD k 0
theorem num_enc : ∀ k : Fin 9, Rs.encW (Rs.numOps.getD k 0) (3 + (k : Nat)) 1 2 0 = Rs.numA.getD k 0 := by decide +kernel

theorem num_range (x y : Int) (hx : Rs.InR x) (hy : Rs.InR y) : ∀ z ∈ Rs.numCode x y, 0 ≤ z ∧ z < 4294967296 := by
  unfold Rs.InR at hx hy
  have g : ∀ {op a b c n : Int}, ¬ Rs.Bad op a b c n → 0 ≤ Rs.enc op a b c n ∧ Rs.enc op a b c n < 4294967296 := fun h => ⟨(Rs.enc_fields h).1, (Rs.enc_fields h).2.1⟩
  have hA : ∀ z ∈ Rs.numA, 0 ≤ z ∧ z < 4294967296 := by decide +kernel
  have hL : ∀ r v : Int, (r = 1 ∨ r = 2) → -9223372036854775808 ≤ v → v ≤ 9223372036854775807 → ∀ z ∈ Rs.numL r v, 0 ≤ z ∧ z < 4294967296 := by
    intro r v hr h1 h2 z hz
    simp only [Rs.numL, List.mem_cons, List.not_mem_nil, or_false] at hz
    rcases hz with rfl | rfl | rfl | rfl
    · exact g (Rs.good_li r _ hr (by omega) (by omega))
    · exact g (Rs.good_lhi r _ hr (by omega) (by omega))
    · exact g (Rs.good_lhi r _ hr (by omega) (by omega))
    · exact g (Rs.good_lhi r _ hr (by omega) (by omega))
  intro z hz
  simp only [Rs.numCode, List.mem_append, List.mem_singleton] at hz
  rcases hz with ((h | h) | h) | rfl
  · exact hL 1 x (.inl rfl) hx.1 hx.2 z h
  · exact hL 2 y (.inr rfl) hy.1 hy.2 z h
  · exact hA z h
  · decide +kernel
theorem num_want (x y l b : Int) (h13 : Rs.alu 13 x y = l) (h14 : Rs.alu 14 x y = b) (k : Nat) (hk : k < 9) : (#[.int .i64 (wrap64 (x + y)), .int .i64 (wrap64 (x - y)), .int .i64 (wrap64 (x * y)), .int .i64 (x * y / 18446744073709551616), .int .i64 (bits .and .i64 x y), .int .i64 (bits .or .i64 x y), .int .i64 (bits .xor .i64 x y), .int .i64 l, .int .i64 b] : Array Value)[k]? = some (.int .i64 ((Rs.numRegs x y).getD (3 + k) 0)) := by
  subst h13 h14
  match k, hk with
  | 0, _ => rfl
  | 1, _ => rfl
  | 2, _ => rfl
  | 3, _ => rfl
  | 4, _ => rfl
  | 5, _ => rfl
  | 6, _ => rfl
  | 7, _ => rfl
  | 8, _ => rfl
theorem sl_nil {w : World} : Sl w (.slice none 0 0) (i64s []) := ⟨none, 0, rfl, .inl ⟨rfl, rfl, rfl⟩⟩
theorem heap_two {w W : World} {A B : Obj} (h : (w.alloc A).alloc B = W) : W.heap[w.heap.size]? = some A ∧ W.heap[w.heap.size + 1]? = some B := by
  subst h; exact ⟨heap_alloc2_old _ _ _, heap_alloc2_new _ _ _⟩
theorem num_ops : ∀ k : Fin 9, (#[.int .i64 1, .int .i64 2, .int .i64 3, .int .i64 4, .int .i64 7, .int .i64 8, .int .i64 9, .int .i64 13, .int .i64 14] : Array Value)[(k : Nat)]? = some (.int .i64 (Rs.numOps.getD k 0)) := by
  intro k
  match k with
  | 0 => rfl | 1 => rfl | 2 => rfl | 3 => rfl | 4 => rfl | 5 => rfl | 6 => rfl | 7 => rfl | 8 => rfl
set_option maxHeartbeats 16000000 in
set_option maxRecDepth 100000 in
theorem numbers_walk (x y : Int) (hx : Rs.InR x) (hy : Rs.InR y) (w : World) : Calls Try.prog 7 #[.int .i64 x, .int .i64 y] w fun e w' => e = .returned (.bool true) ∧ Below w.heap.size w w' := by
  obtain ⟨i0, hi, hz0, hz1, hz2⟩ := info_parts infoU32
  have HI := Lib.hid hi
  have HZ0 := Lib.hid hz0
  have HZ1 := Lib.hid hz1
  have HZ2 := Lib.hid hz2
  have HX := Lib.hid hx
  have HY := Lib.hid hy
  clear hi hz0 hz1 hz2 hx hy
  go_enter Try.func7, Try.ntmps7
  go_wp2_with fail
  with_reducible refine (loads_any 1 x (.inl rfl) HX.out _).mono ?_
  rintro e w1 ⟨g1, c1, rfl, ho1, hb1⟩
  have HO1 := Lib.hid ho1
  have HB1 := Lib.hid hb1
  clear ho1 hb1
  go_wp2_with fail
  with_reducible refine (loads_any 2 y (.inr rfl) HY.out _).mono ?_
  rintro e w2 ⟨g2, c2, rfl, ho2, hb2⟩
  have HO2 := Lib.hid ho2
  have HO1' := Lib.hid (own_keep HO1.out hb2)
  have HB2 := Lib.hid (HB1.out.trans (hb2.mono HB1.out.size))
  have hs2 := HB2.out.size
  clear ho2 hb2
  have hl4 : ∀ r z, (u32s (Rs.numL r z)).length = 4 := fun _ _ => rfl
  go_wp2_with (first | (at_builtin; refine wpList_append_own _ rfl (.tmp 14) (.tmp 16) 32 rfl w.heap.size 24 i0 (.int .u32 0) 1 4 Try.underlying32 HI.out HZ0.out HZ1.out HZ2.out rfl (by decide) (.slice (some ⟨g1, 0, none⟩) 4 c1) 4 (u32s (Rs.numL 1 x)) rfl HO1'.out ⟨g2, 0, none⟩ 4 c2 (u32s (Rs.numL 2 y)) rfl (by rw [hl4]) (HO2.out.cells rfl) (by intro u hu; obtain ⟨z, _, rfl⟩ := List.mem_map.1 hu; rfl) (by simp only [maxLen]; omega) (by omega) (by omega) ?_; intro v' w3 hown3 hgr hnil))
  obtain ⟨g3, c3, hv3, hg31, hg32⟩ := own_next (n := 4) (m := 4) hown3 hnil
  subst hv3
  have HB3 := Lib.hid (HB2.out.grown hgr hs2 (fun q hq => (HO1'.out.lt q hq).1))
  have HO3 := Lib.hid hown3
  have hs3 := HB3.out.size
  clear hown3 hgr hnil hl4 HO1 HO1' HO2 HB1 HB2 hs2 hg31
  go_loopg [5, 7] 9 (fun g l i wx => ∃ (k b c : Nat), k ≤ 9 ∧ g = 9 - k ∧ i = .int .i64 k ∧ l = .slice (some ⟨b, 0, none⟩) (8 + k) c ∧ b ≠ w3.heap.size ∧ wx.ownsRow w.heap.size 24 1 (.slice (some ⟨b, 0, none⟩) (8 + k) c) (8 + k) (u32s (Rs.numL 1 x ++ Rs.numL 2 y ++ Rs.numA.take k)) ∧ wx.heap[w3.heap.size]? = some (.cells #[.int .i64 1, .int .i64 2, .int .i64 3, .int .i64 4, .int .i64 7, .int .i64 8, .int .i64 9, .int .i64 13, .int .i64 14] 3 (0, 0)) ∧ Below w.heap.size w wx)
  case atStart =>
    refine ⟨0, g3, c3, by decide, rfl, rfl, rfl, by omega, ?_, heap_alloc_new w3 _, HB3.out.alloc hs3 _⟩
    have := HO3.out.alloc (.cells #[.int .i64 1, .int .i64 2, .int .i64 3, .int .i64 4, .int .i64 7, .int .i64 8, .int .i64 9, .int .i64 13, .int .i64 14] 3)
    simpa [u32s] using this
  case round =>
    obtain ⟨k, b, c, hk, rfl, rfl, rfl, hbne, hown, hops, hb⟩ := hrel
    have HOWN := Lib.hid hown
    have HB := Lib.hid hb
    have HPS := Lib.hid hops
    have HNE := Lib.hid hbne
    clear hown hb hops hbne
    by_cases hlt : k < 9
    · obtain ⟨op, hop⟩ : ∃ op, Hid (Rs.numOps.getD k 0 = op) := ⟨_, rfl⟩
      obtain ⟨W, hW⟩ : ∃ W, Hid (Rs.numA.getD k 0 = W) := ⟨_, rfl⟩
      have HE : Hid (Rs.encW op (3 + (k : Int)) 1 2 0 = W) := by unfold Hid; rw [← hop.out, ← hW.out]; exact num_enc ⟨k, hlt⟩
      have xc : wr.cell? ⟨w3.heap.size, k, none⟩ = some (.int .i64 op) := by
        rw [cell_of_row wr _ k _ _ _ HPS.out, ← hop.out]
        exact num_ops ⟨k, hlt⟩
      have hw3 : IntKind.i64.wrap (3 + (k : Int)) = 3 + k := by rw [IntKind.wrap_i64]; omega
      have hw1 : IntKind.i64.wrap ((k : Int) + 1) = k + 1 := by rw [IntKind.wrap_i64]; omega
      have hg1 : (0 : Int) ≤ k := by omega
      have hg2 : (k : Int) < 9 := by omega
      go_wp2_with fail
      with_reducible refine (word_at op (3 + k) 1 2 0 W HE.out _).mono ?_
      rintro e w4 ⟨rfl, hb4⟩
      have HB4 := Lib.hid (HB.out.trans (hb4.mono HB.out.size))
      have HOWN4 := Lib.hid (own_keep HOWN.out hb4)
      have hlt3 : w3.heap.size < wr.heap.size := (Array.getElem?_eq_some_iff.1 HPS.out).1
      have HPS4 : Hid (w4.heap[w3.heap.size]? = some (.cells #[.int .i64 1, .int .i64 2, .int .i64 3, .int .i64 4, .int .i64 7, .int .i64 8, .int .i64 9, .int .i64 13, .int .i64 14] 3 (0, 0))) := (hb4.block _ hlt3).trans HPS.out
      have hlt4 : w3.heap.size < w4.heap.size := by have := hb4.size; omega
      have hs4 := HB4.out.size
      clear hb4 xc hlt3
      go_wp2_with (first | (at_builtin; refine wpList_append_lies _ rfl (.tmp 25) (.tmp 33) 32 rfl w.heap.size 24 i0 (.int .u32 0) 1 4 Try.underlying32 HI.out HZ0.out HZ1.out HZ2.out rfl (by decide) (.slice (some ⟨b, 0, none⟩) (8 + k) c) (8 + k) (u32s (Rs.numL 1 x ++ Rs.numL 2 y ++ Rs.numA.take k)) rfl (HOWN4.out.alloc _) ⟨w4.heap.size, 0, none⟩ 1 1 [.int .u32 W] rfl rfl (new_cells _ (heap_new (by simp))) (by simp [Value.oneCell']) (by decide) (by simp only [maxLen]; omega) (by omega) (by simp; omega) (w4.heap.size + 1) (by simp) ?_; intro g5 c5 w5 hown5 hgr5 hat5 hlt5))
      have HB5 := Lib.hid ((HB4.out.alloc hs4 _).grown hgr5 (by simp; omega) (fun q hq => (HOWN4.out.lt q hq).1))
      have HPS5 : Hid (w5.heap[w3.heap.size]? = some (.cells #[.int .i64 1, .int .i64 2, .int .i64 3, .int .i64 4, .int .i64 7, .int .i64 8, .int .i64 9, .int .i64 13, .int .i64 14] 3 (0, 0))) := by
        unfold Hid
        rw [hgr5.block _ (by simp; omega) (fun e => HNE.out (by simpa [Value.ownBlock] using e.symm)), heap_alloc_old _ _ hlt4]
        exact HPS4.out
      have HNE5 : Hid (g5 ≠ w3.heap.size) := by
        rcases hat5 with h | h
        · have h2 : b = g5 := by simpa [Value.ownBlock] using h
          rw [← h2]; exact HNE.out
        · unfold Hid; omega
      have HOWN5 : Hid (w5.ownsRow w.heap.size 24 1 (.slice (some ⟨g5, 0, none⟩) (8 + (k + 1)) c5) (8 + (k + 1)) (u32s (Rs.numL 1 x ++ Rs.numL 2 y ++ Rs.numA.take (k + 1)))) := by
        have e : Rs.numA.take (k + 1) = Rs.numA.take k ++ [W] := by
          rw [List.take_add_one, ← hW.out, List.getD_eq_getElem?_getD]
          have : k < Rs.numA.length := hlt
          rw [List.getElem?_eq_getElem this]; rfl
        unfold Hid
        rw [e, ← List.append_assoc, show u32s (Rs.numL 1 x ++ Rs.numL 2 y ++ Rs.numA.take k ++ [W]) = u32s (Rs.numL 1 x ++ Rs.numL 2 y ++ Rs.numA.take k) ++ [.int .u32 W] by simp [u32s]]
        exact hown5
      clear hown5 hgr5 hat5 hlt5 HB HPS HNE HOWN HB4 HOWN4 HPS4 hlt4 hs4
      go_wp2_with fail
      go_roundg (9 - (k + 1))
      case measure => omega
      case rel => exact ⟨k + 1, g5, c5, by omega, rfl, by go_num, rfl, HNE5.out, HOWN5.out, HPS5.out, HB5.out⟩
    · obtain rfl : k = 9 := by omega
      have hE0 : Hid (Rs.encW 0 1 0 0 0 = Rs.enc 0 1 0 0 0) := by unfold Hid; decide +kernel
      obtain ⟨W, hW⟩ : ∃ W, Hid (Rs.enc 0 1 0 0 0 = W) := ⟨_, rfl⟩
      rw [hW.out] at hE0
      go_wp2_with fail
      with_reducible refine (word_at 0 1 0 0 0 W hE0.out _).mono ?_
      rintro e w4 ⟨rfl, hb4⟩
      have HB4 := Lib.hid (HB.out.trans (hb4.mono HB.out.size))
      have HOWN4 := Lib.hid (own_keep HOWN.out hb4)
      have hs4 := HB4.out.size
      clear hb4
      go_wp2_with (first | (at_builtin; refine wpList_append_lies _ rfl (.tmp 35) (.tmp 37) 32 rfl w.heap.size 24 i0 (.int .u32 0) 1 4 Try.underlying32 HI.out HZ0.out HZ1.out HZ2.out rfl (by decide) (.slice (some ⟨b, 0, none⟩) (8 + 9) c) (8 + 9) (u32s (Rs.numL 1 x ++ Rs.numL 2 y ++ Rs.numA.take 9)) rfl (HOWN4.out.alloc _) ⟨w4.heap.size, 0, none⟩ 1 1 [.int .u32 W] rfl rfl (new_cells _ (heap_new (by simp))) (by simp [Value.oneCell']) (by decide) (by simp only [maxLen]; omega) (by omega) (by simp; omega) (w4.heap.size + 1) (by simp) ?_; intro g5 c5 w5 hown5 hgr5 hat5 hlt5))
      have HB5 := Lib.hid ((HB4.out.alloc hs4 _).grown hgr5 (by simp; omega) (fun q hq => (HOWN4.out.lt q hq).1))
      have HSL : Hid (Sl w5 (.slice (some ⟨g5, 0, none⟩) 18 c5) (u32s (Rs.numCode x y))) := by
        have e : u32s (Rs.numCode x y) = u32s (Rs.numL 1 x ++ Rs.numL 2 y ++ Rs.numA.take 9) ++ [.int .u32 W] := by
          rw [← hW.out]; rfl
        unfold Hid
        rw [e]
        exact own_to_sl hown5
      have hcr : Hid (∀ z ∈ Rs.numCode x y, 0 ≤ z ∧ z < 4294967296) := num_range x y HX.out HY.out
      have hs5 := HB5.out.size
      clear hown5 hgr5 hat5 hlt5 HB HPS HNE HOWN HB4 HOWN4 hs4
      go_wp2_with fail
      with_reducible refine (run_is _ _ (Rs.numCode x y) [] 0 [] 100 _ HSL.out sl_nil hcr.out (by simp) (by decide) (Rs.num_run x y HX.out HY.out)).mono ?_
      rintro e w6 ⟨a6, c6, rfl, hsl6, hr6, hb6⟩
      have hst := halt_store w6 0 ⟨x, 18, 17, Rs.numRegs x y, [], [], []⟩ (.slice a6 0 c6) rfl rfl
      have hln := halt_len' (st := 0) (m := ⟨x, 18, 17, Rs.numRegs x y, [], [], []⟩) (mv := .slice a6 0 c6) rfl
      have HH6 : Hid (HaltAt (w6.alloc (.cells (Rs.halt 0 ⟨x, 18, 17, Rs.numRegs x y, [], [], []⟩ (.slice a6 0 c6)).toArray 39)) w6.heap.size 0 ⟨x, 18, 17, Rs.numRegs x y, [], [], []⟩ (.slice a6 0 c6)) := HaltAt.new w6 rfl
      have HB6 := Lib.hid (HB5.out.trans (hb6.mono HB5.out.size))
      clear hb6 hsl6 hr6
      have e13 : Rs.alu 13 x y = if x < y then 1 else 0 := rfl
      have e14 : Rs.alu 14 x y = if IntKind.u64.wrap x < IntKind.u64.wrap y then 1 else 0 := rfl
      have hX1 := HX.out
      have hY1 := HY.out
      unfold Rs.InR at hX1 hY1
      by_cases q1 : x < y <;> by_cases q2 : IntKind.u64.wrap x < IntKind.u64.wrap y
      all_goals
        go_wp2_with fail
        with_reducible refine (High_any x y _ hX1.1 hX1.2 hY1.1 hY1.2).mono ?_
        rintro e w' ⟨rfl, hw⟩
        obtain rfl := hw
        go_wp2_with fail
        generalize hW7 : World.alloc (World.alloc w6 _) _ = W7
        obtain ⟨K6, K7⟩ := heap_two hW7
        have HH7 : Hid (HaltAt W7 w6.heap.size 0 ⟨x, 18, 17, Rs.numRegs x y, [], [], []⟩ (.slice a6 0 c6)) := ⟨K6, rfl⟩
        have HB7 : Hid (Below w.heap.size w W7) := by unfold Hid; rw [← hW7]; exact (HB6.out.alloc HB6.out.size _).alloc (by have := HB6.out.size; simp; omega) _
        have hk6 : w6.heap.size < W7.heap.size := (Array.getElem?_eq_some_iff.1 K6).1
        have HW : Hid (∀ k, k < 9 → W7.cell? ⟨w6.heap.size + 1, k, none⟩ = some (.int .i64 ((Rs.numRegs x y).getD (3 + k) 0))) := fun k hk => by
          rw [cell_of_row W7 _ k _ _ _ K7]
          exact num_want x y _ _ (by simp [e13, q1]) (by simp [e14, q2]) k hk
        clear hW7 K6 K7 hst hln HH6 HB6
        go_loopg [12] 9 (fun g i wx => ∃ k : Nat, k ≤ 9 ∧ g = 9 - k ∧ i = .int .i64 k ∧ ∃ nd, wx = W7.drewN nd)
        case atStart => exact ⟨0, by decide, rfl, rfl, 0, rfl⟩
        case round =>
          obtain ⟨k, hk, rfl, rfl, nd, hwr⟩ := hrel
          have HWR := Lib.hid hwr
          by_cases hlt : k < 9
          · have xr : wr.cell? ⟨w6.heap.size, 5 + (3 + k), none⟩ = some (.int .i64 ((Rs.numRegs x y).getD (3 + k) 0)) := by rw [hwr]; exact HH7.out.cR (by omega)
            have xw : wr.cell? ⟨w6.heap.size + 1, k, none⟩ = some (.int .i64 ((Rs.numRegs x y).getD (3 + k) 0)) := by rw [hwr]; exact HW.out k hlt
            clear hwr
            have hw3 : IntKind.i64.wrap (3 + (k : Int)) = ((3 + k : Nat) : Int) := by rw [IntKind.wrap_i64]; omega
            have hw1 : IntKind.i64.wrap ((k : Int) + 1) = k + 1 := by rw [IntKind.wrap_i64]; omega
            have hg1 : (0 : Int) ≤ k := by omega
            have hg2 : (k : Int) < 9 := by omega
            have hg3 : (0 : Int) ≤ ((3 + k : Nat) : Int) := by omega
            have hg4 : ((3 + k : Nat) : Int) < 32 := by omega
            go_wp2_with fail
            go_quiet (fail)
            go_wp2_with fail
            go_roundg (9 - (k + 1))
            case measure => omega
            case rel => exact ⟨k + 1, by omega, rfl, by go_num, nd + nq, by rw [HWR.out, World.drewN_drewN]⟩
          · obtain rfl : k = 9 := by omega
            clear hwr
            have HB8 : Hid (Below w.heap.size w wr) := by unfold Hid; rw [HWR.out]; exact below_drewN HB7.out nd
            have HH8 : Hid (HaltAt wr w6.heap.size 0 ⟨x, 18, 17, Rs.numRegs x y, [], [], []⟩ (.slice a6 0 c6)) := by unfold Hid; rw [HWR.out]; exact HH7.out.drewN nd
            have hk8 : w6.heap.size < wr.heap.size := by rw [HWR.out]; exact hk6
            go_wp2_with fail
            with_reducible refine (fixed_any _).mono ?_
            rintro e w9 ⟨rfl, hb9⟩
            have HH9 := HH8.out.below hb9 hk8
            have HB9 := Lib.hid (HB8.out.trans (hb9.mono HB8.out.size))
            have r0 := HH9.c0
            have r1 := HH9.c1
            have r2 := HH9.cR (i := 2) (by decide)
            have r3 := HH9.c3
            have r2' : w9.cell? ⟨w6.heap.size, 7, none⟩ = some (.int .i64 y) := r2
            clear hb9 HH9 r2
            go_wp2_with fail
            go_ret
            exact ⟨rfl, HB9.out⟩
end Go.Proofs.Ytembhjfejhnpfaa
