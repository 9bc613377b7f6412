/- The reference's Number. -/
import Derived.Test.YtaldcgfhlflcpaaAJay
import Derived.Test.YtaldcgfhlflcpaaAJbd
import Derived.Test.YtaldcgfhlflcpaaAJac
import Derived.Test.YtaldcgfhlflcpaaAJaf
set_option linter.unusedVariables false
set_option linter.unusedSimpArgs false
set_option linter.unnecessarySimpa false
namespace Go.Proofs.Ytaldcgfhlflcpaa
open Go.RowKit
set_option maxRecDepth 100000
set_option linter.unusedVariables false
set_option linter.unusedSimpArgs false
structure As.In where
  op : Int
  a : Int
  b : Int
  c : Int
  n : Int
def As.In.cells (x : As.In) : List Value := [.int .i64 x.op, .int .i64 x.a, .int .i64 x.b, .int .i64 x.c, .int .i64 x.n]
def As.In.enc (x : As.In) : Int := Rs.encW x.op x.a x.b x.c x.n
def As.flatIn (l : List As.In) : List Value := l.flatMap As.In.cells
def As.tailI (r n : Int) : Nat → List As.In
  | 0 => []
  | k + 1 => ⟨21, r, 0, 0, n / 2 ^ (16 * k) % 65536⟩ :: As.tailI r n k
def As.numberI (r n : Int) (k : Nat) : List As.In := ⟨20, r, 0, 0, (n / 2 ^ (16 * (k - 1)) + 32768) % 65536 - 32768⟩ :: As.tailI r n (k - 1)
theorem As.tailI_enc (r n : Int) : ∀ k, (As.tailI r n k).map As.In.enc = As.tailP r n k
  | 0 => rfl
  | k + 1 => by simp [As.tailI, As.tailP, As.tailI_enc r n k, As.In.enc]
theorem As.numberI_enc (r n : Int) (k : Nat) : (As.numberI r n k).map As.In.enc = As.number r n k := by
  simp [As.numberI, As.number, As.tailI_enc, As.In.enc]
theorem As.tailI_length (r n : Int) : ∀ k, (As.tailI r n k).length = k
  | 0 => rfl
  | k + 1 => by simp [As.tailI, As.tailI_length r n k]
theorem As.flatIn_append (l m : List As.In) : As.flatIn (l ++ m) = As.flatIn l ++ As.flatIn m := by simp [As.flatIn]
theorem infoIn : (Try.prog.info? 51).map (fun i => (i.zero, i.size, i.bytes)) = some (some (.agg #[.int .i64 0, .int .i64 0, .int .i64 0, .int .i64 0, .int .i64 0]), 5, 40) := by kernel_rfl
theorem top_and (t : Int) : bits .and .i64 (wrap64 (t + 32768)) 65535 = (t + 32768) % 65536 := by
  rw [Rs.i64_16]; simp only [wrap64]; omega
set_option maxHeartbeats 16000000 in
set_option maxRecDepth 100000 in
theorem rnumber_any (r n : Int) (k : Nat) (hk1 : 1 ≤ k) (hk4 : k ≤ 4) (w : World) :
    Calls Try.prog 45 #[.int .i64 r, .int .i64 n, .int .i64 k] w fun e w' => ∃ g c, e = .returned (.slice (some ⟨g, 0, none⟩) k c) ∧ w'.ownsRow w.heap.size 51 5 (.slice (some ⟨g, 0, none⟩) k c) k (As.flatIn (As.numberI r n k)) ∧ Below w.heap.size w w' := by
  obtain ⟨i0, hi, hz0, hz1, hz2⟩ := info_parts infoIn
  have HI := Lib.hid hi
  have HZ0 := Lib.hid hz0
  have HZ1 := Lib.hid hz1
  have HZ2 := Lib.hid hz2
  clear hi hz0 hz1 hz2
  have a0 := Rs.i64_16 n
  have a1 := Rs.i64_16 (n / 65536)
  have a2 := Rs.i64_16 (n / 4294967296)
  rcases (by omega : k = 1 ∨ k = 2 ∨ k = 3 ∨ k = 4) with rfl | rfl | rfl | rfl
  · obtain ⟨v, hv⟩ : ∃ v, Hid ((n + 32768) % 65536 - 32768 = v) := ⟨_, rfl⟩
    have T1 : Hid (As.numberI r n 1 = ⟨20, r, 0, 0, v⟩ :: As.tailI r n 0) := by unfold Hid; rw [← hv.out]; simp [As.numberI]
    have hq1 := top_and (n)
    have hq2 : (n + 32768) % 65536 - 32768 = v := hv.out
    go_enter Try.func45, Try.ntmps45
    go_wp2_with fail
    go_loopg [8, 9] 0 (fun gk lv i wx => ∃ (j b c : Nat) (cs : List As.In), i = .int .i64 ((j : Int) - 1) ∧ gk = j ∧ j ≤ 0 ∧ cs ++ As.tailI r n j = As.numberI r n 1 ∧ lv = .slice (some ⟨b, 0, none⟩) cs.length c ∧ wx.ownsRow w.heap.size 51 5 (.slice (some ⟨b, 0, none⟩) cs.length c) cs.length (As.flatIn cs) ∧ Below w.heap.size w wx)
    case atStart => exact ⟨0, _, _, [⟨20, r, 0, 0, v⟩], rfl, rfl, Nat.le_refl _, by rw [T1.out]; rfl, rfl, World.ownsRow_lit _ _ _ (Nat.le_refl _) (show 1 ≤ maxLen by decide) rfl, (Below.refl _ _).alloc (Nat.le_refl _) _⟩
    case round =>
      obtain ⟨j, b, c, cs, rfl, hgk, hj, hcs, rfl, hown, hbw⟩ := hrel
      have HCS := Lib.hid hcs
      have HO := Lib.hid hown
      have HW := Lib.hid hbw
      have hcl : cs.length + j = 1 := by have e := congrArg List.length hcs; simp [As.numberI, As.tailI_length] at e; omega
      clear hcs hown hbw
      rcases (by omega : j = 0 ∨ j = 1 ∨ j = 2 ∨ j = 3) with rfl | rfl | rfl | rfl
      · go_wp2_with fail
        go_ret
        have e : cs = As.numberI r n 1 := by have e := HCS.out; rw [show As.tailI r n 0 = [] from rfl, List.append_nil] at e; exact e
        have e2 : cs.length = 1 := by omega
        have h1 := HO.out
        rw [e2] at h1
        rw [e2]
        refine ⟨b, c, rfl, ?_, HW.out⟩
        rw [← e]
        exact h1
      · omega
      · omega
      · omega
  · obtain ⟨v, hv⟩ : ∃ v, Hid ((n / 65536 + 32768) % 65536 - 32768 = v) := ⟨_, rfl⟩
    have T1 : Hid (As.numberI r n 2 = ⟨20, r, 0, 0, v⟩ :: As.tailI r n 1) := by unfold Hid; rw [← hv.out]; simp [As.numberI]
    have hq1 := top_and (n / 65536)
    have hq2 : (n / 65536 + 32768) % 65536 - 32768 = v := hv.out
    go_enter Try.func45, Try.ntmps45
    go_wp2_with fail
    go_loopg [8, 9] 1 (fun gk lv i wx => ∃ (j b c : Nat) (cs : List As.In), i = .int .i64 ((j : Int) - 1) ∧ gk = j ∧ j ≤ 1 ∧ cs ++ As.tailI r n j = As.numberI r n 2 ∧ lv = .slice (some ⟨b, 0, none⟩) cs.length c ∧ wx.ownsRow w.heap.size 51 5 (.slice (some ⟨b, 0, none⟩) cs.length c) cs.length (As.flatIn cs) ∧ Below w.heap.size w wx)
    case atStart => exact ⟨1, _, _, [⟨20, r, 0, 0, v⟩], rfl, rfl, Nat.le_refl _, by rw [T1.out]; rfl, rfl, World.ownsRow_lit _ _ _ (Nat.le_refl _) (show 1 ≤ maxLen by decide) rfl, (Below.refl _ _).alloc (Nat.le_refl _) _⟩
    case round =>
      obtain ⟨j, b, c, cs, rfl, hgk, hj, hcs, rfl, hown, hbw⟩ := hrel
      have HCS := Lib.hid hcs
      have HO := Lib.hid hown
      have HW := Lib.hid hbw
      have hcl : cs.length + j = 2 := by have e := congrArg List.length hcs; simp [As.numberI, As.tailI_length] at e; omega
      clear hcs hown hbw
      rcases (by omega : j = 0 ∨ j = 1 ∨ j = 2 ∨ j = 3) with rfl | rfl | rfl | rfl
      · go_wp2_with fail
        go_ret
        have e : cs = As.numberI r n 2 := by have e := HCS.out; rw [show As.tailI r n 0 = [] from rfl, List.append_nil] at e; exact e
        have e2 : cs.length = 2 := by omega
        have h1 := HO.out
        rw [e2] at h1
        rw [e2]
        refine ⟨b, c, rfl, ?_, HW.out⟩
        rw [← e]
        exact h1
      · have HT : Hid (As.tailI r n 1 = ⟨21, r, 0, 0, n % 65536⟩ :: As.tailI r n 0) := by show _ :: _ = _; simp
        have hws : w.heap.size ≤ wr.heap.size := HW.out.size
        go_wp2_with (first | (at_builtin; refine wpList_append_lies _ rfl (.tmp 29) (.tmp 38) 80 rfl w.heap.size 51 i0 (.agg #[.int .i64 0, .int .i64 0, .int .i64 0, .int .i64 0, .int .i64 0]) 5 40 Try.underlying80 HI.out HZ0.out HZ1.out HZ2.out rfl (by decide) (.slice (some ⟨b, 0, none⟩) cs.length c) cs.length (As.flatIn cs) rfl (HO.out.alloc _) ⟨wr.heap.size, 0, none⟩ 1 1 [.int .i64 21, .int .i64 r, .int .i64 0, .int .i64 0, .int .i64 (n % 65536)] rfl rfl (new_cells _ (heap_new (by simp))) (by simp [Value.oneCell']) (by decide) (by simp only [maxLen]; omega) (by omega) (by simp; omega) (wr.heap.size + 1) (by simp) ?_; intro g5 c5 w5 hown5 hgr5 hat5 hlt5; have HO5 := Lib.hid hown5; have HG5 := Lib.hid hgr5; clear hown5 hgr5 hat5) | fail)
        go_roundg 0
        case measure => omega
        case rel =>
          refine ⟨0, g5, c5, cs ++ [⟨21, r, 0, 0, n % 65536⟩], by go_num, rfl, by omega, ?_, (by simp <;> omega), ?_, (HW.out.alloc hws _).grown HG5.out (by simp; omega) (fun q hq => (HO.out.lt q hq).1)⟩
          · have e := HCS.out; rw [HT.out] at e; rw [← e]; simp
          · rw [List.length_append, As.flatIn_append]; exact HO5.out
      · omega
      · omega
  · obtain ⟨v, hv⟩ : ∃ v, Hid ((n / 4294967296 + 32768) % 65536 - 32768 = v) := ⟨_, rfl⟩
    have T1 : Hid (As.numberI r n 3 = ⟨20, r, 0, 0, v⟩ :: As.tailI r n 2) := by unfold Hid; rw [← hv.out]; simp [As.numberI]
    have hq1 := top_and (n / 4294967296)
    have hq2 : (n / 4294967296 + 32768) % 65536 - 32768 = v := hv.out
    go_enter Try.func45, Try.ntmps45
    go_wp2_with fail
    go_loopg [8, 9] 2 (fun gk lv i wx => ∃ (j b c : Nat) (cs : List As.In), i = .int .i64 ((j : Int) - 1) ∧ gk = j ∧ j ≤ 2 ∧ cs ++ As.tailI r n j = As.numberI r n 3 ∧ lv = .slice (some ⟨b, 0, none⟩) cs.length c ∧ wx.ownsRow w.heap.size 51 5 (.slice (some ⟨b, 0, none⟩) cs.length c) cs.length (As.flatIn cs) ∧ Below w.heap.size w wx)
    case atStart => exact ⟨2, _, _, [⟨20, r, 0, 0, v⟩], rfl, rfl, Nat.le_refl _, by rw [T1.out]; rfl, rfl, World.ownsRow_lit _ _ _ (Nat.le_refl _) (show 1 ≤ maxLen by decide) rfl, (Below.refl _ _).alloc (Nat.le_refl _) _⟩
    case round =>
      obtain ⟨j, b, c, cs, rfl, hgk, hj, hcs, rfl, hown, hbw⟩ := hrel
      have HCS := Lib.hid hcs
      have HO := Lib.hid hown
      have HW := Lib.hid hbw
      have hcl : cs.length + j = 3 := by have e := congrArg List.length hcs; simp [As.numberI, As.tailI_length] at e; omega
      clear hcs hown hbw
      rcases (by omega : j = 0 ∨ j = 1 ∨ j = 2 ∨ j = 3) with rfl | rfl | rfl | rfl
      · go_wp2_with fail
        go_ret
        have e : cs = As.numberI r n 3 := by have e := HCS.out; rw [show As.tailI r n 0 = [] from rfl, List.append_nil] at e; exact e
        have e2 : cs.length = 3 := by omega
        have h1 := HO.out
        rw [e2] at h1
        rw [e2]
        refine ⟨b, c, rfl, ?_, HW.out⟩
        rw [← e]
        exact h1
      · have HT : Hid (As.tailI r n 1 = ⟨21, r, 0, 0, n % 65536⟩ :: As.tailI r n 0) := by show _ :: _ = _; simp
        have hws : w.heap.size ≤ wr.heap.size := HW.out.size
        go_wp2_with (first | (at_builtin; refine wpList_append_lies _ rfl (.tmp 29) (.tmp 38) 80 rfl w.heap.size 51 i0 (.agg #[.int .i64 0, .int .i64 0, .int .i64 0, .int .i64 0, .int .i64 0]) 5 40 Try.underlying80 HI.out HZ0.out HZ1.out HZ2.out rfl (by decide) (.slice (some ⟨b, 0, none⟩) cs.length c) cs.length (As.flatIn cs) rfl (HO.out.alloc _) ⟨wr.heap.size, 0, none⟩ 1 1 [.int .i64 21, .int .i64 r, .int .i64 0, .int .i64 0, .int .i64 (n % 65536)] rfl rfl (new_cells _ (heap_new (by simp))) (by simp [Value.oneCell']) (by decide) (by simp only [maxLen]; omega) (by omega) (by simp; omega) (wr.heap.size + 1) (by simp) ?_; intro g5 c5 w5 hown5 hgr5 hat5 hlt5; have HO5 := Lib.hid hown5; have HG5 := Lib.hid hgr5; clear hown5 hgr5 hat5) | fail)
        go_roundg 0
        case measure => omega
        case rel =>
          refine ⟨0, g5, c5, cs ++ [⟨21, r, 0, 0, n % 65536⟩], by go_num, rfl, by omega, ?_, (by simp <;> omega), ?_, (HW.out.alloc hws _).grown HG5.out (by simp; omega) (fun q hq => (HO.out.lt q hq).1)⟩
          · have e := HCS.out; rw [HT.out] at e; rw [← e]; simp
          · rw [List.length_append, As.flatIn_append]; exact HO5.out
      · have HT : Hid (As.tailI r n 2 = ⟨21, r, 0, 0, n / 65536 % 65536⟩ :: As.tailI r n 1) := by show _ :: _ = _; simp
        have hws : w.heap.size ≤ wr.heap.size := HW.out.size
        go_wp2_with (first | (at_builtin; refine wpList_append_lies _ rfl (.tmp 29) (.tmp 38) 80 rfl w.heap.size 51 i0 (.agg #[.int .i64 0, .int .i64 0, .int .i64 0, .int .i64 0, .int .i64 0]) 5 40 Try.underlying80 HI.out HZ0.out HZ1.out HZ2.out rfl (by decide) (.slice (some ⟨b, 0, none⟩) cs.length c) cs.length (As.flatIn cs) rfl (HO.out.alloc _) ⟨wr.heap.size, 0, none⟩ 1 1 [.int .i64 21, .int .i64 r, .int .i64 0, .int .i64 0, .int .i64 (n / 65536 % 65536)] rfl rfl (new_cells _ (heap_new (by simp))) (by simp [Value.oneCell']) (by decide) (by simp only [maxLen]; omega) (by omega) (by simp; omega) (wr.heap.size + 1) (by simp) ?_; intro g5 c5 w5 hown5 hgr5 hat5 hlt5; have HO5 := Lib.hid hown5; have HG5 := Lib.hid hgr5; clear hown5 hgr5 hat5) | fail)
        go_roundg 1
        case measure => omega
        case rel =>
          refine ⟨1, g5, c5, cs ++ [⟨21, r, 0, 0, n / 65536 % 65536⟩], by go_num, rfl, by omega, ?_, (by simp <;> omega), ?_, (HW.out.alloc hws _).grown HG5.out (by simp; omega) (fun q hq => (HO.out.lt q hq).1)⟩
          · have e := HCS.out; rw [HT.out] at e; rw [← e]; simp
          · rw [List.length_append, As.flatIn_append]; exact HO5.out
      · omega
  · obtain ⟨v, hv⟩ : ∃ v, Hid ((n / 281474976710656 + 32768) % 65536 - 32768 = v) := ⟨_, rfl⟩
    have T1 : Hid (As.numberI r n 4 = ⟨20, r, 0, 0, v⟩ :: As.tailI r n 3) := by unfold Hid; rw [← hv.out]; simp [As.numberI]
    have hq1 := top_and (n / 281474976710656)
    have hq2 : (n / 281474976710656 + 32768) % 65536 - 32768 = v := hv.out
    go_enter Try.func45, Try.ntmps45
    go_wp2_with fail
    go_loopg [8, 9] 3 (fun gk lv i wx => ∃ (j b c : Nat) (cs : List As.In), i = .int .i64 ((j : Int) - 1) ∧ gk = j ∧ j ≤ 3 ∧ cs ++ As.tailI r n j = As.numberI r n 4 ∧ lv = .slice (some ⟨b, 0, none⟩) cs.length c ∧ wx.ownsRow w.heap.size 51 5 (.slice (some ⟨b, 0, none⟩) cs.length c) cs.length (As.flatIn cs) ∧ Below w.heap.size w wx)
    case atStart => exact ⟨3, _, _, [⟨20, r, 0, 0, v⟩], rfl, rfl, Nat.le_refl _, by rw [T1.out]; rfl, rfl, World.ownsRow_lit _ _ _ (Nat.le_refl _) (show 1 ≤ maxLen by decide) rfl, (Below.refl _ _).alloc (Nat.le_refl _) _⟩
    case round =>
      obtain ⟨j, b, c, cs, rfl, hgk, hj, hcs, rfl, hown, hbw⟩ := hrel
      have HCS := Lib.hid hcs
      have HO := Lib.hid hown
      have HW := Lib.hid hbw
      have hcl : cs.length + j = 4 := by have e := congrArg List.length hcs; simp [As.numberI, As.tailI_length] at e; omega
      clear hcs hown hbw
      rcases (by omega : j = 0 ∨ j = 1 ∨ j = 2 ∨ j = 3) with rfl | rfl | rfl | rfl
      · go_wp2_with fail
        go_ret
        have e : cs = As.numberI r n 4 := by have e := HCS.out; rw [show As.tailI r n 0 = [] from rfl, List.append_nil] at e; exact e
        have e2 : cs.length = 4 := by omega
        have h1 := HO.out
        rw [e2] at h1
        rw [e2]
        refine ⟨b, c, rfl, ?_, HW.out⟩
        rw [← e]
        exact h1
      · have HT : Hid (As.tailI r n 1 = ⟨21, r, 0, 0, n % 65536⟩ :: As.tailI r n 0) := by show _ :: _ = _; simp
        have hws : w.heap.size ≤ wr.heap.size := HW.out.size
        go_wp2_with (first | (at_builtin; refine wpList_append_lies _ rfl (.tmp 29) (.tmp 38) 80 rfl w.heap.size 51 i0 (.agg #[.int .i64 0, .int .i64 0, .int .i64 0, .int .i64 0, .int .i64 0]) 5 40 Try.underlying80 HI.out HZ0.out HZ1.out HZ2.out rfl (by decide) (.slice (some ⟨b, 0, none⟩) cs.length c) cs.length (As.flatIn cs) rfl (HO.out.alloc _) ⟨wr.heap.size, 0, none⟩ 1 1 [.int .i64 21, .int .i64 r, .int .i64 0, .int .i64 0, .int .i64 (n % 65536)] rfl rfl (new_cells _ (heap_new (by simp))) (by simp [Value.oneCell']) (by decide) (by simp only [maxLen]; omega) (by omega) (by simp; omega) (wr.heap.size + 1) (by simp) ?_; intro g5 c5 w5 hown5 hgr5 hat5 hlt5; have HO5 := Lib.hid hown5; have HG5 := Lib.hid hgr5; clear hown5 hgr5 hat5) | fail)
        go_roundg 0
        case measure => omega
        case rel =>
          refine ⟨0, g5, c5, cs ++ [⟨21, r, 0, 0, n % 65536⟩], by go_num, rfl, by omega, ?_, (by simp <;> omega), ?_, (HW.out.alloc hws _).grown HG5.out (by simp; omega) (fun q hq => (HO.out.lt q hq).1)⟩
          · have e := HCS.out; rw [HT.out] at e; rw [← e]; simp
          · rw [List.length_append, As.flatIn_append]; exact HO5.out
      · have HT : Hid (As.tailI r n 2 = ⟨21, r, 0, 0, n / 65536 % 65536⟩ :: As.tailI r n 1) := by show _ :: _ = _; simp
        have hws : w.heap.size ≤ wr.heap.size := HW.out.size
        go_wp2_with (first | (at_builtin; refine wpList_append_lies _ rfl (.tmp 29) (.tmp 38) 80 rfl w.heap.size 51 i0 (.agg #[.int .i64 0, .int .i64 0, .int .i64 0, .int .i64 0, .int .i64 0]) 5 40 Try.underlying80 HI.out HZ0.out HZ1.out HZ2.out rfl (by decide) (.slice (some ⟨b, 0, none⟩) cs.length c) cs.length (As.flatIn cs) rfl (HO.out.alloc _) ⟨wr.heap.size, 0, none⟩ 1 1 [.int .i64 21, .int .i64 r, .int .i64 0, .int .i64 0, .int .i64 (n / 65536 % 65536)] rfl rfl (new_cells _ (heap_new (by simp))) (by simp [Value.oneCell']) (by decide) (by simp only [maxLen]; omega) (by omega) (by simp; omega) (wr.heap.size + 1) (by simp) ?_; intro g5 c5 w5 hown5 hgr5 hat5 hlt5; have HO5 := Lib.hid hown5; have HG5 := Lib.hid hgr5; clear hown5 hgr5 hat5) | fail)
        go_roundg 1
        case measure => omega
        case rel =>
          refine ⟨1, g5, c5, cs ++ [⟨21, r, 0, 0, n / 65536 % 65536⟩], by go_num, rfl, by omega, ?_, (by simp <;> omega), ?_, (HW.out.alloc hws _).grown HG5.out (by simp; omega) (fun q hq => (HO.out.lt q hq).1)⟩
          · have e := HCS.out; rw [HT.out] at e; rw [← e]; simp
          · rw [List.length_append, As.flatIn_append]; exact HO5.out
      · have HT : Hid (As.tailI r n 3 = ⟨21, r, 0, 0, n / 4294967296 % 65536⟩ :: As.tailI r n 2) := by show _ :: _ = _; simp
        have hws : w.heap.size ≤ wr.heap.size := HW.out.size
        go_wp2_with (first | (at_builtin; refine wpList_append_lies _ rfl (.tmp 29) (.tmp 38) 80 rfl w.heap.size 51 i0 (.agg #[.int .i64 0, .int .i64 0, .int .i64 0, .int .i64 0, .int .i64 0]) 5 40 Try.underlying80 HI.out HZ0.out HZ1.out HZ2.out rfl (by decide) (.slice (some ⟨b, 0, none⟩) cs.length c) cs.length (As.flatIn cs) rfl (HO.out.alloc _) ⟨wr.heap.size, 0, none⟩ 1 1 [.int .i64 21, .int .i64 r, .int .i64 0, .int .i64 0, .int .i64 (n / 4294967296 % 65536)] rfl rfl (new_cells _ (heap_new (by simp))) (by simp [Value.oneCell']) (by decide) (by simp only [maxLen]; omega) (by omega) (by simp; omega) (wr.heap.size + 1) (by simp) ?_; intro g5 c5 w5 hown5 hgr5 hat5 hlt5; have HO5 := Lib.hid hown5; have HG5 := Lib.hid hgr5; clear hown5 hgr5 hat5) | fail)
        go_roundg 2
        case measure => omega
        case rel =>
          refine ⟨2, g5, c5, cs ++ [⟨21, r, 0, 0, n / 4294967296 % 65536⟩], by go_num, rfl, by omega, ?_, (by simp <;> omega), ?_, (HW.out.alloc hws _).grown HG5.out (by simp; omega) (fun q hq => (HO.out.lt q hq).1)⟩
          · have e := HCS.out; rw [HT.out] at e; rw [← e]; simp
          · rw [List.length_append, As.flatIn_append]; exact HO5.out
end Go.Proofs.Ytaldcgfhlflcpaa
