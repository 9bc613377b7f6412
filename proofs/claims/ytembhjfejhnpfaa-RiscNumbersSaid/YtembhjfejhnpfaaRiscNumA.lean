/- RiscNumbers: a word; the four words that load a number. -/
import Derived.Test.YtembhjfejhnpfaaRiscNum
import Derived.Test.YtembhjfejhnpfaaRiscFixed
import Derived.Test.YtembhjfejhnpfaaRiscWordsW
import Derived.Deep.LoopGhost
import Derived.Laws.AppendOwn
namespace Go.Proofs.Ytembhjfejhnpfaa
open Go.RowKit
set_option linter.unusedVariables false
set_option linter.unusedSimpArgs false
theorem Rs.num_run (x y : Int) (hx : Rs.InR x) (hy : Rs.InR y) : Rs.runI (Rs.numCode x y) [] 0 [] 100 = (⟨x, 18, 17, Rs.numRegs x y, [], [], []⟩, 0) := by
  rw [← Rs.num_go x y hx hy]
  unfold Rs.runI
  rw [if_neg (by unfold Rs.noImage; simp [Rs.numCode, Rs.numL, Rs.numA])]
  rfl
theorem own_keep {w w' : World} {B e size n : Nat} {v : Value} {xs : List Value} (ho : w.ownsRow B e size v n xs) (hb : Below w.heap.size w w') : w'.ownsRow B e size v n xs := by
  obtain ⟨h1, h2⟩ := ho
  refine ⟨h1, ?_⟩
  rcases h2 with h2 | ⟨g1, cap, cur, hv, hg, hh, r⟩
  · exact Or.inl h2
  · exact Or.inr ⟨g1, cap, cur, hv, hg, (hb.block g1 (Array.getElem?_eq_some_iff.1 hh).1).trans hh, r⟩
theorem infoU32 : (Try.prog.info? 24).map (fun i => (i.zero, i.size, i.bytes)) = some (some (.int .u32 0), 1, 4) := by kernel_rfl
set_option maxHeartbeats 4000000 in
theorem word_at (op a b c n W : Int) (hW : Rs.encW op a b c n = W) (w : World) : Calls Try.prog 17 #[.int .i64 op, .int .i64 a, .int .i64 b, .int .i64 c, .int .i64 n] w fun e w' => e = .returned (.int .u32 W) ∧ Below w.heap.size w w' := by
  have HW := Lib.hid hW
  clear hW
  go_enter Try.func17, Try.ntmps17
  go_wp2_with fail
  with_reducible refine (renc_at op a b c n W _ HW.out rfl _).mono ?_
  rintro e w1 ⟨rfl, hb1⟩
  have B1 := Lib.hid hb1
  clear hb1
  go_wp2_with fail
  go_ret
  exact ⟨rfl, B1.out⟩

set_option maxHeartbeats 8000000 in
set_option maxRecDepth 100000 in
theorem loads_any (r x : Int) (hr : r = 1 ∨ r = 2) (hx : Rs.InR x) (w : World) :
    Calls Try.prog 16 #[.int .i64 r, .int .i64 x] w fun e w' => ∃ g cap, e = .returned (.slice (some ⟨g, 0, none⟩) 4 cap) ∧ w'.ownsRow w.heap.size 24 1 (.slice (some ⟨g, 0, none⟩) 4 cap) 4 (u32s (Rs.numL r x)) ∧ Below w.heap.size w w' := by
  have hx' := hx
  unfold Rs.InR at hx'
  have e0 : Rs.encW 20 r 0 0 (x / 281474976710656) = Rs.enc 20 r 0 0 (x / 281474976710656) := if_neg (Rs.good_li r _ hr (by omega) (by omega))
  have e1 : Rs.encW 21 r 0 0 (x / 4294967296 % 65536) = Rs.enc 21 r 0 0 (x / 4294967296 % 65536) := if_neg (Rs.good_lhi r _ hr (by omega) (by omega))
  have e2 : Rs.encW 21 r 0 0 (x / 65536 % 65536) = Rs.enc 21 r 0 0 (x / 65536 % 65536) := if_neg (Rs.good_lhi r _ hr (by omega) (by omega))
  have e3 : Rs.encW 21 r 0 0 (x % 65536) = Rs.enc 21 r 0 0 (x % 65536) := if_neg (Rs.good_lhi r _ hr (by omega) (by omega))
  obtain ⟨W0, hw0⟩ : ∃ W, Rs.enc 20 r 0 0 (x / 281474976710656) = W := ⟨_, rfl⟩
  obtain ⟨W1, hw1⟩ : ∃ W, Rs.enc 21 r 0 0 (x / 4294967296 % 65536) = W := ⟨_, rfl⟩
  obtain ⟨W2, hw2⟩ : ∃ W, Rs.enc 21 r 0 0 (x / 65536 % 65536) = W := ⟨_, rfl⟩
  obtain ⟨W3, hw3⟩ : ∃ W, Rs.enc 21 r 0 0 (x % 65536) = W := ⟨_, rfl⟩
  have HL : Hid (Rs.numL r x = [W0, W1, W2, W3]) := by unfold Hid Rs.numL; rw [hw0, hw1, hw2, hw3]
  have E0 := Lib.hid (e0.trans hw0)
  have E1 := Lib.hid (e1.trans hw1)
  have E2 := Lib.hid (e2.trans hw2)
  have E3 := Lib.hid (e3.trans hw3)
  clear e0 e1 e2 e3 hw0 hw1 hw2 hw3 hr hx
  obtain ⟨i0, hi, hz0, hz1, hz2⟩ := info_parts infoU32
  have HI := Lib.hid hi
  have HZ0 := Lib.hid hz0
  have HZ1 := Lib.hid hz1
  have HZ2 := Lib.hid hz2
  clear hi hz0 hz1 hz2
  have m1 := Rs.i64_16 (x / 4294967296)
  have m2 := Rs.i64_16 (x / 65536)
  have m3 := Rs.i64_16 x
  go_enter Try.func16, Try.ntmps16
  go_wp2_with fail
  with_reducible refine (word_at 20 r 0 0 (x / 281474976710656) W0 E0.out _).mono ?_
  rintro e w1 ⟨rfl, hb1⟩
  have B1 := Lib.hid hb1
  clear hb1
  go_wp2_with fail
  go_loopg [5, 6] 3 (fun g l i wx => ∃ (k b c : Nat), k ≤ 3 ∧ g = 3 - k ∧ i = .int .i64 (32 - 16 * k) ∧ l = .slice (some ⟨b, 0, none⟩) (k + 1) c ∧ wx.ownsRow w.heap.size 24 1 (.slice (some ⟨b, 0, none⟩) (k + 1) c) (k + 1) (u32s ([W0, W1, W2, W3].take (k + 1))) ∧ Below w.heap.size w wx)
  case atStart => exact ⟨0, _, _, by decide, rfl, rfl, rfl, World.ownsRow_lit _ _ _ B1.out.size (by decide) rfl, B1.out.alloc B1.out.size _⟩
  case round =>
    obtain ⟨k, b, c, hk, rfl, rfl, rfl, hown, hb⟩ := hrel
    have HOWN := Lib.hid hown
    have HB := Lib.hid hb
    clear hown hb
    rcases (by omega : k = 0 ∨ k = 1 ∨ k = 2 ∨ k = 3) with rfl | rfl | rfl | rfl
    · go_wp2_with fail
      with_reducible refine (word_at 21 r 0 0 (x / 4294967296 % 65536) W1 E1.out _).mono ?_
      rintro e w2 ⟨rfl, hb2⟩
      have HB2 := Lib.hid (HB.out.trans (hb2.mono HB.out.size))
      have HOWN2 := Lib.hid (own_keep HOWN.out hb2)
      have hs2 := HB2.out.size
      clear hb2
      go_wp2_with (first | (at_builtin; refine wpList_append_own _ rfl (.tmp 16) (.tmp 24) 32 rfl w.heap.size 24 i0 (.int .u32 0) 1 4 Try.underlying32 HI.out HZ0.out HZ1.out HZ2.out rfl (by decide) (.slice (some ⟨b, 0, none⟩) 1 c) 1 (u32s ([W0, W1, W2, W3].take 1)) rfl (HOWN2.out.alloc _) ⟨w2.heap.size, 0, none⟩ 1 1 [.int .u32 W1] rfl rfl (new_cells _ (heap_new (by simp))) (by simp [Value.oneCell']) (by simp only [maxLen]; omega) (by omega) (by simp; omega) ?_; intro v' w3 hown3 hgr hnil))
      obtain ⟨b', c', hv', hb1', hb2'⟩ := own_next (n := 1) (m := 1) hown3 hnil
      subst hv'
      have HB3 := Lib.hid ((HB2.out.alloc hs2 _).grown hgr (by simp; omega) (fun q hq => (HOWN2.out.lt q hq).1))
      have HOWN3 := Lib.hid hown3
      clear hown3 hgr hnil hb1' hb2'
      go_wp2_with fail
      go_roundg (3 - 1)
      case measure => omega
      case rel => exact ⟨1, b', c', by omega, rfl, by go_num, rfl, HOWN3.out, HB3.out⟩
    · go_wp2_with fail
      with_reducible refine (word_at 21 r 0 0 (x / 65536 % 65536) W2 E2.out _).mono ?_
      rintro e w2 ⟨rfl, hb2⟩
      have HB2 := Lib.hid (HB.out.trans (hb2.mono HB.out.size))
      have HOWN2 := Lib.hid (own_keep HOWN.out hb2)
      have hs2 := HB2.out.size
      clear hb2
      go_wp2_with (first | (at_builtin; refine wpList_append_own _ rfl (.tmp 16) (.tmp 24) 32 rfl w.heap.size 24 i0 (.int .u32 0) 1 4 Try.underlying32 HI.out HZ0.out HZ1.out HZ2.out rfl (by decide) (.slice (some ⟨b, 0, none⟩) 2 c) 2 (u32s ([W0, W1, W2, W3].take 2)) rfl (HOWN2.out.alloc _) ⟨w2.heap.size, 0, none⟩ 1 1 [.int .u32 W2] rfl rfl (new_cells _ (heap_new (by simp))) (by simp [Value.oneCell']) (by simp only [maxLen]; omega) (by omega) (by simp; omega) ?_; intro v' w3 hown3 hgr hnil))
      obtain ⟨b', c', hv', hb1', hb2'⟩ := own_next (n := 2) (m := 1) hown3 hnil
      subst hv'
      have HB3 := Lib.hid ((HB2.out.alloc hs2 _).grown hgr (by simp; omega) (fun q hq => (HOWN2.out.lt q hq).1))
      have HOWN3 := Lib.hid hown3
      clear hown3 hgr hnil hb1' hb2'
      go_wp2_with fail
      go_roundg (3 - 2)
      case measure => omega
      case rel => exact ⟨2, b', c', by omega, rfl, by go_num, rfl, HOWN3.out, HB3.out⟩
    · go_wp2_with fail
      with_reducible refine (word_at 21 r 0 0 (x % 65536) W3 E3.out _).mono ?_
      rintro e w2 ⟨rfl, hb2⟩
      have HB2 := Lib.hid (HB.out.trans (hb2.mono HB.out.size))
      have HOWN2 := Lib.hid (own_keep HOWN.out hb2)
      have hs2 := HB2.out.size
      clear hb2
      go_wp2_with (first | (at_builtin; refine wpList_append_own _ rfl (.tmp 16) (.tmp 24) 32 rfl w.heap.size 24 i0 (.int .u32 0) 1 4 Try.underlying32 HI.out HZ0.out HZ1.out HZ2.out rfl (by decide) (.slice (some ⟨b, 0, none⟩) 3 c) 3 (u32s ([W0, W1, W2, W3].take 3)) rfl (HOWN2.out.alloc _) ⟨w2.heap.size, 0, none⟩ 1 1 [.int .u32 W3] rfl rfl (new_cells _ (heap_new (by simp))) (by simp [Value.oneCell']) (by simp only [maxLen]; omega) (by omega) (by simp; omega) ?_; intro v' w3 hown3 hgr hnil))
      obtain ⟨b', c', hv', hb1', hb2'⟩ := own_next (n := 3) (m := 1) hown3 hnil
      subst hv'
      have HB3 := Lib.hid ((HB2.out.alloc hs2 _).grown hgr (by simp; omega) (fun q hq => (HOWN2.out.lt q hq).1))
      have HOWN3 := Lib.hid hown3
      clear hown3 hgr hnil hb1' hb2'
      go_wp2_with fail
      go_roundg (3 - 3)
      case measure => omega
      case rel => exact ⟨3, b', c', by omega, rfl, by go_num, rfl, HOWN3.out, HB3.out⟩
    · go_wp2_with fail
      go_ret
      rw [HL.out]
      exact ⟨b, c, rfl, HOWN.out, HB.out⟩
end Go.Proofs.Ytembhjfejhnpfaa
