/- The walk of MovedRounds. -/
import Derived.Test.YtdehgidklcflbaaMovesAny
import Derived.Test.YtdehgidklcflbaaMovesRing
namespace Go.Proofs.Ytdehgidklcflbaa
open Go.RowKit
set_option linter.unusedVariables false

theorem ring_whole (N : Nat) (f : Int) : (Mv.ring N f).take N = Mv.ring N f := List.take_of_length_le (by rw [Mv.ring_len]; exact Nat.le_refl _)
theorem take_mayB {N : Nat} (f : Int) (h2 : N ≤ 200) {k : Nat} (hk : k ≤ N) : mayB ((Mv.ring N f).take k) (f - 1) = true := by
  unfold mayB
  rw [Mv.ring_may N f k hk, List.length_take, Mv.ring_len, Nat.min_eq_left hk, decide_eq_true (by omega)]
  rfl
theorem ring_ans {N : Nat} (f : Int) (h1 : 2 ≤ N) (h2 : N ≤ 200) : errOf (Mv.ring N f) (f - 1) = 0 ∧ (outOf (Mv.ring N f) (f - 1)).length = N + 1 := by
  have hm := take_mayB f h2 (Nat.le_refl N)
  have hc := Mv.ring_real N f N h1 (Nat.le_refl _)
  rw [ring_whole] at hm hc
  unfold errOf outOf
  rw [if_pos hm, if_pos hm]
  exact ⟨rfl, by rw [Mv.order_len (mayB_may hm), hc, Mv.ring_roots h1]⟩
theorem chain_ans {N : Nat} (f : Int) (h1 : 2 ≤ N) (h2 : N ≤ 200) : errOf ((Mv.ring N f).take (N - 1)) (f - 1) = 0 ∧ (outOf ((Mv.ring N f).take (N - 1)) (f - 1)).length = N - 1 := by
  have hm := take_mayB f h2 (by omega : N - 1 ≤ N)
  have hc := Mv.ring_real N f (N - 1) h1 (by omega)
  unfold errOf outOf
  rw [if_pos hm, if_pos hm]
  exact ⟨rfl, by rw [Mv.order_len (mayB_may hm), hc, Mv.chain_roots h1, Nat.add_zero]⟩
def twoOf (f : Int) : List (Int × Int) := [(f, f + 1), (f + 1, f)]
theorem two_ring (f : Int) : Mv.ring 2 f = twoOf f := by
  simp [Mv.ring, Mv.ringAt, twoOf, List.range_succ]
theorem two_ans (f : Int) : errOf (twoOf f) (f - 1) = 0 ∧ (outOf (twoOf f) (f - 1)).length = 3 ∧ Mv.stands (outOf (twoOf f) (f - 1)) f = f + 1 ∧ Mv.stands (outOf (twoOf f) (f - 1)) (f + 1) = f := by
  have h := ring_ans (N := 2) f (by omega) (by omega)
  have hm := take_mayB (N := 2) f (by omega) (Nat.le_refl 2)
  rw [ring_whole, two_ring] at hm
  rw [two_ring] at h
  refine ⟨h.1, h.2, ?_, ?_⟩
  · unfold outOf; rw [if_pos hm]; exact Mv.right_to (mayB_may hm) (by simp [twoOf])
  · unfold outOf; rw [if_pos hm]; exact Mv.right_to (mayB_may hm) (by simp [twoOf])

theorem MSl.take {w : World} {a : Option Addr} {L c : Nat} {l : List (Int × Int)} (h : MSl w (.slice a L c) l) {M : Nat} (hM : M ≤ L) (c' : Nat) : MSl w (.slice a M c') (l.take M) := by
  obtain ⟨a', cap, e, h⟩ := h
  injection e with e1 e2 e3
  subst e1
  rw [e2] at hM
  refine ⟨a, c', by rw [List.length_take, Nat.min_eq_left hM], ?_⟩
  rcases h with rfl | ⟨b, off, h1, h2, h3⟩
  · exact .inl (by simp)
  · refine .inr ⟨b, off, h1, h2, fun j hj => ?_⟩
    rw [List.length_take, Nat.min_eq_left hM] at hj
    have := h3 j (by omega)
    have e : (l.take M).getD j (0, 0) = l.getD j (0, 0) := by
      rw [List.getD_eq_getElem?_getD, List.getD_eq_getElem?_getD, List.getElem?_take_of_lt hj]
    rw [e]
    exact this

theorem flat_cells {w : World} {b off : Nat} {l : List (Int × Int)} (h : MCells w b off l) : ∀ j u, (flat l)[j]? = some u → w.cell? ((⟨b, off, none⟩ : Addr).add j) = some u := by
  intro j u hu
  have hj : j < (flat l).length := (List.getElem?_eq_some_iff.1 hu).1
  have hu' : (flat l).getD j undef = u := by rw [List.getD_eq_getElem?_getD, hu]; rfl
  rw [flat_length] at hj
  have hk : j / 2 < l.length := by omega
  obtain ⟨f1, f2⟩ := flat_getD l (j / 2) hk
  obtain ⟨m0, m1⟩ := h (j / 2) hk
  rcases (by omega : j = j / 2 * 2 ∨ j = j / 2 * 2 + 1) with e | e
  · rw [← e, hu'] at f1
    rw [Go.WideShapes.add_plain, e, m0, f1]
  · rw [← e, hu'] at f2
    rw [Go.WideShapes.add_plain, e, ← Nat.add_assoc, m1, f2]
theorem flat_one (l : List (Int × Int)) : ∀ u ∈ flat l, u.oneCell' = true := by
  induction l with
  | nil => intro u h; simp [flat] at h
  | cons p l ih =>
    intro u h
    simp only [flat, List.mem_cons] at h
    rcases h with rfl | rfl | h
    · rfl
    · rfl
    · exact ih u h

set_option maxHeartbeats 4000000 in
theorem rounds_walk (n f : Int) (w : World) :
    Calls Try.prog 6 #[.int .i64 n, .int .i64 f] w fun e w' => e = .returned (.bool true) ∧ Below w.heap.size w w' := by
  go_enter Try.func6, Try.ntmps6
  go_wp2_with fail
  refine (fixed_any _).mono ?_
  rintro e w1 ⟨rfl, hb1⟩
  have HB1 := Lib.hid hb1
  clear hb1
  by_cases hin : 2 ≤ n ∧ n ≤ 200 ∧ -1000 ≤ f ∧ f ≤ 1000
  · obtain ⟨N, rfl⟩ : ∃ N : Nat, n = (N : Int) := ⟨n.toNat, by omega⟩
    obtain ⟨i1, i2, i3, i4⟩ := hin
    have hN1 : 2 ≤ N := by omega
    have hN2 : N ≤ 200 := by omega
    obtain ⟨i0, hi, hz0, hz1, hz2⟩ := info_parts infoM
    have HI := Lib.hid hi
    have HZ0 := Lib.hid hz0
    have HZ1 := Lib.hid hz1
    have HZ2 := Lib.hid hz2
    clear hi hz0 hz1 hz2
    go_wp2_with fail
    go_loopg [5, 6] N (fun g m i wx => ∃ (k b c : Nat), k ≤ N ∧ g = N - k ∧ i = .int .i64 k ∧ m = .slice (some ⟨b, 0, none⟩) k c ∧ wx.ownsRow w1.heap.size 30 2 (.slice (some ⟨b, 0, none⟩) k c) k (flat ((Mv.ring N f).take k)) ∧ Below w1.heap.size w1 wx)
    case atStart =>
      exact ⟨0, _, _, Nat.zero_le _, rfl, rfl, rfl, World.ownsRow_lit _ _ _ (Nat.le_refl _) (by decide) rfl, (Below.refl _ _).alloc (Nat.le_refl _) _⟩
    case round =>
      obtain ⟨k, g, c, hk, rfl, rfl, rfl, hown, hb⟩ := hrel
      have HOWN := Lib.hid hown
      have HB := Lib.hid hb
      clear hown hb
      by_cases hlt : k < N
      · have hn0 : (N : Int) ≠ 0 := by omega
        obtain ⟨q, hqd⟩ : ∃ q, Hid ((k + 1) % N = q) := ⟨_, rfl⟩
        have hql : q < N := by rw [← hqd.out]; exact Nat.mod_lt _ (by omega)
        have hq : ((k : Int) + 1).tmod (N : Int) = (q : Int) := by
          rw [Int.tmod_eq_emod_of_nonneg (by omega), ← hqd.out, Int.natCast_emod, Int.natCast_add]
          rfl
        have hsn : Hid ((Mv.ring N f).take (k + 1) = (Mv.ring N f).take k ++ [(f + (k : Int), f + (q : Int))]) := by
          unfold Hid
          rw [Mv.ring_snoc N f k hlt, ← hqd.out]
          rfl
        have hbs := HB.out.size
        go_wp2_with (first | (at_builtin; refine wpList_append_own _ rfl (.tmp 39) (.tmp 50) 22 rfl w1.heap.size 30 i0 (.agg #[.int .i64 0, .int .i64 0]) 2 16 Try.underlying22 HI.out HZ0.out HZ1.out HZ2.out rfl (by decide) (.slice (some ⟨g, 0, none⟩) k c) k (flat ((Mv.ring N f).take k)) rfl (HOWN.out.alloc _) ⟨wr.heap.size, 0, none⟩ 1 1 [.int .i64 (f + (k : Int)), .int .i64 (f + (q : Int))] rfl rfl (new_cells _ (heap_new (by simp))) (by simp [Value.oneCell']) (by simp only [maxLen]; omega) (by omega) (by simp; omega) ?_; intro v' w2 hown2 hgr hnil) | fail)
        obtain ⟨g', c', hv', hg1⟩ : ∃ g' c', v' = .slice (some ⟨g', 0, none⟩) (k + 1) c' ∧ True := by
          rcases own_shape hown2 with ⟨h, _⟩ | ⟨g', c', h, h2, h3, _⟩
          · have := (hnil.1 h).1
            cases this
          · exact ⟨g', c', h, trivial⟩
        subst hv'
        have HB2 : Hid (Below w1.heap.size w1 w2) := (HB.out.alloc hbs _).grown hgr (by simp; omega) (fun k h => (HOWN.out.lt k h).1)
        have HOWN3 : Hid (w2.ownsRow w1.heap.size 30 2 (.slice (some ⟨g', 0, none⟩) (k + 1) c') (k + 1) (flat ((Mv.ring N f).take (k + 1)))) := by
          unfold Hid
          rw [hsn.out, flat_append]
          exact hown2
        clear hown2 hgr hnil hg1
        go_wp2
        go_roundg (N - (k + 1))
        case measure => omega
        case rel => exact ⟨k + 1, g', c', by omega, rfl, by go_num, rfl, HOWN3.out, HB2.out⟩
      · obtain rfl : k = N := by omega
        have hms : Hid (MSl wr (.slice (some ⟨g, 0, none⟩) k c) (Mv.ring k f)) := by
          refine msl_of_own (B := w1.heap.size) ?_
          have := HOWN.out
          rw [ring_whole] at this
          rw [Mv.ring_len]
          exact this
        have hcap : k ≤ c := by
          rcases own_shape HOWN.out with ⟨h, _⟩ | ⟨_, _, h, _, _, h3, _⟩
          · cases h
          · cases h; exact h3
        have HB2 := Lib.hid (HB1.out.trans (HB.out.mono HB1.out.size))
        clear HOWN HB HB1 hk hlt
        obtain ⟨M, hM⟩ : ∃ M : Nat, (k : Int) - 1 = (M : Int) := ⟨k - 1, by omega⟩
        have hMk : Hid (M = k - 1) := by unfold Hid; omega
        go_wp2_with fail
        refine (order_full _ (Mv.ring k f) (f - 1) _ hms.out (by rw [Mv.ring_len]; omega)).mono ?_
        intro e w3 h3
        obtain ⟨ao, capo, out, hout, rfl, ho3, hb3⟩ := ord_any h3
        clear h3
        obtain ⟨ra1, ra2⟩ := ring_ans f hN1 hN2
        rw [← hout.out] at ra2
        rw [ra1]
        rw [ra2]
        clear ra1 ra2 ho3 hout
        have hms3 := Lib.hid (hms.out.below hb3)
        have HB3 := Lib.hid (HB2.out.trans (hb3.mono HB2.out.size))
        clear hms HB2 hb3
        go_wp2_with fail
        refine (order_full _ ((Mv.ring k f).take M) (f - 1) _ (hms3.out.take (by have := hMk.out; omega) c) (by rw [List.length_take]; have := Mv.ring_len k f; omega)).mono ?_
        intro e w4 h4
        obtain ⟨bo, capb, out2, hout2, rfl, ho4, hb4⟩ := ord_any h4
        clear h4
        obtain ⟨ra1, ra2⟩ := chain_ans f hN1 hN2
        rw [← hMk.out, ← hout2.out] at ra2
        rw [← hMk.out] at ra1
        rw [ra1]
        rw [ra2]
        clear ra1 ra2 ho4 hout2 hms3
        have HB4 := Lib.hid (HB3.out.trans (hb4.mono HB3.out.size))
        clear HB3 hb4
        go_wp2_with fail
        refine (order_full _ (twoOf f) (f - 1) _ (msl_new w4 _ _ rfl) (by show (2 : Nat) ≤ _; omega)).mono ?_
        intro e w5 h5
        obtain ⟨ta, capt, two, htwo, rfl, ht5, hb5⟩ := ord_any h5
        clear h5
        obtain ⟨ra1, ra2, ra3, ra4⟩ := two_ans f
        rw [← htwo.out] at ra2 ra3 ra4
        obtain ⟨b2, off2, hta, hlt2, hcells⟩ := ht5.at (k := 0) (by rw [ra2]; omega)
        subst hta
        rw [ra1]
        rw [ra2]
        have H3 := Lib.hid ra3
        have H4 := Lib.hid ra4
        have HL2 := Lib.hid ra2
        have HC := Lib.hid hcells
        have HB5 : Hid (Below w.heap.size w w5) := (HB4.out.alloc HB4.out.size _).trans (hb5.mono (by have := HB4.out.size; simp; omega))
        have HFL : Hid ((flat two).length = 3 * 2) := by unfold Hid; rw [flat_length, ra2]
        clear ra1 ra2 ra3 ra4 ht5 htwo HB4 hb5 hcells
        go_wp2_with (first | (at_builtin; refine wpList_append_own _ rfl (.tmp 104) (.tmp 105) 22 rfl w5.heap.size 30 i0 (.agg #[.int .i64 0, .int .i64 0]) 2 16 Try.underlying22 HI.out HZ0.out HZ1.out HZ2.out rfl (by decide) (.slice (some ⟨w5.heap.size, 0, none⟩) 0 0) 0 [] rfl (World.ownsRow_lit _ _ _ (Nat.le_refl _) (by decide) rfl) ⟨b2, off2, none⟩ 3 capt (flat two) rfl HFL.out (flat_cells (HC.out.below ((Below.refl _ _).alloc (Nat.le_refl _) _) hlt2)) (flat_one _) (by decide) (by decide) (by simp) ?_; intro v6 w6 hown6 hgr6 _; simp only [Nat.zero_add, List.nil_append] at hown6; have hb6 : Hid (Below w5.heap.size w5 w6) := ((Below.refl _ _).alloc (Nat.le_refl _) _).grown hgr6 (by simp) (fun k h => by simp [Value.ownBlock] at h; omega); clear hgr6) | (at_builtin; refine wpList_append_own _ rfl (.tmp 106) (.tmp 107) 22 rfl w5.heap.size 30 i0 (.agg #[.int .i64 0, .int .i64 0]) 2 16 Try.underlying22 HI.out HZ0.out HZ1.out HZ2.out rfl (by decide) v6 3 (flat two) rfl hown6 ⟨b2, off2, none⟩ 3 capt (flat two) rfl HFL.out (flat_cells (HC.out.below hb6.out hlt2)) (flat_one _) (by decide) (by decide) hb6.out.size ?_; intro v7 w7 hown7 hgr7 _; have hb7 : Hid (Below w5.heap.size w5 w7) := hb6.out.grown hgr7 hb6.out.size (fun k h => (hown6.lt k h).1); have hm7 : Hid (MSl w7 v7 (two ++ two)) := msl_of_own (B := w5.heap.size) (by rw [flat_append, List.length_append, HL2.out]; exact hown7); clear hown7 hgr7 hown6) | (go_at_call 10; refine (stands_any _ (two ++ two) _ _ hm7.out (by rw [List.length_append, HL2.out]; decide)).mono ?_; rintro e w' ⟨rfl, hw⟩; obtain rfl := hw; rw [Mv.stands_app]; first | rw [H3.out, H4.out] | rw [H4.out, H3.out]) | fail)
        go_wp2
        go_ret
        exact ⟨rfl, HB5.out.trans (hb7.out.mono HB5.out.size)⟩
  · rcases (by omega : n < 2 ∨ (¬ n < 2 ∧ 200 < n) ∨ (¬ n < 2 ∧ ¬ 200 < n ∧ f < -1000) ∨ (¬ n < 2 ∧ ¬ 200 < n ∧ ¬ f < -1000 ∧ 1000 < f)) with h | ⟨h, h'⟩ | ⟨h, h', h''⟩ | ⟨h, h', h'', h3⟩ <;>
    · clear hin
      go_wp2_with fail
      refine (fixed_any _).mono ?_
      rintro e w2 ⟨rfl, hb2⟩
      have HB2 := Lib.hid (HB1.out.trans (hb2.mono HB1.out.size))
      clear HB1 hb2
      go_wp2
      go_ret
      exact ⟨rfl, HB2.out⟩
end Go.Proofs.Ytdehgidklcflbaa
