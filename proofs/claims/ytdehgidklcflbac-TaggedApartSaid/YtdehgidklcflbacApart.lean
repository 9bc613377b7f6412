/- The walk of TaggedApart. -/
import Derived.Test.YtdehgidklcflbacHeads
import Derived.Test.YtdehgidklcflbacMem
namespace Go.Proofs.Ytdehgidklcflbac
open Go.RowKit
set_option linter.unusedVariables false

/-- The number that round k looks at, and its word. -/
def pick (n m : Int) (k : Nat) : Int := if 3 < k then m else n
def cand (n m : Int) (k : Nat) : Int := 8 * pick n m k + (k : Int) % 4
/-- The words that are kept before round k. -/
def kept (n m : Int) : Nat → List Int
  | 0 => []
  | k + 1 => if (makeA ((k : Int) % 4) (pick n m k)).2 = 0 then kept n m k ++ [cand n m k] else kept n m k

theorem kept_len (n m : Int) : ∀ k, (kept n m k).length ≤ k
  | 0 => by simp [kept]
  | k + 1 => by
    have := kept_len n m k
    simp only [kept]
    split
    · simp; omega
    · omega

theorem kept_mem (n m : Int) : ∀ k x, x ∈ kept n m k → ∃ j, j < k ∧ x = cand n m j
  | 0, x, h => by simp [kept] at h
  | k + 1, x, h => by
    simp only [kept] at h
    split at h
    · rw [List.mem_append] at h
      rcases h with h | h
      · obtain ⟨j, hj, rfl⟩ := kept_mem n m k x h; exact ⟨j, by omega, rfl⟩
      · simp at h; exact ⟨k, by omega, h⟩
    · obtain ⟨j, hj, rfl⟩ := kept_mem n m k x h; exact ⟨j, by omega, rfl⟩

theorem kept_ne (n m : Int) (k : Nat) (hk : k < 8) (hnm : n ≠ m) : ∀ x, x ∈ kept n m k → x ≠ cand n m k := by
  intro x hx e
  obtain ⟨j, hj, rfl⟩ := kept_mem n m k x hx
  unfold cand at e
  have e1 : (j : Int) % 4 = (k : Int) % 4 := by omega
  have e2 : pick n m j = pick n m k := by omega
  unfold pick at e2
  split at e2 <;> split at e2 <;> omega

theorem info3 : (Try.prog.info? 3).map (fun i => (i.zero, i.size, i.bytes)) = some (some (.int .i64 0), 1, 8) := by kernel_rfl

set_option maxHeartbeats 2000000 in
theorem apart_walk (n m : Int) (w : World) :
    Calls Try.prog 3 #[.int .i64 n, .int .i64 m] w fun e w' => e = .returned (.bool true) ∧ Below w.heap.size w w' := by
  obtain ⟨i0, hi, hz0, hz1, hz2⟩ := info_parts info3
  have HI := Lib.hid hi
  have HZ0 := Lib.hid hz0
  have HZ1 := Lib.hid hz1
  have HZ2 := Lib.hid hz2
  clear hi hz0 hz1 hz2
  go_enter Try.func3, Try.ntmps3
  go_wp2_with (first | (go_at_call 6; refine (fixed_any _).mono ?_; rintro e w' ⟨rfl, hw⟩; obtain rfl := hw.symm))
  go_loopw [5, 6] (fun v i wr => ∃ k g cap : Nat, k ≤ 8 ∧ i = .int .i64 k ∧ v = .slice (some ⟨g, 0, none⟩) (kept n m k).length cap ∧ wr.ownsRow w.heap.size 3 1 v (kept n m k).length ((kept n m k).map (Value.int .i64)) ∧ Below w.heap.size w wr) (fun _ i _ => 8 - (intOf i).toNat)
  case atStart => exact ⟨0, w.heap.size, 0, by omega, rfl, rfl, World.ownsRow_made w #[] 0 (Nat.le_refl _) (by decide) rfl, (Below.refl _ _).alloc (Nat.le_refl _) _⟩
  case round =>
    obtain ⟨k, g, cap, hk, rfl, rfl, hown, hbel⟩ := hrel
    have HO := Lib.hid hown
    clear hown
    by_cases h8 : k < 8
    · by_cases h3 : 3 < k
      · have hV : Hid (pick n m k = m) := by unfold Hid pick; rw [if_pos h3]
        have hcell := own_ints HO.out
        obtain ⟨hc1, hc2, hc3, hc4⟩ := own_cap HO.out
        have hkl := kept_len n m k
        have t1 : 0 ≤ (k : Int) % 4 := by omega
        have t2 : (k : Int) % 4 < 4 := by omega
        by_cases hok : (makeA ((k : Int) % 4) m).2 = 0
        · obtain ⟨c, hc⟩ : ∃ c, Hid (cand n m k = c) := ⟨_, rfl⟩
          have hcv : Hid (c = 8 * m + (k : Int) % 4) := by unfold Hid; rw [← hc.out]; unfold cand; rw [hV.out]
          have hm : makeA ((k : Int) % 4) m = (c, 0) := by
            have a := makeA_mod ((k : Int) % 4) m (by omega) hok
            rw [← hcv.out] at a
            exact Prod.ext a hok
          have hc5 : c % 8 = (k : Int) % 4 := by have := hcv.out; omega
          have hc6 : c / 8 = m := by have := hcv.out; omega
          have hne : n = m ∨ ((n != m) = true ∧ ∀ j, j < (kept n m k).length → ((kept n m k).getD j 0 == c) = false) := by
            by_cases e : n = m
            · exact .inl e
            · refine .inr ⟨by rw [bne_iff_ne]; exact e, fun j hj => ?_⟩
              rw [beq_eq_false_iff_ne, ← hc.out]
              refine kept_ne n m k h8 e _ ?_
              rw [List.getD_eq_getElem?_getD, List.getElem?_eq_getElem hj]
              exact List.getElem_mem hj
          have HNE := Lib.hid hne
          have hkept : Hid (kept n m (k + 1) = kept n m k ++ [c]) := by
            unfold Hid; rw [← hc.out]; simp only [kept]; rw [hV.out, if_pos hok]
          have HC := Lib.hid hcell
          clear hok hne hcell
          go_wp2_with (first | (go_at_call 7; refine (made_any _ _ _ (by omega)).mono ?_; rintro e w' ⟨rfl, hw⟩; obtain rfl := hw.symm) | (go_at_call 8; refine (tag_any _ _).mono ?_; rintro e w' ⟨rfl, hw⟩; obtain rfl := hw.symm) | (go_at_call 9; refine (value_any _ _).mono ?_; rintro e w' ⟨rfl, hw⟩; obtain rfl := hw.symm))
          go_loop [10] (fun i => ∃ j : Nat, j ≤ (kept n m k).length ∧ i = .int .i64 j) (fun i => (kept n m k).length - (intOf i).toNat)
          case atStart => exact ⟨0, Nat.zero_le _, rfl⟩
          case round =>
            obtain ⟨j, hj, rfl⟩ := hrel
            by_cases hlt : j < (kept n m k).length
            · obtain ⟨x, hx⟩ : ∃ x, Hid ((kept n m k).getD j 0 = x) := ⟨_, rfl⟩
              have hcj := HC.out j hlt
              rw [hx.out] at hcj
              have hq : (n != m) = false ∨ ((n != m) = true ∧ (x == c) = false) := by
                rcases HNE.out with e | ⟨e1, e2⟩
                · exact .inl (by rw [e]; simp)
                · exact .inr ⟨e1, by rw [← hx.out]; exact e2 j hlt⟩
              rcases hq with e1 | ⟨e1, e2⟩
              · cases hb : (x == c)
                all_goals
                  go_wp2
                  go_round
                  case rel => exact ⟨j + 1, by omega, by go_num⟩
                  case measure => simp [intOf]; omega
              · go_wp2
                go_round
                case rel => exact ⟨j + 1, by omega, by go_num⟩
                case measure => simp [intOf]; omega
            · go_wp2_with (first | (at_builtin; refine wpList_append_own _ rfl (.tmp 61) (.tmp 63) 23 rfl w.heap.size 3 i0 (.int .i64 0) 1 8 Try.underlying23 HI.out HZ0.out HZ1.out HZ2.out rfl (by decide) _ _ _ rfl (HO.out.alloc _) ⟨wr.heap.size, 0, none⟩ 1 1 [.int .i64 c] rfl rfl ?c1 ?c2 ?c3 ?c4 ?c5 ?_))
              case c2 => simp [Value.oneCell']
              case c3 => simp only [maxLen]; omega
              case c4 => omega
              case c5 => have := hbel.size; omega
              intro v' w1 hown' hgrow hnn
              obtain ⟨g', cap', rfl⟩ : ∃ g' cap', v' = .slice (some ⟨g', 0, none⟩) ((kept n m k).length + 1) cap' := by
                rcases own_shape hown' with ⟨h, _⟩ | ⟨g', cap', h, _⟩
                · exact absurd h hnn
                · exact ⟨g', cap', h⟩
              have hbel' : Below w.heap.size w w1 := (hbel.alloc (by have := hbel.size; omega) (.cells #[.int .i64 c] 3)).grown hgrow (by simp; have := hbel.size; omega) (by intro q hq; simp [Value.ownBlock] at hq; omega)
              have HO' := Lib.hid hown'
              clear hnn hown' hgrow
              go_wp2
              go_roundw
              case rel => exact ⟨k + 1, g', cap', by omega, by go_num, by rw [hkept.out]; simp, by rw [hkept.out]; simpa using HO'.out, hbel'⟩
              case measure => simp [intOf]; omega
        · have hz := makeA_zero ((k : Int) % 4) m (by omega) hok
          obtain ⟨er, he⟩ : ∃ er, (makeA ((k : Int) % 4) m).2 = er := ⟨_, rfl⟩
          rw [he] at hok
          have hm : makeA ((k : Int) % 4) m = (0, er) := Prod.ext hz he
          have hkept : Hid (kept n m (k + 1) = kept n m k) := by
            unfold Hid; simp only [kept]; rw [hV.out, he, if_neg hok]
          have her : (er != 0) = true := by rw [bne_iff_ne]; exact hok
          clear hz he hok hcell
          go_wp2_with (first | (go_at_call 7; refine (made_any _ _ _ (by omega)).mono ?_; rintro e w' ⟨rfl, hw⟩; obtain rfl := hw.symm))
          go_roundw
          case rel => exact ⟨k + 1, g, cap, by omega, by go_num, by rw [hkept.out], by rw [hkept.out]; exact HO.out, hbel⟩
          case measure => simp [intOf]; omega
      · have hV : Hid (pick n m k = n) := by unfold Hid pick; rw [if_neg h3]
        have hcell := own_ints HO.out
        obtain ⟨hc1, hc2, hc3, hc4⟩ := own_cap HO.out
        have hkl := kept_len n m k
        have t1 : 0 ≤ (k : Int) % 4 := by omega
        have t2 : (k : Int) % 4 < 4 := by omega
        by_cases hok : (makeA ((k : Int) % 4) n).2 = 0
        · obtain ⟨c, hc⟩ : ∃ c, Hid (cand n m k = c) := ⟨_, rfl⟩
          have hcv : Hid (c = 8 * n + (k : Int) % 4) := by unfold Hid; rw [← hc.out]; unfold cand; rw [hV.out]
          have hm : makeA ((k : Int) % 4) n = (c, 0) := by
            have a := makeA_mod ((k : Int) % 4) n (by omega) hok
            rw [← hcv.out] at a
            exact Prod.ext a hok
          have hc5 : c % 8 = (k : Int) % 4 := by have := hcv.out; omega
          have hc6 : c / 8 = n := by have := hcv.out; omega
          have hne : n = m ∨ ((n != m) = true ∧ ∀ j, j < (kept n m k).length → ((kept n m k).getD j 0 == c) = false) := by
            by_cases e : n = m
            · exact .inl e
            · refine .inr ⟨by rw [bne_iff_ne]; exact e, fun j hj => ?_⟩
              rw [beq_eq_false_iff_ne, ← hc.out]
              refine kept_ne n m k h8 e _ ?_
              rw [List.getD_eq_getElem?_getD, List.getElem?_eq_getElem hj]
              exact List.getElem_mem hj
          have HNE := Lib.hid hne
          have hkept : Hid (kept n m (k + 1) = kept n m k ++ [c]) := by
            unfold Hid; rw [← hc.out]; simp only [kept]; rw [hV.out, if_pos hok]
          have HC := Lib.hid hcell
          clear hok hne hcell
          go_wp2_with (first | (go_at_call 7; refine (made_any _ _ _ (by omega)).mono ?_; rintro e w' ⟨rfl, hw⟩; obtain rfl := hw.symm) | (go_at_call 8; refine (tag_any _ _).mono ?_; rintro e w' ⟨rfl, hw⟩; obtain rfl := hw.symm) | (go_at_call 9; refine (value_any _ _).mono ?_; rintro e w' ⟨rfl, hw⟩; obtain rfl := hw.symm))
          go_loop [10] (fun i => ∃ j : Nat, j ≤ (kept n m k).length ∧ i = .int .i64 j) (fun i => (kept n m k).length - (intOf i).toNat)
          case atStart => exact ⟨0, Nat.zero_le _, rfl⟩
          case round =>
            obtain ⟨j, hj, rfl⟩ := hrel
            by_cases hlt : j < (kept n m k).length
            · obtain ⟨x, hx⟩ : ∃ x, Hid ((kept n m k).getD j 0 = x) := ⟨_, rfl⟩
              have hcj := HC.out j hlt
              rw [hx.out] at hcj
              have hq : (n != m) = false ∨ ((n != m) = true ∧ (x == c) = false) := by
                rcases HNE.out with e | ⟨e1, e2⟩
                · exact .inl (by rw [e]; simp)
                · exact .inr ⟨e1, by rw [← hx.out]; exact e2 j hlt⟩
              rcases hq with e1 | ⟨e1, e2⟩
              · cases hb : (x == c)
                all_goals
                  go_wp2
                  go_round
                  case rel => exact ⟨j + 1, by omega, by go_num⟩
                  case measure => simp [intOf]; omega
              · go_wp2
                go_round
                case rel => exact ⟨j + 1, by omega, by go_num⟩
                case measure => simp [intOf]; omega
            · go_wp2_with (first | (at_builtin; refine wpList_append_own _ rfl (.tmp 61) (.tmp 63) 23 rfl w.heap.size 3 i0 (.int .i64 0) 1 8 Try.underlying23 HI.out HZ0.out HZ1.out HZ2.out rfl (by decide) _ _ _ rfl (HO.out.alloc _) ⟨wr.heap.size, 0, none⟩ 1 1 [.int .i64 c] rfl rfl ?d1 ?d2 ?d3 ?d4 ?d5 ?_))
              case d2 => simp [Value.oneCell']
              case d3 => simp only [maxLen]; omega
              case d4 => omega
              case d5 => have := hbel.size; omega
              intro v' w1 hown' hgrow hnn
              obtain ⟨g', cap', rfl⟩ : ∃ g' cap', v' = .slice (some ⟨g', 0, none⟩) ((kept n m k).length + 1) cap' := by
                rcases own_shape hown' with ⟨h, _⟩ | ⟨g', cap', h, _⟩
                · exact absurd h hnn
                · exact ⟨g', cap', h⟩
              have hbel' : Below w.heap.size w w1 := (hbel.alloc (by have := hbel.size; omega) (.cells #[.int .i64 c] 3)).grown hgrow (by simp; have := hbel.size; omega) (by intro q hq; simp [Value.ownBlock] at hq; omega)
              have HO' := Lib.hid hown'
              clear hnn hown' hgrow
              go_wp2
              go_roundw
              case rel => exact ⟨k + 1, g', cap', by omega, by go_num, by rw [hkept.out]; simp, by rw [hkept.out]; simpa using HO'.out, hbel'⟩
              case measure => simp [intOf]; omega
        · have hz := makeA_zero ((k : Int) % 4) n (by omega) hok
          obtain ⟨er, he⟩ : ∃ er, (makeA ((k : Int) % 4) n).2 = er := ⟨_, rfl⟩
          rw [he] at hok
          have hm : makeA ((k : Int) % 4) n = (0, er) := Prod.ext hz he
          have hkept : Hid (kept n m (k + 1) = kept n m k) := by
            unfold Hid; simp only [kept]; rw [hV.out, he, if_neg hok]
          have her : (er != 0) = true := by rw [bne_iff_ne]; exact hok
          clear hz he hok hcell
          go_wp2_with (first | (go_at_call 7; refine (made_any _ _ _ (by omega)).mono ?_; rintro e w' ⟨rfl, hw⟩; obtain rfl := hw.symm))
          go_roundw
          case rel => exact ⟨k + 1, g, cap, by omega, by go_num, by rw [hkept.out], by rw [hkept.out]; exact HO.out, hbel⟩
          case measure => simp [intOf]; omega
    · go_wp2
      go_ret
      exact ⟨rfl, hbel⟩
end Go.Proofs.Ytdehgidklcflbac
