/- The walks of the references of chapter 19. -/
import Derived.Test.YtdehgidklcflbaaMovesOrd
import Derived.Test.YtdehgidklcflbaaMovesThyE
namespace Go.Proofs.Ytdehgidklcflbaa
open Go.RowKit
set_option linter.unusedVariables false

/-- A slice of moves, empty ones let in. -/
def MSl (w : World) (v : Value) (l : List (Int × Int)) : Prop :=
  ∃ a cap, v = .slice a l.length cap ∧ (l = [] ∨ ∃ b off, a = some ⟨b, off, none⟩ ∧ b < w.heap.size ∧ MCells w b off l)

theorem MSl.below {w w' : World} {v : Value} {l : List (Int × Int)} (h : MSl w v l) (hb : Below w.heap.size w w') : MSl w' v l := by
  obtain ⟨a, cap, h1, h2⟩ := h
  refine ⟨a, cap, h1, ?_⟩
  rcases h2 with h2 | ⟨b, off, h2, h3, h4⟩
  · exact .inl h2
  · exact .inr ⟨b, off, h2, Nat.lt_of_lt_of_le h3 hb.size, h4.below hb h3⟩

theorem getD_pair (l : List (Int × Int)) (k : Nat) : ∃ t f, Hid (l.getD k (0, 0) = (t, f)) := ⟨_, _, rfl⟩

def lookA (l : List (Int × Int)) (p : Int) : Int := (Mv.look l p).getD p

set_option maxHeartbeats 1000000 in
theorem whence_any (v : Value) (l : List (Int × Int)) (p : Int) (w : World) (h : MSl w v l) (hlen : l.length ≤ 9223372036854775807) :
    Calls Try.prog 11 #[v, .int .i64 p] w fun e w' => e = .returned (.tuple #[.int .i64 (lookA l p), .bool (Mv.look l p).isSome]) ∧ w = w' := by
  obtain ⟨a, cap, rfl, h⟩ := h
  rcases h with rfl | ⟨b, off, rfl, hb, hl⟩
  · go_enter Try.func11, Try.ntmps11
    go_wp2_with fail
    refine wp_loop_rounds 1 ?_
    rw [rounds_succ]
    go_wp2
    go_ret2
    exact ⟨rfl, rfl⟩
  · have HL := Lib.hid hl
    clear hl
    go_enter Try.func11, Try.ntmps11
    go_wp2_with fail
    go_loopg [6] l.length (fun g i wr => ∃ k : Nat, k ≤ l.length ∧ g = l.length - k ∧ i = .int .i64 k ∧ Mv.look (l.drop k) p = Mv.look l p ∧ w = wr)
    case atStart => exact ⟨0, Nat.zero_le _, rfl, rfl, rfl, rfl⟩
    case round =>
      obtain ⟨k, hk, rfl, rfl, hlk, rfl⟩ := hrel
      have HLK := Lib.hid hlk
      clear hlk
      by_cases hlt : k < l.length
      · obtain ⟨t, f, hm⟩ := getD_pair l k
        have hcells := HL.out k hlt
        rw [hm.out] at hcells
        obtain ⟨m0, m1⟩ := hcells
        have hdrop : Hid (l.drop k = (t, f) :: l.drop (k + 1)) := drop_of hlt hm.out
        by_cases he : t = p
        · have e1 : (t == p) = true := by rw [beq_iff_eq]; exact he
          have hr : Hid (Mv.look l p = some f) := by
            unfold Hid
            rw [← HLK.out, hdrop.out]
            simp [Mv.look, he]
          clear he
          go_wp2
          go_ret2
          unfold lookA
          rw [hr.out]
          exact ⟨rfl, rfl⟩
        · have e1 : (t == p) = false := by rw [beq_eq_false_iff_ne]; exact he
          have hr : Hid (Mv.look (l.drop (k + 1)) p = Mv.look l p) := by
            unfold Hid
            rw [← HLK.out, hdrop.out]
            simp only [Mv.look]
            rw [if_neg (fun e => he e.symm)]
          clear he
          go_wp2
          go_roundg (l.length - (k + 1))
          case measure => omega
          case rel => exact ⟨k + 1, by omega, rfl, by go_num, hr.out, rfl⟩
      · have hr : Hid (Mv.look l p = none) := by
          unfold Hid
          rw [← HLK.out, List.drop_eq_nil_of_le (by omega)]
          rfl
        go_wp2
        go_ret2
        unfold lookA
        rw [hr.out]
        exact ⟨rfl, rfl⟩

set_option maxHeartbeats 1000000 in
theorem stands_any (v : Value) (l : List (Int × Int)) (p : Int) (w : World) (h : MSl w v l) (hlen : l.length ≤ 9223372036854775807) :
    Calls Try.prog 10 #[v, .int .i64 p] w fun e w' => e = .returned (.int .i64 (Mv.stands l p)) ∧ w = w' := by
  obtain ⟨a, cap, rfl, h⟩ := h
  rcases h with rfl | ⟨b, off, rfl, hb, hl⟩
  · go_enter Try.func10, Try.ntmps10
    go_wp2_with fail
    refine wp_loop_rounds 1 ?_
    rw [rounds_succ]
    go_wp2
    go_ret
    exact ⟨rfl, rfl⟩
  · have HL := Lib.hid hl
    clear hl
    go_enter Try.func10, Try.ntmps10
    go_wp2_with fail
    go_loopg [1, 5] l.length (fun g pl i wr => ∃ (q : Int), g ≤ l.length ∧ i = .int .i64 ((g : Int) - 1) ∧ pl = .int .i64 q ∧ Mv.stands (l.take g) q = Mv.stands l p ∧ w = wr)
    case atStart => exact ⟨p, Nat.le_refl _, rfl, rfl, by rw [List.take_length], rfl⟩
    case round =>
      obtain ⟨q, hk, rfl, rfl, hst, rfl⟩ := hrel
      have HST := Lib.hid hst
      clear hst
      cases gk with
      | zero =>
        have hr : Hid (Mv.stands l p = q) := by unfold Hid; rw [← HST.out]; rfl
        go_wp2
        go_ret
        rw [hr.out]
        exact ⟨rfl, rfl⟩
      | succ k =>
        obtain ⟨t, f, hm⟩ := getD_pair l k
        have hcells := HL.out k (by omega)
        rw [hm.out] at hcells
        obtain ⟨m0, m1⟩ := hcells
        have htake : Hid (l.take (k + 1) = l.take k ++ [(t, f)]) := take_snoc_of (by omega) hm.out
        have e0 : ((k + 1 : Nat) : Int) - 1 = (k : Int) := by omega
        rw [e0]
        by_cases he : t = q
        · have e1 : (t == q) = true := by rw [beq_iff_eq]; exact he
          have hr : Hid (Mv.stands (l.take k) f = Mv.stands l p) := by
            unfold Hid
            rw [← HST.out, htake.out, Mv.stands_snoc, if_pos he]
          clear he
          go_wp2
          go_roundg k
          case measure => omega
          case rel => exact ⟨f, by omega, by go_num, rfl, hr.out, rfl⟩
        · have e1 : (t == q) = false := by rw [beq_eq_false_iff_ne]; exact he
          have hr : Hid (Mv.stands (l.take k) q = Mv.stands l p) := by
            unfold Hid
            rw [← HST.out, htake.out, Mv.stands_snoc, if_neg he]
          clear he
          go_wp2
          go_roundg k
          case measure => omega
          case rel => exact ⟨q, by omega, by go_num, rfl, hr.out, rfl⟩

set_option maxHeartbeats 1000000 in
theorem real_any (v : Value) (l : List (Int × Int)) (w : World) (h : MSl w v l) (hlen : l.length ≤ 9223372036854775807) :
    Calls Try.prog 13 #[v] w fun e w' => e = .returned (.int .i64 (l.countP (fun m => decide (m.1 ≠ m.2)) : Nat)) ∧ ∃ n, w' = w.drewN n := by
  obtain ⟨a, cap, rfl, h⟩ := h
  rcases h with rfl | ⟨b, off, rfl, hb, hl⟩
  · go_enter Try.func13, Try.ntmps13
    go_wp2_with fail
    refine wp_loop_rounds 1 ?_
    rw [rounds_succ]
    go_wp2
    go_ret
    exact ⟨rfl, 0, rfl⟩
  · have HL := Lib.hid hl
    clear hl
    go_enter Try.func13, Try.ntmps13
    go_wp2_with fail
    go_loopg [3, 4] l.length (fun g n i wr => ∃ (k c : Nat), k ≤ l.length ∧ g = l.length - k ∧ i = .int .i64 k ∧ n = .int .i64 c ∧ c ≤ k ∧ (l.take k).countP (fun m => decide (m.1 ≠ m.2)) = c ∧ ∃ nd, wr = w.drewN nd)
    case atStart => exact ⟨0, 0, Nat.zero_le _, rfl, rfl, rfl, Nat.le_refl _, rfl, 0, rfl⟩
    case round =>
      obtain ⟨k, c, hk, rfl, rfl, rfl, hck, hc, nd, rfl⟩ := hrel
      have HC := Lib.hid hc
      clear hc
      by_cases hlt : k < l.length
      · obtain ⟨t, f, hm⟩ := getD_pair l k
        have hcells := HL.out k hlt
        rw [hm.out] at hcells
        obtain ⟨m0, m1⟩ := hcells
        have htake : Hid (l.take (k + 1) = l.take k ++ [(t, f)]) := take_snoc_of hlt hm.out
        by_cases he : t = f
        · have e1 : (t != f) = false := by rw [bne_eq_false_iff_eq]; exact he
          have hr : Hid ((l.take (k + 1)).countP (fun m => decide (m.1 ≠ m.2)) = c) := by
            unfold Hid
            rw [htake.out, List.countP_append, HC.out]
            simp [he]
          clear he
          go_wp2_with fail
          go_quiet (fail)
          go_wp2
          go_roundg (l.length - (k + 1))
          case measure => omega
          case rel => exact ⟨k + 1, c, by omega, rfl, by go_num, rfl, by omega, hr.out, _, rfl⟩
        · have e1 : (t != f) = true := by rw [bne_iff_ne]; exact he
          have hr : Hid ((l.take (k + 1)).countP (fun m => decide (m.1 ≠ m.2)) = c + 1) := by
            unfold Hid
            rw [htake.out, List.countP_append, HC.out]
            simp [he]
          clear he
          go_wp2_with fail
          go_quiet (fail)
          go_wp2
          go_roundg (l.length - (k + 1))
          case measure => omega
          case rel => exact ⟨k + 1, c + 1, by omega, rfl, by go_num, by go_num, by omega, hr.out, _, rfl⟩
      · have hr : Hid (l.countP (fun m => decide (m.1 ≠ m.2)) = c) := by
          unfold Hid
          have := HC.out
          rw [List.take_of_length_le (by omega)] at this
          exact this
        go_wp2
        go_ret
        rw [hr.out]
        exact ⟨rfl, _, rfl⟩
end Go.Proofs.Ytdehgidklcflbaa
