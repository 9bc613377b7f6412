/- Order's contract, whole; and the fixed calls of chapter 19. -/
import Derived.Test.YtdehgidklcflbaaMovesRef2
namespace Go.Proofs.Ytdehgidklcflbaa
open Go.RowKit
set_option linter.unusedVariables false

theorem flat_getD : ∀ (o : List (Int × Int)) (j : Nat), j < o.length → (flat o).getD (j * 2) undef = .int .i64 (o.getD j (0, 0)).1 ∧ (flat o).getD (j * 2 + 1) undef = .int .i64 (o.getD j (0, 0)).2
  | [], j, h => by simp at h
  | p :: o, 0, _ => by simp [flat]
  | p :: o, j + 1, h => by
    have := flat_getD o j (by simpa using h)
    simp only [flat, show (j + 1) * 2 = j * 2 + 1 + 1 from by omega, List.getD_cons_succ]
    exact this

theorem msl_of_own {w : World} {B : Nat} {v : Value} {o : List (Int × Int)} (h : w.ownsRow B 30 2 v o.length (flat o)) : MSl w v o := by
  rcases own_shape h with ⟨rfl, hn, _⟩ | ⟨g, cap, rfl, _, hg, _, _⟩
  · have : o = [] := List.eq_nil_of_length_eq_zero hn
    subst this
    exact ⟨none, 0, rfl, .inl rfl⟩
  · refine ⟨_, cap, rfl, .inr ⟨g, 0, rfl, hg, fun j hj => ?_⟩⟩
    have hc := own_cells h
    have hl : (flat o).length = o.length * 2 := flat_length o
    obtain ⟨f1, f2⟩ := flat_getD o j hj
    rw [← f1, ← f2, Nat.zero_add]
    exact ⟨hc _ (by omega), hc _ (by omega)⟩

/-- What Order answers. -/
def OrdAns (w w' : World) (l : List (Int × Int)) (spare : Int) (e : Ending) : Prop :=
  if mayB l spare = true then ∃ v, e = .returned (.tuple #[v, .int .i64 0]) ∧ MSl w' v (Mv.final l spare).out ∧ Below w.heap.size w w'
  else e = .returned (.tuple #[.slice none 0 0, .int .i64 1]) ∧ Below w.heap.size w w'

set_option maxHeartbeats 2000000 in
set_option maxRecDepth 100000 in
theorem order_full (v : Value) (l : List (Int × Int)) (spare : Int) (w : World) (h : MSl w v l) (hlen : l.length ≤ 9223372036854775807) :
    Calls Try.prog 7 #[v, .int .i64 spare] w fun e w' => OrdAns w w' l spare e := by
  obtain ⟨a, cap, rfl, h⟩ := h
  by_cases hbig : 1000 < l.length
  · have hr : Hid (mayB l spare = false) := by unfold Hid mayB; rw [decide_eq_false (by omega)]; rfl
    have hb2 : (1000 : Int) < (l.length : Int) := by omega
    go_enter Try.func7, Try.ntmps7
    go_wp2
    go_ret2
    unfold OrdAns
    rw [hr.out]
    exact ⟨rfl, Below.refl _ _⟩
  by_cases hne : l = []
  · subst hne
    clear h
    have hmm : ∀ w, (Instr.makeMap 37 none).run Try.prog w = .ok (.map (some w.heap.size)) (w.alloc (.map #[] 0)) := fun w => run_makeMap _ w
    have hr : Hid (mayB [] spare = true) := rfl
    go_enter Try.func7, Try.ntmps7
    go_wp2_with fail
    refine wp_loop_rounds 1 ?_
    rw [rounds_succ]
    go_wp2_with fail
    refine wp_loop_rounds 1 ?_
    rw [rounds_succ]
    go_wp2_with fail
    refine wp_loop_rounds 1 ?_
    rw [rounds_succ]
    go_wp2_with fail
    refine wp_loop_rounds 1 ?_
    rw [rounds_succ]
    go_wp2_with fail
    go_ret2
    unfold OrdAns
    rw [hr.out]
    exact ⟨_, rfl, ⟨none, 0, rfl, .inl rfl⟩, (((Below.refl _ _).alloc (Nat.le_refl _) _).alloc (by simp) _).alloc (by simp; omega) _⟩
  · rcases h with h | ⟨b, off, rfl, hb, hl⟩
    · exact absurd h hne
    refine (order_any b off cap l spare w hb hl hne (by omega) ?_).mono ?_
    · intro F hF k hk h
      have hm : Mv.may spare l [] = true := by
        rw [Mv.fill_eq] at hF
        split at hF
        · assumption
        · cases hF
      have hFl : F = l := by
        rw [Mv.fill_eq, if_pos hm] at hF
        injection hF with hF
        exact hF.symm
      subst hFl
      exact Mv.closes_all hm k _ h
    · intro e w' ha
      unfold Ans at ha
      unfold OrdAns
      rw [Mv.order_eq] at ha
      by_cases hm : Mv.may spare l [] = true
      · rw [if_pos ⟨by omega, hm⟩] at ha
        have hb : mayB l spare = true := by unfold mayB; rw [decide_eq_true (by omega), hm]; rfl
        rw [if_pos hb]
        obtain ⟨v, h1, h2, h3⟩ := ha
        exact ⟨v, h1, msl_of_own h2, h3⟩
      · rw [if_neg (by rintro ⟨_, h⟩; exact hm h)] at ha
        have hb : ¬ mayB l spare = true := by
          unfold mayB
          intro h
          rw [Bool.and_eq_true] at h
          exact hm h.2
        rw [if_neg hb]
        exact ha

theorem msl_new (w : World) (l : List (Int × Int)) (cs : Array Value) (hcs : cs = (flat l).toArray) : MSl (w.alloc (.cells cs 30)) (.slice (some ⟨w.heap.size, 0, none⟩) l.length l.length) l := by
  subst hcs
  refine ⟨_, l.length, rfl, .inr ⟨w.heap.size, 0, rfl, by simp, fun j hj => ?_⟩⟩
  have hl : (flat l).length = l.length * 2 := flat_length l
  have hc : ∀ i, i < (flat l).length → (w.alloc (.cells (flat l).toArray 30)).cell? ⟨w.heap.size, i, none⟩ = some ((flat l).getD i undef) := by
    intro i hi
    rw [cell_of_row _ _ i _ _ _ (heap_alloc_new w _)]
    simp [hi]
  obtain ⟨f1, f2⟩ := flat_getD l j hj
  rw [← f1, ← f2, Nat.zero_add]
  exact ⟨hc _ (by omega), hc _ (by omega)⟩

theorem fx1 : mayB [(1, 2), (2, 1)] 9 = true ∧ (Mv.final [(1, 2), (2, 1)] 9).out = [(9, 1), (1, 2), (2, 9)] := by decide
theorem fx2 : mayB [(1, 2), (1, 3)] 9 = false := by decide
theorem fx3 : mayB [(1, 1)] 9 = true ∧ (Mv.final [(1, 1)] 9).out = [] := by decide

theorem MSl.len {w : World} {v : Value} {l : List (Int × Int)} (h : MSl w v l) : ∃ a cap, v = .slice a l.length cap := by
  obtain ⟨a, cap, h, _⟩ := h; exact ⟨a, cap, h⟩

set_option maxHeartbeats 2000000 in
theorem fixed_any (w : World) : Calls Try.prog 8 #[] w fun e w' => e = .returned (.bool true) ∧ Below w.heap.size w w' := by
  have s1 : Mv.stands [(9, 1), (1, 2), (2, 9)] 1 = 2 := by decide
  have s2 : Mv.stands [(9, 1), (1, 2), (2, 9)] 2 = 1 := by decide
  have HX := Lib.hid (And.intro fx1 (And.intro fx2 fx3))
  go_enter Try.func8, Try.ntmps8
  go_wp2_with fail
  refine (order_full _ [(1, 2), (2, 1)] 9 _ (msl_new w _ _ rfl) (by decide)).mono ?_
  intro e w1 h1
  unfold OrdAns at h1
  rw [HX.out.1.1, if_pos rfl, HX.out.1.2] at h1
  obtain ⟨v1, rfl, hm1, hb1⟩ := h1
  have hb1 := Lib.hid (((Below.refl w.heap.size w).alloc (Nat.le_refl _) (.cells #[.int .i64 1, .int .i64 2, .int .i64 2, .int .i64 1] 30)).trans (hb1.mono (by simp)))
  obtain ⟨a1, cap1, hv1⟩ := hm1.len
  subst hv1
  have HM1 := Lib.hid hm1
  clear hm1
  go_wp2_with fail
  refine (order_full _ [(1, 2), (1, 3)] 9 _ (msl_new w1 _ _ rfl) (by decide)).mono ?_
  intro e w2 h2
  unfold OrdAns at h2
  rw [HX.out.2.1, if_neg (by decide)] at h2
  obtain ⟨rfl, hb2⟩ := h2
  have HM2 := Lib.hid (HM1.out.below (((Below.refl w1.heap.size w1).alloc (Nat.le_refl _) (.cells #[.int .i64 1, .int .i64 2, .int .i64 1, .int .i64 3] 30)).trans (hb2.mono (by simp))))
  have hb2 := Lib.hid (hb1.out.trans ((((Below.refl w1.heap.size w1).alloc (Nat.le_refl _) (.cells #[.int .i64 1, .int .i64 2, .int .i64 1, .int .i64 3] 30)).trans (hb2.mono (by simp))).mono hb1.out.size))
  clear hb1 HM1
  go_wp2_with fail
  refine (order_full _ [(1, 1)] 9 _ (msl_new w2 _ _ rfl) (by decide)).mono ?_
  intro e w3 h3
  unfold OrdAns at h3
  rw [HX.out.2.2.1, if_pos rfl, HX.out.2.2.2] at h3
  obtain ⟨v3, rfl, hm3, hb3⟩ := h3
  have HM3 := Lib.hid (HM2.out.below (((Below.refl w2.heap.size w2).alloc (Nat.le_refl _) (.cells #[.int .i64 1, .int .i64 1] 30)).trans (hb3.mono (by simp))))
  have hb3 := Lib.hid (hb2.out.trans ((((Below.refl w2.heap.size w2).alloc (Nat.le_refl _) (.cells #[.int .i64 1, .int .i64 1] 30)).trans (hb3.mono (by simp))).mono hb2.out.size))
  obtain ⟨a3, cap3, hv3⟩ := hm3.len
  subst hv3
  clear hb2 HM2 hm3
  go_wp2_with (first | (go_at_call 10; refine (stands_any _ _ _ _ HM3.out (by decide)).mono ?_; rintro e w' ⟨rfl, rfl⟩))
  go_ret
  exact ⟨rfl, hb3.out⟩
end Go.Proofs.Ytdehgidklcflbaa
