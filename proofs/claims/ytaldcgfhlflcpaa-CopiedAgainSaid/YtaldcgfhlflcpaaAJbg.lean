/- The reference's instrs. -/
import Derived.RegionTactic
import Derived.ChangeAlike
import Derived.Test.YtaldcgfhlflcpaaAJbe
import Derived.Test.YtaldcgfhlflcpaaAJbf
set_option linter.unusedVariables false
set_option linter.unusedSimpArgs false
set_option linter.unnecessarySimpa false
namespace Go.Proofs.Ytaldcgfhlflcpaa
open Go.RowKit
set_option maxRecDepth 100000
set_option linter.unusedVariables false
set_option linter.unusedSimpArgs false
def As.instrsI (x : As.It) (long : Bool) (p t : Int) : List As.In :=
  if x.kind = 0 then [⟨x.op, x.a, x.b, x.c, x.n⟩]
  else if x.kind = 2 then (if long = true then [⟨As.opposite x.op, x.a, x.b, 0, 2⟩, ⟨28, 0, 0, 0, t - p - 1⟩] else [⟨x.op, x.a, x.b, 0, t - p⟩])
  else if x.kind = 3 then [⟨28, x.a, 0, 0, t - p⟩]
  else if x.kind = 4 then As.numberI x.a x.num (As.pieces x.num)
  else if x.kind = 5 then As.numberI x.a t 2
  else []
theorem As.instrsI_enc {x : As.It} (h : As.may x = true) (long : Bool) (p : Nat) (t : Int) : (As.instrsI x long p t).map As.In.enc = As.words x long p (t - p) := by
  unfold As.instrsI As.words
  split
  · rfl
  split
  · rename_i h2
    obtain ⟨h1, h3, h4, h5, h6⟩ := As.may_2 h h2
    have hc := (As.c_zero h1 h3 (by omega)).1
    cases long
    · simp [As.In.enc, hc]
    · simp [As.In.enc]
  split
  · rename_i h3
    obtain ⟨h1, h4, h5, h6⟩ := As.may_3 h h3
    have hc := As.c_zero h1 (by omega) (by omega)
    simp [As.In.enc, h4, hc.1, hc.2 h4]
  split
  · exact As.numberI_enc _ _ _
  split
  · rw [As.numberI_enc]
    congr 1
    omega
  · rfl
theorem As.instrsI_length (x : As.It) (long : Bool) (p t : Int) : (As.instrsI x long p t).length ≤ 4 := by
  have h := As.pieces_pos x.num
  unfold As.instrsI
  repeat' split
  all_goals simp [As.numberI, As.tailI_length]
  omega
theorem row_in {w : World} {B : Nat} (hb : B ≤ w.heap.size) (cs : List As.In) (hl : cs.length ≤ 100) : (w.alloc (.cells (As.flatIn cs).toArray 51)).ownsRow B 51 5 (.slice (some ⟨w.heap.size, 0, none⟩) cs.length cs.length) cs.length (As.flatIn cs) := by
  have hf : ∀ cs : List As.In, (As.flatIn cs).length = cs.length * 5 := by
    intro cs
    induction cs with
    | nil => rfl
    | cons x l ih =>
      have e : As.flatIn (x :: l) = x.cells ++ As.flatIn l := rfl
      rw [e, List.length_append, ih]
      simp [As.In.cells]
      omega
  have := World.ownsRow_lit (e := 51) (size := 5) w (As.flatIn cs).toArray cs.length hb (by unfold maxLen; omega) (by simpa using hf cs)
  simpa using this
theorem row_in' {w : World} {B s : Nat} (hs : w.heap.size = s) (hb : B ≤ s) (cs : List As.In) (vs : Array Value) (hv : vs = (As.flatIn cs).toArray) (hl : cs.length ≤ 100) : (w.alloc (.cells vs 51)).ownsRow B 51 5 (.slice (some ⟨s, 0, none⟩) cs.length cs.length) cs.length (As.flatIn cs) := by
  subst hv
  subst hs
  exact row_in hb cs hl
theorem own_base {w : World} {B B' e size n : Nat} {v : Value} {xs : List Value} (ho : w.ownsRow B' e size v n xs) (h : B ≤ B') : w.ownsRow B e size v n xs := by
  obtain ⟨h1, h2⟩ := ho
  refine ⟨h1, ?_⟩
  rcases h2 with h2 | ⟨g1, cap, cur, hv, hg, r⟩
  · exact Or.inl h2
  · exact Or.inr ⟨g1, cap, cur, hv, Nat.le_trans h hg, r⟩
theorem rnumber_two (r n : Int) (w : World) :
    Calls Try.prog 45 #[.int .i64 r, .int .i64 n, .int .i64 2] w fun e w' => ∃ g c, e = .returned (.slice (some ⟨g, 0, none⟩) 2 c) ∧ w'.ownsRow w.heap.size 51 5 (.slice (some ⟨g, 0, none⟩) 2 c) 2 (As.flatIn (As.numberI r n 2)) ∧ Below w.heap.size w w' :=
  rnumber_any r n 2 (by omega) (by omega) w
def InsPost (w : World) (r : List As.In) (e : Ending) (w' : World) : Prop := ∃ v, e = .returned v ∧ w'.ownsRow w.heap.size 51 5 v r.length (As.flatIn r) ∧ Below w.heap.size w w'
set_option maxHeartbeats 8000000 in
set_option maxRecDepth 100000 in
theorem rinstrs_any (x : As.It) (hm : As.may x = true) (long : Bool) (p t : Nat) (hp : p ≤ 1000000) (ht : t ≤ 1000000) (w : World) :
    Calls Try.prog 40 #[.agg #[.int .i64 x.kind, .int .i64 x.op, .int .i64 x.a, .int .i64 x.b, .int .i64 x.c, .int .i64 x.n, .int .i64 x.label, .int .i64 x.num], .bool long, .int .i64 p, .int .i64 t] w (InsPost w (As.instrsI x long p t)) := by
  obtain ⟨r, hr⟩ : ∃ r, Hid (As.instrsI x long p t = r) := ⟨_, rfl⟩
  rw [hr.out]
  have hk2 := fun h => As.may_2 hm h
  have hkinds := As.may_kind hm
  have hpp := As.pieces_pos x.num
  obtain ⟨k, op, a, b, c, n, la, nu⟩ := x
  dsimp only at hkinds hk2 hpp ⊢
  have hw1 : IntKind.i64.wrap ((t : Int) - p) = (t : Int) - p := by rw [IntKind.wrap_i64]; omega
  have hw2 : IntKind.i64.wrap ((t : Int) - p - 1) = (t : Int) - p - 1 := by rw [IntKind.wrap_i64]; omega
  clear hm
  rcases hkinds with rfl | rfl | rfl | rfl | rfl | rfl
  · have hr2 : Hid ([⟨op, a, b, c, n⟩] = r) := hr.out
    clear hr hk2 hpp
    go_enter Try.func40, Try.ntmps40
    go_wp2_with fail
    go_ret
    rw [← hr2.out]
    exact ⟨_, rfl, row_in' (by simp) (by omega) [⟨op, a, b, c, n⟩] _ rfl (Nat.le_of_ble_eq_true rfl), ((((Below.refl w.heap.size w).alloc (Nat.le_refl _) _).alloc (by simp) _).alloc (by simp; omega) _).alloc (by simp; omega) _⟩
  · have hr2 : Hid ([] = r) := hr.out
    clear hr hk2 hpp
    go_enter Try.func40, Try.ntmps40
    go_wp2_with fail
    go_ret
    rw [← hr2.out]
    exact ⟨_, rfl, ⟨rfl, .inl ⟨rfl, rfl⟩⟩, (((Below.refl w.heap.size w).alloc (Nat.le_refl _) _).alloc (by simp) _).alloc (by simp; omega) _⟩
  · obtain ⟨-, o1, o2, -, -⟩ := hk2 rfl
    clear hpp hk2
    cases long
    · have hr2 : Hid ([⟨op, a, b, 0, (t : Int) - p⟩] = r) := hr.out
      clear hr
      go_enter Try.func40, Try.ntmps40
      go_wp2_with fail
      go_ret
      rw [← hr2.out]
      exact ⟨_, rfl, row_in' (by simp) (by omega) [⟨op, a, b, 0, (t : Int) - p⟩] _ rfl (Nat.le_of_ble_eq_true rfl), ((((Below.refl w.heap.size w).alloc (Nat.le_refl _) _).alloc (by simp) _).alloc (by simp; omega) _).alloc (by simp; omega) _⟩
    · have hr2 : Hid ([⟨As.opposite op, a, b, 0, 2⟩, ⟨28, 0, 0, 0, (t : Int) - p - 1⟩] = r) := hr.out
      clear hr
      rcases (by omega : op = 24 ∨ op = 25 ∨ op = 26 ∨ op = 27) with rfl | rfl | rfl | rfl
      · go_enter Try.func40, Try.ntmps40
        go_wp2_with fail
        go_region
        go_wp2_with fail
        go_ret
        rw [← hr2.out]
        exact ⟨_, rfl, row_in' (by simp) (by omega) [⟨25, a, b, 0, 2⟩, ⟨28, 0, 0, 0, (t : Int) - p - 1⟩] _ rfl (Nat.le_of_ble_eq_true rfl), ((((Below.refl w.heap.size w).alloc (Nat.le_refl _) _).alloc (by simp) _).alloc (by simp; omega) _).drew.alloc (by simp; omega) _⟩
      · go_enter Try.func40, Try.ntmps40
        go_wp2_with fail
        go_region
        go_wp2_with fail
        go_ret
        rw [← hr2.out]
        exact ⟨_, rfl, row_in' (by simp) (by omega) [⟨24, a, b, 0, 2⟩, ⟨28, 0, 0, 0, (t : Int) - p - 1⟩] _ rfl (Nat.le_of_ble_eq_true rfl), ((((Below.refl w.heap.size w).alloc (Nat.le_refl _) _).alloc (by simp) _).alloc (by simp; omega) _).drew.alloc (by simp; omega) _⟩
      · go_enter Try.func40, Try.ntmps40
        go_wp2_with fail
        go_region
        go_wp2_with fail
        go_ret
        rw [← hr2.out]
        exact ⟨_, rfl, row_in' (by simp) (by omega) [⟨27, a, b, 0, 2⟩, ⟨28, 0, 0, 0, (t : Int) - p - 1⟩] _ rfl (Nat.le_of_ble_eq_true rfl), ((((Below.refl w.heap.size w).alloc (Nat.le_refl _) _).alloc (by simp) _).alloc (by simp; omega) _).drew.alloc (by simp; omega) _⟩
      · go_enter Try.func40, Try.ntmps40
        go_wp2_with fail
        go_region
        go_wp2_with fail
        go_ret
        rw [← hr2.out]
        exact ⟨_, rfl, row_in' (by simp) (by omega) [⟨26, a, b, 0, 2⟩, ⟨28, 0, 0, 0, (t : Int) - p - 1⟩] _ rfl (Nat.le_of_ble_eq_true rfl), ((((Below.refl w.heap.size w).alloc (Nat.le_refl _) _).alloc (by simp) _).alloc (by simp; omega) _).drew.alloc (by simp; omega) _⟩
  · have hr2 : Hid ([⟨28, a, 0, 0, (t : Int) - p⟩] = r) := hr.out
    clear hr hk2 hpp
    go_enter Try.func40, Try.ntmps40
    go_wp2_with fail
    go_ret
    rw [← hr2.out]
    exact ⟨_, rfl, row_in' (by simp) (by omega) [⟨28, a, 0, 0, (t : Int) - p⟩] _ rfl (Nat.le_of_ble_eq_true rfl), ((((Below.refl w.heap.size w).alloc (Nat.le_refl _) _).alloc (by simp) _).alloc (by simp; omega) _).alloc (by simp; omega) _⟩
  · have hr2 : Hid (As.numberI a nu (As.pieces nu) = r) := hr.out
    have hnl : Hid ((As.numberI a nu (As.pieces nu)).length = As.pieces nu) := by unfold Hid; simp [As.numberI, As.tailI_length]; omega
    clear hr hk2
    go_enter Try.func40, Try.ntmps40
    go_wp2_with fail
    refine wp_still_tail 7 (by kernel_rfl) (by kernel_rfl) ?_
    simp only [List.take_succ_cons, List.take_zero, List.drop_succ_cons, List.drop_zero]
    repeat still_step
    still_call (still_of21 (rpieces_any _ _))
    repeat still_step
    refine wpStill_nil ?_
    show wpList _ _ _ _ _ _
    go_wp2_with fail
    with_reducible refine (rnumber_any _ _ _ hpp.1 hpp.2 _).mono ?_
    rintro e w1 ⟨g1, c1, rfl, ho, hb⟩
    have HO := Lib.hid (own_base ho (B := w.heap.size) (by simp; omega))
    have HB := Lib.hid (((((Below.refl w.heap.size w).alloc (Nat.le_refl _) _).alloc (by simp) _).alloc (by simp; omega) _).drew.trans (hb.mono (by simp; omega)))
    clear ho hb
    go_wp2_with fail
    go_ret
    refine ⟨_, rfl, ?_, HB.out⟩
    rw [← hr2.out, hnl.out]
    exact HO.out
  · have hr2 : Hid (As.numberI a t 2 = r) := hr.out
    have hnl : Hid ((As.numberI a t 2).length = 2) := by unfold Hid; simp [As.numberI, As.tailI_length]
    clear hr hk2
    go_enter Try.func40, Try.ntmps40
    go_wp2_with fail
    with_reducible refine (rnumber_two _ _ _).mono ?_
    rintro e w1 ⟨g1, c1, rfl, ho, hb⟩
    have HO := Lib.hid (own_base ho (B := w.heap.size) (by simp; omega))
    have HB := Lib.hid (((((Below.refl w.heap.size w).alloc (Nat.le_refl _) _).alloc (by simp) _).alloc (by simp; omega) _).trans (hb.mono (by simp; omega)))
    clear ho hb
    go_wp2_with fail
    go_ret
    refine ⟨_, rfl, ?_, HB.out⟩
    rw [← hr2.out, hnl.out]
    exact HO.out
end Go.Proofs.Ytaldcgfhlflcpaa
