/- The walk of MovedRight. -/
import Derived.Test.YtdehgidklcflbaaMovesFull
namespace Go.Proofs.Ytdehgidklcflbaa
open Go.RowKit
set_option linter.unusedVariables false

theorem quiet_left {P : Program} {f : FuncId} {args : Array Value} {w : World} {n : Nat} {v : Value}
    (h : Calls P f args (w.drewN n) fun e w' => e = .returned v ∧ w.drewN n = w') : Calls P f args (w.drewN n) fun e w'' => e = .returned v ∧ ∃ m, w'' = w.drewN m :=
  h.mono fun _ _ ⟨he, hm⟩ => ⟨he, n, hm.symm⟩
theorem quiet_add_left {P : Program} {f : FuncId} {args : Array Value} {w : World} {a n : Nat} {v : Value}
    (h : Calls P f args (w.drewN (a + n)) fun e w' => e = .returned v ∧ w.drewN (a + n) = w') : Calls P f args (w.drewN (a + n)) fun e w'' => e = .returned v ∧ ∃ m, w'' = w.drewN (a + m) :=
  h.mono fun _ _ ⟨he, hm⟩ => ⟨he, n, hm.symm⟩
theorem MSl.drewN {w : World} {v : Value} {l : List (Int × Int)} (h : MSl w v l) (n : Nat) : MSl (w.drewN n) v l := h
theorem mayB_len {l : List (Int × Int)} {spare : Int} (h : mayB l spare = true) : l.length ≤ 1000 := by
  unfold mayB at h
  rw [Bool.and_eq_true] at h
  exact of_decide_eq_true h.1
theorem mayB_may {l : List (Int × Int)} {spare : Int} (h : mayB l spare = true) : Mv.may spare l [] = true := by
  unfold mayB at h
  rw [Bool.and_eq_true] at h
  exact h.2

theorem out_len {l : List (Int × Int)} {spare : Int} (h : mayB l spare = true) : (Mv.final l spare).out.length ≤ 2000 := by
  rw [Mv.order_len (mayB_may h)]
  have h1 := List.countP_le_length (p := fun m : Int × Int => decide (m.1 ≠ m.2)) (l := l)
  have h2 : Mv.roots l ≤ l.length := List.countP_le_length
  have h3 := mayB_len h
  omega
/-- A slice of moves that is not empty lies in a block. -/
theorem MSl.at {w : World} {a : Option Addr} {n cap : Nat} {l : List (Int × Int)} (h : MSl w (.slice a n cap) l) {k : Nat} (hk : k < l.length) : ∃ b off, a = some ⟨b, off, none⟩ ∧ b < w.heap.size ∧ MCells w b off l := by
  obtain ⟨a', cap', e, h⟩ := h
  injection e with e1 e2 e3
  subst e1
  rcases h with h | ⟨b, off, h1, h2, h3⟩
  · rw [h] at hk; simp at hk
  · exact ⟨b, off, h1, h2, h3⟩

set_option maxHeartbeats 4000000 in
theorem right_walk (al : Option Addr) (cap : Nat) (l : List (Int × Int)) (spare : Int) (w : World) (h : MSl w (.slice al l.length cap) l) (hlen : l.length ≤ 9223372036854775807) :
    Calls Try.prog 3 #[.slice al l.length cap, .int .i64 spare] w fun e w' => e = .returned (.bool true) ∧ Below w.heap.size w w' := by
  have H := Lib.hid h
  clear h
  go_enter Try.func3, Try.ntmps3
  go_wp2_with fail
  refine (order_full _ l spare _ H.out hlen).mono ?_
  intro e w1 h1
  unfold OrdAns at h1
  by_cases hm : mayB l spare = true
  · rw [if_pos hm] at h1
    obtain ⟨vo, rfl, hmo, hb1⟩ := h1
    obtain ⟨out, hout⟩ : ∃ out, Hid ((Mv.final l spare).out = out) := ⟨_, rfl⟩
    rw [hout.out] at hmo
    obtain ⟨ao, capo, hvo⟩ := hmo.len
    subst hvo
    have hl1 := Lib.hid (H.out.below hb1)
    have ho1 := Lib.hid hmo
    have HB1 := Lib.hid hb1
    clear hmo hb1
    go_wp2_with fail
    refine (fixed_any _).mono ?_
    rintro e w2 ⟨rfl, hb2⟩
    have hl2 := Lib.hid (hl1.out.below hb2)
    have ho2 := Lib.hid (ho1.out.below hb2)
    have HB2 := Lib.hid (HB1.out.trans (hb2.mono HB1.out.size))
    clear hl1 ho1 HB1 hb2
    go_wp2_with fail
    refine (may_any _ l spare _ hl2.out hlen).mono ?_
    rintro e w3' ⟨rfl, nd, rfl⟩
    have hl3 := hl2.out.drewN nd
    have ho3 := ho2.out.drewN nd
    have hb3 := below_drewN HB2.out nd
    clear hl2 ho2 HB2
    generalize w2.drewN nd = w3 at *
    have hl3 := Lib.hid hl3
    have ho3 := Lib.hid ho3
    have HB3 := Lib.hid hb3
    clear hb3
    have hmy := Lib.hid (mayB_may hm)
    have hol : out.length ≤ 2000 := by rw [← hout.out]; exact out_len hm
    go_wp2_with fail
    go_loopg [7] l.length (fun g i wx => ∃ k : Nat, k ≤ l.length ∧ g = l.length - k ∧ i = .int .i64 k ∧ MSl wx (.slice al l.length cap) l ∧ MSl wx (.slice ao out.length capo) out ∧ Below w.heap.size w wx)
    case atStart => exact ⟨0, Nat.zero_le _, rfl, rfl, hl3.out, ho3.out, HB3.out⟩
    case round =>
      clear hl3 ho3 HB3
      obtain ⟨k, hk, rfl, rfl, hl, ho, hb⟩ := hrel
      have HL := Lib.hid hl
      have HO := Lib.hid ho
      have HB := Lib.hid hb
      clear hl ho hb
      by_cases hlt : k < l.length
      · obtain ⟨t, f, hmm⟩ := getD_pair l k
        obtain ⟨b, off, hal, hblt, hcells⟩ := HL.out.at hlt
        subst hal
        have hc := hcells k hlt
        rw [hmm.out] at hc
        obtain ⟨m0, m1⟩ := hc
        have hmem : Hid ((t, f) ∈ l) := by unfold Hid; rw [← hmm.out]; exact getD_mem hlt
        have hst : Mv.stands out t = f := by rw [← hout.out]; exact Mv.right_to hmy.out hmem.out
        have HC := Lib.hid hcells
        clear hcells
        cases hlk : (Mv.look l f).isSome with
        | true =>
          go_wp2_with fail
          go_quiet ((go_at_call 10; exact quiet_left ((stands_any _ out _ _ (HO.out.drewN _) (by omega)).mono fun e w' h => h)))
          go_wp2_with (first | (go_at_call 11; refine (whence_any _ l _ _ (HL.out.drewN _) hlen).mono ?_; rintro e w' ⟨rfl, hw⟩; obtain rfl := hw) | fail)
          go_quiet (fail)
          go_wp2
          go_roundg (l.length - (k + 1))
          case measure => omega
          case rel => exact ⟨k + 1, by omega, rfl, by go_num, HL.out, HO.out, below_drewN HB.out _⟩
        | false =>
          have hln : Hid (Mv.look l f = none) := by
            unfold Hid
            cases h : Mv.look l f with
            | none => rfl
            | some x => rw [h] at hlk; cases hlk
          have hfs : Hid (f ≠ spare) := (((Mv.may_iff _ _ _).1 hmy.out).1 _ hmem.out).2.2
          have hst2 : Mv.stands out f = f := by rw [← hout.out]; exact Mv.right_else hmy.out hln.out hfs.out
          go_wp2_with fail
          go_quiet ((go_at_call 10; exact quiet_left ((stands_any _ out _ _ (HO.out.drewN _) (by omega)).mono fun e w' h => h)))
          go_wp2_with (first | (go_at_call 11; refine (whence_any _ l _ _ (HL.out.drewN _) hlen).mono ?_; rintro e w' ⟨rfl, hw⟩; obtain rfl := hw) | fail)
          go_quiet ((go_at_call 10; exact quiet_add_left ((stands_any _ out _ _ (HO.out.drewN _) (by omega)).mono fun e w' h => h)))
          go_wp2
          go_roundg (l.length - (k + 1))
          case measure => omega
          case rel => exact ⟨k + 1, by omega, rfl, by go_num, HL.out, HO.out, below_drewN HB.out _⟩
      · go_wp2_with fail
        clear hk hlt
        go_loopg [10] out.length (fun g i wx => ∃ k : Nat, k ≤ out.length ∧ g = out.length - k ∧ i = .int .i64 k ∧ MSl wx (.slice al l.length cap) l ∧ MSl wx (.slice ao out.length capo) out ∧ Below w.heap.size w wx)
        case atStart => exact ⟨0, Nat.zero_le _, rfl, rfl, HL.out, HO.out, HB.out⟩
        case round =>
          clear HL HO HB
          obtain ⟨k, hk, rfl, rfl, hl, ho, hb⟩ := hrel
          have HL := Lib.hid hl
          have HO := Lib.hid ho
          have HB := Lib.hid hb
          clear hl ho hb
          by_cases hlt : k < out.length
          · obtain ⟨t, f, hmm⟩ := getD_pair out k
            obtain ⟨b, off, hao, hblt, hcells⟩ := HO.out.at hlt
            subst hao
            have hc := hcells k hlt
            rw [hmm.out] at hc
            obtain ⟨m0, m1⟩ := hc
            have hmem : Hid ((t, f) ∈ out) := by unfold Hid; rw [← hmm.out]; exact getD_mem hlt
            have hro : Hid ((t = spare ∨ Mv.look l t ≠ none) ∧ t ≠ f) := by
              have := hmem.out
              rw [← hout.out] at this
              exact Mv.right_out hmy.out this
            clear hcells
            cases hlk : (Mv.look l t).isSome with
            | true =>
              go_wp2_with (first | (go_at_call 11; refine (whence_any _ l _ _ HL.out hlen).mono ?_; rintro e w' ⟨rfl, hw⟩; obtain rfl := hw) | fail)
              go_roundg (out.length - (k + 1))
              case measure => omega
              case rel => exact ⟨k + 1, by omega, rfl, by go_num, HL.out, HO.out, HB.out⟩
            | false =>
              have hts : (t != spare) = false := by
                rw [bne_eq_false_iff_eq]
                rcases hro.out.1 with h | h
                · exact h
                · cases hz : Mv.look l t with
                  | none => exact absurd hz h
                  | some x => rw [hz] at hlk; cases hlk
              go_wp2_with (first | (go_at_call 11; refine (whence_any _ l _ _ HL.out hlen).mono ?_; rintro e w' ⟨rfl, hw⟩; obtain rfl := hw) | fail)
              go_roundg (out.length - (k + 1))
              case measure => omega
              case rel => exact ⟨k + 1, by omega, rfl, by go_num, HL.out, HO.out, HB.out⟩
          · go_wp2
            go_ret
            exact ⟨rfl, HB.out⟩
  · rw [if_neg hm] at h1
    obtain ⟨rfl, hb1⟩ := h1
    have hm2 : mayB l spare = false := by simpa using hm
    have hl1 := Lib.hid (H.out.below hb1)
    have HB1 := Lib.hid hb1
    clear hb1 hm
    go_wp2_with fail
    refine (fixed_any _).mono ?_
    rintro e w2 ⟨rfl, hb2⟩
    have hl2 := Lib.hid (hl1.out.below hb2)
    have HB2 := Lib.hid (HB1.out.trans (hb2.mono HB1.out.size))
    clear hl1 HB1 hb2
    go_wp2_with fail
    refine (may_any _ l spare _ hl2.out hlen).mono ?_
    rintro e w3' ⟨rfl, nd, rfl⟩
    go_wp2
    go_ret
    exact ⟨rfl, below_drewN HB2.out _⟩
end Go.Proofs.Ytdehgidklcflbaa
