/- The walk of MovedFew. -/
import Derived.Test.YtdehgidklcflbaaMovesRight
namespace Go.Proofs.Ytdehgidklcflbaa
open Go.RowKit
set_option linter.unusedVariables false

def usedB (spare : Int) (l : List (Int × Int)) : Bool := l.any (fun m => m.1 == spare || m.2 == spare)
theorem usedB_snoc {spare : Int} {l : List (Int × Int)} {k : Nat} {t f : Int} (h : k < l.length) (hm : l.getD k (0, 0) = (t, f)) : usedB spare (l.take (k + 1)) = (usedB spare (l.take k) || (t == spare || f == spare)) := by
  rw [take_snoc_of h hm]
  unfold usedB
  rw [List.any_append]
  simp
theorem usedB_roots {l : List (Int × Int)} {spare : Int} (hm : mayB l spare = true) : usedB spare (Mv.final l spare).out = decide ((0 : Int) < (Mv.roots l : Nat)) := by
  rw [Bool.eq_iff_iff, decide_eq_true_iff]
  unfold usedB
  rw [List.any_eq_true]
  have h := Mv.order_used (mayB_may hm)
  constructor
  · rintro ⟨m, h1, h2⟩
    have := h.1 ⟨m, h1, by simpa using h2⟩
    omega
  · intro h0
    obtain ⟨m, h1, h2⟩ := h.2 (by omega)
    exact ⟨m, h1, by simpa using h2⟩

set_option maxHeartbeats 4000000 in
theorem few_walk (al : Option Addr) (cap : Nat) (l : List (Int × Int)) (spare : Int) (w : World) (h : MSl w (.slice al l.length cap) l) (hlen : l.length ≤ 9223372036854775807) :
    Calls Try.prog 4 #[.slice al l.length cap, .int .i64 spare] w fun e w' => e = .returned (.bool true) ∧ Below w.heap.size w w' := by
  have H := Lib.hid h
  clear h
  go_enter Try.func4, Try.ntmps4
  go_wp2_with fail
  refine (order_full _ l spare _ H.out hlen).mono ?_
  intro e w1 h1
  unfold OrdAns at h1
  by_cases hm : mayB l spare = true
  · rw [if_pos hm] at h1
    obtain ⟨vo, rfl, hmo, hb1⟩ := h1
    obtain ⟨out, hout⟩ : ∃ out, Hid ((Mv.final l spare).out = out) := ⟨_, rfl⟩
    rw [hout.out] at hmo
    obtain ⟨ao, capo, hvo⟩ := hmo.len
    subst hvo
    have hl1 := Lib.hid (H.out.below hb1)
    have ho1 := Lib.hid hmo
    have HB1 := Lib.hid hb1
    clear hmo hb1
    go_wp2_with fail
    refine (fixed_any _).mono ?_
    rintro e w2 ⟨rfl, hb2⟩
    have hl2 := Lib.hid (hl1.out.below hb2)
    have ho2 := Lib.hid (ho1.out.below hb2)
    have HB2 := Lib.hid (HB1.out.trans (hb2.mono HB1.out.size))
    clear hl1 ho1 HB1 hb2
    go_wp2_with fail
    refine (rounds_any _ l _ hl2.out hlen).mono ?_
    rintro e w3' ⟨rfl, rfl⟩
    have hmy := Lib.hid (mayB_may hm)
    have hol : out.length ≤ 2000 := by rw [← hout.out]; exact out_len hm
    have hl3 := hl2.out
    have ho3 := ho2.out
    have hb3 := HB2.out
    clear hl2 ho2 HB2
    have hl3 := Lib.hid hl3
    have ho3 := Lib.hid ho3
    have HB3 := Lib.hid hb3
    clear hb3
    obtain ⟨n, hn⟩ : ∃ n : Nat, Hid (n = Mv.roots l) := ⟨_, rfl⟩
    rw [← hn.out]
    have hub : Hid (usedB spare out = decide ((0 : Int) < (n : Int))) := by unfold Hid; rw [← hout.out, hn.out]; exact usedB_roots hm
    have hcnt : Hid (((out.length : Nat) : Int) = (l.countP (fun m => decide (m.1 ≠ m.2)) : Nat) + n ∧ l.countP (fun m => decide (m.1 ≠ m.2)) ≤ l.length ∧ n ≤ l.length ∧ l.length ≤ 1000) := by
      unfold Hid
      have h2 : Mv.roots l ≤ l.length := List.countP_le_length
      rw [← hout.out, Mv.order_len hmy.out, hn.out]
      exact ⟨by omega, List.countP_le_length, h2, mayB_len hm⟩
    go_wp2_with fail
    go_loopg [8, 9] out.length (fun g u i wx => ∃ k : Nat, k ≤ out.length ∧ g = out.length - k ∧ i = .int .i64 k ∧ u = .bool (usedB spare (out.take k)) ∧ ∃ nd, wx = w2.drewN nd)
    case atStart => exact ⟨0, Nat.zero_le _, rfl, rfl, rfl, 0, rfl⟩
    case round =>
      obtain ⟨k, hk, rfl, rfl, hu, nd, rfl⟩ := hrel
      by_cases hlt : k < out.length
      · obtain ⟨t, f, hmm⟩ := getD_pair out k
        obtain ⟨b, off, hao, hblt, hcells⟩ := ho3.out.at hlt
        subst hao
        have hc := hcells k hlt
        rw [hmm.out] at hc
        obtain ⟨m0, m1⟩ := hc
        have hmem : Hid ((t, f) ∈ out) := by unfold Hid; rw [← hmm.out]; exact getD_mem hlt
        have hne : (t == f) = false := by
          rw [beq_eq_false_iff_ne]
          have := hmem.out
          rw [← hout.out] at this
          exact (Mv.right_out hmy.out this).2
        have husn := Lib.hid (usedB_snoc (spare := spare) hlt hmm.out)
        have HC := Lib.hid hcells
        clear hcells
        have key : Hid (∃ b0 b1 b2 : Bool, usedB spare (out.take k) = b0 ∧ (t == spare) = b1 ∧ (f == spare) = b2) := ⟨_, _, _, rfl, rfl, rfl⟩
        obtain ⟨b0, b1, b2, k0, k1, k2⟩ := key.out
        rw [k0, k1, k2] at husn
        rw [k0] at hu
        subst hu
        clear key
        have k0 := Lib.hid k0
        cases b0 <;> cases b1 <;> cases b2 <;>
        · go_wp2_with fail
          go_quiet (fail)
          go_wp2
          go_roundg (out.length - (k + 1))
          case measure => omega
          case rel => exact ⟨k + 1, by omega, rfl, by go_num, by rw [husn.out]; rfl, _, rfl⟩
      · have hk2 : k = out.length := by omega
        subst hk2
        rw [List.take_length, hub.out] at hu
        subst hu
        go_wp2_with fail
        refine (real_any _ l _ (hl3.out.drewN _) hlen).mono ?_
        rintro e w4 ⟨rfl, nd2, rfl⟩
        obtain ⟨r, hr⟩ : ∃ r : Nat, Hid (r = l.countP (fun m => decide (m.1 ≠ m.2))) := ⟨_, rfl⟩
        rw [← hr.out] at hcnt ⊢
        obtain ⟨c1, c2, c3, c4⟩ := hcnt.out
        have hcm := Lib.hid hcnt.out
        have hB5 := Lib.hid (below_drewN HB3.out (nd + nd2))
        by_cases hz : 0 < n
        · have hz2 : decide ((0 : Int) < (n : Int)) = true := decide_eq_true (by omega)
          go_wp2
          go_ret
          exact ⟨by simp [hz], hB5.out⟩
        · have hz2 : decide ((0 : Int) < (n : Int)) = false := decide_eq_false (by omega)
          go_wp2
          go_ret
          exact ⟨by simp [hz], hB5.out⟩
  · rw [if_neg hm] at h1
    obtain ⟨rfl, hb1⟩ := h1
    have HB1 := Lib.hid hb1
    clear hb1 hm
    go_wp2_with fail
    refine (fixed_any _).mono ?_
    rintro e w2 ⟨rfl, hb2⟩
    have HB2 := Lib.hid (HB1.out.trans (hb2.mono HB1.out.size))
    clear HB1 hb2
    go_wp2_with fail
    refine (fixed_any _).mono ?_
    rintro e w3 ⟨rfl, hb3⟩
    have HB3 := Lib.hid (HB2.out.trans (hb3.mono HB2.out.size))
    clear HB2 hb3
    go_wp2
    go_ret
    exact ⟨rfl, HB3.out⟩
end Go.Proofs.Ytdehgidklcflbaa
