/- AsmTells, walked. -/
import Derived.Test.YtbcpflogkniojaaAsmFx
import Derived.Test.YtbcpflogkniojaaAsmO2
namespace Go.Proofs.Ytbcpflogkniojaa
open Go.RowKit
set_option linter.unusedVariables false
set_option linter.unusedSimpArgs false
/-- What assembling answers, in one form. -/
theorem AsmPost.form {w w' : World} {l : List As.It} {e : Ending} (h : AsmPost w l e w') : Below w.heap.size w w' ∧ ∃ (cs ps : List Int) (ac ap : Option Addr) (cc cp : Nat), (cs = if As.err l = 0 then As.code l else []) ∧ (ps = if As.err l = 0 then (As.places0 l).map fun (p : Nat) => (p : Int) else []) ∧ e = .returned (.tuple #[.slice ac cs.length cc, .slice ap ps.length cp, .int .i64 (As.err l)]) ∧ Sl w' (.slice ac cs.length cc) (cs.map (Value.int .u32)) ∧ Sl w' (.slice ap ps.length cp) (ps.map (Value.int .i64)) := by
  obtain ⟨hb, h⟩ := h
  refine ⟨hb, ?_⟩
  by_cases he : As.err l = 0
  · rw [if_pos he] at h
    obtain ⟨vc, vp, rfl, h1, h2⟩ := h
    obtain ⟨ac, cc, rfl⟩ := h1.len
    obtain ⟨ap, cp, rfl⟩ := h2.len
    rw [nums_map] at h2
    refine ⟨_, _, ac, ap, cc, cp, rfl, rfl, ?_, ?_, ?_⟩
    · rw [if_pos he, if_pos he, he, List.length_map, List.length_map, nums, List.length_map]
    · rw [if_pos he]; rw [List.length_map] at h1; exact h1
    · rw [if_pos he]; simp only [nums, List.length_map] at h2 ⊢; exact h2
  · rw [if_neg he] at h
    refine ⟨_, _, none, none, 0, 0, rfl, rfl, ?_, ?_, ?_⟩
    · rw [if_neg he, if_neg he]; exact h
    · rw [if_neg he]; exact ⟨none, 0, rfl, .inl ⟨rfl, rfl, rfl⟩⟩
    · rw [if_neg he]; exact ⟨none, 0, rfl, .inl ⟨rfl, rfl, rfl⟩⟩
theorem asm_lens (l : List As.It) : (if As.err l = 0 then As.code l else []).length ≤ 262144 ∧ (if As.err l = 0 then (As.places0 l).map fun (p : Nat) => (p : Int) else []).length ≤ 65536 := by
  by_cases he : As.err l = 0
  · have hg := As.good_of he
    rw [if_pos he, if_pos he]
    have := As.cod_len hg.may l.length hg.len
    rw [As.cod_full] at this
    exact ⟨this, by rw [List.length_map, As.places0_length]; exact hg.len⟩
  · rw [if_neg he, if_neg he]
    simp
set_option maxHeartbeats 4000000 in
theorem tells_walk (al : Option Addr) (cap : Nat) (l : List As.It) (W : World) (hm : ISl W (.slice al l.length cap) l) (hlen : l.length ≤ 9223372036854775807) (hcap : l.length ≤ cap) :
    Calls Try.prog 3 #[.slice al l.length cap] W fun e W' => e = .returned (.bool true) ∧ Below W.heap.size W W' := by
  have HM := Lib.hid hm
  obtain ⟨E, hE⟩ : ∃ E, Hid (As.err l = E) := ⟨_, rfl⟩
  have HLE := Lib.hid (asm_lens l)
  clear hm
  rcases (by omega : (3000 < l.length ∧ l.length ≤ 65536) ∨ l.length ≤ 3000 ∨ (3000 < l.length ∧ 65536 < l.length)) with ⟨h1, h2⟩ | h1 | ⟨h1, h2⟩
  · have g1 : (3000 : Int) < l.length := by omega
    have g2 : (l.length : Int) ≤ 65536 := by omega
    go_enter Try.func3, Try.ntmps3
    go_wp2_with fail
    with_reducible refine (fixed_any _).mono ?_
    rintro e w1 ⟨rfl, hb⟩
    have HB := Lib.hid hb
    clear hb
    go_wp2_with fail
    go_ret
    exact ⟨rfl, HB.out⟩
  · have g1 : ¬ (3000 : Int) < l.length := by omega
    go_enter Try.func3, Try.ntmps3
    go_wp2_with fail
    with_reducible refine (assemble_any al cap l _ HM.out hlen).mono ?_
    intro e w1 h1
    obtain ⟨hb1, cs, ps, ac, ap, cc, cp, hcs, hps, rfl, hc1, hp1⟩ := h1.form
    have B1 := Lib.hid hb1
    have HC1 := Lib.hid hc1
    have HP1 := Lib.hid hp1
    have HCS := Lib.hid hcs
    have HPS := Lib.hid hps
    have HM1 := Lib.hid (HM.out.below hb1 (Nat.le_refl _))
    rw [hE.out]
    clear h1 hb1 hc1 hp1 hcs hps
    go_wp2_with fail
    with_reducible refine (rassemble_any al cap l _ HM1.out hcap hlen).mono ?_
    intro e w2 h2
    obtain ⟨hb2, cs2, ps2, ac2, ap2, cc2, cp2, hcs, hps, rfl, hc2, hp2⟩ := h2.form
    rw [← HCS.out] at hcs
    rw [← HPS.out] at hps
    subst hcs
    subst hps
    rw [hE.out]
    have C2 := Lib.hid (HC1.out.below hb2 (Nat.le_refl _))
    have P2 := Lib.hid (HP1.out.below hb2 (Nat.le_refl _))
    have HC2 := Lib.hid hc2
    have HP2 := Lib.hid hp2
    have B2 := Lib.hid (B1.out.trans (hb2.mono B1.out.size))
    clear h2 hb2 hc2 hp2 HC1 HP1
    go_wp2_with fail
    with_reducible refine (fixed_any _).mono ?_
    rintro e w3 ⟨rfl, hb3⟩
    have C3 := Lib.hid (C2.out.below hb3 (Nat.le_refl _))
    have P3 := Lib.hid (P2.out.below hb3 (Nat.le_refl _))
    have D3 := Lib.hid (HC2.out.below hb3 (Nat.le_refl _))
    have Q3 := Lib.hid (HP2.out.below hb3 (Nat.le_refl _))
    have B3 := Lib.hid (B2.out.trans (hb3.mono B2.out.size))
    clear hb3 C2 P2 HC2 HP2
    go_wp2_with fail
    with_reducible refine (same21 _ ac ac2 cc cc2 _ C3.out D3.out (by have := HLE.out.1; rw [← HCS.out] at this; omega)).mono ?_
    rintro e w4 ⟨rfl, nd, rfl⟩
    go_wp2_with fail
    with_reducible refine (same17 _ ap ap2 cp cp2 _ (P3.out.drewN nd) (Q3.out.drewN nd) (by have := HLE.out.2; rw [← HPS.out] at this; omega)).mono ?_
    rintro e w5 ⟨rfl, nd2, rfl⟩
    go_wp2_with fail
    go_ret
    exact ⟨rfl, below_drewN B3.out (nd + nd2)⟩
  · have g1 : (3000 : Int) < l.length := by omega
    have g2 : ¬ (l.length : Int) ≤ 65536 := by omega
    go_enter Try.func3, Try.ntmps3
    go_wp2_with fail
    with_reducible refine (assemble_any al cap l _ HM.out hlen).mono ?_
    intro e w1 h1
    obtain ⟨hb1, cs, ps, ac, ap, cc, cp, hcs, hps, rfl, hc1, hp1⟩ := h1.form
    have B1 := Lib.hid hb1
    have HC1 := Lib.hid hc1
    have HP1 := Lib.hid hp1
    have HCS := Lib.hid hcs
    have HPS := Lib.hid hps
    have HM1 := Lib.hid (HM.out.below hb1 (Nat.le_refl _))
    rw [hE.out]
    clear h1 hb1 hc1 hp1 hcs hps
    go_wp2_with fail
    with_reducible refine (rassemble_any al cap l _ HM1.out hcap hlen).mono ?_
    intro e w2 h2
    obtain ⟨hb2, cs2, ps2, ac2, ap2, cc2, cp2, hcs, hps, rfl, hc2, hp2⟩ := h2.form
    rw [← HCS.out] at hcs
    rw [← HPS.out] at hps
    subst hcs
    subst hps
    rw [hE.out]
    have C2 := Lib.hid (HC1.out.below hb2 (Nat.le_refl _))
    have P2 := Lib.hid (HP1.out.below hb2 (Nat.le_refl _))
    have HC2 := Lib.hid hc2
    have HP2 := Lib.hid hp2
    have B2 := Lib.hid (B1.out.trans (hb2.mono B1.out.size))
    clear h2 hb2 hc2 hp2 HC1 HP1
    go_wp2_with fail
    with_reducible refine (fixed_any _).mono ?_
    rintro e w3 ⟨rfl, hb3⟩
    have C3 := Lib.hid (C2.out.below hb3 (Nat.le_refl _))
    have P3 := Lib.hid (P2.out.below hb3 (Nat.le_refl _))
    have D3 := Lib.hid (HC2.out.below hb3 (Nat.le_refl _))
    have Q3 := Lib.hid (HP2.out.below hb3 (Nat.le_refl _))
    have B3 := Lib.hid (B2.out.trans (hb3.mono B2.out.size))
    clear hb3 C2 P2 HC2 HP2
    go_wp2_with fail
    with_reducible refine (same21 _ ac ac2 cc cc2 _ C3.out D3.out (by have := HLE.out.1; rw [← HCS.out] at this; omega)).mono ?_
    rintro e w4 ⟨rfl, nd, rfl⟩
    go_wp2_with fail
    with_reducible refine (same17 _ ap ap2 cp cp2 _ (P3.out.drewN nd) (Q3.out.drewN nd) (by have := HLE.out.2; rw [← HPS.out] at this; omega)).mono ?_
    rintro e w5 ⟨rfl, nd2, rfl⟩
    go_wp2_with fail
    go_ret
    exact ⟨rfl, below_drewN B3.out (nd + nd2)⟩
end Go.Proofs.Ytbcpflogkniojaa
