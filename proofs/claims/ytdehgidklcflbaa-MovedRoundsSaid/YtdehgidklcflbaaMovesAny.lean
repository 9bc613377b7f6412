/- The walk of MovedAnyhow. -/
import Derived.Test.YtdehgidklcflbaaMovesRight
import Derived.Test.YtdehgidklcflbaaMovesTurn
namespace Go.Proofs.Ytdehgidklcflbaa
open Go.RowKit
set_option linter.unusedVariables false

def outOf (l : List (Int × Int)) (spare : Int) : List (Int × Int) := if mayB l spare = true then (Mv.final l spare).out else []
def errOf (l : List (Int × Int)) (spare : Int) : Int := if mayB l spare = true then 0 else 1
theorem ord_any {w w' : World} {l : List (Int × Int)} {spare : Int} {e : Ending} (h : OrdAns w w' l spare e) :
    ∃ ao capo out, Hid (out = outOf l spare) ∧ e = .returned (.tuple #[.slice ao out.length capo, .int .i64 (errOf l spare)]) ∧ MSl w' (.slice ao out.length capo) out ∧ Below w.heap.size w w' := by
  unfold OrdAns at h
  unfold outOf errOf
  split at h
  · rename_i hm
    obtain ⟨v, rfl, hs, hb⟩ := h
    obtain ⟨ao, capo, hv⟩ := hs.len
    subst hv
    refine ⟨ao, capo, _, rfl, ?_, ?_, hb⟩
    · rw [if_pos hm, if_pos hm]
    · rw [if_pos hm]; exact hs
  · rename_i hm
    obtain ⟨rfl, hb⟩ := h
    refine ⟨none, 0, _, rfl, ?_, ?_, hb⟩
    · rw [if_neg hm, if_neg hm]; rfl
    · rw [if_neg hm]; exact ⟨none, 0, rfl, .inl rfl⟩

theorem perm_facts {l m : List (Int × Int)} {spare : Int} (hp : m.Perm l) :
    errOf m spare = errOf l spare ∧ (outOf m spare).length = (outOf l spare).length ∧ (outOf l spare).length ≤ 2000 ∧ mayB m spare = mayB l spare := by
  have hmb : mayB m spare = mayB l spare := by
    unfold mayB
    rw [hp.length_eq, Mv.may_perm hp]
  refine ⟨by unfold errOf; rw [hmb], ?_, ?_, hmb⟩
  · unfold outOf
    rw [hmb]
    split
    · rename_i hm
      have hm1 := mayB_may hm
      have hm2 := mayB_may (hmb.trans hm)
      rw [Mv.order_len hm1, Mv.order_len hm2, hp.countP_eq, Mv.roots_perm hp ((Mv.may_iff _ _ _).1 hm2).2]
    · rfl
  · unfold outOf
    split
    · rename_i hm; exact out_len hm
    · simp

theorem perm_right {l m : List (Int × Int)} {spare : Int} (hp : m.Perm l) (hm : mayB l spare = true) {t f : Int} (h : (t, f) ∈ l) :
    Mv.stands (outOf l spare) t = f ∧ Mv.stands (outOf m spare) t = f := by
  have hmb := (perm_facts (spare := spare) hp).2.2.2.trans hm
  unfold outOf
  rw [if_pos hm, if_pos hmb]
  exact ⟨Mv.right_to (mayB_may hm) h, Mv.right_to (mayB_may hmb) (hp.mem_iff.2 h)⟩

set_option maxHeartbeats 4000000 in
theorem any_walk (al : Option Addr) (cap : Nat) (l : List (Int × Int)) (spare turn : Int) (w : World) (h : MSl w (.slice al l.length cap) l) (hbytes : l.length * 16 ≤ 140737488355328) :
    Calls Try.prog 5 #[.slice al l.length cap, .int .i64 spare, .int .i64 turn] w fun e w' => e = .returned (.bool true) ∧ Below w.heap.size w w' := by
  have H := Lib.hid h
  clear h
  obtain ⟨ml, hml⟩ : ∃ ml, Hid (ml = Mv.spun l (turn % (l.length : Int)).toNat) := ⟨_, rfl⟩
  have hperm : Hid (ml.Perm l) := by unfold Hid; rw [hml.out]; exact Mv.spun_perm _ _
  have hmlen : Hid (ml.length = l.length) := hperm.out.length_eq
  go_enter Try.func5, Try.ntmps5
  go_wp2_with fail
  refine (order_full _ l spare _ H.out (by omega)).mono ?_
  intro e w1 h1
  obtain ⟨ao, capo, out, hout, rfl, ho1, hb1⟩ := ord_any h1
  clear h1
  obtain ⟨er, her⟩ : ∃ er, Hid (er = errOf l spare) := ⟨_, rfl⟩
  rw [← her.out]
  replace ho1 := Lib.hid ho1
  have hl1 := Lib.hid (H.out.below hb1)
  have HB1 := Lib.hid hb1
  clear hb1
  go_wp2_with fail
  obtain ⟨i0, hi, hz0, hz1, hz2⟩ := info_parts infoM
  have HI := Lib.hid hi
  have HZ0 := Lib.hid hz0
  have HZ1 := Lib.hid hz1
  have HZ2 := Lib.hid hz2
  clear hi hz0 hz1 hz2
  go_loopg [10, 11] l.length (fun g m i wx => ∃ (k b c : Nat), k ≤ l.length ∧ g = l.length - k ∧ i = .int .i64 k ∧ m = .slice (some ⟨b, 0, none⟩) k c ∧ wx.ownsRow w1.heap.size 30 2 (.slice (some ⟨b, 0, none⟩) k c) k (flat (ml.take k)) ∧ Below w1.heap.size w1 wx)
  case atStart =>
    exact ⟨0, _, _, Nat.zero_le _, rfl, rfl, rfl, World.ownsRow_lit _ _ _ (Nat.le_refl _) (by decide) rfl, (Below.refl _ _).alloc (Nat.le_refl _) _⟩
  case round =>
    obtain ⟨k, g, c, hk, rfl, rfl, rfl, hown, hb⟩ := hrel
    have HOWN := Lib.hid hown
    have HB := Lib.hid hb
    clear hown hb
    by_cases hlt : k < l.length
    · have hn0 : (l.length : Int) ≠ 0 := by omega
      obtain ⟨t1, t2, -⟩ := Mv.tmod_near turn l.length (by omega)
      have hj := Mv.turn_arith l.length (by omega) k turn
      obtain ⟨r, hr⟩ : ∃ r, turn.tmod (l.length : Int) = r := ⟨_, rfl⟩
      rw [hr] at t1 t2 hj
      obtain ⟨b1, b2, -⟩ := Mv.tmod_near ((k : Int) + r) l.length (by omega)
      obtain ⟨q, hq⟩ : ∃ q, ((k : Int) + r).tmod (l.length : Int) = q := ⟨_, rfl⟩
      rw [hq] at b1 b2 hj
      obtain ⟨j, hjd⟩ : ∃ j, (k + (turn % (l.length : Int)).toNat) % l.length = j := ⟨_, rfl⟩
      rw [hjd] at hj
      have hjl : j < l.length := hjd ▸ Nat.mod_lt _ (by omega)
      obtain ⟨p, hp⟩ : ∃ p, p = l.length - 1 - j := ⟨_, rfl⟩
      have hpi : (l.length : Int) - 1 - (j : Int) = (p : Int) := by omega
      have hpl : p < l.length := by omega
      have hsl : (turn % (l.length : Int)).toNat < l.length := by
        have := Int.emod_lt_of_pos turn (b := (l.length : Int)) (by omega)
        have := Int.emod_nonneg turn hn0
        omega
      have hat : Hid (ml.getD k (0, 0) = l.getD p (0, 0)) := by unfold Hid; rw [hml.out, Mv.spun_at l hsl hlt, hjd, hp]
      obtain ⟨t, f, hm⟩ := getD_pair l p
      obtain ⟨b, off, hal, hblt, hcells⟩ := (hl1.out.below HB.out).at hpl
      subst hal
      have hc := hcells p hpl
      rw [hm.out] at hc
      obtain ⟨m0, m1⟩ := hc
      have hsn : Hid (ml.take (k + 1) = ml.take k ++ [(t, f)]) := Mv.take_snoc_at (by rw [hmlen.out]; exact hlt) (hat.out.trans hm.out)
      clear hcells hjd hp hsl hat hm
      have hbs := HB.out.size
      go_wp2_with (first | (at_builtin; refine wpList_append_own _ rfl (.tmp 41) (.tmp 49) 22 rfl w1.heap.size 30 i0 (.agg #[.int .i64 0, .int .i64 0]) 2 16 Try.underlying22 HI.out HZ0.out HZ1.out HZ2.out rfl (by decide) (.slice (some ⟨g, 0, none⟩) k c) k (flat (ml.take k)) rfl (HOWN.out.alloc _) ⟨wr.heap.size, 0, none⟩ 1 1 [.int .i64 t, .int .i64 f] rfl rfl (new_cells _ (heap_new (by simp))) (by simp [Value.oneCell']) (by simp only [maxLen]; omega) (by omega) (by simp; omega) ?_; intro v' w2 hown2 hgr hnil) | fail)
      obtain ⟨g', c', hv', hg1, hg2, hg3⟩ : ∃ g' c', v' = .slice (some ⟨g', 0, none⟩) (k + 1) c' ∧ w1.heap.size ≤ g' ∧ g' < w2.heap.size ∧ True := by
        rcases own_shape hown2 with ⟨h, _⟩ | ⟨g', c', h, h2, h3, _⟩
        · have := (hnil.1 h).1
          cases this
        · exact ⟨g', c', h, h2, h3, trivial⟩
      subst hv'
      have hb2 : Below w1.heap.size w1 w2 := (HB.out.alloc hbs _).grown hgr (by simp; omega) (fun k h => (HOWN.out.lt k h).1)
      have hown3 : w2.ownsRow w1.heap.size 30 2 (.slice (some ⟨g', 0, none⟩) (k + 1) c') (k + 1) (flat (ml.take (k + 1))) := by
        rw [hsn.out, flat_append]
        exact hown2
      have HOWN3 := Lib.hid hown3
      have HB2 := Lib.hid hb2
      clear hown2 hgr hnil hown3 hb2 hg1 hg2
      go_wp2
      go_roundg (l.length - (k + 1))
      case measure => omega
      case rel => exact ⟨k + 1, g', c', by omega, rfl, by go_num, rfl, HOWN3.out, HB2.out⟩
    · obtain rfl : k = l.length := by omega
      have hms : MSl wr (.slice (some ⟨g, 0, none⟩) l.length c) ml := by
        refine msl_of_own (B := w1.heap.size) ?_
        have := HOWN.out
        rw [← hmlen.out, List.take_length] at this
        rw [← hmlen.out]
        exact this
      have hl2 := Lib.hid (hl1.out.below HB.out)
      have ho2 := Lib.hid (ho1.out.below HB.out)
      have hb2 := Lib.hid (HB1.out.trans (HB.out.mono HB1.out.size))
      replace hms := Lib.hid hms
      clear HOWN HB hl1 ho1 HB1 hk hlt
      go_wp2_with fail
      refine (order_full _ ml spare _ hms.out (by rw [hmlen.out]; omega)).mono ?_
      intro e w3 h3
      obtain ⟨ao2, capo2, out2, hout2, rfl, ho3, hb3⟩ := ord_any h3
      clear h3
      have hpf := Lib.hid (perm_facts (spare := spare) hperm.out)
      obtain ⟨p1, p2, p3, p4⟩ := hpf.out
      rw [p1, ← her.out]
      rw [← hout2.out, ← hout.out] at p2
      rw [← hout.out] at p3
      rw [p2] at ho3 ⊢
      have hl3 := Lib.hid (hl2.out.below hb3)
      have ho3a := Lib.hid (ho2.out.below hb3)
      have ho3b := Lib.hid ho3
      have HB3 := Lib.hid (hb2.out.trans (hb3.mono hb2.out.size))
      have hlen2 := Lib.hid p2
      clear hl2 ho2 hms ho3 hb2 hb3 p1 p2 p4
      go_wp2_with fail
      refine (fixed_any _).mono ?_
      rintro e w4 ⟨rfl, hb4⟩
      have hl4 := Lib.hid (hl3.out.below hb4)
      have ho4a := Lib.hid (ho3a.out.below hb4)
      have ho4b := Lib.hid (ho3b.out.below hb4)
      have HB4 := Lib.hid (HB3.out.trans (hb4.mono HB3.out.size))
      clear hl3 ho3a ho3b HB3 hb4
      by_cases hm : mayB l spare = true
      · have hr0 : er = 0 := by rw [her.out]; unfold errOf; rw [if_pos hm]
        subst hr0
        replace hm := Lib.hid hm
        go_wp2_with fail
        go_loopg [15] l.length (fun g i wx => ∃ k : Nat, k ≤ l.length ∧ g = l.length - k ∧ i = .int .i64 k ∧ MSl wx (.slice al l.length cap) l ∧ MSl wx (.slice ao out.length capo) out ∧ MSl wx (.slice ao2 out.length capo2) out2 ∧ Below w.heap.size w wx)
        case atStart => exact ⟨0, Nat.zero_le _, rfl, rfl, hl4.out, ho4a.out, ho4b.out, HB4.out⟩
        case round =>
          clear hl4 ho4a ho4b HB4
          obtain ⟨k, hk, rfl, rfl, hl, hoa, hob, hb⟩ := hrel
          have HL := Lib.hid hl
          have HOA := Lib.hid hoa
          have HOB := Lib.hid hob
          have HB := Lib.hid hb
          clear hl hoa hob hb
          by_cases hlt : k < l.length
          · obtain ⟨t, f, hmm⟩ := getD_pair l k
            obtain ⟨b, off, hal, hblt, hcells⟩ := HL.out.at hlt
            subst hal
            have hc := hcells k hlt
            rw [hmm.out] at hc
            obtain ⟨m0, m1⟩ := hc
            clear hcells
            have hmem : (t, f) ∈ l := by rw [← hmm.out]; exact getD_mem hlt
            have hst := Lib.hid (perm_right hperm.out hm.out hmem)
            rw [← hout.out, ← hout2.out] at hst
            clear hmem
            go_wp2_with fail
            have C : Hid (∀ v, (v = Value.slice ao out.length capo ∨ v = Value.slice ao2 out.length capo2) → ∀ n, Calls Try.prog 10 #[v, .int .i64 t] (wr.drewN n) fun e w'' => e = .returned (.int .i64 f) ∧ ∃ m, w'' = wr.drewN m) := by
              have h2 := hlen2.out
              rintro v (rfl | rfl) n
              · exact quiet_left ((stands_any _ out _ _ (HOA.out.drewN n) (by omega)).mono fun e w' h => by rw [hst.out.1] at h; exact h)
              · exact quiet_left ((stands_any _ out2 _ _ (HOB.out.drewN n) (by omega)).mono fun e w' h => by rw [hst.out.2] at h; exact h)
            go_quiet ((go_at_call 10; exact C.out _ (by first | exact .inl rfl | exact .inr rfl) _))
            go_wp2
            go_roundg (l.length - (k + 1))
            case measure => omega
            case rel => exact ⟨k + 1, by omega, rfl, by go_num, HL.out, HOA.out, HOB.out, below_drewN HB.out _⟩
          · go_wp2
            go_ret
            exact ⟨rfl, HB.out⟩
      · have hr0 : er = 1 := by rw [her.out]; unfold errOf; rw [if_neg hm]
        subst hr0
        replace hm := Lib.hid hm
        go_wp2_with fail
        refine wp_loop_rounds 1 ?_
        rw [rounds_succ]
        by_cases h0 : (0 : Int) < (l.length : Int) <;>
        · go_wp2
          go_ret
          exact ⟨rfl, HB4.out⟩
end Go.Proofs.Ytdehgidklcflbaa
