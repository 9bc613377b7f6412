/- The reference's Assemble. -/
import Derived.Test.YtaldcgfhlflcpaaAJbb
import Derived.Test.YtaldcgfhlflcpaaAJbg
import Derived.Test.YtaldcgfhlflcpaaAJaf
import Derived.Test.YtaldcgfhlflcpaaAJbh
set_option linter.unusedVariables false
set_option linter.unusedSimpArgs false
set_option linter.unnecessarySimpa false
namespace Go.Proofs.Ytaldcgfhlflcpaa
open Go.RowKit
set_option maxRecDepth 100000
set_option linter.unusedVariables false
set_option linter.unusedSimpArgs false
def AsmPost (w : World) (l : List As.It) (e : Ending) (w' : World) : Prop :=
  Below w.heap.size w w' ∧ if As.err l = 0 then ∃ vc vp, e = .returned (.tuple #[vc, vp, .int .i64 0]) ∧ Sl w' vc ((As.code l).map (Value.int .u32)) ∧ Sl w' vp (nums (As.places0 l))
  else e = .returned (.tuple #[.slice none 0 0, .slice none 0 0, .int .i64 (As.err l)])
theorem ISl.take {w : World} {a : Option Addr} {n cap : Nat} {l : List As.It} (h : ISl w (.slice a n cap) l) {k : Nat} (hk : k ≤ l.length) : ISl w (.slice a (l.take k).length cap) (l.take k) := by
  obtain ⟨a', cap', hv, h | ⟨b, off, h1, h2, h3⟩⟩ := h
  · exact ⟨a, cap, rfl, .inl (by rw [h]; simp)⟩
  · cases hv
    refine ⟨_, _, rfl, .inr ⟨b, off, h1, h2, fun j x hx => h3 j x ?_⟩⟩
    rw [List.getElem?_take] at hx
    split at hx
    · exact hx
    · cases hx
theorem find_take (l : List As.It) (lab : Int) (k : Nat) (a : Option Addr) (cap : Nat) (w : World) (h : ISl w (.slice a l.length cap) l) (hk : k ≤ l.length) (hlen : l.length ≤ 1000000000000) : Calls Try.prog 31 #[.slice a k cap, .int .i64 lab] w fun e w' => e = .returned (.int .i64 (As.findI lab (l.take k))) ∧ w = w' := by
  have h1 := find_any (l.take k) lab a cap w (h.take hk) (by simp; omega)
  rw [List.length_take, Nat.min_eq_left hk] at h1
  exact h1
theorem quiet_left21 {P : Program} {f : FuncId} {args : Array Value} {w : World} {n : Nat} {v : Value}
    (h : Calls P f args (w.drewN n) fun e w' => e = .returned v ∧ w.drewN n = w') : Calls P f args (w.drewN n) fun e w'' => e = .returned v ∧ ∃ m, w'' = w.drewN m :=
  h.mono fun _ _ ⟨he, hm⟩ => ⟨he, n, hm.symm⟩
theorem findI_neg {k : Int} {l : List As.It} (h : As.find k l = none) : As.findI k l = -1 := by unfold As.findI; rw [h]
theorem rinstrs_zero (x : As.It) (hm : As.may x = true) (long : Bool) (p : Nat) (hp : p ≤ 1000000) (w : World) :
    Calls Try.prog 40 #[.agg #[.int .i64 x.kind, .int .i64 x.op, .int .i64 x.a, .int .i64 x.b, .int .i64 x.c, .int .i64 x.n, .int .i64 x.label, .int .i64 x.num], .bool long, .int .i64 p, .int .i64 0] w (InsPost w (As.instrsI x long p (0 : Nat))) := rinstrs_any x hm long p 0 hp (by omega) w
theorem As.flatIn_get {cs : List As.In} {j i : Nat} {z : As.In} {u : Value} (hz : cs[j]? = some z) (hu : z.cells[i]? = some u) : (As.flatIn cs)[j * 5 + i]? = some u := by
  induction cs generalizing j with
  | nil => simp at hz
  | cons y cs ih =>
    have e : As.flatIn (y :: cs) = y.cells ++ As.flatIn cs := rfl
    have h5 : y.cells.length = 5 := rfl
    have hi : i < 5 := by have := (List.getElem?_eq_some_iff.1 hu).1; simpa [As.In.cells] using this
    rw [e]
    cases j with
    | zero =>
      simp only [List.getElem?_cons_zero, Option.some.injEq] at hz
      subst hz
      rw [List.getElem?_append_left (by omega), Nat.zero_mul, Nat.zero_add]
      exact hu
    | succ j =>
      rw [List.getElem?_append_right (by omega), h5, show (j + 1) * 5 + i - 5 = j * 5 + i by omega]
      exact ih (by simpa using hz)
theorem rencode_flat (op a b c n : Int) (w : World) : Calls Try.prog 41 #[.agg #[.int .i64 op, .int .i64 a, .int .i64 b, .int .i64 c, .int .i64 n]] w fun e w' => e = .returned (.tuple #[.int .u32 (Rs.encW op a b c n), .int .i64 (Rs.encE op a b c n)]) ∧ Below w.heap.size w w' := rencode_any op a b c n w
theorem own_form {w : World} {B e size n : Nat} {v : Value} {xs : List Value} (h : w.ownsRow B e size v n xs) : ∃ a c, v = .slice a n c ∧ (0 < n → ∃ g, a = some ⟨g, 0, none⟩) := by
  rcases own_shape h with ⟨rfl, rfl, _⟩ | ⟨g, cap, rfl, _⟩
  · exact ⟨none, 0, rfl, fun h => absurd h (by omega)⟩
  · exact ⟨_, cap, rfl, fun _ => ⟨g, rfl⟩⟩
theorem As.words_unnamed {x : As.It} (h : As.names x = false) (b : Bool) (p : Nat) (f f' : Int) : As.words x b p f = As.words x b p f' := by
  simp only [As.names, Bool.or_eq_false_iff, decide_eq_false_iff_not] at h
  unfold As.words
  rw [if_neg h.1.1, if_neg h.1.1, if_neg h.1.2, if_neg h.1.2, if_neg h.2, if_neg h.2]
set_option maxHeartbeats 16000000 in
set_option maxRecDepth 100000 in
theorem rassemble_any (al : Option Addr) (cl : Nat) (l : List As.It) (w : World) (hl : ISl w (.slice al l.length cl) l) (hcap : l.length ≤ cl) (hmax : l.length ≤ 9223372036854775807) :
    Calls Try.prog 32 #[.slice al l.length cl] w (AsmPost w l) := by
  have HL := Lib.hid hl
  clear hl
  obtain ⟨i0, hi, hz0, hz1, hz2⟩ := info_parts infoU
  have HI := Lib.hid hi
  have HZ0 := Lib.hid hz0
  have HZ1 := Lib.hid hz1
  have HZ2 := Lib.hid hz2
  clear hi hz0 hz1 hz2
  by_cases hbig : 65536 < l.length
  · have he : Hid (As.err l = 213) := if_pos hbig
    have hb2 : (65536 : Int) < (l.length : Int) := by omega
    go_enter Try.func32, Try.ntmps32
    go_wp2_with fail
    go_ret3
    refine ⟨Below.refl _ _, ?_⟩
    rw [he.out, if_neg (by decide)]
    rfl
  have h64 : l.length ≤ 65536 := by omega
  have hb2 : ¬ (65536 : Int) < (l.length : Int) := by omega
  go_enter Try.func32, Try.ntmps32
  go_wp2_with fail
  go_loopg [5] l.length (fun gk i wx => ∃ k : Nat, k ≤ l.length ∧ gk = l.length - k ∧ i = .int .i64 k ∧ As.errA [] l = As.errA (l.take k) (l.drop k) ∧ Below w.heap.size w wx)
  case atStart => exact ⟨0, Nat.zero_le _, rfl, rfl, rfl, Below.refl _ _⟩
  case round =>
    obtain ⟨k, hk, rfl, rfl, he, hb⟩ := hrel
    have HE := Lib.hid he
    have HBB := Lib.hid hb
    have hws : w.heap.size ≤ wr.heap.size := hb.size
    clear he
    by_cases hlt : k < l.length
    · obtain ⟨x, hx⟩ : ∃ x, l[k]? = some x := ⟨_, List.getElem?_eq_getElem hlt⟩
      have hne : l ≠ [] := by intro e; rw [e] at hlt; simp at hlt
      have HLr := Lib.hid (HL.out.below hb (Nat.le_refl _))
      obtain ⟨bl, off, hal, hbl, hat⟩ := HLr.out.at hne
      subst hal
      have HIT := Lib.hid (hat k x hx)
      obtain ⟨d0, d1, d2, d3, d4, d5, d6, d7⟩ := hat k x hx
      have HST : Hid (As.errA [] l = if As.may x = false then 210 else if x.kind = 1 ∧ (As.find x.label (l.take k)).isSome = true then 211 else As.errA (l.take (k + 1)) (l.drop (k + 1))) := HE.out.trans (As.errA_step hx)
      have hg1 : (0 : Int) ≤ k := by omega
      have hg2 : (k : Int) < l.length := by omega
      have hg3 : (k : Int) ≤ cl := by omega
      have hgw : IntKind.i64.wrap ((k : Int) + 1) = k + 1 := by rw [IntKind.wrap_i64]; omega
      clear hat hx hb
      go_wp2_with fail
      with_reducible refine (rmay_flat _ _ _ _ _ _ _ _ _).mono ?_
      rintro e w1 ⟨rfl, hb1⟩
      cases hm : As.may x
      · have HER : Hid (As.err l = 210) := As.err_A h64 (by rw [HST.out, if_pos hm]) (by decide)
        have HB1 := Lib.hid (HBB.out.trans (hb1.mono hws))
        clear hb1 d0 d1 d2 d3 d4 d5 d6 d7 hm
        go_wp2_with fail
        go_ret3
        refine ⟨HB1.out, ?_⟩
        rw [HER.out, if_neg (by decide)]
        rfl
      · have HM := Lib.hid hm
        have HIT1 := HIT.out.of (fun j => hb1.cell (p := ⟨bl, j, none⟩) hbl)
        have e0 := HIT1.c0
        have e6 := HIT1.c6
        have HL1 := Lib.hid (HLr.out.below hb1 (Nat.le_refl _))
        have HB1 := Lib.hid (HBB.out.trans (hb1.mono hws))
        clear hb1 d0 d1 d2 d3 d4 d5 d6 d7 hm HIT1
        by_cases hk1 : x.kind = 1
        · rw [hk1] at e0
          cases hf : As.find x.label (l.take k) with
          | none =>
            have hfi := findI_neg hf
            have HN : Hid (As.errA [] l = As.errA (l.take (k + 1)) (l.drop (k + 1))) := by unfold Hid; rw [HST.out, if_neg (by rw [HM.out]; decide), if_neg (by rw [hf]; simp)]
            clear hf
            go_wp2_with fail
            go_quiet ((go_at_call 31; exact quiet_left21 (find_take l x.label k _ cl _ (HL1.out.drewN _) hk (by omega))))
            rw [hfi]
            clear hfi
            go_wp2_with fail
            go_roundg (l.length - (k + 1))
            case measure => omega
            case rel => exact ⟨k + 1, by omega, rfl, by go_num, HN.out, below_drewN HB1.out _⟩
          | some t =>
            have hfi : As.findI x.label (l.take k) = t := by unfold As.findI; rw [hf]
            have HER : Hid (As.err l = 211) := As.err_A h64 (by rw [HST.out, if_neg (by rw [HM.out]; decide), if_pos ⟨hk1, by rw [hf]; rfl⟩]) (by decide)
            clear hf
            have hgt : (0 : Int) ≤ t := by omega
            go_wp2_with fail
            go_quiet ((go_at_call 31; exact quiet_left21 (find_take l x.label k _ cl _ (HL1.out.drewN _) hk (by omega))))
            rw [hfi]
            clear hfi
            go_wp2_with fail
            go_ret3
            refine ⟨below_drewN HB1.out _, ?_⟩
            rw [HER.out, if_neg (by decide)]
            rfl
        · have hq := beq_eq_false_iff_ne.2 hk1
          have HN : Hid (As.errA [] l = As.errA (l.take (k + 1)) (l.drop (k + 1))) := by unfold Hid; rw [HST.out, if_neg (by rw [HM.out]; decide), if_neg (fun h => hk1 h.1)]
          go_wp2_with fail
          go_quiet (fail)
          go_wp2_with fail
          go_roundg (l.length - (k + 1))
          case measure => omega
          case rel => exact ⟨k + 1, by omega, rfl, by go_num, HN.out, below_drewN HB1.out _⟩
    · obtain rfl : k = l.length := by omega
      have hge : (l.length : Int) ≤ l.length := by omega
      have HEA : Hid (As.errA [] l = 0) := by unfold Hid; rw [HE.out, List.drop_length]; rfl
      clear hb HE
      go_wp2_with fail
      obtain ⟨wo, hwo⟩ : ∃ wo : World, wo = wr := ⟨_, rfl⟩
      subst hwo
      go_loopg [6] l.length (fun gk i wx => ∃ k : Nat, k ≤ l.length ∧ gk = l.length - k ∧ i = .int .i64 k ∧ As.errN l l = As.errN l (l.drop k) ∧ Below w.heap.size w wx)
      case atStart => exact ⟨0, Nat.zero_le _, rfl, rfl, rfl, HBB.out⟩
      case round =>
        clear HBB hws
        obtain ⟨k, hk, rfl, rfl, he, hb⟩ := hrel
        have HE := Lib.hid he
        have HBB := Lib.hid hb
        have hws : w.heap.size ≤ wr.heap.size := hb.size
        clear he
        by_cases hlt : k < l.length
        · obtain ⟨x, hx⟩ : ∃ x, l[k]? = some x := ⟨_, List.getElem?_eq_getElem hlt⟩
          have hne : l ≠ [] := by intro e; rw [e] at hlt; simp at hlt
          have HLr := Lib.hid (HL.out.below hb (Nat.le_refl _))
          obtain ⟨bl, off, hal, hbl, hat⟩ := HLr.out.at hne
          subst hal
          have HIT := Lib.hid (hat k x hx)
          obtain ⟨d0, d1, d2, d3, d4, d5, d6, d7⟩ := hat k x hx
          have HST : Hid (As.errN l l = if As.names x = true ∧ As.find x.label l = none then 212 else As.errN l (l.drop (k + 1))) := HE.out.trans (As.errN_step hx)
          have hg1 : (0 : Int) ≤ k := by omega
          have hg2 : (k : Int) < l.length := by omega
          have hgw : IntKind.i64.wrap ((k : Int) + 1) = k + 1 := by rw [IntKind.wrap_i64]; omega
          clear hat hx hb
          go_wp2_with fail
          with_reducible refine (names_any x _).mono ?_
          rintro e w1 ⟨rfl, hb1⟩
          cases hn : As.names x
          · have HN : Hid (As.errN l l = As.errN l (l.drop (k + 1))) := by unfold Hid; rw [HST.out, if_neg (fun h => by rw [hn] at h; exact absurd h.1 (by decide))]
            have HB1 := Lib.hid (HBB.out.trans (hb1.mono hws))
            clear hb1 d0 d1 d2 d3 d4 d5 d6 d7 hn
            go_wp2_with fail
            go_roundg (l.length - (k + 1))
            case measure => omega
            case rel => exact ⟨k + 1, by omega, rfl, by go_num, HN.out, HB1.out⟩
          · have HIT1 := HIT.out.of (fun j => hb1.cell (p := ⟨bl, j, none⟩) hbl)
            have e6 := HIT1.c6
            have HL1 := Lib.hid (HLr.out.below hb1 (Nat.le_refl _))
            have HB1 := Lib.hid (HBB.out.trans (hb1.mono hws))
            have HNM := Lib.hid hn
            clear hb1 d0 d1 d2 d3 d4 d5 d6 d7 hn HIT1
            cases hf : As.find x.label l with
            | none =>
              have hfi := findI_neg hf
              have HER : Hid (As.err l = 212) := As.err_N h64 HEA.out (by rw [HST.out, if_pos ⟨HNM.out, hf⟩])
              clear hf
              go_wp2_with fail
              with_reducible refine (find_any l x.label _ cl _ HL1.out (by omega)).mono ?_
              rintro e w2 ⟨rfl, hw⟩
              subst hw
              rw [hfi]
              clear hfi
              go_wp2_with fail
              go_ret3
              refine ⟨HB1.out, ?_⟩
              rw [HER.out, if_neg (by decide)]
              rfl
            | some t =>
              have hfi : As.findI x.label l = t := by unfold As.findI; rw [hf]
              have HN : Hid (As.errN l l = As.errN l (l.drop (k + 1))) := by unfold Hid; rw [HST.out, if_neg (fun h => by rw [hf] at h; cases h.2)]
              have hgt : ¬ ((t : Int) < 0) := by omega
              clear hf
              go_wp2_with fail
              with_reducible refine (find_any l x.label _ cl _ HL1.out (by omega)).mono ?_
              rintro e w2 ⟨rfl, hw⟩
              subst hw
              rw [hfi]
              clear hfi
              go_wp2_with fail
              go_roundg (l.length - (k + 1))
              case measure => omega
              case rel => exact ⟨k + 1, by omega, rfl, by go_num, HN.out, HB1.out⟩
        · obtain rfl : k = l.length := by omega
          have hge : (l.length : Int) ≤ l.length := by omega
          have HEN : Hid (As.errN l l = 0) := by unfold Hid; rw [HE.out, List.drop_length]; rfl
          have HE0 : Hid (As.err l = 0) := As.err_N h64 HEA.out HEN.out
          have HGOOD : Hid (As.Good l) := As.good_of HE0.out
          have HLr := Lib.hid (HL.out.below hb (Nat.le_refl _))
          clear hb HE HL
          go_wp2_with fail
          with_reducible refine (rlayout_any al cl l _ HLr.out h64 HGOOD.out.has).mono ?_
          rintro e w3 ⟨lb, g3, c3, rfl, hlong, hlb, hown, hb3⟩
          have HL3 := Lib.hid (HLr.out.below hb3 (Nat.le_refl _))
          have HB3 := Lib.hid (HBB.out.trans (hb3.mono hws))
          have HLONG := Lib.hid hlong
          have HO := Lib.hid hown
          have hl3 : lb < w3.heap.size := (Array.getElem?_eq_some_iff.1 hlong).1
          have hg3 : g3 < w3.heap.size := (hown.lt g3 rfl).2
          clear hlong hlb hown hb3 HLr HBB hws
          have hw3 : w.heap.size ≤ w3.heap.size := HB3.out.size
          go_wp2_with fail
          go_loopg [9, 10] l.length (fun gk cv i wx => ∃ (k : Nat) (vv : Value), k ≤ l.length ∧ gk = l.length - k ∧ i = .int .i64 k ∧ vv = cv ∧ wx.ownsRow w3.heap.size 84 1 cv (As.cod l k).length ((As.cod l k).map (Value.int .u32)) ∧ Below w3.heap.size w3 wx)
          case atStart => exact ⟨0, _, Nat.zero_le _, rfl, rfl, rfl, World.ownsRow_lit _ _ _ (Nat.le_refl _) (Nat.zero_le _) rfl, (Below.refl _ _).alloc (Nat.le_refl _) _⟩
          case round =>
            obtain ⟨k, cv, hk, rfl, rfl, rfl, hv, hb⟩ := hrel
            have HV := Lib.hid hv
            have HBB := Lib.hid hb
            have hws : w3.heap.size ≤ wr.heap.size := hb.size
            have hown := own_keep21 HO.out hb
            by_cases hlt : k < l.length
            · obtain ⟨x, hx⟩ : ∃ x, l[k]? = some x := ⟨_, List.getElem?_eq_getElem hlt⟩
              obtain ⟨b, hbk⟩ : ∃ b, (As.longs l)[k]? = some b := ⟨_, List.getElem?_eq_getElem (by have := (As.longs_fix l).2; omega)⟩
              have hne : l ≠ [] := by intro e; rw [e] at hlt; simp at hlt
              have HLr := Lib.hid (HL3.out.below hb (Nat.le_refl _))
              obtain ⟨bl, off, hal, hbl, hat⟩ := HLr.out.at hne
              subst hal
              have HIT := Lib.hid (hat k x hx)
              obtain ⟨d0, d1, d2, d3, d4, d5, d6, d7⟩ := hat k x hx
              have HMX : Hid (As.may x = true) := HGOOD.out.may x (List.mem_of_getElem? hx)
              have HCS := Lib.hid (As.cod_succ hx hbk)
              have HCL := As.cod_len HGOOD.out.may k h64
              have hpk := As.pl_le (i := k) (As.longs l) h64
              have hg1 : (0 : Int) ≤ k := by omega
              have hg2 : (k : Int) < l.length := by omega
              have hg2' : (k : Int) < l.length + 1 := by omega
              have hg2'' : (k : Int) < (l.length + 1 : Nat) := by omega
              have hgw : IntKind.i64.wrap ((k : Int) + 1) = k + 1 := by rw [IntKind.wrap_i64]; omega
              have HXM := Lib.hid (List.mem_of_getElem? hx)
              have HBK := Lib.hid hbk
              clear hat hx hb hv hbk hown
              go_wp2_with fail
              with_reducible refine (names_any x _).mono ?_
              rintro e w1 ⟨rfl, hb1⟩
              have HIT1 := HIT.out.of (fun j => hb1.cell (p := ⟨bl, j, none⟩) hbl)
              obtain ⟨e0, e1, e2, e3, e4, e5, e6, e7⟩ := HIT1
              have HL1 := Lib.hid (HLr.out.below hb1 (Nat.le_refl _))
              have HB1 := Lib.hid (HBB.out.trans (hb1.mono hws))
              have HV1 := Lib.hid (own_keep21 HV.out hb1)
              have hw31 : w3.heap.size ≤ w1.heap.size := HB1.out.size
              have elb : w1.cell? ⟨lb, k, none⟩ = some (.bool b) := by
                rw [cell_of_row w1 lb k _ _ _ ((HB1.out.block lb hl3).trans HLONG.out)]
                simp [bools, HBK.out]
              have hown1 := own_keep21 HO.out HB1.out
              have epk := (hown1.cellAt k (by omega)).trans (plOf_get (l := l) (bs := As.longs l) (show k < l.length + 1 by omega))
              have HOWN1 := Lib.hid hown1
              clear hb1 d0 d1 d2 d3 d4 d5 d6 d7 hown1 HBB HV hws HLr
              obtain ⟨P, hP⟩ : ∃ P, Hid (As.pl l (As.longs l) k = P) := ⟨_, rfl⟩
              rw [hP.out] at epk hpk HCS
              cases hn : As.names x
              · have HTF : Hid (As.words x b P (((0 : Nat) : Int) - P) = As.words x b P (As.far l (As.places0 l) x P)) := As.words_unnamed hn _ _ _ _
                clear hn
                go_wp2_with fail
                refine wp_still_tail 13 (by kernel_rfl) (by kernel_rfl) ?_
                simp only [List.take_succ_cons, List.take_zero, List.drop_succ_cons, List.drop_zero]
                repeat still_step
                refine wpStill_nil ?_
                show wpList _ _ _ _ _ _
                go_wp2_with fail
                with_reducible refine (rinstrs_zero x HMX.out b P (by omega) _).mono ?_
                rintro e w2 ⟨y, rfl, hoy, hb2⟩
                obtain ⟨ya, yc, rfl, hya⟩ := own_form hoy
                have HY := Lib.hid hoy
                have HYA := Lib.hid hya
                have hoyl : ∀ q, (Value.slice ya (As.instrsI x b P (0 : Nat)).length yc).ownBlock = some q → w1.heap.size ≤ q := fun q hq => (hoy.lt q hq).1
                have HYL := Lib.hid hoyl
                have hb2' : Below w1.heap.size w1 w2 := (Below.refl w1.heap.size w1).drew.trans hb2
                have HV2 := Lib.hid (own_keep21 HV1.out hb2')
                have hvl : ∀ q, cv.ownBlock = some q → q < w1.heap.size := fun q hq => (HV1.out.lt q hq).2
                have HVY : Hid (∀ q, cv.ownBlock = some q → (Value.slice ya (As.instrsI x b P (0 : Nat)).length yc).ownBlock ≠ some q) := fun q h1 h2 => by have a := hvl q h1; have b := hoyl q h2; omega
                have HBX := Lib.hid (HB1.out.trans (hb2'.mono hw31))
                have HENC : Hid ((As.instrsI x b P (0 : Nat)).map As.In.enc = As.words x b P (As.far l (As.places0 l) x P)) := by unfold Hid; rw [As.instrsI_enc HMX.out, HTF.out]
                have HNL := As.instrsI_length x b P (0 : Nat)
                obtain ⟨ins, hins⟩ : ∃ ins, Hid (As.instrsI x b P (0 : Nat) = ins) := ⟨_, rfl⟩
                rw [hins.out] at HY HYA HYL HVY HENC HNL
                rw [hins.out]
                clear hoy hya hoyl hvl hb2 hb2' HV1 HB1
                go_wp2_with fail
                obtain ⟨wp, hwp⟩ : ∃ wp : World, wp = w2 := ⟨_, rfl⟩
                subst hwp
                go_loopg [9, 13] ins.length (fun gk cu i wx => ∃ (j : Nat) (vv : Value), j ≤ ins.length ∧ gk = ins.length - j ∧ i = .int .i64 j ∧ vv = cu ∧ wx.ownsRow w3.heap.size 84 1 cu (As.cod l k ++ (ins.take j).map As.In.enc).length ((As.cod l k ++ (ins.take j).map As.In.enc).map (Value.int .u32)) ∧ wx.ownsRow w1.heap.size 51 5 (Value.slice ya ins.length yc) ins.length (As.flatIn ins) ∧ (∀ q, cu.ownBlock = some q → (Value.slice ya ins.length yc).ownBlock ≠ some q) ∧ Below w3.heap.size w3 wx)
                case atStart => exact ⟨0, cv, Nat.zero_le _, rfl, rfl, rfl, by simpa using HV2.out, HY.out, HVY.out, HBX.out⟩
                case round =>
                  obtain ⟨j, cu, hj, rfl, rfl, rfl, hv, hy, hvy, hb⟩ := hrel
                  have HV := Lib.hid hv
                  have HVY := Lib.hid hvy
                  have HBB := Lib.hid hb
                  have HYY := Lib.hid hy
                  have hws3 : w3.heap.size ≤ wr.heap.size := hb.size
                  have hjl : ((ins.take j).map As.In.enc).length = j := by simp; omega
                  by_cases hj2 : j < ins.length
                  · obtain ⟨z, hz⟩ : ∃ z, ins[j]? = some z := ⟨_, List.getElem?_eq_getElem hj2⟩
                    obtain ⟨gy, rfl⟩ := HYA.out (by omega)
                    have hc : ∀ (i : Nat) (u : Value), z.cells[i]? = some u → wr.cell? ⟨gy, j * 5 + i, none⟩ = some u := by
                      intro i u hu
                      have hi : i < 5 := by have := (List.getElem?_eq_some_iff.1 hu).1; simpa [As.In.cells] using this
                      rw [HYY.out.cellAt (j * 5 + i) (by omega)]
                      exact As.flatIn_get hz hu
                    have d0 := hc 0 _ rfl
                    have d1 := hc 1 _ rfl
                    have d2 := hc 2 _ rfl
                    have d3 := hc 3 _ rfl
                    have d4 := hc 4 _ rfl
                    rw [Nat.add_zero] at d0
                    have hg5 : (0 : Int) ≤ j := by omega
                    have hg6 : (j : Int) < ins.length := by omega
                    have hgw2 : IntKind.i64.wrap ((j : Int) + 1) = j + 1 := by rw [IntKind.wrap_i64]; omega
                    have HTK : Hid ((ins.take (j + 1)).map As.In.enc = (ins.take j).map As.In.enc ++ [z.enc]) := by unfold Hid; rw [List.take_add_one, hz]; simp
                    have HENZ : Hid (z.enc = Rs.encW z.op z.a z.b z.c z.n) := rfl
                    clear hc hz hv hy hvy hb
                    go_wp2_with fail
                    with_reducible refine (rencode_flat z.op z.a z.b z.c z.n _).mono ?_
                    rintro e w4 ⟨rfl, hb4⟩
                    rw [← HENZ.out]
                    have HV4 := Lib.hid (own_keep21 HV.out hb4)
                    have HY4 := Lib.hid (own_keep21 HYY.out hb4)
                    have HB4 := Lib.hid (HBB.out.trans (hb4.mono hws3))
                    have hws4 : w3.heap.size ≤ w4.heap.size := HB4.out.size
                    clear hb4 HV HYY HBB d0 d1 d2 d3 d4
                    obtain ⟨cc, hcc⟩ : ∃ cc, Hid (As.cod l k ++ (ins.take j).map As.In.enc = cc) := ⟨_, rfl⟩
                    rw [hcc.out] at HV4
                    have hccl : cc.length ≤ 262160 := by rw [← hcc.out, List.length_append]; omega
                    obtain ⟨Z, hZ⟩ : ∃ Z, Hid (z.enc = Z) := ⟨_, rfl⟩
                    rw [hZ.out]
                    go_wp2_with (first | (at_builtin; refine wpList_append_lies _ rfl (.tmp 125) (.tmp 127) 54 rfl w3.heap.size 84 i0 (.int .u32 0) 1 4 Try.underlying54 HI.out HZ0.out HZ1.out HZ2.out rfl (by decide) cu cc.length (cc.map (Value.int .u32)) rfl (HV4.out.alloc _) ⟨w4.heap.size, 0, none⟩ 1 1 [.int .u32 Z] rfl rfl (new_cells _ (heap_new (by simp))) (by simp [Value.oneCell']) (by decide) (by simp only [maxLen]; omega) (by omega) (by simp; omega) (w4.heap.size + 1) (by simp) ?_; intro g5 c5 w5 hown5 hgr5 hat5 hlt5; have HO5 := Lib.hid hown5; have HG5 := Lib.hid hgr5; have HT5 := Lib.hid hat5; clear hown5 hgr5 hat5) | fail)
                    go_roundg (ins.length - (j + 1))
                    case measure => omega
                    case rel =>
                      refine ⟨j + 1, _, by omega, rfl, by go_num, rfl, ?_, ?_, ?_, (HB4.out.alloc hws4 _).grown HG5.out (by simp; omega) (fun q hq => (HV4.out.lt q hq).1)⟩
                      · rw [HTK.out, ← List.append_assoc, hcc.out, hZ.out, List.length_append, List.map_append]; exact HO5.out
                      · refine (HY4.out.alloc _).kept HG5.out (.inr ?_)
                        intro e
                        exact HVY.out gy e.symm rfl
                      · intro q hq e
                        simp only [Value.ownBlock] at hq
                        injection hq with hq
                        rcases HT5.out with h1 | h1
                        · exact HVY.out q (h1.trans (by rw [hq])) e
                        · have := (HY4.out.lt q e).2
                          omega
                  · obtain rfl : j = ins.length := by omega
                    have hge2 : (ins.length : Int) ≤ ins.length := by omega
                    have hfin : As.cod l k ++ (ins.take ins.length).map As.In.enc = As.cod l (k + 1) := by rw [List.take_length, HENC.out, HCS.out]
                    rw [hfin] at hv
                    have HVF := Lib.hid hv
                    clear hv hy hvy hb hfin hjl HV
                    go_wp2_with fail
                    go_roundg (l.length - (k + 1))
                    case measure => omega
                    case rel => exact ⟨k + 1, _, by omega, rfl, by go_num, rfl, HVF.out, HBB.out⟩
              · obtain ⟨t, ht⟩ := HGOOD.out.has x HXM.out hn
                have htl := As.find_lt ht
                have hfi : As.findI x.label l = t := by unfold As.findI; rw [ht]
                have hpt := As.pl_le (i := t) (As.longs l) h64
                have ept := (HOWN1.out.cellAt t (by omega)).trans (plOf_get (l := l) (bs := As.longs l) (show t < l.length + 1 by omega))
                have hfar := As.far_eq (As.longs_fix l).2 ht P
                have hg3 : (0 : Int) ≤ t := by omega
                have hg4 : (t : Int) < l.length := by omega
                have hg4' : (t : Int) < l.length + 1 := by omega
                have hg4'' : (t : Int) < (l.length + 1 : Nat) := by omega
                obtain ⟨T, hT⟩ : ∃ T, Hid (As.pl l (As.longs l) t = T) := ⟨_, rfl⟩
                rw [hT.out] at ept hpt hfar
                have HTF : Hid (As.words x b P ((T : Int) - P) = As.words x b P (As.far l (As.places0 l) x P)) := by unfold Hid; rw [← hfar]; rfl
                clear ht hfar hn
                go_wp2_with fail
                with_reducible refine (find_any l x.label _ cl _ HL1.out (by omega)).mono ?_
                rintro e w2 ⟨rfl, hw⟩
                subst hw
                rw [hfi]
                clear hfi
                go_wp2_with fail
                refine wp_still_tail 13 (by kernel_rfl) (by kernel_rfl) ?_
                simp only [List.take_succ_cons, List.take_zero, List.drop_succ_cons, List.drop_zero]
                repeat still_step
                refine wpStill_nil ?_
                show wpList _ _ _ _ _ _
                go_wp2_with fail
                with_reducible refine (rinstrs_any x HMX.out b P T (by omega) (by omega) _).mono ?_
                rintro e w2 ⟨y, rfl, hoy, hb2⟩
                obtain ⟨ya, yc, rfl, hya⟩ := own_form hoy
                have HY := Lib.hid hoy
                have HYA := Lib.hid hya
                have hoyl : ∀ q, (Value.slice ya (As.instrsI x b P T).length yc).ownBlock = some q → w1.heap.size ≤ q := fun q hq => (hoy.lt q hq).1
                have HYL := Lib.hid hoyl
                have hb2' : Below w1.heap.size w1 w2 := (Below.refl w1.heap.size w1).drew.trans hb2
                have HV2 := Lib.hid (own_keep21 HV1.out hb2')
                have hvl : ∀ q, cv.ownBlock = some q → q < w1.heap.size := fun q hq => (HV1.out.lt q hq).2
                have HVY : Hid (∀ q, cv.ownBlock = some q → (Value.slice ya (As.instrsI x b P T).length yc).ownBlock ≠ some q) := fun q h1 h2 => by have a := hvl q h1; have b := hoyl q h2; omega
                have HBX := Lib.hid (HB1.out.trans (hb2'.mono hw31))
                have HENC : Hid ((As.instrsI x b P T).map As.In.enc = As.words x b P (As.far l (As.places0 l) x P)) := by unfold Hid; rw [As.instrsI_enc HMX.out, HTF.out]
                have HNL := As.instrsI_length x b P T
                obtain ⟨ins, hins⟩ : ∃ ins, Hid (As.instrsI x b P T = ins) := ⟨_, rfl⟩
                rw [hins.out] at HY HYA HYL HVY HENC HNL
                rw [hins.out]
                clear hoy hya hoyl hvl hb2 hb2' HV1 HB1
                go_wp2_with fail
                obtain ⟨wp, hwp⟩ : ∃ wp : World, wp = w2 := ⟨_, rfl⟩
                subst hwp
                go_loopg [9, 13] ins.length (fun gk cu i wx => ∃ (j : Nat) (vv : Value), j ≤ ins.length ∧ gk = ins.length - j ∧ i = .int .i64 j ∧ vv = cu ∧ wx.ownsRow w3.heap.size 84 1 cu (As.cod l k ++ (ins.take j).map As.In.enc).length ((As.cod l k ++ (ins.take j).map As.In.enc).map (Value.int .u32)) ∧ wx.ownsRow w1.heap.size 51 5 (Value.slice ya ins.length yc) ins.length (As.flatIn ins) ∧ (∀ q, cu.ownBlock = some q → (Value.slice ya ins.length yc).ownBlock ≠ some q) ∧ Below w3.heap.size w3 wx)
                case atStart => exact ⟨0, cv, Nat.zero_le _, rfl, rfl, rfl, by simpa using HV2.out, HY.out, HVY.out, HBX.out⟩
                case round =>
                  obtain ⟨j, cu, hj, rfl, rfl, rfl, hv, hy, hvy, hb⟩ := hrel
                  have HV := Lib.hid hv
                  have HVY := Lib.hid hvy
                  have HBB := Lib.hid hb
                  have HYY := Lib.hid hy
                  have hws3 : w3.heap.size ≤ wr.heap.size := hb.size
                  have hjl : ((ins.take j).map As.In.enc).length = j := by simp; omega
                  by_cases hj2 : j < ins.length
                  · obtain ⟨z, hz⟩ : ∃ z, ins[j]? = some z := ⟨_, List.getElem?_eq_getElem hj2⟩
                    obtain ⟨gy, rfl⟩ := HYA.out (by omega)
                    have hc : ∀ (i : Nat) (u : Value), z.cells[i]? = some u → wr.cell? ⟨gy, j * 5 + i, none⟩ = some u := by
                      intro i u hu
                      have hi : i < 5 := by have := (List.getElem?_eq_some_iff.1 hu).1; simpa [As.In.cells] using this
                      rw [HYY.out.cellAt (j * 5 + i) (by omega)]
                      exact As.flatIn_get hz hu
                    have d0 := hc 0 _ rfl
                    have d1 := hc 1 _ rfl
                    have d2 := hc 2 _ rfl
                    have d3 := hc 3 _ rfl
                    have d4 := hc 4 _ rfl
                    rw [Nat.add_zero] at d0
                    have hg5 : (0 : Int) ≤ j := by omega
                    have hg6 : (j : Int) < ins.length := by omega
                    have hgw2 : IntKind.i64.wrap ((j : Int) + 1) = j + 1 := by rw [IntKind.wrap_i64]; omega
                    have HTK : Hid ((ins.take (j + 1)).map As.In.enc = (ins.take j).map As.In.enc ++ [z.enc]) := by unfold Hid; rw [List.take_add_one, hz]; simp
                    have HENZ : Hid (z.enc = Rs.encW z.op z.a z.b z.c z.n) := rfl
                    clear hc hz hv hy hvy hb
                    go_wp2_with fail
                    with_reducible refine (rencode_flat z.op z.a z.b z.c z.n _).mono ?_
                    rintro e w4 ⟨rfl, hb4⟩
                    rw [← HENZ.out]
                    have HV4 := Lib.hid (own_keep21 HV.out hb4)
                    have HY4 := Lib.hid (own_keep21 HYY.out hb4)
                    have HB4 := Lib.hid (HBB.out.trans (hb4.mono hws3))
                    have hws4 : w3.heap.size ≤ w4.heap.size := HB4.out.size
                    clear hb4 HV HYY HBB d0 d1 d2 d3 d4
                    obtain ⟨cc, hcc⟩ : ∃ cc, Hid (As.cod l k ++ (ins.take j).map As.In.enc = cc) := ⟨_, rfl⟩
                    rw [hcc.out] at HV4
                    have hccl : cc.length ≤ 262160 := by rw [← hcc.out, List.length_append]; omega
                    obtain ⟨Z, hZ⟩ : ∃ Z, Hid (z.enc = Z) := ⟨_, rfl⟩
                    rw [hZ.out]
                    go_wp2_with (first | (at_builtin; refine wpList_append_lies _ rfl (.tmp 125) (.tmp 127) 54 rfl w3.heap.size 84 i0 (.int .u32 0) 1 4 Try.underlying54 HI.out HZ0.out HZ1.out HZ2.out rfl (by decide) cu cc.length (cc.map (Value.int .u32)) rfl (HV4.out.alloc _) ⟨w4.heap.size, 0, none⟩ 1 1 [.int .u32 Z] rfl rfl (new_cells _ (heap_new (by simp))) (by simp [Value.oneCell']) (by decide) (by simp only [maxLen]; omega) (by omega) (by simp; omega) (w4.heap.size + 1) (by simp) ?_; intro g5 c5 w5 hown5 hgr5 hat5 hlt5; have HO5 := Lib.hid hown5; have HG5 := Lib.hid hgr5; have HT5 := Lib.hid hat5; clear hown5 hgr5 hat5) | fail)
                    go_roundg (ins.length - (j + 1))
                    case measure => omega
                    case rel =>
                      refine ⟨j + 1, _, by omega, rfl, by go_num, rfl, ?_, ?_, ?_, (HB4.out.alloc hws4 _).grown HG5.out (by simp; omega) (fun q hq => (HV4.out.lt q hq).1)⟩
                      · rw [HTK.out, ← List.append_assoc, hcc.out, hZ.out, List.length_append, List.map_append]; exact HO5.out
                      · refine (HY4.out.alloc _).kept HG5.out (.inr ?_)
                        intro e
                        exact HVY.out gy e.symm rfl
                      · intro q hq e
                        simp only [Value.ownBlock] at hq
                        injection hq with hq
                        rcases HT5.out with h1 | h1
                        · exact HVY.out q (h1.trans (by rw [hq])) e
                        · have := (HY4.out.lt q e).2
                          omega
                  · obtain rfl : j = ins.length := by omega
                    have hge2 : (ins.length : Int) ≤ ins.length := by omega
                    have hfin : As.cod l k ++ (ins.take ins.length).map As.In.enc = As.cod l (k + 1) := by rw [List.take_length, HENC.out, HCS.out]
                    rw [hfin] at hv
                    have HVF := Lib.hid hv
                    clear hv hy hvy hb hfin hjl HV
                    go_wp2_with fail
                    go_roundg (l.length - (k + 1))
                    case measure => omega
                    case rel => exact ⟨k + 1, _, by omega, rfl, by go_num, rfl, HVF.out, HBB.out⟩
            · obtain rfl : k = l.length := by omega
              have hge3 : (l.length : Int) ≤ l.length := by omega
              have hfull := As.cod_full l
              rw [hfull] at hv
              have HVF := Lib.hid (Sl.own hv)
              have HP := Lib.hid hown
              have hc3 : l.length + 1 ≤ c3 := by
                rcases own_shape hown with ⟨h, _⟩ | ⟨g', cap', h, h1, h2, h3, h4⟩
                · cases h
                · cases h; exact h3
              have hc4 : (l.length : Int) ≤ c3 := by omega
              have hg1 : (0 : Int) ≤ l.length := by omega
              clear hv hown hfull hb
              go_wp2_with fail
              go_quiet (fail)
              go_wp2_with fail
              go_ret3
              refine ⟨below_drewN (HB3.out.trans (HBB.out.mono hw3)) _, ?_⟩
              rw [HE0.out, if_pos rfl]
              refine ⟨cv, _, rfl, HVF.out.drewN _, ?_⟩
              refine ⟨some ⟨g3, 0, none⟩, c3, by rw [nums, List.length_map, As.places0_length]; rfl, .inr ⟨⟨g3, 0, none⟩, rfl, fun j u hj => ?_⟩⟩
              rw [Go.WideShapes.add_plain, Nat.zero_add]
              rw [nums, List.getElem?_map] at hj
              have hjl : j < l.length := by
                have := (List.getElem?_eq_some_iff.1 (show ((As.places0 l).map fun (p : Nat) => Value.int .i64 (p : Int))[j]? = some u by simpa using hj)).1
                simpa [As.places0_length] using this
              rw [As.places0_get hjl] at hj
              exact ((HP.out.cellAt j (by omega)).trans (plOf_get (l := l) (bs := As.longs l) (show j < l.length + 1 by omega))).trans hj
end Go.Proofs.Ytaldcgfhlflcpaa
