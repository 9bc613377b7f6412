/- The program's Assemble. -/
import Derived.Test.YtbcpflogkniojaaQAsmRAs
import Derived.Test.YtbcpflogkniojaaQAsmWr
import Derived.RegionTactic
import Derived.ChangeAlike
import Derived.Deep.DeepCutAuto
namespace Go.Proofs.Ytbcpflogkniojaa
open Go.RowKit
set_option linter.unusedVariables false
set_option linter.unusedSimpArgs false
theorem As.places_le {l : List As.It} (bs : List Bool) (h : l.length ≤ 65536) : ∀ p ∈ As.places l bs 0, p ≤ 262144 := by
  have key : ∀ (l : List As.It) (bs : List Bool) (k : Nat), ∀ p ∈ As.places l bs k, p ≤ k + 4 * l.length := by
    intro l
    induction l with
    | nil => intro bs k p hp; simp [As.places] at hp
    | cons x l ih =>
      intro bs k p hp
      cases bs with
      | nil => simp [As.places] at hp
      | cons b bs =>
        rw [As.places] at hp
        rcases List.mem_cons.1 hp with h | h
        · omega
        · have h1 := ih bs _ p h
          have h2 := As.size_le x b
          rw [List.length_cons]
          omega
  intro p hp
  have := key l bs 0 p hp
  omega
theorem four_objs (w : World) (o1 o2 o3 o4 : Obj) {W : World} (h : ((((w.alloc o1).alloc o2).alloc o3).alloc o4).drew = W) :
    W.heap[w.heap.size]? = some o1 ∧ W.heap[w.heap.size + 1]? = some o2 ∧ W.heap[w.heap.size + 1 + 1]? = some o3 ∧ W.heap[w.heap.size + 1 + 1 + 1]? = some o4 ∧ Below w.heap.size w W := by
  subst h
  have e : ∀ W : World, (W.drew).heap = W.heap := fun _ => rfl
  rw [e]
  have n1 := heap_alloc_new w o1
  have n2 := heap_alloc_new (w.alloc o1) o2
  have n3 := heap_alloc_new ((w.alloc o1).alloc o2) o3
  have n4 := heap_alloc_new (((w.alloc o1).alloc o2).alloc o3) o4
  simp only [World.size_alloc] at n2 n3 n4
  refine ⟨?_, ?_, ?_, n4, ((((Below.refl w.heap.size w).alloc (Nat.le_refl _) _).alloc (by simp) _).alloc (by simp; omega) _).alloc (by simp; omega) _ |>.drew⟩
  · rw [heap_alloc_old _ _ (by simp <;> omega), heap_alloc_old _ _ (by simp <;> omega), heap_alloc_old _ _ (by simp)]; exact n1
  · rw [heap_alloc_old _ _ (by simp <;> omega), heap_alloc_old _ _ (by simp)]; exact n2
  · rw [heap_alloc_old _ _ (by simp)]; exact n3
theorem ast_new {w W : World} {g lb pb mb : Nat} {al : Option Addr} {cl : Nat} {l : List As.It} (hI : ISl w (.slice al l.length cl) l) (hb : Below w.heap.size w W)
    (hg : W.heap[g]? = some (.cells #[.slice al l.length cl, .map (some mb), .slice (some ⟨lb, 0, none⟩) l.length l.length, .slice (some ⟨pb, 0, none⟩) l.length l.length, .slice none 0 0] 55 (0, 0)))
    (hl : W.heap[lb]? = some (.cells (madeCells #[.bool false] l.length) 4 (0, 0))) (hp : W.heap[pb]? = some (.cells (madeCells #[.int .i64 0] l.length) 3 (0, 0))) (hm : W.heap[mb]? = some (.map #[] 0))
    (base : w.heap.size ≤ g ∧ w.heap.size ≤ lb ∧ w.heap.size ≤ pb ∧ w.heap.size ≤ mb) (ne : g ≠ lb ∧ g ≠ pb ∧ g ≠ mb ∧ lb ≠ pb ∧ lb ≠ mb ∧ pb ≠ mb) :
    ASt w.heap.size W g lb pb mb [] (.slice al l.length cl) (.slice none 0 0) l (List.replicate l.length false) (List.replicate l.length 0) [] where
  blk := hg
  items := hI.below hb (Nat.le_refl _)
  long := by rw [hl, made_one21]; simp [bools]
  places := by rw [hp, made_one21]; simp [nums]
  code := ⟨rfl, .inl ⟨rfl, rfl⟩⟩
  map := ⟨#[], 0, hm, rfl⟩
  lbs := by simp
  lps := by simp
  base := base
  ne := ne
  ne2 := ⟨by simp [Value.ownBlock], by simp [Value.ownBlock], by simp [Value.ownBlock], by simp [Value.ownBlock]⟩
  low := fun a n c e hne => by
    obtain ⟨b, off, h1, h2, h3⟩ := hI.at hne
    cases e
    cases h1
    exact h2
/-- The map as it stands after the first items. -/
def Lab (l : List As.It) (L : List (Int × Value)) : Prop := ∀ k, alook L k = (As.find k l).map fun (t : Nat) => Value.int .i64 (t : Int)
theorem Lab.labels {l : List As.It} {L : List (Int × Value)} (h : Lab l L) : Labels l L := fun k t ht => by rw [h k, ht]; rfl
theorem Lab.other {l : List As.It} {L : List (Int × Value)} (h : Lab l L) {x : As.It} (hx : x.kind ≠ 1) : Lab (l ++ [x]) L := fun k => by
  rw [h k, As.find_snoc]
  cases As.find k l with
  | some t => rfl
  | none => simp [As.isLabel, hx]
theorem Lab.put {l : List As.It} {L : List (Int × Value)} (h : Lab l L) {x : As.It} (hx : x.kind = 1) (hn : As.find x.label l = none) : Lab (l ++ [x]) (aput L x.label (.int .i64 (l.length : Nat))) := fun k => by
  rw [alook_aput, As.find_snoc, h k]
  by_cases hk : k = x.label
  · subst hk
    rw [if_pos rfl, hn]
    simp [As.isLabel, hx]
  · rw [if_neg hk]
    cases As.find k l with
    | some t => rfl
    | none => simpa [As.isLabel, hx] using fun e : x.label = k => hk e.symm
theorem look_ok {w : World} {mb : Nat} {L : List (Int × Value)} (h : AMap (fun n : Int => Value.int .i64 n) w mb L) (k : Int) (n : Nat) :
    (Instr.lookup 52 (.map (some mb)) (.int .i64 k) true).run Try.prog (w.drewN n) = .ok (.tuple #[(alook L k).getD (.int .i64 0), .bool (alook L k).isSome]) (w.drewN n) :=
  AMap.lookup (h.drewN n) (keyOk_int Try.underlying3) Try.underlying52 (zeroInt (w.drewN n)) k true
theorem ASt.setMap {B : Nat} {w w' : World} {g lb pb mb : Nat} {L L' : List (Int × Value)} {al : Option Addr} {cl : Nat} {vc : Value} {l : List As.It} {bs : List Bool} {ps : List Nat} {code : List Int} (h : ASt B w g lb pb mb L (.slice al l.length cl) vc l bs ps code) (hg : w.grownBy w' (some mb)) (hm : AMap (fun n : Int => Value.int .i64 n) w' mb L') : ASt B w' g lb pb mb L' (.slice al l.length cl) vc l bs ps code := by
  obtain ⟨n1, n2, n3, n4, n5, n6⟩ := h.ne
  obtain ⟨m1, m2, m3, m4⟩ := h.ne2
  obtain ⟨q1, q2, q3, q4⟩ := h.base
  obtain ⟨l1, l2, l3⟩ := h.lt
  have old : ∀ k, k < w.heap.size → k ≠ mb → w'.heap[k]? = w.heap[k]? := fun k hk hne => hg.block k hk (fun e => hne (by injection e))
  refine ⟨(old g l1 n3).trans h.blk, ?_, (old lb l2 n5).trans h.long, (old pb l3 n6).trans h.places, h.code.kept hg (.inr m4), hm, h.lbs, h.lps, h.base, h.ne, h.ne2, h.low⟩
  obtain ⟨a, cap, hv, h0 | ⟨b, off, e1, e2, e3⟩⟩ := h.items
  · exact ⟨a, cap, hv, .inl h0⟩
  · by_cases hl : l = []
    · exact ⟨a, cap, hv, .inl hl⟩
    · cases hv
      have hlow : b < B := h.low ⟨b, off, none⟩ _ _ (by rw [e1]) hl
      exact ⟨_, _, rfl, .inr ⟨b, off, e1, by have := hg.size; omega, fun j x hx => (e3 j x hx).of (fun k => World.cell?_of_block (old b e2 (by omega)))⟩⟩
theorem item_kept {w w1 : World} {c0 c1 c2 c3 c4 c5 c6 c7 : Value} {t : TypeId} (hb : Below (w.alloc (.cells #[c0, c1, c2, c3, c4, c5, c6, c7] t)).heap.size (w.alloc (.cells #[c0, c1, c2, c3, c4, c5, c6, c7] t)) w1) :
    w1.cell? ⟨w.heap.size, 0, none⟩ = some c0 ∧ w1.cell? ⟨w.heap.size, 6, none⟩ = some c6 ∧ Below w.heap.size w w1 := by
  have hz : w1.heap[w.heap.size]? = some (.cells #[c0, c1, c2, c3, c4, c5, c6, c7] t (0, 0)) := (hb.block _ (by simp)).trans (heap_alloc_new w _)
  refine ⟨by rw [cell_of_row w1 _ 0 _ _ _ hz]; rfl, by rw [cell_of_row w1 _ 6 _ _ _ hz]; rfl, ((Below.refl _ _).alloc (Nat.le_refl _) _).trans (hb.mono (by simp))⟩
set_option maxHeartbeats 16000000 in
set_option maxRecDepth 100000 in
theorem assemble_any (al : Option Addr) (cl : Nat) (l : List As.It) (w : World) (hl : ISl w (.slice al l.length cl) l) (hmax : l.length ≤ 9223372036854775807) :
    Calls Try.prog 8 #[.slice al l.length cl] w (AsmPost w l) := by
  have HL := Lib.hid hl
  clear hl
  by_cases hbig : 65536 < l.length
  · have he : Hid (As.err l = 213) := if_pos hbig
    have hb2 : (65536 : Int) < (l.length : Int) := by omega
    go_enter Try.func8, Try.ntmps8
    go_wp2_with fail
    go_ret3
    refine ⟨Below.refl _ _, ?_⟩
    rw [he.out, if_neg (by decide)]
    rfl
  have h64 : l.length ≤ 65536 := by omega
  have hb2 : ¬ (65536 : Int) < (l.length : Int) := by omega
  have hmm : ∀ w, (Instr.makeMap 52 none).run Try.prog w = .ok (.map (some w.heap.size)) (w.alloc (.map #[] 0)) := fun w => run_makeMap _ w
  have hmk1 := make_ints21 l.length (by omega)
  have hmk3 := make_bools21 l.length (by omega)
  go_enter Try.func8, Try.ntmps8
  go_upto_region 3 with fail
  go_cut [5] (fun s5 wx => ∃ g lb pb mb, s5 = .pointer (some ⟨g, 0, none⟩) ∧ ASt w.heap.size wx g lb pb mb [] (.slice al l.length cl) (.slice none 0 0) l (List.replicate l.length false) (List.replicate l.length 0) [] ∧ Below w.heap.size w wx)
  case first =>
    go_region
    all_goals
      go_wp2_with fail
      go_meet
      obtain ⟨a1, a2, a3, a4, hb⟩ := four_objs w _ _ _ _ rfl
      exact ⟨_, _, _, _, rfl, ast_new HL.out hb a4 (by first | exact a1 | exact a2 | exact a3) (by first | exact a1 | exact a2 | exact a3) (by first | exact a1 | exact a2 | exact a3) (by omega) (by omega), hb⟩
  case rest =>
    obtain ⟨g, lb, pb, mb, rfl, hA, hb⟩ := hcut
    have HA := Lib.hid hA
    have HB := Lib.hid hb
    clear hA hb
    go_wp2_with fail
    go_loopg [30] l.length (fun gk i wx => ∃ (k : Nat) (L : List (Int × Value)), k ≤ l.length ∧ gk = l.length - k ∧ i = .int .i64 k ∧ As.errA [] l = As.errA (l.take k) (l.drop k) ∧ Lab (l.take k) L ∧ ASt w.heap.size wx g lb pb mb L (.slice al l.length cl) (.slice none 0 0) l (List.replicate l.length false) (List.replicate l.length 0) [] ∧ Below w.heap.size w wx)
    case atStart => exact ⟨0, [], Nat.zero_le _, rfl, rfl, rfl, fun k => rfl, HA.out, HB.out⟩
    case round =>
      clear HA HB
      obtain ⟨k, L, hk, rfl, rfl, he, hlab, hA, hb⟩ := hrel
      have HE := Lib.hid he
      have HLAB := Lib.hid hlab
      have HA := Lib.hid hA
      have HBB := Lib.hid hb
      have hws : w.heap.size ≤ wr.heap.size := hb.size
      clear he hlab hb
      by_cases hlt : k < l.length
      · obtain ⟨x, hx⟩ : ∃ x, l[k]? = some x := ⟨_, List.getElem?_eq_getElem hlt⟩
        have hne : l ≠ [] := by intro e; rw [e] at hlt; simp at hlt
        obtain ⟨bl, off, hal, hbl, hat⟩ := hA.items.at hne
        subst hal
        obtain ⟨d0, d1, d2, d3, d4, d5, d6, d7⟩ := hat k x hx
        have HST : Hid (As.errA [] l = if As.may x = false then 210 else if x.kind = 1 ∧ (As.find x.label (l.take k)).isSome = true then 211 else As.errA (l.take (k + 1)) (l.drop (k + 1))) := HE.out.trans (As.errA_step hx)
        have HTK : Hid (l.take k ++ [x] = l.take (k + 1)) := (As.drop_cons hx).2
        have hg1 : (0 : Int) ≤ k := by omega
        have hg2 : (k : Int) < l.length := by omega
        have hgw : IntKind.i64.wrap ((k : Int) + 1) = k + 1 := by rw [IntKind.wrap_i64]; omega
        clear hat hx hA
        go_wp2_with fail
        with_reducible refine (may_flat _ _ _ _ _ _ _ _ _).mono ?_
        rintro e w1 ⟨rfl, hb1⟩
        obtain ⟨e0, e6, hb2⟩ := item_kept hb1
        have HA1 := Lib.hid (HA.out.below hb2 (Nat.le_refl _))
        have HB1 := Lib.hid (HBB.out.trans (hb2.mono hws))
        have hlt1 : wr.heap.size < w1.heap.size := by have := hb1.size; simp at this; omega
        clear hb1 hb2 d0 d1 d2 d3 d4 d5 d6 d7
        cases hm : As.may x
        · have HER : Hid (As.err l = 210) := As.err_A h64 (by rw [HST.out, if_pos hm]) (by decide)
          clear hm
          go_wp2_with fail
          go_ret3
          refine ⟨HB1.out, ?_⟩
          rw [HER.out, if_neg (by decide)]
          rfl
        · have HM := Lib.hid hm
          clear hm
          by_cases hk1 : x.kind = 1
          · rw [hk1] at e0
            have c1 := HA1.out.c1
            have hg3 : g < w1.heap.size := HA1.out.lt.1
            have hlk := look_ok HA1.out.map x.label
            rw [HLAB.out] at hlk
            cases hf : As.find x.label (l.take k) with
            | none =>
              rw [hf] at hlk
              replace hlk : ∀ n, (Instr.lookup 52 (.map (some mb)) (.int .i64 x.label) true).run Try.prog (w1.drewN n) = .ok (.tuple #[.int .i64 0, .bool false]) (w1.drewN n) := hlk
              have HN : Hid (As.errA [] l = As.errA (l.take (k + 1)) (l.drop (k + 1))) := by unfold Hid; rw [HST.out, if_neg (by rw [HM.out]; decide), if_neg (by rw [hf]; simp)]
              have HLP : Hid (Lab (l.take (k + 1)) (aput L x.label (.int .i64 (k : Nat)))) := by
                have h := HLAB.out.put hk1 hf
                rw [HTK.out] at h
                have e : (l.take k).length = k := by simp; omega
                rw [e] at h
                exact h
              clear hf
              go_wp2_with fail
              go_quiet (fail)
              go_wp2_with fail
              refine wp_still_tail 7 (by kernel_rfl) (by kernel_rfl) ?_
              simp only [List.take_succ_cons, List.take_zero, List.drop_succ_cons, List.drop_zero]
              repeat still_step
              refine wpStill_nil ?_
              show wpList _ _ _ _ _ _
              go_wp2_with (first | (at_mapUpdate; refine wpList_update_amap rfl (.tmp 55) (.tmp 57) (.tmp 58) rfl (keyOk_int Try.underlying3) Try.underlying52 (HA1.out.map.drewN (nq + 1)) rfl x.label (.int .i64 (k : Nat)) rfl rfl ?_; intro w3 hm3 hg3'; have HM3 := Lib.hid hm3; have HG3 := Lib.hid hg3'; clear hm3 hg3'))
              go_roundg (l.length - (k + 1))
              case measure => omega
              case rel => exact ⟨k + 1, _, by omega, rfl, by go_num, HN.out, HLP.out, (HA1.out.below (below_drewN (Below.refl _ _) (nq + 1)) (Nat.le_refl _)).setMap HG3.out HM3.out, (below_drewN HB1.out (nq + 1)).grown HG3.out (by simp; omega) (fun q hq => by injection hq with hq; rw [← hq]; exact HA1.out.base.2.2.2)⟩
            | some t =>
              rw [hf] at hlk
              replace hlk : ∀ n, (Instr.lookup 52 (.map (some mb)) (.int .i64 x.label) true).run Try.prog (w1.drewN n) = .ok (.tuple #[.int .i64 (t : Nat), .bool true]) (w1.drewN n) := hlk
              have HER : Hid (As.err l = 211) := As.err_A h64 (by rw [HST.out, if_neg (by rw [HM.out]; decide), if_pos ⟨hk1, by rw [hf]; rfl⟩]) (by decide)
              clear hf
              go_wp2_with fail
              go_quiet (fail)
              go_wp2_with fail
              go_ret3
              refine ⟨below_drewN HB1.out _, ?_⟩
              rw [HER.out, if_neg (by decide)]
              rfl
          · have hq := beq_eq_false_iff_ne.2 hk1
            have HN : Hid (As.errA [] l = As.errA (l.take (k + 1)) (l.drop (k + 1))) := by unfold Hid; rw [HST.out, if_neg (by rw [HM.out]; decide), if_neg (fun h => hk1 h.1)]
            have HLP : Hid (Lab (l.take (k + 1)) L) := by have h := HLAB.out.other hk1; rw [HTK.out] at h; exact h
            go_wp2_with fail
            go_roundg (l.length - (k + 1))
            case measure => omega
            case rel => exact ⟨k + 1, L, by omega, rfl, by go_num, HN.out, HLP.out, HA1.out, HB1.out⟩
      · obtain rfl : k = l.length := by omega
        have hge : (l.length : Int) ≤ l.length := by omega
        have HEA : Hid (As.errA [] l = 0) := by unfold Hid; rw [HE.out, List.drop_length]; rfl
        have HLF : Hid (Lab l L) := by have h := HLAB.out; rw [List.take_length] at h; exact h
        clear HE hA HLAB
        go_wp2_with fail
        obtain ⟨wo, hwo⟩ : ∃ wo : World, wo = wr := ⟨_, rfl⟩
        subst hwo
        go_loopg [62] l.length (fun gk i wx => ∃ k : Nat, k ≤ l.length ∧ gk = l.length - k ∧ i = .int .i64 k ∧ As.errN l l = As.errN l (l.drop k) ∧ ASt w.heap.size wx g lb pb mb L (.slice al l.length cl) (.slice none 0 0) l (List.replicate l.length false) (List.replicate l.length 0) [] ∧ Below w.heap.size w wx)
        case atStart => exact ⟨0, Nat.zero_le _, rfl, rfl, rfl, HA.out, HBB.out⟩
        case round =>
          clear HA HBB hws
          obtain ⟨k, hk, rfl, rfl, he, hA, hb⟩ := hrel
          have HE := Lib.hid he
          have HA := Lib.hid hA
          have HBB := Lib.hid hb
          have hws : w.heap.size ≤ wr.heap.size := hb.size
          clear he hb
          by_cases hlt : k < l.length
          · obtain ⟨x, hx⟩ : ∃ x, l[k]? = some x := ⟨_, List.getElem?_eq_getElem hlt⟩
            have hne : l ≠ [] := by intro e; rw [e] at hlt; simp at hlt
            obtain ⟨bl, off, hal, hbl, hat⟩ := hA.items.at hne
            subst hal
            obtain ⟨d0, d1, d2, d3, d4, d5, d6, d7⟩ := hat k x hx
            have HST : Hid (As.errN l l = if As.names x = true ∧ As.find x.label l = none then 212 else As.errN l (l.drop (k + 1))) := HE.out.trans (As.errN_step hx)
            have hg1 : (0 : Int) ≤ k := by omega
            have hg2 : (k : Int) < l.length := by omega
            have hgw : IntKind.i64.wrap ((k : Int) + 1) = k + 1 := by rw [IntKind.wrap_i64]; omega
            have HA1 := Lib.hid (HA.out.alloc' (.cells #[.int .i64 x.kind, .int .i64 x.op, .int .i64 x.a, .int .i64 x.b, .int .i64 x.c, .int .i64 x.n, .int .i64 x.label, .int .i64 x.num] 35))
            have HB1 := Lib.hid (HBB.out.alloc hws (.cells #[.int .i64 x.kind, .int .i64 x.op, .int .i64 x.a, .int .i64 x.b, .int .i64 x.c, .int .i64 x.n, .int .i64 x.label, .int .i64 x.num] 35))
            have c1 := HA.out.c1
            have hg3 : g < wr.heap.size := HA.out.lt.1
            have hlk := look_ok HA1.out.map x.label
            rw [HLF.out] at hlk
            clear hat hx hA
            cases hf : As.find x.label l with
            | some t =>
              rw [hf] at hlk
              replace hlk : ∀ n, (Instr.lookup 52 (.map (some mb)) (.int .i64 x.label) true).run Try.prog (((wr.alloc (.cells #[.int .i64 x.kind, .int .i64 x.op, .int .i64 x.a, .int .i64 x.b, .int .i64 x.c, .int .i64 x.n, .int .i64 x.label, .int .i64 x.num] 35))).drewN n) = .ok (.tuple #[.int .i64 (t : Nat), .bool true]) (((wr.alloc (.cells #[.int .i64 x.kind, .int .i64 x.op, .int .i64 x.a, .int .i64 x.b, .int .i64 x.c, .int .i64 x.n, .int .i64 x.label, .int .i64 x.num] 35))).drewN n) := hlk
              have HN : Hid (As.errN l l = As.errN l (l.drop (k + 1))) := by unfold Hid; rw [HST.out, if_neg (fun h => by rw [hf] at h; cases h.2)]
              clear hf
              go_wp2_with fail
              go_quiet (fail)
              go_wp2_with fail
              go_roundg (l.length - (k + 1))
              case measure => omega
              case rel => exact ⟨k + 1, by omega, rfl, by go_num, HN.out, HA1.out.below (below_drewN (Below.refl _ _) _) (Nat.le_refl _), below_drewN HB1.out _⟩
            | none =>
              rw [hf] at hlk
              replace hlk : ∀ n, (Instr.lookup 52 (.map (some mb)) (.int .i64 x.label) true).run Try.prog (((wr.alloc (.cells #[.int .i64 x.kind, .int .i64 x.op, .int .i64 x.a, .int .i64 x.b, .int .i64 x.c, .int .i64 x.n, .int .i64 x.label, .int .i64 x.num] 35))).drewN n) = .ok (.tuple #[.int .i64 0, .bool false]) (((wr.alloc (.cells #[.int .i64 x.kind, .int .i64 x.op, .int .i64 x.a, .int .i64 x.b, .int .i64 x.c, .int .i64 x.n, .int .i64 x.label, .int .i64 x.num] 35))).drewN n) := hlk
              cases h2 : (x.kind == 2) <;> cases h3 : (x.kind == 3) <;> cases h5 : (x.kind == 5)
              case false.false.false =>
                have HN : Hid (As.errN l l = As.errN l (l.drop (k + 1))) := by
                  unfold Hid
                  rw [HST.out, if_neg (fun h => by
                    have e : As.names x = ((x.kind == 2) || (x.kind == 3) || (x.kind == 5)) := rfl
                    rw [e, h2, h3, h5] at h
                    exact absurd h.1 (by decide))]
                clear hf
                go_wp2_with fail
                go_quiet (fail)
                go_wp2_with fail
                go_roundg (l.length - (k + 1))
                case measure => omega
                case rel => exact ⟨k + 1, by omega, rfl, by go_num, HN.out, HA1.out.below (below_drewN (Below.refl _ _) _) (Nat.le_refl _), below_drewN HB1.out _⟩
              all_goals
                have HER : Hid (As.err l = 212) := As.err_N h64 HEA.out (by
                  have e : As.names x = ((x.kind == 2) || (x.kind == 3) || (x.kind == 5)) := rfl
                  rw [HST.out, if_pos ⟨by rw [e, h2, h3, h5]; rfl, hf⟩])
                clear hf
                go_wp2_with fail
                go_quiet (fail)
                go_wp2_with fail
                go_ret3
                refine ⟨below_drewN HB1.out _, ?_⟩
                rw [HER.out, if_neg (by decide)]
                rfl
          · obtain rfl : k = l.length := by omega
            have hge : (l.length : Int) ≤ l.length := by omega
            have HEN : Hid (As.errN l l = 0) := by unfold Hid; rw [HE.out, List.drop_length]; rfl
            have HE0 : Hid (As.err l = 0) := As.err_N h64 HEA.out HEN.out
            have HGOOD : Hid (As.Good l) := As.good_of HE0.out
            clear HE hA
            go_wp2_with fail
            with_reducible refine (lay_any _ HA.out h64).mono ?_
            rintro e w3 ⟨rfl, hA3, hb3⟩
            have HA3 := Lib.hid hA3
            have HB3 := Lib.hid (HBB.out.trans hb3)
            clear hA3 hb3 HA HBB hws
            go_wp2_with fail
            have HLG : Hid (As.layout l (l.length + 1) (List.replicate l.length false) = As.longs l) := rfl
            have HPB : Hid (∀ (bs : List Bool), ∀ p ∈ As.places l bs 0, p ≤ 262144) := fun bs => As.places_le bs h64
            have HP0 : Hid (∀ p ∈ As.places0 l, p ≤ 262144) := HPB.out (As.longs l)
            go_loopg [] (l.length + 1) (fun gk wx => ∃ bs : List Bool, As.layout l gk bs = As.longs l ∧ l.length < gk + bs.count true ∧ bs.length = l.length ∧ ASt w.heap.size wx g lb pb mb L (.slice al l.length cl) (.slice none 0 0) l bs (As.places l bs 0) [] ∧ Below w.heap.size w wx)
            case atStart => exact ⟨_, HLG.out, by omega, by simp, HA3.out, HB3.out⟩
            case round =>
              clear HA3 HB3
              obtain ⟨bs, hlay, hcnt, hbl, hA, hb⟩ := hrel
              have HLAY := Lib.hid hlay
              have HCNT := Lib.hid hcnt
              have HBL := Lib.hid hbl
              have HA := Lib.hid hA
              have HBB := Lib.hid hb
              obtain ⟨m, hm⟩ : ∃ m, gk = m + 1 := ⟨gk - 1, by have := List.count_le_length (a := true) (l := bs); omega⟩
              obtain ⟨G, hG⟩ : ∃ G, Hid (As.grow l (As.places l bs 0) l bs (As.places l bs 0) = G) := ⟨_, rfl⟩
              have HGL : Hid (G.length = l.length) := by rw [← hG.out]; exact As.grow_length l _ l bs _ hbl (As.places_length l bs 0 hbl)
              have HNB : Hid (As.layout l (m + 1) bs = if G = bs then bs else As.layout l m G) := by unfold Hid; rw [As.layout, hG.out]
              have HLM : Hid (As.layout l (m + 1) bs = As.longs l) := by have := hlay; rw [hm] at this; exact this
              clear hlay hcnt hbl hA hb
              go_wp2_with fail
              with_reducible refine (grow_any _ HA.out h64 HLF.out.labels HGOOD.out.has (HPB.out bs)).mono ?_
              rintro e w4 ⟨rfl, hA4, hb4⟩
              rw [hG.out] at hA4
              rw [hG.out]
              have HA4 := Lib.hid hA4
              have HB4 := Lib.hid (HBB.out.trans hb4)
              clear hA4 hb4
              by_cases hd : G = bs
              · have hdd : decide (G = bs) = true := decide_eq_true hd
                have HBE : Hid (bs = As.longs l) := by unfold Hid; rw [← HLM.out, HNB.out, if_pos hd]
                have HA5 : Hid (ASt w.heap.size w4 g lb pb mb L (.slice al l.length cl) (.slice none 0 0) l (As.longs l) (As.places0 l) []) := by
                  have h := HA4.out
                  rw [hd, HBE.out] at h
                  exact h
                rw [hdd]
                clear hd hdd HA4 HA HBB HLM HNB HGL
                go_wp2_with fail
                obtain ⟨wo, hwo⟩ : ∃ wo : World, wo = w4 := ⟨_, rfl⟩
                subst hwo
                go_loopg [102] l.length (fun gk i wx => ∃ (k : Nat) (vc : Value), k ≤ l.length ∧ gk = l.length - k ∧ i = .int .i64 k ∧ ASt w.heap.size wx g lb pb mb L (.slice al l.length cl) vc l (As.longs l) (As.places0 l) (As.cod l k) ∧ Below w.heap.size w wx)
                case atStart => exact ⟨0, _, Nat.zero_le _, rfl, rfl, HA5.out, HB4.out⟩
                case round =>
                  clear HA5 HB4
                  obtain ⟨k, vc, hk, rfl, rfl, hA, hb⟩ := hrel
                  have HA := Lib.hid hA
                  have HBB := Lib.hid hb
                  clear hb
                  by_cases hlt : k < l.length
                  · obtain ⟨x, hx⟩ : ∃ x, l[k]? = some x := ⟨_, List.getElem?_eq_getElem hlt⟩
                    obtain ⟨b, hbk⟩ : ∃ b, (As.longs l)[k]? = some b := ⟨_, List.getElem?_eq_getElem (by have := (As.longs_fix l).2; omega)⟩
                    have HX := Lib.hid hx
                    have HBK := Lib.hid hbk
                    have HCS := Lib.hid (As.cod_succ hx hbk)
                    have HMX : Hid (As.may x = true) := HGOOD.out.may x (List.mem_of_getElem? hx)
                    have HPK := Lib.hid (As.places0_get hlt)
                    have hcl := As.cod_len HGOOD.out.may k h64
                    have hg1 : (0 : Int) ≤ k := by omega
                    have hg2 : (k : Int) < l.length := by omega
                    have hgw : IntKind.i64.wrap ((k : Int) + 1) = k + 1 := by rw [IntKind.wrap_i64]; omega
                    clear hx hbk hA
                    go_wp2_with fail
                    with_reducible refine (write_any _ HA.out h64 (by omega) HLF.out.labels HGOOD.out.has HP0.out k x b _ HX.out HBK.out HPK.out HMX.out).mono ?_
                    rintro e w5 ⟨rfl, vc5, hA5, hb5⟩
                    rw [← HCS.out] at hA5
                    have HA5 := Lib.hid hA5
                    have HB5 := Lib.hid (HBB.out.trans hb5)
                    clear hA5 hb5
                    go_wp2_with fail
                    go_roundg (l.length - (k + 1))
                    case measure => omega
                    case rel => exact ⟨k + 1, vc5, by omega, rfl, by go_num, HA5.out, HB5.out⟩
                  · obtain rfl : k = l.length := by omega
                    have hge : (l.length : Int) ≤ l.length := by omega
                    have c3 := HA.out.c3
                    have c4 := HA.out.c4
                    have hg3 : g < wr.heap.size := HA.out.lt.1
                    clear hA
                    go_wp2_with fail
                    go_quiet (fail)
                    go_wp2_with fail
                    go_ret3
                    refine ⟨below_drewN HBB.out _, ?_⟩
                    rw [HE0.out, if_pos rfl]
                    have hA := HA.out
                    rw [As.cod_full] at hA
                    refine ⟨vc, .slice (some ⟨pb, 0, none⟩) l.length l.length, rfl, (Sl.own hA.code).drewN _, Sl.drewN ?_ _⟩
                    refine ⟨some ⟨pb, 0, none⟩, l.length, by rw [nums, List.length_map, As.places0_length], .inr ⟨⟨pb, 0, none⟩, rfl, fun j u hj => ?_⟩⟩
                    rw [Go.WideShapes.add_plain, Nat.zero_add, cell_of_row wr _ _ _ _ _ hA.places]
                    simpa using hj
              · have hdd : decide (G = bs) = false := decide_eq_false hd
                have HC : Hid (bs.count true < G.count true) := by
                  unfold Hid
                  have := As.grow_count l (As.places l bs 0) l bs (As.places l bs 0) HBL.out (As.places_length l bs 0 HBL.out) (by rw [hG.out]; exact hd)
                  rw [hG.out] at this
                  exact this
                have HNE : Hid (As.layout l m G = As.longs l) := by unfold Hid; rw [← HLM.out, HNB.out, if_neg hd]
                rw [hdd]
                clear hd hdd
                go_wp2_with fail
                with_reducible refine (lay_any _ HA4.out h64).mono ?_
                rintro e w5 ⟨rfl, hA5, hb5⟩
                have HA5 := Lib.hid hA5
                have HB5 := Lib.hid (HB4.out.trans hb5)
                clear hA5 hb5
                go_wp2_with fail
                go_roundg m
                case measure => omega
                case rel => exact ⟨G, HNE.out, by have h1 := HC.out; have h2 := HCNT.out; omega, HGL.out, HA5.out, HB5.out⟩
end Go.Proofs.Ytbcpflogkniojaa
