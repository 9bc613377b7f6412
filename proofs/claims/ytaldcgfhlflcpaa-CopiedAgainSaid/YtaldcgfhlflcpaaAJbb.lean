/- The reference's Layout. -/
import Derived.Test.YtaldcgfhlflcpaaAJay
import Derived.Test.YtaldcgfhlflcpaaAJba
import Derived.Test.YtaldcgfhlflcpaaAJaw
set_option linter.unusedVariables false
set_option linter.unusedSimpArgs false
set_option linter.unnecessarySimpa false
namespace Go.Proofs.Ytaldcgfhlflcpaa
open Go.RowKit
set_option maxRecDepth 100000
set_option linter.unusedVariables false
set_option linter.unusedSimpArgs false
def As.finds (all : List As.It) (l : List As.It) : List Int := l.map fun x => if As.names x = true then As.findI x.label all else 0
def ints (l : List Int) : List Value := l.map fun (z : Int) => Value.int .i64 z
structure LSt (B : Nat) (w : World) (lb fb : Nat) (bs : List Bool) (fs : List Int) : Prop where
  long : w.heap[lb]? = some (.cells (bools bs).toArray 4 (0, 0))
  finds : w.heap[fb]? = some (.cells (ints fs).toArray 3 (0, 0))
  base : B ≤ lb ∧ B ≤ fb
  ne : lb ≠ fb
section
variable {B : Nat} {w : World} {lb fb : Nat} {bs : List Bool} {fs : List Int}
theorem LSt.lt (h : LSt B w lb fb bs fs) : lb < w.heap.size ∧ fb < w.heap.size := ⟨(Array.getElem?_eq_some_iff.1 h.long).1, (Array.getElem?_eq_some_iff.1 h.finds).1⟩
theorem LSt.cl (h : LSt B w lb fb bs fs) {i : Nat} {b : Bool} (hb : bs[i]? = some b) : w.cell? ⟨lb, i, none⟩ = some (.bool b) := by
  rw [cell_of_row w lb _ _ _ _ h.long]
  simp [bools, hb]
theorem LSt.cf (h : LSt B w lb fb bs fs) {i : Nat} {z : Int} (hb : fs[i]? = some z) : w.cell? ⟨fb, i, none⟩ = some (.int .i64 z) := by
  rw [cell_of_row w fb _ _ _ _ h.finds]
  simp [ints, hb]
theorem LSt.below {w' : World} {N : Nat} (h : LSt B w lb fb bs fs) (hb : Below N w w') (hN : w.heap.size ≤ N) : LSt B w' lb fb bs fs := by
  obtain ⟨h1, h2⟩ := h.lt
  exact ⟨(hb.block lb (by omega)).trans h.long, (hb.block fb (by omega)).trans h.finds, h.base, h.ne⟩
theorem LSt.setLong (h : LSt B w lb fb bs fs) (i : Nat) (b : Bool) : LSt B (w.setCell ⟨lb, i, none⟩ (.bool b)) lb fb (bs.set i b) fs := by
  refine ⟨?_, ?_, h.base, h.ne⟩
  · rw [heap_setCell_same w lb i _ _ _ h.long]
    simp [bools, List.map_set]
  · rw [heap_setCell_other _ _ _ _ (fun e => h.ne e.symm)]; exact h.finds
theorem LSt.setFind (h : LSt B w lb fb bs fs) (i : Nat) (z : Int) : LSt B (w.setCell ⟨fb, i, none⟩ (.int .i64 z)) lb fb bs (fs.set i z) := by
  refine ⟨?_, ?_, h.base, h.ne⟩
  · rw [heap_setCell_other _ _ _ _ h.ne]; exact h.long
  · rw [heap_setCell_same w fb i _ _ _ h.finds]
    simp [ints, List.map_set]
end
theorem mixed_same {α : Type} (P Q : List α) (k : Nat) (x : α) (hP : P[k]? = some x) (hQ : Q[k]? = some x) : P.take (k + 1) ++ Q.drop (k + 1) = P.take k ++ Q.drop k := by
  have hk : k < Q.length := (List.getElem?_eq_some_iff.1 hQ).1
  have hb : Q[k] = x := by rw [List.getElem?_eq_getElem hk] at hQ; simpa using hQ
  rw [List.take_add_one, hP, List.drop_eq_getElem_cons hk, hb]
  simp
theorem As.finds_get {all l : List As.It} {i : Nat} {x : As.It} (h : l[i]? = some x) : (As.finds all l)[i]? = some (if As.names x = true then As.findI x.label all else 0) := by simp [As.finds, h]
theorem plOf_get {l : List As.It} {bs : List Bool} {n j : Nat} (h : j < n) : (plOf l bs n)[j]? = some (.int .i64 (As.pl l bs j : Nat)) := by simp [plOf, h]
theorem own_base21 {w : World} {B B' e size n : Nat} {v : Value} {xs : List Value} (ho : w.ownsRow B' e size v n xs) (h : B ≤ B') : w.ownsRow B e size v n xs := by
  obtain ⟨h1, h2⟩ := ho
  refine ⟨h1, ?_⟩
  rcases h2 with h2 | ⟨g1, cap, cur, hv, hg, r⟩
  · exact Or.inl h2
  · exact Or.inr ⟨g1, cap, cur, hv, Nat.le_trans h hg, r⟩
def LayPost (w : World) (l : List As.It) (e : Ending) (w' : World) : Prop := ∃ lb g c, e = .returned (.tuple #[.slice (some ⟨lb, 0, none⟩) l.length l.length, .slice (some ⟨g, 0, none⟩) (l.length + 1) c]) ∧ w'.heap[lb]? = some (.cells (bools (As.longs l)).toArray 4 (0, 0)) ∧ w.heap.size ≤ lb ∧ w'.ownsRow w.heap.size 3 1 (.slice (some ⟨g, 0, none⟩) (l.length + 1) c) (l.length + 1) (plOf l (As.longs l) (l.length + 1)) ∧ Below w.heap.size w w'
set_option maxHeartbeats 8000000 in
set_option maxRecDepth 100000 in
theorem rlayout_any (al : Option Addr) (cl : Nat) (l : List As.It) (w : World) (hl : ISl w (.slice al l.length cl) l) (h64 : l.length ≤ 65536) (hf : ∀ x ∈ l, As.names x = true → ∃ t, As.find x.label l = some t) :
    Calls Try.prog 39 #[.slice al l.length cl] w (LayPost w l) := by
  have HL := Lib.hid hl
  have hmk1 := make_ints21 l.length (by omega)
  have hmk3 := make_bools21 l.length (by omega)
  clear hl
  have HF := Lib.hid hf
  clear hf
  go_enter Try.func39, Try.ntmps39
  go_wp2_with fail
  have HS : Hid (LSt w.heap.size ((w.alloc (.cells (madeCells #[.bool false] l.length) 4)).alloc (.cells (madeCells #[.int .i64 0] l.length) 3)) w.heap.size (w.heap.size + 1) (List.replicate l.length false) (List.replicate l.length 0)) := by
    refine ⟨?_, ?_, ⟨Nat.le_refl _, by omega⟩, by omega⟩
    · rw [heap_alloc_old _ _ (by simp), heap_alloc_new, made_one21]
      simp [bools]
    · have := heap_alloc_new (w.alloc (.cells (madeCells #[.bool false] l.length) 4)) (.cells (madeCells #[.int .i64 0] l.length) 3)
      rw [World.size_alloc] at this
      rw [this, made_one21]
      simp [ints]
  have HB0 : Hid (Below w.heap.size w ((w.alloc (.cells (madeCells #[.bool false] l.length) 4)).alloc (.cells (madeCells #[.int .i64 0] l.length) 3))) := ((Below.refl _ _).alloc (Nat.le_refl _) _).alloc (by simp) _
  have hlen : Hid ((As.finds l l).length = l.length) := by unfold Hid; simp [As.finds]
  go_loopg [6] l.length (fun gk i wx => ∃ k : Nat, k ≤ l.length ∧ gk = l.length - k ∧ i = .int .i64 k ∧ LSt w.heap.size wx w.heap.size (w.heap.size + 1) (List.replicate l.length false) ((As.finds l l).take k ++ (List.replicate l.length 0).drop k) ∧ Below w.heap.size w wx)
  case atStart => exact ⟨0, Nat.zero_le _, rfl, rfl, by simpa using HS.out, HB0.out⟩
  case round =>
    obtain ⟨k, hk, rfl, rfl, hA, hb⟩ := hrel
    have HA := Lib.hid hA
    have HBB := Lib.hid hb
    have hws : w.heap.size ≤ wr.heap.size := hb.size
    by_cases hlt : k < l.length
    · obtain ⟨x, hx⟩ : ∃ x, l[k]? = some x := ⟨_, List.getElem?_eq_getElem hlt⟩
      have hne : l ≠ [] := by intro e; rw [e] at hlt; simp at hlt
      have HLr := Lib.hid (HL.out.below hb (Nat.le_refl _))
      obtain ⟨bl, off, hal, hbl, hat⟩ := HLr.out.at hne
      subst hal
      have HIT := Lib.hid (hat k x hx)
      obtain ⟨d0, d1, d2, d3, d4, d5, d6, d7⟩ := hat k x hx
      have HX := Lib.hid hx
      have hfg := As.finds_get (all := l) hx
      have hg1 : (0 : Int) ≤ k := by omega
      have hg2 : (k : Int) < l.length := by omega
      have hgw : IntKind.i64.wrap ((k : Int) + 1) = k + 1 := by rw [IntKind.wrap_i64]; omega
      have HFG := Lib.hid hfg
      clear hat hx hA hb hfg
      cases hn : As.names x
      · have HN := Lib.hid hn
        have HM : Hid ((As.finds l l).take (k + 1) ++ (List.replicate l.length 0).drop (k + 1) = (As.finds l l).take k ++ (List.replicate l.length 0).drop k) := mixed_same _ _ k 0 (by rw [HFG.out, HN.out]; rfl) (by simp [hlt])
        go_wp2_with fail
        with_reducible refine (names_any x _).mono ?_
        rintro e w1 ⟨rfl, hb1⟩
        rw [HN.out]
        have HB1 := Lib.hid hb1
        clear hb1 d0 d1 d2 d3 d4 d5 d6 d7 hn
        go_wp2_with fail
        go_roundg (l.length - (k + 1))
        case measure => omega
        case rel => exact ⟨k + 1, by omega, rfl, by go_num, by rw [HM.out]; exact HA.out.below HB1.out (Nat.le_refl _), HBB.out.trans (HB1.out.mono hws)⟩
      · have HN := Lib.hid hn
        go_wp2_with fail
        with_reducible refine (names_any x _).mono ?_
        rintro e w1 ⟨rfl, hb1⟩
        rw [HN.out]
        have HB1 := Lib.hid hb1
        have e6 := (HIT.out.of (fun j => hb1.cell (p := ⟨bl, j, none⟩) hbl)).c6
        have HL1 := Lib.hid (HLr.out.below hb1 (Nat.le_refl _))
        have HA1 := Lib.hid (HA.out.below hb1 (Nat.le_refl _))
        have HB2 := Lib.hid (HBB.out.trans (hb1.mono hws))
        clear hb1 d0 d1 d2 d3 d4 d5 d6 d7 hn
        go_wp2_with fail
        with_reducible refine (find_any l x.label _ cl _ HL1.out (by omega)).mono ?_
        rintro e w2 ⟨rfl, hw⟩
        subst hw
        have fz : w1.frozen? ⟨w.heap.size + 1, k, none⟩ = false := frozen_of_row w1 _ k _ _ HA1.out.finds
        have hlt2 : w.heap.size + 1 < w1.heap.size := HA1.out.lt.2
        obtain ⟨z0, hz0⟩ : ∃ z, ((As.finds l l).take k ++ (List.replicate l.length (0 : Int)).drop k)[k]? = some z := ⟨_, List.getElem?_eq_getElem (by have := hlen.out; simp; omega)⟩
        have cf := HA1.out.cf hz0
        have hset := HA1.out.setFind k (As.findI x.label l)
        rw [mixed_set _ _ k (As.findI x.label l) (by rw [HFG.out, HN.out]; rfl) (by rw [hlen.out]; simp)] at hset
        have HSE := Lib.hid hset
        clear hset hz0
        go_wp2_with fail
        go_roundg (l.length - (k + 1))
        case measure => omega
        case rel => exact ⟨k + 1, by omega, rfl, by go_num, HSE.out, HB2.out.setCell (p := ⟨w.heap.size + 1, k, none⟩) (Nat.le_succ _) _⟩
    · obtain rfl : k = l.length := by omega
      have hge : (l.length : Int) ≤ l.length := by omega
      have hA2 : LSt w.heap.size wr w.heap.size (w.heap.size + 1) (List.replicate l.length false) (As.finds l l) := by
        have h := hA
        rw [List.take_of_length_le (by rw [hlen.out]; exact Nat.le_refl _), List.drop_of_length_le (by simp), List.append_nil] at h
        exact h
      have HA2 := Lib.hid hA2
      clear hA hA2 hb HA
      go_wp2_with fail
      obtain ⟨wo, hwo⟩ : ∃ wo : World, wo = wr := ⟨_, rfl⟩
      subst hwo
      have HF0 := Lib.hid (As.longs_fix l)
      have HLG : Hid (As.layout l (l.length + 1) (List.replicate l.length false) = As.longs l) := rfl
      go_loopg [] (l.length + 1) (fun gk wx => ∃ bs : List Bool, As.layout l gk bs = As.longs l ∧ l.length < gk + bs.count true ∧ bs.length = l.length ∧ LSt w.heap.size wx w.heap.size (w.heap.size + 1) bs (As.finds l l) ∧ Below w.heap.size w wx)
      case atStart => exact ⟨_, HLG.out, by omega, by simp, HA2.out, HBB.out⟩
      case round =>
        clear HBB HA2 HS HB0
        obtain ⟨bs, hlay, hcnt, hbl, hA, hb⟩ := hrel
        have HLAY := Lib.hid hlay
        have HCNT := Lib.hid hcnt
        have HBL := Lib.hid hbl
        have HA := Lib.hid hA
        have HBB := Lib.hid hb
        have hws : w.heap.size ≤ wr.heap.size := hb.size
        obtain ⟨m, hm⟩ : ∃ m, gk = m + 1 := ⟨gk - 1, by have := List.count_le_length (a := true) (l := bs); omega⟩
        have HSl : Hid (Sl wr (.slice (some ⟨w.heap.size, 0, none⟩) l.length l.length) (bs.map Value.bool)) := by
          refine ⟨some ⟨w.heap.size, 0, none⟩, l.length, by rw [List.length_map, hbl], .inr ⟨⟨w.heap.size, 0, none⟩, rfl, fun j v hj => ?_⟩⟩
          rw [Go.WideShapes.add_plain, Nat.zero_add, cell_of_row wr _ _ _ _ _ hA.long]
          simpa [bools] using hj
        have HLr := Lib.hid (HL.out.below hb (Nat.le_refl _))
        obtain ⟨G, hG⟩ : ∃ G, Hid (As.grow l (As.places l bs 0) l bs (As.places l bs 0) = G) := ⟨_, rfl⟩
        have HGL : Hid (G.length = l.length) := by rw [← hG.out]; exact As.grow_length l _ l bs _ hbl (As.places_length l bs 0 hbl)
        clear hlay hcnt hbl hA hb
        go_wp2_with fail
        with_reducible refine (rplaces_any _ _ _ _ l bs _ HLr.out HSl.out HBL.out h64).mono ?_
        rintro e w3 ⟨g3, c3, rfl, hown, hb3⟩
        have HG3 : Hid (w.heap.size < g3) := by have h1 := (hown.lt g3 rfl).1; have h2 := HA.out.lt.1; unfold Hid; omega
        have HO := Lib.hid (own_base21 hown hws)
        have HA3 := Lib.hid (HA.out.below hb3 (Nat.le_refl _))
        have HB3 := Lib.hid (HBB.out.trans (hb3.mono hws))
        clear hown hb3 HSl HLr
        go_wp2_with fail
        obtain ⟨wp, hwp⟩ : ∃ wp : World, wp = w3 := ⟨_, rfl⟩
        subst hwp
        go_loopg [8, 9] l.length (fun gk mr i wx => ∃ k : Nat, k ≤ l.length ∧ gk = l.length - k ∧ i = .int .i64 k ∧ mr = .bool (!decide (G.take k = bs.take k)) ∧ LSt w.heap.size wx w.heap.size (w.heap.size + 1) (G.take k ++ bs.drop k) (As.finds l l) ∧ wx.ownsRow w.heap.size 3 1 (.slice (some ⟨g3, 0, none⟩) (l.length + 1) c3) (l.length + 1) (plOf l bs (l.length + 1)) ∧ Below w.heap.size w wx)
        case atStart => exact ⟨0, Nat.zero_le _, rfl, rfl, by simp, by simpa using HA3.out, HO.out, HB3.out⟩
        case round =>
          clear HA3 HO HB3
          obtain ⟨k, hk, rfl, rfl, rfl, hAi, hoi, hbi⟩ := hrel
          have HAi := Lib.hid hAi
          have HOi := Lib.hid hoi
          have HBi := Lib.hid hbi
          by_cases hlt : k < l.length
          · obtain ⟨b, hbk⟩ : ∃ b, bs[k]? = some b := ⟨_, List.getElem?_eq_getElem (by have := HBL.out; omega)⟩
            obtain ⟨x, hx⟩ : ∃ x, l[k]? = some x := ⟨_, List.getElem?_eq_getElem hlt⟩
            have hp := As.places_get l bs 0 k HBL.out hlt
            have hGk : G[k]? = some (As.stretch l (As.places l bs 0) x b (As.pl l bs k)) := by rw [← hG.out]; exact As.grow_get l _ l bs _ k x b _ hx hbk hp
            have hne : l ≠ [] := by intro e; rw [e] at hlt; simp at hlt
            obtain ⟨bl, off, hal, hbl, hat⟩ := (HL.out.below hbi (Nat.le_refl _)).at hne
            subst hal
            obtain ⟨d0, d1, d2, d3, d4, d5, d6, d7⟩ := hat k x hx
            have hnow : (G.take k ++ bs.drop k)[k]? = some b := by
              rw [List.getElem?_append_right (by simp; omega)]
              have e : k - (G.take k).length = 0 := by rw [List.length_take, HGL.out]; omega
              rw [e, List.getElem?_drop]
              simpa using hbk
            have cb := hAi.cl hnow
            have fb : wr.frozen? ⟨w.heap.size, k, none⟩ = false := frozen_of_row wr _ k _ _ hAi.long
            have hpk := As.pl_le (i := k) bs h64
            have cp := (hoi.cellAt k (by omega)).trans (plOf_get (l := l) (bs := bs) (show k < l.length + 1 by omega))
            have hg1 : (0 : Int) ≤ k := by omega
            have hg2 : (k : Int) < l.length := by omega
            have hg2' : (k : Int) < l.length + 1 := by omega
            have hg2'' : (k : Int) < (l.length + 1 : Nat) := by omega
            have hgw : IntKind.i64.wrap ((k : Int) + 1) = k + 1 := by rw [IntKind.wrap_i64]; omega
            have hl1 : w.heap.size < wr.heap.size := hAi.lt.1
            have hfg := As.finds_get (all := l) hx
            have hgn : Hid ((Value.slice (some ⟨g3, 0, none⟩) (l.length + 1) c3).ownBlock ≠ some w.heap.size) := by have h1 := HG3.out; unfold Hid; simp only [Value.ownBlock]; intro e; injection e with e; omega
            have hxm := List.mem_of_getElem? hx
            have HBK := Lib.hid hbk
            have HGK := Lib.hid hGk
            clear hat hnow hbk hp hGk hAi hoi hbi hx
            by_cases hk2 : x.kind = 2
            · cases b with
              | true =>
                have HS := Lib.hid (same_step (b := true) (by rw [HGK.out]; simp [As.stretch]) HBK.out)
                rw [hk2] at d0
                clear hfg
                go_wp2_with fail
                go_roundg (l.length - (k + 1))
                case measure => omega
                case rel => exact ⟨k + 1, by omega, rfl, by go_num, by rw [HS.out.2], by rw [HS.out.1]; exact HAi.out, HOi.out, HBi.out⟩
              | false =>
                obtain ⟨t, ht⟩ := HF.out x hxm (by simp [As.names, hk2])
                have htl := As.find_lt ht
                have hq := As.places_get l bs 0 t HBL.out htl
                have hqb := As.pl_le (i := t) bs h64
                have cf := HAi.out.cf hfg
                rw [if_pos (by simp [As.names, hk2])] at cf
                have hfi : As.findI x.label l = t := by unfold As.findI; rw [ht]
                rw [hfi] at cf
                have cq := (HOi.out.cellAt t (by omega)).trans (plOf_get (l := l) (bs := bs) (show t < l.length + 1 by omega))
                have hst : Hid (As.stretch l (As.places l bs 0) x false (As.pl l bs k) = (decide (((As.pl l bs t : Nat) : Int) - (As.pl l bs k : Nat) < -512) || decide (511 < ((As.pl l bs t : Nat) : Int) - (As.pl l bs k : Nat)))) := by
                  unfold Hid As.stretch
                  rw [As.far_eq HBL.out ht]
                  simp [hk2]
                have hl2 : w.heap.size + 1 < wr.heap.size := HAi.out.lt.2
                have hg3 : (0 : Int) ≤ t := by omega
                have hg4 : (t : Int) < l.length := by omega
                have hg4' : (t : Int) < l.length + 1 := by omega
                have hg4'' : (t : Int) < (l.length + 1 : Nat) := by omega
                rw [hk2] at d0
                clear ht hfi hfg hq
                generalize As.pl l bs t = q at *
                generalize As.pl l bs k = p at *
                have hgs : IntKind.i64.wrap ((q : Int) - p) = (q : Int) - p := by rw [IntKind.wrap_i64]; omega
                rcases (by omega : (q : Int) - p < -512 ∨ (-512 ≤ (q : Int) - p ∧ 511 < (q : Int) - p) ∨ (-512 ≤ (q : Int) - p ∧ (q : Int) - p ≤ 511)) with z1 | ⟨z1, z2⟩ | ⟨z1, z2⟩
                · have hGt : Hid (G[k]? = some true) := by unfold Hid; rw [HGK.out, hst.out]; simp [z1]
                  go_wp2_with fail
                  go_quiet (fail)
                  go_wp2_with fail
                  have hset := (HAi.out.below (below_drewN (Below.refl _ _) nq) (Nat.le_refl _)).setLong k true
                  rw [mixed_set G bs k true hGt.out (by rw [HGL.out, HBL.out])] at hset
                  have HSE := Lib.hid hset
                  clear hset
                  go_roundg (l.length - (k + 1))
                  case measure => omega
                  case rel => exact ⟨k + 1, by omega, rfl, by go_num, by rw [diff_step hGt.out HBK.out], HSE.out, ownsRow_setCell_other (own_keep21 HOi.out (below_drewN (Below.refl _ _) nq)) hgn.out _, (below_drewN HBi.out _).setCell (p := ⟨w.heap.size, k, none⟩) (Nat.le_refl _) _⟩
                · have hGt : Hid (G[k]? = some true) := by unfold Hid; rw [HGK.out, hst.out]; simp [z2]
                  go_wp2_with fail
                  go_quiet (fail)
                  go_wp2_with fail
                  have hset := (HAi.out.below (below_drewN (Below.refl _ _) nq) (Nat.le_refl _)).setLong k true
                  rw [mixed_set G bs k true hGt.out (by rw [HGL.out, HBL.out])] at hset
                  have HSE := Lib.hid hset
                  clear hset
                  go_roundg (l.length - (k + 1))
                  case measure => omega
                  case rel => exact ⟨k + 1, by omega, rfl, by go_num, by rw [diff_step hGt.out HBK.out], HSE.out, ownsRow_setCell_other (own_keep21 HOi.out (below_drewN (Below.refl _ _) nq)) hgn.out _, (below_drewN HBi.out _).setCell (p := ⟨w.heap.size, k, none⟩) (Nat.le_refl _) _⟩
                · have HS := Lib.hid (same_step (b := false) (by rw [HGK.out, hst.out]; simp; omega) HBK.out)
                  go_wp2_with fail
                  go_quiet (fail)
                  go_wp2_with fail
                  go_roundg (l.length - (k + 1))
                  case measure => omega
                  case rel => exact ⟨k + 1, by omega, rfl, by go_num, by rw [HS.out.2], by rw [HS.out.1]; exact HAi.out.below (below_drewN (Below.refl _ _) nq) (Nat.le_refl _), own_keep21 HOi.out (below_drewN (Below.refl _ _) nq), below_drewN HBi.out _⟩
            · have hq := beq_eq_false_iff_ne.2 hk2
              have HS := Lib.hid (same_step (b := b) (by rw [HGK.out]; simp [As.stretch, hk2]) HBK.out)
              clear hfg
              go_wp2_with fail
              go_roundg (l.length - (k + 1))
              case measure => omega
              case rel => exact ⟨k + 1, by omega, rfl, by go_num, by rw [HS.out.2], by rw [HS.out.1]; exact HAi.out, HOi.out, HBi.out⟩
          · obtain rfl : k = l.length := by omega
            have hge : (l.length : Int) ≤ l.length := by omega
            have e1 : G.take l.length = G := List.take_of_length_le (by rw [HGL.out]; exact Nat.le_refl _)
            have e2 : bs.take l.length = bs := List.take_of_length_le (by rw [HBL.out]; exact Nat.le_refl _)
            have e3 : bs.drop l.length = [] := List.drop_of_length_le (by rw [HBL.out]; exact Nat.le_refl _)
            rw [e1, e2]
            rw [e1, e3, List.append_nil] at hAi
            have HAe := Lib.hid hAi
            have HNB : Hid (As.layout l (m + 1) bs = if G = bs then bs else As.layout l m G) := by unfold Hid; rw [As.layout, hG.out]
            have HLM : Hid (As.layout l (m + 1) bs = As.longs l) := by have := HLAY.out; rw [hm] at this; exact this
            clear e1 e2 e3 hAi hoi hbi HAi
            by_cases hd : G = bs
            · have hdd : decide (G = bs) = true := decide_eq_true hd
              have HBE : Hid (bs = As.longs l) := by unfold Hid; rw [← HLM.out, HNB.out, if_pos hd]
              have HD := Lib.hid hd
              rw [hdd]
              clear hd hdd
              go_wp2_with fail
              go_ret2
              refine ⟨w.heap.size, g3, c3, rfl, ?_, Nat.le_refl _, ?_, HBi.out⟩
              · have h := HAe.out.long
                rw [HD.out, HBE.out] at h
                exact h
              · have h := HOi.out
                rw [HBE.out] at h
                exact h
            · have hdd : decide (G = bs) = false := decide_eq_false hd
              have HC : Hid (bs.count true < G.count true) := by
                unfold Hid
                have := As.grow_count l (As.places l bs 0) l bs (As.places l bs 0) HBL.out (As.places_length l bs 0 HBL.out) (by rw [hG.out]; exact hd)
                rw [hG.out] at this
                exact this
              have HNE : Hid (As.layout l m G = As.longs l) := by unfold Hid; rw [← HLM.out, HNB.out, if_neg hd]
              rw [hdd]
              clear hd hdd
              go_wp2_with fail
              go_roundg m
              case measure => omega
              case rel => exact ⟨G, HNE.out, by have h1 := HC.out; have h2 := HCNT.out; omega, HGL.out, HAe.out, HBi.out⟩
end Go.Proofs.Ytaldcgfhlflcpaa
