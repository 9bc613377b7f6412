/- The assembler's lay. -/
import Derived.Test.YtbcpflogkniojaaQAsmSt
import Derived.Test.YtbcpflogkniojaaQMA
namespace Go.Proofs.Ytbcpflogkniojaa
open Go.RowKit
set_option linter.unusedVariables false
set_option linter.unusedSimpArgs false
theorem mixed_set {α : Type} (P Q : List α) (k : Nat) (x : α) (hP : P[k]? = some x) (hl : P.length = Q.length) : (P.take k ++ Q.drop k).set k x = P.take (k + 1) ++ Q.drop (k + 1) := by
  have hk : k < P.length := (List.getElem?_eq_some_iff.1 hP).1
  rw [List.set_append_right _ _ (by simp; omega)]
  have e : k - (P.take k).length = 0 := by simp; omega
  rw [e, List.drop_eq_getElem_cons (by omega : k < Q.length), List.set_cons_zero, List.take_add_one, hP]
  simp
theorem ISl.setCell {w : World} {al : Option Addr} {n c : Nat} {l : List As.It} (h : ISl w (.slice al n c) l) {p : Addr} (hp : ∀ b off, al = some ⟨b, off, none⟩ → l ≠ [] → b ≠ p.block) (v : Value) : ISl (w.setCell p v) (.slice al n c) l := by
  obtain ⟨a, cap, hv, h | ⟨b, off, h1, h2, h3⟩⟩ := h
  · exact ⟨a, cap, hv, .inl h⟩
  · by_cases hl : l = []
    · exact ⟨a, cap, hv, .inl hl⟩
    · cases hv
      have hb := hp b off h1 hl
      exact ⟨_, _, rfl, .inr ⟨b, off, h1, by simp [World.setCell]; omega, fun j x hx => (h3 j x hx).of (fun k => World.cell?_of_block (heap_setCell_other w p b v hb))⟩⟩
section
variable {B : Nat} {w : World} {g lb pb mb : Nat} {L : List (Int × Value)} {vc : Value} {al : Option Addr} {cl : Nat} {l : List As.It} {bs : List Bool} {ps : List Nat} {code : List Int}
theorem ASt.setPlace (h : ASt B w g lb pb mb L (.slice al l.length cl) vc l bs ps code) (i p : Nat) : ASt B (w.setCell ⟨pb, i, none⟩ (.int .i64 (p : Int))) g lb pb mb L (.slice al l.length cl) vc l bs (ps.set i p) code := by
  obtain ⟨n1, n2, n3, n4, n5, n6⟩ := h.ne
  obtain ⟨m1, m2, m3, m4⟩ := h.ne2
  obtain ⟨q1, q2, q3, q4⟩ := h.base
  refine ⟨?_, h.items.setCell (fun b off e hl => ?_) _, ?_, ?_, ownsRow_setCell_other h.code m3 _, h.map.kept (heap_setCell_other _ _ _ _ (fun e => n6 e.symm)), h.lbs, by rw [List.length_set]; exact h.lps, h.base, h.ne, h.ne2, h.low⟩
  · rw [heap_setCell_other _ _ _ _ n2]; exact h.blk
  · have := h.low ⟨b, off, none⟩ _ _ (by rw [e]) hl
    show b ≠ pb
    have h3 : b < B := this
    omega
  · rw [heap_setCell_other _ _ _ _ n4]; exact h.long
  · rw [heap_setCell_same w pb i _ _ _ h.places]
    simp [nums, List.map_set]
theorem ASt.setLong (h : ASt B w g lb pb mb L (.slice al l.length cl) vc l bs ps code) (i : Nat) (b : Bool) : ASt B (w.setCell ⟨lb, i, none⟩ (.bool b)) g lb pb mb L (.slice al l.length cl) vc l (bs.set i b) ps code := by
  obtain ⟨n1, n2, n3, n4, n5, n6⟩ := h.ne
  obtain ⟨m1, m2, m3, m4⟩ := h.ne2
  obtain ⟨q1, q2, q3, q4⟩ := h.base
  refine ⟨?_, h.items.setCell (fun b off e hl => ?_) _, ?_, ?_, ownsRow_setCell_other h.code m2 _, h.map.kept (heap_setCell_other _ _ _ _ (fun e => n5 e.symm)), by rw [List.length_set]; exact h.lbs, h.lps, h.base, h.ne, h.ne2, h.low⟩
  · rw [heap_setCell_other _ _ _ _ n1]; exact h.blk
  · have := h.low ⟨b, off, none⟩ _ _ (by rw [e]) hl
    show b ≠ lb
    have h3 : b < B := this
    omega
  · rw [heap_setCell_same w lb i _ _ _ h.long]
    simp [bools, List.map_set]
  · rw [heap_setCell_other _ _ _ _ (fun e => n4 e.symm)]; exact h.places
end
set_option maxHeartbeats 8000000 in
set_option maxRecDepth 100000 in
theorem lay_any {B g lb pb mb : Nat} {L : List (Int × Value)} {al : Option Addr} {cl : Nat} {vc : Value} {l : List As.It} {bs : List Bool} {ps : List Nat} {code : List Int} (w : World) (h : ASt B w g lb pb mb L (.slice al l.length cl) vc l bs ps code) (hlen : l.length ≤ 65536) :
    Calls Try.prog 19 #[.pointer (some ⟨g, 0, none⟩)] w fun e w' => e = .returned (.tuple #[]) ∧ ASt B w' g lb pb mb L (.slice al l.length cl) vc l bs (As.places l bs 0) code ∧ Below B w w' := by
  have H := Lib.hid h
  have c0 := h.c0
  have HP : Hid ((As.places l bs 0).length = l.length) := As.places_length l bs 0 h.lbs
  have HB := Lib.hid h.base
  clear h
  go_enter Try.func19, Try.ntmps19
  go_wp2_with fail
  go_loopg [2, 9] l.length (fun gk at_ i wx => ∃ k : Nat, k ≤ l.length ∧ gk = l.length - k ∧ i = .int .i64 k ∧ at_ = .int .i64 (As.pl l bs k : Nat) ∧ ASt B wx g lb pb mb L (.slice al l.length cl) vc l bs ((As.places l bs 0).take k ++ ps.drop k) code ∧ Below B w wx)
  case atStart => exact ⟨0, Nat.zero_le _, rfl, rfl, rfl, by simpa using H.out, Below.refl _ _⟩
  case round =>
    clear c0
    obtain ⟨k, hk, rfl, rfl, rfl, hA, hb⟩ := hrel
    have HA := Lib.hid hA
    have HBB := Lib.hid hb
    by_cases hlt : k < l.length
    · have c3 := hA.c3
      obtain ⟨b, hbk⟩ : ∃ b, bs[k]? = some b := ⟨_, List.getElem?_eq_getElem (by have := H.out.lbs; omega)⟩
      obtain ⟨x, hx⟩ : ∃ x, l[k]? = some x := ⟨_, List.getElem?_eq_getElem hlt⟩
      have hpk := As.places_get l bs 0 k H.out.lbs hlt
      obtain ⟨u, hu⟩ : ∃ u : Nat, ((As.places l bs 0).take k ++ ps.drop k)[k]? = some u := ⟨_, List.getElem?_eq_getElem (by have := hA.lps; omega)⟩
      have cp := hA.cp hu
      have fp : wr.frozen? ⟨pb, k, none⟩ = false := frozen_of_row wr pb k _ _ hA.places
      have hset := HA.out.setPlace k (As.pl l bs k)
      rw [mixed_set _ _ k _ (show (As.places l bs 0)[k]? = some (As.pl l bs k) from hpk) (by rw [HP.out, H.out.lps])] at hset
      have HS := Lib.hid hset
      have HX := Lib.hid hx
      have HBK := Lib.hid hbk
      have hpl := As.pl_le (i := k) bs hlen
      have hsz := As.size_le x b
      have hg1 : (0 : Int) ≤ k := by omega
      have hg2 : (k : Int) < l.length := by omega
      have hnx : As.pl l bs (k + 1) = As.pl l bs k + As.size x b := by
        have e := As.pl_diff (l := l) (bs := bs) (i := k) (j := k + 1) H.out.lbs (by omega) (by omega)
        rw [e]
        have e2 : ((l.take (k + 1)).drop k) = [x] := by rw [List.take_add_one, hx]; simp [List.drop_append, List.length_take, Nat.min_eq_left (Nat.le_of_lt hlt)]
        have e3 : ((bs.take (k + 1)).drop k) = [b] := by rw [List.take_add_one, hbk]; simp [List.drop_append, List.length_take, Nat.min_eq_left (show k ≤ bs.length by have := H.out.lbs; omega)]
        rw [e2, e3]
        simp [As.total]
      have HNX := Lib.hid hnx
      clear hA hb hbk hx hpk hu hset hnx
      go_wp2_with fail
      with_reducible refine (size_any _ HS.out k x b HX.out HBK.out).mono ?_
      rintro e w3 ⟨rfl, hb3⟩
      have HA3 := Lib.hid (HS.out.below hb3 (Nat.le_refl _))
      have hbs : B ≤ wr.heap.size := by have h1 := HA.out.lt; have h2 := HB.out; omega
      have HB3 := Lib.hid ((HBB.out.setCell (p := ⟨pb, k, none⟩) HB.out.2.2.1 (.int .i64 (As.pl l bs k : Nat))).trans (hb3.mono (by simp [World.setCell]; omega)))
      have hgw : IntKind.i64.wrap ((k : Int) + 1) = k + 1 := by rw [IntKind.wrap_i64]; omega
      have hgv : IntKind.i64.wrap ((As.pl l bs k : Nat) + (As.size x b : Nat) : Int) = ((As.pl l bs (k + 1) : Nat) : Int) := by rw [HNX.out, IntKind.wrap_i64]; push_cast; omega
      clear hb3 c3 cp fp
      go_wp2_with fail
      go_roundg (l.length - (k + 1))
      case measure => omega
      case rel => exact ⟨k + 1, by omega, rfl, by go_num, by rw [HNX.out], HA3.out, HB3.out⟩
    · obtain rfl : k = l.length := by omega
      clear hA hb
      go_wp2_with fail
      go_end0
      refine ⟨rfl, ?_, HBB.out⟩
      have := HA.out
      rw [List.take_of_length_le (by rw [HP.out]; exact Nat.le_refl _), List.drop_of_length_le (by rw [H.out.lps]; exact Nat.le_refl _), List.append_nil] at this
      exact this
end Go.Proofs.Ytbcpflogkniojaa
