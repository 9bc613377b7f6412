/- The reference's Places. -/
import Derived.Deep.LoopGhost
import Derived.Laws.AppendOwn
import Derived.Deep.AppendLies
import Derived.Test.YtaldcgfhlflcpaaAJax
import Derived.Test.YtaldcgfhlflcpaaAJaf
set_option linter.unusedVariables false
set_option linter.unusedSimpArgs false
set_option linter.unnecessarySimpa false
namespace Go.Proofs.Ytaldcgfhlflcpaa
open Go.RowKit
set_option maxRecDepth 100000
set_option linter.unusedVariables false
set_option linter.unusedSimpArgs false
theorem infoInt : (Try.prog.info? 3).map (fun i => (i.zero, i.size, i.bytes)) = some (some (.int .i64 0), 1, 8) := by kernel_rfl
theorem own_keep21 {w w' : World} {B e size n : Nat} {v : Value} {xs : List Value} (ho : w.ownsRow B e size v n xs) (hb : Below w.heap.size w w') : w'.ownsRow B e size v n xs := by
  obtain ⟨h1, h2⟩ := ho
  refine ⟨h1, ?_⟩
  rcases h2 with h2 | ⟨g1, cap, cur, hv, hg, hh, r⟩
  · exact Or.inl h2
  · exact Or.inr ⟨g1, cap, cur, hv, hg, (hb.block g1 (Array.getElem?_eq_some_iff.1 hh).1).trans hh, r⟩
def plOf (l : List As.It) (bs : List Bool) (k : Nat) : List Value := (List.range k).map fun i => Value.int .i64 (As.pl l bs i : Nat)
theorem plOf_succ (l : List As.It) (bs : List Bool) (k : Nat) : plOf l bs (k + 1) = plOf l bs k ++ [.int .i64 (As.pl l bs k : Nat)] := by
  simp [plOf, List.range_succ]
theorem As.pl_next {l : List As.It} {bs : List Bool} {k : Nat} {x : As.It} {b : Bool} (hl : bs.length = l.length) (hx : l[k]? = some x) (hbk : bs[k]? = some b) : As.pl l bs (k + 1) = As.pl l bs k + As.size x b := by
  have hlt : k < l.length := (List.getElem?_eq_some_iff.1 hx).1
  rw [As.pl_diff (l := l) (bs := bs) (i := k) (j := k + 1) hl (by omega) (by omega)]
  have e2 : ((l.take (k + 1)).drop k) = [x] := by rw [List.take_add_one, hx]; simp [List.drop_append, List.length_take, Nat.min_eq_left (Nat.le_of_lt hlt)]
  have e3 : ((bs.take (k + 1)).drop k) = [b] := by rw [List.take_add_one, hbk]; simp [List.drop_append, List.length_take, Nat.min_eq_left (show k ≤ bs.length by omega)]
  rw [e2, e3]
  simp [As.total]
set_option maxHeartbeats 8000000 in
set_option maxRecDepth 100000 in
theorem rplaces_any (al ab : Option Addr) (cl cb : Nat) (l : List As.It) (bs : List Bool) (w : World) (hl : ISl w (.slice al l.length cl) l) (hb : Sl w (.slice ab l.length cb) (bs.map Value.bool)) (hlen : bs.length = l.length) (h64 : l.length ≤ 65536) :
    Calls Try.prog 44 #[.slice al l.length cl, .slice ab l.length cb] w fun e w' => ∃ g c, e = .returned (.slice (some ⟨g, 0, none⟩) (l.length + 1) c) ∧ w'.ownsRow w.heap.size 3 1 (.slice (some ⟨g, 0, none⟩) (l.length + 1) c) (l.length + 1) (plOf l bs (l.length + 1)) ∧ Below w.heap.size w w' := by
  have HL := Lib.hid hl
  have HB := Lib.hid hb
  have HN := Lib.hid hlen
  obtain ⟨i0, hi, hz0, hz1, hz2⟩ := info_parts infoInt
  have HI := Lib.hid hi
  have HZ0 := Lib.hid hz0
  have HZ1 := Lib.hid hz1
  have HZ2 := Lib.hid hz2
  clear hl hb hlen hi hz0 hz1 hz2
  go_enter Try.func44, Try.ntmps44
  go_wp2_with fail
  go_loopg [5, 6, 7] l.length (fun gk out at_ i wx => ∃ (k b c : Nat), k ≤ l.length ∧ gk = l.length - k ∧ i = .int .i64 k ∧ at_ = .int .i64 (As.pl l bs k : Nat) ∧ out = .slice (some ⟨b, 0, none⟩) (k + 1) c ∧ wx.ownsRow w.heap.size 3 1 (.slice (some ⟨b, 0, none⟩) (k + 1) c) (k + 1) (plOf l bs (k + 1)) ∧ Below w.heap.size w wx)
  case atStart => exact ⟨0, _, _, Nat.zero_le _, rfl, rfl, rfl, rfl, World.ownsRow_lit _ _ _ (Nat.le_refl _) (by decide) rfl, (Below.refl _ _).alloc (Nat.le_refl _) _⟩
  case round =>
    obtain ⟨k, b, c, hk, rfl, rfl, rfl, rfl, hown, hbw⟩ := hrel
    have HO := Lib.hid hown
    have HW := Lib.hid hbw
    clear hown hbw
    by_cases hlt : k < l.length
    · obtain ⟨bo, hbo⟩ : ∃ b, bs[k]? = some b := ⟨_, List.getElem?_eq_getElem (by have := HN.out; omega)⟩
      obtain ⟨x, hx⟩ : ∃ x, l[k]? = some x := ⟨_, List.getElem?_eq_getElem hlt⟩
      have hws : w.heap.size ≤ wr.heap.size := HW.out.size
      have hne : l ≠ [] := by intro e; rw [e] at hlt; simp at hlt
      obtain ⟨bl, off, hal, hbl, hat⟩ := (HL.out.below HW.out (Nat.le_refl _)).at hne
      have hne2 : bs.map Value.bool ≠ [] := by intro e; have e2 := congrArg List.length e; simp at e2; have := HN.out; rw [e2] at this; simp at this; omega
      have HB2 : Sl w (.slice ab (bs.map Value.bool).length cb) (bs.map Value.bool) := by have h := HB.out; rw [List.length_map, HN.out]; exact h
      obtain ⟨b2, o2, hae, hal2, hac⟩ := Sl.at (HB2.below HW.out (Nat.le_refl _)) hne2
      subst hal
      subst hae
      have cb0 : wr.cell? ⟨b2, o2 + k, none⟩ = some (.bool bo) := by
        rw [hac k (by simp; have := HN.out; omega)]
        simp [List.getD_eq_getElem?_getD, hbo]
      obtain ⟨d0, d1, d2, d3, d4, d5, d6, d7⟩ := hat k x hx
      have hpl := As.pl_le (i := k) bs h64
      have hsz := As.size_le x bo
      have hg1 : (0 : Int) ≤ k := by omega
      have hg2 : (k : Int) < l.length := by omega
      have hgw : IntKind.i64.wrap ((k : Int) + 1) = k + 1 := by rw [IntKind.wrap_i64]; omega
      have HNX : Hid (As.pl l bs (k + 1) = As.pl l bs k + As.size x bo) := As.pl_next HN.out hx hbo
      clear hat hac hx hbo HB2
      by_cases k1 : x.kind = 1
      · have hgv : IntKind.i64.wrap ((As.pl l bs k : Nat) : Int) = ((As.pl l bs (k + 1) : Nat) : Int) := by rw [HNX.out, IntKind.wrap_i64]; simp [As.size, k1]; omega
        rw [k1] at d0
        go_wp2_with (first | (at_builtin; refine wpList_append_lies _ rfl (.tmp 42) (.tmp 44) 29 rfl w.heap.size 3 i0 (.int .i64 0) 1 8 Try.underlying29 HI.out HZ0.out HZ1.out HZ2.out rfl (by decide) (.slice (some ⟨b, 0, none⟩) (k + 1) c) (k + 1) (plOf l bs (k + 1)) rfl (HO.out.alloc _) ⟨wr.heap.size, 0, none⟩ 1 1 [.int .i64 (As.pl l bs (k + 1) : Nat)] rfl rfl (new_cells _ (heap_new (by simp))) (by simp [Value.oneCell']) (by decide) (by simp only [maxLen]; omega) (by omega) (by simp; omega) (wr.heap.size + 1) (by simp) ?_; intro g5 c5 w5 hown5 hgr5 hat5 hlt5; have HO5 := Lib.hid hown5; have HG5 := Lib.hid hgr5; clear hown5 hgr5 hat5) | fail)
        go_roundg (l.length - (k + 1))
        case measure => omega
        case rel => exact ⟨k + 1, g5, c5, by omega, rfl, by go_num, rfl, rfl, by rw [plOf_succ]; exact HO5.out, (HW.out.alloc hws _).grown HG5.out (by simp; omega) (fun q hq => (HO.out.lt q hq).1)⟩
      by_cases k2 : x.kind = 2
      · rw [k2] at d0
        cases bo with
        | true =>
          have hgv : IntKind.i64.wrap ((As.pl l bs k : Nat) + 2 : Int) = ((As.pl l bs (k + 1) : Nat) : Int) := by rw [HNX.out, IntKind.wrap_i64]; simp [As.size, k2]; omega
          go_wp2_with (first | (at_builtin; refine wpList_append_lies _ rfl (.tmp 42) (.tmp 44) 29 rfl w.heap.size 3 i0 (.int .i64 0) 1 8 Try.underlying29 HI.out HZ0.out HZ1.out HZ2.out rfl (by decide) (.slice (some ⟨b, 0, none⟩) (k + 1) c) (k + 1) (plOf l bs (k + 1)) rfl (HO.out.alloc _) ⟨wr.heap.size, 0, none⟩ 1 1 [.int .i64 (As.pl l bs (k + 1) : Nat)] rfl rfl (new_cells _ (heap_new (by simp))) (by simp [Value.oneCell']) (by decide) (by simp only [maxLen]; omega) (by omega) (by simp; omega) (wr.heap.size + 1) (by simp) ?_; intro g5 c5 w5 hown5 hgr5 hat5 hlt5; have HO5 := Lib.hid hown5; have HG5 := Lib.hid hgr5; clear hown5 hgr5 hat5) | fail)
          go_roundg (l.length - (k + 1))
          case measure => omega
          case rel => exact ⟨k + 1, g5, c5, by omega, rfl, by go_num, rfl, rfl, by rw [plOf_succ]; exact HO5.out, (HW.out.alloc hws _).grown HG5.out (by simp; omega) (fun q hq => (HO.out.lt q hq).1)⟩
        | false =>
          have hgv : IntKind.i64.wrap ((As.pl l bs k : Nat) + 1 : Int) = ((As.pl l bs (k + 1) : Nat) : Int) := by rw [HNX.out, IntKind.wrap_i64]; simp [As.size, k2]; omega
          go_wp2_with (first | (at_builtin; refine wpList_append_lies _ rfl (.tmp 42) (.tmp 44) 29 rfl w.heap.size 3 i0 (.int .i64 0) 1 8 Try.underlying29 HI.out HZ0.out HZ1.out HZ2.out rfl (by decide) (.slice (some ⟨b, 0, none⟩) (k + 1) c) (k + 1) (plOf l bs (k + 1)) rfl (HO.out.alloc _) ⟨wr.heap.size, 0, none⟩ 1 1 [.int .i64 (As.pl l bs (k + 1) : Nat)] rfl rfl (new_cells _ (heap_new (by simp))) (by simp [Value.oneCell']) (by decide) (by simp only [maxLen]; omega) (by omega) (by simp; omega) (wr.heap.size + 1) (by simp) ?_; intro g5 c5 w5 hown5 hgr5 hat5 hlt5; have HO5 := Lib.hid hown5; have HG5 := Lib.hid hgr5; clear hown5 hgr5 hat5) | fail)
          go_roundg (l.length - (k + 1))
          case measure => omega
          case rel => exact ⟨k + 1, g5, c5, by omega, rfl, by go_num, rfl, rfl, by rw [plOf_succ]; exact HO5.out, (HW.out.alloc hws _).grown HG5.out (by simp; omega) (fun q hq => (HO.out.lt q hq).1)⟩
      by_cases k4 : x.kind = 4
      · rw [k4] at d0
        have hgv : IntKind.i64.wrap ((As.pl l bs k : Nat) + (As.pieces x.num : Nat) : Int) = ((As.pl l bs (k + 1) : Nat) : Int) := by rw [HNX.out, IntKind.wrap_i64]; have : As.size x bo = As.pieces x.num := by simp [As.size, k4]
                                                                                                                                      rw [this] at hsz ⊢; push_cast; omega
        go_wp2_with fail
        with_reducible refine (rpieces_any x.num _).mono ?_
        rintro e w3 ⟨rfl, rfl⟩
        go_wp2_with (first | (at_builtin; refine wpList_append_lies _ rfl (.tmp 42) (.tmp 44) 29 rfl w.heap.size 3 i0 (.int .i64 0) 1 8 Try.underlying29 HI.out HZ0.out HZ1.out HZ2.out rfl (by decide) (.slice (some ⟨b, 0, none⟩) (k + 1) c) (k + 1) (plOf l bs (k + 1)) rfl (HO.out.alloc _) ⟨wr.heap.size, 0, none⟩ 1 1 [.int .i64 (As.pl l bs (k + 1) : Nat)] rfl rfl (new_cells _ (heap_new (by simp))) (by simp [Value.oneCell']) (by decide) (by simp only [maxLen]; omega) (by omega) (by simp; omega) (wr.heap.size + 1) (by simp) ?_; intro g5 c5 w5 hown5 hgr5 hat5 hlt5; have HO5 := Lib.hid hown5; have HG5 := Lib.hid hgr5; clear hown5 hgr5 hat5) | fail)
        go_roundg (l.length - (k + 1))
        case measure => omega
        case rel => exact ⟨k + 1, g5, c5, by omega, rfl, by go_num, rfl, rfl, by rw [plOf_succ]; exact HO5.out, (HW.out.alloc hws _).grown HG5.out (by simp; omega) (fun q hq => (HO.out.lt q hq).1)⟩
      by_cases k5 : x.kind = 5
      · have hgv : IntKind.i64.wrap ((As.pl l bs k : Nat) + 2 : Int) = ((As.pl l bs (k + 1) : Nat) : Int) := by rw [HNX.out, IntKind.wrap_i64]; simp [As.size, k5]; omega
        rw [k5] at d0
        go_wp2_with (first | (at_builtin; refine wpList_append_lies _ rfl (.tmp 42) (.tmp 44) 29 rfl w.heap.size 3 i0 (.int .i64 0) 1 8 Try.underlying29 HI.out HZ0.out HZ1.out HZ2.out rfl (by decide) (.slice (some ⟨b, 0, none⟩) (k + 1) c) (k + 1) (plOf l bs (k + 1)) rfl (HO.out.alloc _) ⟨wr.heap.size, 0, none⟩ 1 1 [.int .i64 (As.pl l bs (k + 1) : Nat)] rfl rfl (new_cells _ (heap_new (by simp))) (by simp [Value.oneCell']) (by decide) (by simp only [maxLen]; omega) (by omega) (by simp; omega) (wr.heap.size + 1) (by simp) ?_; intro g5 c5 w5 hown5 hgr5 hat5 hlt5; have HO5 := Lib.hid hown5; have HG5 := Lib.hid hgr5; clear hown5 hgr5 hat5) | fail)
        go_roundg (l.length - (k + 1))
        case measure => omega
        case rel => exact ⟨k + 1, g5, c5, by omega, rfl, by go_num, rfl, rfl, by rw [plOf_succ]; exact HO5.out, (HW.out.alloc hws _).grown HG5.out (by simp; omega) (fun q hq => (HO.out.lt q hq).1)⟩
      · have hgv : IntKind.i64.wrap ((As.pl l bs k : Nat) + 1 : Int) = ((As.pl l bs (k + 1) : Nat) : Int) := by rw [HNX.out, IntKind.wrap_i64]; simp [As.size, k1, k2, k4, k5]; omega
        have q1 := beq_eq_false_iff_ne.2 k1
        have q2 := beq_eq_false_iff_ne.2 k2
        have q4 := beq_eq_false_iff_ne.2 k4
        have q5 := beq_eq_false_iff_ne.2 k5
        go_wp2_with (first | (at_builtin; refine wpList_append_lies _ rfl (.tmp 42) (.tmp 44) 29 rfl w.heap.size 3 i0 (.int .i64 0) 1 8 Try.underlying29 HI.out HZ0.out HZ1.out HZ2.out rfl (by decide) (.slice (some ⟨b, 0, none⟩) (k + 1) c) (k + 1) (plOf l bs (k + 1)) rfl (HO.out.alloc _) ⟨wr.heap.size, 0, none⟩ 1 1 [.int .i64 (As.pl l bs (k + 1) : Nat)] rfl rfl (new_cells _ (heap_new (by simp))) (by simp [Value.oneCell']) (by decide) (by simp only [maxLen]; omega) (by omega) (by simp; omega) (wr.heap.size + 1) (by simp) ?_; intro g5 c5 w5 hown5 hgr5 hat5 hlt5; have HO5 := Lib.hid hown5; have HG5 := Lib.hid hgr5; clear hown5 hgr5 hat5) | fail)
        go_roundg (l.length - (k + 1))
        case measure => omega
        case rel => exact ⟨k + 1, g5, c5, by omega, rfl, by go_num, rfl, rfl, by rw [plOf_succ]; exact HO5.out, (HW.out.alloc hws _).grown HG5.out (by simp; omega) (fun q hq => (HO.out.lt q hq).1)⟩
    · obtain rfl : k = l.length := by omega
      go_wp2_with fail
      go_ret
      exact ⟨b, c, rfl, HO.out, HW.out⟩
end Go.Proofs.Ytaldcgfhlflcpaa
