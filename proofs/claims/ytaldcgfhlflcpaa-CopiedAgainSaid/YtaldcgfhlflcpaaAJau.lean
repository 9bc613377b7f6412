/- emit.Builder in memory: put. -/
import Derived.Deep.RegionLaw
import Derived.Deep.AppendLies
import Derived.Test.YtaldcgfhlflcpaaAJaf
import Derived.Test.YtaldcgfhlflcpaaAJat
import Derived.Test.YtaldcgfhlflcpaaAJad
set_option linter.unusedVariables false
set_option linter.unusedSimpArgs false
set_option linter.unnecessarySimpa false
namespace Go.Proofs.Ytaldcgfhlflcpaa
open Go.RowKit
set_option linter.unusedVariables false
set_option linter.unusedSimpArgs false
set_option maxRecDepth 100000
namespace Sg
open As
theorem own_same {w w' : World} {B e size n : Nat} {v : Value} {xs : List Value} (h : w.ownsRow B e size v n xs) (hb : ∀ b, v.ownBlock = some b → w'.heap[b]? = w.heap[b]?) : w'.ownsRow B e size v n xs := by
  obtain ⟨h1, h2⟩ := h
  refine ⟨h1, ?_⟩
  rcases h2 with h2 | ⟨g, cap, cur, rfl, r1, r2, r⟩
  · exact .inl h2
  · exact .inr ⟨g, cap, cur, rfl, r1, (hb g rfl).trans r2, r⟩
structure BAt (w0 w : World) (b : Nat) (v : Value) (L : List It) : Prop where
  blk : w.heap[b]? = some (.cells #[v] 62 (0, 0))
  row : w.ownsRow w0.heap.size 53 8 v L.length (flat L)
  lo : w0.heap.size ≤ b
  below : Below w0.heap.size w0 w
def BPost (w0 : World) (b : Nat) (L : List It) (en : Ending) (w' : World) : Prop := en = .returned (.tuple #[]) ∧ ∃ v, BAt w0 w' b v L
theorem BAt.slice {w0 w : World} {b : Nat} {v : Value} {L : List It} (h : BAt w0 w b v L) : ∃ a c, v = .slice a L.length c := by
  rcases own_shape h.row with ⟨e, e2, _⟩ | ⟨g, c, e, _⟩
  · exact ⟨none, 0, by rw [e, e2]⟩
  · exact ⟨_, c, e⟩
theorem BAt.next {w0 w w1 w2 : World} {b : Nat} {v v' : Value} {L : List It} {x : It} (h : BAt w0 w b v L) (hb : Below w.heap.size w w1) (hown : w2.ownsRow w0.heap.size 53 8 v' (L.length + 1) (flat L ++ x.cells)) (hg : w1.grownBy w2 v.ownBlock) (hl : v'.ownBlock = v.ownBlock ∨ v'.ownBlock = some w1.heap.size) :
    w2.heap[b]? = some (.cells #[v] 62 (0, 0)) ∧ BAt w0 (w2.setCell ⟨b, 0, none⟩ v') b v' (L ++ [x]) := by
  have hbl := (Array.getElem?_eq_some_iff.1 h.blk).1
  have hne : ∀ g, v.ownBlock = some g → g ≠ b := fun g e eb => by
    obtain ⟨_, ⟨e1, _⟩ | ⟨g', c, cur, e1, _, h1, _⟩⟩ := h.row
    · rw [e1] at e
      cases e
    · rw [e1] at e
      obtain rfl : g' = g := by cases e; rfl
      subst eb
      rw [h.blk] at h1
      simp at h1
  have k1 : w2.heap[b]? = w1.heap[b]? := hg.block b (Nat.lt_of_lt_of_le hbl hb.size) fun e => hne b e.symm rfl
  have k2 : w2.heap[b]? = some (.cells #[v] 62 (0, 0)) := k1.trans ((hb.block b hbl).trans h.blk)
  have hne' : ∀ g, v'.ownBlock = some g → g ≠ b := fun g e eb => by
    rcases hl with e1 | e1
    · exact hne g (e1.symm.trans e) eb
    · rw [e1] at e
      have := Option.some.inj e
      have := hb.size
      omega
  refine ⟨k2, heap_setCell_same w2 b 0 _ _ v' k2, ?_, h.lo, ?_⟩
  · rw [show (L ++ [x]).length = L.length + 1 by simp, show flat (L ++ [x]) = flat L ++ x.cells by simp [flat]]
    exact own_same hown fun g e => heap_setCell_other _ _ _ _ (hne' g e)
  · have hw1 := h.below.trans (hb.mono h.below.size)
    refine (Below.trans hw1 ⟨hg.os, hg.tape, hg.output, hg.size, fun k hk => hg.block k (Nat.lt_of_lt_of_le hk hw1.size) fun e => ?_⟩).setCell h.lo _
    rcases own_shape h.row with ⟨e1, _, _⟩ | ⟨g', c, e1, hB, _⟩
    · rw [e1] at e
      cases e
    · rw [e1] at e
      obtain rfl : g' = k := by cases e; rfl
      omega
theorem put_mk {w0 w w2 : World} {b g cap : Nat} {v : Value} {L : List It} {x : It} (h : BAt w0 w b v L) {wa : World} (hb : Below w.heap.size w wa) (hown : w2.ownsRow w0.heap.size 53 8 (.slice (some ⟨g, 0, none⟩) (L.length + 1) cap) (L.length + 1) (flat L ++ x.cells)) {ov : Value} (hov : v = ov) (hg : wa.grownBy w2 ov.ownBlock) {H : Nat} (hH : wa.heap.size = H) (hl : ov.ownBlock = some g ∨ g = H) :
    (w2.cell? ⟨b, 0, none⟩ = some ov ∧ w2.frozen? ⟨b, 0, none⟩ = false ∧ b < w2.heap.size) ∧ BAt w0 (w2.setCell ⟨b, 0, none⟩ (.slice (some ⟨g, 0, none⟩) (L.length + 1) cap)) b (.slice (some ⟨g, 0, none⟩) (L.length + 1) cap) (L ++ [x]) := by
  subst hov hH
  obtain ⟨k1, k2⟩ := h.next (v' := .slice (some ⟨g, 0, none⟩) (L.length + 1) cap) hb hown hg (by
    rcases hl with e | e
    · exact .inl e.symm
    · exact .inr (by rw [e]; rfl))
  exact ⟨⟨cell_of_row w2 b 0 _ _ _ k1, frozen_of_row w2 b 0 _ _ k1, (Array.getElem?_eq_some_iff.1 k1).1⟩, k2⟩
set_option maxHeartbeats 8000000 in
theorem put_any {w0 w : World} {b : Nat} {v : Value} {L : List It} (h : BAt w0 w b v L) (hL : L.length ≤ 100000) (x : It) :
    Calls Try.prog 35 #[.pointer (some ⟨b, 0, none⟩), .agg #[.int .i64 x.kind, .int .i64 x.op, .int .i64 x.a, .int .i64 x.b, .int .i64 x.c, .int .i64 x.n, .int .i64 x.label, .int .i64 x.num]] w (BPost w0 b (L ++ [x])) := by
  obtain ⟨i0, hi, hz0, hz1, hz2⟩ := info_parts infoItem
  have HI := Lib.hid hi
  have HZ0 := Lib.hid hz0
  have HZ1 := Lib.hid hz1
  have HZ2 := Lib.hid hz2
  obtain ⟨ta, tc, htv⟩ := h.slice
  have hm := (Array.getElem?_eq_some_iff.1 h.blk).1
  have c0 : w.cell? ⟨b, 0, none⟩ = some (.slice ta L.length tc) := by rw [cell_of_row w b 0 _ _ _ h.blk, ← htv]; rfl
  have f0 := frozen_of_row w b 0 _ _ h.blk
  have HH := Lib.hid h
  have HTV := Lib.hid htv
  have HR := Lib.hid (by have := h.row; rw [htv] at this; exact this : w.ownsRow w0.heap.size 53 8 (.slice ta L.length tc) L.length (flat L))
  have hbs : w0.heap.size ≤ w.heap.size := h.below.size
  have HNC : Hid (∀ (j : Nat) (u : Value), [Value.int .i64 x.kind, .int .i64 x.op, .int .i64 x.a, .int .i64 x.b, .int .i64 x.c, .int .i64 x.n, .int .i64 x.label, .int .i64 x.num][j]? = some u → ((((w.alloc (.cells #[.int .i64 x.kind, .int .i64 x.op, .int .i64 x.a, .int .i64 x.b, .int .i64 x.c, .int .i64 x.n, .int .i64 x.label, .int .i64 x.num] 53)).alloc (.cells #[.int .i64 x.kind, .int .i64 x.op, .int .i64 x.a, .int .i64 x.b, .int .i64 x.c, .int .i64 x.n, .int .i64 x.label, .int .i64 x.num] 53)).drew)).cell? ((⟨w.heap.size + 1, 0, none⟩ : Addr).add j) = some u) := World.news_of_block (cs := #[.int .i64 x.kind, .int .i64 x.op, .int .i64 x.a, .int .i64 x.b, .int .i64 x.c, .int .i64 x.n, .int .i64 x.label, .int .i64 x.num]) (by
    show (((w.alloc _).alloc _).heap[w.heap.size + 1]?) = _
    rw [show w.heap.size + 1 = (w.alloc (.cells #[.int .i64 x.kind, .int .i64 x.op, .int .i64 x.a, .int .i64 x.b, .int .i64 x.c, .int .i64 x.n, .int .i64 x.label, .int .i64 x.num] 53)).heap.size by simp]
    exact heap_alloc_new _ _)
  have HB2 : Hid (Below w.heap.size w ((((w.alloc (.cells #[.int .i64 x.kind, .int .i64 x.op, .int .i64 x.a, .int .i64 x.b, .int .i64 x.c, .int .i64 x.n, .int .i64 x.label, .int .i64 x.num] 53)).alloc (.cells #[.int .i64 x.kind, .int .i64 x.op, .int .i64 x.a, .int .i64 x.b, .int .i64 x.c, .int .i64 x.n, .int .i64 x.label, .int .i64 x.num] 53)).drew))) := (((Below.refl _ _).alloc (Nat.le_refl _) _).alloc (by simp) _).drew
  have HSZ : Hid (((((w.alloc (.cells #[.int .i64 x.kind, .int .i64 x.op, .int .i64 x.a, .int .i64 x.b, .int .i64 x.c, .int .i64 x.n, .int .i64 x.label, .int .i64 x.num] 53)).alloc (.cells #[.int .i64 x.kind, .int .i64 x.op, .int .i64 x.a, .int .i64 x.b, .int .i64 x.c, .int .i64 x.n, .int .i64 x.label, .int .i64 x.num] 53)).drew)).heap.size = w.heap.size + 2) := by show ((w.alloc _).alloc _).heap.size = _; simp
  clear hi hz0 hz1 hz2 h htv
  unfold BPost
  go_enter Try.func35, Try.ntmps35
  go_wp2_with fail
  go_region_law (first
    | (refine step_append_lies _ (by rfl) (.tmp 8) (.tmp 10) 39 (by rfl) w0.heap.size 53 i0 _ 8 64 Try.underlying39 HI.out HZ0.out HZ1.out HZ2.out rfl (by decide) (.slice ta L.length tc) L.length (flat L) (by rfl) (by first | exact own_drewN ((HR.out.alloc _).alloc _) 1 | exact (own_drewN (HR.out.alloc _) 1).alloc _) ⟨w.heap.size + 1, 0, none⟩ 1 1 [.int .i64 x.kind, .int .i64 x.op, .int .i64 x.a, .int .i64 x.b, .int .i64 x.c, .int .i64 x.n, .int .i64 x.label, .int .i64 x.num] (by rfl) (by rfl) HNC.out (by simp [Value.oneCell']) (by decide) (by simp only [maxLen]; omega) (by omega) (by simp <;> omega) (w.heap.size + 2) (by simp) ?_; intro g cap w2 hown hgr hlb hlt; have H2 := Lib.hid (put_mk (x := x) HH.out HB2.out hown HTV.out hgr HSZ.out hlb); have c2 := H2.out.1.1; have f2 := H2.out.1.2.1; have hm2 := H2.out.1.2.2; clear hown hgr hlb hlt)
    | fail)
  all_goals
    go_wp2_with fail
    go_end0
    exact ⟨rfl, _, H2.out.2⟩
end Sg
end Go.Proofs.Ytaldcgfhlflcpaa
namespace Go.Proofs.Ytaldcgfhlflcpaa
open Go.RowKit
set_option linter.unusedVariables false
set_option linter.unusedSimpArgs false
set_option maxRecDepth 100000
namespace Sg
open As
section
variable {w0 w : World} {b : Nat} {v : Value} {L : List It}
set_option maxHeartbeats 4000000 in
theorem bLabel_any (h : BAt w0 w b v L) (hL : L.length ≤ 100000) (n : Int) : Calls Try.prog 16 #[.pointer (some ⟨b, 0, none⟩), .int .i64 n] w (BPost w0 b (L ++ [lab n])) := by
  have HC := Lib.hid (put_any h hL (lab n))
  unfold lab at HC
  dsimp only at HC
  clear h hL
  go_enter Try.func16, Try.ntmps16
  go_wp2_with fail
  with_reducible refine HC.out.mono ?_
  rintro e w1 ⟨rfl, hb⟩
  have HB := Lib.hid hb
  clear hb
  go_wp2_with fail
  go_end0
  exact ⟨rfl, HB.out⟩
set_option maxHeartbeats 4000000 in
theorem bThree_any (h : BAt w0 w b v L) (hL : L.length ≤ 100000) (op a x y : Int) : Calls Try.prog 25 #[.pointer (some ⟨b, 0, none⟩), .int .i64 op, .int .i64 a, .int .i64 x, .int .i64 y] w (BPost w0 b (L ++ [thr op a x y])) := by
  have HC := Lib.hid (put_any h hL (thr op a x y))
  unfold thr at HC
  dsimp only at HC
  clear h hL
  go_enter Try.func25, Try.ntmps25
  go_wp2_with fail
  with_reducible refine HC.out.mono ?_
  rintro e w1 ⟨rfl, hb⟩
  have HB := Lib.hid hb
  clear hb
  go_wp2_with fail
  go_end0
  exact ⟨rfl, HB.out⟩
set_option maxHeartbeats 4000000 in
theorem bWith_any (h : BAt w0 w b v L) (hL : L.length ≤ 100000) (op a x n : Int) : Calls Try.prog 36 #[.pointer (some ⟨b, 0, none⟩), .int .i64 op, .int .i64 a, .int .i64 x, .int .i64 n] w (BPost w0 b (L ++ [wth op a x n])) := by
  have HC := Lib.hid (put_any h hL (wth op a x n))
  unfold wth at HC
  dsimp only at HC
  clear h hL
  go_enter Try.func36, Try.ntmps36
  go_wp2_with fail
  with_reducible refine HC.out.mono ?_
  rintro e w1 ⟨rfl, hb⟩
  have HB := Lib.hid hb
  clear hb
  go_wp2_with fail
  go_end0
  exact ⟨rfl, HB.out⟩
set_option maxHeartbeats 4000000 in
theorem bCopy_any (h : BAt w0 w b v L) (hL : L.length ≤ 100000) (a x : Int) : Calls Try.prog 19 #[.pointer (some ⟨b, 0, none⟩), .int .i64 a, .int .i64 x] w (BPost w0 b (L ++ [wth 15 a x 0])) := by
  have HC := Lib.hid ((bWith_any h hL 15 a x 0 : Calls Try.prog 36 _ w (BPost w0 b (L ++ [wth 15 a x 0]))))
  clear h hL
  go_enter Try.func19, Try.ntmps19
  go_wp2_with fail
  with_reducible refine HC.out.mono ?_
  rintro e w1 ⟨rfl, hb⟩
  have HB := Lib.hid hb
  clear hb
  go_wp2_with fail
  go_end0
  exact ⟨rfl, HB.out⟩
set_option maxHeartbeats 4000000 in
theorem bLoad_any (h : BAt w0 w b v L) (hL : L.length ≤ 100000) (a x n : Int) : Calls Try.prog 18 #[.pointer (some ⟨b, 0, none⟩), .int .i64 a, .int .i64 x, .int .i64 n] w (BPost w0 b (L ++ [wth 22 a x n])) := by
  have HC := Lib.hid ((bWith_any h hL 22 a x n : Calls Try.prog 36 _ w (BPost w0 b (L ++ [wth 22 a x n]))))
  clear h hL
  go_enter Try.func18, Try.ntmps18
  go_wp2_with fail
  with_reducible refine HC.out.mono ?_
  rintro e w1 ⟨rfl, hb⟩
  have HB := Lib.hid hb
  clear hb
  go_wp2_with fail
  go_end0
  exact ⟨rfl, HB.out⟩
set_option maxHeartbeats 4000000 in
theorem bStore_any (h : BAt w0 w b v L) (hL : L.length ≤ 100000) (a x n : Int) : Calls Try.prog 17 #[.pointer (some ⟨b, 0, none⟩), .int .i64 a, .int .i64 x, .int .i64 n] w (BPost w0 b (L ++ [wth 23 a x n])) := by
  have HC := Lib.hid ((bWith_any h hL 23 a x n : Calls Try.prog 36 _ w (BPost w0 b (L ++ [wth 23 a x n]))))
  clear h hL
  go_enter Try.func17, Try.ntmps17
  go_wp2_with fail
  with_reducible refine HC.out.mono ?_
  rintro e w1 ⟨rfl, hb⟩
  have HB := Lib.hid hb
  clear hb
  go_wp2_with fail
  go_end0
  exact ⟨rfl, HB.out⟩
set_option maxHeartbeats 4000000 in
theorem bNumber_any (h : BAt w0 w b v L) (hL : L.length ≤ 100000) (a n : Int) : Calls Try.prog 20 #[.pointer (some ⟨b, 0, none⟩), .int .i64 a, .int .i64 n] w (BPost w0 b (L ++ [nmb a n])) := by
  have HC := Lib.hid (put_any h hL (nmb a n))
  unfold nmb at HC
  dsimp only at HC
  clear h hL
  go_enter Try.func20, Try.ntmps20
  go_wp2_with fail
  with_reducible refine HC.out.mono ?_
  rintro e w1 ⟨rfl, hb⟩
  have HB := Lib.hid hb
  clear hb
  go_wp2_with fail
  go_end0
  exact ⟨rfl, HB.out⟩
set_option maxHeartbeats 4000000 in
theorem bIf_any (h : BAt w0 w b v L) (hL : L.length ≤ 100000) (op x y l : Int) : Calls Try.prog 22 #[.pointer (some ⟨b, 0, none⟩), .int .i64 op, .int .i64 x, .int .i64 y, .int .i64 l] w (BPost w0 b (L ++ [iff op x y l])) := by
  have HC := Lib.hid (put_any h hL (iff op x y l))
  unfold iff at HC
  dsimp only at HC
  clear h hL
  go_enter Try.func22, Try.ntmps22
  go_wp2_with fail
  with_reducible refine HC.out.mono ?_
  rintro e w1 ⟨rfl, hb⟩
  have HB := Lib.hid hb
  clear hb
  go_wp2_with fail
  go_end0
  exact ⟨rfl, HB.out⟩
set_option maxHeartbeats 4000000 in
theorem bJump_any (h : BAt w0 w b v L) (hL : L.length ≤ 100000) (a l : Int) : Calls Try.prog 21 #[.pointer (some ⟨b, 0, none⟩), .int .i64 a, .int .i64 l] w (BPost w0 b (L ++ [jmp a l])) := by
  have HC := Lib.hid (put_any h hL (jmp a l))
  unfold jmp at HC
  dsimp only at HC
  clear h hL
  go_enter Try.func21, Try.ntmps21
  go_wp2_with fail
  with_reducible refine HC.out.mono ?_
  rintro e w1 ⟨rfl, hb⟩
  have HB := Lib.hid hb
  clear hb
  go_wp2_with fail
  go_end0
  exact ⟨rfl, HB.out⟩
set_option maxHeartbeats 4000000 in
theorem bGoto_any (h : BAt w0 w b v L) (hL : L.length ≤ 100000) (l : Int) : Calls Try.prog 23 #[.pointer (some ⟨b, 0, none⟩), .int .i64 l] w (BPost w0 b (L ++ [jmp 0 l])) := by
  have HC := Lib.hid ((bJump_any h hL 0 l : Calls Try.prog 21 _ w (BPost w0 b (L ++ [jmp 0 l]))))
  clear h hL
  go_enter Try.func23, Try.ntmps23
  go_wp2_with fail
  with_reducible refine HC.out.mono ?_
  rintro e w1 ⟨rfl, hb⟩
  have HB := Lib.hid hb
  clear hb
  go_wp2_with fail
  go_end0
  exact ⟨rfl, HB.out⟩
set_option maxHeartbeats 4000000 in
theorem bBack_any (h : BAt w0 w b v L) (hL : L.length ≤ 100000) (x : Int) : Calls Try.prog 26 #[.pointer (some ⟨b, 0, none⟩), .int .i64 x] w (BPost w0 b (L ++ [wth 29 0 x 0])) := by
  have HC := Lib.hid ((bWith_any h hL 29 0 x 0 : Calls Try.prog 36 _ w (BPost w0 b (L ++ [wth 29 0 x 0]))))
  clear h hL
  go_enter Try.func26, Try.ntmps26
  go_wp2_with fail
  with_reducible refine HC.out.mono ?_
  rintro e w1 ⟨rfl, hb⟩
  have HB := Lib.hid hb
  clear hb
  go_wp2_with fail
  go_end0
  exact ⟨rfl, HB.out⟩
end
end Sg
end Go.Proofs.Ytaldcgfhlflcpaa
namespace Go.Proofs.Ytaldcgfhlflcpaa
open Go.RowKit
set_option linter.unusedVariables false
set_option linter.unusedSimpArgs false
set_option maxRecDepth 100000
namespace Sg
open As
section
variable {w0 w : World} {b : Nat} {v : Value} {L : List It}
theorem bHalt_any (h : BAt w0 w b v L) (hL : L.length ≤ 90000) (a n : Int) : Calls Try.prog 27 #[.pointer (some ⟨b, 0, none⟩), .int .i64 a, .int .i64 n] w (BPost w0 b (L ++ [nmb a n, wth 0 a 0 0])) := by
  have HB := Lib.hid h
  have HL := Lib.hid hL
  clear h hL
  go_enter Try.func27, Try.ntmps27
  go_wp2_with (first
    | (go_at_call 20; (with_reducible refine (bNumber_any HB.out (by have := HL.out; first | omega | (simp only [List.length_append, List.length_cons, List.length_nil]; omega)) _ _).mono ?_); rintro e w1 ⟨rfl, v1, hb⟩; clear HB; have HB := Lib.hid hb; clear hb)
    | (go_at_call 36; (with_reducible refine (bWith_any HB.out (by have := HL.out; first | omega | (simp only [List.length_append, List.length_cons, List.length_nil]; omega)) _ _ _ _).mono ?_); rintro e w1 ⟨rfl, v1, hb⟩; clear HB; have HB := Lib.hid hb; clear hb)
    | fail)
  go_end0
  exact ⟨rfl, _, by simpa only [List.append_assoc, List.singleton_append, List.cons_append, List.nil_append, List.append_nil] using HB.out⟩
end
end Sg
end Go.Proofs.Ytaldcgfhlflcpaa
