/- The collector's code, and the runtime's, walked whole. -/
import Derived.Deep.DeepCutAuto
import Derived.Test.YtaldcgfhlflcpaaAJau
set_option linter.unusedVariables false
set_option linter.unusedSimpArgs false
set_option linter.unnecessarySimpa false
namespace Go.Proofs.Ytaldcgfhlflcpaa
open Go.RowKit
set_option linter.unusedVariables false
set_option linter.unusedSimpArgs false
set_option maxRecDepth 100000
namespace Sg
open As
section
variable {w0 w : World} {b : Nat} {v : Value} {L : List It}
set_option maxHeartbeats 16000000 in
theorem gc_swap (h : BAt w0 w b v L) (hL : L.length ≤ 50000) (x y : Int) : Calls Try.prog 24 #[.pointer (some ⟨b, 0, none⟩), .int .i64 x, .int .i64 y] w (BPost w0 b (L ++ [wth 22 3 0 x, wth 22 4 0 y, wth 23 4 0 x, wth 23 3 0 y])) := by
  have HB := Lib.hid h
  have HL := Lib.hid hL
  clear h hL
  go_enter Try.func24, Try.ntmps24
  go_wp2_with (first
    | (go_at_call 18; (with_reducible refine (bLoad_any HB.out (by have := HL.out; first | omega | (simp only [List.length_append, List.length_cons, List.length_nil]; omega)) _ _ _).mono ?_); rintro e w1 ⟨rfl, v1, hb⟩; clear HB; have HB := Lib.hid hb; clear hb)
    | (go_at_call 17; (with_reducible refine (bStore_any HB.out (by have := HL.out; first | omega | (simp only [List.length_append, List.length_cons, List.length_nil]; omega)) _ _ _).mono ?_); rintro e w1 ⟨rfl, v1, hb⟩; clear HB; have HB := Lib.hid hb; clear hb)
    | fail)
  go_end0
  exact ⟨rfl, _, by simpa only [List.append_assoc, List.singleton_append, List.cons_append, List.nil_append, List.append_nil] using HB.out⟩
set_option maxHeartbeats 16000000 in
theorem gc_forward (h : BAt w0 w b v L) (hL : L.length ≤ 40000) : Calls Try.prog 28 #[.pointer (some ⟨b, 0, none⟩)] w (BPost w0 b (L ++ forwardL)) := by
  have HB := Lib.hid h
  have HL := Lib.hid hL
  clear h hL
  go_enter Try.func28, Try.ntmps28
  go_wp2_with (first
    | (go_at_call 16; (with_reducible refine (bLabel_any HB.out (by have := HL.out; first | omega | (simp only [List.length_append, List.length_cons, List.length_nil]; omega)) _).mono ?_); rintro e w1 ⟨rfl, v1, hb⟩; clear HB; have HB := Lib.hid hb; clear hb)
    | (go_at_call 36; (with_reducible refine (bWith_any HB.out (by have := HL.out; first | omega | (simp only [List.length_append, List.length_cons, List.length_nil]; omega)) _ _ _ _).mono ?_); rintro e w1 ⟨rfl, v1, hb⟩; clear HB; have HB := Lib.hid hb; clear hb)
    | (go_at_call 18; (with_reducible refine (bLoad_any HB.out (by have := HL.out; first | omega | (simp only [List.length_append, List.length_cons, List.length_nil]; omega)) _ _ _).mono ?_); rintro e w1 ⟨rfl, v1, hb⟩; clear HB; have HB := Lib.hid hb; clear hb)
    | (go_at_call 17; (with_reducible refine (bStore_any HB.out (by have := HL.out; first | omega | (simp only [List.length_append, List.length_cons, List.length_nil]; omega)) _ _ _).mono ?_); rintro e w1 ⟨rfl, v1, hb⟩; clear HB; have HB := Lib.hid hb; clear hb)
    | (go_at_call 20; (with_reducible refine (bNumber_any HB.out (by have := HL.out; first | omega | (simp only [List.length_append, List.length_cons, List.length_nil]; omega)) _ _).mono ?_); rintro e w1 ⟨rfl, v1, hb⟩; clear HB; have HB := Lib.hid hb; clear hb)
    | (go_at_call 22; (with_reducible refine (bIf_any HB.out (by have := HL.out; first | omega | (simp only [List.length_append, List.length_cons, List.length_nil]; omega)) _ _ _ _).mono ?_); rintro e w1 ⟨rfl, v1, hb⟩; clear HB; have HB := Lib.hid hb; clear hb)
    | (go_at_call 23; (with_reducible refine (bGoto_any HB.out (by have := HL.out; first | omega | (simp only [List.length_append, List.length_cons, List.length_nil]; omega)) _).mono ?_); rintro e w1 ⟨rfl, v1, hb⟩; clear HB; have HB := Lib.hid hb; clear hb)
    | (go_at_call 26; (with_reducible refine (bBack_any HB.out (by have := HL.out; first | omega | (simp only [List.length_append, List.length_cons, List.length_nil]; omega)) _).mono ?_); rintro e w1 ⟨rfl, v1, hb⟩; clear HB; have HB := Lib.hid hb; clear hb)
    | fail)
  go_end0
  exact ⟨rfl, _, by simpa only [forwardL, List.append_assoc, List.singleton_append, List.cons_append, List.nil_append, List.append_nil] using HB.out⟩
theorem storeL_len : ∀ k, (storeL k).length = k
  | 0 => rfl
  | k + 1 => by rw [storeL, List.length_append, storeL_len k]; rfl
theorem loadL_len : ∀ k, (loadL k).length = k
  | 0 => rfl
  | k + 1 => by rw [loadL, List.length_append, loadL_len k]; rfl
def CodePost (L : List It) (w : World) (en : Ending) (w' : World) : Prop := ∃ v, en = .returned v ∧ w'.ownsRow w.heap.size 53 8 v L.length (flat L) ∧ Below w.heap.size w w'
theorem builder_new (w : World) : BAt w (w.alloc (.cells #[.slice none 0 0] 62)) w.heap.size (.slice none 0 0) [] :=
  ⟨heap_alloc_new _ _, ⟨rfl, .inl ⟨rfl, rfl⟩⟩, Nat.le_refl _, (Below.refl _ _).alloc (Nat.le_refl _) _⟩
end
set_option maxHeartbeats 64000000 in
theorem gc_Code (w : World) : Calls Try.prog 9 #[] w (CodePost gcL w) := by
  have HL : Hid (([] : List It).length ≤ 1000) := Nat.zero_le _
  go_enter Try.func9, Try.ntmps9
  go_upto_region 2 with fail
  have HB := Lib.hid (builder_new w)
  generalize w.alloc (.cells #[.slice none 0 0] 62) = w0 at HB ⊢
  generalize hbb : w.heap.size = b at HB ⊢
  have HBB := Lib.hid hbb
  clear hbb
  go_upto_region 4 with (first
    | (go_at_call 16; (with_reducible refine (bLabel_any HB.out (by have := HL.out; first | omega | (simp only [List.length_append, List.length_cons, List.length_nil, storeL_len, loadL_len, midL, forwardL]; omega)) _).mono ?_); rintro e w1 ⟨rfl, v1, hb⟩; clear HB; have HB := Lib.hid hb; clear hb)
    | fail)
  go_loopg [2] 25 (fun g s wx => ∃ (k : Nat) (v : Value), k ≤ 25 ∧ g = 25 - k ∧ s = .int .i64 ((k : Int) + 1) ∧ Hid (BAt w wx b v ([lab 1] ++ storeL k)))
  case atStart => exact ⟨0, _, by omega, rfl, rfl, HB.out⟩
  case round =>
    obtain ⟨k, v, hk, rfl, rfl, HB⟩ := hrel
    by_cases hlt : k < 25
    · have g1 : (k : Int) + 1 ≤ 25 := by omega
      have g2 : IntKind.i64.wrap (0 + ((k : Int) + 1)) = (k : Int) + 1 := by rw [IntKind.wrap_i64]; omega
      have g3 : IntKind.i64.wrap ((k : Int) + 1 - 1) = (k : Int) := by rw [IntKind.wrap_i64]; omega
      have g4 : IntKind.i64.wrap ((k : Int) + 1 + 1) = (k : Int) + 1 + 1 := by rw [IntKind.wrap_i64]; omega
      have g5 : IntKind.i64.wrap ((k : Int) + 1) = (k : Int) + 1 := by rw [IntKind.wrap_i64]; omega
      go_wp2_with (first
        | (go_at_call 17; (with_reducible refine (bStore_any HB.out (by have := HL.out; first | omega | (simp only [List.length_append, List.length_cons, List.length_nil, storeL_len, loadL_len, midL, forwardL]; omega)) _ _ _).mono ?_); rintro e w1 ⟨rfl, v1, hb⟩; clear HB; have HB := Lib.hid hb; clear hb)
        | fail)
      go_roundg (25 - (k + 1))
      case measure => omega
      case rel => exact ⟨k + 1, _, by omega, rfl, by push_cast; rfl, by rw [storeL, ← List.append_assoc]; exact HB.out⟩
    · obtain rfl : k = 25 := by omega
      clear hk hlt
      go_upto_region 30 with (first
        | (go_at_call 16; (with_reducible refine (bLabel_any HB.out (by have := HL.out; first | omega | (simp only [List.length_append, List.length_cons, List.length_nil, storeL_len, loadL_len, midL, forwardL]; omega)) _).mono ?_); rintro e w1 ⟨rfl, v1, hb⟩; clear HB; have HB := Lib.hid hb; clear hb)
        | (go_at_call 18; (with_reducible refine (bLoad_any HB.out (by have := HL.out; first | omega | (simp only [List.length_append, List.length_cons, List.length_nil, storeL_len, loadL_len, midL, forwardL]; omega)) _ _ _).mono ?_); rintro e w1 ⟨rfl, v1, hb⟩; clear HB; have HB := Lib.hid hb; clear hb)
        | (go_at_call 19; (with_reducible refine (bCopy_any HB.out (by have := HL.out; first | omega | (simp only [List.length_append, List.length_cons, List.length_nil, storeL_len, loadL_len, midL, forwardL]; omega)) _ _).mono ?_); rintro e w1 ⟨rfl, v1, hb⟩; clear HB; have HB := Lib.hid hb; clear hb)
        | (go_at_call 20; (with_reducible refine (bNumber_any HB.out (by have := HL.out; first | omega | (simp only [List.length_append, List.length_cons, List.length_nil, storeL_len, loadL_len, midL, forwardL]; omega)) _ _).mono ?_); rintro e w1 ⟨rfl, v1, hb⟩; clear HB; have HB := Lib.hid hb; clear hb)
        | (go_at_call 21; (with_reducible refine (bJump_any HB.out (by have := HL.out; first | omega | (simp only [List.length_append, List.length_cons, List.length_nil, storeL_len, loadL_len, midL, forwardL]; omega)) _ _).mono ?_); rintro e w1 ⟨rfl, v1, hb⟩; clear HB; have HB := Lib.hid hb; clear hb)
        | (go_at_call 22; (with_reducible refine (bIf_any HB.out (by have := HL.out; first | omega | (simp only [List.length_append, List.length_cons, List.length_nil, storeL_len, loadL_len, midL, forwardL]; omega)) _ _ _ _).mono ?_); rintro e w1 ⟨rfl, v1, hb⟩; clear HB; have HB := Lib.hid hb; clear hb)
        | (go_at_call 23; (with_reducible refine (bGoto_any HB.out (by have := HL.out; first | omega | (simp only [List.length_append, List.length_cons, List.length_nil, storeL_len, loadL_len, midL, forwardL]; omega)) _).mono ?_); rintro e w1 ⟨rfl, v1, hb⟩; clear HB; have HB := Lib.hid hb; clear hb)
        | (go_at_call 25; (with_reducible refine (bThree_any HB.out (by have := HL.out; first | omega | (simp only [List.length_append, List.length_cons, List.length_nil, storeL_len, loadL_len, midL, forwardL]; omega)) _ _ _ _).mono ?_); rintro e w1 ⟨rfl, v1, hb⟩; clear HB; have HB := Lib.hid hb; clear hb)
        | (go_at_call 24; (with_reducible refine (gc_swap HB.out (by have := HL.out; first | omega | (simp only [List.length_append, List.length_cons, List.length_nil, storeL_len, loadL_len, midL, forwardL]; omega)) _ _).mono ?_); rintro e w1 ⟨rfl, v1, hb⟩; clear HB; have HB := Lib.hid hb; clear hb)
        | fail)
      go_loopg [3] 25 (fun g s wx => ∃ (k : Nat) (v : Value), k ≤ 25 ∧ g = 25 - k ∧ s = .int .i64 ((k : Int) + 1) ∧ Hid (BAt w wx b v ([lab 1] ++ storeL 25 ++ midL ++ loadL k)))
      case atStart => exact ⟨0, v1, by omega, rfl, rfl, Lib.hid (by simpa only [midL, loadL, List.append_assoc, List.singleton_append, List.cons_append, List.nil_append, List.append_nil] using HB.out)⟩
      case round =>
        clear HB
        obtain ⟨k, v, hk, rfl, rfl, HB⟩ := hrel
        by_cases hlt : k < 25
        · have g1 : (k : Int) + 1 ≤ 25 := by omega
          have g2 : IntKind.i64.wrap (0 + ((k : Int) + 1)) = (k : Int) + 1 := by rw [IntKind.wrap_i64]; omega
          have g3 : IntKind.i64.wrap ((k : Int) + 1 - 1) = (k : Int) := by rw [IntKind.wrap_i64]; omega
          have g4 : IntKind.i64.wrap ((k : Int) + 1 + 1) = (k : Int) + 1 + 1 := by rw [IntKind.wrap_i64]; omega
          have g5 : IntKind.i64.wrap ((k : Int) + 1) = (k : Int) + 1 := by rw [IntKind.wrap_i64]; omega
          go_wp2_with (first
            | (go_at_call 18; (with_reducible refine (bLoad_any HB.out (by have := HL.out; first | omega | (simp only [List.length_append, List.length_cons, List.length_nil, storeL_len, loadL_len, midL, forwardL]; omega)) _ _ _).mono ?_); rintro e w1 ⟨rfl, v1, hb⟩; clear HB; have HB := Lib.hid hb; clear hb)
            | fail)
          go_roundg (25 - (k + 1))
          case measure => omega
          case rel => exact ⟨k + 1, _, by omega, rfl, by push_cast; rfl, by rw [loadL, ← List.append_assoc]; exact HB.out⟩
        · obtain rfl : k = 25 := by omega
          clear hk hlt
          go_upto_region 37 with (first
            | (go_at_call 26; (with_reducible refine (bBack_any HB.out (by have := HL.out; first | omega | (simp only [List.length_append, List.length_cons, List.length_nil, storeL_len, loadL_len, midL, forwardL]; omega)) _).mono ?_); rintro e w1 ⟨rfl, v1, hb⟩; clear HB; have HB := Lib.hid hb; clear hb)
            | (go_at_call 16; (with_reducible refine (bLabel_any HB.out (by have := HL.out; first | omega | (simp only [List.length_append, List.length_cons, List.length_nil, storeL_len, loadL_len, midL, forwardL]; omega)) _).mono ?_); rintro e w1 ⟨rfl, v1, hb⟩; clear HB; have HB := Lib.hid hb; clear hb)
            | (go_at_call 27; (with_reducible refine (bHalt_any HB.out (by have := HL.out; first | omega | (simp only [List.length_append, List.length_cons, List.length_nil, storeL_len, loadL_len, midL, forwardL]; omega)) _ _).mono ?_); rintro e w1 ⟨rfl, v1, hb⟩; clear HB; have HB := Lib.hid hb; clear hb)
            | (go_at_call 28; (with_reducible refine (gc_forward HB.out (by have := HL.out; first | omega | (simp only [List.length_append, List.length_cons, List.length_nil, storeL_len, loadL_len, midL, forwardL]; omega)) ).mono ?_); rintro e w1 ⟨rfl, v1, hb⟩; clear HB; have HB := Lib.hid hb; clear hb)
            | fail)
          have c0 := cell_of_row _ b 0 _ _ _ HB.out.blk
          have hbl := (Array.getElem?_eq_some_iff.1 HB.out.blk).1
          simp only [List.getElem?_toArray, List.getElem?_cons_zero] at c0
          go_wp2_with fail
          go_ret
          exact ⟨v1, rfl, by simpa only [gcL, endL, List.append_assoc, List.singleton_append, List.cons_append, List.nil_append, List.append_nil] using HB.out.row, HB.out.below⟩
end Sg
end Go.Proofs.Ytaldcgfhlflcpaa
