/- The fixed calls. -/
import Derived.Test.YtembhjfejhnpfaaRiscHalt
import Derived.WalkLawsBesides
namespace Go.Proofs.Ytembhjfejhnpfaa
open Go.RowKit
set_option linter.unusedVariables false
set_option linter.unusedSimpArgs false
theorem enc_at (op a b c n W E : Int) (hW : Rs.encW op a b c n = W) (hE : Rs.encE op a b c n = E) (w : World) : Calls Try.prog 8 #[.agg #[.int .i64 op, .int .i64 a, .int .i64 b, .int .i64 c, .int .i64 n]] w fun e w' => e = .returned (.tuple #[.int .u32 W, .int .i64 E]) ∧ Below w.heap.size w w' := by
  subst hW hE
  exact encode_any op a b c n w
def RunAt (r : Rs.M × Int) (st v s : Int) (out : List UInt8) : Prop := r.2 = st ∧ r.1.value = v ∧ r.1.steps = s ∧ r.1.out = out
theorem run_65 : RunAt (Rs.runI [1344274497, 2082471936, 2097152] [] 0 [] 9) 0 65 3 [65] := by unfold RunAt; decide +kernel
theorem run_0 : RunAt (Rs.runI [] [] 0 [] 9) 3 0 0 [] := by unfold RunAt; decide +kernel
theorem run_lit (code : List Int) (st v s : Int) (out : List UInt8) (hA : RunAt (Rs.runI code [] 0 [] 9) st v s out) (vc : Value) (w : World) (hc : Sl w vc (u32s code)) (hcr : ∀ x ∈ code, 0 ≤ x ∧ x < 4294967296) :
    Calls Try.prog 14 #[.agg #[vc, .slice none 0 0, .int .i64 0], .string ⟨#[]⟩, .int .i64 9] w fun e w' =>
      ∃ m mv, e = .returned (.agg (Rs.halt st m mv).toArray) ∧ m.value = v ∧ m.steps = s ∧ m.out = out ∧ m.regs.length = 32 ∧ mv.oneCell' = true ∧ Below w.heap.size w w' := by
  refine (run_any vc (.slice none 0 0) code [] 0 [] 9 w hc ⟨none, 0, rfl, .inl ⟨rfl, rfl, rfl⟩⟩ hcr (by simp) (by decide)).mono ?_
  rintro e w' ⟨mv, rfl, hown, hb⟩
  have hl := Rs.runI_len code [] 0 [] 9
  obtain ⟨h1, h2, h3, h4⟩ := hA
  exact ⟨_, mv, by rw [h1], h2, h3, h4, hl, own_one hown, hb⟩

theorem dec_lit (w : World) : Calls Try.prog 10 #[.int .u32 1344339967] w fun e w' => e = .returned (.tuple #[.agg #[.int .i64 20, .int .i64 1, .int .i64 0, .int .i64 0, .int .i64 (-1)], .bool true]) ∧ Below w.heap.size w w' := by
  have h : Rs.fO 1344339967 = 20 ∧ Rs.fA 1344339967 = 1 ∧ Rs.fB 20 1344339967 = 0 ∧ Rs.fC 20 1344339967 = 0 ∧ Rs.fN 20 1344339967 = -1 := by decide +kernel
  have := decode_yes 1344339967 w (by decide) (by decide +kernel)
  rw [h.1, h.2.1, h.2.2.1, h.2.2.2.1, h.2.2.2.2] at this
  exact this
theorem sl_new {w : World} {k t cap n : Nat} {cs : List Value} (h : w.heap[k]? = some (.cells cs.toArray t (0, 0))) (hn : n = cs.length) : Sl w (.slice (some ⟨k, 0, none⟩) n cap) cs := by
  subst hn
  exact ⟨_, _, rfl, .inr ⟨_, rfl, new_cells w h⟩⟩
set_option maxHeartbeats 8000000 in
set_option maxRecDepth 100000 in
theorem fixed_any (w : World) : Calls Try.prog 12 #[] w fun e w' => e = .returned (.bool true) ∧ Below w.heap.size w w' := by
  go_enter Try.func12, Try.ntmps12
  go_wp2_with (first
    | (go_at_call 8; (with_reducible refine (enc_at 1 1 2 3 0 69343232 0 (by decide +kernel) (by decide +kernel) _).mono ?_); rintro e w1 ⟨rfl, hb1⟩; have HB1 := Lib.hid hb1; clear hb1)
    | (go_at_call 8; (with_reducible refine (enc_at 20 1 0 0 (-1) 1344339967 0 (by decide +kernel) (by decide +kernel) _).mono ?_); rintro e w2 ⟨rfl, hb2⟩; have HB2 := Lib.hid (HB1.out.trans (hb2.mono HB1.out.size)); clear hb2)
    | (go_at_call 8; (with_reducible refine (enc_at 24 0 0 0 (-1) 1610613759 0 (by decide +kernel) (by decide +kernel) _).mono ?_); rintro e w3 ⟨rfl, hb3⟩; have HB3 := Lib.hid (HB2.out.trans (hb3.mono HB2.out.size)); clear hb3)
    | (go_at_call 10; (with_reducible refine (dec_lit _).mono ?_); rintro e w4 ⟨rfl, hb4⟩; have HB4 := Lib.hid (HB3.out.trans (hb4.mono HB3.out.size)); clear hb4))
  with_reducible refine (run_lit [1344274497, 2082471936, 2097152] 0 65 3 [65] run_65 _ _ ?hs5 (by decide)).mono ?_
  case hs5 => exact sl_new (cs := u32s [1344274497, 2082471936, 2097152]) (heap_new (by simp)) rfl
  rintro e w5 ⟨m5, mv5, rfl, v5, s5, o5, r5, n5, hb5⟩
  have D5 : Hid (w5.heap[w4.heap.size]? = some (.cells #[.int .i64 20, .int .i64 1, .int .i64 0, .int .i64 0, .int .i64 (-1)] 23 (0, 0))) := by
    unfold Hid
    rw [hb5.block _ (by simp; omega), heap_alloc_old _ _ (by simp)]
    exact heap_alloc_new w4 _
  have HB5 : Hid (Below w.heap.size w w5) := (((HB4.out.alloc HB4.out.size _).alloc (by have := HB4.out.size; simp; omega) _).trans (hb5.mono (by have := HB4.out.size; simp; omega)))
  have hs5 : w4.heap.size + 2 ≤ w5.heap.size := by have := hb5.size; simp at this; omega
  have hst5 := halt_store w5 0 m5 mv5 r5 n5
  have hln5 := halt_len' (st := 0) (mv := mv5) r5
  have HR5 := Lib.hid (And.intro v5 (And.intro s5 (And.intro o5 r5)))
  clear hb5 v5 s5 o5 r5 n5
  go_wp2_with fail
  with_reducible refine (run_lit [] 3 0 0 [] run_0 _ _ ?hs6 (by decide)).mono ?_
  case hs6 => exact ⟨none, 0, rfl, .inl ⟨rfl, rfl, rfl⟩⟩
  rintro e w6 ⟨m6, mv6, rfl, v6, s6, o6, r6, n6, hb6⟩
  have hs6 : w5.heap.size + 1 ≤ w6.heap.size := by have := hb6.size; simp at this; omega
  have D6 : w6.heap[w4.heap.size]? = some (.cells #[.int .i64 20, .int .i64 1, .int .i64 0, .int .i64 0, .int .i64 (-1)] 23 (0, 0)) := by
    rw [hb6.block _ (by simp; omega), heap_alloc_old _ _ (by omega)]
    exact D5.out
  have A6 : HaltAt w6 w5.heap.size 0 m5 mv5 := (HaltAt.new w5 HR5.out.2.2.2).below hb6 (by simp)
  have HB6 : Hid (Below w.heap.size w w6) := ((HB5.out.alloc HB5.out.size _).trans (hb6.mono (by have := HB5.out.size; simp; omega)))
  have hst6 := halt_store w6 3 m6 mv6 r6 n6
  have hln6 := halt_len' (st := 3) (mv := mv6) r6
  have k0 := cell_of_row w6 w4.heap.size 0 _ _ _ D6
  have k1 := cell_of_row w6 w4.heap.size 1 _ _ _ D6
  have k2 := cell_of_row w6 w4.heap.size 2 _ _ _ D6
  have k3 := cell_of_row w6 w4.heap.size 3 _ _ _ D6
  have k4 := cell_of_row w6 w4.heap.size 4 _ _ _ D6
  simp only [List.getElem?_toArray, List.getElem?_cons_zero, List.getElem?_cons_succ] at k0 k1 k2 k3 k4
  have a0 := A6.c0
  have a1 := A6.c1
  have a2 := A6.c2
  have a3 := A6.c3
  rw [HR5.out.1] at a1
  rw [HR5.out.2.2.1] at a2
  rw [HR5.out.2.1] at a3
  have A7 := HaltAt.new (st := 3) (mv := mv6) w6 r6
  have b0 := A7.c0
  have hk4 : w4.heap.size < w6.heap.size := by omega
  have hk5 : w5.heap.size < w6.heap.size := by omega
  clear hb6 v6 s6 o6 r6 n6 D6 A6 A7
  go_wp2_with fail
  go_ret
  exact ⟨rfl, HB6.out.alloc HB6.out.size _⟩
end Go.Proofs.Ytembhjfejhnpfaa
