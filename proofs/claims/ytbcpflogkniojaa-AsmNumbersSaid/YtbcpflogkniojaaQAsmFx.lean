/- The law's fixed calls of assembly. -/
import Derived.Test.YtbcpflogkniojaaQAsmAs
import Derived.Test.YtbcpflogkniojaaQAsmI
import Derived.Test.YtbcpflogkniojaaQAsmS
namespace Go.Proofs.Ytbcpflogkniojaa
open Go.RowKit
set_option linter.unusedVariables false
set_option linter.unusedSimpArgs false
/-- A new row of items. -/
theorem isl_new {w : World} {s : Nat} (hs : w.heap.size = s) (l : List As.It) (cs : Array Value) (hcs : cs = (As.flat l).toArray) (t : TypeId) : ISl (w.alloc (.cells cs t)) (.slice (some ⟨s, 0, none⟩) l.length l.length) l := by
  subst hcs
  subst hs
  refine ⟨_, l.length, rfl, .inr ⟨w.heap.size, 0, rfl, by simp, fun j x hx => ?_⟩⟩
  have key : ∀ (l : List As.It) (j i : Nat) (x : As.It) (u : Value), l[j]? = some x → x.cells[i]? = some u → (As.flat l)[j * 8 + i]? = some u := by
    intro l
    induction l with
    | nil => intro j i x u hx; simp at hx
    | cons y l ih =>
      intro j i x u hx hu
      have e : As.flat (y :: l) = y.cells ++ As.flat l := rfl
      have h5 : y.cells.length = 8 := rfl
      have hi : i < 8 := by have := (List.getElem?_eq_some_iff.1 hu).1; simpa [As.It.cells] using this
      rw [e]
      cases j with
      | zero =>
        simp only [List.getElem?_cons_zero, Option.some.injEq] at hx
        subst hx
        rw [List.getElem?_append_left (by omega), Nat.zero_mul, Nat.zero_add]
        exact hu
      | succ j =>
        rw [List.getElem?_append_right (by omega), h5, show (j + 1) * 8 + i - 8 = j * 8 + i by omega]
        exact ih j i x u (by simpa using hx) hu
  have get : ∀ i u, x.cells[i]? = some u → (w.alloc (.cells (As.flat l).toArray t)).cell? ⟨w.heap.size, 0 + j * 8 + i, none⟩ = some u := by
    intro i u hu
    rw [cell_of_row _ _ _ _ _ _ (heap_alloc_new w _), Nat.zero_add]
    have := key l j i x u hx hu
    simpa using this
  exact ⟨get 0 _ rfl, get 1 _ rfl, get 2 _ rfl, get 3 _ rfl, get 4 _ rfl, get 5 _ rfl, get 6 _ rfl, get 7 _ rfl⟩
def fxA : List As.It := [⟨4, 20, 1, 0, 0, 0, 0, 5⟩, ⟨2, 24, 0, 0, 0, 0, 7, 0⟩, ⟨4, 20, 1, 0, 0, 0, 0, 65536⟩, ⟨1, 0, 0, 0, 0, 0, 7, 0⟩, ⟨0, 0, 1, 0, 0, 0, 0, 0⟩]
def fxB : List As.It := [⟨1, 0, 0, 0, 0, 0, 1, 0⟩, ⟨1, 0, 0, 0, 0, 0, 1, 0⟩]
def fxC : List As.It := [⟨2, 24, 0, 0, 0, 0, 1, 0⟩]
theorem fxA_err : As.err fxA = 0 := by decide +kernel
theorem fxB_err : As.err fxB = 211 := by decide +kernel
theorem fxC_err : As.err fxC = 212 := by decide +kernel
theorem fxA_code : As.code fxA = [1344274437, 1610612739, 1344274433, 1411383296, 2097152] := by decide +kernel
theorem fxA_places : As.places0 fxA = [0, 1, 2, 4, 4] := by decide +kernel
/-- The places, as cells of numbers. -/
theorem nums_map (ps : List Nat) : nums ps = (ps.map fun (p : Nat) => (p : Int)).map (Value.int .i64) := by simp [nums]
theorem sl_new {w : World} {s : Nat} (hs : w.heap.size = s) (xs : List Value) (cs : Array Value) (hcs : cs = xs.toArray) (t : TypeId) : Sl (w.alloc (.cells cs t)) (.slice (some ⟨s, 0, none⟩) xs.length xs.length) xs := by
  subst hcs
  subst hs
  refine ⟨_, _, rfl, .inr ⟨⟨w.heap.size, 0, none⟩, rfl, fun j u hj => ?_⟩⟩
  rw [Go.WideShapes.add_plain, Nat.zero_add, cell_of_row _ _ _ _ _ _ (heap_alloc_new w _)]
  simpa using hj
set_option maxHeartbeats 4000000 in
theorem fixed_any (w : World) : Calls Try.prog 7 #[] w fun e w' => e = .returned (.bool true) ∧ Below w.heap.size w w' := by
  go_enter Try.func7, Try.ntmps7
  go_wp2_with fail
  with_reducible refine (constant_any 1 5 _).mono ?_
  rintro e w1 ⟨rfl, hb⟩
  have B1 := Lib.hid (hb)
  clear hb
  go_wp2_with fail
  with_reducible refine (branch_any 24 7 _).mono ?_
  rintro e w2 ⟨rfl, hb⟩
  have B2 := Lib.hid (B1.out.trans (hb.mono B1.out.size))
  clear hb
  go_wp2_with fail
  with_reducible refine (constant_any 1 65536 _).mono ?_
  rintro e w3 ⟨rfl, hb⟩
  have B3 := Lib.hid (B2.out.trans (hb.mono B2.out.size))
  clear hb
  go_wp2_with fail
  with_reducible refine (label_any 7 _).mono ?_
  rintro e w4 ⟨rfl, hb⟩
  have B4 := Lib.hid (B3.out.trans (hb.mono B3.out.size))
  clear hb
  go_wp2_with fail
  with_reducible refine (instr_any 0 1 0 _).mono ?_
  rintro e w5 ⟨rfl, hb⟩
  have B5 := Lib.hid (B4.out.trans (hb.mono B4.out.size))
  clear hb
  go_wp2_with fail
  have HN6 : Hid (w.heap.size ≤ w5.heap.size) := B5.out.size
  refine (assemble_any _ _ fxA _ (isl_new rfl fxA _ rfl 35) (by decide)).mono ?_
  rintro e w6 ⟨hb, hr⟩
  have B6 := Lib.hid ((B5.out.alloc HN6.out _).trans (hb.mono (by have := HN6.out; simp; omega)))
  have C6 := Lib.hid (Below.refl w6.heap.size w6)
  clear hb
  rw [fxA_err, if_pos rfl, fxA_code, fxA_places] at hr
  obtain ⟨vc, vp, rfl, hvc, hvp⟩ := hr
  obtain ⟨ac, cc, rfl⟩ := hvc.len
  obtain ⟨ap, cp, rfl⟩ := hvp.len
  have VC := Lib.hid hvc
  have VP := Lib.hid hvp
  clear hvc hvp
  go_wp2_with fail
  with_reducible refine (label_any 1 _).mono ?_
  rintro e w7 ⟨rfl, hb⟩
  have B7 := Lib.hid (B6.out.trans (hb.mono B6.out.size))
  have C7 := Lib.hid (C6.out.trans (hb.mono C6.out.size))
  clear hb
  go_wp2_with fail
  with_reducible refine (label_any 1 _).mono ?_
  rintro e w8 ⟨rfl, hb⟩
  have B8 := Lib.hid (B7.out.trans (hb.mono B7.out.size))
  have C8 := Lib.hid (C7.out.trans (hb.mono C7.out.size))
  clear hb
  go_wp2_with fail
  have HN9 : Hid (w.heap.size ≤ w8.heap.size) := B8.out.size
  refine (assemble_any _ _ fxB _ (isl_new rfl fxB _ rfl 35) (by decide)).mono ?_
  rintro e w9 ⟨hb, hr⟩
  have B9 := Lib.hid ((B8.out.alloc HN9.out _).trans (hb.mono (by have := HN9.out; simp; omega)))
  have HC9 : Hid (w6.heap.size ≤ w8.heap.size) := C8.out.size
  have C9 := Lib.hid ((C8.out.alloc HC9.out _).trans (hb.mono (by have := HC9.out; simp; omega)))
  clear hb
  rw [fxB_err, if_neg (by decide)] at hr
  subst hr
  go_wp2_with fail
  with_reducible refine (branch_any 24 1 _).mono ?_
  rintro e w10 ⟨rfl, hb⟩
  have B10 := Lib.hid (B9.out.trans (hb.mono B9.out.size))
  have C10 := Lib.hid (C9.out.trans (hb.mono C9.out.size))
  clear hb
  go_wp2_with fail
  have HN11 : Hid (w.heap.size ≤ w10.heap.size) := B10.out.size
  refine (assemble_any _ _ fxC _ (isl_new rfl fxC _ rfl 35) (by decide)).mono ?_
  rintro e w11 ⟨hb, hr⟩
  have B11 := Lib.hid ((B10.out.alloc HN11.out _).trans (hb.mono (by have := HN11.out; simp; omega)))
  have HC11 : Hid (w6.heap.size ≤ w10.heap.size) := C10.out.size
  have C11 := Lib.hid ((C10.out.alloc HC11.out _).trans (hb.mono (by have := HC11.out; simp; omega)))
  clear hb
  rw [fxC_err, if_neg (by decide)] at hr
  subst hr
  go_wp2_with fail
  have HS11 : Hid (w.heap.size ≤ w11.heap.size) := B11.out.size
  refine (same21 [1344274437, 1610612739, 1344274433, 1411383296, 2097152] ac _ cc _ _ (VC.out.below (C11.out.alloc C11.out.size _) (Nat.le_refl _)) (sl_new rfl ([1344274437, 1610612739, 1344274433, 1411383296, 2097152].map (Value.int .u32)) _ rfl 38) (by decide)).mono ?_
  rintro e w12 ⟨rfl, nd, hw⟩
  have D : Hid (Below w.heap.size w w12) := by unfold Hid; rw [hw]; exact below_drewN (B11.out.alloc HS11.out _) nd
  have E : Hid (Below w6.heap.size w6 w12) := by unfold Hid; rw [hw]; exact below_drewN (C11.out.alloc C11.out.size _) nd
  clear hw
  go_wp2_with fail
  refine (same17 [0, 1, 2, 4, 4] ap _ cp _ _ (VP.out.below (E.out.alloc E.out.size _) (Nat.le_refl _)) (sl_new rfl ([0, 1, 2, 4, 4].map (Value.int .i64)) _ rfl 3) (by decide)).mono ?_
  rintro e w13 ⟨rfl, nd2, hw⟩
  have F : Hid (Below w.heap.size w w13) := by unfold Hid; rw [hw]; exact below_drewN (D.out.alloc D.out.size _) nd2
  clear hw
  go_wp2_with fail
  go_ret
  exact ⟨rfl, F.out⟩
end Go.Proofs.Ytbcpflogkniojaa
