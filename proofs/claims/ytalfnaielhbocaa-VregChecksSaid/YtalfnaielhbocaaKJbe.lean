/- The heap's act: =, eq?. -/
import Derived.Laws.Strings
import Derived.Test.YtalfnaielhbocaaKJav
import Derived.Test.YtalfnaielhbocaaKJaw
set_option linter.unusedVariables false
set_option linter.unusedSimpArgs false
set_option linter.unnecessarySimpa false
namespace Go.Proofs.Ytalfnaielhbocaa
open Go.RowKit
set_option maxRecDepth 100000
set_option linter.unusedVariables false
set_option linter.unusedSimpArgs false
set_option maxHeartbeats 16000000 in
set_option maxRecDepth 100000 in
theorem act_eq (h : Nat) (p : ByteArray) (hp : p = ⟨#[61]⟩ ∨ p = ⟨#[101, 113, 63]⟩) (x y : Hp.V) (av : Value) (w : World) (hv : VSl w av [x, y]) :
    Calls Try.prog 83 #[.pointer (some ⟨h, 0, none⟩), .string p, av] w fun e w' => e = .returned (.tuple #[(Hp.truth (decide (x = y))).val, .int .i64 0]) ∧ Below w.heap.size w w' := by
  obtain ⟨a, c, rfl⟩ := hv.len
  obtain ⟨b, off, rfl, hbl, hat⟩ := hv.at (by simp)
  obtain ⟨d0, d1, d2⟩ := hat 0 x rfl
  obtain ⟨f0, f1, f2⟩ := hat 1 y rfl
  rw [Nat.zero_mul, Nat.add_zero] at d0 d1 d2
  rw [Nat.one_mul] at f0 f1 f2
  clear hat hv
  have HW1 : Hid (Below w.heap.size w ((w.alloc (.cells #[.int .i64 0, .int .i64 0, .string ⟨#[]⟩] 64)).alloc (.cells #[.int .i64 5, .int .i64 0, .string ⟨#[]⟩] 64)).drew) := (((Below.refl _ _).alloc (Nat.le_refl _) _).alloc (by simp) _).drew
  have HZ : Hid (((w.alloc (.cells #[.int .i64 0, .int .i64 0, .string ⟨#[]⟩] 64)).alloc (.cells #[.int .i64 5, .int .i64 0, .string ⟨#[]⟩] 64)).drew.heap[w.heap.size]? = some (.cells #[.int .i64 0, .int .i64 0, .string ⟨#[]⟩] 64 (0, 0))) := (heap_alloc_old _ _ (by simp)).trans (heap_alloc_new w _)
  obtain ⟨xk, xi, xt⟩ := x
  obtain ⟨yk, yi, yt⟩ := y
  dsimp only at *
  have HS : Hid (ArgC b off [⟨xk, xi, xt⟩, ⟨yk, yi, yt⟩] w) := ⟨d0, d1, d2, f0, f1, f2⟩
  have hcase : (xk = yk ∧ xi = yi ∧ xt = yt) ∨ (xk == yk) = false ∨ (xk = yk ∧ (xi == yi) = false) ∨ (xk = yk ∧ xi = yi ∧ (xt.toList == yt.toList) = false) := by
    by_cases h1 : xk = yk
    · by_cases h2 : xi = yi
      · by_cases h3 : xt = yt
        · exact .inl ⟨h1, h2, h3⟩
        · refine .inr (.inr (.inr ⟨h1, h2, ?_⟩))
          rw [beq_eq_false_iff_ne]
          intro e
          rw [ByteArray.toList_eq, ByteArray.toList_eq] at e
          exact h3 (by cases xt; cases yt; simp at e; rw [e])
      · exact .inr (.inr (.inl ⟨h1, beq_eq_false_iff_ne.2 h2⟩))
    · exact .inr (.inl (beq_eq_false_iff_ne.2 h1))
  have HQ : Hid (∀ (b : Bool), (decide ((⟨xk, xi, xt⟩ : Hp.V) = ⟨yk, yi, yt⟩) = b) → True) := fun _ _ => trivial
  generalize hdec : decide ((⟨xk, xi, xt⟩ : Hp.V) = ⟨yk, yi, yt⟩) = dd
  have HDEC : Hid ((xk = yk ∧ xi = yi ∧ xt = yt) ↔ dd = true) := by
    show _ ↔ _
    rw [← hdec, decide_eq_true_eq]
    simp
  clear hdec HQ
  rcases hcase with ⟨rfl, rfl, rfl⟩ | v1 | ⟨rfl, v1⟩ | ⟨rfl, rfl, v1⟩
  · obtain rfl : dd = true := HDEC.out.1 ⟨rfl, rfl, rfl⟩
    have HTR : Hid (∀ w1, Calls Try.prog 81 #[.bool true] w1 fun e w' => e = .returned (.agg #[.int .i64 0, .int .i64 1, .string ⟨#[]⟩]) ∧ Below w1.heap.size w1 w') := fun w1 => truth_any true w1
    rcases hp with rfl | rfl
    all_goals
      go_enter Try.func83, Try.ntmps83
      go_wp2_with fail
      go_region_held3 (fun w' => w'.cell? ⟨b, off, none⟩ = some (.int .i64 xk) ∧ w'.cell? ⟨b, off + 1, none⟩ = some (.int .i64 xi) ∧ w'.cell? ⟨b, off + 2, none⟩ = some (.string xt) ∧ w'.cell? ⟨b, off + 3, none⟩ = some (.int .i64 xk) ∧ w'.cell? ⟨b, off + 3 + 1, none⟩ = some (.int .i64 xi) ∧ w'.cell? ⟨b, off + 3 + 2, none⟩ = some (.string xt))
        (first | exact HS.out.below HW1.out hbl | exact HS2.out | exact HS2.out.stored3 (by omega) _ _ _ | fail)
        (first
          | (go_at_call 81; (with_reducible refine (HTR.out _).mono ?_); rintro e w3 ⟨rfl, hb3⟩; have HW3 := Lib.hid (HW1.out.trans (hb3.mono HW1.out.size)); have HS2 := Lib.hid (HS.out.below HW3.out hbl); have hz3 := (hb3.block w.heap.size (by show _ < (World.alloc _ _).heap.size; simp; omega)).trans HZ.out; have q0 := cell_of_row w3 _ 0 _ _ _ hz3; have q1 := cell_of_row w3 _ 1 _ _ _ hz3; have q2 := cell_of_row w3 _ 2 _ _ _ hz3; simp only [List.getElem?_toArray, List.getElem?_cons_zero, List.getElem?_cons_succ] at q0 q1 q2; have k0 := frozen_of_row w3 _ 0 _ _ hz3; have k1 := frozen_of_row w3 _ 1 _ _ hz3; have k2 := frozen_of_row w3 _ 2 _ _ hz3; have HZ3 := Lib.hid hz3; clear hb3 hz3)
          | fail)
      go_wp2_with fail
      refine bodyPost_ret (res2 rfl _ _ w.heap.size 64 _ (0, 0) rfl (three_set _ _ _ _ _ _ _ _ _ HZ3.out) valD valSize) rfl ?_
      exact ⟨by rfl, ((HW3.out.setCell (p := ⟨w.heap.size, 0, none⟩) (Nat.le_refl _) _).setCell (p := ⟨w.heap.size, 1, none⟩) (Nat.le_refl _) _).setCell (p := ⟨w.heap.size, 2, none⟩) (Nat.le_refl _) _⟩
  · have HF : Hid (dd = false) := by
      show dd = false
      rw [← Bool.not_eq_true, ← HDEC.out]
      rintro ⟨h1, _, _⟩
      subst h1
      simp at v1
    obtain rfl := HF.out
    have HTR : Hid (∀ w1, Calls Try.prog 81 #[.bool false] w1 fun e w' => e = .returned (.agg #[.int .i64 0, .int .i64 0, .string ⟨#[]⟩]) ∧ Below w1.heap.size w1 w') := fun w1 => truth_any false w1
    rcases hp with rfl | rfl
    all_goals
      go_enter Try.func83, Try.ntmps83
      go_wp2_with fail
      go_region_held3 (fun w' => w'.cell? ⟨b, off, none⟩ = some (.int .i64 xk) ∧ w'.cell? ⟨b, off + 1, none⟩ = some (.int .i64 xi) ∧ w'.cell? ⟨b, off + 2, none⟩ = some (.string xt) ∧ w'.cell? ⟨b, off + 3, none⟩ = some (.int .i64 yk) ∧ w'.cell? ⟨b, off + 3 + 1, none⟩ = some (.int .i64 yi) ∧ w'.cell? ⟨b, off + 3 + 2, none⟩ = some (.string yt))
        (first | exact HS.out.below HW1.out hbl | exact HS2.out | exact HS2.out.stored3 (by omega) _ _ _ | fail)
        (first
          | (go_at_call 81; (with_reducible refine (HTR.out _).mono ?_); rintro e w3 ⟨rfl, hb3⟩; have HW3 := Lib.hid (HW1.out.trans (hb3.mono HW1.out.size)); have HS2 := Lib.hid (HS.out.below HW3.out hbl); have hz3 := (hb3.block w.heap.size (by show _ < (World.alloc _ _).heap.size; simp; omega)).trans HZ.out; have q0 := cell_of_row w3 _ 0 _ _ _ hz3; have q1 := cell_of_row w3 _ 1 _ _ _ hz3; have q2 := cell_of_row w3 _ 2 _ _ _ hz3; simp only [List.getElem?_toArray, List.getElem?_cons_zero, List.getElem?_cons_succ] at q0 q1 q2; have k0 := frozen_of_row w3 _ 0 _ _ hz3; have k1 := frozen_of_row w3 _ 1 _ _ hz3; have k2 := frozen_of_row w3 _ 2 _ _ hz3; have HZ3 := Lib.hid hz3; clear hb3 hz3)
          | fail)
      go_wp2_with fail
      refine bodyPost_ret (res2 rfl _ _ w.heap.size 64 _ (0, 0) rfl (three_set _ _ _ _ _ _ _ _ _ HZ3.out) valD valSize) rfl ?_
      exact ⟨by rfl, ((HW3.out.setCell (p := ⟨w.heap.size, 0, none⟩) (Nat.le_refl _) _).setCell (p := ⟨w.heap.size, 1, none⟩) (Nat.le_refl _) _).setCell (p := ⟨w.heap.size, 2, none⟩) (Nat.le_refl _) _⟩
  · have HF : Hid (dd = false) := by
      show dd = false
      rw [← Bool.not_eq_true, ← HDEC.out]
      rintro ⟨_, h1, _⟩
      subst h1
      simp at v1
    obtain rfl := HF.out
    have HTR : Hid (∀ w1, Calls Try.prog 81 #[.bool false] w1 fun e w' => e = .returned (.agg #[.int .i64 0, .int .i64 0, .string ⟨#[]⟩]) ∧ Below w1.heap.size w1 w') := fun w1 => truth_any false w1
    rcases hp with rfl | rfl
    all_goals
      go_enter Try.func83, Try.ntmps83
      go_wp2_with fail
      go_region_held3 (fun w' => w'.cell? ⟨b, off, none⟩ = some (.int .i64 xk) ∧ w'.cell? ⟨b, off + 1, none⟩ = some (.int .i64 xi) ∧ w'.cell? ⟨b, off + 2, none⟩ = some (.string xt) ∧ w'.cell? ⟨b, off + 3, none⟩ = some (.int .i64 xk) ∧ w'.cell? ⟨b, off + 3 + 1, none⟩ = some (.int .i64 yi) ∧ w'.cell? ⟨b, off + 3 + 2, none⟩ = some (.string yt))
        (first | exact HS.out.below HW1.out hbl | exact HS2.out | exact HS2.out.stored3 (by omega) _ _ _ | fail)
        (first
          | (go_at_call 81; (with_reducible refine (HTR.out _).mono ?_); rintro e w3 ⟨rfl, hb3⟩; have HW3 := Lib.hid (HW1.out.trans (hb3.mono HW1.out.size)); have HS2 := Lib.hid (HS.out.below HW3.out hbl); have hz3 := (hb3.block w.heap.size (by show _ < (World.alloc _ _).heap.size; simp; omega)).trans HZ.out; have q0 := cell_of_row w3 _ 0 _ _ _ hz3; have q1 := cell_of_row w3 _ 1 _ _ _ hz3; have q2 := cell_of_row w3 _ 2 _ _ _ hz3; simp only [List.getElem?_toArray, List.getElem?_cons_zero, List.getElem?_cons_succ] at q0 q1 q2; have k0 := frozen_of_row w3 _ 0 _ _ hz3; have k1 := frozen_of_row w3 _ 1 _ _ hz3; have k2 := frozen_of_row w3 _ 2 _ _ hz3; have HZ3 := Lib.hid hz3; clear hb3 hz3)
          | fail)
      go_wp2_with fail
      refine bodyPost_ret (res2 rfl _ _ w.heap.size 64 _ (0, 0) rfl (three_set _ _ _ _ _ _ _ _ _ HZ3.out) valD valSize) rfl ?_
      exact ⟨by rfl, ((HW3.out.setCell (p := ⟨w.heap.size, 0, none⟩) (Nat.le_refl _) _).setCell (p := ⟨w.heap.size, 1, none⟩) (Nat.le_refl _) _).setCell (p := ⟨w.heap.size, 2, none⟩) (Nat.le_refl _) _⟩
  · have HF : Hid (dd = false) := by
      show dd = false
      rw [← Bool.not_eq_true, ← HDEC.out]
      rintro ⟨_, _, h1⟩
      subst h1
      simp at v1
    obtain rfl := HF.out
    have HTR : Hid (∀ w1, Calls Try.prog 81 #[.bool false] w1 fun e w' => e = .returned (.agg #[.int .i64 0, .int .i64 0, .string ⟨#[]⟩]) ∧ Below w1.heap.size w1 w') := fun w1 => truth_any false w1
    rcases hp with rfl | rfl
    all_goals
      go_enter Try.func83, Try.ntmps83
      go_wp2_with fail
      go_region_held3 (fun w' => w'.cell? ⟨b, off, none⟩ = some (.int .i64 xk) ∧ w'.cell? ⟨b, off + 1, none⟩ = some (.int .i64 xi) ∧ w'.cell? ⟨b, off + 2, none⟩ = some (.string xt) ∧ w'.cell? ⟨b, off + 3, none⟩ = some (.int .i64 xk) ∧ w'.cell? ⟨b, off + 3 + 1, none⟩ = some (.int .i64 xi) ∧ w'.cell? ⟨b, off + 3 + 2, none⟩ = some (.string yt))
        (first | exact HS.out.below HW1.out hbl | exact HS2.out | exact HS2.out.stored3 (by omega) _ _ _ | fail)
        (first
          | (go_at_call 81; (with_reducible refine (HTR.out _).mono ?_); rintro e w3 ⟨rfl, hb3⟩; have HW3 := Lib.hid (HW1.out.trans (hb3.mono HW1.out.size)); have HS2 := Lib.hid (HS.out.below HW3.out hbl); have hz3 := (hb3.block w.heap.size (by show _ < (World.alloc _ _).heap.size; simp; omega)).trans HZ.out; have q0 := cell_of_row w3 _ 0 _ _ _ hz3; have q1 := cell_of_row w3 _ 1 _ _ _ hz3; have q2 := cell_of_row w3 _ 2 _ _ _ hz3; simp only [List.getElem?_toArray, List.getElem?_cons_zero, List.getElem?_cons_succ] at q0 q1 q2; have k0 := frozen_of_row w3 _ 0 _ _ hz3; have k1 := frozen_of_row w3 _ 1 _ _ hz3; have k2 := frozen_of_row w3 _ 2 _ _ hz3; have HZ3 := Lib.hid hz3; clear hb3 hz3)
          | fail)
      go_wp2_with fail
      refine bodyPost_ret (res2 rfl _ _ w.heap.size 64 _ (0, 0) rfl (three_set _ _ _ _ _ _ _ _ _ HZ3.out) valD valSize) rfl ?_
      exact ⟨by rfl, ((HW3.out.setCell (p := ⟨w.heap.size, 0, none⟩) (Nat.le_refl _) _).setCell (p := ⟨w.heap.size, 1, none⟩) (Nat.le_refl _) _).setCell (p := ⟨w.heap.size, 2, none⟩) (Nat.le_refl _) _⟩
end Go.Proofs.Ytalfnaielhbocaa
namespace Go.Proofs.Ytalfnaielhbocaa
open Go.RowKit
set_option maxRecDepth 100000
set_option linter.unusedVariables false
set_option linter.unusedSimpArgs false
theorem hbytes_ne {p q : ByteArray} (h : q ≠ p) : (p.toList == q.data.toList) = false := by
  rw [beq_eq_false_iff_ne, Lib.toList_data]
  exact fun e => h (ByteArray.ext (Array.toList_inj.1 e.symm))
set_option maxHeartbeats 16000000 in
set_option maxRecDepth 100000 in
theorem wants_none (p : ByteArray) (hno : ∀ x ∈ Hp.tab, x.name ≠ p) : Still 78 #[.string p] (.tuple #[.string ⟨#[]⟩, .bool false]) := by
  intro w
  have n0 : (p.toList == [43]) = false := hbytes_ne (hno ⟨⟨#[43]⟩, [105, 105], ⟨#[105, 105]⟩, -1, 0⟩ (List.mem_of_getElem? (i := 0) rfl))
  have n1 : (p.toList == [45]) = false := hbytes_ne (hno ⟨⟨#[45]⟩, [105, 105], ⟨#[105, 105]⟩, -1, 0⟩ (List.mem_of_getElem? (i := 1) rfl))
  have n2 : (p.toList == [42]) = false := hbytes_ne (hno ⟨⟨#[42]⟩, [105, 105], ⟨#[105, 105]⟩, -1, 0⟩ (List.mem_of_getElem? (i := 2) rfl))
  have n3 : (p.toList == [113, 117, 111, 116, 105, 101, 110, 116]) = false := hbytes_ne (hno ⟨⟨#[113, 117, 111, 116, 105, 101, 110, 116]⟩, [105, 105], ⟨#[105, 105]⟩, -1, 0⟩ (List.mem_of_getElem? (i := 3) rfl))
  have n4 : (p.toList == [114, 101, 109, 97, 105, 110, 100, 101, 114]) = false := hbytes_ne (hno ⟨⟨#[114, 101, 109, 97, 105, 110, 100, 101, 114]⟩, [105, 105], ⟨#[105, 105]⟩, -1, 0⟩ (List.mem_of_getElem? (i := 4) rfl))
  have n5 : (p.toList == [60]) = false := hbytes_ne (hno ⟨⟨#[60]⟩, [105, 105], ⟨#[105, 105]⟩, -1, 0⟩ (List.mem_of_getElem? (i := 5) rfl))
  have n6 : (p.toList == [61]) = false := hbytes_ne (hno ⟨⟨#[61]⟩, [105, 105], ⟨#[105, 105]⟩, -1, 0⟩ (List.mem_of_getElem? (i := 6) rfl))
  have n7 : (p.toList == [101, 113, 63]) = false := hbytes_ne (hno ⟨⟨#[101, 113, 63]⟩, [46, 46], ⟨#[46, 46]⟩, -1, 0⟩ (List.mem_of_getElem? (i := 7) rfl))
  have n8 : (p.toList == [110, 117, 108, 108, 63]) = false := hbytes_ne (hno ⟨⟨#[110, 117, 108, 108, 63]⟩, [46], ⟨#[46]⟩, 4, 0⟩ (List.mem_of_getElem? (i := 8) rfl))
  have n9 : (p.toList == [115, 121, 109, 98, 111, 108, 63]) = false := hbytes_ne (hno ⟨⟨#[115, 121, 109, 98, 111, 108, 63]⟩, [46], ⟨#[46]⟩, 3, 0⟩ (List.mem_of_getElem? (i := 9) rfl))
  have n10 : (p.toList == [99, 104, 97, 114, 63]) = false := hbytes_ne (hno ⟨⟨#[99, 104, 97, 114, 63]⟩, [46], ⟨#[46]⟩, 2, 0⟩ (List.mem_of_getElem? (i := 10) rfl))
  have n11 : (p.toList == [105, 110, 116, 101, 103, 101, 114, 63]) = false := hbytes_ne (hno ⟨⟨#[105, 110, 116, 101, 103, 101, 114, 63]⟩, [46], ⟨#[46]⟩, 1, 0⟩ (List.mem_of_getElem? (i := 11) rfl))
  have n12 : (p.toList == [98, 111, 111, 108, 101, 97, 110, 63]) = false := hbytes_ne (hno ⟨⟨#[98, 111, 111, 108, 101, 97, 110, 63]⟩, [46], ⟨#[46]⟩, 0, 0⟩ (List.mem_of_getElem? (i := 12) rfl))
  have n13 : (p.toList == [101, 111, 102, 45, 111, 98, 106, 101, 99, 116, 63]) = false := hbytes_ne (hno ⟨⟨#[101, 111, 102, 45, 111, 98, 106, 101, 99, 116, 63]⟩, [46], ⟨#[46]⟩, 6, 0⟩ (List.mem_of_getElem? (i := 13) rfl))
  have n14 : (p.toList == [112, 97, 105, 114, 63]) = false := hbytes_ne (hno ⟨⟨#[112, 97, 105, 114, 63]⟩, [46], ⟨#[46]⟩, 0, 112⟩ (List.mem_of_getElem? (i := 14) rfl))
  have n15 : (p.toList == [118, 101, 99, 116, 111, 114, 63]) = false := hbytes_ne (hno ⟨⟨#[118, 101, 99, 116, 111, 114, 63]⟩, [46], ⟨#[46]⟩, 0, 118⟩ (List.mem_of_getElem? (i := 15) rfl))
  have n16 : (p.toList == [115, 116, 114, 105, 110, 103, 63]) = false := hbytes_ne (hno ⟨⟨#[115, 116, 114, 105, 110, 103, 63]⟩, [46], ⟨#[46]⟩, 0, 115⟩ (List.mem_of_getElem? (i := 16) rfl))
  have n17 : (p.toList == [112, 114, 111, 99, 101, 100, 117, 114, 101, 63]) = false := hbytes_ne (hno ⟨⟨#[112, 114, 111, 99, 101, 100, 117, 114, 101, 63]⟩, [46], ⟨#[46]⟩, 0, 114⟩ (List.mem_of_getElem? (i := 17) rfl))
  have n18 : (p.toList == [99, 111, 110, 115]) = false := hbytes_ne (hno ⟨⟨#[99, 111, 110, 115]⟩, [46, 46], ⟨#[46, 46]⟩, -1, 0⟩ (List.mem_of_getElem? (i := 18) rfl))
  have n19 : (p.toList == [99, 97, 114]) = false := hbytes_ne (hno ⟨⟨#[99, 97, 114]⟩, [112], ⟨#[112]⟩, -1, 0⟩ (List.mem_of_getElem? (i := 19) rfl))
  have n20 : (p.toList == [99, 100, 114]) = false := hbytes_ne (hno ⟨⟨#[99, 100, 114]⟩, [112], ⟨#[112]⟩, -1, 0⟩ (List.mem_of_getElem? (i := 20) rfl))
  have n21 : (p.toList == [115, 101, 116, 45, 99, 97, 114, 33]) = false := hbytes_ne (hno ⟨⟨#[115, 101, 116, 45, 99, 97, 114, 33]⟩, [112, 46], ⟨#[112, 46]⟩, -1, 0⟩ (List.mem_of_getElem? (i := 21) rfl))
  have n22 : (p.toList == [115, 101, 116, 45, 99, 100, 114, 33]) = false := hbytes_ne (hno ⟨⟨#[115, 101, 116, 45, 99, 100, 114, 33]⟩, [112, 46], ⟨#[112, 46]⟩, -1, 0⟩ (List.mem_of_getElem? (i := 22) rfl))
  have n23 : (p.toList == [109, 97, 107, 101, 45, 118, 101, 99, 116, 111, 114]) = false := hbytes_ne (hno ⟨⟨#[109, 97, 107, 101, 45, 118, 101, 99, 116, 111, 114]⟩, [105, 46], ⟨#[105, 46]⟩, -1, 0⟩ (List.mem_of_getElem? (i := 23) rfl))
  have n24 : (p.toList == [109, 97, 107, 101, 45, 115, 116, 114, 105, 110, 103]) = false := hbytes_ne (hno ⟨⟨#[109, 97, 107, 101, 45, 115, 116, 114, 105, 110, 103]⟩, [105, 99], ⟨#[105, 99]⟩, -1, 0⟩ (List.mem_of_getElem? (i := 24) rfl))
  have n25 : (p.toList == [118, 101, 99, 116, 111, 114, 45, 108, 101, 110, 103, 116, 104]) = false := hbytes_ne (hno ⟨⟨#[118, 101, 99, 116, 111, 114, 45, 108, 101, 110, 103, 116, 104]⟩, [118], ⟨#[118]⟩, -1, 0⟩ (List.mem_of_getElem? (i := 25) rfl))
  have n26 : (p.toList == [115, 116, 114, 105, 110, 103, 45, 108, 101, 110, 103, 116, 104]) = false := hbytes_ne (hno ⟨⟨#[115, 116, 114, 105, 110, 103, 45, 108, 101, 110, 103, 116, 104]⟩, [115], ⟨#[115]⟩, -1, 0⟩ (List.mem_of_getElem? (i := 26) rfl))
  have n27 : (p.toList == [118, 101, 99, 116, 111, 114, 45, 114, 101, 102]) = false := hbytes_ne (hno ⟨⟨#[118, 101, 99, 116, 111, 114, 45, 114, 101, 102]⟩, [118, 105], ⟨#[118, 105]⟩, -1, 0⟩ (List.mem_of_getElem? (i := 27) rfl))
  have n28 : (p.toList == [115, 116, 114, 105, 110, 103, 45, 114, 101, 102]) = false := hbytes_ne (hno ⟨⟨#[115, 116, 114, 105, 110, 103, 45, 114, 101, 102]⟩, [115, 105], ⟨#[115, 105]⟩, -1, 0⟩ (List.mem_of_getElem? (i := 28) rfl))
  have n29 : (p.toList == [118, 101, 99, 116, 111, 114, 45, 115, 101, 116, 33]) = false := hbytes_ne (hno ⟨⟨#[118, 101, 99, 116, 111, 114, 45, 115, 101, 116, 33]⟩, [118, 105, 46], ⟨#[118, 105, 46]⟩, -1, 0⟩ (List.mem_of_getElem? (i := 29) rfl))
  have n30 : (p.toList == [115, 116, 114, 105, 110, 103, 45, 115, 101, 116, 33]) = false := hbytes_ne (hno ⟨⟨#[115, 116, 114, 105, 110, 103, 45, 115, 101, 116, 33]⟩, [115, 105, 99], ⟨#[115, 105, 99]⟩, -1, 0⟩ (List.mem_of_getElem? (i := 30) rfl))
  have n31 : (p.toList == [99, 104, 97, 114, 45, 62, 105, 110, 116, 101, 103, 101, 114]) = false := hbytes_ne (hno ⟨⟨#[99, 104, 97, 114, 45, 62, 105, 110, 116, 101, 103, 101, 114]⟩, [99], ⟨#[99]⟩, -1, 0⟩ (List.mem_of_getElem? (i := 31) rfl))
  have n32 : (p.toList == [105, 110, 116, 101, 103, 101, 114, 45, 62, 99, 104, 97, 114]) = false := hbytes_ne (hno ⟨⟨#[105, 110, 116, 101, 103, 101, 114, 45, 62, 99, 104, 97, 114]⟩, [105], ⟨#[105]⟩, -1, 0⟩ (List.mem_of_getElem? (i := 32) rfl))
  have n33 : (p.toList == [37, 98, 111, 120]) = false := hbytes_ne (hno ⟨⟨#[37, 98, 111, 120]⟩, [46], ⟨#[46]⟩, -1, 0⟩ (List.mem_of_getElem? (i := 33) rfl))
  have n34 : (p.toList == [37, 117, 110, 98, 111, 120]) = false := hbytes_ne (hno ⟨⟨#[37, 117, 110, 98, 111, 120]⟩, [98], ⟨#[98]⟩, -1, 0⟩ (List.mem_of_getElem? (i := 34) rfl))
  have n35 : (p.toList == [37, 115, 101, 116, 45, 98, 111, 120, 33]) = false := hbytes_ne (hno ⟨⟨#[37, 115, 101, 116, 45, 98, 111, 120, 33]⟩, [98, 46], ⟨#[98, 46]⟩, -1, 0⟩ (List.mem_of_getElem? (i := 35) rfl))
  have n36 : (p.toList == [118, 111, 105, 100]) = false := hbytes_ne (hno ⟨⟨#[118, 111, 105, 100]⟩, [], ⟨#[]⟩, -1, 0⟩ (List.mem_of_getElem? (i := 36) rfl))
  have n37 : (p.toList == [37, 117, 110, 115, 101, 116]) = false := hbytes_ne (hno ⟨⟨#[37, 117, 110, 115, 101, 116]⟩, [], ⟨#[]⟩, -1, 0⟩ (List.mem_of_getElem? (i := 37) rfl))
  clear hno
  go_enter Try.func78, Try.ntmps78
  go_wp2_with fail
  go_ret2
  exact ⟨rfl, rfl⟩
theorem HSt.thing' {w : World} {ty h : Nat} {O : Nat → Prop} {T : List Hp.Th} (H : HSt w ty h O T) {a : Hp.V} (hm : Hp.may T.length a = true) (h8 : a.kind = 8) :
    ∃ (k : Nat) (vt : Value) (M : List (Hp.Th × Value)) (m : Hp.Th × Value), a = ⟨8, k, ⟨#[]⟩⟩ ∧ HpAt w ty h O vt M ∧ M.map (·.1) = T ∧ M[k]? = some m ∧ Hp.partsOf T a = m.1.parts ∧ Hp.kindOf T a = m.1.kind := by
  obtain ⟨k, hk, rfl⟩ := Hp.may_thing' hm h8
  obtain ⟨t, ht⟩ : ∃ t, T[k]? = some t := ⟨_, List.getElem?_eq_getElem hk⟩
  obtain ⟨vt, M, HA, e⟩ := H
  have ht2 := ht
  rw [← e, List.getElem?_map] at ht2
  obtain ⟨m, hmm, rfl⟩ : ∃ m, M[k]? = some m ∧ m.1 = t := by simpa using ht2
  exact ⟨k, vt, M, m, rfl, HA, e, hmm, by simp [Hp.partsOf, ht], by simp [Hp.kindOf, ht]⟩
section
variable {w : World} {h : Nat} {O : Nat → Prop} {T : List Hp.Th}
theorem hget_any (H : HSt w 83 h O T) (a : Hp.V) (hm : Hp.may T.length a = true) (h8 : a.kind = 8) (hl : (Hp.partsOf T a).length ≤ 1000000) (ak : Int) (j : Int) (t3 : ByteArray) :
    Calls Try.prog 96 #[.pointer (some ⟨h, 0, none⟩), a.val, .agg #[.int .i64 ak, .int .i64 j, .string t3]] w (DoPost 83 h O (Hp.getF T a j).1 (Hp.getF T a j).2.1 (Hp.getF T a j).2.2 w) := by
  obtain ⟨k, vt, M, m, rfl, HA, e, hmm, hp, hk⟩ := H.thing' hm h8
  unfold Hp.getF
  rw [hp] at hl ⊢
  by_cases hj : 0 ≤ j ∧ j < (m.1.parts.length : Int)
  · rw [if_pos hj]
    obtain ⟨i, rfl⟩ : ∃ i : Nat, j = i := ⟨j.toNat, by omega⟩
    have hx : m.1.parts[i]? = some (m.1.parts.getD i Hp.none) := getElem?_getD _ _ _ (by omega)
    refine (get_in ak i t3 _ w HA hmm hl hx).mono ?_
    rintro e' w3 ⟨rfl, hb⟩
    exact DoPost.read H rfl hb
  · rw [if_neg hj]
    refine (get_out ⟨ak, j, t3⟩ w HA hmm hl (by dsimp only; omega)).mono ?_
    rintro e' w3 ⟨rfl, hb⟩
    exact DoPost.read H rfl hb
theorem hput_any (H : HSt w 83 h O T) (a x : Hp.V) (hm : Hp.may T.length a = true) (h8 : a.kind = 8) (hl : (Hp.partsOf T a).length ≤ 1000000) (ak : Int) (j : Int) (t3 : ByteArray) :
    Calls Try.prog 97 #[.pointer (some ⟨h, 0, none⟩), a.val, .agg #[.int .i64 ak, .int .i64 j, .string t3], x.val] w (DoPost 83 h O (Hp.putF T a j x).1 (Hp.putF T a j x).2.1 (Hp.putF T a j x).2.2 w) := by
  obtain ⟨k, vt, M, m, rfl, HA, e, hmm, hp, hk⟩ := H.thing' hm h8
  unfold Hp.putF
  rw [hp] at hl ⊢
  rw [hk]
  by_cases hj : 0 ≤ j ∧ j < (m.1.parts.length : Int)
  · rw [if_pos hj]
    obtain ⟨i, rfl⟩ : ∃ i : Nat, j = i := ⟨j.toNat, by omega⟩
    refine (put_in ak i t3 x w HA hmm hl (by omega)).mono ?_
    rintro e' w3 ⟨rfl, h2, h3⟩
    rw [e] at h2
    exact ⟨O, rfl, h2, h3⟩
  · rw [if_neg hj]
    refine (put_out ⟨ak, j, t3⟩ x w HA hmm hl (by dsimp only; omega)).mono ?_
    rintro e' w3 ⟨rfl, hb⟩
    exact DoPost.read H rfl hb
theorem hfilled_any (H : HSt w 83 h O T) (hT : T.length ≤ 1000000) (kind n : Int) (v : Hp.V) :
    Calls Try.prog 94 #[.pointer (some ⟨h, 0, none⟩), .int .i64 kind, .int .i64 n, v.val] w (DoPost 83 h O (Hp.fillF T kind n v).1 (Hp.fillF T kind n v).2.1 (Hp.fillF T kind n v).2.2 w) := by
  unfold Hp.fillF
  by_cases hn : n < 0 ∨ 1000 < n
  · rw [if_pos hn]
    refine (filled_out h kind n v w hn).mono ?_
    rintro e' w3 ⟨rfl, hb⟩
    exact DoPost.read H rfl hb
  · rw [if_neg hn]
    obtain ⟨i, rfl⟩ : ∃ i : Nat, n = i := ⟨n.toNat, by omega⟩
    exact filled_in h O T kind i v w H hT (by omega)
end
def Hp.FewQ (T : List Hp.Th) : Prop := ∀ t ∈ T, t.parts.length ≤ 1000000
theorem Hp.FewQ.of {T : List Hp.Th} (h : Hp.FewQ T) (a : Hp.V) : (Hp.partsOf T a).length ≤ 1000000 := by
  unfold Hp.partsOf
  split
  · rename_i t ht
    exact h t (List.mem_of_getElem? ht)
  · simp
theorem Hp.may_num' {n : Nat} {v : Hp.V} (h : Hp.may n v = true) (h1 : v.kind = 1) : isN v.int = true := by
  unfold Hp.may at h
  rw [h1] at h
  simp at h
  exact h.2
theorem Hp.ok_num' {T : List Hp.Th} {v : Hp.V} (h : Hp.okAt T (v, 105) = true) : v.kind = 1 := by
  simpa [Hp.okAt, Hp.isL] using h
theorem Hp.ok_thing' {T : List Hp.Th} {v : Hp.V} {c : Int} (hc : c = 112 ∨ c = 118 ∨ c = 115 ∨ c = 98) (h : Hp.okAt T (v, c) = true) : v.kind = 8 := by
  have hk : Hp.kindOf T v ≠ -1 := by
    rcases hc with rfl | rfl | rfl | rfl <;> (simp [Hp.okAt, Hp.isL] at h; omega)
  by_cases h8 : v.kind = 8
  · exact h8
  · exact absurd (by simp [Hp.kindOf, h8]) hk
def HQ (h : Nat) (O : Nat → Prop) (T : List Hp.Th) (i : Nat) (l : List Hp.V) (w : World) : Ending → World → Prop := DoPost 83 h O (Hp.actF T i (l.getD 0 Hp.none) (l.getD 1 Hp.none) (l.getD 2 Hp.none) l).1 (Hp.actF T i (l.getD 0 Hp.none) (l.getD 1 Hp.none) (l.getD 2 Hp.none) l).2.1 (Hp.actF T i (l.getD 0 Hp.none) (l.getD 1 Hp.none) (l.getD 2 Hp.none) l).2.2 w
section
variable {w : World} {h : Nat} {O : Nat → Prop} {T : List Hp.Th}
set_option maxRecDepth 100000 in
theorem hdo_row0 (H : HSt w 83 h O T) (a b : Hp.V) (av : Value) (hv : VSl w av [a, b]) (hf : Hp.free O av) (hT : T.length ≤ 1000000) (hP : Hp.FewQ T) (hm : ∀ v ∈ ([a, b] : List Hp.V), Hp.may T.length v = true) (ht : ∀ v ∈ ([a, b] : List Hp.V), v.text.size ≤ maxLen) (ho : Hp.allOk T [a, b] [105, 105] = true) :
    Calls Try.prog 69 #[.pointer (some ⟨h, 0, none⟩), .string ⟨#[43]⟩, av] w (HQ h O T 0 [a, b] w) := by
  have hx := tab_at 0 ⟨⟨#[43]⟩, [105, 105], ⟨#[105, 105]⟩, -1, 0⟩ rfl
  have hma := hm a (by simp)
  have hmb := hm b (by simp)
  have ho2 := ho
  simp only [Hp.allOk, List.zip_cons_cons, List.zip_nil_right, List.zip_nil_left, List.all_cons, List.all_nil, Bool.and_true, Bool.and_eq_true] at ho2
  have hA := all_st H hv (by simp) ht
  rw [List.all_eq_true.2 hm] at hA
  have hK : Still 80 #[.string ⟨#[43]⟩] (.tuple #[.int .i64 (-1), .int .u8 0]) := fun w1 => asks_at _ hx w1
  refine (do_op0 h ⟨#[43]⟩ ⟨#[105, 105]⟩ av [a, b] w hv rfl (by simp) (atG T _ [105, 105]) (wants_at _ hx) hA (isAt_row H _ hx _ hm ht) (fun k _ => atG_all ho k) (Hp.reckF 0 a.int b.int).1 (Hp.reckF 0 a.int b.int).2 _ _ rfl hK rfl (fun w1 => hreckon_any 0 a b w1 (Hp.may_num' hma (Hp.ok_num' ho2.1)) (Hp.may_num' hmb (Hp.ok_num' ho2.2)))).mono ?_
  rintro e w' ⟨rfl, hb⟩
  exact DoPost.read H rfl hb
set_option maxRecDepth 100000 in
theorem hdo_row1 (H : HSt w 83 h O T) (a b : Hp.V) (av : Value) (hv : VSl w av [a, b]) (hf : Hp.free O av) (hT : T.length ≤ 1000000) (hP : Hp.FewQ T) (hm : ∀ v ∈ ([a, b] : List Hp.V), Hp.may T.length v = true) (ht : ∀ v ∈ ([a, b] : List Hp.V), v.text.size ≤ maxLen) (ho : Hp.allOk T [a, b] [105, 105] = true) :
    Calls Try.prog 69 #[.pointer (some ⟨h, 0, none⟩), .string ⟨#[45]⟩, av] w (HQ h O T 1 [a, b] w) := by
  have hx := tab_at 1 ⟨⟨#[45]⟩, [105, 105], ⟨#[105, 105]⟩, -1, 0⟩ rfl
  have hma := hm a (by simp)
  have hmb := hm b (by simp)
  have ho2 := ho
  simp only [Hp.allOk, List.zip_cons_cons, List.zip_nil_right, List.zip_nil_left, List.all_cons, List.all_nil, Bool.and_true, Bool.and_eq_true] at ho2
  have hA := all_st H hv (by simp) ht
  rw [List.all_eq_true.2 hm] at hA
  have hK : Still 80 #[.string ⟨#[45]⟩] (.tuple #[.int .i64 (-1), .int .u8 0]) := fun w1 => asks_at _ hx w1
  refine (do_op1 h ⟨#[45]⟩ ⟨#[105, 105]⟩ av [a, b] w hv rfl (by simp) (atG T _ [105, 105]) (wants_at _ hx) hA (isAt_row H _ hx _ hm ht) (fun k _ => atG_all ho k) (Hp.reckF 1 a.int b.int).1 (Hp.reckF 1 a.int b.int).2 _ _ rfl hK rfl (fun w1 => hreckon_any 1 a b w1 (Hp.may_num' hma (Hp.ok_num' ho2.1)) (Hp.may_num' hmb (Hp.ok_num' ho2.2)))).mono ?_
  rintro e w' ⟨rfl, hb⟩
  exact DoPost.read H rfl hb
set_option maxRecDepth 100000 in
theorem hdo_row2 (H : HSt w 83 h O T) (a b : Hp.V) (av : Value) (hv : VSl w av [a, b]) (hf : Hp.free O av) (hT : T.length ≤ 1000000) (hP : Hp.FewQ T) (hm : ∀ v ∈ ([a, b] : List Hp.V), Hp.may T.length v = true) (ht : ∀ v ∈ ([a, b] : List Hp.V), v.text.size ≤ maxLen) (ho : Hp.allOk T [a, b] [105, 105] = true) :
    Calls Try.prog 69 #[.pointer (some ⟨h, 0, none⟩), .string ⟨#[42]⟩, av] w (HQ h O T 2 [a, b] w) := by
  have hx := tab_at 2 ⟨⟨#[42]⟩, [105, 105], ⟨#[105, 105]⟩, -1, 0⟩ rfl
  have hma := hm a (by simp)
  have hmb := hm b (by simp)
  have ho2 := ho
  simp only [Hp.allOk, List.zip_cons_cons, List.zip_nil_right, List.zip_nil_left, List.all_cons, List.all_nil, Bool.and_true, Bool.and_eq_true] at ho2
  have hA := all_st H hv (by simp) ht
  rw [List.all_eq_true.2 hm] at hA
  have hK : Still 80 #[.string ⟨#[42]⟩] (.tuple #[.int .i64 (-1), .int .u8 0]) := fun w1 => asks_at _ hx w1
  refine (do_op2 h ⟨#[42]⟩ ⟨#[105, 105]⟩ av [a, b] w hv rfl (by simp) (atG T _ [105, 105]) (wants_at _ hx) hA (isAt_row H _ hx _ hm ht) (fun k _ => atG_all ho k) (Hp.reckF 2 a.int b.int).1 (Hp.reckF 2 a.int b.int).2 _ _ rfl hK rfl (fun w1 => hreckon_any 2 a b w1 (Hp.may_num' hma (Hp.ok_num' ho2.1)) (Hp.may_num' hmb (Hp.ok_num' ho2.2)))).mono ?_
  rintro e w' ⟨rfl, hb⟩
  exact DoPost.read H rfl hb
set_option maxRecDepth 100000 in
theorem hdo_row3 (H : HSt w 83 h O T) (a b : Hp.V) (av : Value) (hv : VSl w av [a, b]) (hf : Hp.free O av) (hT : T.length ≤ 1000000) (hP : Hp.FewQ T) (hm : ∀ v ∈ ([a, b] : List Hp.V), Hp.may T.length v = true) (ht : ∀ v ∈ ([a, b] : List Hp.V), v.text.size ≤ maxLen) (ho : Hp.allOk T [a, b] [105, 105] = true) :
    Calls Try.prog 69 #[.pointer (some ⟨h, 0, none⟩), .string ⟨#[113, 117, 111, 116, 105, 101, 110, 116]⟩, av] w (HQ h O T 3 [a, b] w) := by
  have hx := tab_at 3 ⟨⟨#[113, 117, 111, 116, 105, 101, 110, 116]⟩, [105, 105], ⟨#[105, 105]⟩, -1, 0⟩ rfl
  have hma := hm a (by simp)
  have hmb := hm b (by simp)
  have ho2 := ho
  simp only [Hp.allOk, List.zip_cons_cons, List.zip_nil_right, List.zip_nil_left, List.all_cons, List.all_nil, Bool.and_true, Bool.and_eq_true] at ho2
  have hA := all_st H hv (by simp) ht
  rw [List.all_eq_true.2 hm] at hA
  have hK : Still 80 #[.string ⟨#[113, 117, 111, 116, 105, 101, 110, 116]⟩] (.tuple #[.int .i64 (-1), .int .u8 0]) := fun w1 => asks_at _ hx w1
  refine (do_op3 h ⟨#[113, 117, 111, 116, 105, 101, 110, 116]⟩ ⟨#[105, 105]⟩ av [a, b] w hv rfl (by simp) (atG T _ [105, 105]) (wants_at _ hx) hA (isAt_row H _ hx _ hm ht) (fun k _ => atG_all ho k) (Hp.reckF 3 a.int b.int).1 (Hp.reckF 3 a.int b.int).2 _ _ rfl hK rfl (fun w1 => hreckon_any 3 a b w1 (Hp.may_num' hma (Hp.ok_num' ho2.1)) (Hp.may_num' hmb (Hp.ok_num' ho2.2)))).mono ?_
  rintro e w' ⟨rfl, hb⟩
  exact DoPost.read H rfl hb
set_option maxRecDepth 100000 in
theorem hdo_row4 (H : HSt w 83 h O T) (a b : Hp.V) (av : Value) (hv : VSl w av [a, b]) (hf : Hp.free O av) (hT : T.length ≤ 1000000) (hP : Hp.FewQ T) (hm : ∀ v ∈ ([a, b] : List Hp.V), Hp.may T.length v = true) (ht : ∀ v ∈ ([a, b] : List Hp.V), v.text.size ≤ maxLen) (ho : Hp.allOk T [a, b] [105, 105] = true) :
    Calls Try.prog 69 #[.pointer (some ⟨h, 0, none⟩), .string ⟨#[114, 101, 109, 97, 105, 110, 100, 101, 114]⟩, av] w (HQ h O T 4 [a, b] w) := by
  have hx := tab_at 4 ⟨⟨#[114, 101, 109, 97, 105, 110, 100, 101, 114]⟩, [105, 105], ⟨#[105, 105]⟩, -1, 0⟩ rfl
  have hma := hm a (by simp)
  have hmb := hm b (by simp)
  have ho2 := ho
  simp only [Hp.allOk, List.zip_cons_cons, List.zip_nil_right, List.zip_nil_left, List.all_cons, List.all_nil, Bool.and_true, Bool.and_eq_true] at ho2
  have hA := all_st H hv (by simp) ht
  rw [List.all_eq_true.2 hm] at hA
  have hK : Still 80 #[.string ⟨#[114, 101, 109, 97, 105, 110, 100, 101, 114]⟩] (.tuple #[.int .i64 (-1), .int .u8 0]) := fun w1 => asks_at _ hx w1
  refine (do_op4 h ⟨#[114, 101, 109, 97, 105, 110, 100, 101, 114]⟩ ⟨#[105, 105]⟩ av [a, b] w hv rfl (by simp) (atG T _ [105, 105]) (wants_at _ hx) hA (isAt_row H _ hx _ hm ht) (fun k _ => atG_all ho k) (Hp.reckF 4 a.int b.int).1 (Hp.reckF 4 a.int b.int).2 _ _ rfl hK rfl (fun w1 => hreckon_any 4 a b w1 (Hp.may_num' hma (Hp.ok_num' ho2.1)) (Hp.may_num' hmb (Hp.ok_num' ho2.2)))).mono ?_
  rintro e w' ⟨rfl, hb⟩
  exact DoPost.read H rfl hb
set_option maxRecDepth 100000 in
theorem hdo_row5 (H : HSt w 83 h O T) (a b : Hp.V) (av : Value) (hv : VSl w av [a, b]) (hf : Hp.free O av) (hT : T.length ≤ 1000000) (hP : Hp.FewQ T) (hm : ∀ v ∈ ([a, b] : List Hp.V), Hp.may T.length v = true) (ht : ∀ v ∈ ([a, b] : List Hp.V), v.text.size ≤ maxLen) (ho : Hp.allOk T [a, b] [105, 105] = true) :
    Calls Try.prog 69 #[.pointer (some ⟨h, 0, none⟩), .string ⟨#[60]⟩, av] w (HQ h O T 5 [a, b] w) := by
  have hx := tab_at 5 ⟨⟨#[60]⟩, [105, 105], ⟨#[105, 105]⟩, -1, 0⟩ rfl
  have hma := hm a (by simp)
  have hmb := hm b (by simp)
  have ho2 := ho
  simp only [Hp.allOk, List.zip_cons_cons, List.zip_nil_right, List.zip_nil_left, List.all_cons, List.all_nil, Bool.and_true, Bool.and_eq_true] at ho2
  refine do_row_act H ⟨⟨#[60]⟩, [105, 105], ⟨#[105, 105]⟩, -1, 0⟩ hx ⟨rfl, rfl⟩ (op_ne (by decide +kernel)) av [a, b] hv rfl (by simp) hm ht ho _ _ _ ?_
  intro w1 hb _
  have hv1 := hv.below hb (Nat.le_refl _)
  have H1 := H.below hb (Nat.le_refl _)
  refine (act_lt h a b av w1 hv1).mono ?_
  rintro e w' ⟨rfl, hb2⟩
  exact DoPost.read H1 rfl hb2
set_option maxRecDepth 100000 in
theorem hdo_row6 (H : HSt w 83 h O T) (a b : Hp.V) (av : Value) (hv : VSl w av [a, b]) (hf : Hp.free O av) (hT : T.length ≤ 1000000) (hP : Hp.FewQ T) (hm : ∀ v ∈ ([a, b] : List Hp.V), Hp.may T.length v = true) (ht : ∀ v ∈ ([a, b] : List Hp.V), v.text.size ≤ maxLen) (ho : Hp.allOk T [a, b] [105, 105] = true) :
    Calls Try.prog 69 #[.pointer (some ⟨h, 0, none⟩), .string ⟨#[61]⟩, av] w (HQ h O T 6 [a, b] w) := by
  have hx := tab_at 6 ⟨⟨#[61]⟩, [105, 105], ⟨#[105, 105]⟩, -1, 0⟩ rfl
  have hma := hm a (by simp)
  have hmb := hm b (by simp)
  have ho2 := ho
  simp only [Hp.allOk, List.zip_cons_cons, List.zip_nil_right, List.zip_nil_left, List.all_cons, List.all_nil, Bool.and_true, Bool.and_eq_true] at ho2
  refine do_row_act H ⟨⟨#[61]⟩, [105, 105], ⟨#[105, 105]⟩, -1, 0⟩ hx ⟨rfl, rfl⟩ (op_ne (by decide +kernel)) av [a, b] hv rfl (by simp) hm ht ho _ _ _ ?_
  intro w1 hb _
  have hv1 := hv.below hb (Nat.le_refl _)
  have H1 := H.below hb (Nat.le_refl _)
  refine (act_eq h ⟨#[61]⟩ (by simp) a b av w1 hv1).mono ?_
  rintro e w' ⟨rfl, hb2⟩
  exact DoPost.read H1 rfl hb2
set_option maxRecDepth 100000 in
theorem hdo_row7 (H : HSt w 83 h O T) (a b : Hp.V) (av : Value) (hv : VSl w av [a, b]) (hf : Hp.free O av) (hT : T.length ≤ 1000000) (hP : Hp.FewQ T) (hm : ∀ v ∈ ([a, b] : List Hp.V), Hp.may T.length v = true) (ht : ∀ v ∈ ([a, b] : List Hp.V), v.text.size ≤ maxLen) (ho : Hp.allOk T [a, b] [46, 46] = true) :
    Calls Try.prog 69 #[.pointer (some ⟨h, 0, none⟩), .string ⟨#[101, 113, 63]⟩, av] w (HQ h O T 7 [a, b] w) := by
  have hx := tab_at 7 ⟨⟨#[101, 113, 63]⟩, [46, 46], ⟨#[46, 46]⟩, -1, 0⟩ rfl
  have hma := hm a (by simp)
  have hmb := hm b (by simp)
  have ho2 := ho
  simp only [Hp.allOk, List.zip_cons_cons, List.zip_nil_right, List.zip_nil_left, List.all_cons, List.all_nil, Bool.and_true, Bool.and_eq_true] at ho2
  refine do_row_act H ⟨⟨#[101, 113, 63]⟩, [46, 46], ⟨#[46, 46]⟩, -1, 0⟩ hx ⟨rfl, rfl⟩ (op_ne (by decide +kernel)) av [a, b] hv rfl (by simp) hm ht ho _ _ _ ?_
  intro w1 hb _
  have hv1 := hv.below hb (Nat.le_refl _)
  have H1 := H.below hb (Nat.le_refl _)
  refine (act_eq h ⟨#[101, 113, 63]⟩ (by simp) a b av w1 hv1).mono ?_
  rintro e w' ⟨rfl, hb2⟩
  exact DoPost.read H1 rfl hb2
set_option maxRecDepth 100000 in
theorem hdo_row8 (H : HSt w 83 h O T) (a : Hp.V) (av : Value) (hv : VSl w av [a]) (hf : Hp.free O av) (hT : T.length ≤ 1000000) (hP : Hp.FewQ T) (hm : ∀ v ∈ ([a] : List Hp.V), Hp.may T.length v = true) (ht : ∀ v ∈ ([a] : List Hp.V), v.text.size ≤ maxLen) (ho : Hp.allOk T [a] [46] = true) :
    Calls Try.prog 69 #[.pointer (some ⟨h, 0, none⟩), .string ⟨#[110, 117, 108, 108, 63]⟩, av] w (HQ h O T 8 [a] w) := by
  have hx := tab_at 8 ⟨⟨#[110, 117, 108, 108, 63]⟩, [46], ⟨#[46]⟩, 4, 0⟩ rfl
  have hma := hm a (by simp)
  have ho2 := ho
  simp only [Hp.allOk, List.zip_cons_cons, List.zip_nil_right, List.zip_nil_left, List.all_cons, List.all_nil, Bool.and_true, Bool.and_eq_true] at ho2
  have hA := all_st H hv (by simp) ht
  rw [List.all_eq_true.2 hm] at hA
  refine (do_ask0 h ⟨#[110, 117, 108, 108, 63]⟩ ⟨#[46]⟩ av [a] w hv rfl (by simp) (atG T _ [46]) (wants_at _ hx) hA (isAt_row H _ hx _ hm ht) (fun k _ => atG_all ho k) a rfl 4 (by decide) (fun w1 => asks_at _ hx w1)).mono ?_
  rintro e w' ⟨rfl, hb⟩
  exact DoPost.read H rfl hb
set_option maxRecDepth 100000 in
theorem hdo_row9 (H : HSt w 83 h O T) (a : Hp.V) (av : Value) (hv : VSl w av [a]) (hf : Hp.free O av) (hT : T.length ≤ 1000000) (hP : Hp.FewQ T) (hm : ∀ v ∈ ([a] : List Hp.V), Hp.may T.length v = true) (ht : ∀ v ∈ ([a] : List Hp.V), v.text.size ≤ maxLen) (ho : Hp.allOk T [a] [46] = true) :
    Calls Try.prog 69 #[.pointer (some ⟨h, 0, none⟩), .string ⟨#[115, 121, 109, 98, 111, 108, 63]⟩, av] w (HQ h O T 9 [a] w) := by
  have hx := tab_at 9 ⟨⟨#[115, 121, 109, 98, 111, 108, 63]⟩, [46], ⟨#[46]⟩, 3, 0⟩ rfl
  have hma := hm a (by simp)
  have ho2 := ho
  simp only [Hp.allOk, List.zip_cons_cons, List.zip_nil_right, List.zip_nil_left, List.all_cons, List.all_nil, Bool.and_true, Bool.and_eq_true] at ho2
  have hA := all_st H hv (by simp) ht
  rw [List.all_eq_true.2 hm] at hA
  refine (do_ask0 h ⟨#[115, 121, 109, 98, 111, 108, 63]⟩ ⟨#[46]⟩ av [a] w hv rfl (by simp) (atG T _ [46]) (wants_at _ hx) hA (isAt_row H _ hx _ hm ht) (fun k _ => atG_all ho k) a rfl 3 (by decide) (fun w1 => asks_at _ hx w1)).mono ?_
  rintro e w' ⟨rfl, hb⟩
  exact DoPost.read H rfl hb
set_option maxRecDepth 100000 in
theorem hdo_row10 (H : HSt w 83 h O T) (a : Hp.V) (av : Value) (hv : VSl w av [a]) (hf : Hp.free O av) (hT : T.length ≤ 1000000) (hP : Hp.FewQ T) (hm : ∀ v ∈ ([a] : List Hp.V), Hp.may T.length v = true) (ht : ∀ v ∈ ([a] : List Hp.V), v.text.size ≤ maxLen) (ho : Hp.allOk T [a] [46] = true) :
    Calls Try.prog 69 #[.pointer (some ⟨h, 0, none⟩), .string ⟨#[99, 104, 97, 114, 63]⟩, av] w (HQ h O T 10 [a] w) := by
  have hx := tab_at 10 ⟨⟨#[99, 104, 97, 114, 63]⟩, [46], ⟨#[46]⟩, 2, 0⟩ rfl
  have hma := hm a (by simp)
  have ho2 := ho
  simp only [Hp.allOk, List.zip_cons_cons, List.zip_nil_right, List.zip_nil_left, List.all_cons, List.all_nil, Bool.and_true, Bool.and_eq_true] at ho2
  have hA := all_st H hv (by simp) ht
  rw [List.all_eq_true.2 hm] at hA
  refine (do_ask0 h ⟨#[99, 104, 97, 114, 63]⟩ ⟨#[46]⟩ av [a] w hv rfl (by simp) (atG T _ [46]) (wants_at _ hx) hA (isAt_row H _ hx _ hm ht) (fun k _ => atG_all ho k) a rfl 2 (by decide) (fun w1 => asks_at _ hx w1)).mono ?_
  rintro e w' ⟨rfl, hb⟩
  exact DoPost.read H rfl hb
set_option maxRecDepth 100000 in
theorem hdo_row11 (H : HSt w 83 h O T) (a : Hp.V) (av : Value) (hv : VSl w av [a]) (hf : Hp.free O av) (hT : T.length ≤ 1000000) (hP : Hp.FewQ T) (hm : ∀ v ∈ ([a] : List Hp.V), Hp.may T.length v = true) (ht : ∀ v ∈ ([a] : List Hp.V), v.text.size ≤ maxLen) (ho : Hp.allOk T [a] [46] = true) :
    Calls Try.prog 69 #[.pointer (some ⟨h, 0, none⟩), .string ⟨#[105, 110, 116, 101, 103, 101, 114, 63]⟩, av] w (HQ h O T 11 [a] w) := by
  have hx := tab_at 11 ⟨⟨#[105, 110, 116, 101, 103, 101, 114, 63]⟩, [46], ⟨#[46]⟩, 1, 0⟩ rfl
  have hma := hm a (by simp)
  have ho2 := ho
  simp only [Hp.allOk, List.zip_cons_cons, List.zip_nil_right, List.zip_nil_left, List.all_cons, List.all_nil, Bool.and_true, Bool.and_eq_true] at ho2
  have hA := all_st H hv (by simp) ht
  rw [List.all_eq_true.2 hm] at hA
  refine (do_ask0 h ⟨#[105, 110, 116, 101, 103, 101, 114, 63]⟩ ⟨#[46]⟩ av [a] w hv rfl (by simp) (atG T _ [46]) (wants_at _ hx) hA (isAt_row H _ hx _ hm ht) (fun k _ => atG_all ho k) a rfl 1 (by decide) (fun w1 => asks_at _ hx w1)).mono ?_
  rintro e w' ⟨rfl, hb⟩
  exact DoPost.read H rfl hb
set_option maxRecDepth 100000 in
theorem hdo_row12 (H : HSt w 83 h O T) (a : Hp.V) (av : Value) (hv : VSl w av [a]) (hf : Hp.free O av) (hT : T.length ≤ 1000000) (hP : Hp.FewQ T) (hm : ∀ v ∈ ([a] : List Hp.V), Hp.may T.length v = true) (ht : ∀ v ∈ ([a] : List Hp.V), v.text.size ≤ maxLen) (ho : Hp.allOk T [a] [46] = true) :
    Calls Try.prog 69 #[.pointer (some ⟨h, 0, none⟩), .string ⟨#[98, 111, 111, 108, 101, 97, 110, 63]⟩, av] w (HQ h O T 12 [a] w) := by
  have hx := tab_at 12 ⟨⟨#[98, 111, 111, 108, 101, 97, 110, 63]⟩, [46], ⟨#[46]⟩, 0, 0⟩ rfl
  have hma := hm a (by simp)
  have ho2 := ho
  simp only [Hp.allOk, List.zip_cons_cons, List.zip_nil_right, List.zip_nil_left, List.all_cons, List.all_nil, Bool.and_true, Bool.and_eq_true] at ho2
  have hA := all_st H hv (by simp) ht
  rw [List.all_eq_true.2 hm] at hA
  refine (do_ask0 h ⟨#[98, 111, 111, 108, 101, 97, 110, 63]⟩ ⟨#[46]⟩ av [a] w hv rfl (by simp) (atG T _ [46]) (wants_at _ hx) hA (isAt_row H _ hx _ hm ht) (fun k _ => atG_all ho k) a rfl 0 (by decide) (fun w1 => asks_at _ hx w1)).mono ?_
  rintro e w' ⟨rfl, hb⟩
  exact DoPost.read H rfl hb
set_option maxRecDepth 100000 in
theorem hdo_row13 (H : HSt w 83 h O T) (a : Hp.V) (av : Value) (hv : VSl w av [a]) (hf : Hp.free O av) (hT : T.length ≤ 1000000) (hP : Hp.FewQ T) (hm : ∀ v ∈ ([a] : List Hp.V), Hp.may T.length v = true) (ht : ∀ v ∈ ([a] : List Hp.V), v.text.size ≤ maxLen) (ho : Hp.allOk T [a] [46] = true) :
    Calls Try.prog 69 #[.pointer (some ⟨h, 0, none⟩), .string ⟨#[101, 111, 102, 45, 111, 98, 106, 101, 99, 116, 63]⟩, av] w (HQ h O T 13 [a] w) := by
  have hx := tab_at 13 ⟨⟨#[101, 111, 102, 45, 111, 98, 106, 101, 99, 116, 63]⟩, [46], ⟨#[46]⟩, 6, 0⟩ rfl
  have hma := hm a (by simp)
  have ho2 := ho
  simp only [Hp.allOk, List.zip_cons_cons, List.zip_nil_right, List.zip_nil_left, List.all_cons, List.all_nil, Bool.and_true, Bool.and_eq_true] at ho2
  have hA := all_st H hv (by simp) ht
  rw [List.all_eq_true.2 hm] at hA
  refine (do_ask0 h ⟨#[101, 111, 102, 45, 111, 98, 106, 101, 99, 116, 63]⟩ ⟨#[46]⟩ av [a] w hv rfl (by simp) (atG T _ [46]) (wants_at _ hx) hA (isAt_row H _ hx _ hm ht) (fun k _ => atG_all ho k) a rfl 6 (by decide) (fun w1 => asks_at _ hx w1)).mono ?_
  rintro e w' ⟨rfl, hb⟩
  exact DoPost.read H rfl hb
set_option maxRecDepth 100000 in
theorem hdo_row14 (H : HSt w 83 h O T) (a : Hp.V) (av : Value) (hv : VSl w av [a]) (hf : Hp.free O av) (hT : T.length ≤ 1000000) (hP : Hp.FewQ T) (hm : ∀ v ∈ ([a] : List Hp.V), Hp.may T.length v = true) (ht : ∀ v ∈ ([a] : List Hp.V), v.text.size ≤ maxLen) (ho : Hp.allOk T [a] [46] = true) :
    Calls Try.prog 69 #[.pointer (some ⟨h, 0, none⟩), .string ⟨#[112, 97, 105, 114, 63]⟩, av] w (HQ h O T 14 [a] w) := by
  have hx := tab_at 14 ⟨⟨#[112, 97, 105, 114, 63]⟩, [46], ⟨#[46]⟩, 0, 112⟩ rfl
  have hma := hm a (by simp)
  have ho2 := ho
  simp only [Hp.allOk, List.zip_cons_cons, List.zip_nil_right, List.zip_nil_left, List.all_cons, List.all_nil, Bool.and_true, Bool.and_eq_true] at ho2
  have hA := all_st H hv (by simp) ht
  rw [List.all_eq_true.2 hm] at hA
  have hI : Makes w 79 #[.pointer (some ⟨h, 0, none⟩), a.val, .int .u8 112] (.bool (decide (Hp.kindOf T a = 0))) := by
    intro w1 hb
    exact is_any (H.below hb (Nat.le_refl _)) a hma (ht a (by simp)) 112 (by simp [Hp.letterOk])
  refine (do_ask1 h ⟨#[112, 97, 105, 114, 63]⟩ ⟨#[46]⟩ av [a] w hv rfl (by simp) (atG T _ [46]) (wants_at _ hx) hA (isAt_row H _ hx _ hm ht) (fun k _ => atG_all ho k) a rfl 0 (by decide) 112 (by simp) _ hI (fun w1 => asks_at _ hx w1)).mono ?_
  rintro e w' ⟨rfl, hb⟩
  exact DoPost.read H rfl hb
set_option maxRecDepth 100000 in
theorem hdo_row15 (H : HSt w 83 h O T) (a : Hp.V) (av : Value) (hv : VSl w av [a]) (hf : Hp.free O av) (hT : T.length ≤ 1000000) (hP : Hp.FewQ T) (hm : ∀ v ∈ ([a] : List Hp.V), Hp.may T.length v = true) (ht : ∀ v ∈ ([a] : List Hp.V), v.text.size ≤ maxLen) (ho : Hp.allOk T [a] [46] = true) :
    Calls Try.prog 69 #[.pointer (some ⟨h, 0, none⟩), .string ⟨#[118, 101, 99, 116, 111, 114, 63]⟩, av] w (HQ h O T 15 [a] w) := by
  have hx := tab_at 15 ⟨⟨#[118, 101, 99, 116, 111, 114, 63]⟩, [46], ⟨#[46]⟩, 0, 118⟩ rfl
  have hma := hm a (by simp)
  have ho2 := ho
  simp only [Hp.allOk, List.zip_cons_cons, List.zip_nil_right, List.zip_nil_left, List.all_cons, List.all_nil, Bool.and_true, Bool.and_eq_true] at ho2
  have hA := all_st H hv (by simp) ht
  rw [List.all_eq_true.2 hm] at hA
  have hI : Makes w 79 #[.pointer (some ⟨h, 0, none⟩), a.val, .int .u8 118] (.bool (decide (Hp.kindOf T a = 1))) := by
    intro w1 hb
    exact is_any (H.below hb (Nat.le_refl _)) a hma (ht a (by simp)) 118 (by simp [Hp.letterOk])
  refine (do_ask1 h ⟨#[118, 101, 99, 116, 111, 114, 63]⟩ ⟨#[46]⟩ av [a] w hv rfl (by simp) (atG T _ [46]) (wants_at _ hx) hA (isAt_row H _ hx _ hm ht) (fun k _ => atG_all ho k) a rfl 0 (by decide) 118 (by simp) _ hI (fun w1 => asks_at _ hx w1)).mono ?_
  rintro e w' ⟨rfl, hb⟩
  exact DoPost.read H rfl hb
set_option maxRecDepth 100000 in
theorem hdo_row16 (H : HSt w 83 h O T) (a : Hp.V) (av : Value) (hv : VSl w av [a]) (hf : Hp.free O av) (hT : T.length ≤ 1000000) (hP : Hp.FewQ T) (hm : ∀ v ∈ ([a] : List Hp.V), Hp.may T.length v = true) (ht : ∀ v ∈ ([a] : List Hp.V), v.text.size ≤ maxLen) (ho : Hp.allOk T [a] [46] = true) :
    Calls Try.prog 69 #[.pointer (some ⟨h, 0, none⟩), .string ⟨#[115, 116, 114, 105, 110, 103, 63]⟩, av] w (HQ h O T 16 [a] w) := by
  have hx := tab_at 16 ⟨⟨#[115, 116, 114, 105, 110, 103, 63]⟩, [46], ⟨#[46]⟩, 0, 115⟩ rfl
  have hma := hm a (by simp)
  have ho2 := ho
  simp only [Hp.allOk, List.zip_cons_cons, List.zip_nil_right, List.zip_nil_left, List.all_cons, List.all_nil, Bool.and_true, Bool.and_eq_true] at ho2
  have hA := all_st H hv (by simp) ht
  rw [List.all_eq_true.2 hm] at hA
  have hI : Makes w 79 #[.pointer (some ⟨h, 0, none⟩), a.val, .int .u8 115] (.bool (decide (Hp.kindOf T a = 2))) := by
    intro w1 hb
    exact is_any (H.below hb (Nat.le_refl _)) a hma (ht a (by simp)) 115 (by simp [Hp.letterOk])
  refine (do_ask1 h ⟨#[115, 116, 114, 105, 110, 103, 63]⟩ ⟨#[46]⟩ av [a] w hv rfl (by simp) (atG T _ [46]) (wants_at _ hx) hA (isAt_row H _ hx _ hm ht) (fun k _ => atG_all ho k) a rfl 0 (by decide) 115 (by simp) _ hI (fun w1 => asks_at _ hx w1)).mono ?_
  rintro e w' ⟨rfl, hb⟩
  exact DoPost.read H rfl hb
set_option maxRecDepth 100000 in
theorem hdo_row17 (H : HSt w 83 h O T) (a : Hp.V) (av : Value) (hv : VSl w av [a]) (hf : Hp.free O av) (hT : T.length ≤ 1000000) (hP : Hp.FewQ T) (hm : ∀ v ∈ ([a] : List Hp.V), Hp.may T.length v = true) (ht : ∀ v ∈ ([a] : List Hp.V), v.text.size ≤ maxLen) (ho : Hp.allOk T [a] [46] = true) :
    Calls Try.prog 69 #[.pointer (some ⟨h, 0, none⟩), .string ⟨#[112, 114, 111, 99, 101, 100, 117, 114, 101, 63]⟩, av] w (HQ h O T 17 [a] w) := by
  have hx := tab_at 17 ⟨⟨#[112, 114, 111, 99, 101, 100, 117, 114, 101, 63]⟩, [46], ⟨#[46]⟩, 0, 114⟩ rfl
  have hma := hm a (by simp)
  have ho2 := ho
  simp only [Hp.allOk, List.zip_cons_cons, List.zip_nil_right, List.zip_nil_left, List.all_cons, List.all_nil, Bool.and_true, Bool.and_eq_true] at ho2
  have hA := all_st H hv (by simp) ht
  rw [List.all_eq_true.2 hm] at hA
  have hI : Makes w 79 #[.pointer (some ⟨h, 0, none⟩), a.val, .int .u8 114] (.bool (decide (Hp.kindOf T a = 4))) := by
    intro w1 hb
    exact is_any (H.below hb (Nat.le_refl _)) a hma (ht a (by simp)) 114 (by simp [Hp.letterOk])
  refine (do_ask1 h ⟨#[112, 114, 111, 99, 101, 100, 117, 114, 101, 63]⟩ ⟨#[46]⟩ av [a] w hv rfl (by simp) (atG T _ [46]) (wants_at _ hx) hA (isAt_row H _ hx _ hm ht) (fun k _ => atG_all ho k) a rfl 0 (by decide) 114 (by simp) _ hI (fun w1 => asks_at _ hx w1)).mono ?_
  rintro e w' ⟨rfl, hb⟩
  exact DoPost.read H rfl hb
set_option maxRecDepth 100000 in
theorem hdo_row18 (H : HSt w 83 h O T) (a b : Hp.V) (av : Value) (hv : VSl w av [a, b]) (hf : Hp.free O av) (hT : T.length ≤ 1000000) (hP : Hp.FewQ T) (hm : ∀ v ∈ ([a, b] : List Hp.V), Hp.may T.length v = true) (ht : ∀ v ∈ ([a, b] : List Hp.V), v.text.size ≤ maxLen) (ho : Hp.allOk T [a, b] [46, 46] = true) :
    Calls Try.prog 69 #[.pointer (some ⟨h, 0, none⟩), .string ⟨#[99, 111, 110, 115]⟩, av] w (HQ h O T 18 [a, b] w) := by
  have hx := tab_at 18 ⟨⟨#[99, 111, 110, 115]⟩, [46, 46], ⟨#[46, 46]⟩, -1, 0⟩ rfl
  have hma := hm a (by simp)
  have hmb := hm b (by simp)
  have ho2 := ho
  simp only [Hp.allOk, List.zip_cons_cons, List.zip_nil_right, List.zip_nil_left, List.all_cons, List.all_nil, Bool.and_true, Bool.and_eq_true] at ho2
  refine do_row_act H ⟨⟨#[99, 111, 110, 115]⟩, [46, 46], ⟨#[46, 46]⟩, -1, 0⟩ hx ⟨rfl, rfl⟩ (op_ne (by decide +kernel)) av [a, b] hv rfl (by simp) hm ht ho _ _ _ ?_
  intro w1 hb _
  have hv1 := hv.below hb (Nat.le_refl _)
  have H1 := H.below hb (Nat.le_refl _)
  exact act_cons h O T a b av w1 hv1 H1 hf hT
set_option maxRecDepth 100000 in
theorem hdo_row19 (H : HSt w 83 h O T) (a : Hp.V) (av : Value) (hv : VSl w av [a]) (hf : Hp.free O av) (hT : T.length ≤ 1000000) (hP : Hp.FewQ T) (hm : ∀ v ∈ ([a] : List Hp.V), Hp.may T.length v = true) (ht : ∀ v ∈ ([a] : List Hp.V), v.text.size ≤ maxLen) (ho : Hp.allOk T [a] [112] = true) :
    Calls Try.prog 69 #[.pointer (some ⟨h, 0, none⟩), .string ⟨#[99, 97, 114]⟩, av] w (HQ h O T 19 [a] w) := by
  have hx := tab_at 19 ⟨⟨#[99, 97, 114]⟩, [112], ⟨#[112]⟩, -1, 0⟩ rfl
  have hma := hm a (by simp)
  have ho2 := ho
  simp only [Hp.allOk, List.zip_cons_cons, List.zip_nil_right, List.zip_nil_left, List.all_cons, List.all_nil, Bool.and_true, Bool.and_eq_true] at ho2
  refine do_row_act H ⟨⟨#[99, 97, 114]⟩, [112], ⟨#[112]⟩, -1, 0⟩ hx ⟨rfl, rfl⟩ (op_ne (by decide +kernel)) av [a] hv rfl (by simp) hm ht ho _ _ _ ?_
  intro w1 hb _
  have hv1 := hv.below hb (Nat.le_refl _)
  have H1 := H.below hb (Nat.le_refl _)
  refine act_get0 h O (Hp.getF T a 0).2.2 (Hp.getF T a 0).1 (Hp.getF T a 0).2.1 ⟨#[99, 97, 114]⟩ (by simp) a av w1 hv1 H1.lt hf ?_
  intro w2 hb2 _
  exact hget_any (H1.below hb2 (Nat.le_refl _)) a hma (Hp.ok_thing' (by simp) ho2) (hP.of a) _ 0 _
set_option maxRecDepth 100000 in
theorem hdo_row20 (H : HSt w 83 h O T) (a : Hp.V) (av : Value) (hv : VSl w av [a]) (hf : Hp.free O av) (hT : T.length ≤ 1000000) (hP : Hp.FewQ T) (hm : ∀ v ∈ ([a] : List Hp.V), Hp.may T.length v = true) (ht : ∀ v ∈ ([a] : List Hp.V), v.text.size ≤ maxLen) (ho : Hp.allOk T [a] [112] = true) :
    Calls Try.prog 69 #[.pointer (some ⟨h, 0, none⟩), .string ⟨#[99, 100, 114]⟩, av] w (HQ h O T 20 [a] w) := by
  have hx := tab_at 20 ⟨⟨#[99, 100, 114]⟩, [112], ⟨#[112]⟩, -1, 0⟩ rfl
  have hma := hm a (by simp)
  have ho2 := ho
  simp only [Hp.allOk, List.zip_cons_cons, List.zip_nil_right, List.zip_nil_left, List.all_cons, List.all_nil, Bool.and_true, Bool.and_eq_true] at ho2
  refine do_row_act H ⟨⟨#[99, 100, 114]⟩, [112], ⟨#[112]⟩, -1, 0⟩ hx ⟨rfl, rfl⟩ (op_ne (by decide +kernel)) av [a] hv rfl (by simp) hm ht ho _ _ _ ?_
  intro w1 hb _
  have hv1 := hv.below hb (Nat.le_refl _)
  have H1 := H.below hb (Nat.le_refl _)
  refine act_get1 h O (Hp.getF T a 1).2.2 (Hp.getF T a 1).1 (Hp.getF T a 1).2.1 ⟨#[99, 100, 114]⟩ (by simp) a av w1 hv1 H1.lt hf ?_
  intro w2 hb2 _
  exact hget_any (H1.below hb2 (Nat.le_refl _)) a hma (Hp.ok_thing' (by simp) ho2) (hP.of a) _ 1 _
set_option maxRecDepth 100000 in
theorem hdo_row21 (H : HSt w 83 h O T) (a b : Hp.V) (av : Value) (hv : VSl w av [a, b]) (hf : Hp.free O av) (hT : T.length ≤ 1000000) (hP : Hp.FewQ T) (hm : ∀ v ∈ ([a, b] : List Hp.V), Hp.may T.length v = true) (ht : ∀ v ∈ ([a, b] : List Hp.V), v.text.size ≤ maxLen) (ho : Hp.allOk T [a, b] [112, 46] = true) :
    Calls Try.prog 69 #[.pointer (some ⟨h, 0, none⟩), .string ⟨#[115, 101, 116, 45, 99, 97, 114, 33]⟩, av] w (HQ h O T 21 [a, b] w) := by
  have hx := tab_at 21 ⟨⟨#[115, 101, 116, 45, 99, 97, 114, 33]⟩, [112, 46], ⟨#[112, 46]⟩, -1, 0⟩ rfl
  have hma := hm a (by simp)
  have hmb := hm b (by simp)
  have ho2 := ho
  simp only [Hp.allOk, List.zip_cons_cons, List.zip_nil_right, List.zip_nil_left, List.all_cons, List.all_nil, Bool.and_true, Bool.and_eq_true] at ho2
  refine do_row_act H ⟨⟨#[115, 101, 116, 45, 99, 97, 114, 33]⟩, [112, 46], ⟨#[112, 46]⟩, -1, 0⟩ hx ⟨rfl, rfl⟩ (op_ne (by decide +kernel)) av [a, b] hv rfl (by simp) hm ht ho _ _ _ ?_
  intro w1 hb _
  have hv1 := hv.below hb (Nat.le_refl _)
  have H1 := H.below hb (Nat.le_refl _)
  refine act_put0 h O (Hp.putF T a 0 b).2.2 (Hp.putF T a 0 b).1 (Hp.putF T a 0 b).2.1 ⟨#[115, 101, 116, 45, 99, 97, 114, 33]⟩ (by simp) a b av w1 hv1 H1.lt hf ?_
  intro w2 hb2 _
  exact hput_any (H1.below hb2 (Nat.le_refl _)) a b hma (Hp.ok_thing' (by simp) ho2.1) (hP.of a) _ 0 _
set_option maxRecDepth 100000 in
theorem hdo_row22 (H : HSt w 83 h O T) (a b : Hp.V) (av : Value) (hv : VSl w av [a, b]) (hf : Hp.free O av) (hT : T.length ≤ 1000000) (hP : Hp.FewQ T) (hm : ∀ v ∈ ([a, b] : List Hp.V), Hp.may T.length v = true) (ht : ∀ v ∈ ([a, b] : List Hp.V), v.text.size ≤ maxLen) (ho : Hp.allOk T [a, b] [112, 46] = true) :
    Calls Try.prog 69 #[.pointer (some ⟨h, 0, none⟩), .string ⟨#[115, 101, 116, 45, 99, 100, 114, 33]⟩, av] w (HQ h O T 22 [a, b] w) := by
  have hx := tab_at 22 ⟨⟨#[115, 101, 116, 45, 99, 100, 114, 33]⟩, [112, 46], ⟨#[112, 46]⟩, -1, 0⟩ rfl
  have hma := hm a (by simp)
  have hmb := hm b (by simp)
  have ho2 := ho
  simp only [Hp.allOk, List.zip_cons_cons, List.zip_nil_right, List.zip_nil_left, List.all_cons, List.all_nil, Bool.and_true, Bool.and_eq_true] at ho2
  refine do_row_act H ⟨⟨#[115, 101, 116, 45, 99, 100, 114, 33]⟩, [112, 46], ⟨#[112, 46]⟩, -1, 0⟩ hx ⟨rfl, rfl⟩ (op_ne (by decide +kernel)) av [a, b] hv rfl (by simp) hm ht ho _ _ _ ?_
  intro w1 hb _
  have hv1 := hv.below hb (Nat.le_refl _)
  have H1 := H.below hb (Nat.le_refl _)
  refine act_put1 h O (Hp.putF T a 1 b).2.2 (Hp.putF T a 1 b).1 (Hp.putF T a 1 b).2.1 ⟨#[115, 101, 116, 45, 99, 100, 114, 33]⟩ (by simp) a b av w1 hv1 H1.lt hf ?_
  intro w2 hb2 _
  exact hput_any (H1.below hb2 (Nat.le_refl _)) a b hma (Hp.ok_thing' (by simp) ho2.1) (hP.of a) _ 1 _
set_option maxRecDepth 100000 in
theorem hdo_row23 (H : HSt w 83 h O T) (a b : Hp.V) (av : Value) (hv : VSl w av [a, b]) (hf : Hp.free O av) (hT : T.length ≤ 1000000) (hP : Hp.FewQ T) (hm : ∀ v ∈ ([a, b] : List Hp.V), Hp.may T.length v = true) (ht : ∀ v ∈ ([a, b] : List Hp.V), v.text.size ≤ maxLen) (ho : Hp.allOk T [a, b] [105, 46] = true) :
    Calls Try.prog 69 #[.pointer (some ⟨h, 0, none⟩), .string ⟨#[109, 97, 107, 101, 45, 118, 101, 99, 116, 111, 114]⟩, av] w (HQ h O T 23 [a, b] w) := by
  have hx := tab_at 23 ⟨⟨#[109, 97, 107, 101, 45, 118, 101, 99, 116, 111, 114]⟩, [105, 46], ⟨#[105, 46]⟩, -1, 0⟩ rfl
  have hma := hm a (by simp)
  have hmb := hm b (by simp)
  have ho2 := ho
  simp only [Hp.allOk, List.zip_cons_cons, List.zip_nil_right, List.zip_nil_left, List.all_cons, List.all_nil, Bool.and_true, Bool.and_eq_true] at ho2
  refine do_row_act H ⟨⟨#[109, 97, 107, 101, 45, 118, 101, 99, 116, 111, 114]⟩, [105, 46], ⟨#[105, 46]⟩, -1, 0⟩ hx ⟨rfl, rfl⟩ (op_ne (by decide +kernel)) av [a, b] hv rfl (by simp) hm ht ho _ _ _ ?_
  intro w1 hb _
  have hv1 := hv.below hb (Nat.le_refl _)
  have H1 := H.below hb (Nat.le_refl _)
  refine act_makev h O (Hp.fillF T 1 a.int b).2.2 (Hp.fillF T 1 a.int b).1 (Hp.fillF T 1 a.int b).2.1 ⟨#[109, 97, 107, 101, 45, 118, 101, 99, 116, 111, 114]⟩ rfl a b av w1 hv1 H1.lt hf ?_
  intro w2 hb2 _
  exact hfilled_any (H1.below hb2 (Nat.le_refl _)) hT 1 a.int b
set_option maxRecDepth 100000 in
theorem hdo_row24 (H : HSt w 83 h O T) (a b : Hp.V) (av : Value) (hv : VSl w av [a, b]) (hf : Hp.free O av) (hT : T.length ≤ 1000000) (hP : Hp.FewQ T) (hm : ∀ v ∈ ([a, b] : List Hp.V), Hp.may T.length v = true) (ht : ∀ v ∈ ([a, b] : List Hp.V), v.text.size ≤ maxLen) (ho : Hp.allOk T [a, b] [105, 99] = true) :
    Calls Try.prog 69 #[.pointer (some ⟨h, 0, none⟩), .string ⟨#[109, 97, 107, 101, 45, 115, 116, 114, 105, 110, 103]⟩, av] w (HQ h O T 24 [a, b] w) := by
  have hx := tab_at 24 ⟨⟨#[109, 97, 107, 101, 45, 115, 116, 114, 105, 110, 103]⟩, [105, 99], ⟨#[105, 99]⟩, -1, 0⟩ rfl
  have hma := hm a (by simp)
  have hmb := hm b (by simp)
  have ho2 := ho
  simp only [Hp.allOk, List.zip_cons_cons, List.zip_nil_right, List.zip_nil_left, List.all_cons, List.all_nil, Bool.and_true, Bool.and_eq_true] at ho2
  refine do_row_act H ⟨⟨#[109, 97, 107, 101, 45, 115, 116, 114, 105, 110, 103]⟩, [105, 99], ⟨#[105, 99]⟩, -1, 0⟩ hx ⟨rfl, rfl⟩ (op_ne (by decide +kernel)) av [a, b] hv rfl (by simp) hm ht ho _ _ _ ?_
  intro w1 hb _
  have hv1 := hv.below hb (Nat.le_refl _)
  have H1 := H.below hb (Nat.le_refl _)
  refine act_makes h O (Hp.fillF T 2 a.int b).2.2 (Hp.fillF T 2 a.int b).1 (Hp.fillF T 2 a.int b).2.1 ⟨#[109, 97, 107, 101, 45, 115, 116, 114, 105, 110, 103]⟩ rfl a b av w1 hv1 H1.lt hf ?_
  intro w2 hb2 _
  exact hfilled_any (H1.below hb2 (Nat.le_refl _)) hT 2 a.int b
set_option maxRecDepth 100000 in
theorem hdo_row25 (H : HSt w 83 h O T) (a : Hp.V) (av : Value) (hv : VSl w av [a]) (hf : Hp.free O av) (hT : T.length ≤ 1000000) (hP : Hp.FewQ T) (hm : ∀ v ∈ ([a] : List Hp.V), Hp.may T.length v = true) (ht : ∀ v ∈ ([a] : List Hp.V), v.text.size ≤ maxLen) (ho : Hp.allOk T [a] [118] = true) :
    Calls Try.prog 69 #[.pointer (some ⟨h, 0, none⟩), .string ⟨#[118, 101, 99, 116, 111, 114, 45, 108, 101, 110, 103, 116, 104]⟩, av] w (HQ h O T 25 [a] w) := by
  have hx := tab_at 25 ⟨⟨#[118, 101, 99, 116, 111, 114, 45, 108, 101, 110, 103, 116, 104]⟩, [118], ⟨#[118]⟩, -1, 0⟩ rfl
  have hma := hm a (by simp)
  have ho2 := ho
  simp only [Hp.allOk, List.zip_cons_cons, List.zip_nil_right, List.zip_nil_left, List.all_cons, List.all_nil, Bool.and_true, Bool.and_eq_true] at ho2
  refine do_row_act H ⟨⟨#[118, 101, 99, 116, 111, 114, 45, 108, 101, 110, 103, 116, 104]⟩, [118], ⟨#[118]⟩, -1, 0⟩ hx ⟨rfl, rfl⟩ (op_ne (by decide +kernel)) av [a] hv rfl (by simp) hm ht ho _ _ _ ?_
  intro w1 hb _
  have hv1 := hv.below hb (Nat.le_refl _)
  have H1 := H.below hb (Nat.le_refl _)
  obtain ⟨k, vt, M, m, rfl, HA, e, hmm, hp, hk⟩ := H1.thing' hma (Hp.ok_thing' (by simp) ho2)
  have hpl := hP.of ⟨8, k, ⟨#[]⟩⟩
  rw [hp] at hpl
  refine (act_len h ⟨#[118, 101, 99, 116, 111, 114, 45, 108, 101, 110, 103, 116, 104]⟩ (by simp) av w1 hv1 HA hmm hpl).mono ?_
  rintro e w' ⟨rfl, hb2⟩
  show DoPost 83 h O (Hp.num (((Hp.partsOf T ⟨8, k, ⟨#[]⟩⟩).length : Nat) : Int)) 0 T w1 _ _
  rw [hp]
  exact DoPost.read H1 rfl hb2
set_option maxRecDepth 100000 in
theorem hdo_row26 (H : HSt w 83 h O T) (a : Hp.V) (av : Value) (hv : VSl w av [a]) (hf : Hp.free O av) (hT : T.length ≤ 1000000) (hP : Hp.FewQ T) (hm : ∀ v ∈ ([a] : List Hp.V), Hp.may T.length v = true) (ht : ∀ v ∈ ([a] : List Hp.V), v.text.size ≤ maxLen) (ho : Hp.allOk T [a] [115] = true) :
    Calls Try.prog 69 #[.pointer (some ⟨h, 0, none⟩), .string ⟨#[115, 116, 114, 105, 110, 103, 45, 108, 101, 110, 103, 116, 104]⟩, av] w (HQ h O T 26 [a] w) := by
  have hx := tab_at 26 ⟨⟨#[115, 116, 114, 105, 110, 103, 45, 108, 101, 110, 103, 116, 104]⟩, [115], ⟨#[115]⟩, -1, 0⟩ rfl
  have hma := hm a (by simp)
  have ho2 := ho
  simp only [Hp.allOk, List.zip_cons_cons, List.zip_nil_right, List.zip_nil_left, List.all_cons, List.all_nil, Bool.and_true, Bool.and_eq_true] at ho2
  refine do_row_act H ⟨⟨#[115, 116, 114, 105, 110, 103, 45, 108, 101, 110, 103, 116, 104]⟩, [115], ⟨#[115]⟩, -1, 0⟩ hx ⟨rfl, rfl⟩ (op_ne (by decide +kernel)) av [a] hv rfl (by simp) hm ht ho _ _ _ ?_
  intro w1 hb _
  have hv1 := hv.below hb (Nat.le_refl _)
  have H1 := H.below hb (Nat.le_refl _)
  obtain ⟨k, vt, M, m, rfl, HA, e, hmm, hp, hk⟩ := H1.thing' hma (Hp.ok_thing' (by simp) ho2)
  have hpl := hP.of ⟨8, k, ⟨#[]⟩⟩
  rw [hp] at hpl
  refine (act_len h ⟨#[115, 116, 114, 105, 110, 103, 45, 108, 101, 110, 103, 116, 104]⟩ (by simp) av w1 hv1 HA hmm hpl).mono ?_
  rintro e w' ⟨rfl, hb2⟩
  show DoPost 83 h O (Hp.num (((Hp.partsOf T ⟨8, k, ⟨#[]⟩⟩).length : Nat) : Int)) 0 T w1 _ _
  rw [hp]
  exact DoPost.read H1 rfl hb2
set_option maxRecDepth 100000 in
theorem hdo_row27 (H : HSt w 83 h O T) (a b : Hp.V) (av : Value) (hv : VSl w av [a, b]) (hf : Hp.free O av) (hT : T.length ≤ 1000000) (hP : Hp.FewQ T) (hm : ∀ v ∈ ([a, b] : List Hp.V), Hp.may T.length v = true) (ht : ∀ v ∈ ([a, b] : List Hp.V), v.text.size ≤ maxLen) (ho : Hp.allOk T [a, b] [118, 105] = true) :
    Calls Try.prog 69 #[.pointer (some ⟨h, 0, none⟩), .string ⟨#[118, 101, 99, 116, 111, 114, 45, 114, 101, 102]⟩, av] w (HQ h O T 27 [a, b] w) := by
  have hx := tab_at 27 ⟨⟨#[118, 101, 99, 116, 111, 114, 45, 114, 101, 102]⟩, [118, 105], ⟨#[118, 105]⟩, -1, 0⟩ rfl
  have hma := hm a (by simp)
  have hmb := hm b (by simp)
  have ho2 := ho
  simp only [Hp.allOk, List.zip_cons_cons, List.zip_nil_right, List.zip_nil_left, List.all_cons, List.all_nil, Bool.and_true, Bool.and_eq_true] at ho2
  refine do_row_act H ⟨⟨#[118, 101, 99, 116, 111, 114, 45, 114, 101, 102]⟩, [118, 105], ⟨#[118, 105]⟩, -1, 0⟩ hx ⟨rfl, rfl⟩ (op_ne (by decide +kernel)) av [a, b] hv rfl (by simp) hm ht ho _ _ _ ?_
  intro w1 hb _
  have hv1 := hv.below hb (Nat.le_refl _)
  have H1 := H.below hb (Nat.le_refl _)
  refine act_ref h O (Hp.getF T a b.int).2.2 (Hp.getF T a b.int).1 (Hp.getF T a b.int).2.1 ⟨#[118, 101, 99, 116, 111, 114, 45, 114, 101, 102]⟩ (by simp) a b av w1 hv1 H1.lt hf ?_
  intro w2 hb2 _
  exact hget_any (H1.below hb2 (Nat.le_refl _)) a hma (Hp.ok_thing' (by simp) ho2.1) (hP.of a) _ b.int _
set_option maxRecDepth 100000 in
theorem hdo_row28 (H : HSt w 83 h O T) (a b : Hp.V) (av : Value) (hv : VSl w av [a, b]) (hf : Hp.free O av) (hT : T.length ≤ 1000000) (hP : Hp.FewQ T) (hm : ∀ v ∈ ([a, b] : List Hp.V), Hp.may T.length v = true) (ht : ∀ v ∈ ([a, b] : List Hp.V), v.text.size ≤ maxLen) (ho : Hp.allOk T [a, b] [115, 105] = true) :
    Calls Try.prog 69 #[.pointer (some ⟨h, 0, none⟩), .string ⟨#[115, 116, 114, 105, 110, 103, 45, 114, 101, 102]⟩, av] w (HQ h O T 28 [a, b] w) := by
  have hx := tab_at 28 ⟨⟨#[115, 116, 114, 105, 110, 103, 45, 114, 101, 102]⟩, [115, 105], ⟨#[115, 105]⟩, -1, 0⟩ rfl
  have hma := hm a (by simp)
  have hmb := hm b (by simp)
  have ho2 := ho
  simp only [Hp.allOk, List.zip_cons_cons, List.zip_nil_right, List.zip_nil_left, List.all_cons, List.all_nil, Bool.and_true, Bool.and_eq_true] at ho2
  refine do_row_act H ⟨⟨#[115, 116, 114, 105, 110, 103, 45, 114, 101, 102]⟩, [115, 105], ⟨#[115, 105]⟩, -1, 0⟩ hx ⟨rfl, rfl⟩ (op_ne (by decide +kernel)) av [a, b] hv rfl (by simp) hm ht ho _ _ _ ?_
  intro w1 hb _
  have hv1 := hv.below hb (Nat.le_refl _)
  have H1 := H.below hb (Nat.le_refl _)
  refine act_ref h O (Hp.getF T a b.int).2.2 (Hp.getF T a b.int).1 (Hp.getF T a b.int).2.1 ⟨#[115, 116, 114, 105, 110, 103, 45, 114, 101, 102]⟩ (by simp) a b av w1 hv1 H1.lt hf ?_
  intro w2 hb2 _
  exact hget_any (H1.below hb2 (Nat.le_refl _)) a hma (Hp.ok_thing' (by simp) ho2.1) (hP.of a) _ b.int _
set_option maxRecDepth 100000 in
theorem hdo_row29 (H : HSt w 83 h O T) (a b c : Hp.V) (av : Value) (hv : VSl w av [a, b, c]) (hf : Hp.free O av) (hT : T.length ≤ 1000000) (hP : Hp.FewQ T) (hm : ∀ v ∈ ([a, b, c] : List Hp.V), Hp.may T.length v = true) (ht : ∀ v ∈ ([a, b, c] : List Hp.V), v.text.size ≤ maxLen) (ho : Hp.allOk T [a, b, c] [118, 105, 46] = true) :
    Calls Try.prog 69 #[.pointer (some ⟨h, 0, none⟩), .string ⟨#[118, 101, 99, 116, 111, 114, 45, 115, 101, 116, 33]⟩, av] w (HQ h O T 29 [a, b, c] w) := by
  have hx := tab_at 29 ⟨⟨#[118, 101, 99, 116, 111, 114, 45, 115, 101, 116, 33]⟩, [118, 105, 46], ⟨#[118, 105, 46]⟩, -1, 0⟩ rfl
  have hma := hm a (by simp)
  have hmb := hm b (by simp)
  have ho2 := ho
  simp only [Hp.allOk, List.zip_cons_cons, List.zip_nil_right, List.zip_nil_left, List.all_cons, List.all_nil, Bool.and_true, Bool.and_eq_true] at ho2
  refine do_row_act H ⟨⟨#[118, 101, 99, 116, 111, 114, 45, 115, 101, 116, 33]⟩, [118, 105, 46], ⟨#[118, 105, 46]⟩, -1, 0⟩ hx ⟨rfl, rfl⟩ (op_ne (by decide +kernel)) av [a, b, c] hv rfl (by simp) hm ht ho _ _ _ ?_
  intro w1 hb _
  have hv1 := hv.below hb (Nat.le_refl _)
  have H1 := H.below hb (Nat.le_refl _)
  refine act_put h O (Hp.putF T a b.int c).2.2 (Hp.putF T a b.int c).1 (Hp.putF T a b.int c).2.1 ⟨#[118, 101, 99, 116, 111, 114, 45, 115, 101, 116, 33]⟩ (by simp) a b c av w1 hv1 H1.lt hf ?_
  intro w2 hb2 _
  exact hput_any (H1.below hb2 (Nat.le_refl _)) a c hma (Hp.ok_thing' (by simp) ho2.1) (hP.of a) _ b.int _
set_option maxRecDepth 100000 in
theorem hdo_row30 (H : HSt w 83 h O T) (a b c : Hp.V) (av : Value) (hv : VSl w av [a, b, c]) (hf : Hp.free O av) (hT : T.length ≤ 1000000) (hP : Hp.FewQ T) (hm : ∀ v ∈ ([a, b, c] : List Hp.V), Hp.may T.length v = true) (ht : ∀ v ∈ ([a, b, c] : List Hp.V), v.text.size ≤ maxLen) (ho : Hp.allOk T [a, b, c] [115, 105, 99] = true) :
    Calls Try.prog 69 #[.pointer (some ⟨h, 0, none⟩), .string ⟨#[115, 116, 114, 105, 110, 103, 45, 115, 101, 116, 33]⟩, av] w (HQ h O T 30 [a, b, c] w) := by
  have hx := tab_at 30 ⟨⟨#[115, 116, 114, 105, 110, 103, 45, 115, 101, 116, 33]⟩, [115, 105, 99], ⟨#[115, 105, 99]⟩, -1, 0⟩ rfl
  have hma := hm a (by simp)
  have hmb := hm b (by simp)
  have ho2 := ho
  simp only [Hp.allOk, List.zip_cons_cons, List.zip_nil_right, List.zip_nil_left, List.all_cons, List.all_nil, Bool.and_true, Bool.and_eq_true] at ho2
  refine do_row_act H ⟨⟨#[115, 116, 114, 105, 110, 103, 45, 115, 101, 116, 33]⟩, [115, 105, 99], ⟨#[115, 105, 99]⟩, -1, 0⟩ hx ⟨rfl, rfl⟩ (op_ne (by decide +kernel)) av [a, b, c] hv rfl (by simp) hm ht ho _ _ _ ?_
  intro w1 hb _
  have hv1 := hv.below hb (Nat.le_refl _)
  have H1 := H.below hb (Nat.le_refl _)
  refine act_put h O (Hp.putF T a b.int c).2.2 (Hp.putF T a b.int c).1 (Hp.putF T a b.int c).2.1 ⟨#[115, 116, 114, 105, 110, 103, 45, 115, 101, 116, 33]⟩ (by simp) a b c av w1 hv1 H1.lt hf ?_
  intro w2 hb2 _
  exact hput_any (H1.below hb2 (Nat.le_refl _)) a c hma (Hp.ok_thing' (by simp) ho2.1) (hP.of a) _ b.int _
set_option maxRecDepth 100000 in
theorem hdo_row31 (H : HSt w 83 h O T) (a : Hp.V) (av : Value) (hv : VSl w av [a]) (hf : Hp.free O av) (hT : T.length ≤ 1000000) (hP : Hp.FewQ T) (hm : ∀ v ∈ ([a] : List Hp.V), Hp.may T.length v = true) (ht : ∀ v ∈ ([a] : List Hp.V), v.text.size ≤ maxLen) (ho : Hp.allOk T [a] [99] = true) :
    Calls Try.prog 69 #[.pointer (some ⟨h, 0, none⟩), .string ⟨#[99, 104, 97, 114, 45, 62, 105, 110, 116, 101, 103, 101, 114]⟩, av] w (HQ h O T 31 [a] w) := by
  have hx := tab_at 31 ⟨⟨#[99, 104, 97, 114, 45, 62, 105, 110, 116, 101, 103, 101, 114]⟩, [99], ⟨#[99]⟩, -1, 0⟩ rfl
  have hma := hm a (by simp)
  have ho2 := ho
  simp only [Hp.allOk, List.zip_cons_cons, List.zip_nil_right, List.zip_nil_left, List.all_cons, List.all_nil, Bool.and_true, Bool.and_eq_true] at ho2
  refine do_row_act H ⟨⟨#[99, 104, 97, 114, 45, 62, 105, 110, 116, 101, 103, 101, 114]⟩, [99], ⟨#[99]⟩, -1, 0⟩ hx ⟨rfl, rfl⟩ (op_ne (by decide +kernel)) av [a] hv rfl (by simp) hm ht ho _ _ _ ?_
  intro w1 hb _
  have hv1 := hv.below hb (Nat.le_refl _)
  have H1 := H.below hb (Nat.le_refl _)
  refine (act_ci h a av w1 hv1).mono ?_
  rintro e w' ⟨rfl, hb2⟩
  exact DoPost.read H1 rfl hb2
set_option maxRecDepth 100000 in
theorem hdo_row32 (H : HSt w 83 h O T) (a : Hp.V) (av : Value) (hv : VSl w av [a]) (hf : Hp.free O av) (hT : T.length ≤ 1000000) (hP : Hp.FewQ T) (hm : ∀ v ∈ ([a] : List Hp.V), Hp.may T.length v = true) (ht : ∀ v ∈ ([a] : List Hp.V), v.text.size ≤ maxLen) (ho : Hp.allOk T [a] [105] = true) :
    Calls Try.prog 69 #[.pointer (some ⟨h, 0, none⟩), .string ⟨#[105, 110, 116, 101, 103, 101, 114, 45, 62, 99, 104, 97, 114]⟩, av] w (HQ h O T 32 [a] w) := by
  have hx := tab_at 32 ⟨⟨#[105, 110, 116, 101, 103, 101, 114, 45, 62, 99, 104, 97, 114]⟩, [105], ⟨#[105]⟩, -1, 0⟩ rfl
  have hma := hm a (by simp)
  have ho2 := ho
  simp only [Hp.allOk, List.zip_cons_cons, List.zip_nil_right, List.zip_nil_left, List.all_cons, List.all_nil, Bool.and_true, Bool.and_eq_true] at ho2
  refine do_row_act H ⟨⟨#[105, 110, 116, 101, 103, 101, 114, 45, 62, 99, 104, 97, 114]⟩, [105], ⟨#[105]⟩, -1, 0⟩ hx ⟨rfl, rfl⟩ (op_ne (by decide +kernel)) av [a] hv rfl (by simp) hm ht ho _ _ _ ?_
  intro w1 hb _
  have hv1 := hv.below hb (Nat.le_refl _)
  have H1 := H.below hb (Nat.le_refl _)
  refine (act_ic h a av w1 hv1 (Hp.may_num' hma (Hp.ok_num' ho2))).mono ?_
  rintro e w' ⟨rfl, hb2⟩
  show DoPost 83 h O (if a.int < 0 ∨ 255 < a.int then (Hp.none, 83, T) else Hp.sayF T ⟨2, a.int, ⟨#[]⟩⟩ : Hp.V × Int × List Hp.Th).1 (if a.int < 0 ∨ 255 < a.int then (Hp.none, 83, T) else Hp.sayF T ⟨2, a.int, ⟨#[]⟩⟩ : Hp.V × Int × List Hp.Th).2.1 (if a.int < 0 ∨ 255 < a.int then (Hp.none, 83, T) else Hp.sayF T ⟨2, a.int, ⟨#[]⟩⟩ : Hp.V × Int × List Hp.Th).2.2 w1 _ _
  by_cases hr : a.int < 0 ∨ 255 < a.int
  · simp only [if_pos hr] at *
    exact DoPost.read H1 rfl hb2
  · simp only [if_neg hr] at *
    exact DoPost.read H1 rfl hb2
set_option maxRecDepth 100000 in
theorem hdo_row33 (H : HSt w 83 h O T) (a : Hp.V) (av : Value) (hv : VSl w av [a]) (hf : Hp.free O av) (hT : T.length ≤ 1000000) (hP : Hp.FewQ T) (hm : ∀ v ∈ ([a] : List Hp.V), Hp.may T.length v = true) (ht : ∀ v ∈ ([a] : List Hp.V), v.text.size ≤ maxLen) (ho : Hp.allOk T [a] [46] = true) :
    Calls Try.prog 69 #[.pointer (some ⟨h, 0, none⟩), .string ⟨#[37, 98, 111, 120]⟩, av] w (HQ h O T 33 [a] w) := by
  have hx := tab_at 33 ⟨⟨#[37, 98, 111, 120]⟩, [46], ⟨#[46]⟩, -1, 0⟩ rfl
  have hma := hm a (by simp)
  have ho2 := ho
  simp only [Hp.allOk, List.zip_cons_cons, List.zip_nil_right, List.zip_nil_left, List.all_cons, List.all_nil, Bool.and_true, Bool.and_eq_true] at ho2
  refine do_row_act H ⟨⟨#[37, 98, 111, 120]⟩, [46], ⟨#[46]⟩, -1, 0⟩ hx ⟨rfl, rfl⟩ (op_ne (by decide +kernel)) av [a] hv rfl (by simp) hm ht ho _ _ _ ?_
  intro w1 hb _
  have hv1 := hv.below hb (Nat.le_refl _)
  have H1 := H.below hb (Nat.le_refl _)
  exact act_box h O T a av w1 hv1 H1 hf hT
set_option maxRecDepth 100000 in
theorem hdo_row34 (H : HSt w 83 h O T) (a : Hp.V) (av : Value) (hv : VSl w av [a]) (hf : Hp.free O av) (hT : T.length ≤ 1000000) (hP : Hp.FewQ T) (hm : ∀ v ∈ ([a] : List Hp.V), Hp.may T.length v = true) (ht : ∀ v ∈ ([a] : List Hp.V), v.text.size ≤ maxLen) (ho : Hp.allOk T [a] [98] = true) :
    Calls Try.prog 69 #[.pointer (some ⟨h, 0, none⟩), .string ⟨#[37, 117, 110, 98, 111, 120]⟩, av] w (HQ h O T 34 [a] w) := by
  have hx := tab_at 34 ⟨⟨#[37, 117, 110, 98, 111, 120]⟩, [98], ⟨#[98]⟩, -1, 0⟩ rfl
  have hma := hm a (by simp)
  have ho2 := ho
  simp only [Hp.allOk, List.zip_cons_cons, List.zip_nil_right, List.zip_nil_left, List.all_cons, List.all_nil, Bool.and_true, Bool.and_eq_true] at ho2
  refine do_row_act H ⟨⟨#[37, 117, 110, 98, 111, 120]⟩, [98], ⟨#[98]⟩, -1, 0⟩ hx ⟨rfl, rfl⟩ (op_ne (by decide +kernel)) av [a] hv rfl (by simp) hm ht ho _ _ _ ?_
  intro w1 hb _
  have hv1 := hv.below hb (Nat.le_refl _)
  have H1 := H.below hb (Nat.le_refl _)
  refine act_get0 h O (Hp.getF T a 0).2.2 (Hp.getF T a 0).1 (Hp.getF T a 0).2.1 ⟨#[37, 117, 110, 98, 111, 120]⟩ (by simp) a av w1 hv1 H1.lt hf ?_
  intro w2 hb2 _
  exact hget_any (H1.below hb2 (Nat.le_refl _)) a hma (Hp.ok_thing' (by simp) ho2) (hP.of a) _ 0 _
set_option maxRecDepth 100000 in
theorem hdo_row35 (H : HSt w 83 h O T) (a b : Hp.V) (av : Value) (hv : VSl w av [a, b]) (hf : Hp.free O av) (hT : T.length ≤ 1000000) (hP : Hp.FewQ T) (hm : ∀ v ∈ ([a, b] : List Hp.V), Hp.may T.length v = true) (ht : ∀ v ∈ ([a, b] : List Hp.V), v.text.size ≤ maxLen) (ho : Hp.allOk T [a, b] [98, 46] = true) :
    Calls Try.prog 69 #[.pointer (some ⟨h, 0, none⟩), .string ⟨#[37, 115, 101, 116, 45, 98, 111, 120, 33]⟩, av] w (HQ h O T 35 [a, b] w) := by
  have hx := tab_at 35 ⟨⟨#[37, 115, 101, 116, 45, 98, 111, 120, 33]⟩, [98, 46], ⟨#[98, 46]⟩, -1, 0⟩ rfl
  have hma := hm a (by simp)
  have hmb := hm b (by simp)
  have ho2 := ho
  simp only [Hp.allOk, List.zip_cons_cons, List.zip_nil_right, List.zip_nil_left, List.all_cons, List.all_nil, Bool.and_true, Bool.and_eq_true] at ho2
  refine do_row_act H ⟨⟨#[37, 115, 101, 116, 45, 98, 111, 120, 33]⟩, [98, 46], ⟨#[98, 46]⟩, -1, 0⟩ hx ⟨rfl, rfl⟩ (op_ne (by decide +kernel)) av [a, b] hv rfl (by simp) hm ht ho _ _ _ ?_
  intro w1 hb _
  have hv1 := hv.below hb (Nat.le_refl _)
  have H1 := H.below hb (Nat.le_refl _)
  refine act_put0 h O (Hp.putF T a 0 b).2.2 (Hp.putF T a 0 b).1 (Hp.putF T a 0 b).2.1 ⟨#[37, 115, 101, 116, 45, 98, 111, 120, 33]⟩ (by simp) a b av w1 hv1 H1.lt hf ?_
  intro w2 hb2 _
  exact hput_any (H1.below hb2 (Nat.le_refl _)) a b hma (Hp.ok_thing' (by simp) ho2.1) (hP.of a) _ 0 _
set_option maxRecDepth 100000 in
theorem hdo_row36 (H : HSt w 83 h O T) (av : Value) (hv : VSl w av []) (hf : Hp.free O av) (hT : T.length ≤ 1000000) (hP : Hp.FewQ T) (hm : ∀ v ∈ ([] : List Hp.V), Hp.may T.length v = true) (ht : ∀ v ∈ ([] : List Hp.V), v.text.size ≤ maxLen) (ho : Hp.allOk T [] [] = true) :
    Calls Try.prog 69 #[.pointer (some ⟨h, 0, none⟩), .string ⟨#[118, 111, 105, 100]⟩, av] w (HQ h O T 36 [] w) := by
  have hx := tab_at 36 ⟨⟨#[118, 111, 105, 100]⟩, [], ⟨#[]⟩, -1, 0⟩ rfl
  have ho2 := ho
  refine do_row_act H ⟨⟨#[118, 111, 105, 100]⟩, [], ⟨#[]⟩, -1, 0⟩ hx ⟨rfl, rfl⟩ (op_ne (by decide +kernel)) av [] hv rfl (by simp) hm ht ho _ _ _ ?_
  intro w1 hb _
  have hv1 := hv.below hb (Nat.le_refl _)
  have H1 := H.below hb (Nat.le_refl _)
  refine (act_void _ av w1).mono ?_
  rintro e w' ⟨rfl, hb2⟩
  exact DoPost.read H1 rfl hb2
set_option maxRecDepth 100000 in
theorem hdo_row37 (H : HSt w 83 h O T) (av : Value) (hv : VSl w av []) (hf : Hp.free O av) (hT : T.length ≤ 1000000) (hP : Hp.FewQ T) (hm : ∀ v ∈ ([] : List Hp.V), Hp.may T.length v = true) (ht : ∀ v ∈ ([] : List Hp.V), v.text.size ≤ maxLen) (ho : Hp.allOk T [] [] = true) :
    Calls Try.prog 69 #[.pointer (some ⟨h, 0, none⟩), .string ⟨#[37, 117, 110, 115, 101, 116]⟩, av] w (HQ h O T 37 [] w) := by
  have hx := tab_at 37 ⟨⟨#[37, 117, 110, 115, 101, 116]⟩, [], ⟨#[]⟩, -1, 0⟩ rfl
  have ho2 := ho
  refine do_row_act H ⟨⟨#[37, 117, 110, 115, 101, 116]⟩, [], ⟨#[]⟩, -1, 0⟩ hx ⟨rfl, rfl⟩ (op_ne (by decide +kernel)) av [] hv rfl (by simp) hm ht ho _ _ _ ?_
  intro w1 hb _
  have hv1 := hv.below hb (Nat.le_refl _)
  have H1 := H.below hb (Nat.le_refl _)
  refine (act_unset _ av w1).mono ?_
  rintro e w' ⟨rfl, hb2⟩
  exact DoPost.read H1 rfl hb2
end
theorem hdo_rows {w : World} {h : Nat} {O : Nat → Prop} {T : List Hp.Th} (H : HSt w 83 h O T) (i : Nat) (x : Hp.Row) (hx : Hp.tab[i]? = some x) (l : List Hp.V) (av : Value) (hlen : x.letters.length = l.length) (hv : VSl w av l) (hf : Hp.free O av) (hT : T.length ≤ 1000000) (hP : Hp.FewQ T) (hm : ∀ v ∈ l, Hp.may T.length v = true) (ht : ∀ v ∈ l, v.text.size ≤ maxLen) (ho : Hp.allOk T l x.letters = true) :
    Calls Try.prog 69 #[.pointer (some ⟨h, 0, none⟩), .string x.name, av] w (HQ h O T i l w) := by
  match i, hx with
  | 0, hx =>
    cases hx
    rcases l with _ | ⟨a, _ | ⟨b, _ | ⟨_, _⟩⟩⟩
    · simp at hlen
    · simp at hlen
    · exact hdo_row0 H a b av hv hf hT hP hm ht ho
    · simp at hlen
  | 1, hx =>
    cases hx
    rcases l with _ | ⟨a, _ | ⟨b, _ | ⟨_, _⟩⟩⟩
    · simp at hlen
    · simp at hlen
    · exact hdo_row1 H a b av hv hf hT hP hm ht ho
    · simp at hlen
  | 2, hx =>
    cases hx
    rcases l with _ | ⟨a, _ | ⟨b, _ | ⟨_, _⟩⟩⟩
    · simp at hlen
    · simp at hlen
    · exact hdo_row2 H a b av hv hf hT hP hm ht ho
    · simp at hlen
  | 3, hx =>
    cases hx
    rcases l with _ | ⟨a, _ | ⟨b, _ | ⟨_, _⟩⟩⟩
    · simp at hlen
    · simp at hlen
    · exact hdo_row3 H a b av hv hf hT hP hm ht ho
    · simp at hlen
  | 4, hx =>
    cases hx
    rcases l with _ | ⟨a, _ | ⟨b, _ | ⟨_, _⟩⟩⟩
    · simp at hlen
    · simp at hlen
    · exact hdo_row4 H a b av hv hf hT hP hm ht ho
    · simp at hlen
  | 5, hx =>
    cases hx
    rcases l with _ | ⟨a, _ | ⟨b, _ | ⟨_, _⟩⟩⟩
    · simp at hlen
    · simp at hlen
    · exact hdo_row5 H a b av hv hf hT hP hm ht ho
    · simp at hlen
  | 6, hx =>
    cases hx
    rcases l with _ | ⟨a, _ | ⟨b, _ | ⟨_, _⟩⟩⟩
    · simp at hlen
    · simp at hlen
    · exact hdo_row6 H a b av hv hf hT hP hm ht ho
    · simp at hlen
  | 7, hx =>
    cases hx
    rcases l with _ | ⟨a, _ | ⟨b, _ | ⟨_, _⟩⟩⟩
    · simp at hlen
    · simp at hlen
    · exact hdo_row7 H a b av hv hf hT hP hm ht ho
    · simp at hlen
  | 8, hx =>
    cases hx
    rcases l with _ | ⟨a, _ | ⟨_, _⟩⟩
    · simp at hlen
    · exact hdo_row8 H a av hv hf hT hP hm ht ho
    · simp at hlen
  | 9, hx =>
    cases hx
    rcases l with _ | ⟨a, _ | ⟨_, _⟩⟩
    · simp at hlen
    · exact hdo_row9 H a av hv hf hT hP hm ht ho
    · simp at hlen
  | 10, hx =>
    cases hx
    rcases l with _ | ⟨a, _ | ⟨_, _⟩⟩
    · simp at hlen
    · exact hdo_row10 H a av hv hf hT hP hm ht ho
    · simp at hlen
  | 11, hx =>
    cases hx
    rcases l with _ | ⟨a, _ | ⟨_, _⟩⟩
    · simp at hlen
    · exact hdo_row11 H a av hv hf hT hP hm ht ho
    · simp at hlen
  | 12, hx =>
    cases hx
    rcases l with _ | ⟨a, _ | ⟨_, _⟩⟩
    · simp at hlen
    · exact hdo_row12 H a av hv hf hT hP hm ht ho
    · simp at hlen
  | 13, hx =>
    cases hx
    rcases l with _ | ⟨a, _ | ⟨_, _⟩⟩
    · simp at hlen
    · exact hdo_row13 H a av hv hf hT hP hm ht ho
    · simp at hlen
  | 14, hx =>
    cases hx
    rcases l with _ | ⟨a, _ | ⟨_, _⟩⟩
    · simp at hlen
    · exact hdo_row14 H a av hv hf hT hP hm ht ho
    · simp at hlen
  | 15, hx =>
    cases hx
    rcases l with _ | ⟨a, _ | ⟨_, _⟩⟩
    · simp at hlen
    · exact hdo_row15 H a av hv hf hT hP hm ht ho
    · simp at hlen
  | 16, hx =>
    cases hx
    rcases l with _ | ⟨a, _ | ⟨_, _⟩⟩
    · simp at hlen
    · exact hdo_row16 H a av hv hf hT hP hm ht ho
    · simp at hlen
  | 17, hx =>
    cases hx
    rcases l with _ | ⟨a, _ | ⟨_, _⟩⟩
    · simp at hlen
    · exact hdo_row17 H a av hv hf hT hP hm ht ho
    · simp at hlen
  | 18, hx =>
    cases hx
    rcases l with _ | ⟨a, _ | ⟨b, _ | ⟨_, _⟩⟩⟩
    · simp at hlen
    · simp at hlen
    · exact hdo_row18 H a b av hv hf hT hP hm ht ho
    · simp at hlen
  | 19, hx =>
    cases hx
    rcases l with _ | ⟨a, _ | ⟨_, _⟩⟩
    · simp at hlen
    · exact hdo_row19 H a av hv hf hT hP hm ht ho
    · simp at hlen
  | 20, hx =>
    cases hx
    rcases l with _ | ⟨a, _ | ⟨_, _⟩⟩
    · simp at hlen
    · exact hdo_row20 H a av hv hf hT hP hm ht ho
    · simp at hlen
  | 21, hx =>
    cases hx
    rcases l with _ | ⟨a, _ | ⟨b, _ | ⟨_, _⟩⟩⟩
    · simp at hlen
    · simp at hlen
    · exact hdo_row21 H a b av hv hf hT hP hm ht ho
    · simp at hlen
  | 22, hx =>
    cases hx
    rcases l with _ | ⟨a, _ | ⟨b, _ | ⟨_, _⟩⟩⟩
    · simp at hlen
    · simp at hlen
    · exact hdo_row22 H a b av hv hf hT hP hm ht ho
    · simp at hlen
  | 23, hx =>
    cases hx
    rcases l with _ | ⟨a, _ | ⟨b, _ | ⟨_, _⟩⟩⟩
    · simp at hlen
    · simp at hlen
    · exact hdo_row23 H a b av hv hf hT hP hm ht ho
    · simp at hlen
  | 24, hx =>
    cases hx
    rcases l with _ | ⟨a, _ | ⟨b, _ | ⟨_, _⟩⟩⟩
    · simp at hlen
    · simp at hlen
    · exact hdo_row24 H a b av hv hf hT hP hm ht ho
    · simp at hlen
  | 25, hx =>
    cases hx
    rcases l with _ | ⟨a, _ | ⟨_, _⟩⟩
    · simp at hlen
    · exact hdo_row25 H a av hv hf hT hP hm ht ho
    · simp at hlen
  | 26, hx =>
    cases hx
    rcases l with _ | ⟨a, _ | ⟨_, _⟩⟩
    · simp at hlen
    · exact hdo_row26 H a av hv hf hT hP hm ht ho
    · simp at hlen
  | 27, hx =>
    cases hx
    rcases l with _ | ⟨a, _ | ⟨b, _ | ⟨_, _⟩⟩⟩
    · simp at hlen
    · simp at hlen
    · exact hdo_row27 H a b av hv hf hT hP hm ht ho
    · simp at hlen
  | 28, hx =>
    cases hx
    rcases l with _ | ⟨a, _ | ⟨b, _ | ⟨_, _⟩⟩⟩
    · simp at hlen
    · simp at hlen
    · exact hdo_row28 H a b av hv hf hT hP hm ht ho
    · simp at hlen
  | 29, hx =>
    cases hx
    rcases l with _ | ⟨a, _ | ⟨b, _ | ⟨c, _ | ⟨_, _⟩⟩⟩⟩
    · simp at hlen
    · simp at hlen
    · simp at hlen
    · exact hdo_row29 H a b c av hv hf hT hP hm ht ho
    · simp at hlen
  | 30, hx =>
    cases hx
    rcases l with _ | ⟨a, _ | ⟨b, _ | ⟨c, _ | ⟨_, _⟩⟩⟩⟩
    · simp at hlen
    · simp at hlen
    · simp at hlen
    · exact hdo_row30 H a b c av hv hf hT hP hm ht ho
    · simp at hlen
  | 31, hx =>
    cases hx
    rcases l with _ | ⟨a, _ | ⟨_, _⟩⟩
    · simp at hlen
    · exact hdo_row31 H a av hv hf hT hP hm ht ho
    · simp at hlen
  | 32, hx =>
    cases hx
    rcases l with _ | ⟨a, _ | ⟨_, _⟩⟩
    · simp at hlen
    · exact hdo_row32 H a av hv hf hT hP hm ht ho
    · simp at hlen
  | 33, hx =>
    cases hx
    rcases l with _ | ⟨a, _ | ⟨_, _⟩⟩
    · simp at hlen
    · exact hdo_row33 H a av hv hf hT hP hm ht ho
    · simp at hlen
  | 34, hx =>
    cases hx
    rcases l with _ | ⟨a, _ | ⟨_, _⟩⟩
    · simp at hlen
    · exact hdo_row34 H a av hv hf hT hP hm ht ho
    · simp at hlen
  | 35, hx =>
    cases hx
    rcases l with _ | ⟨a, _ | ⟨b, _ | ⟨_, _⟩⟩⟩
    · simp at hlen
    · simp at hlen
    · exact hdo_row35 H a b av hv hf hT hP hm ht ho
    · simp at hlen
  | 36, hx =>
    cases hx
    rcases l with _ | ⟨_, _⟩
    · exact hdo_row36 H av hv hf hT hP hm ht ho
    · simp at hlen
  | 37, hx =>
    cases hx
    rcases l with _ | ⟨_, _⟩
    · exact hdo_row37 H av hv hf hT hP hm ht ho
    · simp at hlen
  | i + 38, hx => simp [Hp.tab] at hx
theorem Hp.rat_find {p : ByteArray} {x : Hp.Row} : ∀ {i : Nat} (hi : i < Hp.tab.length) (hx : Hp.tab[i]? = some x) (hn : x.name = p), 0 ≤ Hp.rat p 38 := by
  intro i hi hx hn
  have key : ∀ k, i < k → 0 ≤ Hp.rat p k := by
    intro k
    induction k with
    | zero => intro h; omega
    | succ k ih =>
      intro h
      unfold Hp.rat
      split
      · rename_i y hy
        split
        · omega
        · rename_i hne
          by_cases e : i = k
          · subst e
            rw [hx] at hy
            cases hy
            exact absurd hn hne
          · exact ih (by omega)
      · by_cases e : i = k
        · subst e
          rename_i hy
          rw [hx] at hy
          cases hy
        · exact ih (by omega)
  exact key 38 hi
theorem hdo_any {w : World} {h : Nat} {O : Nat → Prop} {T : List Hp.Th} (H : HSt w 83 h O T) (p : ByteArray) (l : List Hp.V) (av : Value) (hv : VSl w av l) (hf : Hp.free O av) (hl : l.length ≤ 1000) (hT : T.length ≤ 1000000) (hP : Hp.FewQ T) (ht : ∀ v ∈ l, v.text.size ≤ maxLen) :
    Calls Try.prog 69 #[.pointer (some ⟨h, 0, none⟩), .string p, av] w (DoPost 83 h O (Hp.doF T p l).1 (Hp.doF T p l).2.1 (Hp.doF T p l).2.2 w) := by
  have hA := all_st H hv (by omega) ht
  obtain ⟨a, c, rfl⟩ := hv.len
  by_cases hneg : Hp.rat p 38 < 0
  · rw [Hp.doF_none hneg]
    have hno : ∀ x ∈ Hp.tab, x.name ≠ p := by
      intro x hx e
      obtain ⟨i, hi, he⟩ := List.getElem_of_mem hx
      have := Hp.rat_find hi (by rw [List.getElem?_eq_getElem hi, he]) e
      omega
    refine (do_bad h p ⟨#[]⟩ false _ _ _ c a rfl w (wants_none p hno) hA (.inl rfl)).mono ?_
    rintro e w' ⟨rfl, hb⟩
    exact DoPost.read H rfl hb
  · obtain ⟨x, hx, hxn⟩ := Hp.rat_some p 38 (by omega)
    obtain ⟨i, hi⟩ : ∃ i : Nat, Hp.rat p 38 = i := ⟨(Hp.rat p 38).toNat, by omega⟩
    rw [hi, Int.toNat_natCast] at hx
    have hxm : x ∈ Hp.tab := List.mem_of_getElem? hx
    subst hxn
    by_cases hlen : x.letters.length = l.length
    · cases hm : l.all (Hp.may T.length) with
      | false =>
        rw [Hp.doF_may hi hx hlen hm]
        exact use_bad H x hxm _ l hv (by omega) ht hm
      | true =>
        have hm' : ∀ v ∈ l, Hp.may T.length v = true := List.all_eq_true.1 hm
        cases ho : Hp.allOk T l x.letters with
        | false =>
          rw [Hp.doF_type hi hx hlen hm ho]
          rw [hm] at hA
          refine (do_type h x.name x.bytes _ l w hv (by rw [row_size hxm]; exact hlen.symm) (by omega) (atG T l x.letters) (wants_at x hxm) hA (isAt_row H x hxm l hm' ht) ?_).mono ?_
          · obtain ⟨q, hq, hqf⟩ := List.all_eq_false.1 ho
            obtain ⟨k, hk, hkq⟩ := List.getElem_of_mem hq
            refine ⟨k, by rw [List.length_zip] at hk; omega, ?_⟩
            unfold atG
            rw [List.getElem?_eq_getElem hk, hkq]
            simpa using hqf
          · rintro e w' ⟨rfl, hb⟩
            exact DoPost.read H rfl hb
        | true =>
          rw [Hp.doF_act hi hx hlen hm ho]
          exact hdo_rows H i x hx l _ hlen hv hf hT hP hm' ht ho
    · rw [Hp.doF_len hi hx hlen]
      refine (do_bad h x.name x.bytes true _ _ _ c a rfl w (wants_at x hxm) hA (.inr (.inl ?_))).mono ?_
      · rw [row_size hxm]
        exact fun e => hlen e.symm
      · rintro e w' ⟨rfl, hb⟩
        exact DoPost.read H rfl hb
end Go.Proofs.Ytalfnaielhbocaa
