/- slices.Repeat's walk. -/
import Derived.Test.YthbnhneibpoooaaQMF
set_option linter.unusedVariables false
set_option linter.unusedSimpArgs false
set_option linter.unnecessarySimpa false
namespace Go.Proofs.Ythbnhneibpoooaa
open Go.RowKit
set_option linter.unusedVariables false
set_option linter.unusedSimpArgs false
def RepPost (n : Nat) (v : Hp.V) (w : World) (e : Ending) (w' : World) : Prop :=
  ∃ a c, e = .returned (.slice a n c) ∧ w'.ownsRow w.heap.size 27 3 (.slice a n c) n (Hp.flatV (List.replicate n v)) ∧ Below w.heap.size w w'
theorem rep_own {w w' : World} {n g : Nat} {v : Hp.V} (hg : w'.heap[g]? = some (.cells (part3 n n v).toArray 27 (0, 0))) (hB : w.heap.size ≤ g) (hn : n ≤ 1000) : w'.ownsRow w.heap.size 27 3 (.slice (some ⟨g, 0, none⟩) n n) n (Hp.flatV (List.replicate n v)) := by
  refine ⟨flatV_replicate_length n v, .inr ⟨g, n, _, rfl, hB, hg, Nat.le_refl _, by simp only [maxLen]; omega, ?_, ?_⟩⟩
  · rw [List.size_toArray, part3_length n n v (Nat.le_refl _)]
  · show (part3 n n v).take (n * 3) = _
    rw [List.take_of_length_le (by rw [part3_length n n v (Nat.le_refl _)]; exact Nat.le_refl _)]
    unfold part3
    simp
theorem part3_cells {w : World} {n k g : Nat} {v : Hp.V} (hg : w.heap[g]? = some (.cells (part3 n k v).toArray 27 (0, 0))) (hk : k ≤ n) (c : Nat) (hc : c ≤ k) : ∀ j u, (Hp.flatV (List.replicate c v))[j]? = some u → w.cell? ((⟨g, 0, none⟩ : Addr).add j) = some u := by
  intro j u hu
  have e := Addr.add_mid g 0 j
  rw [e, Nat.zero_add, cell_of_row w g _ _ _ _ hg]
  have hj : j < c * 3 := by have := (List.getElem?_eq_some_iff.1 hu).1; rw [flatV_replicate_length] at this; exact this
  have ht : (part3 n k v).take (c * 3) = Hp.flatV (List.replicate c v) := by
    unfold part3
    rw [flatV_take, List.take_append_of_le_length (by simpa using hc), List.take_replicate, Nat.min_eq_left hc]
  rw [← ht, List.getElem?_take] at hu
  rw [if_pos hj] at hu
  simpa using hu
theorem src1 {w : World} {b k1 : Nat} {v : Hp.V} (hb : w.heap[b]? = some (.cells #[.int .i64 v.kind, .int .i64 v.int, .string v.text] 27 (0, 0))) (hk : k1 ≤ 1) (o : Obj) : ∀ j u, (Hp.flatV (List.replicate k1 v))[j]? = some u → (w.alloc o).cell? ((⟨b, 0, none⟩ : Addr).add j) = some u := by
  intro j u hu
  have hbl : b < w.heap.size := (Array.getElem?_eq_some_iff.1 hb).1
  rw [Addr.add_mid, Nat.zero_add, World.cell?_alloc_past _ _ _ hbl, cell_of_row w b _ _ _ _ hb]
  rcases (by omega : k1 = 0 ∨ k1 = 1) with rfl | rfl
  · simp [Hp.flatV] at hu
  · have e : Hp.flatV (List.replicate 1 v) = [.int .i64 v.kind, .int .i64 v.int, .string v.text] := rfl
    rw [e] at hu
    simpa using hu
set_option maxHeartbeats 8000000 in
set_option maxRecDepth 100000 in
theorem repeat_any (v : Hp.V) (n : Nat) (hn : n ≤ 1000) (b : Nat) (w : World) (hb : w.heap[b]? = some (.cells #[.int .i64 v.kind, .int .i64 v.int, .string v.text] 27 (0, 0))) :
    Calls Try.prog 75 #[.slice (some ⟨b, 0, none⟩) 1 1, .int .i64 n] w (RepPost n v w) := by
  have hbl : b < w.heap.size := (Array.getElem?_eq_some_iff.1 hb).1
  have HBL := Lib.hid hb
  have n0 : decide ((n : Int) < 0) = false := decide_eq_false (by omega)
  have z1 : IntKind.u64.wrap (n : Int) = n := by rw [IntKind.wrap_u64]; omega
  have z2 : IntKind.i64.wrap (n : Int) = n := by rw [IntKind.wrap_i64]; omega
  have m1 : (1 * n / 18446744073709551616 : Nat) = 0 := by omega
  have m2 : (1 * n % 18446744073709551616 : Nat) = n := by omega
  have HMul : Hid (∀ w, Calls Try.prog 89 #[.int .u64 1, .int .u64 n] w fun e w' => e = .returned (.tuple #[.int .u64 0, .int .u64 n]) ∧ w = w') := fun w => by
    refine (mul_any 1 n (by omega) (by omega) w).mono ?_
    rintro e w' ⟨h1, h2⟩
    rw [m1, m2] at h1
    exact ⟨h1, h2.symm⟩
  have HSZ := Lib.hid valSizeR
  have hmk := make_vals n (by omega)
  have hgt : decide ((9223372036854775807 : Int) < n) = false := decide_eq_false (by omega)
  have hgt2 : decide ((9223372036854775807 : Nat) < n) = false := decide_eq_false (by omega)
  clear hb m1 m2
  go_enter Try.func75, Try.ntmps75
  obtain ⟨k1, hk1⟩ : ∃ k1, k1 = Nat.min 1 n := ⟨_, rfl⟩
  have hk1n : k1 ≤ n := by rw [hk1]; exact Nat.min_le_right _ _
  have hk11 : k1 ≤ 1 := by rw [hk1]; exact Nat.min_le_left _ _
  have hk10 : 0 < n → 0 < k1 := fun h => by rw [hk1]; show 0 < min 1 n; omega
  have HK1 := Lib.hid hk1
  have HK10 := Lib.hid hk10
  clear hk1 hk10
  go_wp2_with (first
    | (go_at_call 89; (with_reducible refine (HMul.out _).mono ?_); rintro e w' ⟨rfl, rfl⟩)
    | (refine wpList_copy_size rfl (.tmp 31) (.tmp 32) 32 32 rfl 27 Try.underlying32 3 k1 HSZ.out w.heap.size 0 n n ⟨b, 0, none⟩ 1 1 rfl rfl (part3 n 0 v) 27 ?g1 (Hp.flatV (List.replicate k1 v)) HK1.out ?g2 ?g3 ?g4 ?g5 w.heap.size w ?g6 (Nat.le_refl _) ?_; (case g1 => exact heap_alloc_new w _); (case g2 => exact flatV_replicate_length k1 v); (case g3 => exact src1 (HBL.out) hk11 _); (case g4 => (rw [flatV_replicate_length, part3_length n 0 v (Nat.zero_le _)]; omega)); (case g5 => exact Hp.flatV_one _); (case g6 => exact (Below.refl _ _).alloc (Nat.le_refl _) _); intro w3 hg3 hb3; unfold goInt))
  have hg4 : w3.heap[w.heap.size]? = some (.cells (part3 n k1 v).toArray 27 (0, 0)) := by
    have h := hg3.out
    have e := part3_step n 0 k1 v (by omega)
    rw [Nat.zero_mul, Nat.zero_add] at e
    rw [e] at h
    exact h
  have HG := Lib.hid hg4
  have HB := Lib.hid hb3
  clear hg3 hb3 hg4 hmk
  clear n0 z1 z2 hgt hgt2
  go_loopg [8] n (fun gk s8 wx => ∃ k : Nat, k ≤ n ∧ n - k ≤ gk ∧ Hid (0 < n → 0 < k) ∧ s8 = .int .i64 k ∧ Hid (wx.heap[w.heap.size]? = some (.cells (part3 n k v).toArray 27 (0, 0))) ∧ Hid (Below w.heap.size w wx))
  case atStart => exact ⟨k1, hk1n, by omega, HK10.out, rfl, HG.out, HB.out⟩
  case round =>
    obtain ⟨k, hk, hgk, HP, rfl, HGr, HBr⟩ := hrel
    by_cases hlt : k < n
    · have hk0 : 0 < k := HP.out (by omega)
      have hg1 : (0 : Int) ≤ k := by omega
      have hg2 : (k : Int) ≤ n := by omega
      have hg3 : (k : Int) < n := by omega
      have hkn : ¬ k = n := by omega
      have hnk : ¬ n = k := by omega
      obtain ⟨c, hc⟩ : ∃ c, c = Nat.min k (n - k) := ⟨_, rfl⟩
      have hcb : 0 < c ∧ c ≤ k ∧ k + c ≤ n := by have : c = min k (n - k) := hc; omega
      have hgw : IntKind.i64.wrap ((k : Int) + c) = ((k + c : Nat) : Int) := by rw [IntKind.wrap_i64]; omega
      have HC := Lib.hid hc
      clear hc
      go_wp2_with fail
      go_region_law (refine step_copy_size rfl (.tmp 41) (.tmp 44) 32 32 rfl 27 Try.underlying32 3 c HSZ.out w.heap.size (k * 3) (n - k) (n - k) ⟨w.heap.size, 0, none⟩ k n ?g0 ?g00 (part3 n k v) 27 HGr.out (Hp.flatV (List.replicate c v)) HC.out ?g2 ?g3 ?g4 ?g5 w.heap.size w ?g6 (Nat.le_refl _) ?_; (case g0 => (simp only [Act.eval]; rfl)); (case g00 => (simp only [Act.eval]; rfl)); (case g2 => exact flatV_replicate_length c v); (case g3 => exact part3_cells HGr.out hk c hcb.2.1); (case g4 => (rw [flatV_replicate_length, part3_length n k v hk]; omega)); (case g5 => exact Hp.flatV_one _); (case g6 => exact HBr.out.drew); intro w4 hg4 hb4; unfold goInt)
      have hg5 := hg4.out
      rw [part3_step n k c v hcb.2.2] at hg5
      have HG5 := Lib.hid hg5
      have HB5 := Lib.hid hb4
      clear hg4 hb4 hg5
      go_wp2_with fail
      go_roundg (n - (k + c))
      case measure => omega
      case rel => exact ⟨k + c, hcb.2.2, by omega, fun _ => by omega, rfl, HG5.out, HB5.out⟩
    · obtain rfl : k = n := by omega
      go_wp2_with fail
      go_ret
      exact ⟨_, _, rfl, rep_own HGr.out (Nat.le_refl _) hn, HBr.out⟩
end Go.Proofs.Ythbnhneibpoooaa
